/- Texts of my own, one behind the other: RxZ1, RxBk, RxJd1, RxJd2, RxJd3, RxJd4, RxJd5, RxZ4, RxZ5, RxZ2, RxZ3, RxZ6, RxJp1, RxJp2, RxJp3, RxJp4, RxJd6, RxZ8, RxA, RxY1, RxY3, RxWPp, RxWP, RxHx, RxRp1, RxRp2, RxRp3, RxRp4, RxRp5, RxRp6, RxRp7, RxOKT, RxWhole, RxTreeP1, RxTreeP2, RxTreeP3, RxTreeP4, RxRegP, RxBookP, RxS6, RxOK, RxOKA, RxLRelaxKeeps, RxY2, RxLRelaxOnce, RxQRelaxOnce, RxQRelaxKeeps, RxOKRelaxKeeps, RxGl. -/
import Derived.Test.YticoeljejdcofaaGreatDoorT5
import Derived.Lib.ParseIntBTie
import Derived.WalkKit
import Derived.WalkSpells
import Derived.Lib.SmallJoins
import Derived.IntWalk
set_option linter.unusedVariables false
set_option linter.unusedSimpArgs false
set_option maxRecDepth 20000
namespace Go.Eng
open Go.IntWalk
theorem Q5 (a:Bool):(a || !a)=true:=by cases a <;> rfl
theorem U1 (a:Bool):(!a || (a&&a))=true:=by cases a <;> rfl
theorem Og (a b:Bool):cond a true b=(a || b):=by cases a <;> rfl
theorem fQ.goal (a b:List UInt8):fQ.F a b=some [.b (decide (a=b))]:=fQ.dW a b
theorem fP.goal (a:List UInt8) (hp:fi a.length 1=true):fP.F a=some [.sl .bs a]:=by
 rw [fP.dW]
 exact pZ (by simpa using hp) fun h=>by rw [List.isEmpty_iff.1 h];rfl
theorem fO.goal (b:UInt64):fO.F b=some [.i .i64 (Rl.order b)]:=by
 refine fO.bY _ ?_
 intro v1 h1 v2 h2 v3 h3
 have hb:=b.toNat_lt
 have hm:Sh.kx b<9223372036854775808:=Nat.mod_lt _ (by decide)
 have e2:v2=(Sh.kx b:Int):=by rw [h2,h1,vb,i64_in _ (by omega)]
 have e3:v3.toNat=b.toNat / 9223372036854775808:=by rw [h3,ir];rfl
 unfold Rl.order
 rw [(Sh.oX b).2]
 by_cases c:9223372036854775808≤b.toNat
 ·have:v3=1:=bm.1 (by rw [e3];show _=1;omega)
  rw [aa this,ah,au (aa c),e2,i64_in _ (by omega),Int.zero_sub]
 ·have:v3≠1:=fun e=>by rw [e] at e3;have:(1:UInt64).toNat=1:=rfl;omega
  rw [ab this,ae,ao (by simp only [aA];exact c),e2]
theorem iP.goal (a b:UInt64):iP.F a b=some [.i .i64 (Rl.Aj a b).1,.b (Rl.Aj a b).2]:=by
 refine iP.bY _ _ ?_
 intro v1 h1
 rw [bx (jR _),bx (Q5 _),h1]
 unfold Rl.Aj
 by_cases c:(Nr.split a).1=4
 ·rw [aa c,ah,ah,au (.inl c)]
 by_cases d:(Nr.split b).1=4
 ·rw [ab c,aa d,ae,ah,au (.inr d)]
 rw [ab c,ab d,ae,ae,ao (by simp [c,d])]
 by_cases x:Rl.order a<Rl.order b
 ·rw [aa x,ah,au x]
 by_cases y:Rl.order b<Rl.order a
 ·rw [ab x,aa y,ae,ah,ao x,au y]
 ·rw [ab x,ab y,ae,ae,ao x,ao y]
theorem iN.goal (t:bz):iN.F t=some [.ag (bP.cells (bP.mk 4 t []))]:=iN.dW t
theorem iM.goal (s:bz) (j:bP):iM.F s j=some [.ag (bP.cells (Cn.one s j))]:=by
 refine iM.bY _ _ ?_
 intro v1 h1
 rw [h1];rfl
theorem fI.goal (a b:Val):fI.F a b=some [.b (Tree.nD a b)]:=by
 refine fI.bY _ _ ?_
 intro v1 h1 v2 h2 v3 h3 v4 h4 v5 h5 v6 h6 v7 h7
 simp only [jR,U1,bU]
 rw [h7,h6,h5,h4,h3,h2,h1]
 simp only [va]
 rfl
theorem gM.goal (a b:Val) (hp:(decide (bA.bJ (bA.of [] a)≤100000000))=true):gM.F a b=some [.sl .od ((Rl.diff a b).getD []),.b (Rl.diff a b).isSome]:=by
 have hp:=aq hp
 refine gM.bY _ _ ?_
 intro v1 h1 v2 h2
 rw [bx (aa (by simp only [aB];omega)),h1,h2]
 unfold Rl.pV Rl.diff
 cases Rl.mG (bA.of [] a) (bA.of [] b) [] with
 | none=>rfl
 | some l=>rfl
theorem gK.goal (v:Val) (hp:(decide (bA.bJ (bA.of [] v)≤10000000))=true):gK.F v=some [.sl .od ((Rl.diff v (Rl.ie v)).getD [])]:=by
 have hp:=aq hp
 refine gK.bY _ ?_
 intro v1 h1 v2 h2
 rw [bx (aa (by omega)),bx (aa (by omega)),h1]
theorem dZ.goal (b:UInt64):dZ.F b=some [.s (Rl.number b).1,.b (Rl.number b).2]:=by
 refine dZ.bY _ ?_
 intro v1 h1 v2 h2 v3 h3 v4 h4
 rw [Rl.o6]
 unfold Rl.nF
 by_cases c1:(Nr.split b).1=1
 ·rw [aa c1,ah,au c1]
 by_cases c2:(Nr.split b).1=2
 ·have hm:Sh.kx b<9223372036854775808:=Nat.mod_lt _ (by decide)
  have hl:(Sh.text b).length≤1099511627776:=Nat.le_trans (Sh.qc b) (by decide)
  rw [ab c1,aa c2,aG,ae,ae,ao c1,ao (by simp [c2]),aa hl,Bool.and_true]
  simp only [jR,Q5,bU]
  have ho:v2=if (Sh.kx b:Int)<4845873199050653696 then -1 else if (4845873199050653696:Int)<Sh.kx b then 1 else 0:=by
   have e1:v1.toNat=Sh.kx b:=by rw [h1,vb]
   have m1:Sh.kx v1=Sh.kx b:=by unfold Sh.kx at e1 ⊢;rw [e1];omega
   have o1:Rl.order v1=Sh.kx b:=by
    unfold Rl.order
    rw [(Sh.oX v1).2,ao (by simp only [aA];omega),m1]
   have o2:Rl.order 4845873199050653696=4845873199050653696:=by
    unfold Rl.order
    rw [(Sh.oX _).2,ao (by decide)];rfl
   have k1:(Nr.split v1).1=2:=by rw [(Sh.oX v1).1,m1,←(Sh.oX b).1,c2]
   have k2:(Nr.split 4845873199050653696).1=2:=by rw [(Sh.oX _).1];rfl
   rw [h2]
   unfold Rl.Aj
   rw [ao (by rw [k1,k2];decide),o1,o2]
  rw [h4,Og]
  congr 5
  by_cases x:Sh.kx b<4845873199050653696
  ·rw [ho,au (by omega),aa x];rfl
  ·rw [ho,ao (by omega),ab x]
   by_cases y:(4845873199050653696:Int)<Sh.kx b
   ·rw [au y];rfl
   ·rw [ao y];rfl
 ·rw [ab c1,ab c2,aI,ah,ae,ao c1,au c2]
theorem gH.goal (y:Int) (hp:(decide (0≤y∧y≤100000))=true):gH.F y=some [.b (Rl.D4 y)]:=by
 have hp:=aq hp
 refine gH.bY _ ?_
 intro v1 h1 v2 h2 v3 h3
 have t:∀d:Int,0<d→Int.tmod y d=y % d:=fun d hd=>Int.tmod_eq_emod_of_nonneg hp.1
 simp only [t 4 (by decide),t 100 (by decide),t 400 (by decide)] at *
 rw [show (!decide ((4:Int)=0))=true by decide,show (!decide ((100:Int)=0))=true by decide,show (!decide ((400:Int)=0))=true by decide]
 rw [h3,h2,h1]
 unfold Rl.D4
 cases decide (y % 4=0) <;> cases decide (y % 100=0) <;> cases decide (y % 400=0) <;> rfl
theorem dn.goal (y m:Int) (hp:(decide (0≤y∧y≤100000))=true):dn.F y m=some [.i .i64 (Rl.month y m)]:=by
 rw [dn.dW]
 unfold Rl.month
 by_cases c4:m=4
 ·rw [aa c4,ah,dn.lg,ah,au (.inl c4)]
 by_cases c6:m=6
 ·rw [ab c4,ae,aa c6,ah,dn.lg,ah,au (.inr (.inl c6))]
 by_cases c9:m=9
 ·rw [ab c4,ae,ab c6,ae,aa c9,ah,dn.lg,ah,au (.inr (.inr (.inl c9)))]
 rw [ab c4,ae,ab c6,ae,ab c9,ae,dn.lg]
 by_cases QB:m=11
 ·rw [aa QB,ah,au (.inr (.inr (.inr QB)))]
 rw [ab QB,ae,ao (by simp [c4,c6,c9,QB]),bx hp]
 by_cases c2:m=2
 ·rw [aa c2,ah,au c2]
  cases Rl.D4 y <;> rfl
 ·rw [ab c2,ae,ao c2]
theorem fD.goal (y:Int) (hp:(decide (1≤y∧y≤100000))=true):fD.F y=some [.i .i64 (Rl.ahead y)]:=by
 have hp:=aq hp
 refine fD.bY _ ?_
 intro v1 h1 v2 h2 v3 h3 v4 h4 v5 h5 v6 h6 v7 h7
 rw [i64_in _ (by omega)] at h1
 have t:∀d:Int,Int.tdiv v1 d=v1 / d:=fun d=>Int.tdiv_eq_ediv_of_nonneg (by omega)
 rw [t,i64_in _ (by omega)] at h3 h4 h6
 rw [i64_in _ (by omega)] at h2
 rw [i64_in (v2+v3) (by omega),i64_in _ (by omega)] at h5
 rw [i64_in (v5+v6) (by omega),i64_in _ (by omega)] at h7
 rw [show (!decide ((4:Int)=0))=true by decide,show (!decide ((100:Int)=0))=true by decide,show (!decide ((400:Int)=0))=true by decide]
 simp only [bU]
 unfold Rl.ahead
 rw [show v7=(y - 1) * 365+(y - 1) / 4 - (y - 1) / 100+(y - 1) / 400 - 719162 by omega]
theorem fk.cO (x0:Int) (s:bz) (h0:0≤x0) (h:x0≤100):∀(m:Nat) (p:bz),p.length+s.length≤100→m=x0.toNat - (p.length+s.length)→fk.l1 x0 (p++s)=some [.s (List.replicate m 48++(p++s))]
 | 0,p,hl,hm=>by
  rw [fk.zD,ab (by rw [aj];omega),ae];rfl
 | m+1,p,hl,hm=>by
  rw [fk.zD,aa (by rw [aj];omega),ah,bx (aa (by simp only [aj,az,aB];omega)),←aE,
   fk.cO x0 s h0 h m ([48]++p) (by simp;omega) (by simp;omega),List.replicate_succ']
  simp
theorem fk.goal (n l:Int) (hp:(decide (0≤n∧n≤1000000∧0≤l∧l≤10))=true):fk.F n l=some [.s (Rl.pad n l)]:=by
 have hp:=aq hp
 have hn:Nr.i64 n=true:=aa (by omega)
 have hl:=l0 n hn
 rw [fk.dW,bx hn]
 exact fk.cO l (Nr.itoa n) hp.2.2.1 (by omega) _ [] (by simp;omega) (by simp)
end Go.Eng
set_option maxRecDepth 20000
namespace Go.Eng
namespace Sh
theorem Zz:Nr.read [48] 1=some 0:=by
 unfold Nr.read
 rw [au (by decide),show Nr.num [48]=0 by decide]
 unfold Nr.rd
 rw [show ((1:Int) - (([48]:bz).length:Int)).toNat=0 by decide,show (-((1:Int) - (([48]:bz).length:Int))).toNat=0 by decide]
 exact Nr.lJ (by decide) (by decide) (by unfold Nr.gZ;decide +kernel) (.inl rfl)
theorem Zq:Nr.parse [48]=(0,0)∧Nr.parse [45,48]=(9223372036854775808,0):=by
 constructor
 ·have h1:Nr.ahead [48]++Nr.behind [48]=[48]:=by decide
  have h2:((Nr.ahead [48]).length:Int)+Nr.Ab (Nr.tail [48])=1:=by decide
  rw [Nr.Zr];unfold Nr.Zo
  rw [ao (by decide),ao (by decide),h1,h2,Zz]
  simp
 ·have h1:Nr.ahead [45,48]++Nr.behind [45,48]=[48]:=by decide
  have h2:((Nr.ahead [45,48]).length:Int)+Nr.Ab (Nr.tail [45,48])=1:=by decide
  rw [Nr.Zr];unfold Nr.Zo
  rw [ao (by decide),ao (by decide),h1,h2,Zz]
  simp
theorem aag {m:Nat} (h:Kl m=1):m=0:=by
 unfold Kl at h
 split at h
 ·split at h <;> simp at h
 ·split at h
  ·split at h
   ·omega
   ·simp at h
  ·simp at h
theorem back {b:UInt64} (h:(Nr.split b).1=1∨(Nr.split b).1=2):Nr.parse (text b)=(b,0)∧Nr.jf (text b)≠0:=by
 have hb:=b.toNat_lt
 have hs:=(oX b).2
 rw [IC (by omega)]
 rcases h with h | h
 ·have hm:=aag ((oX b).1.symm.trans h)
  have hm:b.toNat % 9223372036854775808=0:=hm
  have e:tb b=[48]:=by unfold tb;rw [ao (by omega),au h]
  rw [e]
  unfold sign
  by_cases c:9223372036854775808≤b.toNat
  ·rw [hs,aa c,au rfl]
   have:b=9223372036854775808:=bm.1 (by show _=9223372036854775808;omega)
   rw [this]
   exact ⟨Zq.2,by decide⟩
  ·rw [hs,ab c,ao (by decide)]
   have:b=0:=bm.1 (by show _=0;omega)
   rw [this]
   exact ⟨Zq.1,by decide⟩
 ·obtain ⟨⟨_,r2,r3,r4⟩,hL,hr⟩:=Ho h
  obtain ⟨p1,p2,_⟩:=Z2 hL r2 ⟨r3,r4⟩ hr (Nr.split b).2.1
  have e:tb b=laid (dg b).1 (dg b).2.1:=by unfold tb;rw [ao (by omega),ao (by omega)]
  rw [e]
  unfold sign
  refine ⟨p1.trans ?_,p2⟩
  rw [hs]
  refine Prod.ext (bm.1 ?_) rfl
  show (UInt64.ofNat _).toNat=b.toNat
  rw [fA]
  unfold kx
  by_cases c:9223372036854775808≤b.toNat
  ·rw [aa c,au rfl];omega
  ·rw [ab c,ao (by decide)];omega
end Sh
end Go.Eng
set_option maxRecDepth 20000
namespace Go.Eng
open Go.IntWalk
open Nr (Shape)
theorem C3 {a b:Nat} (h:Nr.dec a=Nr.dec b):a=b:=by rw [←(Nr.j8 a).2.1,h,(Nr.j8 b).2.1]
theorem uU (n:Nat):(Nr.dec n).headD 0≠45∧Nr.eU ((Nr.dec n).headD 0)=true:=by
 obtain ⟨d1,_,d3,_⟩:=Nr.j8 n
 cases e:Nr.dec n with
 | nil=>exact (d3 e).elim
 | cons c r =>
  rw [e,List.all_cons,af] at d1
  refine ⟨fun w=>?_,d1.1⟩
  rw [List.headD_cons] at w
  rw [w] at d1;exact absurd d1.1 (by decide)
theorem zG {a b:Int} (h:Nr.itoa a=Nr.itoa b):a=b:=by
 rw [Nr.lC,Nr.lC] at h
 have ha:=(uU a.natAbs).1
 have hb:=(uU b.natAbs).1
 by_cases c:a<0 <;> by_cases d:b<0
 ·rw [au c,au d] at h
  have:=C3 (List.cons.inj h).2;omega
 ·rw [au c,ao d] at h;rw [←h] at hb;exact (hb rfl).elim
 ·rw [ao c,au d] at h;rw [h] at ha;exact (ha rfl).elim
 ·rw [ao c,ao d] at h
  have:=C3 h;omega
theorem VT (x:UInt8):(mj (x &&& 3) 4).toNat=x.toNat % 4 * 16:=by
 have h:(x &&& (3:UInt8)).toNat=x.toNat % 4:=by rw [UInt8.toNat_and,show (3:UInt8).toNat=2 ^ 2 - 1 from rfl,Nat.and_two_pow_sub_one_eq_mod]
 unfold mj
 rw [h,UInt8.toNat_ofNat'];omega
theorem OV (x:UInt8):(mj (x &&& 15) 2).toNat=x.toNat % 16 * 4:=by
 have h:(x &&& (15:UInt8)).toNat=x.toNat % 16:=by rw [UInt8.toNat_and,show (15:UInt8).toNat=2 ^ 4 - 1 from rfl,Nat.and_two_pow_sub_one_eq_mod]
 unfold mj
 rw [h,UInt8.toNat_ofNat'];omega
theorem q0 (a:UInt8):(lO a 2).toNat=a.toNat / 4:=Lj a 2
end Go.Eng
set_option maxRecDepth 20000
namespace Go.Eng
open Go.IntWalk
theorem QR (n:Int):IntKind.wrap .i64 n=(if n % 18446744073709551616 ≥ 9223372036854775808 then n % 18446744073709551616 - 18446744073709551616 else n % 18446744073709551616):=by
 simp [IntKind.wrap,IntKind.bits,IntKind.signed]
theorem SK (n:Int):IntKind.wrap .i32 n=(if n % 4294967296 ≥ 2147483648 then n % 4294967296 - 4294967296 else n % 4294967296):=by
 simp [IntKind.wrap,IntKind.bits,IntKind.signed]
theorem DL {v:Val} (h:Tree.own v=0):Tree.name v.kind≠[]∧Tree.gW v=true:=by
 unfold Tree.own at h
 by_cases c:Tree.name v.kind=[]
 ·rw [au c] at h;exact absurd h (by decide)
 ·rw [ao c] at h
  refine ⟨c,?_⟩
  cases d:Tree.gW v with
  | true=>rfl
  | false=>rw [au d] at h;exact absurd h (by decide)
theorem Er {v:Val} (h:Tree.gW v=true):(Tree.nO 0 v.kind=true∨v.bits=0)∧(Tree.nO 1 v.kind=true∨(v.high=0∧v.low=0))∧(Tree.nO 2 v.kind=true∨v.text=[])∧(Tree.nO 3 v.kind=true∨v.more=[])∧(Tree.nO 4 v.kind=true∨v.sub=0)∧(Tree.nO 5 v.kind=true∨v.bytes=[])∧(Tree.nO 6 v.kind=true∨v.kids=[])∧(v.kind=16→v.bits<4294967296)∧(v.kind=8→v.bits<2)∧0≤v.sub∧v.sub≤255:=by
 unfold Tree.gW at h
 simp only [af,Bool.or_eq_true,aA,Bool.not_eq_true',decide_eq_false_iff_not] at h
 obtain ⟨⟨⟨⟨⟨⟨⟨⟨⟨⟨h0,h1⟩,h2⟩,h3⟩,h4⟩,h5⟩,h6⟩,h7⟩,h8⟩,h9⟩,_⟩:=h
 exact ⟨h0,h1,h2,h3,h4,h5,h6,fun e=>h7.resolve_left (fun w=>w e),fun e=>h8.resolve_left (fun w=>w e),h9.1,h9.2⟩
end Go.Eng
set_option maxRecDepth 20000
namespace Go.Eng
open Go.IntWalk
theorem uo {v:Val} {n:bz} (h:Tree.oC v n=0):Tree.own v=0:=by
 unfold Tree.oC at h
 by_cases c:Tree.own v=0
 ·exact c
 ·rw [au c] at h;exact (c h).elim
theorem pY {n:bz} {k:Int} {b h l:UInt64} {t m:bz} {s:Int} {y:bz} {ks:List bA} {p:List Int} (c:(Tree.gQ (.mk n k b h l t m s y ks) p).2=0):Tree.own ⟨k,b,h,l,t,m,s,y,ks⟩=0∧(Tree.ka ks 0 p).2=0:=by
 rw [Tree.gQ] at c
 by_cases d:Tree.oC ⟨k,b,h,l,t,m,s,y,ks⟩ n=0
 ·rw [ao (by simp [d])] at c
  exact ⟨uo d,c⟩
 ·rw [au d] at c;exact (d c).elim
theorem pX {f:bA} {r:List bA} {i:Nat} {p:List Int} (c:(Tree.ka (f :: r) i p).2=0):(Tree.gQ f (p++[(i:Int)])).2=0∧(Tree.ka r (i+1) p).2=0:=by
 rw [Tree.ka] at c
 by_cases d:(Tree.gQ f (p++[(i:Int)])).2=0
 ·rw [ao (by simp [d])] at c;exact ⟨d,c⟩
 ·rw [au d] at c;exact (d c).elim
end Go.Eng
set_option maxRecDepth 20000
namespace Go.Eng
open Go.IntWalk
namespace Rl
theorem Cs (n l:Int) (hn:Nr.i64 n=true) (hl:l≤10):(pad n l).length≤31:=by
 have:=l0 n hn
 unfold pad
 rw [aj,List.length_replicate];omega
theorem vW (y m:Int):28≤month y m∧month y m≤31:=by
 unfold month
 split
 ·omega
 ·split
  ·split <;> omega
  ·omega
theorem vd (y:Int):ahead (y+1)≤ahead y+366:=by
 unfold ahead;omega
theorem sB (d:Int) (h:0≤d):ahead (1970+d / 366)≤d:=by
 unfold ahead
 have h1:366 * (d / 366)≤d:=by omega
 generalize d / 366=k at h1
 by_cases c:k≤4
 ·by_cases c0:0≤k
  ·have:k=0∨k=1∨k=2∨k=3∨k=4:=by omega
   rcases this with rfl | rfl | rfl | rfl | rfl <;> omega
  ·omega
 ·omega
theorem yr (d : Int) (hd : d ≤ 2932896) : ∀ (n : Nat) (y : Int), ahead y ≤ d → y ≤ 9999 → 9999 - y ≤ n → ahead (jC d n y) ≤ d ∧ y ≤ jC d n y ∧ jC d n y ≤ 9999 ∧ d < ahead (jC d n y + 1)
  | 0, y, h, h1, h2 => by
    have : y = 9999 := by omega
    subst this
    exact ⟨h, by simp [jC], by simp [jC], by simp only [jC]; have : ahead (9999 + 1) = 2932897 := by decide
                                             omega⟩
  | n + 1, y, h, h1, h2 => by
    simp only [jC]
    by_cases c : ahead (y + 1) ≤ d
    · rw [au c]
      have : y ≠ 9999 := fun e => by
        subst e
        have : ahead (9999 + 1) = 2932897 := by decide
        omega
      obtain ⟨a1, a2, a3, a4⟩ := yr d hd n (y + 1) c (by omega) (by omega)
      exact ⟨a1, by omega, a3, a4⟩
    · rw [ao c]; exact ⟨h, by omega, h1, by omega⟩
theorem C4 (y:Int):∀(n:Nat) (d m:Int),0≤d→d<28 * n→0≤(rR y n d m).1∧(rR y n d m).1≤31∧m≤(rR y n d m).2∧(rR y n d m).2≤m+n
 | 0,d,m,h,h1=>by omega
 | n+1,d,m,h,h1=>by
  have hm:=vW y m
  simp only [rR]
  by_cases c:month y m≤d
  ·rw [au c]
   obtain ⟨a1,a2,a3,a4⟩:=C4 y n (d - month y m) (m+1) (by omega) (by omega)
   exact ⟨a1,a2,by omega,by omega⟩
  ·rw [ao c];exact ⟨h,by show d≤31;omega,by show m≤m;omega,by show m≤m+_;omega⟩
noncomputable def written (rest y:Int) (q:Int × Int):bz :=
 let s:=rest / 1000
 let x:=pad y 4++[45]++pad q.2 2++[45]++pad (q.1+1) 2++[84]++pad (s / 3600) 2++[58]++pad (s / 60 % 60) 2++[58]++pad (s % 60) 2
 cond (decide (rest % 1000=0)) x (x++([46]++pad (rest % 1000) 3))++[90]
end Rl
theorem cq.MG (r y d m:Int) (hr:0≤r∧r<86400000) (hy:0≤y∧y≤100000) (hd:0≤d∧d≤400) (hm:0≤m∧m≤100) (c:¬Rl.month y m≤d):cq.l2 r y d m=some [.s (Rl.written r y (d,m)),.b true]:=by
 refine cq.iu _ _ _ _ ?_
 intro v1 h1 v2 h2 v3 h3 v4 h4 v5 h5 v6 h6 v7 h7 v8 h8 v9 h9 v10 iS v11 kA v12 jM kq nr jh oa jb nV lA sw
 rw [Int.tdiv_eq_ediv_of_nonneg hr.1,i64_in _ (by omega)] at h3
 rw [Int.tdiv_eq_ediv_of_nonneg (by omega),i64_in _ (by omega)] at h8 iS
 rw [i64_in _ (by omega)] at h6
 have t1:Int.tmod v10 60=r / 1000 / 60 % 60:=by rw [Int.tmod_eq_emod_of_nonneg (by omega),iS,h3]
 have t2:Int.tmod v3 60=r / 1000 % 60:=by rw [Int.tmod_eq_emod_of_nonneg (by omega),h3]
 have t3:Int.tmod r 1000=r % 1000:=Int.tmod_eq_emod_of_nonneg (by omega)
 rw [t1] at kA ⊢
 rw [t2] at nr ⊢
 rw [t3] at nV ⊢
 have p:∀n l:Int,0≤n∧n≤1000000∧l≤10→(Rl.pad n l).length≤31:=fun n l h=>Rl.Cs n l (aa (by omega)) h.2.2
 have p1:=p y 4 (by omega)
 have p2:=p m 2 (by omega)
 have p3:=p v6 2 (by omega)
 have p4:=p v8 2 (by omega)
 have p5:=p (r / 1000 / 60 % 60) 2 (by omega)
 have p6:=p (r / 1000 % 60) 2 (by omega)
 have p7:=p (r % 1000) 3 (by omega)
 rw [←kA] at p5
 rw [←nr] at p6
 rw [←nV] at p7
 have l4:v4.length≤32:=by rw [h4,aj];simp only [ay];omega
 have l5:v5.length≤63:=by rw [h5,aj];omega
 have l7:v7.length≤95:=by rw [h7];simp only [aj,ay];omega
 have l9:v9.length≤127:=by rw [h9];simp only [aj,ay];omega
 have Yk:v12.length≤159:=by rw [jM];simp only [aj,ay];omega
 have Vb:jh.length≤191:=by rw [oa];simp only [aj,ay];omega
 have Yi:lA.length≤223:=by rw [sw];simp only [aj,ay];omega
 have z:∀k:Int,k≠0→(!decide (k=0))=true:=fun k h=>by rw [ab h];rfl
 rw [bx (aa hy),ab c,ae,z 1000 (by decide),z 3600 (by decide),z 60 (by decide)]
 simp only [bU,aj,ay]
 have Hn:jh=Rl.pad y 4++[45]++Rl.pad m 2++[45]++Rl.pad (d+1) 2++[84]++Rl.pad (r / 1000 / 3600) 2++[58]++Rl.pad (r / 1000 / 60 % 60) 2++[58]++Rl.pad (r / 1000 % 60) 2:=by
  rw [oa,nr,jM,kA,h9,h8,h7,h6,h5,h4,h3]
 rw [bx (aa (by omega)),bx (aa (by omega)),bx (aa (by omega)),bx (aa (by omega)),bx (aa (by omega)),bx (aa (by omega)),bx (aa (by omega)),
  bx (aa (by omega)),bx (aa (by omega)),bx (aa (by omega)),bx (aa (by omega)),bx (aa (by omega)),bx (aa (by omega)),bx (aa (by omega)),bx (aa (by omega)),bx (aa (by omega))]
 unfold Rl.written
 by_cases k:r % 1000=0
 ·rw [aa k,aG,ae,cq.su,bx (aa (by simp only [ay];omega)),Hn];rfl
 ·rw [ab k,aI,ah,cq.su,bx (aa (by omega)),bx (aa (by omega)),bx (aa (by omega)),bx (aa (by simp only [ay];omega)),sw,nV,Hn];rfl
theorem cq.jd (r y:Int) (hr:0≤r∧r<86400000) (hy:0≤y∧y≤100000):∀(n:Nat) (d m:Int),0≤d→d<28 * n→d≤400→0≤m→m+n≤50→cq.l2 r y d m=some [.s (Rl.written r y (Rl.rR y n d m)),.b true]
 | 0,d,m,h,h1,_,_,_=>by omega
 | n+1,d,m,h,h1,h2,h3,h4=>by
  have hm:=Rl.vW y m
  simp only [Rl.rR]
  by_cases c:Rl.month y m≤d
  ·rw [au c]
   refine cq.iu _ _ _ _ ?_
   intro v1 Im v2 zR v3 _ v4 _ v5 _ v6 _ v7 _ v8 _ v9 _ v10 _ v11 _ v12 _ kq _ jh _ jb _ lA _
   rw [bx (aa hy),aa c,ah,bx (aa hy),Im,zR,i64_in _ (by omega),i64_in _ (by omega)]
   exact cq.jd r y hr hy n _ _ (by omega) (by omega) (by omega) (by omega) (by omega)
  ·rw [ao c]
   exact cq.MG r y d m hr hy ⟨h,by omega⟩ ⟨h3,by omega⟩ c
theorem cq.cO (d r:Int) (hr:0≤r∧r<86400000) (hd:0≤d∧d≤2932896):∀(n:Nat) (y:Int),1970≤y→Rl.ahead y≤d→y≤9999→9999 - y≤n→cq.l1 d r y=some [.s (Rl.written r (Rl.jC d n y) (Rl.rR (Rl.jC d n y) 20 (d - Rl.ahead (Rl.jC d n y)) 1)),.b true]:=by
 have stop:∀y:Int,1970≤y→y≤9999→Rl.ahead y≤d→¬Rl.ahead (y+1)≤d→cq.l1 d r y=some [.s (Rl.written r y (Rl.rR y 20 (d - Rl.ahead y) 1)),.b true]:=fun y h0 h1 h2 c=>by
  have hs:=Rl.vd y
  have ha : -719162≤Rl.ahead y:=by unfold Rl.ahead;omega
  refine cq.bX _ _ _ ?_
  intro v1 Im v2 zR
  rw [i64_in _ (by omega)] at Im zR
  rw [Im,bx (aa (by omega)),ab c,ae,bx (aa (by omega)),zR]
  exact cq.jd r y hr (by omega) 20 _ 1 (by omega) (by omega) (by omega) (by omega) (by omega)
 intro n
 induction n with
 | zero =>
  intro y h0 h1 h2 h3
  refine stop y h0 h2 h1 fun w=>?_
  have:y=9999:=by omega
  subst this
  have:Rl.ahead (9999+1)=2932897:=by decide
  omega
 | succ n ih =>
  intro y h0 h1 h2 h3
  simp only [Rl.jC]
  by_cases c:Rl.ahead (y+1)≤d
  ·rw [au c]
   have hy:y≠9999:=fun e=>by
    subst e
    have:Rl.ahead (9999+1)=2932897:=by decide
    omega
   refine cq.bX _ _ _ ?_
   intro v1 Im v2 zR
   rw [i64_in _ (by omega)] at Im
   rw [Im,bx (aa (by omega)),aa c,ah]
   exact ih (y+1) (by omega) c (by omega) (by omega)
  ·rw [ao c];exact stop y h0 h2 h1 c
theorem cq.goal (t:Int) (hp:(Nr.i64 t)=true):cq.F t=some [.s (Rl.date t).1,.b (Rl.date t).2]:=by
 have hp:=aq hp
 refine cq.bY _ ?_
 intro v1 h1 v2 h2 v3 h3 v4 h4 v5 h5
 rw [bx (jR _),bx (Q5 _),h1,Og,Rl.C5]
 unfold Rl.Ak
 by_cases c:t<0∨253402300799999<t
 ·rw [au c,show (decide (t<0) || decide (253402300799999<t))=true by rcases c with c | c <;> simp [c],ah]
 ·have c1:0≤t:=by omega
  rw [ao c,show (decide (t<0) || decide (253402300799999<t))=false by rw [ab (by omega),ab (by omega)];rfl,ae]
  have z:∀k:Int,k≠0→(!decide (k=0))=true:=fun k h=>by rw [ab h];rfl
  rw [z 86400000 (by decide),z 366 (by decide),bU,bU,bU]
  rw [Int.tdiv_eq_ediv_of_nonneg c1,i64_in _ (by omega)] at h2
  rw [Int.tmod_eq_emod_of_nonneg c1] at h3
  rw [Int.tdiv_eq_ediv_of_nonneg (by omega),i64_in _ (by omega)] at h4
  rw [h4,i64_in _ (by omega)] at h5
  rw [h5,cq.cO v2 v3 (by omega) (by omega) 100000 (1970+v2 / 366) (by omega) (Rl.sB v2 (by omega)) (by omega) (by omega),h2,h3]
  rfl
end Go.Eng
set_option maxRecDepth 20000
namespace Go.Eng
open Go.IntWalk
theorem tC:Tree.fZ [] true=true:=by decide
mutual
theorem wO:∀(f:bA) (p q:List Int),(Tree.gQ f p).2=0→(Tree.gQ f q).2=0
 | .mk n k b h l t m s y ks,p,q,c=>by
  rw [Tree.gQ] at c ⊢
  by_cases d:Tree.oC ⟨k,b,h,l,t,m,s,y,ks⟩ n=0
  ·rw [ao (by simp [d])] at c ⊢
   exact rV ks 0 p q c
  ·rw [au d] at c;exact (d c).elim
theorem rV:∀(l:List bA) (i:Nat) (p q:List Int),(Tree.ka l i p).2=0→(Tree.ka l i q).2=0
 | [],_,_,_,_=>by simp [Tree.ka]
 | f :: r,i,p,q,c=>by
  obtain ⟨c1,c2⟩:=pX c
  have h1:=wO f _ (q++[(i:Int)]) c1
  have h2:=rV r _ p q c2
  rw [Tree.ka,ao (by simp [h1])]
  exact h2
end
theorem HC (f:bA) (p q:List Int) (c:(Tree.gQ f p).2=0):(Tree.gQ (bA.of [] f.val) q).2=0:=by
 cases f
 obtain ⟨o,c2⟩:=pY c
 simp only [bA.of,bA.val,bA.kind,bA.bits,bA.high,bA.low,bA.text,bA.more,bA.sub,bA.bytes,bA.kids]
 rw [Tree.gQ]
 have:∀v:Val,Tree.own v=0→Tree.oC v []=0:=fun v h=>by
  unfold Tree.oC
  rw [ao (by simp [h]),ao (by rw [tC];simp)]
 rw [ao (by rw [this _ o];simp)]
 exact rV _ _ _ _ c2
theorem Ap : ∀ {l : List bA} {i j : Nat} {p : List Int} {f : bA}, (Tree.ka l i p).2 = 0 → f = l.getD j (fx.gm .fl) → j < l.length → (Tree.gQ (bA.of [] f.val) []).2 = 0
  | [], _, _, _, _, _, _, h => by simp at h
  | g :: r, i, j, p, f, c, e, h => by
    obtain ⟨c1, c2⟩ := pX c
    cases j with
    | zero => obtain rfl : f = g := by simpa using e
              exact HC _ _ _ c1
    | succ j => exact Ap (l := r) (i := i + 1) (j := j) c2 (by simpa using e) (by simpa using h)
theorem G4 (date:Int→bz × Bool) (f:bA):Rl.lj date (bA.of [] f.val)=Rl.lj date f:=by
 cases f;simp only [bA.of,bA.val,bA.kind,bA.bits,bA.high,bA.low,bA.text,bA.more,bA.sub,bA.bytes,bA.kids,Rl.lj]
theorem vX (date:Int→bz × Bool):∀l:List bA,(Rl.iX date l).length=l.length
 | []=>by simp [Rl.iX]
 | f :: r=>by simp [Rl.iX,vX date r]
theorem cM.cO (n:Nat) (l:List bA) (hb:bA.cm l≤1000000000000) (hn:2 * bA.cm l<n) (hc:(Tree.ka l 0 []).2=0) (x3:Int) (x4:bz) (x7:List Mem):∀(m i:Nat) (acc:List Mem),i+m=l.length→acc.length=i →
  cM.l1 n l (l.length:Int) (i:Int) x3 x4 7 [] x7 acc=some [.ag [.i .i64 7,.s [],.sl .ml (acc++Rl.iX Rl.date (l.drop i))]]
 | 0,i,acc,hi,ha=>by
  refine cM.bX _ _ _ _ _ _ _ _ _ _ ?_
  intro v1 h1 v2 h2 v3 h3 v4 h4
  rw [ab (by omega),ae,aC (by omega)]
  simp [Rl.iX]
 | m+1,i,acc,hi,ha=>by
  have hlen:=ma l
  refine cM.bX _ _ _ _ _ _ _ _ _ _ ?_
  intro v1 h1 v2 h2 v3 h3 v4 h4
  rw [ak] at h1
  have hf:=xJ (l:=l) (i:=i) (by omega) (fx.gm .fl)
  rw [←h1] at hf
  have hv:=s4 v1
  have e4:v4=((i+1:Nat):Int):=by rw [h4,i64_in _ (by omega)];omega
  have cB:((decide (bA.bJ (bA.of [] (bA.val v1))≤1000000000000)&&decide ((Tree.gQ (bA.of [] (bA.val v1)) []).2=0))&&decide ((2 * bA.bJ (bA.of [] (bA.val v1)))<n))=true:=by
   rw [af,af];exact ⟨⟨aa (by omega),aa (Ap hc h1 (by omega))⟩,aa (by omega)⟩
  rw [aa (by omega),ah,bx (bN (by omega) (by omega)),bx cB,bx (dP (by rw [h3];simp;omega) (by rw [h3];simp;omega)),e4,
   cM.cO n l hb hn hc x3 x4 x7 m (i+1) (acc++v3) (by omega) (by rw [h3];simp;omega),drop_cons (l:=l) (i:=i) (by omega) (fx.gm .fl),←h1]
  have e3:v3=[Mem.of v1.name (Rl.lj Rl.date v1)]:=by rw [h3,h2,G4];rfl
  rw [e3,aE]
  simp [Rl.iX]
theorem cM.goal (n:Nat) (l:List bA) (hp:((decide (bA.cm l≤1000000000000)&&decide ((Tree.ka l 0 []).2=0))&&decide ((2 * bA.cm l+1)<n+1))=true):cM.F n l=some [.ag (bP.cells (Rl.ob Rl.date l))]:=by
 rw [af,af] at hp
 have h1:=aq hp.1.1
 have h2:=aq hp.1.2
 have h3:=aq hp.2
 rw [cM.dW]
 have:=cM.cO n l h1 (by omega) h2 0 [] [] l.length 0 [] (by omega) rfl
 rw [bh,bq] at this
 exact this
theorem Ez (l:List bA):cond (decide ((0:Int)<(l.length:Int))) (List.isPrefixOf [36] (l.getD 0 (fx.gm .fl)).name) false=Cn.kM l:=by
 unfold Cn.kM
 cases l with
 | nil=>rfl
 | cons f r =>
  rw [aa (by simp),ah]
  show List.isPrefixOf [36] f.name=decide (f.name.take 1=[36])
  generalize f.name=s
  cases s with
  | nil=>rfl
  | cons c t =>
   by_cases e:c=36
   ·subst e;simp [List.isPrefixOf]
   ·have e':¬(36:UInt8)=c:=fun h=>e h.symm
    simp [List.isPrefixOf,e,e']
theorem cC.jd (n:Nat) (x2:Int) (x3:bz) (x6:List Mem) (l:List Mem) (hl:l.length≤1099511627776):∀(m i:Nat) (acc:List Mem),i+m=l.length→acc=(l.take i).map Cn.oF++l.drop i →
  cC.l2 n (l.length:Int) (i:Int) x2 x3 6 [] x6 acc=some [.ag [.i .i64 6,.s [],.sl .ml (l.map Cn.oF)]]
 | 0,i,acc,hi,ha=>by
  refine cC.iu _ _ _ _ _ _ _ _ _ ?_
  intro v1 h1 v2 h2
  rw [ab (by omega),ae,ha,aC (by omega),List.take_of_length_le (by omega),bj]
 | m+1,i,acc,hi,ha=>by
  have O9:acc.length=l.length:=by rw [ha];simp;omega
  have qM:i<l.length:=by omega
  refine cC.iu _ _ _ _ _ _ _ _ _ ?_
  intro v1 h1 v2 h2
  rw [ak] at h1 ⊢
  have e2:v2=((i+1:Nat):Int):=by rw [h2,i64_in _ (by omega)];omega
  rw [aa (by omega),ah,bx (bN (by omega) (by omega)),bx (aa (by omega)),e2]
  refine cC.jd n x2 x3 x6 l hl m (i+1) v1 (by omega) ?_
  have eg:acc.getD i (fx.gm .ml)=l[i]:=by
   rw [ha,ai,aR (by simp;omega)]
   simp only [bc,aF,Nat.min_eq_left (Nat.le_of_lt qM),Nat.sub_self,List.getElem?_drop,Nat.add_zero]
   rw [ar qM];rfl
  rw [h1,eg,ha,List.set_append_right _ _ (by simp;omega)]
  simp only [bc,aF,Nat.min_eq_left (Nat.le_of_lt qM),Nat.sub_self]
  rw [List.drop_eq_getElem_cons qM,List.set_cons_zero,List.take_succ_eq_append_getElem qM,List.map_append,aE]
  rfl
theorem cC.iz (n:Nat) (v:Val) (hb:bA.bJ (bA.of [] v)≤1000000000000) (hc:(Tree.gQ (bA.of [] v) []).2=0) (x1:Int) (x2:bz) (x3:List Mem):cC.j1 n v x1 x2 x3=some [.ag (bP.cells (Cn.xK (bA.of [] v)))]:=by
 refine cC.iR _ _ _ _ _ ?_
 intro v1 h1 v2 h2 v3 h3 v4 h4 v5 h5
 have e1:v1=[bA.of [] v]:=h1
 have eb:bA.bJ (bA.of [] (Val.mk 3 0 0 0 [] [] 0 [] v1))=1+bA.bJ (bA.of [] v):=by
  rw [e1];simp only [bA.of,bA.bJ,bA.cm,aB];omega
 have ee:(Cn.iO (Val.mk 3 0 0 0 [] [] 0 [] v1)).2=0:=by
  unfold Cn.iO
  have:(Tree.gQ (bA.of [] (Val.mk 3 0 0 0 [] [] 0 [] v1)) []).2=0:=by
   show (Tree.gQ (bA.mk [] 3 0 0 0 [] [] 0 [] v1) []).2=0
   have o:Tree.own ⟨3,0,0,0,[],[],0,[],v1⟩=0:=by
    rw [e1]
    generalize [bA.of [] v]=ks
    unfold Tree.own
    rw [ao (show ¬Tree.name (3:Int)=[] by decide),ao,ao (show ¬(Tree.fZ [] (decide ((3:Int)=11))=false∨Tree.fZ [] (decide ((3:Int)=11))=false) by decide)]
    simp [Tree.gW,Tree.nO]
   rw [Tree.gQ,ao (by unfold Tree.oC;rw [ao (by simp [o]),ao (by rw [tC];simp)];simp),e1,Tree.ka,ao (by rw [wO _ _ _ hc];simp)]
   rfl
  rw [ao (by simp [this])];rfl
 rw [bx (aa (by omega))]
 have e2:v2=Cn.rP [bA.of [] v]:=by
  rw [h2];unfold Cn.zF;rw [au ee,e1]
 have ek:v2.kids=[Mem.of [] (Cn.xK (bA.of [] v))]:=by rw [e2];simp only [Cn.rP,Cn.kD];rfl
 rw [ek] at h5
 rw [ek,bx (bN (by omega) (by simp)),h5]
 rfl
theorem cC.goal (n:Nat) (v:Val) (hp:((decide (bA.bJ (bA.of [] v)≤1000000000000)&&decide ((Tree.gQ (bA.of [] v) []).2=0))&&decide ((2 * bA.bJ (bA.of [] v))<n+1))=true):cC.F n v=some [.ag (bP.cells (Rl.lj Rl.date (bA.of [] v)))]:=by
 rw [af,af] at hp
 have hb:=aq hp.1.1
 have hc:=aq hp.1.2
 have hn:=aq hp.2
 have hk:bA.cm v.kids+1≤bA.bJ (bA.of [] v):=by simp only [bA.of,bA.bJ];omega
 have hlen:=ma v.kids
 have AO:(Tree.ka v.kids 0 []).2=0:=(pY hc).2
 refine cC.bY _ _ ?_
 intro v1 h1 v2 h2 v3 h3 v4 h4 v5 h5 v6 h6 v7 h7 v8 h8 v9 h9 v10 iS v11 kA v12 jM kq nr jh oa jb nV lA sw tG zS tF wv wX ET v20 CR v21 Pf v22 Pe QT TQ v24 Qt v25 TP QS TN v27 TM
 have i3:Nr.i64 v3=true:=by rw [h3];exact nc _
 have cA:((decide (bA.cm v.kids≤1000000000000)&&decide ((Tree.ka v.kids 0 []).2=0))&&decide ((2 * bA.cm v.kids+1)<n))=true:=by
  rw [af,af];exact ⟨⟨aa (by omega),aa AO⟩,aa (by omega)⟩
 have hd:(⟨jb,lA,jh⟩:bP)=Rl.ob Rl.date v.kids:=by rw [oa,nV,sw]
 have Hn:jh=Rl.iX Rl.date v.kids:=oa
 have Ss:jb=7:=nV
 have Qw:lA=[]:=sw
 have leaf:v.kind≠3→v.kind≠4→v.kind≠15→∀x1 x2 x3,cC.j1 n v x1 x2 x3=some [.ag (bP.cells (Cn.qu v))]:=fun w1 w2 w3 x1 x2 x3=>by
  rw [cC.iz n v hb hc]
  simp only [bA.of,Cn.xK,ao w1,ao w2,ao w3]
 simp only [bA.of,Rl.lj]
 by_cases P8:v.kind=16
 ·rw [aa P8,ah,au P8,bx (nc _),h2,h1];rfl
 rw [ab P8,ae,ao P8]
 by_cases P7:v.kind=18
 ·rw [aa P7,ah,au P7,bx i3,h4,h3];rfl
 rw [ab P7,ae,ao P7]
 by_cases k1:v.kind=1
 ·rw [aa k1,ah,h6]
  cases c:(Rl.number v.bits).2 with
  | true=>rw [ah,au ⟨k1,rfl⟩,h5]
  | false =>
   rw [ae,ao (by rintro ⟨_,w⟩;cases w),ao (by rintro ⟨w,_⟩;omega),ao (by omega),ao (by omega),ao (by omega)]
   exact leaf (by omega) (by omega) (by omega) _ _ _
 rw [ab k1,ae,ao (by rintro ⟨w,_⟩;exact k1 w)]
 by_cases k9:v.kind=9
 ·rw [aa k9,ah,bx i3,h9,h8,h7,h3]
  show cond (Rl.date (Cn.i64 v.bits)).2 _ _=_
  cases c:(Rl.date (Cn.i64 v.bits)).2 with
  | true=>rw [ah,au ⟨k9,rfl⟩];rfl
  | false =>
   rw [ae,ao (by rintro ⟨_,w⟩;cases w),ao (by omega),ao (by omega),ao (by omega)]
   exact leaf (by omega) (by omega) (by omega) _ _ _
 rw [ab k9,ae,ao (by rintro ⟨w,_⟩;exact k9 w)]
 by_cases k3:v.kind=3
 ·have MR:kq=Cn.kM v.kids:=by rw [nr,jM,kA,iS];exact Ez v.kids
  have ci:(!(decide ((0:Int)<v10)) || ((decide ((0:Int)<v10))&&(bD (0:Int) v.kids.length)))=true:=by
   by_cases c:(0:Int)<v10
   ·rw [bN (by omega) (by omega)];cases decide ((0:Int)<v10) <;> rfl
   ·rw [ab c];rfl
  rw [aa k3,ah,au k3,bx (jR _),bx ci,bx (jR _),bx (jR _),bx (jR _),bx (jR _),bx cA,bx cA,MR,zS,wv,ET,hd,Hn,Ss,Qw]
  cases Cn.kM v.kids <;> rfl
 rw [ab k3,ae,ao k3]
 by_cases k4:v.kind=4
 ·rw [aa k4,ah,au k4,bx cA,bx (aa (by omega)),CR,Pf,Pe,TQ,hd,Hn,Qw]
  cases Tree.regular v.kids with
  | false=>rfl
  | true =>
   rw [aG,ae,ah]
   have:=cC.jd n 0 [] [] (Rl.iX Rl.date v.kids) (by rw [vX];omega) (Rl.iX Rl.date v.kids).length 0 (Rl.iX Rl.date v.kids) (by omega) (by simp)
   exact this
 rw [ab k4,ae,ao k4]
 by_cases Ov:v.kind=15
 ·have Wx:v24=[Mem.of [36,99,111,100,101] (Cn.str v.text)]:=Qt
  have Ww:v27=[Mem.of [36,115,99,111,112,101] (Rl.ob Rl.date v.kids)]:=by rw [TM,←hd];rfl
  rw [aa Ov,ah,au Ov,bx cA,Wx,Ww,bx (dP (by simp) (by simp)),TP,TN];rfl
 rw [ab Ov,ae,ao Ov]
 exact leaf k3 k4 Ov _ _ _
theorem gL.goal (v:Val) (hp:(decide (bA.bJ (bA.of [] v)≤1000000000000))=true):gL.F v=some [.ag (bP.cells (Rl.ko Rl.date v)),.ag [.i .i64 (Cn.iO v).2,.i .i64 0,.sl .is (Cn.iO v).1]]:=by
 have hb:=aq hp
 have hk:bA.cm v.kids+1≤bA.bJ (bA.of [] v):=by simp only [bA.of,bA.bJ];omega
 refine gL.bY _ ?_
 intro v1 h1 v2 h2 v3 h3 v4 h4 v5 h5
 rw [bx (aa (by omega))]
 unfold Rl.ko
 by_cases c:(Tree.gQ (bA.of [] v) []).2=0
 ·rw [h2,aa c,aG,ae]
  by_cases k:v.kind=3
  ·have e:Cn.iO v=([],0):=by unfold Cn.iO;rw [ao (by simp [c]),au k]
   have AO:(Tree.ka v.kids 0 []).2=0:=(pY c).2
   rw [aa k,aG,ae,bx (by rw [af];exact ⟨aa (by omega),aa AO⟩),e,au rfl,h3,h4,h5];rfl
  ·have e:Cn.iO v=([],5):=by unfold Cn.iO;rw [ao (by simp [c]),ao k]
   rw [ab k,aI,ah,e,ao (by decide)];rfl
 ·have e:Cn.iO v=Tree.gQ (bA.of [] v) []:=by unfold Cn.iO;rw [au c]
  rw [h2,ab c,aI,ah,e,ao c,h1];rfl
end Go.Eng
set_option maxRecDepth 20000
namespace Go.Eng
open Go.IntWalk
namespace Rl
theorem EC (f g:bA) (p:List Int):mG (bA.of [] f.val) (bA.of [] g.val) p=mG f g p:=by
 cases f;cases g
 simp only [bA.of,bA.val,bA.kind,bA.bits,bA.high,bA.low,bA.text,bA.more,bA.sub,bA.bytes,bA.kids,mG]
mutual
theorem wJ:∀(f g:bA) (p:List Int) (l:List (List Int)),mG f g p=some l→l.length≤bA.bJ f
 | .mk n k b h lo t m s y ks,.mk n' k' b' h' Yf t' m' s' y' Ou,p,l,e=>by
  simp only [mG] at e
  split at e
  ·cases e
  ·rw [aM] at e
   obtain ⟨r,e1,rfl⟩:=e
   have:=wI ks Ou 0 p r e1
   simp only [bA.bJ,aj]
   split <;> simp only [aB,az] <;> omega
theorem wI:∀(a b:List bA) (i:Nat) (p:List Int) (l:List (List Int)),mf a b i p=some l→l.length≤bA.cm a
 | f :: r,g :: q,i,p,l,e=>by
  simp only [mf] at e
  split at e
  ·cases e
  ·rw [aN] at e
   obtain ⟨x,e1,e⟩:=e
   rw [aM] at e
   obtain ⟨y,e2,rfl⟩:=e
   have:=wJ f g _ x e1
   have:=wI r q _ p y e2
   simp only [bA.cm,aj];omega
 | [],[],_,_,l,e=>by simp only [mf] at e;cases e;simp
 | [],_ :: _,_,_,l,e=>by simp only [mf] at e;cases e
 | _ :: _,[],_,_,l,e=>by simp only [mf] at e;cases e
end
end Rl
def rj (o:List (List Int)) (p:List Int):Option (List (List Int))→OT
 | some l=>some [.sl .od (o++l),.b true,.sl .is p]
 | none=>some [.sl .od [],.b false,.sl .is p]
theorem bR.jd (n:Nat) (ks:List bA) (b:Val) (p:List Int) (hl:ks.length=b.kids.length) (hp:p.length+1+bA.cm ks≤1000000000) (hn:bA.cm ks<n):∀(m i:Nat) (o:List (List Int)),i+m=ks.length→o.length+bA.cm (ks.drop i)≤1000000000 →
  bR.l2 n ks (ks.length:Int) (i:Int) b o p=rj o p (Rl.mf (ks.drop i) (b.kids.drop i) i p)
 | 0,i,o,hi,ho=>by
  refine bR.iu _ _ _ _ _ _ _ ?_
  intro v1 h1 v2 h2 v3 h3 v4 h4 v5 h5
  rw [ab (by omega),ae,aC (by omega),aC (by omega)]
  simp [Rl.mf,rj]
 | m+1,i,o,hi,ho=>by
  have hk:=ma ks
  refine bR.iu _ _ _ _ _ _ _ ?_
  intro v1 h1 v2 h2 v3 h3 v4 h4 v5 h5
  rw [ak] at h1 h2
  have e5:v5=((i+1:Nat):Int):=by rw [h5,i64_in _ (by omega)];omega
  have hf:=xJ (l:=ks) (i:=i) (by omega) (fx.gm .fl)
  rw [←h1] at hf
  have hv:=s4 v1
  have hd:ks.drop i=v1 :: ks.drop (i+1):=by rw [h1];exact drop_cons (by omega) _
  have hd2:b.kids.drop i=v2 :: b.kids.drop (i+1):=by rw [h2];exact drop_cons (by omega) _
  rw [hd] at ho
  simp only [bA.cm] at ho
  have c1:((decide (o.length+bA.bJ (bA.of [] (bA.val v1))≤1000000000∧(p++[(i:Int)]).length+bA.bJ (bA.of [] (bA.val v1))≤1000000000))&&decide (bA.bJ (bA.of [] (bA.val v1))<n))=true:=by
   rw [af]
   exact ⟨aa ⟨by omega,by simp only [aj,ay];omega⟩,aa (by omega)⟩
  rw [aa (by omega),ah,bx (bN (by omega) (by omega)),bx (bN (by omega) (by omega)),bx (bN (by omega) (by omega)),bx (dP (by simp;omega) (by simp;omega)),bx c1,hd,hd2,Rl.mf]
  by_cases c:v1.name=v2.name
  ·rw [aa c,aG,ae,ao (by simp [c]),e5]
   unfold Rl.pV at h3 h4
   rw [Rl.EC] at h3 h4
   cases e:Rl.mG v1 v2 (p++[(i:Int)]) with
   | none =>
    rw [e] at h4
    rw [h4,aI,ah];rfl
   | some l =>
    have OK:=Rl.wJ _ _ _ _ e
    rw [e] at h3 h4
    rw [h4,h3,aG,ae,bR.jd n ks b p hl hp hn m (i+1) (o++l) (by omega) (by rw [aj];omega)]
    rw [Option.bind_some]
    cases Rl.mf (ks.drop (i+1)) (b.kids.drop (i+1)) (i+1) p with
    | none=>rfl
    | some q=>simp only [rj,Option.map_some,aE]
  ·rw [ab c,aI,ah,au c];rfl
theorem bR.goal (n:Nat) (o:List (List Int)) (a:Val) (b:Val) (p:List Int) (hp:((decide (o.length+bA.bJ (bA.of [] a)≤1000000000∧p.length+bA.bJ (bA.of [] a)≤1000000000))&&decide ((bA.bJ (bA.of [] a))<n+1))=true) :
  bR.F n o a b p=some [.sl .od (Rl.pV o a b p).1,.b (Rl.pV o a b p).2,.sl .is p]:=by
 rw [af] at hp
 have h1:=aq hp.1
 have h2:=aq hp.2
 have hb:bA.cm a.kids+1≤bA.bJ (bA.of [] a):=by simp only [bA.of,bA.bJ];omega
 have hr:some [TV.sl .od (Rl.pV o a b p).1,.b (Rl.pV o a b p).2,.sl .is p]=rj o p (Rl.mG (bA.of [] a) (bA.of [] b) p):=by
  unfold Rl.pV
  cases Rl.mG (bA.of [] a) (bA.of [] b) p <;> rfl
 rw [hr]
 refine bR.bY _ _ _ _ _ ?_
 intro v1 Im v2 zR v3 Wm
 have hF:Rl.mG (bA.of [] a) (bA.of [] b) p=if a.kids.length≠b.kids.length then none else (Rl.mf a.kids b.kids 0 p).map fun r=>(if Tree.nD a b then [] else [p])++r:=by
  simp only [bA.of,Rl.mG]
 rw [hF,Im,zR]
 by_cases c:a.kids.length=b.kids.length
 ·rw [aa (by omega),aG,ae,ao (by simp [c]),bx (dP (by omega) (by omega)),bx (dP (by simp;omega) (by simp;omega)),Wm]
  have key:∀o':List (List Int),o'.length≤o.length+1→bR.j1 n a b o' p=rj o' p (Rl.mf a.kids b.kids 0 p):=fun o' ho=>by
   refine bR.iR _ _ _ _ _ ?_
   intro v1 h1
   rw [h1]
   show bR.l2 n a.kids _ ((0:Nat):Int) b o' p=_
   rw [bR.jd n a.kids b p c (by omega) (by omega) a.kids.length 0 o' (by omega) (by rw [bh];omega)]
   rfl
  rw [key _ (by simp),key _ (by omega)]
  cases Tree.nD a b with
  | true=>cases Rl.mf a.kids b.kids 0 p <;> rfl
  | false =>
   cases Rl.mf a.kids b.kids 0 p with
   | none=>rfl
   | some l=>simp [rj]
 ·rw [ab (by omega),aI,ah,au c];rfl
theorem bL.cO (a b:List (List Int)) (hl:a.length=b.length) (hb:a.length≤1000000000) (ha:a.all (fun l=>decide (l.length≤1099511627776))=true):∀(m i:Nat),i+m=a.length→bL.l1 a b (i:Int)=some [.b (decide (a.drop i=b.drop i))]
 | 0,i,hi=>by
  refine bL.bX _ _ _ ?_
  intro v1 h1 v2 h2 v3 h3
  rw [ab (by omega),ae,aC (by omega),aC (by omega)];simp
 | m+1,i,hi=>by
  refine bL.bX _ _ _ ?_
  intro v1 h1 v2 h2 v3 h3
  rw [ak] at h1 h2
  have hd:a.drop i=v1 :: a.drop (i+1):=by rw [h1];exact drop_cons (by omega) _
  have hd2:b.drop i=v2 :: b.drop (i+1):=by rw [h2];exact drop_cons (by omega) _
  have hm:v1∈a:=List.mem_of_mem_drop (i:=i) (by rw [hd];simp)
  have e3:v3=((i+1:Nat):Int):=by rw [h3,i64_in _ (by omega)];omega
  rw [aa (by omega),ah,bx (bN (by omega) (by omega)),bx (bN (by omega) (by omega)),bx (aD.1 ha _ hm),hd,hd2,e3]
  by_cases c:v1=v2
  ·rw [aa c,aG,ae,bL.cO a b hl hb ha m (i+1) (by omega)]
   simp [c]
  ·rw [ab c,aI,ah];simp [c]
theorem bL.goal (a b:List (List Int)) (hp:(decide (a.length≤1000000000)&&a.all (fun l=>decide (l.length≤1099511627776)))=true):bL.F a b=some [.b (decide (a=b))]:=by
 rw [af] at hp
 have h1:=aq hp.1
 rw [bL.dW]
 by_cases c:a.length=b.length
 ·rw [aa (by omega),aG,ae]
  exact bL.cO a b c h1 hp.2 a.length 0 (by omega)
 ·rw [ab (by omega),aI,ah,ab (fun e=>c (by rw [e]))]
end Go.Eng
set_option maxRecDepth 20000
namespace Go.Eng
open Go.IntWalk
theorem pM (b:UInt64):(Rl.number b).1.length≤281474976710656:=by
 rw [Rl.o6]
 unfold Rl.nF
 have:=Sh.qc b
 split
 ·simp
 split
 ·simp
 ·exact Nat.le_trans this (by decide)
theorem xc (l r:List bA):Rl.gg (l++r)=Rl.gg l++Rl.gg r:=by
 induction l with
 | nil=>simp [Rl.gg]
 | cons f l ih=>simp [Rl.gg,ih]
theorem bT.nU (n:Nat) (o:Option Int) (x2:Int) (x3 x4 x5:UInt64) (x6 x7:bz) (x8:Int) (x9:List UInt8) (mP:Int) (kC nY nT:UInt64) (mO qa:bz) (sK:Int) (tx:List UInt8) (vz yt:List bA) (w:Int) (hw:w=o.getD w) :
  bT.j2 n w o.isSome x2 x3 x4 x5 x6 x7 x8 x9 mP kC nY nT mO qa sK tx vz yt =
   some [.ag [.i .i64 (match o with | none=>(x2,x3) | some m=>if IntKind.wrap .i64 (IntKind.wrap .i32 m)=m then (16,UInt64.ofInt (UInt32.ofInt m).toNat) else (18,UInt64.ofInt m)).1,
    .u64 (match o with | none=>(x2,x3) | some m=>if IntKind.wrap .i64 (IntKind.wrap .i32 m)=m then (16,UInt64.ofInt (UInt32.ofInt m).toNat) else (18,UInt64.ofInt m)).2,.u64 x4,.u64 x5,.s x6,.s x7,.i .i64 x8,.sl .bs x9,.sl .fl vz]]:=by
 refine bT.jx _ _ _ _ _ _ _ _ _ _ _ _ _ _ _ _ _ _ _ _ _ ?_
 intro v1 h1 v2 h2
 cases o with
 | none=>rw [Option.isSome_none,aI,ah,bT.su]
 | some m =>
  obtain rfl:w=m:=hw
  rw [Option.isSome_some,aG,ae,h1]
  by_cases c:w=IntKind.i64.wrap (IntKind.i32.wrap w)
  ·rw [aa c,ah,bT.su]
   simp only [au c.symm,h2]
  ·rw [ab c,ae,bT.su]
   simp only [ao (Ne.symm c)]
theorem bT.cO (n:Nat) (v:Val) (hb:bA.cm v.kids≤1000000000000) (hn:bA.cm v.kids<n) (kC:Int) (nY nT mO:UInt64) (qa sK:bz) (tx:Int) (vz:List UInt8) (Ia:List bA):∀(m i:Nat) (acc:List bA),i+m=v.kids.length→acc=Rl.gg (v.kids.take i) →
  bT.l1 n v.kids (v.kids.length:Int) (i:Int) v.kind v.bits v.high v.low v.text v.more v.sub v.bytes kC nY nT mO qa sK tx vz acc Ia=some [.ag (Val.cells (Rl.ie v))]
 | 0,i,acc,hi,ha=>by
  refine bT.bX _ _ _ _ _ _ _ _ _ _ _ _ _ _ _ _ _ _ _ _ _ _ ?_
  intro v1 h1 v2 h2 v3 h3 v4 h4 v5 h5 v6 h6 v7 h7 v8 h8 v9 h9 v10 iS v11 kA v12 jM kq nr jh oa jb nV
  rw [ab (by omega),ae]
  have ha:acc=Rl.gg v.kids:=by rw [ha,List.take_of_length_le (by omega)]
  have fin:∀o:Option Int,Rl.jD v.kind v.bits=o→some [TV.ag [.i .i64 (match o with | none=>(v.kind,v.bits) | some m=>if IntKind.wrap .i64 (IntKind.wrap .i32 m)=m then (16,UInt64.ofInt (UInt32.ofInt m).toNat) else (18,UInt64.ofInt m)).1,
    .u64 (match o with | none=>(v.kind,v.bits) | some m=>if IntKind.wrap .i64 (IntKind.wrap .i32 m)=m then (16,UInt64.ofInt (UInt32.ofInt m).toNat) else (18,UInt64.ofInt m)).2,.u64 v.high,.u64 v.low,.s v.text,.s v.more,.i .i64 v.sub,.sl .bs v.bytes,.sl .fl acc]]=some [.ag (Val.cells (Rl.ie v))]:=fun o ho=>by
   subst ho
   rw [ha]
   show _=some [TV.ag [.i .i64 (Rl.kt v.kind v.bits).1,.u64 (Rl.kt v.kind v.bits).2,.u64 v.high,.u64 v.low,.s v.text,.s v.more,.i .i64 v.sub,.sl .bs v.bytes,.sl .fl (Rl.gg v.kids)]]
   rw [Rl.tL];rfl
  by_cases c1:v.kind=1
  ·rw [aa c1,ah]
   cases c:(Rl.number v.bits).2 with
   | true =>
    rw [ah,bx (aa (pM _)),nV,oa,bT.nU n (Rl.iW (Rl.number v.bits).1) _ _ _ _ _ _ _ _ _ _ _ _ _ _ _ _ _ _ _ (by cases Rl.iW (Rl.number v.bits).1 <;> rfl)]
    exact fin _ (by unfold Rl.jD;rw [ao (by rw [c1];decide),au ⟨c1,c⟩])
   | false =>
    rw [ae,show decide (v.kind=18)=(none:Option Int).isSome by rw [c1];rfl,bT.nU n none _ _ _ _ _ _ _ _ _ _ _ _ _ _ _ _ _ _ _ rfl]
    exact fin _ (by unfold Rl.jD;rw [ao (by rw [c1];decide),ao (by rw [c];simp)])
  ·rw [ab c1,ae]
   by_cases c2:v.kind=18
   ·rw [show decide (v.kind=18)=(some kq).isSome by rw [c2];rfl,bT.nU n (some kq) _ _ _ _ _ _ _ _ _ _ _ _ _ _ _ _ _ _ _ rfl]
    exact fin (some kq) (by unfold Rl.jD;rw [au c2,nr];rfl)
   ·rw [show decide (v.kind=18)=(none:Option Int).isSome by rw [ab c2];rfl,bT.nU n none _ _ _ _ _ _ _ _ _ _ _ _ _ _ _ _ _ _ _ rfl]
    exact fin _ (by unfold Rl.jD;rw [ao c2,ao (by rintro ⟨h,_⟩;exact c1 h)])
 | m+1,i,acc,hi,ha=>by
  have hlen:=ma v.kids
  refine bT.bX _ _ _ _ _ _ _ _ _ _ _ _ _ _ _ _ _ _ _ _ _ _ ?_
  intro v1 h1 v2 h2 v3 h3 v4 h4 v5 h5 v6 h6 v7 h7 v8 h8 v9 h9 v10 iS v11 kA v12 jM kq nr jh oa jb nV
  rw [ak] at h1
  have hf:=xJ (l:=v.kids) (i:=i) (by omega) (fx.gm .fl)
  rw [←h1] at hf
  have hv:=s4 v1
  have O9:acc.length=i:=by
   rw [ha]
   have:∀l:List bA,(Rl.gg l).length=l.length:=fun l=>by
    induction l with
    | nil=>simp [Rl.gg]
    | cons f r ih=>simp [Rl.gg,ih]
   rw [this,aF];omega
  have JI:v12=((i+1:Nat):Int):=by rw [jM,i64_in _ (by omega)];omega
  have MS:v11=[Rl.mr v1]:=by
   rw [kA,h2,h3,h4,h5,h6,h7,h8,h9,iS]
   cases v1;simp only [Rl.ie,Rl.mr,bA.val,bA.name,bA.kind,bA.bits,bA.high,bA.low,bA.text,bA.more,bA.sub,bA.bytes,bA.kids]
  have c1:((decide (bA.bJ (bA.of [] (bA.val v1))≤1000000000000))&&decide ((bA.bJ (bA.of [] (bA.val v1)))<n))=true:=by
   rw [af];exact ⟨aa (by omega),aa (by omega)⟩
  rw [aa (by omega),ah,bx (bN (by omega) (by omega)),bx c1,bx (dP (by rw [MS];simp;omega) (by rw [MS];simp;omega)),JI]
  refine bT.cO n v hb hn kC nY nT mO qa sK tx vz Ia m (i+1) _ (by omega) ?_
  rw [MS,ha,List.take_add_one,xc,h1,ai,ar (by omega)]
  simp [Rl.gg]
theorem bT.goal (n:Nat) (v:Val) (hp:((decide (bA.bJ (bA.of [] v)≤1000000000000))&&decide ((bA.bJ (bA.of [] v))<n+1))=true):bT.F n v=some [.ag (Val.cells (Rl.ie v))]:=by
 rw [af] at hp
 have h1:=aq hp.1
 have h2:=aq hp.2
 have hb:bA.cm v.kids+1+v.bytes.length≤bA.bJ (bA.of [] v):=by simp only [bA.of,bA.bJ];omega
 refine bT.bY _ _ ?_
 intro v1 e1
 rw [bx (dP (by omega) (by omega)),e1]
 exact bT.cO n v (by omega) (by omega) _ _ _ _ _ _ _ _ _ v.kids.length 0 [] (by omega) (by simp [Rl.gg])
end Go.Eng
set_option maxRecDepth 20000
namespace Go.Eng
open Go.IntWalk
namespace Rl
theorem yu (r y d m:Int) (hr:0≤r∧r<86400000) (hy:0≤y∧y≤100000) (hd:0≤d∧d≤400) (hm:0≤m∧m≤100):(written r y (d,m)).length≤300:=by
 have p:∀n l:Int,0≤n∧n≤1000000∧l≤10→(Rl.pad n l).length≤31:=fun n l h=>Rl.Cs n l (aa (by omega)) h.2.2
 have p1:=p y 4 (by omega)
 have p2:=p m 2 (by omega)
 have p3:=p (d+1) 2 (by omega)
 have p4:=p (r / 1000 / 3600) 2 (by omega)
 have p5:=p (r / 1000 / 60 % 60) 2 (by omega)
 have p6:=p (r / 1000 % 60) 2 (by omega)
 have p7:=p (r % 1000) 3 (by omega)
 unfold written
 cases decide (r % 1000=0) <;> simp only [ah,ae,aj,ay] <;> omega
theorem Hr (t:Int):(date t).1.length≤300:=by
 rw [C5]
 unfold Ak
 by_cases c:t<0∨253402300799999<t
 ·rw [au c];simp
 ·rw [ao c]
  obtain ⟨a1,a2,a3,a4⟩:=yr (t / 86400000) (by omega) 100000 (1970+t / 86400000 / 366) (sB _ (by omega)) (by omega) (by omega)
  have hs:=vd (jC (t / 86400000) 100000 (1970+t / 86400000 / 366))
  obtain ⟨b1,b2,b3,b4⟩:=C4 (jC (t / 86400000) 100000 (1970+t / 86400000 / 366)) 20 (t / 86400000 - ahead (jC (t / 86400000) 100000 (1970+t / 86400000 / 366))) 1 (by omega) (by omega)
  show (written (t % 86400000) (jC (t / 86400000) 100000 (1970+t / 86400000 / 366)) (rR (jC (t / 86400000) 100000 (1970+t / 86400000 / 366)) 20 (t / 86400000 - ahead (jC (t / 86400000) 100000 (1970+t / 86400000 / 366))) 1)).length≤300
  generalize rR (jC (t / 86400000) 100000 (1970+t / 86400000 / 366)) 20 (t / 86400000 - ahead (jC (t / 86400000) 100000 (1970+t / 86400000 / 366))) 1=q at b1 b2 b3 b4 ⊢
  obtain ⟨q1,q2⟩:=q
  simp only at b1 b2 b3 b4
  exact yu (t % 86400000) _ _ _ (by omega) (by omega) ⟨b1,by omega⟩ ⟨by omega,by omega⟩
theorem pM (b:UInt64):(number b).1.length≤10000:=by
 rw [o6]
 unfold nF
 have:=Sh.qc b
 split
 ·simp
 split
 ·simp
 ·exact Nat.le_trans this (by decide)
end Rl
mutual
theorem Ep:∀f:bA,bP.bJ (Rl.lj Rl.date f)+10 * f.name.length≤40000 * bA.bJ f
 | .mk n k b h l t m s y ks=>by
  have hk:=pP ks
  have hn:=sk (Rl.iX Rl.date ks)
  have hl:=Bt ⟨k,b,h,l,t,m,s,y,ks⟩
  have i64:=l0 (Cn.i64 b) (nc _)
  have i32:=l0 (Cn.i32 b) (nc _)
  have hd:=Rl.Hr (Cn.i64 b)
  have RF:=Rl.pM b
  have num:∀s:bz,bP.bJ ⟨4,s,[]⟩=1+s.length:=fun s=>by simp only [bP.bJ,Mem.of,Mem.bJ,Mem.cm,aB];omega
  have row:∀(x:Int) (ms:List Mem),bP.bJ ⟨x,[],ms⟩=1+Mem.cm ms:=fun x ms=>by simp only [bP.bJ,Mem.of,Mem.bJ,aB]
  simp only [Rl.lj,bA.bJ,bA.name]
  split
  ·rw [num];omega
  split
  ·rw [num];omega
  split
  ·rw [num];omega
  split
  ·rw [gq,iB];simp only [az,aB];omega
  split
  ·cases Cn.kM ks <;> simp only [ah,ae,gq,row,az,aB] <;> omega
  split
  ·cases Tree.regular ks <;> simp only [ah,ae,gq,row,az,aB] <;> omega
  split
  ·simp only [kT,row,iB,az,aB];omega
  ·simp only at hl;omega
theorem pP:∀l:List bA,Mem.cm (Rl.iX Rl.date l)≤40000 * bA.cm l
 | []=>by simp [Rl.iX,Mem.cm]
 | f :: r=>by
  have h1:=Ep f
  have h2:=pP r
  have e:Mem.bJ (Mem.of f.name (Rl.lj Rl.date f))=f.name.length+bP.bJ (Rl.lj Rl.date f):=by
   simp only [bP.bJ,Mem.of,Mem.bJ,aB];omega
  simp only [Rl.iX,Mem.cm,bA.cm,e];omega
end
theorem Bx (v:Val):bP.bJ (Rl.ko Rl.date v)≤1+40000 * bA.bJ (bA.of [] v):=by
 have h:=pP v.kids
 have hk:bA.cm v.kids+1≤bA.bJ (bA.of [] v):=by simp only [bA.of,bA.bJ];omega
 have row:∀(x:Int) (ms:List Mem),bP.bJ ⟨x,[],ms⟩=1+Mem.cm ms:=fun x ms=>by simp only [bP.bJ,Mem.of,Mem.bJ,aB]
 unfold Rl.ko Rl.ob
 split
 ·rw [row];omega
 ·rw [row];simp only [Mem.cm];omega
theorem fV.goal (v:Val) (hp:(decide (bA.bJ (bA.of [] v)≤100000))=true):fV.F v=some [.s (Rl.mT Rl.date v),.ag [.i .i64 (Rl.kW Rl.date v).2,.i .i64 0,.sl .is (Rl.kW Rl.date v).1]]:=by
 have hb:=aq hp
 have hj:=Bx v
 refine fV.bY _ ?_
 intro v1 h1 v2 h2
 rw [bx (aa (by omega))]
 unfold Rl.mT Rl.kW
 by_cases c:(Cn.iO v).2=0
 ·rw [aa c,aG,ae,ao (by simp [c]),ao (by simp [c]),bx (aa (by omega)),h1,h2]
 ·rw [ab c,aI,ah,au c,au c]
end Go.Eng
set_option maxRecDepth 20000
namespace Go.Eng
open Go.IntWalk
namespace Rl
theorem oh {s:bz} {n:Int} (h:iW s=some n):Nr.i64 n=true∧Nr.itoa n=s:=by
 unfold iW at h
 split at h
 ·rename_i hx
  cases h
  exact hx.choose_spec
 ·cases h
theorem Dn {k:Int} {b:UInt64} {n:Int} (h:jD k b=some n):Nr.i64 n=true:=by
 unfold jD at h
 split at h
 ·cases h;exact nc _
 ·split at h
  ·exact (oh h).1
  ·cases h
theorem kg (k:Int) (b:UInt64):(jD k b=none∧kt k b=(k,b))∨(∃n,jD k b=some n∧-2147483648≤n∧n<2147483648∧kt k b=(16,UInt64.ofInt (UInt32.ofInt n).toNat))∨(∃n,jD k b=some n∧¬(-2147483648≤n∧n<2147483648)∧kt k b=(18,UInt64.ofInt n)):=by
 rw [tL]
 unfold tM
 cases e:jD k b with
 | none=>exact .inl ⟨rfl,rfl⟩
 | some n =>
  right
  have hn:=aq (Dn e)
  simp only
  have key:IntKind.wrap .i64 (IntKind.wrap .i32 n)=n ↔ (-2147483648≤n∧n<2147483648):=by
   rw [QR,SK]
   constructor
   ·intro h;split at h <;> split at h <;> omega
   ·intro h;split <;> split <;> omega
  by_cases c:IntKind.wrap .i64 (IntKind.wrap .i32 n)=n
  ·rw [au c]
   exact .inl ⟨n,rfl,(key.1 c).1,(key.1 c).2,rfl⟩
  ·rw [ao c]
   exact .inr ⟨n,rfl,fun w=>c (key.2 w),rfl⟩
theorem BR {n:Int} (h : -2147483648≤n∧n<2147483648):(UInt64.ofInt ((UInt32.ofInt n).toNat:Int)).toNat=(n % 4294967296).toNat∧Cn.i32 (UInt64.ofInt ((UInt32.ofInt n).toNat:Int))=n:=by
 have e1:=qW n
 rw [wrap_u32'] at e1
 have e2:=mS ((UInt32.ofInt n).toNat:Int)
 rw [e1,jj] at e2
 rw [e1]
 have e3:(UInt64.ofInt (n % 4294967296)).toNat=(n % 4294967296).toNat:=by omega
 refine ⟨e3,?_⟩
 unfold Cn.i32
 rw [e3,QR,SK]
 split <;> split <;> omega
theorem HJ {n:Int} (h:Nr.i64 n=true):Cn.i64 (UInt64.ofInt n)=n:=by
 have h:=aq h
 have e2:=mS n
 rw [jj] at e2
 unfold Cn.i64
 rw [QR]
 split <;> omega
theorem tJ {k:Int} {b:UInt64} (h1:k≠1) (wv:k≠18):kt k b=(k,b):=by
 rcases kg k b with h | ⟨n,h,_⟩ | ⟨n,h,_⟩
 ·exact h.2
 ·unfold jD at h;rw [ao wv,ao (by rintro ⟨w,_⟩;exact h1 w)] at h;cases h
 ·unfold jD at h;rw [ao wv,ao (by rintro ⟨w,_⟩;exact h1 w)] at h;cases h
theorem Zw:∀l:List bA,(gg l).map bA.name=l.map bA.name
 | []=>by simp [gg]
 | .mk n k b h x t m s y ks :: r=>by simp only [gg,aX,Zw r,mr,bA.name]
theorem yA {v:Val} (k:List bA) (h:Tree.gW v=true) (hk:v.kind=1∨v.kind=18) {n:Int} (hn:jD v.kind v.bits=some n) (OO:v.kids=[]→k=[]) :
  Tree.own ⟨(kt v.kind v.bits).1,(kt v.kind v.bits).2,v.high,v.low,v.text,v.more,v.sub,v.bytes,k⟩=0:=by
 obtain ⟨_,b1,b2,b3,b4,b5,b6,_⟩:=Er h
 have n1:∀i:Nat,i≠0→Tree.nO i v.kind=false:=fun i hi=>by
  rcases hk with e | e <;> rw [e] <;> (match i,hi with
   | 1,_=>rfl
   | 2,_=>rfl
   | 3,_=>rfl
   | 4,_=>rfl
   | 5,_=>rfl
   | (q+6),_=>rfl)
 have b1:=b1.resolve_left (by rw [n1 1 (by decide)];simp)
 have b2:=b2.resolve_left (by rw [n1 2 (by decide)];simp)
 have b3:=b3.resolve_left (by rw [n1 3 (by decide)];simp)
 have b4:=b4.resolve_left (by rw [n1 4 (by decide)];simp)
 have b5:=b5.resolve_left (by rw [n1 5 (by decide)];simp)
 have b6:=b6.resolve_left (by rw [n1 6 (by decide)];simp)
 rw [b1.1,b1.2,b2,b3,b4,b5,OO b6]
 rcases kg v.kind v.bits with ⟨e,_⟩ | ⟨m,_,m1,m2,e⟩ | ⟨m,_,_,e⟩
 ·rw [hn] at e;cases e
 ·rw [e]
  have hb:=(BR ⟨m1,m2⟩).1
  have gk:UInt64.ofInt ((UInt32.ofInt m).toNat:Int)<4294967296:=by
   rw [aT,hb]
   show _<4294967296
   omega
  simp only
  generalize UInt64.ofInt ((UInt32.ofInt m).toNat:Int)=q at gk
  unfold Tree.own
  rw [ao (show ¬Tree.name (16:Int)=[] by decide),ao,ao (show ¬(Tree.fZ [] (decide ((16:Int)=11))=false∨Tree.fZ [] (decide ((16:Int)=11))=false) by decide)]
  simp [Tree.gW,Tree.nO,gk]
 ·rw [e]
  simp only
  generalize UInt64.ofInt m=q
  unfold Tree.own
  rw [ao (show ¬Tree.name (18:Int)=[] by decide),ao,ao (show ¬(Tree.fZ [] (decide ((18:Int)=11))=false∨Tree.fZ [] (decide ((18:Int)=11))=false) by decide)]
  simp [Tree.gW,Tree.nO]
mutual
theorem vD:∀(f:bA) (p:List Int),(Tree.gQ f p).2=0→(Tree.gQ (mr f) p).2=0
 | .mk n k b h l t m s y ks,p,c=>by
  have hL:=fun c=>vC ks 0 p c
  rw [Tree.gQ] at c
  by_cases d:Tree.oC ⟨k,b,h,l,t,m,s,y,ks⟩ n=0
  ·rw [ao (by simp [d])] at c
   have o:=uo d
   obtain ⟨_,f1⟩:=DL o
   have hw:Tree.fZ n true=true:=by
    unfold Tree.oC at d
    rw [ao (by simp [o])] at d
    cases e:Tree.fZ n true with
    | true=>rfl
    | false=>rw [au e] at d;exact absurd d (by decide)
   have o2:Tree.own ⟨(kt k b).1,(kt k b).2,h,l,t,m,s,y,gg ks⟩=0:=by
    cases e:jD k b with
    | none =>
     rcases kg k b with ⟨_,e2⟩ | ⟨q,e2,_⟩ | ⟨q,e2,_⟩
     ·rw [e2]
      unfold Tree.own at o ⊢
      unfold Tree.gW at o ⊢
      have hk:(gg ks=[])=(ks=[]):=by cases ks <;> simp [gg]
      simp only [hk]
      exact o
     ·rw [e] at e2;cases e2
     ·rw [e] at e2;cases e2
    | some q =>
     have hk:k=1∨k=18:=by
      unfold jD at e
      split at e
      ·rename_i w;exact .inr w
      ·split at e
       ·rename_i w;exact .inl w.1
       ·cases e
     exact yA (v:=⟨k,b,h,l,t,m,s,y,ks⟩) (gg ks) f1 hk e (fun w=>by simp only at w;rw [w];simp [gg])
   rw [mr,Tree.gQ]
   have:Tree.oC ⟨(kt k b).1,(kt k b).2,h,l,t,m,s,y,gg ks⟩ n=0:=by
    unfold Tree.oC
    rw [ao (by simp [o2]),ao (by simp [hw])]
   rw [ao (by simp [this])]
   exact hL c
  ·rw [au d] at c;exact (d c).elim
theorem vC:∀(l:List bA) (i:Nat) (p:List Int),(Tree.ka l i p).2=0→(Tree.ka (gg l) i p).2=0
 | [],_,_,h=>by rw [gg];exact h
 | f :: r,i,p,c=>by
  obtain ⟨c1,c2⟩:=pX c
  have h1:=vD f _ c1
  have h2:=vC r _ p c2
  rw [gg,Tree.ka,ao (by simp [h1])]
  exact h2
end
end Rl
end Go.Eng
set_option maxRecDepth 20000
namespace Go.Eng
open Go.IntWalk
namespace Sh
theorem vS:Nr.nI 4607182418800017408=4503599627370496∧Nr.sh 4607182418800017408=1022:=by decide +kernel
theorem xl:jO 4607182418800017408=4503599627370496∧iG 4607182418800017408=4503599627370496:=by
 unfold jO iG;rw [vS.1,vS.2];decide +kernel
theorem Ly:dx 4607182418800017408=1:=by
 have h1:=pk (p:=4607182418800017408) (by decide) 0
 have h2:=pk (p:=4607182418800017408) (by decide) 1
 rw [xl.1,xl.2] at h1 h2
 have g1:=h1.1 (by decide +kernel)
 have g2:¬(1:Int)<dx 4607182418800017408:=fun c=>absurd (h2.2 c) (by decide +kernel)
 omega
theorem Lx:Nr.rd 1 0=some 4607182418800017408:=by
 unfold Nr.rd
 refine Nr.lJ (by decide) (by decide) ?_ (.inr ?_)
 ·unfold Nr.gZ;decide +kernel
 ·unfold Nr.gZ;decide +kernel
theorem C2:Nr.dec 1=[49]:=(Nr.pW 1 [49] (by decide) (by decide) (by decide) (by decide)).symm
theorem FQ:some_ 4607182418800017408 (jO 4607182418800017408) (iG 4607182418800017408) (dx 4607182418800017408) 1=some ([49],1):=by
 rw [xl.1,xl.2,Ly]
 have hP:tA 4503599627370496 (1 - 1) / tB 4503599627370496 (1 - 1)=1:=by decide +kernel
 have hR:2 * (tA 4503599627370496 (1 - 1) % tB 4503599627370496 (1 - 1))<tB 4503599627370496 (1 - 1):=by decide +kernel
 have hr:reads 4607182418800017408 1 (1 - 1)=some ([49],1):=by
  rw [show ((1:Int) - 1)=0 by decide,lQ Lx,C2];rfl
 unfold some_
 simp only
 rw [hP,hr,au ⟨rfl,.inr (.inl hR)⟩]
theorem Bj:digits 4607182418800017408=([49],1):=go_hit FQ
theorem kK:(Nr.split 4607182418800017408).1=2∧(Nr.split 4607182418800017408).2.1=false:=by decide +kernel
theorem Ct:kx 4607182418800017408=4607182418800017408:=by decide +kernel
theorem FP:text 4607182418800017408=[49]:=by
 obtain ⟨z1,z2,z3⟩:=BM kK.1
 rw [Ct,Bj] at z1 z2
 rw [sL];unfold tP
 rw [ao (by rw [kK.1];decide),ao (by rw [kK.1];decide),ao (by rw [kK.1];decide),z1,z2]
 unfold sign
 rw [ao (by rw [kK.2];decide)]
 rfl
end Sh
theorem uq:Rl.number 4607182418800017408=([49],true):=by
 rw [Rl.o6]
 unfold Rl.nF
 rw [ao (by rw [Sh.kK.1];decide),ao (by rw [Sh.kK.1];decide),Sh.FP,Sh.Ct]
 rfl
theorem DO:Rl.iW [49]=some 1:=by
 have h:Nr.itoa 1=[49]:=by rw [Nr.lC,ao (by decide)];exact Sh.C2
 unfold Rl.iW
 have he:∃n,Nr.i64 n=true∧Nr.itoa n=[49]:=⟨1,by decide,h⟩
 rw [dif_pos he]
 congr 1
 exact zG (he.choose_spec.2.trans h.symm)
def EJ:Val:=⟨3,0,0,0,[],[],0,[],[.mk [97] 1 4607182418800017408 0 0 [] [] 0 [] []]⟩
theorem BW:Cn.iO EJ=([],0):=by decide +kernel
theorem Dd:Rl.ko Rl.date EJ=⟨7,[],[.mk [97] 4 [49] []]⟩:=by
 unfold Rl.ko
 rw [BW,au rfl]
 unfold Rl.ob EJ
 simp only [Rl.iX,Rl.lj]
 simp [Mem.of,uq,bA.name]
theorem HV:Cn.mq (Rl.ko Rl.date EJ)=0:=by
 rw [Dd]
 simp only [Cn.mq,Mem.of,Cn.BO,Cn.uV,Mem.name]
 have h1:fR.whole [97]=true:=by decide +kernel
 have h2:fR.whole [49]=true:=by decide +kernel
 have h3:Nr.jf [49]≠0:=by decide +kernel
 simp [h1,h2,h3]
theorem Nb:Cn.uF (Rl.ko Rl.date EJ)=[123,34,97,34,58,49,125]:=by
 rw [Dd];decide +kernel
theorem JV:Rl.kt 1 4607182418800017408=(16,1):=by
 rw [Rl.tL]
 unfold Rl.tM Rl.jD
 rw [ao (by decide),uq,au ⟨rfl,rfl⟩,DO]
 decide +kernel
theorem JW:Rl.diff EJ (Rl.ie EJ)=some [[0]]:=by
 have e:Rl.ie EJ=⟨3,0,0,0,[],[],0,[],[.mk [97] 16 1 0 0 [] [] 0 [] []]⟩:=by
  unfold Rl.ie EJ
  simp only [Rl.gg,Rl.mr,JV]
  rw [Rl.tJ (by decide) (by decide)]
 rw [e]
 decide +kernel
theorem dG.goal:dG.F=some [.b true]:=by
 refine dG.bY ?_
 intro v1 h1 v2 h2 v3 h3 v4 h4 v5 h5 v6 h6 v7 h7 v8 h8
 have e0:(⟨3,0,0,0,[],[],0,[],v1⟩:Val)=EJ:=by rw [h1];rfl
 rw [e0] at h2 h3 h4 h6 ⊢
 have eE:Rl.kW Rl.date EJ=([],0):=by unfold Rl.kW;rw [BW,ao (by simp),HV]
 have eV:Rl.mT Rl.date EJ=[123,34,97,34,58,49,125]:=by
  unfold Rl.mT Cn.pK;rw [BW,ao (by simp),HV,Nb];rfl
 have e5:v5=true:=by rw [h5,h3,h2,eE,eV];rfl
 have e6:v6=[[0]]:=by rw [h6,JW];rfl
 have e8:v8=true:=by rw [h8,e5,h7,e6];rfl
 rw [bx (by decide +kernel),bx (jR _),bx (jR _),e5,e6,e8]
 rw [show decide (bA.bJ (bA.of [] EJ)≤10000000)=true by decide +kernel]
 rfl
end Go.Eng
set_option maxRecDepth 20000
namespace Go.Eng
open Go.IntWalk
theorem Zg.goal (b:UInt64):Zg.F b=some [.i .i64 (Cn.i32 b)]:=by
 refine Zg.bY _ ?_
 intro v1 h1 v2 h2
 have e:IntKind.i32.wrap ((UInt32.ofInt ((b.toNat:Nat):Int)).toNat:Int)=IntKind.i32.wrap (b.toNat:Int):=by
  have e1:=qW (b.toNat:Int)
  rw [wrap_u32'] at e1
  rw [e1,SK,SK]
  split <;> split <;> omega
 rw [h2,h1,e];rfl
theorem Zb.goal (v:Val):Zb.F v=some [.i .i64 ((Rl.Zj (Val.kind v) (Val.bits v)).getD 0),.b (Rl.Zj (Val.kind v) (Val.bits v)).isSome]:=by
 refine Zb.bY _ ?_
 intro v1 h1 v2 h2 v3 h3
 unfold Rl.Zj
 by_cases k:v.kind=16
 ·rw [aa k,ah,au k];rfl
 rw [ab k,ae,ao k]
 by_cases k:v.kind=18
 ·rw [aa k,ah,au k,h1];rfl
 rw [ab k,ae,ao k]
 by_cases k:v.kind=1
 ·rw [aa k,ah,au k,h2,h3]
 rw [ab k,ae,ao k];rfl
theorem Y5.jd (neg:Bool):∀(n:Nat) (m:UInt64),n≤64→m.toNat * 2 ^ n<18446744073709551616→Y5.l2 neg m (n:Int)=some [.i .i64 ((Rl.Zm neg (m.toNat * 2 ^ n)).getD 0),.b (Rl.Zm neg (m.toNat * 2 ^ n)).isSome]
 | 0,m,hn,hm=>by
  refine Y5.iu _ _ _ ?_
  intro v1 h1 v2 h2 v3 h3 v4 h4 v5 h5 v6 h6
  have hl:=m.toNat_lt
  have e9:(m≤(9223372036854775808:UInt64)) ↔ m.toNat≤9223372036854775808:=aJ
  have e8:((9223372036854775808:UInt64)≤m) ↔ 9223372036854775808≤m.toNat:=aJ
  rw [ab (by omega),ae]
  simp only [jR,Q5,bU,Nat.pow_zero,Nat.mul_one]
  unfold Rl.Zm
  cases neg with
  | true =>
   rw [h2,ah,h5,ah]
   by_cases c:m.toNat≤9223372036854775808
   ·rw [aa (e9.2 c),ah,au ⟨rfl,c⟩]
    have e3:v4=-(m.toNat:Int):=by
     by_cases z:m.toNat=0
     ·have:m=0:=bm.1 z
      subst this
      rw [h4,h3];decide
     ·have es:(m - 1).toNat=m.toNat - 1:=by
       rw [UInt64.toNat_sub_of_le _ _ (aJ.2 (by show 1≤m.toNat;omega))];rfl
      rw [es,i64_in _ (by omega)] at h3
      rw [h3,i64_in (0 - _) (by omega),i64_in _ (by omega)] at h4
      omega
    rw [e3];rfl
   ·rw [ab (fun w=>c (e9.1 w)),ae,ah,ao (by rintro ⟨_,w⟩;exact c w),au (.inl rfl)];rfl
  | false =>
   rw [h2,ae,ae,h5,ae,ao (by rintro ⟨w,_⟩;cases w)]
   by_cases c:9223372036854775808≤m.toNat
   ·rw [aa (e8.2 c),ah,au (.inr c)];rfl
   ·rw [ab (fun w=>c (e8.1 w)),ae,ao (by rintro (w | w);cases w;exact c w),h6,i64_in _ (by omega)];rfl
 | n+1,m,hn,hm=>by
  refine Y5.iu _ _ _ ?_
  intro v1 h1 v2 h2 v3 h3 v4 h4 v5 h5 v6 h6
  rw [Nat.pow_succ] at hm
  have hp:1≤2 ^ n:=Nat.one_le_two_pow
  have OJ:m.toNat * 2≤m.toNat * (2 ^ n * 2):=Nat.mul_le_mul_left _ (by omega)
  have e2:(m * 2).toNat=m.toNat * 2:=by
   rw [UInt64.toNat_mul];show m.toNat * 2 % 18446744073709551616=_
   exact Nat.mod_eq_of_lt (by omega)
  have e:(m * 2).toNat * 2 ^ n=m.toNat * (2 ^ n * 2):=by rw [e2,Nat.mul_assoc,Nat.mul_comm 2]
  rw [aa (by omega),ah,h1,i64_in _ (by omega),show ((n+1:Nat):Int) - 1=(n:Int) by omega,Y5.jd neg n (m * 2) (by omega) (by rw [e];exact hm),e,Nat.pow_succ]
theorem Y5.cO (neg:Bool):∀(n:Nat) (m:UInt64),n≤2000→Y5.l1 neg m (-(n:Int))=if m.toNat % 2 ^ n≠0 then some [.i .i64 0,.b false] else some [.i .i64 ((Rl.Zm neg (m.toNat / 2 ^ n)).getD 0),.b (Rl.Zm neg (m.toNat / 2 ^ n)).isSome]
 | 0,m,_=>by
  refine Y5.bX _ _ _ ?_
  intro v1 h1
  have:=Y5.jd neg 0 m (by omega) (by rw [Nat.pow_zero,Nat.mul_one];exact m.toNat_lt)
  rw [Nat.pow_zero,Nat.mul_one] at this
  rw [ab (by omega),ae,Nat.pow_zero,Nat.mod_one,ao (by omega),Nat.div_one]
  exact this
 | n+1,m,hn=>by
  refine Y5.bX _ _ _ ?_
  intro v1 h1
  have e2:(m % 2=0) ↔ m.toNat % 2=0:=by
   rw [←bm,UInt64.toNat_mod];rfl
  have e3:(m / 2).toNat=m.toNat / 2:=by rw [UInt64.toNat_div];rfl
  have e4:m.toNat % 2 ^ (n+1)=m.toNat % 2+2 * (m.toNat / 2 % 2 ^ n):=by rw [Nat.pow_succ,Nat.mul_comm,Nat.mod_mul]
  rw [aa (by omega),ah,bx (by decide)]
  by_cases c:m.toNat % 2=0
  ·rw [aa (e2.2 c),aG,ae,bx (by decide),h1,i64_in _ (by omega),show -((n+1:Nat):Int)+1=-(n:Int) by omega,Y5.cO neg n (m / 2) (by omega),e3,e4,c,Nat.zero_add,Nat.div_div_eq_div_mul,←Nat.pow_succ']
   by_cases d:m.toNat / 2 % 2 ^ n=0
   ·rw [ao (by omega),ao (by omega)]
   ·rw [au (by omega),au (by omega)]
  ·rw [ab (fun w=>c (e2.1 w)),aI,ah,au (by omega)]
theorem Y5.goal (b:UInt64):Y5.F b=some [.i .i64 ((Rl.Zl b).getD 0),.b (Rl.Zl b).isSome]:=by
 refine Y5.bY _ ?_
 intro v1 h1 v2 h2
 rw [Rl.ZF]
 unfold Rl.Zp
 by_cases k1:(Nr.split b).1=1
 ·rw [aa k1,ah,au k1];rfl
 rw [ab k1,ae,ao k1,bx (jR _)]
 by_cases k2:(Nr.split b).1=2
 ·rw [aa k2] at h1 h2 ⊢
  rw [aG,ae] at h2
  have e1:v1=true:=h1
  rw [e1,bx (by rfl),h2]
  by_cases k3:11<(Nr.split b).2.2.2
  ·rw [aa k3,ah,au (.inr k3)];rfl
  rw [ab k3,ae,ao (by omega)]
  obtain ⟨q1,q2,q3,q4⟩:=vG k2
  have hm:(Nr.split b).2.2.1.toNat<9007199254740992:=by rw [q3];unfold Nr.nI;split <;> omega
  unfold Rl.ZR
  by_cases k4:(Nr.split b).2.2.2<0
  ·obtain ⟨n,hn⟩:∃n:Nat,(Nr.split b).2.2.2=-(n:Int):=⟨(-(Nr.split b).2.2.2).toNat,by omega⟩
   rw [hn,Y5.cO _ n _ (by omega),au (by omega : -(n:Int)<0),show (- -(n:Int)).toNat=n by omega]
   by_cases d:(Nr.split b).2.2.1.toNat % 2 ^ n=0
   ·rw [ao (by omega),ao (by rintro ⟨_,w⟩;exact w d)]
   ·rw [au d,au ⟨by omega,d⟩];rfl
  ·obtain ⟨n,hn⟩:∃n:Nat,(Nr.split b).2.2.2=(n:Int):=⟨(Nr.split b).2.2.2.toNat,by omega⟩
   rw [hn,ao (by omega),ao (by omega),show ((n:Int)).toNat=n by omega]
   refine Y5.bX _ _ _ ?_
   intro w1 _
   have hp:2 ^ n≤2048:=Nat.pow_le_pow_right (n:=2) (j:=11) (by omega) (by omega)
   have:(Nr.split b).2.2.1.toNat * 2 ^ n≤9007199254740991 * 2048:=Nat.mul_le_mul (by omega) hp
   rw [ab (by omega),ae]
   exact Y5.jd _ n _ (by omega) (Nat.lt_of_le_of_lt this (by decide))
 ·rw [ab k2] at h1 h2 ⊢
  rw [bx (by rfl),h2,aI,ah,ah,au (.inl k2)];rfl
end Go.Eng
set_option maxRecDepth 20000
namespace Go.Eng
open Go.IntWalk
def ZN (o:List (List Int)):Option (List (List Int))→OT
 | some l=>some [.sl .od (o++l),.b true]
 | none=>some [.sl .od [],.b false]
theorem Z5 (c:Bool):(!(!(!c)) || (!(!c)))=true∧((!c) || (!(!c)))=true∧(!(!c) || (!c))=true∧(c || (!c))=true:=by cases c <;> decide
theorem tt2 (c d:Bool) (h:d=true):(!(!(!c)) || (((!(!c))&&(!(!c)))&&d))=true∧(!(!c) || (((!c)&&(!c))&&d))=true:=by subst h;cases c <;> decide
theorem tt3 (c:Bool):(!(!(!c)) || ((!(!c))&&(!(!c))))=true∧(!(!c) || ((!c)&&(!c)))=true:=by cases c <;> decide
theorem Y2.jd (n:Nat) (a b:Val) (p:List Int) (hl:a.kids.length=b.kids.length) (hp:p.length+1+bA.cm a.kids≤1000000000) (hn:bA.cm a.kids<n):∀(m i:Nat) (o:List (List Int)),i+m=a.kids.length→o.length+bA.cm (a.kids.drop i)≤1000000001 →
  Y2.l2 n p (i:Int) a b o=ZN o (Rl.mf (a.kids.drop i) (b.kids.drop i) i p)
 | 0,i,o,hi,ho=>by
  refine Y2.iu _ _ _ _ _ _ ?_
  intro v1 h1 v2 h2 v3 h3 v4 h4 v5 h5 v6 h6 v7 h7
  rw [ab (by omega),ae,aC (by omega),aC (by omega)]
  simp [Rl.mf,ZN]
 | m+1,i,o,hi,ho=>by
  have hk:=ma a.kids
  refine Y2.iu _ _ _ _ _ _ ?_
  intro v1 h1 v2 h2 v3 h3 v4 h4 v5 h5 v6 h6 v7 h7
  rw [ak] at h2 h3
  have e7:v7=((i+1:Nat):Int):=by rw [h7,i64_in _ (by omega)];omega
  have hf:=xJ (l:=a.kids) (i:=i) (by omega) (fx.gm .fl)
  rw [←h2] at hf
  have hv:=s4 v2
  have hd:a.kids.drop i=v2 :: a.kids.drop (i+1):=by rw [h2];exact drop_cons (by omega) _
  have hd2:b.kids.drop i=v3 :: b.kids.drop (i+1):=by rw [h3];exact drop_cons (by omega) _
  rw [hd] at ho
  simp only [bA.cm] at ho
  have c1:((decide (bA.bJ (bA.of [] (bA.val v2))+(p++[(i:Int)]).length≤1000000000))&&decide (bA.bJ (bA.of [] (bA.val v2))<n))=true:=by
   rw [af]
   exact ⟨aa (by simp only [aj,ay];omega),aa (by omega)⟩
  rw [Rl.EC] at h4 h5
  rw [aa (by omega),ah,bx (bN (by omega) (by omega)),bx (bN (by omega) (by omega)),bx (aa (by omega)),bx c1]
  rw [bx (Z5 _).1,bx (tt2 _ _ (bN (by omega) (by omega))).1,bx (Z5 _).1,bx (Z5 _).1,bx (Z5 _).1,bx (tt2 _ _ (bN (by omega) (by omega))).1,bx (Z5 _).1,bx (Z5 _).1,bx (tt3 _).1,bx (Z5 _).2.1,hd,hd2,Rl.mf,h6]
  cases e:Rl.mG v2 v3 (p++[(i:Int)]) with
  | none =>
   rw [e] at h5
   rw [h5]
   by_cases c:v2.name=v3.name
   ·rw [ao (by simp [c])];rfl
   ·rw [au c];rfl
  | some l =>
   have OK:=Rl.wJ _ _ _ _ e
   rw [e] at h4 h5
   rw [h5]
   by_cases c:v2.name=v3.name
   ·rw [aa c,ao (by simp [c])]
    simp only [Option.isSome_some,aG,ae]
    rw [h4,Option.getD_some,bx (dP (by omega) (by omega)),e7,Y2.jd n a b p hl hp hn m (i+1) (o++l) (by omega) (by rw [aj];omega),Option.bind_some]
    cases Rl.mf (a.kids.drop (i+1)) (b.kids.drop (i+1)) (i+1) p with
    | none=>rfl
    | some q=>simp only [ZN,Option.map_some,aE]
   ·rw [ab c,au c];rfl
theorem Y2.goal (n:Nat) (a b:Val) (p:List Int) (hp:(decide (bA.bJ (bA.of [] a)+p.length≤1000000000)&&decide (bA.bJ (bA.of [] a)<n+1))=true):Y2.F n a b p=some [.sl .od ((Rl.mG (bA.of [] a) (bA.of [] b) p).getD []),.b (Rl.mG (bA.of [] a) (bA.of [] b) p).isSome]:=by
 rw [af] at hp
 obtain ⟨h1,h2⟩:=hp
 have h1:=aq h1
 have h2:=aq h2
 have hb:bA.cm a.kids<bA.bJ (bA.of [] a):=by simp only [bA.of,bA.bJ];omega
 refine Y2.bY _ _ _ _ ?_
 intro v1 e1 v2 e2
 have hD:Rl.mG (bA.of [] a) (bA.of [] b) p=if a.kids.length≠b.kids.length then none else (Rl.mf a.kids b.kids 0 p).map fun r=>(if Tree.nD a b then [] else [p])++r:=by
  simp only [bA.of,Rl.mG]
 rw [hD]
 by_cases c:a.kids.length=b.kids.length
 ·rw [aa (by omega),aG,ae,ao (by simp [c])]
  have key:∀o:List (List Int),o.length≤1→Y2.j1 n p a b o=ZN o (Rl.mf a.kids b.kids 0 p):=fun o ho=>by
   rw [Y2.lg]
   have:=Y2.jd n a b p c (by omega) (by omega) a.kids.length 0 o (by omega) (by rw [bh];omega)
   rw [bh,bh] at this
   exact this
  by_cases d:Tree.nD a b=true
  ·rw [d,aG,ae,key [] (by simp),au rfl]
   cases Rl.mf a.kids b.kids 0 p <;> rfl
  ·rw [Bool.eq_false_iff.2 d,aI,ah,bx (dP (by simp) (by simp)),key [p] (by simp),ao (by simp)]
   cases Rl.mf a.kids b.kids 0 p <;> rfl
 ·rw [ab (by omega),aI,ah,au c];rfl
theorem Ze.goal (a b:Val) (hp:decide (bA.bJ (bA.of [] a)≤100000000)=true):Ze.F a b=some [.sl .od ((Rl.diff a b).getD []),.b (Rl.diff a b).isSome]:=by
 have hp:=aq hp
 refine Ze.bY _ _ ?_
 intro v1 h1 v2 h2
 rw [bx (aa (by simp;omega)),h1,h2];rfl
theorem Y9.cO (p:List Int) (z:Val) (hp:p.length≤1000000000):∀(m i:Nat) (v:Val),i+m=p.length→bA.bJ (bA.of [] v)≤100000000→Y9.l1 p (i:Int) v z=some [.ag (Val.cells ((Rl.get v (p.drop i)).getD Rl.zeroV)),.b (Rl.get v (p.drop i)).isSome]
 | 0,i,v,hi,hb=>by
  refine Y9.bX _ _ _ _ ?_
  intro v1 h1 v2 h2 v3 h3 v4 h4 v5 h5
  rw [ab (by omega),ae,aC (by omega)];rfl
 | m+1,i,v,hi,hb=>by
  refine Y9.bX _ _ _ _ ?_
  intro v1 h1 v2 h2 v3 h3 v4 h4 v5 h5
  rw [ak] at h1
  have e5:v5=((i+1:Nat):Int):=by rw [h5,i64_in _ (by omega)];omega
  have hd:p.drop i=v1 :: p.drop (i+1):=by rw [h1];exact drop_cons (by omega) _
  rw [aa (by omega),ah,bx (bN (by omega) (by omega)),bx (tt2 _ _ (bN (by omega) (by omega))).2,bx (Z5 _).2.2.1,bx (Z5 _).2.2.1,bx (Z5 _).2.2.1,bx (tt3 _).2,bx (Z5 _).2.2.2,hd,Rl.get,h3,h2]
  by_cases c:v1<0∨(v.kids.length:Int)≤v1
  ·have:(cond (decide (v1<0)) true (decide ((v.kids.length:Int)≤v1)))=true:=by
    by_cases d:v1<0
    ·rw [aa d];rfl
    ·rw [ab d,ae,aa (by omega)]
   rw [this,ah,au c];rfl
  ·rw [ab (by omega),ae,ab (by omega),ae,ao c,bx (bN (by omega) (by omega)),bx (D8.2 ⟨by omega,by omega⟩),e5]
   have hf:=xJ (l:=v.kids) (i:=v1.toNat) (by omega) (fx.gm .fl)
   have hv:=s4 v4
   rw [←h4] at hf ⊢
   refine Y9.cO p z hp m (i+1) v4.val (by omega) ?_
   have:bA.cm v.kids<bA.bJ (bA.of [] v):=by simp only [bA.of,bA.bJ];omega
   omega
theorem Y9.goal (v:Val) (p:List Int) (hp:decide (bA.bJ (bA.of [] v)≤100000000∧p.length≤1000000000)=true):Y9.F v p=some [.ag (Val.cells ((Rl.get v p).getD Rl.zeroV)),.b (Rl.get v p).isSome]:=by
 obtain ⟨h1,h2⟩:=aq hp
 rw [Y9.dW]
 exact Y9.cO p _ h2 p.length 0 v (by omega) h1
end Go.Eng
set_option maxRecDepth 20000
namespace Go.Eng
theorem Ls (M:Nat) (hM:M≤18446744073709551615) (n:Nat):n≤M→∀r:bz,Lib.parseUintM M 0 (Nr.dec n++r)=Lib.parseUintM M n r:=by
 have step:∀(a d:Nat) (r:bz),d<10→a * 10+d≤M→Lib.parseUintM M a (UInt8.ofNat (48+d) :: r)=Lib.parseUintM M (a * 10+d) r:=fun a d r hd h=>by
  have e:(UInt8.ofNat (48+d)).toNat=48+d:=by rw [UInt8.toNat_ofNat'];omega
  simp only [Lib.parseUintM,e]
  rw [au (by omega),ao (by omega),ao (by omega),show 48+d - 48=d by omega]
 induction n using Nat.strongRecOn with
 | _ n ih =>
  intro hn r
  rw [Nr.dec]
  by_cases h:n<10
  ·rw [au h,List.singleton_append,step 0 n r h (by omega)]
   rw [Nat.zero_mul,Nat.zero_add]
  ·rw [ao h,aE,ih (n / 10) (by omega) (by omega),List.singleton_append,step (n / 10) (n % 10) r (by omega) (by omega),show n / 10 * 10+n % 10=n by omega]
theorem Cm (n:Nat) (h:n≤9223372036854775808):Lib.parseUintB 64 (Nr.dec n) = .ok n:=by
 unfold Lib.parseUintB
 rw [ao (Nr.j8 n).2.2.1]
 have:=Ls 18446744073709551615 (Nat.le_refl _) n (by omega) []
 rw [bj] at this
 exact this
theorem um (n:Int) (h:Nr.i64 n=true):Lib.parseIntB 64 (Nr.itoa n) = .ok n:=by
 have h:=aq h
 rw [Nr.lC]
 by_cases c:n<0
 ·rw [au c,Lib.parseIntB_minus,Cm _ (by omega)]
  show (if (9223372036854775808:Nat)<n.natAbs then Lib.NumEnd.range else .ok (-(n.natAbs:Int)))=_
  rw [ao (by omega)]
  congr 1;omega
 ·rw [ao c]
  have hd:=uU n.natAbs
  have e:=Cm n.natAbs (by omega)
  cases hl:Nr.dec n.natAbs with
  | nil=>exact absurd hl (Nr.j8 _).2.2.1
  | cons a r =>
   rw [hl] at hd e
   have h1:a≠45:=hd.1
   have h2:Nr.eU a=true:=hd.2
   have h3:a.toNat≠43:=fun w=>by
    have:a=43:=UInt8.toNat_inj.1 w
    rw [this] at h2;revert h2;decide
   rw [Lib.parseIntB_plain 64 a r h3 (fun w=>h1 (UInt8.toNat_inj.1 w)),e]
   show (if (9223372036854775808:Nat)≤n.natAbs then Lib.NumEnd.range else .ok (n.natAbs:Int))=_
   rw [ao (by omega)]
   congr 1;omega
theorem Dj {s:bz} {v:Int} (hv:Nr.i64 v=true) (h:Nr.itoa v=s):Rl.iW s=some v:=by
 unfold Rl.iW
 have he:∃n,Nr.i64 n=true∧Nr.itoa n=s:=⟨v,hv,h⟩
 rw [dif_pos he]
 congr 1
 exact zG (he.choose_spec.2.trans h.symm)
theorem sa {s:bz} (h:∀v,Nr.i64 v=true→Nr.itoa v≠s):Rl.iW s=none:=by
 unfold Rl.iW
 rw [dif_neg]
 rintro ⟨n,h1,h2⟩
 exact h n h1 h2
theorem vP {s:bz} {v:Int} (h:Lib.parseIntB 64 s = .ok v):Nr.i64 v=true:=by
 have:=Lib.parseIntB_bounds h
 have e:((2 ^ (64 - 1):Nat):Int)=9223372036854775808:=by decide
 rw [e] at this
 exact aa (by omega)
theorem Di {s:bz} {v:Int} (h:Lib.parseIntB 64 s = .ok v):Rl.iW s=if Nr.itoa v=s then some v else none:=by
 by_cases c:Nr.itoa v=s
 ·rw [au c];exact Dj (vP h) c
 ·rw [ao c]
  exact sa fun n hn e=>by
   have:=um n hn
   rw [e,h] at this
   cases this
   exact c e
theorem tz {s:bz} (h:∀v,Lib.parseIntB 64 s ≠ .ok v):Rl.iW s=none:=sa fun n hn e=>h n (by rw [←e];exact um n hn)
end Go.Eng
namespace Go.Eng
open Go.RowKit Go.Proofs
variable {ee:Errs}
set_option maxRecDepth 100000
set_option maxHeartbeats 1000000
theorem Iu {R:Reach} {w:World} (n:Int) (hn:Nr.i64 n=true) (hG:GlOK (cnGl ee) R w) :
  Calls Tryz.prog 56 #[.int .i64 n] w fun e w'=>e = .returned (.string ⟨⟨Nr.itoa n⟩⟩)∧Below w.heap.size w w':=by
 have hp:=aq (Nr.BB hn)
 go_enter Tryz.func56,Tryz.ntmps56
 go_wp2_with (go_at_call 95;refine (Any.strconv_FormatInt_10 Tryz.zo n hp.1 hp.2 w (sS hG)).mono ?_;rintro e w' ⟨rfl,q,os,rfl⟩)
 go_ret
 exact ⟨by rw [sU];rfl,nR _ _ _⟩
theorem HS {w W1 W2:World} (h1:Below w.heap.size w W1) (h2:Below W1.heap.size W1 W2):Below w.heap.size w W2 :=
 ⟨h2.os.trans h1.os,h2.tape.trans h1.tape,h2.output.trans h1.output,by have:=h1.size;have:=h2.size;omega,fun k hk=>(h2.block k (by have:=h1.size;omega)).trans (h1.block k hk)⟩
theorem Ej {R:Reach} {w w':World} (hR:∀b o,R b o→b<w.heap.size) (h:Below w.heap.size w w') (hG:GlOK (cnGl ee) R w):GlOK (cnGl ee) R w':=hG.dM (pg (io:=fun _=>False) hR h).dM
theorem JF {R:Reach} {w:World} (hG:GlOK (cnGl ee) R w):w.cell? ⟨0,0,none⟩=some ee.1.1:=(hG 0 [ee.1.1] rfl 0).2
theorem JG {R:Reach} {w:World} (hG:GlOK (cnGl ee) R w):w.cell? ⟨1,0,none⟩=some ee.1.2:=(hG 1 [ee.1.2] rfl 0).2
theorem E3 {R:Reach} {w:World} (s:bz) (hs:s.length≤281474976710656) (hR:∀b o,R b o→b<w.heap.size) (hG:GlOK (cnGl ee) R w) :
  Calls Tryz.prog 34 #[.string ⟨⟨s⟩⟩] w fun e w'=>e = .returned (.tuple #[.int .i64 ((Rl.iW s).getD 0),.bool (Rl.iW s).isSome])∧Below w.heap.size w w':=by
 have sY:(⟨⟨s⟩⟩:ByteArray).size≤281474976710656:=by show (⟨s⟩:Array UInt8).size≤_;rw [List.size_toArray];exact hs
 rcases h:Lib.parseIntB 64 s with v | _ | _
 ·
  have hv:=vP h
  rw [Di h]
  go_enter Tryz.func34,Tryz.ntmps34
  go_wp2_with (go_at_call 55;refine (Any.strconv_ParseInt_10_at64_ok Tryz.uE ⟨⟨s⟩⟩ (by omega) v h w).mono ?_;rintro e W1 ⟨rfl,hW⟩)
  have CP:Below w.heap.size w W1:=by
   rcases hW with rfl | ⟨t,rfl⟩
   ·exact Below.refl _ _
   ·exact Go.Joins.below_bytesWorld _ _ _ _ (Nat.le_refl _)
  have Qr:=Ej hR CP hG
  go_at_call 56
  refine (Iu v hv Qr).mono ?_
  rintro e W2 ⟨rfl,GQ⟩
  have hb:=HS CP GQ
  by_cases c:Nr.itoa v=s
  ·go_wp2
   go_ret2
   exact ⟨rfl,hb⟩
  ·have c':¬(Nr.itoa v=s):=c
   go_wp2
   all_goals
    go_ret2
    first
     | exact ⟨rfl,hb⟩
     | (exfalso;apply c;assumption)
     | (exfalso;apply c;simp_all)
 ·
  rw [tz (fun v w=>by rw [h] at w;cases w)]
  go_enter Tryz.func34,Tryz.ntmps34
  go_wp2_with (go_at_call 55;refine (Any.strconv_ParseInt_10_at64_syntax Tryz.uE ⟨⟨s⟩⟩ sY h ee.1.1 w (JF hG) ee.2.1).mono ?_;rintro e W1 ⟨N,rfl,hN,Wc,CP⟩)
  go_ret2
  exact ⟨rfl,CP⟩
 ·
  rw [tz (fun v w=>by rw [h] at w;cases w)]
  go_enter Tryz.func34,Tryz.ntmps34
  go_wp2_with (go_at_call 55;refine (Any.strconv_ParseInt_10_at64_range Tryz.uE ⟨⟨s⟩⟩ sY h ee.1.2 w (JG hG) ee.2.2).mono ?_;rintro e W1 ⟨N,rfl,hN,Wc,CP⟩)
  go_ret2
  exact ⟨rfl,CP⟩
theorem kS.ok:bC PG (cnGl ee) 34 (kS.c,kS.sg):=yI (n:=2) (by kernel_rfl) (by decide) fun ti kV w R xs hc ha hR hG=>by
 unfold kS.c at hc
 split at hc
 ·rename_i s
  obtain ⟨hp,rfl⟩:=hc
  obtain rfl:=jt ha rfl
  refine (E3 s (aq hp) hR hG).mono ?_
  rintro e w' ⟨rfl,hb⟩
  exact ⟨_,rfl,rfl,hb,fun R w' => .cons Kd (.cons (.sc rfl) .nil)⟩
 ·exact hc.elim
end Go.Eng
set_option maxRecDepth 20000
namespace Go.Eng
open Go.IntWalk
theorem Jn (x:UInt8):((lO x ((4:UInt64)).toNat).toNat:Int).toNat=x.toNat / 16:=by
 have:=x.toNat_lt
 simp [lO,UInt8.toNat_ofNat'];omega
theorem Gx (x:UInt8):(((x &&& (15:UInt8))).toNat:Int).toNat=x.toNat % 16:=by
 have:x.toNat &&& 15=x.toNat % 16:=Nat.and_two_pow_sub_one_eq_mod x.toNat 4
 simp [UInt8.toNat_and,this]
 omega
theorem Gw (n:Nat) (h:n<16):bD (n:Int) (([48,49,50,51,52,53,54,55,56,57,97,98,99,100,101,102]:bz)).length=true:=by simp [bD];omega
theorem cD.cO (b:bz) (hb:b.length≤1099511627776):∀(m i:Nat) (acc:bz),i+m=b.length→acc.length=2 * i→cD.l1 b (b.length:Int) i acc=some [.s (acc++mN.text (b.drop i))]:=by
 intro m
 induction m with
 | zero =>
  intro i acc hi hl
  refine cD.bX _ _ _ _ ?_
  intro v1 h1 v2 h2 v3 h3 v4 h4 v5 h5 v6 h6
  rw [ab (by omega),ae,aC (by omega)]
  simp [mN.text]
 | succ m ih =>
  intro i acc hi hl
  refine cD.bX _ _ _ _ ?_
  intro v1 h1 v2 h2 v3 h3 v4 h4 v5 h5 v6 h6
  rw [ak] at h1
  have hx:=v1.toNat_lt
  have e1:((v2.toNat:Nat):Int)=((v1.toNat / 16:Nat):Int):=by rw [h2];have:=Jn v1;omega
  have e2:(((v1 &&& (15:UInt8))).toNat:Int)=((v1.toNat % 16:Nat):Int):=by have:=Gx v1;omega
  rw [e1,ak] at h3
  rw [e2,ak] at h4
  have e5:v5=acc++mN.two v1:=by rw [h5,h3,h4];rfl
  rw [aa (by omega),ah,bx (bN (by omega) (by omega)),e1,e2,bx (Gw _ (by omega)),bx (Gw _ (by omega)),bx (dP (by simp;omega) (by simp;omega)),e5,show v6=((i+1:Nat):Int) by rw [h6,i64_in _ (by omega)];omega,ih _ _ (by omega) (by simp [mN.two,hl];omega),drop_cons (l:=b) (i:=i) (by omega) 0,←h1,mN.text,aE]
theorem cD.goal (b:bz) (hp:decide (b.length≤1099511627776)=true):cD.F b=some [.s (mN.text b)]:=by
 have hp:=aq hp
 refine cD.bY _ ?_
 intro v1 h1 v2 h2
 have e:pO (0:Int) v1 1=true:=by rw [h1,i64_in _ (by omega),kZ];unfold maxLen;omega
 rw [e,bU,h2]
 exact cD.cO b hp b.length 0 [] (by omega) rfl
end Go.Eng
set_option maxRecDepth 20000
namespace Go.Eng
open Go.IntWalk
theorem Nx.jd (n:Nat) (j:bP) (hb:bP.bJ j≤1099511627776) (hn:bP.bJ j<n+1):∀(m i:Nat),i+m=j.kids.length→Nx.l2 n (i:Int) j=some [.i .i64 (Cn.uV (j.kids.drop i))]
 | 0,i,hi=>by
  refine Nx.iu _ _ _ ?_
  intro v1 h1 v2 h2 v3 h3 v4 h4
  rw [ab (by omega),ae,aC (by omega)]
  simp [Cn.uV]
 | m+1,i,hi=>by
  have hk:=qv j
  have hlen:=qq j.kids
  refine Nx.iu _ _ _ ?_
  intro v1 h1 v2 h2 v3 h3 v4 h4
  rw [ak] at h2
  have hf:=F3 (l:=j.kids) (i:=i) (by omega) (fx.gm .ml)
  rw [←h2] at hf
  have hv:=Cy v2
  have RF:=zg v2
  have e4:v4=((i+1:Nat):Int):=by rw [h4,i64_in _ (by omega)];omega
  have cc:((decide (bP.bJ (Mem.val v2)≤1099511627776))&&decide ((bP.bJ (Mem.val v2))<n))=true:=by
   rw [af];exact ⟨aa (by omega),aa (by omega)⟩
  have qM:bD (i:Int) j.kids.length=true:=bN (by omega) (by omega)
  rw [aa (by omega),ah,qM,bU,bx (aa (by omega)),bU,cc,bU,e4,Nx.jd n j hb hn m (i+1) (by omega),drop_cons (l:=j.kids) (i:=i) (by omega) (fx.gm .ml),←h2,h3]
  simp only [Cn.uV]
  rw [HB]
  cases hw:fR.whole v2.name with
  | false=>rw [au rfl];rfl
  | true =>
   rw [ao (by simp),aG,ae]
   by_cases c:Cn.mq v2.val=0
   ·rw [aa c,aG,ae,ao (by simp [c])]
   ·rw [ab c,aI,ah,au c]
theorem Nx.cO (n:Nat) (j:bP) (hb:bP.bJ j≤1099511627776) (hn:bP.bJ j<n+1):∀(m i:Nat),i+m=j.kids.length →
  Nx.l1 n (i:Int) j=some [.i .i64 (if j.kind=6∧((j.kids.drop i).any fun m=>!decide (m.name=[]))=true then 1
   else if j.kind=4∧(Nr.jf j.text=0∨300<j.text.length) then 10
   else if j.kind=5∧fR.whole j.text=false then 4
   else Cn.uV j.kids)]:=by
 have hk:=qv j
 have hlen:=qq j.kids
 -- where the names end
 have fin:∀(i:Nat),(j.kind=6→j.kids.length≤i)→Nx.l1 n (i:Int) j=some [.i .i64 (if j.kind=4∧(Nr.jf j.text=0∨300<j.text.length) then 10
   else if j.kind=5∧fR.whole j.text=false then 4
   else Cn.uV j.kids)]:=by
  intro i hi
  refine Nx.bX _ _ _ ?_
  intro v1 h1 v2 h2 v3 h3 v4 h4 v5 h5 v6 h6 v7 h7 v8 h8 v9 h9 v10 iS
  have e2:v2=false:=by
   rw [h2]
   by_cases k:j.kind=6
   ·rw [ab (by have:=hi k;omega)];rfl
   ·rw [ab k];cases decide ((i:Int)<v1) <;> rfl
  have ct:decide (j.text.length≤1099511627776)=true:=aa (by omega)
  have ca:∀a:Bool,(!a || (a&&true))=true:=by decide
  have c8:(!(decide (j.kind=4)) || ((decide (j.kind=4))&&((decide (Nr.jf j.text=0)) || v5)))=true:=by
   rw [h5];cases decide (j.kind=4) <;> cases decide (Nr.jf j.text=0) <;> rfl
  have e8:v8=decide (j.kind=4∧(Nr.jf j.text=0∨300<j.text.length)):=by
   have e6:decide ((300:Int)<v6)=decide (300<j.text.length):=aY.2 (by omega)
   rw [h8,h7,e6,Bool.decide_and,Bool.decide_or]
   cases decide (j.kind=4) <;> cases decide (Nr.jf j.text=0) <;> rfl
  have Ew:v10=decide (j.kind=5∧fR.whole j.text=false):=by
   rw [iS,h9,Bool.decide_and];cases decide (j.kind=5) <;> cases fR.whole j.text <;> rfl
  rw [ct,e2,bx (jR _),bx (jR _),bx (jR _),ae,bx (jR _),bx (ca _),bx (jR _),bx (jR _),bx (jR _),bx (jR _),bx (jR _),bx c8,bx (jR _),e8]
  by_cases k1:j.kind=4∧(Nr.jf j.text=0∨300<j.text.length)
  ·rw [aa k1,ah,au k1]
  rw [ab k1,ae,ao k1,bx (jR _),bx (ca _),bx (jR _),bx (jR _),Ew]
  by_cases k2:j.kind=5∧fR.whole j.text=false
  ·rw [aa k2,ah,au k2]
  rw [ab k2,ae,ao k2]
  exact Nx.jd n j hb hn j.kids.length 0 (by omega)
 intro m
 induction m with
 | zero =>
  intro i hi
  refine (fin i (fun _=>by omega)).trans ?_
  rw [ao (show ¬(j.kind=6∧((j.kids.drop i).any fun m=>!decide (m.name=[]))=true) by rw [aC (by omega)];simp)]
 | succ m ih =>
  intro i hi
  by_cases k:j.kind=6
  ·have ih:=ih (i+1) (by omega)
   refine Nx.bX _ _ _ ?_
   intro v1 h1 v2 h2 v3 h3 v4 h4 v5 h5 v6 h6 v7 h7 v8 h8 v9 h9 v10 iS
   rw [ak] at h3
   have e4:v4=((i+1:Nat):Int):=by rw [h4,i64_in _ (by omega)];omega
   have e2:v2=true:=by rw [h2,aa (by omega),aa k];rfl
   rw [bx (jR _),bx (jR _),bx (jR _),e2,ah,bx (bN (by omega) (by omega)),e4,ih,drop_cons (l:=j.kids) (i:=i) (by omega) (fx.gm .ml),←h3,List.any_cons]
   by_cases k2:v3.name=[]
   ·rw [aa k2,aG,ae,Bool.false_or]
   ·rw [ab k2,aI,ah,Bool.true_or,au ⟨k,rfl⟩]
  ·refine (fin i (fun e=>(k e).elim)).trans ?_
   rw [ao (show ¬(j.kind=6∧((j.kids.drop i).any fun m=>!decide (m.name=[]))=true) by rintro ⟨e,_⟩;exact k e)]
theorem Nx.goal (n:Nat) (j:bP) (hp:((decide (bP.bJ j≤1099511627776))&&decide ((bP.bJ j)<n+1))=true):Nx.F n j=some [.i .i64 (Cn.mq j)]:=by
 rw [af] at hp
 have hb:=aq hp.1
 have hn:=aq hp.2
 refine Nx.bY _ _ ?_
 intro v1 h1 v2 h2 v3 h3 v4 h4 v5 h5 v6 h6 v7 h7 v8 h8
 have e3:v3=decide (j.kind<1∨7<j.kind):=by rw [h3,Bool.decide_or];cases decide (j.kind<1) <;> rfl
 have e5:v5=decide (j.kids≠[]∧j.kind≠6∧j.kind≠7):=by
  have:decide ((0:Int)<v4)=decide (j.kids≠[]):=aY.2 (by rw [h4];exact ⟨fun h e=>by rw [e] at h;exact absurd h (by simp),fun h=>by have:=List.length_pos_iff.2 h;omega⟩)
  rw [h5,h2,this,Bool.decide_and,Bool.decide_and]
  simp only [ne_eq,decide_not]
  cases decide (j.kids=[]) <;> cases decide (j.kind=6) <;> cases decide (j.kind=7) <;> rfl
 have e7:v7=decide (j.text≠[]∧j.kind≠4∧j.kind≠5):=by
  rw [h7,h1,Bool.decide_and,Bool.decide_and]
  simp only [ne_eq,decide_not]
  cases decide (j.text=[]) <;> cases decide (j.kind=4) <;> cases decide (j.kind=5) <;> rfl
 have key:=Nx.cO n j hb hn j.kids.length 0 (by omega)
 have d1':(!(!v3) || (!v3&&(!(!v2) || (!v3&&!v2))))=true:=by cases v3 <;> cases v2 <;> rfl
 have d2:∀a:Bool,(!(!a) || !a)=true:=by decide
 have d3:(!(!(cond v3 true v5)) || (!(cond v3 true v5)&&(!(!v1) || v6)))=true:=by rw [h6];cases (cond v3 true v5) <;> cases v1 <;> rfl
 simp only [aW,bn,aZ,bU,d1',d3,jR,M3,d2]
 have e8:v8=(decide (j.kind<1∨7<j.kind) || (decide (j.kids≠[]∧j.kind≠6∧j.kind≠7) || decide (j.text≠[]∧j.kind≠4∧j.kind≠5))):=by
  rw [h8,e3,e5,e7]
  cases decide (j.kind<1∨7<j.kind) <;> cases decide (j.kids≠[]∧j.kind≠6∧j.kind≠7) <;> rfl
 simp only [Cn.mq,Mem.of,Cn.BO]
 rw [e8]
 by_cases k1:j.kind<1∨7<j.kind
 ·rw [aa k1,Bool.true_or,ah,au k1]
 rw [ab k1,Bool.false_or,ao k1]
 by_cases k2:j.kids≠[]∧j.kind≠6∧j.kind≠7
 ·rw [aa k2,Bool.true_or,ah,au k2]
 rw [ab k2,Bool.false_or,ao k2]
 by_cases k3:j.text≠[]∧j.kind≠4∧j.kind≠5
 ·rw [aa k3,ah,au k3]
 rw [ab k3,ae,ao k3]
 exact key
end Go.Eng
set_option maxRecDepth 20000
namespace Go.Eng
open Go.Proofs
variable {ee:Errs}
theorem dE.ok:bC PG (cnGl ee) 272 (dE.c,dE.sg):=meets bG all_nil dE.h (fits fun ins=>by unfold dE.c;split;exact dE.goal _;trivial)
end Go.Eng
namespace Go.Eng
open Go.RowKit Go.Proofs
variable {ee:Errs}
set_option maxRecDepth 100000
set_option maxHeartbeats 1000000
theorem Fl.FI (a:Nat):Ieee.double.read (Fl.neg a)=(Ieee.double.read a).opposite:=by
 have e1:Fl.neg a % 2 ^ 63=a % 2 ^ 63:=by
  unfold Fl.neg
  rw [show 9223372036854775808=2 ^ 63 by decide,Nat.xor_mod_two_pow,Nat.mod_self,Nat.xor_zero]
 have e2:(Fl.neg a / 2 ^ 63 % 2 == 1)=!(a / 2 ^ 63 % 2 == 1):=by
  unfold Fl.neg
  rw [show 9223372036854775808=2 ^ 63 by decide,Nat.xor_div_two_pow,Nat.div_self (by decide)]
  have:=Nat.xor_mod_two_pow (a:=a / 2 ^ 63) (b:=1) (n:=1)
  rw [Nat.pow_one] at this
  rw [this]
  rcases Nat.mod_two_eq_zero_or_one (a / 2 ^ 63) with e | e <;> rw [e] <;> rfl
 have h:Ieee.double.signWeight=2 ^ 63:=rfl
 unfold Ieee.Format.read
 rw [h]
 simp only [e1,e2]
 split
 ·rfl
 ·split
  ·rfl
  ·split <;> rfl
theorem Fl.W.neg {a:Nat} {x:Int} (h:Fl.W a x):Fl.W (Fl.neg a) (-x):=by
 show Fl.WD (Ieee.double.read (Fl.neg a)) (-x)
 rw [Fl.FI]
 exact Fl.WD.opposite h
theorem E4 {R:Reach} {w:World} {x:Nat} (hx:Fl.num x=true) (hR:∀b o,R b o→b<w.heap.size) (hG:GlOK (cnGl ee) R w) :
  Calls Tryz.prog 272 #[.float .f64 x] w fun e w'=>e = .returned (.float .f64 (Fl.kU x))∧Below w.heap.size w w':=by
 refine ((dE.ok [.c (.float .f64 x)] [.c (.float .f64 (Fl.kU x))] ⟨hx,rfl⟩).2 w R [.float .f64 x] hR hG ⟨rfl,fun i y v hy hv=>?_⟩ fun i j v v' b hi=>(hi (by simp [dE.sg])).elim).mono ?_
 ·cases i with
  | zero=>cases hy;cases hv;exact .sc rfl
  | succ i=>simp at hy
 ·rintro e w' ⟨y,R',mo,ys,rfl,hx,hr,ho⟩
  refine ⟨?_,hx.os,hx.tape,hx.output,hx.size,fun k hk=>hx.heap k hk (by rintro ⟨i,v,hm,_⟩;exact hm (by simp [dE.sg]))⟩
  congr 1
  have hl:mo.length=1:=ho.len
  have j7:=ho.rep
  rw [ho.val]
  match mo,hl with
  | [y],_ =>
   have j7:iv R' w' [.c (.float .f64 (Fl.kU x))] [y]:=j7
   cases j7 with
   | cons a _=>exact a.dJ rfl
theorem SI {R:Reach} (b:Nat) (x m:Nat) (X M:Int) (w:World) (hc:w.cell? ⟨b,0,none⟩=some (.float .f64 m)) (hX:Fl.W x X) (hM:Fl.W m M) (Yz:(X.natAbs:Int)≤M) (hB:M≤9007199254740992) (hR:∀b o,R b o→b<w.heap.size) (hG:GlOK (cnGl ee) R w) :
  Calls Tryz.prog 274 #[.float .f64 x,.pointer (some ⟨b,0,none⟩)] w fun e w'=>e = .returned (.bool true)∧Below w.heap.size w w':=by
 have hn:∀w:World,(Op.unary .neg (.float .f64 m)).run Tryz.prog w = .ok (.float .f64 (Fl.neg m)) w:=fun w=>rfl
 have h1:FloatKind.f64.format.order x (Fl.neg m)=some .gt∨FloatKind.f64.format.order x (Fl.neg m)=some .eq:=by
  have e:FloatKind.f64.format.order x (Fl.neg m)=some (compare X (-M)):=Fl.ki hX hM.neg
  rw [e]
  rcases Int.lt_or_eq_of_le (show -M≤X by omega) with c | c
  ·rw [Int.compare_eq_gt.2 c];exact .inl rfl
  ·rw [←c,Int.compare_eq_eq.2 rfl];exact .inr rfl
 have h2:FloatKind.f64.format.order x m=some .lt∨FloatKind.f64.format.order x m=some .eq:=by
  have e:FloatKind.f64.format.order x m=some (compare X M):=Fl.ki hX hM
  rw [e]
  rcases Int.lt_or_eq_of_le (show X≤M by omega) with c | c
  ·rw [Int.compare_eq_lt.2 c];exact .inl rfl
  ·rw [←c,Int.compare_eq_eq.2 rfl];exact .inr rfl
 have h3:FloatKind.f64.format.order x (Fl.kU x)=some .eq:=by
  have e:FloatKind.f64.format.order x (Fl.kU x)=some (compare X X):=Fl.ki hX (hX.kU (by omega))
  rw [e,Int.compare_eq_eq.2 rfl]
 go_enter Tryz.func274,Tryz.ntmps274
 rcases h1 with h1 | h1 <;> rcases h2 with h2 | h2
 all_goals
  go_wp2_with (go_at_call 272;refine (E4 hX.num hR hG).mono ?_;rintro e w' ⟨rfl,hb⟩)
  go_ret
  exact ⟨rfl,hb⟩
theorem zV {R:Reach} {w w':World} (hR:∀b o,R b o→b<w.heap.size) (h:Below w.heap.size w w') (hG:GlOK (cnGl ee) R w):GlOK (cnGl ee) R w':=hG.dM (pg (io:=fun _=>False) hR h).dM
theorem UN {R:Reach} (z:Cx) (m:Nat) (X Y M:Int) (w:World) (hZ:Gz.Is z X Y) (hM:Fl.W m M) (hX:(X.natAbs:Int)≤M) (hY:(Y.natAbs:Int)≤M) (hB:M≤9007199254740992) (hR:∀b o,R b o→b<w.heap.size) (hG:GlOK (cnGl ee) R w) :
  Calls Tryz.prog 263 #[.complex .f64 z.1 z.2,.float .f64 m] w fun e w'=>e = .returned (.bool true)∧Below w.heap.size w w':=by
 have Yu:∀(fn:Fn) (first cap:Array Value) (w:World),(Instr.makeFunc fn first cap).run Tryz.prog w = .ok (.func fn first cap) w:=fun _ _ _ _=>rfl
 have CP:Below w.heap.size w (w.alloc (.cells #[.float .f64 m] 280)):=(Below.refl _ _).alloc (Nat.le_refl _) _
 have Il:(w.alloc (.cells #[.float .f64 m] 280)).cell? ⟨w.heap.size,0,none⟩=some (.float .f64 m):=by
  rw [World.cell?_alloc_at _ _ _ _ rfl];rfl
 have L3:(w.alloc (.cells #[.float .f64 m] 280)).heap.size=w.heap.size+1:=Array.size_push ..
 have Yp:∀(a:Array TypeId) (b:TypeId) (p q:Nat) (w:World),(Builtin.real_ a b #[.complex .f64 p q]).run Tryz.prog w = .ok (.float .f64 p) w:=fun _ _ _ _ _=>rfl
 have Yw:∀(a:Array TypeId) (b:TypeId) (p q:Nat) (w:World),(Builtin.imag_ a b #[.complex .f64 p q]).run Tryz.prog w = .ok (.float .f64 q) w:=fun _ _ _ _ _=>rfl
 have Sc:∀b o,R b o→b<(w.alloc (.cells #[.float .f64 m] 280)).heap.size:=fun b o h=>by have:=hR b o h;omega
 go_enter Tryz.func263,Tryz.ntmps263
 have Qr:=zV hR CP hG
 go_wp2_with (go_at_call 274;refine (SI (R:=R) w.heap.size z.1 m X M (w.alloc (.cells #[.float .f64 m] 280)) Il hZ.1 hM hX hB Sc Qr).mono ?RS;rintro e w2 ⟨rfl,GQ⟩)
 have Ik:w2.cell? ⟨w.heap.size,0,none⟩=some (.float .f64 m):=by
  simp only [World.cell?,GQ.block w.heap.size (by omega)]
  exact Il
 have V8:∀b o,R b o→b<w2.heap.size:=fun b o h=>Nat.lt_of_lt_of_le (Sc b o h) GQ.size
 refine (SI (R:=R) w.heap.size z.2 m Y M w2 Ik hZ.2 hM hY hB V8 (zV Sc GQ Qr)).mono ?_
 rintro e w3 ⟨rfl,NJ⟩
 go_wp2
 go_ret
 refine ⟨rfl,?_⟩
 exact ⟨NJ.os.trans (GQ.os.trans CP.os),NJ.tape.trans (GQ.tape.trans CP.tape),NJ.output.trans (GQ.output.trans CP.output),by have:=NJ.size;have:=GQ.size;omega,fun k hk=>(NJ.block k (by have:=GQ.size;omega)).trans ((GQ.block k (by omega)).trans (CP.block k hk))⟩
theorem iF.ok:bC PG (cnGl ee) 263 (iF.c,iF.sg):=iL (by kernel_rfl) fun ti kV w R xs hc ha hR hG=>by
 unfold iF.c at hc
 split at hc
 ·rename_i p q m
  obtain ⟨hp,rfl⟩:=hc
  obtain rfl:=jt ha rfl
  unfold Gz.LS at hp
  classical
  obtain ⟨X,Y,M,h1,h2,h3,h4,h5⟩:=aq hp
  refine (UN (p,q) m X Y M w h1 h2 h3 h4 h5 hR hG).mono ?_
  rintro e w' ⟨rfl,hb⟩
  exact ⟨_,rfl,hb,fun R w'=>ox (.sc rfl)⟩
 ·exact hc.elim
end Go.Eng
set_option maxRecDepth 20000
namespace Go.Eng
open Go.IntWalk
theorem cT.goal (s:bz) (c:UInt8):cT.F s c=some [.i .i64 (Lib.indexByte s c)]:=cT.dW s c
theorem fF.goal (s t:bz) (hp:decide (t.length=1)=true):fF.F s t=some [.i .i64 (Lib.indexByte s (t.getD 0 0))]:=by
 have hl:t.length=1:=aq hp
 refine fF.bY s t ?_
 intro v1 h1 v2 h2
 have e0:decide ((t.length:Int)=0)=false:=ab (by omega)
 have e1:decide ((t.length:Int)=1)=true:=aa (by omega)
 rw [e0] at h1 ⊢
 simp only [aI,aG,Bool.false_or,aZ,bU,ae] at h1 ⊢
 by_cases hs:t=s
 ·subst hs
  rw [h1,aa rfl,ah]
  obtain ⟨c,rfl⟩:∃c,t=[c]:=by
   match t,hl with
   | [c],_=>exact ⟨c,rfl⟩
  simp [Lib.indexByte]
 ·rw [h1,ab hs,ae,e1,ah,bx (bN (by omega) (by omega)),h2];rfl
theorem fE.goal (s t:bz) (hp:decide (t.length=1)=true):fE.F s t=some [.i .i64 (Lib.indexByte s (t.getD 0 0))]:=by
 refine fE.bY s t ?_
 intro v1 h1
 rw [bx hp,h1]
theorem dF.goal (s t:bz) (hp:decide (t.length=1)=true):dF.F s t=some [.b (decide (0≤Lib.indexByte s (t.getD 0 0)))]:=by
 refine dF.bY s t ?_
 intro v1 h1
 rw [bx hp,h1]
theorem eO.goal (k:Int):eO.F k=some [.s (Tree.name k)]:=by
 refine eO.bY k ?_
 intro v1 h1 v2 h2
 unfold Tree.name
 by_cases a:k=127
 ·rw [au a,aa a];rfl
 ·rw [ao a,ab a,ae]
  by_cases b:k=255
  ·rw [au b,aa b];rfl
  ·rw [ao b,ab b,ae]
   simp only [aW,bn,bU]
   by_cases c:k<0∨20≤k
   ·rw [au c,show v1=true by rw [h1];by_cases d:k<0 <;> simp [d];omega];rfl
   ·rw [ao c,show v1=false by rw [h1];by_cases d:k<0 <;> simp [d] <;> omega,ae,bx (bN (by omega) (by omega)),bx (by simp;omega),h2];rfl
theorem Ke.goal:Ke.F=some [.sl .is Tree.kinds]:=by
 refine Ke.bY ?_
 intro v1 h1
 rw [h1];rfl
def ZI (k:Int):List Int→List bz→bz
 | a :: ks,s :: ss=>if a=k then s else ZI k ks ss
 | _,_=>[]
theorem Y7.cO (k:Int) (ss:List bz) (ks:List Int) (hl:ss.length=ks.length) (hb:ks.length≤1000):∀(m i:Nat),i+m=ks.length→Y7.l1 k ss ks i=some [.s (ZI k (ks.drop i) (ss.drop i))]:=by
 intro m
 induction m with
 | zero =>
  intro i hi
  refine Y7.bX _ _ _ _ ?_
  intro v1 h1 v2 h2 v3 h3
  rw [ab (by omega),ae,aC (by omega)];rfl
 | succ m ih =>
  intro i hi
  refine Y7.bX _ _ _ _ ?_
  intro v1 h1 v2 h2 v3 h3
  rw [ak] at h1 h2
  rw [aa (by omega),ah,bx (bN (by omega) (by omega)),drop_cons (l:=ks) (i:=i) (by omega) 0,drop_cons (l:=ss) (i:=i) (by omega) [],ZI,←h1,←h2]
  by_cases h:v1=k
  ·rw [au h,aa h,ah,bx (bN (by omega) (by omega)),bx (aa (by omega))]
  ·rw [ao h,ab h,ae,show v3=((i+1:Nat):Int) by rw [h3,i64_in _ (by omega)];omega,ih _ (by omega)]
theorem Tree.Z0 (k:Int) (h:k ∉ Tree.kinds):Tree.name k=[]:=by
 simp only [Tree.kinds,aP,List.not_mem_nil,not_or] at h
 unfold Tree.name
 rw [ao (by omega),ao (by omega)]
 by_cases c:k<0∨20≤k
 ·rw [au c]
 ·have:k=0:=by omega
  subst this
  rfl
theorem ZC (k:Int):∀(ks:List Int) (ss:List bz),k ∉ ks→ZI k ks ss=[]
 | [],_,_=>rfl
 | _ :: _,[],_=>rfl
 | a :: ks,s :: ss,h=>by
  rw [ZI,ao (fun e=>h (by rw [e];exact List.mem_cons_self ..))]
  exact ZC k ks ss fun hm=>h (List.mem_cons_of_mem _ hm)
theorem Y7.goal (k:Int):Y7.F k=some [.s (Tree.name k)]:=by
 refine Y7.bY k ?_
 intro v1 h1
 rw [show (0:Int)=((0:Nat):Int) from rfl,Y7.cO k v1 Tree.kinds (by rw [h1];rfl) (by decide) 21 0 (by decide)]
 by_cases h:k∈Tree.kinds
 ·have key:∀k∈Tree.kinds,ZI k (Tree.kinds.drop 0) (v1.drop 0)=Tree.name k:=by rw [h1];decide +kernel
  rw [key k h]
 ·rw [Tree.Z0 k h,ZC _ _ _ (by simpa using h)]
theorem Y0.goal (k:Int):Y0.F k=some [.b (Tree.nO 0 k),.b (Tree.nO 1 k),.b (Tree.nO 2 k),.b (Tree.nO 3 k),.b (Tree.nO 4 k),.b (Tree.nO 5 k),.b (Tree.nO 6 k)]:=by
 have key:∀k,k∈Tree.kinds∨k ∉ Tree.kinds:=fun k=>Decidable.em _
 simp only [Y0.dW,Y0.lg,Y0.lf,Y0.su,Y0.wi,Tree.nO]
 by_cases a1:k=1
 ·subst a1;rfl
 by_cases a2:k=2
 ·subst a2;rfl
 by_cases a3:k=3
 ·subst a3;rfl
 by_cases a4:k=4
 ·subst a4;rfl
 by_cases a5:k=5
 ·subst a5;rfl
 by_cases a7:k=7
 ·subst a7;rfl
 by_cases a8:k=8
 ·subst a8;rfl
 by_cases a9:k=9
 ·subst a9;rfl
 by_cases T8:k=11
 ·subst T8;rfl
 by_cases a12:k=12
 ·subst a12;rfl
 by_cases T7:k=13
 ·subst T7;rfl
 by_cases T6:k=14
 ·subst T6;rfl
 by_cases T5:k=15
 ·subst T5;rfl
 by_cases T4:k=16
 ·subst T4;rfl
 by_cases T3:k=17
 ·subst T3;rfl
 by_cases T2:k=18
 ·subst T2;rfl
 by_cases T1:k=19
 ·subst T1;rfl
 simp [a1,a2,a3,a4,a5,a7,a8,a9,T8,a12,T7,T6,T5,T4,T3,T2,T1]
end Go.Eng
set_option maxRecDepth 20000
namespace Go.Eng
open Go.IntWalk
theorem l6 (c:UInt8):∀s:bz,decide (0≤Lib.indexByte s c)=s.contains c
 | []=>by simp [Lib.indexByte]
 | b :: l=>by
  have ih:=l6 c l
  have GJ:=Lib.indexByte_ge l c
  rw [List.contains_cons,←ih]
  rw [Lib.indexByte]
  by_cases h:b=c
  ·subst h;simp
  ·rw [ao (by simpa using h),show (c == b)=false by rw [beq_eq_false_iff_ne];exact fun e=>h e.symm,Bool.false_or]
   by_cases h1:Lib.indexByte l c=-1
   ·rw [h1];rfl
   ·rw [ao (by simpa using h1),aa (by omega),aa (by omega)]
theorem dU.goal (s:bz) (plain:Bool) (hp:decide (s.length≤1099511627776)=true):dU.F s plain=some [.b (Tree.fZ s plain)]:=by
 have e:decide (0≤Lib.indexByte s (([0]:bz).getD 0 0))=fR.zero s:=l6 0 s
 refine dU.bY s plain ?_
 intro v1 h1 v2 h2
 rw [bx (Db (aq hp)),bx hp]
 rw [e] at h1
 subst h1 h2
 unfold Tree.fZ
 cases fR.whole s <;> cases plain <;> cases fR.zero s <;> rfl
theorem bB.goal (v:Val):bB.F v=some [.b (Tree.gW v)]:=by
 have J2:∀(x:Bool) (v:Val),bB.j2 x v=some [.b (x&&decide (v.bits=0)&&decide (v.high=0)&&decide (v.low=0)&&decide (v.text=[])&&decide (v.more=[])&&decide (v.sub=0)&&decide (v.bytes=[])&&decide (v.kids=[]))]:=by
  intro x v
  refine bB.jx x v ?_
  intro v1 h1 v2 h2 v3 h3 v4 h4 v5 h5 v6 h6 v7 h7 v8 h8 v9 h9 v10 iS
  simp only [aW,bU]
  have e1:decide (v7=0)=decide (v.bytes=[]):=by rw [h7,aS];simp
  have e2:decide (v9=0)=decide (v.kids=[]):=by rw [h9,aS];simp
  rw [e1] at h8
  rw [e2] at iS
  subst h1 h2 h3 h4 h5 h6 h8 iS
  simp only [Bool.cond_false_right]
 have J3:∀(x0:Bool) (x1:Int) (x2:Bool) (x3:Val),bB.j3 x0 x1 x2 x3=cond x2
  (bB.j2 x0 (Val.mk (Val.kind x3) (Val.bits x3) (Val.high x3) (Val.low x3) ([]:bz) (Val.more x3) (Val.sub x3) (Val.bytes x3) (Val.kids x3)))
  (cond (decide (x1=(11:Int)))
  (bB.j2 x0 (Val.mk (Val.kind x3) (Val.bits x3) (Val.high x3) (Val.low x3) ([]:bz) ([]:bz) (Val.sub x3) (Val.bytes x3) (Val.kids x3)))
  (cond (decide (x1=(5:Int)))
  (bB.j2 (decide (0≤x3.sub)&&decide (x3.sub≤255)) (Val.mk (Val.kind x3) (Val.bits x3) (Val.high x3) (Val.low x3) (Val.text x3) (Val.more x3) (0:Int) ([]:List UInt8) (Val.kids x3)))
  (cond (decide (x1=(7:Int)))
  (bB.j2 (decide (x3.bytes.length=12)) (Val.mk (Val.kind x3) (Val.bits x3) (Val.high x3) (Val.low x3) (Val.text x3) (Val.more x3) (Val.sub x3) ([]:List UInt8) (Val.kids x3)))
  (cond (decide (x1=(12:Int)))
  (bB.j2 (decide (x3.bytes.length=12)) (Val.mk (Val.kind x3) (Val.bits x3) (Val.high x3) (Val.low x3) ([]:bz) (Val.more x3) (Val.sub x3) ([]:List UInt8) (Val.kids x3)))
  (cond (decide (x1=(3:Int)))
  (bB.j4 x0 x1 (decide (x1=(3:Int))) x3)
  (bB.j4 x0 x1 (decide (x1=(4:Int))) x3)))))):=by
  intro x0 x1 x2 x3
  refine bB.qw x0 x1 x2 x3 ?_
  intro v1 h1 v2 h2
  have e:decide (v2=12)=decide (x3.bytes.length=12):=by rw [h2,aS];simp;omega
  simp only [aW,bU,e,h1,Bool.cond_false_right]
 obtain ⟨k,b,hi,lo,t,m,s,y,ks⟩:=v
 simp only [bB.dW,bB.lg,J3,bB.wi,J2,Tree.gW,Tree.nO]
 by_cases a1:k=1
 ·subst a1;simp;grind
 by_cases a2:k=2
 ·subst a2;simp;grind
 by_cases a3:k=3
 ·subst a3;simp;grind
 by_cases a4:k=4
 ·subst a4;simp;grind
 by_cases a5:k=5
 ·subst a5;simp;grind
 by_cases a7:k=7
 ·subst a7;simp;grind
 by_cases a8:k=8
 ·subst a8;simp;grind
 by_cases a9:k=9
 ·subst a9;simp;grind
 by_cases T8:k=11
 ·subst T8;simp;grind
 by_cases a12:k=12
 ·subst a12;simp;grind
 by_cases T7:k=13
 ·subst T7;simp;grind
 by_cases T6:k=14
 ·subst T6;simp;grind
 by_cases T5:k=15
 ·subst T5;simp;grind
 by_cases T4:k=16
 ·subst T4;simp;grind
 by_cases T3:k=17
 ·subst T3;simp;grind
 by_cases T2:k=18
 ·subst T2;simp;grind
 by_cases T1:k=19
 ·subst T1;simp;grind
 simp [a1,a2,a3,a4,a5,a7,a8,a9,T8,a12,T7,T6,T5,T4,T3,T2,T1];grind
end Go.Eng
set_option maxRecDepth 20000
namespace Go.Eng
open Go.IntWalk
theorem Zc.goal (s:bz) (hp:decide (s.length≤1099511627776)=true):Zc.F s=some [.b (Tree.fZ s true)]:=by
 refine Zc.bY s ?_
 intro v1 h1
 rw [bx hp,hp]
 subst h1
 unfold Tree.fZ
 cases fR.whole s <;> cases fR.zero s <;> rfl
theorem Za.goal (p:List Int) (k:Int) (hp:decide (p.length≤1099511627776)=true):Za.F p k=some [.sl .is (p++[k])]:=by
 have hp:=aq hp
 refine Za.bY p k ?_
 intro v1 h1
 rw [bx (dP (by simp;omega) (by simp;omega)),bx (dP (by simp;omega) (by simp;omega)),h1];rfl
theorem Zf.goal (v:Val) (hp:decide (bA.bJ (bA.of [] v)≤1099511627776)=true):Zf.F v=some [.i .i64 (Tree.own v)]:=by
 have hp:=aq hp
 have CP:v.text.length≤1099511627776:=by simp only [bA.of,bA.bJ] at hp;omega
 have GQ:v.more.length≤1099511627776:=by simp only [bA.of,bA.bJ] at hp;omega
 refine Zf.bY v ?_
 intro v1 h1 v2 h2 v3 h3 v4 h4 v5 h5 v6 h6 v7 h7 v8 h8 v9 h9 v10 iS v11 kA v12 jM kq nr jh oa jb nV lA sw tG zS tF wv wX ET v20 CR v21 Pf v22 Pe QT TQ v24 Qt v25 TP QS TN v27 TM v28 h28 v29 h29 v30 h30 v31 h31 Z3 h32 v33 h33 v34 h34 v35 h35 v36 h36
 unfold Tree.own
 by_cases hn:Tree.name v.kind=[]
 ·rw [au hn,aa hn];rfl
 ·rw [ao hn,ab hn,ae]
  subst h4 nV TQ TM h32 h33
  simp only [aW,bn,aZ,bU,ck4,ck5,aa CP,aa GQ,Bool.and_true]
  have u1:decide ((4294967296:UInt64)≤v.bits)=!decide (v.bits<4294967296):=by rw [aS];simp [aJ,aT]
  have u2:decide ((1:UInt64)<v.bits)=!decide (v.bits<2):=by rw [aS];simp [aJ,aT];omega
  have l1:decide ((0:Int)<lA)=!decide (v.bytes=[]):=by rw [sw,aS];simp [List.length_pos_iff]
  have l2:decide ((0:Int)<v20)=!decide (v.kids=[]):=by rw [CR,aS];simp [List.length_pos_iff]
  have l3:decide (lA=(12:Int))=decide (v.bytes.length=12):=by rw [sw,aS];simp;omega
  rw [u1] at Pe
  rw [u2] at Qt
  rw [l1] at zS
  rw [l2] at Pf
  rw [l3] at h29
  have e1:Tree.gW v=!(cond (cond (cond tF true v21) true QS) true v29):=by
   subst h1 h2 h3 h5 h6 h7 h8 h9 iS kA jM nr oa zS wv ET Pf Pe Qt TP TN h28 h29
   unfold Tree.gW
   have s1:decide (v.sub<0)=!decide (0≤v.sub):=by rw [aS];simp
   have s2:decide (255<v.sub)=!decide (v.sub≤255):=by rw [aS];simp
   rw [s1,s2]
   simp only [Bool.cond_true_left,Bool.cond_false_right,Bool.not_or,Bool.not_and,Bool.not_not,Bool.and_assoc]
  have e2:v36=decide (Tree.fZ v.text (decide (v.kind=11))=false∨Tree.fZ v.more (decide (v.kind=11))=false):=by
   subst h30 h31 h34 h35 h36
   unfold Tree.fZ
   cases fR.whole v.text <;> cases fR.whole v.more <;> cases fR.zero v.text <;> cases fR.zero v.more <;> by_cases k:v.kind=11 <;> simp [k]
  rw [e1,e2]
  clear h1 h2 h3 h5 h6 h7 h8 h9 iS kA jM nr oa zS wv ET Pf Pe Qt TP TN h28 h29 h30 h31 h34 h35 h36 e1 e2
  by_cases c:Tree.fZ v.text (decide (v.kind=11))=false∨Tree.fZ v.more (decide (v.kind=11))=false
  ·rw [aa c,au c]
   cases tF <;> cases v21 <;> cases QS <;> cases v29 <;> rfl
  ·rw [ab c,ao c]
   cases tF <;> cases v21 <;> cases QS <;> cases v29 <;> rfl
theorem Nj.lens (v:Val) (n:bz) (m:Nat) (h:bA.bJ (bA.of n v)≤m):v.text.length≤m∧v.more.length≤m∧n.length≤m∧v.bytes.length≤m∧bA.cm v.kids+1≤m:=by
 simp only [bA.of,bA.bJ] at h;omega
theorem bA.HH (f:bA):1≤f.bJ:=by cases f;simp only [bA.bJ];omega
theorem bA.rY:∀(l:List bA) (i:Nat) (d:bA),i<l.length→(l.getD i d).bJ≤bA.cm l
 | f :: l,0,d,_=>by simp [bA.cm]
 | f :: l,i+1,d,h=>by
  have:=bA.rY l i d (by simpa using h)
  simp only [List.getD_cons_succ,bA.cm];omega
theorem bA.wP:∀(l:List bA),l.length≤bA.cm l
 | []=>by simp
 | f :: l=>by have:=bA.wP l;have:=bA.HH f;simp only [az,bA.cm];omega
theorem bA.LB (f:bA):bA.of f.name f.val=f:=by cases f;rfl
theorem bA.HG (f:bA):bA.bJ (bA.of [] f.val)≤f.bJ:=by cases f;simp only [bA.of,bA.val,bA.bJ,bA.kind,bA.bits,bA.high,bA.low,bA.text,bA.more,bA.sub,bA.bytes,bA.kids];simp
theorem Ff (v:Val) (n:bz):Tree.oC v n=(if Tree.name v.kind=[] then 5 else if Tree.gW v=false then 1 else if Tree.fZ v.text (decide (v.kind=11))=false∨Tree.fZ v.more (decide (v.kind=11))=false∨Tree.fZ n true=false then 4 else 0):=by
 unfold Tree.oC Tree.own
 grind
theorem Tree.JN (n:bz) (v:Val) (p:List Int):Tree.gQ (bA.of n v) p=if Tree.oC v n≠0 then (p,Tree.oC v n) else Tree.ka v.kids 0 p:=by
 cases v;simp only [bA.of,Tree.gQ]
theorem b9.cO (n:Nat) (ks:List bA) (p:List Int) (hb:bA.cm ks+p.length<1099511627776) (hn:bA.cm ks<n):∀(m i:Nat),i+m=ks.length →
  b9.l1 n ks (ks.length:Int) i p=some [.sl .is (Tree.ka (ks.drop i) i p).1,.i .i64 (Tree.ka (ks.drop i) i p).2,.sl .is p]:=by
 have hlen:=bA.wP ks
 intro m
 induction m with
 | zero =>
  intro i hi
  refine b9.bX _ _ _ _ _ ?_
  intro v1 h1 v2 h2 v3 h3 v4 h4
  rw [ab (by omega),ae,aC (by omega)];rfl
 | succ m ih =>
  intro i hi
  refine b9.bX _ _ _ _ _ ?_
  intro v1 h1 v2 h2 v3 h3 v4 h4
  rw [ak] at h1
  have hg:=bA.rY ks i (fx.gm .fl) (by omega)
  rw [←h1] at hg
  rw [bA.LB] at h2 h3 ⊢
  rw [aa (by omega),ah,bx (bN (by omega) (by omega)),bx (dP (by simp;omega) (by simp;omega)),aa (by simp;omega),aa (by omega),aZ,bU,drop_cons (l:=ks) (i:=i) (by omega) (fx.gm .fl),←h1,Tree.ka]
  by_cases h:v3=0
  ·rw [aa h,ao (by rw [h3] at h;simpa using h)]
   simp only [aG,ae]
   rw [show v4=((i+1:Nat):Int) by rw [h4,i64_in _ (by omega)];omega,ih _ (by omega)]
  ·rw [ab h,au (by rw [h3] at h;simpa using h)]
   simp only [aI,ah]
   rw [h2,h3]
theorem b9.goal (n:Nat) (v:Val) (name:bz) (path:List Int) (hp:((decide (bA.bJ (bA.of name v)+path.length≤1099511627776))&&decide ((bA.bJ (bA.of name v))<n+1))=true) :
  b9.F n v name path=some [.sl .is (Tree.gQ (bA.of name v) path).1,.i .i64 (Tree.gQ (bA.of name v) path).2,.sl .is path]:=by
 simp only [af,aA] at hp
 obtain ⟨hp,hn⟩:=hp
 obtain ⟨b1,b2,b3,_,_⟩:=Nj.lens v name 1099511627776 (by omega)
 have OO:bA.cm v.kids<bA.bJ (bA.of name v):=by simp only [bA.of,bA.bJ];omega
 refine b9.bY n v name path ?_
 intro v1 h1 v2 h2 v3 h3 v4 h4
 rw [Tree.JN,Ff]
 simp only [aW,bn,aZ,bU,aa b1,aa b2,aa b3,Bool.and_true]
 have V2:fi path.length 8=true:=dP (by omega) (by omega)
 simp only [V2,bU]
 by_cases a:Tree.name v.kind=[]
 ·rw [aa a];simp [a]
 ·rw [ab a,ae]
  by_cases b:Tree.gW v=false
  ·rw [b];simp [a]
  ·have b':Tree.gW v=true:=by simpa using b
   rw [b']
   have e3:v3=decide (Tree.fZ v.text (decide (v.kind=11))=false∨Tree.fZ v.more (decide (v.kind=11))=false∨Tree.fZ name true=false):=by
    subst h1 h2 h3
    cases Tree.fZ v.text (decide (v.kind=11)) <;> cases Tree.fZ v.more (decide (v.kind=11)) <;> cases Tree.fZ name true <;> rfl
   rw [e3,h4]
   by_cases c:Tree.fZ v.text (decide (v.kind=11))=false∨Tree.fZ v.more (decide (v.kind=11))=false∨Tree.fZ name true=false
   ·rw [aa c];simp [a,c]
   ·rw [ab c]
    simp only [aG,ae,ao a,ao c]
    have:=b9.cO n v.kids path (by omega) (by omega) v.kids.length 0 (by omega)
    rw [bh] at this
    simpa using this
theorem dC.goal (v:Val) (hp:decide (bA.bJ (bA.of [] v)≤1099511627776)=true):dC.F v=some [.sl .is (Tree.gQ (bA.of [] v) []).1,.i .i64 (Tree.gQ (bA.of [] v) []).2]:=by
 refine dC.bY v ?_
 intro v1 h1 v2 h2
 rw [bx (by simpa using hp),h1,h2]
theorem Y1.jd (n:Nat) (v:Val) (p:List Int) (hb:bA.cm v.kids+p.length<1099511627776) (hn:bA.cm v.kids<n):∀(m i:Nat),i+m=v.kids.length →
  Y1.l2 n p i v=some [.sl .is (Tree.ka (v.kids.drop i) i p).1,.i .i64 (Tree.ka (v.kids.drop i) i p).2]:=by
 have hlen:=bA.wP v.kids
 intro m
 induction m with
 | zero =>
  intro i hi
  refine Y1.iu _ _ _ _ ?_
  intro v1 h1 v2 h2 v3 h3 v4 h4 v5 h5
  rw [ab (by omega),ae,aC (by omega)];rfl
 | succ m ih =>
  intro i hi
  refine Y1.iu _ _ _ _ ?_
  intro v1 h1 v2 h2 v3 h3 v4 h4 v5 h5
  rw [ak] at h2
  have hg:=bA.rY v.kids i (fx.gm .fl) (by omega)
  rw [←h2] at hg
  rw [bA.LB] at h3 h4 ⊢
  rw [aa (by omega),ah,bx (bN (by omega) (by omega)),bx (bN (by omega) (by omega)),bx (aa (by omega)),aa (by simp;omega),aa (by omega),aZ,bU,drop_cons (l:=v.kids) (i:=i) (by omega) (fx.gm .fl),←h2,Tree.ka]
  by_cases h:v4=0
  ·rw [aa h,ao (by rw [h4] at h;simpa using h)]
   simp only [aG,ae]
   rw [show v5=((i+1:Nat):Int) by rw [h5,i64_in _ (by omega)];omega,ih _ (by omega)]
  ·rw [ab h,au (by rw [h4] at h;simpa using h)]
   simp only [aI,ah]
   rw [h3,h4]
theorem Y1.goal (n:Nat) (v:Val) (name:bz) (p:List Int) (hp:((decide (bA.bJ (bA.of name v)+p.length≤1099511627776))&&decide ((bA.bJ (bA.of name v))<n+1))=true) :
  Y1.F n v name p=some [.sl .is (Tree.gQ (bA.of name v) p).1,.i .i64 (Tree.gQ (bA.of name v) p).2]:=by
 simp only [af,aA] at hp
 obtain ⟨hp,hn⟩:=hp
 obtain ⟨b1,b2,b3,_,_⟩:=Nj.lens v name 1099511627776 (by omega)
 have OO:bA.cm v.kids<bA.bJ (bA.of name v):=by simp only [bA.of,bA.bJ];omega
 have hbv:bA.bJ (bA.of [] v)≤bA.bJ (bA.of name v):=by simp only [bA.of,bA.bJ,aB];omega
 refine Y1.bY n v name p ?_
 intro v1 h1
 rw [bx (aa (by omega)),aa b3]
 simp only [Bool.and_true,aW,bU,Y1.lg]
 rw [Tree.JN]
 unfold Tree.oC
 have key:=Y1.jd n v p (by omega) (by omega) v.kids.length 0 (by omega)
 rw [bh] at key
 have key:Y1.l2 n p 0 v=_:=key
 rw [key]
 by_cases a:Tree.own v=0
 ·rw [aa a] at h1
  cases b:Tree.fZ name true
  ·rw [b] at h1;rw [h1];simp [a]
  ·rw [b] at h1;rw [h1];simp [a]
 ·rw [ab a] at h1
  rw [h1];simp [a]
theorem Zd.goal (v:Val) (hp:decide (bA.bJ (bA.of [] v)≤1099511627776)=true):Zd.F v=some [.sl .is (Tree.gQ (bA.of [] v) []).1,.i .i64 (Tree.gQ (bA.of [] v) []).2]:=by
 refine Zd.bY v ?_
 intro v1 h1 v2 h2
 rw [bx (by simpa using hp),h1,h2]
end Go.Eng
set_option maxRecDepth 20000
namespace Go.Eng
open Go.IntWalk
theorem Tree.ZB (a b:Val):Tree.same a b=true ↔ a=b:=by unfold Tree.same;simp
theorem Tree.ZM (a b:Val) (c:Bool) (h:c=true ↔ a=b):Tree.same a b=c:=by
 rw [aS,Tree.ZB,h]
theorem bA.ext_iff (a b:bA):a=b ↔ a.name=b.name∧a.val=b.val:=by
 cases a;cases b;simp [bA.name,bA.val,bA.kind,bA.bits,bA.high,bA.low,bA.text,bA.more,bA.sub,bA.bytes,bA.kids]
theorem drop_eq {α:Type} {a b:List α} {i:Nat} (ha:i<a.length) (hb:i<b.length) (d:α):a.drop i=b.drop i ↔ a.getD i d=b.getD i d∧a.drop (i+1)=b.drop (i+1):=by
 rw [drop_cons ha d,drop_cons hb d,bt]
theorem Val.ZY (a b:Val):a=b ↔ Tree.nD a b=true∧a.kids=b.kids:=by
 cases a;cases b;simp [Tree.nD,and_assoc]
theorem Nv.goal (a b:Val):Nv.F a b=some [.b (Tree.nD a b)]:=by
 refine Nv.bY a b ?_
 intro v1 h1 v2 h2 v3 h3 v4 h4 v5 h5 v6 h6 v7 h7
 subst h1 h2 h3 h4 h5 h6 h7
 simp only [aZ,aW,bU,Bool.cond_false_right]
 rfl
theorem Y4.cO (n:Nat) (a b:Val) (hl:a.kids.length=b.kids.length) (hb:bA.cm a.kids<1099511627776) (hn:bA.cm a.kids<n):∀(m i:Nat),i+m=a.kids.length →
  ∃c:Bool,Y4.l1 n i a b=some [.b c]∧(c=true ↔ a.kids.drop i=b.kids.drop i):=by
 have hlen:=bA.wP a.kids
 intro m
 induction m with
 | zero =>
  intro i hi
  refine ⟨true,?_,by rw [aC (by omega),aC (by omega)];simp⟩
  refine Y4.bX _ _ _ _ ?_
  intro v1 h1 v2 h2 v3 h3 v4 h4 v5 h5 v6 h6 v7 h7
  rw [ab (by omega),ae]
 | succ m ih =>
  intro i hi
  obtain ⟨c,Il,Ik⟩:=ih (i+1) (by omega)
  by_cases h:(a.kids.getD i (fx.gm .fl))=(b.kids.getD i (fx.gm .fl))
  ·refine ⟨c,?_,Ik.trans ⟨fun x=>(drop_eq (i:=i) (by omega) (by omega) (fx.gm .fl)).2 ⟨h,x⟩,fun x=>((drop_eq (i:=i) (by omega) (by omega) (fx.gm .fl)).1 x).2⟩⟩
   refine Y4.bX _ _ _ _ ?_
   intro v1 h1 v2 h2 v3 h3 v4 h4 v5 h5 v6 h6 v7 h7
   rw [ak] at h2 h3
   have hg:=bA.rY a.kids i (fx.gm .fl) (by omega)
   rw [←h2] at hg h
   rw [←h3] at h
   have hv:=bA.HG v2
   rw [aa (by omega),ah,show v7=((i+1:Nat):Int) by rw [h7,i64_in _ (by omega)];omega,Il,show bD (i:Int) a.kids.length=true from bN (by omega) (by omega),show bD (i:Int) b.kids.length=true from bN (by omega) (by omega),aa (show bA.bJ (bA.of [] v2.val)<n by omega),aa (show bA.bJ (bA.of [] v2.val)≤1099511627776 by omega)]
   have e5:v5=true:=by rw [h5,Tree.ZB,h]
   rw [e5,h,aa rfl] at h6
   rw [h,aa rfl] at h4 ⊢
   subst h4 h6
   rfl
  ·refine ⟨false,?_,⟨fun x=>(by cases x),fun x=>(h ((drop_eq (i:=i) (by omega) (by omega) (fx.gm .fl)).1 x).1).elim⟩⟩
   refine Y4.bX _ _ _ _ ?_
   intro v1 h1 v2 h2 v3 h3 v4 h4 v5 h5 v6 h6 v7 h7
   rw [ak] at h2 h3
   have hg:=bA.rY a.kids i (fx.gm .fl) (by omega)
   rw [←h2] at hg h
   rw [←h3] at h
   have hv:=bA.HG v2
   rw [aa (by omega),ah,show bD (i:Int) a.kids.length=true from bN (by omega) (by omega),show bD (i:Int) b.kids.length=true from bN (by omega) (by omega),aa (show bA.bJ (bA.of [] v2.val)<n by omega),aa (show bA.bJ (bA.of [] v2.val)≤1099511627776 by omega)]
   by_cases hN:v2.name=v3.name
   ·have e5:v5=false:=by
     have:v5≠true:=by rw [h5,Ne,Tree.ZB];exact fun e=>h ((bA.ext_iff _ _).2 ⟨hN,e⟩)
     simpa using this
    rw [e5,aa hN] at h6
    rw [aa hN] at h4 ⊢
    subst h4 h6
    rfl
   ·rw [ab hN] at h4 h6 ⊢
    subst h4 h6
    rfl
theorem Y4.goal (n:Nat) (a b:Val) (hp:((decide (bA.bJ (bA.of [] a)≤1099511627776))&&decide ((bA.bJ (bA.of [] a))<n+1))=true):Y4.F n a b=some [.b (Tree.same a b)]:=by
 simp only [af,aA] at hp
 obtain ⟨hbig,hn⟩:=hp
 have OO:bA.cm a.kids<bA.bJ (bA.of [] a):=by simp only [bA.of,bA.bJ];omega
 refine Y4.bY n a b ?_
 intro v1 h1 v2 h2 v3 h3
 simp only [aZ,aW,bn,bU]
 by_cases hl:a.kids.length=b.kids.length
 ·obtain ⟨c,Il,Ik⟩:=Y4.cO n a b hl (by omega) (by omega) a.kids.length 0 (by omega)
  rw [aa (by omega)] at h3
  rw [bh,bh] at Ik
  rw [h3]
  cases ho:Tree.nD a b
  ·rw [Tree.ZM a b false (by rw [Val.ZY,ho];simp)];rfl
  ·rw [Tree.ZM a b c (by rw [Val.ZY,ho,Ik];simp)];exact Il
 ·rw [ab (by omega)] at h3
  have:v3=true:=by rw [h3];cases Tree.nD a b <;> rfl
  rw [this,Tree.ZM a b false (by constructor;(· intro h;cases h);(· intro h;rw [h] at hl;exact (hl rfl).elim))];rfl
theorem bQ.cO (a b:List Int) (hl:a.length=b.length) (hb:a.length<9223372036854775807):∀(m i:Nat),i+m=a.length→bQ.l1 a b i=some [.b (decide (a.drop i=b.drop i))]:=by
 intro m
 induction m with
 | zero =>
  intro i hi
  refine bQ.bX _ _ _ ?_
  intro v1 h1 v2 h2 v3 h3
  rw [ab (by omega),ae,aC (by omega),aC (by omega)];rfl
 | succ m ih =>
  intro i hi
  refine bQ.bX _ _ _ ?_
  intro v1 h1 v2 h2 v3 h3
  rw [ak] at h1 h2
  rw [aa (by omega),ah,bx (bN (by omega) (by omega)),bx (bN (by omega) (by omega)),drop_cons (l:=a) (i:=i) (by omega) 0,drop_cons (l:=b) (i:=i) (by omega) 0,←h1,←h2]
  by_cases h:v1=v2
  ·rw [aa h]
   simp only [aG,ae]
   rw [show v3=((i+1:Nat):Int) by rw [h3,i64_in _ (by omega)];omega,ih _ (by omega)]
   simp [h]
  ·rw [ab h];simp [h]
theorem bQ.goal (a b:List Int) (hp:decide (a.length≤1099511627776)=true):bQ.F a b=some [.b (decide (a=b))]:=by
 have hp:=aq hp
 rw [bQ.dW]
 by_cases hl:a.length=b.length
 ·rw [aa (by omega)]
  have:=bQ.cO a b hl (by omega) a.length 0 (by omega)
  simpa using this
 ·rw [ab (by omega),ab (fun e=>hl (by rw [e]))];rfl
end Go.Eng
set_option maxRecDepth 20000
namespace Go.Eng
open Go.IntWalk
theorem bS.cO (l:List bA) (hb:l.length≤1099511627776):∀(m i:Nat),i+m=l.length→bS.l1 l (l.length:Int) i=some [.b (Tree.ju i (l.drop i))]:=by
 intro m
 induction m with
 | zero =>
  intro i hi
  refine bS.bX _ _ _ ?_
  intro v1 h1 v2 h2
  rw [ab (by omega),ae,aC (by omega)];rfl
 | succ m ih =>
  intro i hi
  refine bS.bX _ _ _ ?_
  intro v1 h1 v2 h2
  rw [ak] at h1
  rw [aa (by omega),ah,bx (bN (by omega) (by omega)),bx (show Nr.i64 (i:Int)=true from aa (by omega)),←sU,show v2=((i+1:Nat):Int) by rw [h2,i64_in _ (by omega)];omega,ih _ (by omega),drop_cons (l:=l) (i:=i) (by omega) (fx.gm .fl),←h1,Tree.ju,Gt]
  by_cases a:v1.name=iT i
  ·rw [aa a];rfl
  ·rw [ab a];rfl
theorem bS.goal (l:List bA) (hp:decide (l.length≤1099511627776)=true):bS.F l=some [.b (Tree.regular l)]:=by
 rw [bS.dW]
 exact bS.cO l (aq hp) l.length 0 (by omega)
end Go.Eng
set_option maxRecDepth 20000
namespace Go.Eng
open Go.IntWalk
theorem cX.cO (jm:List Int) (hl:jm.length≤10) (hs:∀s∈jm,0≤s):∀(m i:Nat) (left:Int),i+m=jm.length→left≤1200→cX.l1 left jm i=some [.i .i64 (fu.room left (jm.drop i))]:=by
 intro m
 induction m with
 | zero =>
  intro i left hi hle
  refine cX.bX _ _ _ ?_
  intro v1 h1 v2 h2 v3 h3
  rw [ab (by omega),ae,aC (by omega)];rfl
 | succ m ih =>
  intro i left hi hle
  refine cX.bX _ _ _ ?_
  intro v1 h1 v2 h2 v3 h3
  rw [ak] at h1
  have h0:0≤v1:=hs v1 (by rw [h1,ai,ar (show i<jm.length by omega)];simp)
  rw [aa (by omega),ah,show bD (i:Int) jm.length=true from bN (by omega) (by omega),drop_cons (l:=jm) (i:=i) (by omega) 0,←h1,fu.room]
  simp only [aZ,Bool.and_true,aW,bn,bU]
  by_cases a:left<0∨left<v1
  ·rw [au a,show v2=true by rw [h2];by_cases b:left<0 <;> simp [b];omega];rfl
  ·rw [ao a,show v2=false by rw [h2];by_cases b:left<0 <;> simp [b] <;> omega,ae,show v3=((i+1:Nat):Int) by rw [h3,i64_in _ (by omega)];omega,i64_in _ (by omega),ih _ _ (by omega) (by omega)]
theorem cX.goal (left:Int) (jm:List Int) (hp:(decide (left≤1200∧jm.length≤10)&&jm.all (fun s=>decide (0≤s)))=true):cX.F left jm=some [.i .i64 (fu.room left jm)]:=by
 simp only [af,aA,aD] at hp
 rw [cX.dW]
 exact cX.cO jm hp.1.2 hp.2 jm.length 0 left (by omega) hp.1.1
theorem fu.Kc (left a:Int) (ha:0≤a) (hl:left≤1200):fu.room left [a]≤1200∧(fu.room left [a]=-1∨(fu.room left [a]=left - a∧0≤left - a)):=by
 simp only [fu.room];split <;> omega
theorem fu.Kb (left a b c d:Int) (ha:0≤a) (hb:0≤b) (hc:0≤c) (hd:0≤d) (hl:left≤1200) :
  fu.room left [a,b,c,d]≤1200∧(fu.room left [a,b,c,d]=-1∨(fu.room left [a,b,c,d]=left - a - b - c - d∧0≤left - a - b - c - d)):=by
 simp only [fu.room]
 split
 ·omega
 ·split
  ·omega
  ·split
   ·omega
   ·split <;> omega
mutual
theorem fu.tD:∀(f:bA) (left:Int),left≤1200→fu.value left f≤1200∧(0≤fu.value left f→(bA.bJ f:Int) - f.name.length≤left - fu.value left f)
 | .mk n k b h l t m s y ks,left,hl=>by
  have h1:=fu.Kb left 2 t.length m.length y.length (by omega) (by omega) (by omega) (by omega) hl
  have h2:=fu.vA ks (fu.room left [2,(t.length:Int),(m.length:Int),(y.length:Int)]) h1.1
  simp only [fu.value,bA.bJ,bA.name]
  refine ⟨h2.1,fun h0=>?_⟩
  rcases h1.2 with e | ⟨e,e0⟩
  ·have:=h2.2.2 (by omega);omega
  ·have:=h2.2.1 h0;omega
theorem fu.vA:∀(ks:List bA) (left:Int),left≤1200→fu.values left ks≤1200∧(0≤fu.values left ks→(bA.cm ks:Int)≤left - fu.values left ks)∧(left<0→fu.values left ks<0)
 | [],left,hl=>by simp only [fu.values,bA.cm];omega
 | f :: r,left,hl=>by
  simp only [fu.values,bA.cm]
  by_cases h:left<0
  ·rw [au h];omega
  ·rw [ao h]
   have h1:=fu.Kc left f.name.length (by omega) hl
   have h2:=fu.tD f (fu.room left [(f.name.length:Int)]) h1.1
   have h3:=fu.vA r (fu.value (fu.room left [(f.name.length:Int)]) f) h2.1
   refine ⟨h3.1,fun h0=>?_,fun h0=>by omega⟩
   have h4:=h3.2.1 h0
   have h5:0≤fu.value (fu.room left [(f.name.length:Int)]) f:=by
    by_cases h6:fu.value (fu.room left [(f.name.length:Int)]) f<0
    ·have:=h3.2.2 h6;omega
    ·omega
   have h7:=h2.2 h5
   have hb:(f.name.length:Int)≤bA.bJ f:=by cases f;simp only [bA.name,bA.bJ];omega
   rcases h1.2 with e | ⟨e,e0⟩
   ·omega
   ·omega
end
theorem fu.A2 (v:Val) (h:0≤fu.value 1200 (bA.of [] v)):bA.bJ (bA.of [] v)≤1200:=by
 have:=(fu.tD (bA.of [] v) 1200 (by omega)).2 h
 have hn:(bA.of [] v).name=[]:=rfl
 rw [hn] at this
 simp at this;omega
theorem fu.Dk (left:Int) (f:bA):fu.value left (bA.of [] f.val)=fu.value left f:=by cases f;rfl
theorem fu.E5 (f:bA) (left:Int) (hl:left≤1200) (h0:0≤fu.value left f):fu.value left f+1≤left:=by
 have:=(fu.tD f left hl).2 h0
 have hb:(f.name.length:Int)+1≤bA.bJ f:=by cases f;simp only [bA.name,bA.bJ];omega
 omega
theorem cd.cO (n:Nat) (v:Val) (hn:bA.cm v.kids<n):∀(m i:Nat) (left:Int),i+m=v.kids.length→(i:Int)+left≤1200 →
  cd.l1 n left i v=some [.i .i64 (fu.values left (v.kids.drop i))]:=by
 intro m
 induction m with
 | zero =>
  intro i left hi hle
  refine cd.bX _ _ _ _ ?_
  intro v1 h1 v2 h2 v3 h3 v4 h4 v5 h5 v6 h6 v7 h7
  simp only [aW,bU]
  rw [show v2=false by rw [h2,ab (by omega)];rfl,ae,aC (by omega)];rfl
 | succ m ih =>
  intro i left hi hle
  refine cd.bX _ _ _ _ ?_
  intro v1 h1 v2 h2 v3 h3 v4 h4 v5 h5 v6 h6 v7 h7
  rw [ak] at h3
  have hg:=bA.rY v.kids i (fx.gm .fl) (by omega)
  rw [←h3] at hg
  have hv:=bA.HG v3
  have r1:=fu.Kc left v4 (by omega) (by omega)
  rw [←h5] at r1
  have r2:=fu.E5 v3 v5 r1.1
  rw [fu.Dk] at h6
  simp only [aW,bU]
  rw [drop_cons (l:=v.kids) (i:=i) (by omega) (fx.gm .fl),←h3,fu.values]
  by_cases h:left<0
  ·rw [au h,show v2=false by rw [h2,ab (show ¬0≤left by omega)];simp];rfl
  ·have r3:(i:Int)+1+v6≤1200:=by
    rw [h6]
    by_cases hx:0≤fu.value v5 v3
    ·have:=r2 hx;omega
    ·omega
   rw [ao h,show v2=true by rw [h2,aa (by omega),aa (by omega)];rfl,ah,bx (bN (by omega) (by omega)),bx (by simp;omega),bx (bN (by omega) (by omega)),aa r1.1,aa (by omega),aZ,bU,
    show v7=((i+1:Nat):Int) by rw [h7,i64_in _ (by omega)];omega,ih _ _ (by omega) (by omega),h6,h5,h4]
theorem cd.goal (n:Nat) (left:Int) (v:Val) (hp:((decide (left≤1200))&&decide ((bA.bJ (bA.of [] v))<n+1))=true):cd.F n left v=some [.i .i64 (fu.value left (bA.of [] v))]:=by
 simp only [af,aA] at hp
 obtain ⟨hl,hn⟩:=hp
 have OO:bA.cm v.kids<bA.bJ (bA.of [] v):=by simp only [bA.of,bA.bJ];omega
 refine cd.bY n left v ?_
 intro v1 h1 v2 h2 v3 h3 v4 h4
 have r:=fu.Kb left 2 v1 v2 v3 (by omega) (by omega) (by omega) (by omega) hl
 rw [←h4] at r
 rw [bx (by rw [h4];simp;omega)]
 have key:=cd.cO n v (by omega) v.kids.length 0 (fu.room left v4) (by omega) (by omega)
 rw [bh] at key
 refine key.trans ?_
 rw [h4,h1,h2,h3]
 rfl
theorem dV.goal (v:Val):dV.F v=some [.b (decide (0≤fu.value 1200 (bA.of [] v)))]:=by
 refine dV.bY v ?_
 intro v1 h1
 rw [bx (by decide),h1]
end Go.Eng
set_option maxRecDepth 20000
namespace Go.Eng
open Go.Proofs
variable {ee:Errs}
theorem cD.ok:bC PG (cnGl ee) 147 (cD.c,cD.sg):=meets bG all_nil cD.h (fits fun ins=>by unfold cD.c;split;exact cD.goal _;trivial)
theorem iK.ok:bC PG (cnGl ee) 204 (iK.c,iK.sg):=meets bG all_nil iK.h (fits fun ins=>by unfold iK.c;split;exact iK.goal _;trivial)
theorem bK.ok:bC PG (cnGl ee) 170 (bK.c,bK.sg):=meets bG (all_cons iK.ok all_nil) bK.h (fits fun ins=>by unfold bK.c;split;exact bK.goal _ _;trivial)
theorem cE.ok:bC PG (cnGl ee) 129 (cE.c,cE.sg):=meets bG (all_cons bK.ok all_nil) cE.h (fits fun ins=>by unfold cE.c;split;exact cE.goal _;trivial)
theorem dX.ok:bC PG (cnGl ee) 97 (dX.c,dX.sg):=meets bG (all_cons cE.ok all_nil) dX.h (fits fun ins=>by unfold dX.c;split;exact dX.goal _;trivial)
theorem Y3.ok:bC PG (cnGl ee) 148 (Y3.c,Y3.sg):=meets bG all_nil Y3.h (fits fun ins=>by unfold Y3.c;split;exact Y3.goal _ _;trivial)
theorem Y6.ok:bC PG (cnGl ee) 114 (Y6.c,Y6.sg):=meets bG (all_cons Y3.ok all_nil) Y6.h (fits fun ins=>by unfold Y6.c;split;exact Y6.goal _;trivial)
theorem Ln.ok:bC PG (cnGl ee) 83 (Ln.c,Ln.sg):=meets bG (all_cons Y6.ok all_nil) Ln.h (fits fun ins=>by unfold Ln.c;split;exact Ln.goal _;trivial)
theorem Y8.ok:bC PG (cnGl ee) 87 (Y8.c,Y8.sg):=meets bG all_nil Y8.h (fits fun ins=>by unfold Y8.c;split;exact Y8.goal _;trivial)
theorem cT.ok:bC PG (cnGl ee) 183 (cT.c,cT.sg):=meets bG all_nil cT.h (fits fun ins=>by unfold cT.c;split;exact cT.goal _ _;trivial)
theorem fF.ok:bC PG (cnGl ee) 171 (fF.c,fF.sg):=meets bG (all_cons cT.ok all_nil) fF.h (fits fun ins=>by unfold fF.c;split;exact fF.goal _ _;trivial)
theorem fE.ok:bC PG (cnGl ee) 130 (fE.c,fE.sg):=meets bG (all_cons fF.ok all_nil) fE.h (fits fun ins=>by unfold fE.c;split;exact fE.goal _ _;trivial)
theorem dF.ok:bC PG (cnGl ee) 98 (dF.c,dF.sg):=meets bG (all_cons fE.ok all_nil) dF.h (fits fun ins=>by unfold dF.c;split;exact dF.goal _ _;trivial)
theorem fg.ok:bC PG (cnGl ee) 59 (fg.c,fg.sg):=meets bG all_nil fg.h (fits fun ins=>by unfold fg.c;split;exact fg.goal _;trivial)
theorem eO.ok:bC PG (cnGl ee) 58 (eO.c,eO.sg):=meets bG all_nil eO.h (fits fun ins=>by unfold eO.c;split;exact eO.goal _;trivial)
theorem bB.ok:bC PG (cnGl ee) 60 (bB.c,bB.sg):=meets bG all_nil bB.h (fits fun ins=>by unfold bB.c;split;exact bB.goal (.mk _ _ _ _ _ _ _ _ _);trivial)
theorem dU.ok:bC PG (cnGl ee) 61 (dU.c,dU.sg):=meets bG (all_cons dX.ok (all_cons dF.ok all_nil)) dU.h (fits fun ins=>by unfold dU.c;split;exact dU.goal _ _;trivial)
theorem Lb.Bk:∀n:Nat,(bC PG (cnGl ee) 41 (b9.cn n,b9.sg)):=by
 intro n
 induction n with
 | zero=>exact jk (by intro ti kV h;unfold b9.cn at h;split at h;exact absurd (aO.1 h.1).2 (by simp);exact h.elim)
 | succ n ih =>
  have BA:=ih
  exact meets bG (all_cons BA (all_cons eO.ok (all_cons fg.ok (all_cons bB.ok (all_cons dU.ok all_nil))))) b9.h (fits fun ins=>by unfold b9.cn;split;exact b9.goal _ (.mk _ _ _ _ _ _ _ _ _) _ _;trivial)
theorem b9.ok:bC PG (cnGl ee) 41 (b9.c,b9.sg):=kX fun ti kV h=>by
 unfold b9.c at h
 split at h
 ·obtain ⟨hp,rfl⟩:=h;exact ⟨b9.cn (_+1),(Lb.Bk _),aO.2 ⟨hp,aa (Nat.lt_succ_self _)⟩,rfl⟩
 ·exact h.elim
theorem dC.ok:bC PG (cnGl ee) 25 (dC.c,dC.sg):=meets bG (all_cons b9.ok all_nil) dC.h (fits fun ins=>by unfold dC.c;split;exact dC.goal (.mk _ _ _ _ _ _ _ _ _);trivial)
theorem fQ.ok:bC PG (cnGl ee) 128 (fQ.c,fQ.sg):=meets bG all_nil fQ.h (fits fun ins=>by unfold fQ.c;split;exact fQ.goal _ _;trivial)
theorem Ke.ok:bC PG (cnGl ee) 115 (Ke.c,Ke.sg):=meets bG all_nil Ke.h (fits fun ins=>by unfold Ke.c;split;exact Ke.goal;trivial)
theorem Y7.ok:bC PG (cnGl ee) 85 (Y7.c,Y7.sg):=meets bG (all_cons Ke.ok all_nil) Y7.h (fits fun ins=>by unfold Y7.c;split;exact Y7.goal _;trivial)
theorem Y0.ok:bC PG (cnGl ee) 86 (Y0.c,Y0.sg):=meets bG all_nil Y0.h (fits fun ins=>by unfold Y0.c;split;exact Y0.goal _;trivial)
theorem Zf.ok:bC PG (cnGl ee) 48 (Zf.c,Zf.sg):=meets bG (all_cons Ln.ok (all_cons Y7.ok (all_cons Y0.ok (all_cons Y8.ok all_nil)))) Zf.h (fits fun ins=>by unfold Zf.c;split;exact Zf.goal (.mk _ _ _ _ _ _ _ _ _);trivial)
theorem Zc.ok:bC PG (cnGl ee) 49 (Zc.c,Zc.sg):=meets bG (all_cons Ln.ok (all_cons Y8.ok all_nil)) Zc.h (fits fun ins=>by unfold Zc.c;split;exact Zc.goal _;trivial)
theorem Za.ok:bC PG (cnGl ee) 50 (Za.c,Za.sg):=meets bG all_nil Za.h (fits fun ins=>by unfold Za.c;split;exact Za.goal _ _;trivial)
theorem Zh.ok:bC PG (cnGl ee) 113 (Zh.c,Zh.sg):=meets bG all_nil Zh.h (fits fun ins=>by unfold Zh.c;split;exact Zh.goal _;trivial)
theorem YZ.ok:bC PG (cnGl ee) 82 (YZ.c,YZ.sg):=meets bG (all_cons Zh.ok all_nil) YZ.h (fits fun ins=>by unfold YZ.c;split;exact YZ.goal _;trivial)
theorem aah.Bk:∀n:Nat,(bC PG (cnGl ee) 31 (Y1.cn n,Y1.sg))∧(bC PG (cnGl ee) 46 (Nx.cn n,Nx.sg)):=by
 intro n
 induction n with
 | zero=>exact ⟨jk (by intro ti kV h;unfold Y1.cn at h;split at h;exact absurd (aO.1 h.1).2 (by simp);exact h.elim),jk (by intro ti kV h;unfold Nx.cn at h;split at h;exact absurd (aO.1 h.1).2 (by simp);exact h.elim)⟩
 | succ n ih =>
  obtain ⟨BA,Rj⟩:=ih
  exact ⟨meets bG (all_cons BA (all_cons Zf.ok (all_cons Zc.ok (all_cons Za.ok all_nil)))) Y1.h (fits fun ins=>by unfold Y1.cn;split;exact Y1.goal _ (.mk _ _ _ _ _ _ _ _ _) _ _;trivial),meets bG (all_cons Rj (all_cons YZ.ok (all_cons Ln.ok all_nil))) Nx.h (fits fun ins=>by unfold Nx.cn;split;exact Nx.goal _ (.mk _ _ _);trivial)⟩
theorem Y1.ok:bC PG (cnGl ee) 31 (Y1.c,Y1.sg):=kX fun ti kV h=>by
 unfold Y1.c at h
 split at h
 ·obtain ⟨hp,rfl⟩:=h;exact ⟨Y1.cn (_+1),(aah.Bk _).1,aO.2 ⟨hp,aa (Nat.lt_succ_self _)⟩,rfl⟩
 ·exact h.elim
theorem Zd.ok:bC PG (cnGl ee) 15 (Zd.c,Zd.sg):=meets bG (all_cons Y1.ok all_nil) Zd.h (fits fun ins=>by unfold Zd.c;split;exact Zd.goal (.mk _ _ _ _ _ _ _ _ _);trivial)
theorem Nv.ok:bC PG (cnGl ee) 37 (Nv.c,Nv.sg):=meets bG all_nil Nv.h (fits fun ins=>by unfold Nv.c;split;exact Nv.goal (.mk _ _ _ _ _ _ _ _ _) (.mk _ _ _ _ _ _ _ _ _);trivial)
theorem rsame.Bk:∀n:Nat,(bC PG (cnGl ee) 20 (Y4.cn n,Y4.sg)):=by
 intro n
 induction n with
 | zero=>exact jk (by intro ti kV h;unfold Y4.cn at h;split at h;exact absurd (aO.1 h.1).2 (by simp);exact h.elim)
 | succ n ih =>
  have BA:=ih
  exact meets bG (all_cons BA (all_cons Nv.ok all_nil)) Y4.h (fits fun ins=>by unfold Y4.cn;split;exact Y4.goal _ (.mk _ _ _ _ _ _ _ _ _) (.mk _ _ _ _ _ _ _ _ _);trivial)
theorem Y4.ok:bC PG (cnGl ee) 20 (Y4.c,Y4.sg):=kX fun ti kV h=>by
 unfold Y4.c at h
 split at h
 ·obtain ⟨hp,rfl⟩:=h;exact ⟨Y4.cn (_+1),(rsame.Bk _),aO.2 ⟨hp,aa (Nat.lt_succ_self _)⟩,rfl⟩
 ·exact h.elim
theorem bQ.ok:bC PG (cnGl ee) 30 (bQ.c,bQ.sg):=meets bG all_nil bQ.h (fits fun ins=>by unfold bQ.c;split;exact bQ.goal _ _;trivial)
theorem cX.ok:bC PG (cnGl ee) 40 (cX.c,cX.sg):=meets bG all_nil cX.h (fits fun ins=>by unfold cX.c;split;exact cX.goal _ _;trivial)
theorem M4.Bk:∀n:Nat,(bC PG (cnGl ee) 24 (cd.cn n,cd.sg)):=by
 intro n
 induction n with
 | zero=>exact jk (by intro ti kV h;unfold cd.cn at h;split at h;exact absurd (aO.1 h.1).2 (by simp);exact h.elim)
 | succ n ih =>
  have BA:=ih
  exact meets bG (all_cons BA (all_cons cX.ok all_nil)) cd.h (fits fun ins=>by unfold cd.cn;split;exact cd.goal _ _ (.mk _ _ _ _ _ _ _ _ _);trivial)
theorem cd.ok:bC PG (cnGl ee) 24 (cd.c,cd.sg):=kX fun ti kV h=>by
 unfold cd.c at h
 split at h
 ·obtain ⟨hp,rfl⟩:=h;exact ⟨cd.cn (_+1),(M4.Bk _),aO.2 ⟨hp,aa (Nat.lt_succ_self _)⟩,rfl⟩
 ·exact h.elim
theorem dV.ok:bC PG (cnGl ee) 8 (dV.c,dV.sg):=meets bG (all_cons cd.ok all_nil) dV.h (fits fun ins=>by unfold dV.c;split;exact dV.goal (.mk _ _ _ _ _ _ _ _ _);trivial)
theorem bS.ok:bC PG (cnGl ee) 66 (bS.c,bS.sg):=meets bG (all_cons iC.ok all_nil) bS.h (fits fun ins=>by unfold bS.c;split;exact bS.goal _;trivial)
theorem cw.ok:bC PG (cnGl ee) 151 (cw.c,cw.sg):=meets bG all_nil cw.h (fits fun ins=>by unfold cw.c;split;exact cw.goal _;trivial)
theorem bits_Len64.ok:bC PG (cnGl ee) 200 (bits_Len64.c,bits_Len64.sg):=meets bG all_nil bits_Len64.h (fits fun ins=>by unfold bits_Len64.c;split;exact bits_Len64.goal _;trivial)
theorem ff.ok:bC PG (cnGl ee) 187 (ff.c,ff.sg):=meets bG all_nil ff.h (fits fun ins=>by unfold ff.c;split;exact ff.goal _;trivial)
theorem fL.ok:bC PG (cnGl ee) 260 (fL.c,fL.sg):=meets bG (all_cons iF.ok all_nil) fL.h (fits fun ins=>by unfold fL.c;split;exact fL.goal (_,_);trivial)
theorem jN.ok:bC PG (cnGl ee) 258 (jN.c,jN.sg):=meets bG all_nil jN.h (fits fun ins=>by unfold jN.c;split;exact jN.goal _ _;trivial)
theorem fe.ok:bC PG (cnGl ee) 243 (fe.c,fe.sg):=meets bG (all_cons iF.ok all_nil) fe.h (fits fun ins=>by unfold fe.c;split;exact fe.goal (_,_);trivial)
theorem gN.ok:bC PG (cnGl ee) 273 (gN.c,gN.sg):=meets bG (all_cons iF.ok all_nil) gN.h (fits fun ins=>by unfold gN.c;split;exact gN.goal (_,_) _;trivial)
theorem fM.ok:bC PG (cnGl ee) 241 (fM.c,fM.sg):=meets bG (all_cons fL.ok all_nil) fM.h (fits fun ins=>by unfold fM.c;split;exact fM.goal (_,_) (_,_);trivial)
theorem gF.ok:bC PG (cnGl ee) 271 (gF.c,gF.sg):=meets bG (all_cons dE.ok all_nil) gF.h (fits fun ins=>by unfold gF.c;split;exact gF.goal _;trivial)
theorem eW.ok:bC PG (cnGl ee) 261 (eW.c,eW.sg):=meets bG (all_cons gF.ok all_nil) eW.h (fits fun ins=>by unfold eW.c;split;exact eW.goal (.mk (_,_) (_,_) (_,_) (_,_));trivial)
theorem cQ.ok:bC PG (cnGl ee) 262 (cQ.c,cQ.sg):=meets bG (all_cons gN.ok all_nil) cQ.h (fits fun ins=>by unfold cQ.c;split;exact cQ.goal (.mk (_,_) (_,_) (_,_) (_,_)) _;trivial)
theorem gG.ok:bC PG (cnGl ee) 259 (gG.c,gG.sg):=meets bG (all_cons eW.ok (all_cons cQ.ok all_nil)) gG.h (fits fun ins=>by unfold gG.c;split;exact gG.goal (.mk (_,_) (_,_) (_,_) (_,_));trivial)
theorem ez.ok:bC PG (cnGl ee) 242 (ez.c,ez.sg):=meets bG (all_cons fe.ok (all_cons eW.ok (all_cons cQ.ok all_nil))) ez.h (fits fun ins=>by unfold ez.c;split;exact ez.goal (.mk (_,_) (_,_) (_,_) (_,_));trivial)
theorem cV.ok:bC PG (cnGl ee) 239 (cV.c,cV.sg):=meets bG all_nil cV.h (fits fun ins=>by unfold cV.c;split;exact cV.goal _;trivial)
theorem cK.ok:bC PG (cnGl ee) 240 (cK.c,cK.sg):=meets bG (all_cons jN.ok (all_cons gG.ok all_nil)) cK.h (fits fun ins=>by unfold cK.c;split;exact cK.goal _;trivial)
theorem bO.ok:bC PG (cnGl ee) 216 (bO.c,bO.sg):=meets bG (all_cons cV.ok (all_cons cK.ok (all_cons fM.ok (all_cons ez.ok (all_cons fe.ok all_nil))))) bO.h (fits fun ins=>by unfold bO.c;split;exact bO.goal _ _;trivial)
theorem dm.ok:bC PG (cnGl ee) 190 (dm.c,dm.sg):=meets bG all_nil dm.h (fits fun ins=>by unfold dm.c;split;exact dm.goal _;trivial)
theorem fj.ok:bC PG (cnGl ee) 149 (fj.c,fj.sg):=meets bG all_nil fj.h (fits fun ins=>by unfold fj.c;split;exact fj.goal _;trivial)
theorem fv.ok:bC PG (cnGl ee) 116 (fv.c,fv.sg):=meets bG all_nil fv.h (fits fun ins=>by unfold fv.c;split;exact fv.goal _;trivial)
theorem dy.ok:bC PG (cnGl ee) 267 (dy.c,dy.sg):=meets bG (all_cons fj.ok all_nil) dy.h (fits fun ins=>by unfold dy.c;split;exact dy.goal _;trivial)
theorem fY.ok:bC PG (cnGl ee) 118 (fY.c,fY.sg):=meets bG (all_cons fj.ok (all_cons cw.ok all_nil)) fY.h (fits fun ins=>by unfold fY.c;split;exact fY.goal _;trivial)
theorem fc.ok:bC PG (cnGl ee) 186 (fc.c,fc.sg):=meets bG all_nil fc.h (fits fun ins=>by unfold fc.c;split;exact fc.goal _ _;trivial)
theorem gD.ok:bC PG (cnGl ee) 153 (gD.c,gD.sg):=meets bG (all_cons fj.ok (all_cons fc.ok all_nil)) gD.h (fits fun ins=>by unfold gD.c;split;exact gD.goal _ _;trivial)
theorem cH.ok:bC PG (cnGl ee) 217 (cH.c,cH.sg):=meets bG all_nil cH.h (fits fun ins=>by unfold cH.c;split;exact cH.goal _;trivial)
theorem dB.ok:bC PG (cnGl ee) 185 (dB.c,dB.sg):=meets bG (all_cons fj.ok (all_cons dm.ok (all_cons bO.ok (all_cons cH.ok all_nil)))) dB.h (fits fun ins=>by unfold dB.c;split;exact dB.goal _ _;trivial)
theorem eZ.ok:bC PG (cnGl ee) 188 (eZ.c,eZ.sg):=meets bG (all_cons dm.ok all_nil) eZ.h (fits fun ins=>by unfold eZ.c;split;exact eZ.goal _ _;trivial)
theorem fq.ok:bC PG (cnGl ee) 150 (fq.c,fq.sg):=meets bG all_nil fq.h (fits fun ins=>by unfold fq.c;split;exact fq.goal _ _;trivial)
theorem dh.ok:bC PG (cnGl ee) 191 (dh.c,dh.sg):=meets bG (all_cons dm.ok all_nil) dh.h (fits fun ins=>by unfold dh.c;split;exact dh.goal _ _;trivial)
theorem bH.ok:bC PG (cnGl ee) 189 (bH.c,bH.sg):=meets bG all_nil bH.h (fits fun ins=>by unfold bH.c;split;exact bH.goal _ _;trivial)
theorem iq.ok:bC PG (cnGl ee) 154 (iq.c,iq.sg):=meets bG (all_cons fv.ok (all_cons fj.ok (all_cons fq.ok (all_cons cw.ok (all_cons fc.ok (all_cons ff.ok (all_cons eZ.ok (all_cons bH.ok (all_cons dm.ok (all_cons dh.ok all_nil)))))))))) iq.h (fits fun ins=>by unfold iq.c;split;exact iq.goal _ _;trivial)
theorem iZ.ok:bC PG (cnGl ee) 117 (iZ.c,iZ.sg):=meets bG (all_cons fj.ok (all_cons fq.ok all_nil)) iZ.h (fits fun ins=>by unfold iZ.c;split;exact iZ.goal _ _;trivial)
theorem da.ok:bC PG (cnGl ee) 215 (da.c,da.sg):=meets bG all_nil da.h (fits fun ins=>by unfold da.c;split;exact da.goal _ _ _;trivial)
theorem de.ok:bC PG (cnGl ee) 184 (de.c,de.sg):=meets bG (all_cons fv.ok (all_cons fj.ok (all_cons da.ok all_nil))) de.h (fits fun ins=>by unfold de.c;split;exact de.goal _ _;trivial)
theorem dz.ok:bC PG (cnGl ee) 226 (dz.c,dz.sg):=meets bG (all_cons fj.ok (all_cons da.ok all_nil)) dz.h (fits fun ins=>by unfold dz.c;split;exact dz.goal _;trivial)
theorem et.ok:bC PG (cnGl ee) 251 (et.c,et.sg):=meets bG (all_cons bits_Len64.ok (all_cons mH.ok all_nil)) et.h (fits fun ins=>by unfold et.c;split;exact et.goal _ _ _;trivial)
theorem cJ.ok:bC PG (cnGl ee) 250 (cJ.c,cJ.sg):=meets bG (all_cons iZ.ok (all_cons gD.ok (all_cons iq.ok (all_cons dy.ok all_nil)))) cJ.h (fits fun ins=>by unfold cJ.c;split;exact cJ.goal _ _ _;trivial)
theorem dr.ok:bC PG (cnGl ee) 227 (dr.c,dr.sg):=meets bG (all_cons fY.ok (all_cons cJ.ok (all_cons et.ok all_nil))) dr.h (fits fun ins=>by unfold dr.c;split;exact dr.goal _ _;trivial)
theorem eh.ok:bC PG (cnGl ee) 194 (eh.c,eh.sg):=meets bG (all_cons fv.ok (all_cons de.ok (all_cons dB.ok (all_cons gi.ok (all_cons mu.ok (all_cons gS.ok (all_cons dz.ok (all_cons dr.ok all_nil)))))))) eh.h (fits fun ins=>by unfold eh.c;split;exact eh.goal _ _;trivial)
theorem jJ.ok:bC PG (cnGl ee) 91 (jJ.c,jJ.sg):=meets bG all_nil jJ.h (fits fun ins=>by unfold jJ.c;split;exact jJ.goal _ _ _ _;trivial)
theorem cW.ok:bC PG (cnGl ee) 92 (cW.c,cW.sg):=meets bG all_nil cW.h (fits fun ins=>by unfold cW.c;split;exact cW.goal _ _;trivial)
theorem bF.ok:bC PG (cnGl ee) 54 (bF.c,bF.sg):=meets bG (all_cons jJ.ok (all_cons cW.ok all_nil)) bF.h (fits fun ins=>by unfold bF.c;split;exact bF.goal _;trivial)
theorem Zi.ok:bC PG (cnGl ee) 39 (Zi.c,Zi.sg):=meets bG all_nil Zi.h (fits fun ins=>by unfold Zi.c;split;exact Zi.goal _;trivial)
theorem dN.ok:bC PG (cnGl ee) 51 (dN.c,dN.sg):=meets bG all_nil dN.h (fits fun ins=>by unfold dN.c;split;exact dN.goal _;trivial)
theorem cP.ok:bC PG (cnGl ee) 156 (cP.c,cP.sg):=meets bG (all_cons fj.ok (all_cons ff.ok all_nil)) cP.h (fits fun ins=>by unfold cP.c;split;exact cP.goal _ _;trivial)
theorem cG.ok:bC PG (cnGl ee) 218 (cG.c,cG.sg):=meets bG all_nil cG.h (fits fun ins=>by unfold cG.c;split;exact cG.goal _;trivial)
theorem dc.ok:bC PG (cnGl ee) 192 (dc.c,dc.sg):=meets bG (all_cons iC.ok (all_cons fS.ok (all_cons fj.ok (all_cons eZ.ok (all_cons cG.ok (all_cons mv.ok all_nil)))))) dc.h (fits fun ins=>by unfold dc.c;split;exact dc.goal _;trivial)
theorem eM.ok:bC PG (cnGl ee) 56 (eM.c,eM.sg):=meets bG (all_cons iD.ok all_nil) eM.h (fits fun ins=>by unfold eM.c;split;exact eM.goal _;trivial)
theorem fU.ok:bC PG (cnGl ee) 152 (fU.c,fU.sg):=meets bG (all_cons de.ok (all_cons dB.ok all_nil)) fU.h (fits fun ins=>by unfold fU.c;split;exact fU.goal _ _ _;trivial)
theorem fH.ok:bC PG (cnGl ee) 119 (fH.c,fH.sg):=meets bG (all_cons fU.ok (all_cons gD.ok all_nil)) fH.h (fits fun ins=>by unfold fH.c;split;exact fH.goal _ _ _;trivial)
theorem fG.ok:bC PG (cnGl ee) 155 (fG.c,fG.sg):=meets bG (all_cons dc.ok (all_cons gi.ok (all_cons eh.ok all_nil))) fG.h (fits fun ins=>by unfold fG.c;split;exact fG.goal _ _ _;trivial)
theorem gJ.ok:bC PG (cnGl ee) 120 (gJ.c,gJ.sg):=meets bG (all_cons fv.ok (all_cons iZ.ok (all_cons fU.ok (all_cons gD.ok (all_cons iq.ok (all_cons fG.ok (all_cons cP.ok all_nil))))))) gJ.h (fits fun ins=>by unfold gJ.c;split;exact gJ.goal _ _ _ _ _;trivial)
theorem bM.ok:bC PG (cnGl ee) 88 (bM.c,bM.sg):=meets bG (all_cons dN.ok (all_cons fv.ok (all_cons iZ.ok (all_cons fY.ok (all_cons fH.ok (all_cons gJ.ok all_nil)))))) bM.h (fits fun ins=>by unfold bM.c;split;exact bM.goal _;trivial)
theorem dY.ok:bC PG (cnGl ee) 89 (dY.c,dY.sg):=meets bG (all_cons eM.ok (all_cons fS.ok all_nil)) dY.h (fits fun ins=>by unfold dY.c;split;exact dY.goal _ _;trivial)
theorem dD.ok:bC PG (cnGl ee) 52 (dD.c,dD.sg):=meets bG (all_cons dN.ok (all_cons bM.ok (all_cons dY.ok all_nil))) dD.h (fits fun ins=>by unfold dD.c;split;exact dD.goal _;trivial)
theorem cY.ok:bC PG (cnGl ee) 255 (cY.c,cY.sg):=meets bG (all_cons mw.ok all_nil) cY.h (fits fun ins=>by unfold cY.c;split;exact cY.goal _ _;trivial)
theorem dj.ok:bC PG (cnGl ee) 102 (dj.c,dj.sg):=meets bG all_nil dj.h (fits fun ins=>by unfold dj.c;split;exact dj.goal _ _;trivial)
theorem cS.ok:bC PG (cnGl ee) 65 (cS.c,cS.sg):=meets bG (all_cons dj.ok all_nil) cS.h (fits fun ins=>by unfold cS.c;split;exact cS.goal _ _;trivial)
theorem di.ok:bC PG (cnGl ee) 146 (di.c,di.sg):=meets bG (all_cons cT.ok all_nil) di.h (fits fun ins=>by unfold di.c;split;exact di.goal _ _;trivial)
theorem fJ.ok:bC PG (cnGl ee) 196 (fJ.c,fJ.sg):=meets bG all_nil fJ.h (fits fun ins=>by unfold fJ.c;split;exact fJ.goal _ _;trivial)
theorem eP.ok:bC PG (cnGl ee) 277 (eP.c,eP.sg):=meets bG (all_cons bits_Len64.ok all_nil) eP.h (fits fun ins=>by unfold eP.c;split;exact eP.goal _;trivial)
theorem bI.ok:bC PG (cnGl ee) 269 (bI.c,bI.sg):=meets bG (all_cons eP.ok all_nil) bI.h (fits fun ins=>by unfold bI.c;split;exact bI.goal _ _ _;trivial)
theorem ij.ok:bC PG (cnGl ee) 252 (ij.c,ij.sg):=meets bG all_nil ij.h (fits fun ins=>by unfold ij.c;split;exact ij.goal (.mk _ _) (.mk _ _);trivial)
theorem iH.ok:bC PG (cnGl ee) 268 (iH.c,iH.sg):=meets bG (all_cons fJ.ok all_nil) iH.h (fits fun ins=>by unfold iH.c;split;exact iH.goal _ _;trivial)
theorem iI.ok:bC PG (cnGl ee) 254 (iI.c,iI.sg):=meets bG (all_cons bI.ok all_nil) iI.h (fits fun ins=>by unfold iI.c;split;exact iI.goal (.mk _ _) _;trivial)
theorem cZ.ok:bC PG (cnGl ee) 236 (cZ.c,cZ.sg):=meets bG (all_cons fS.ok (all_cons gS.ok (all_cons iI.ok (all_cons cY.ok all_nil)))) cZ.h (fits fun ins=>by unfold cZ.c;split;exact cZ.goal (.mk _ _);trivial)
theorem fW.ok:bC PG (cnGl ee) 253 (fW.c,fW.sg):=meets bG (all_cons iH.ok all_nil) fW.h (fits fun ins=>by unfold fW.c;split;exact fW.goal;trivial)
theorem dv.ok:bC PG (cnGl ee) 233 (dv.c,dv.sg):=meets bG (all_cons ij.ok (all_cons fW.ok all_nil)) dv.h (fits fun ins=>by unfold dv.c;split;exact dv.goal _ _;trivial)
theorem eH.ok:bC PG (cnGl ee) 234 (eH.c,eH.sg):=meets bG (all_cons ij.ok (all_cons fW.ok all_nil)) eH.h (fits fun ins=>by unfold eH.c;split;exact eH.goal _ (.mk _ _) _;trivial)
theorem fN.ok:bC PG (cnGl ee) 209 (fN.c,fN.sg):=meets bG (all_cons dv.ok (all_cons eH.ok all_nil)) fN.h (fits fun ins=>by unfold fN.c;split;exact fN.goal _ _;trivial)
theorem dt.ok:bC PG (cnGl ee) 235 (dt.c,dt.sg):=meets bG (all_cons iC.ok (all_cons fS.ok all_nil)) dt.h (fits fun ins=>by unfold dt.c;split;exact dt.goal _ _;trivial)
theorem eG.ok:bC PG (cnGl ee) 210 (eG.c,eG.sg):=meets bG (all_cons dv.ok (all_cons dt.ok (all_cons cZ.ok all_nil))) eG.h (fits fun ins=>by unfold eG.c;split;exact eG.goal _ _;trivial)
theorem db.ok:bC PG (cnGl ee) 211 (db.c,db.sg):=meets bG all_nil db.h (fits fun ins=>by unfold db.c;split;exact db.goal _;trivial)
theorem gB.ok:bC PG (cnGl ee) 174 (gB.c,gB.sg):=meets bG all_nil gB.h (fits fun ins=>by unfold gB.c;split;exact gB.goal _;trivial)
theorem ik.ok:bC PG (cnGl ee) 175 (ik.c,ik.sg):=meets bG (all_cons eM.ok all_nil) ik.h (fits fun ins=>by unfold ik.c;split;exact ik.goal _;trivial)
theorem gC.ok:bC PG (cnGl ee) 172 (gC.c,gC.sg):=meets bG all_nil gC.h (fits fun ins=>by unfold gC.c;split;exact gC.goal _ (.mk _ _ _);trivial)
theorem gA.ok:bC PG (cnGl ee) 173 (gA.c,gA.sg):=meets bG all_nil gA.h (fits fun ins=>by unfold gA.c;split;exact gA.goal _ (.mk _ _ _) _ (.mk _ _ _);trivial)
theorem dR.ok:bC PG (cnGl ee) 208 (dR.c,dR.sg):=meets bG (all_cons cD.ok all_nil) dR.h (fits fun ins=>by unfold dR.c;split;exact dR.goal _;trivial)
theorem eT.ok:bC PG (cnGl ee) 176 (eT.c,eT.sg):=meets bG (all_cons dD.ok (all_cons eM.ok (all_cons gC.ok (all_cons gA.ok (all_cons gB.ok (all_cons ik.ok (all_cons dR.ok (all_cons fN.ok (all_cons eG.ok all_nil))))))))) eT.h (fits fun ins=>by unfold eT.c;split;exact eT.goal (.mk _ _ _ _ _ _ _ _ _);trivial)
theorem gO.ok:bC PG (cnGl ee) 177 (gO.c,gO.sg):=meets bG (all_cons cD.ok (all_cons gC.ok (all_cons gA.ok (all_cons gB.ok (all_cons db.ok all_nil))))) gO.h (fits fun ins=>by unfold gO.c;split;exact gO.goal (.mk _ _ _ _ _ _ _ _ _);trivial)
theorem Sx.Bk:∀n:Nat,(bC PG (cnGl ee) 104 (cN.cn n,cN.sg))∧(bC PG (cnGl ee) 133 (cn_value.cn n,cn_value.sg)):=by
 intro n
 induction n with
 | zero=>exact ⟨jk (by intro ti kV h;unfold cN.cn at h;split at h;exact absurd (aO.1 h.1).2 (by simp);exact h.elim),jk (by intro ti kV h;unfold cn_value.cn at h;split at h;exact absurd (aO.1 h.1).2 (by simp);exact h.elim)⟩
 | succ n ih =>
  obtain ⟨BA,Rj⟩:=ih
  exact ⟨meets bG (all_cons Rj all_nil) cN.h (fits fun ins=>by unfold cN.cn;split;exact cN.goal _ _;trivial),meets bG (all_cons cS.ok (all_cons bS.ok (all_cons BA (all_cons gC.ok (all_cons gA.ok (all_cons gB.ok (all_cons ik.ok (all_cons eT.ok (all_cons gO.ok all_nil))))))))) cn_value.h (fits fun ins=>by unfold cn_value.cn;split;exact cn_value.goal _ (.mk _ _ _ _ _ _ _ _ _);trivial)⟩
theorem cN.ok:bC PG (cnGl ee) 104 (cN.c,cN.sg):=kX fun ti kV h=>by
 unfold cN.c at h
 split at h
 ·obtain ⟨hp,rfl⟩:=h;exact ⟨cN.cn (_+1),(Sx.Bk _).1,aO.2 ⟨hp,aa (Nat.lt_succ_self _)⟩,rfl⟩
 ·exact h.elim
theorem gP.ok:bC PG (cnGl ee) 67 (gP.c,gP.sg):=meets bG (all_cons dC.ok (all_cons cN.ok all_nil)) gP.h (fits fun ins=>by unfold gP.c;split;exact gP.goal (.mk _ _ _ _ _ _ _ _ _);trivial)
theorem jo.ok:bC PG (cnGl ee) 80 (jo.c,jo.sg):=meets bG (all_cons dX.ok all_nil) jo.h (fits fun ins=>by unfold jo.c;split;exact jo.goal _;trivial)
theorem LO.Bk:∀n:Nat,(bC PG (cnGl ee) 44 (bZ.cn n,bZ.sg)):=by
 intro n
 induction n with
 | zero=>exact jk (by intro ti kV h;unfold bZ.cn at h;split at h;exact absurd (aO.1 h.1).2 (by simp);exact h.elim)
 | succ n ih =>
  have BA:=ih
  exact meets bG (all_cons BA (all_cons bF.ok (all_cons jo.ok all_nil))) bZ.h (fits fun ins=>by unfold bZ.cn;split;exact bZ.goal _ (.mk _ _ _);trivial)
theorem bZ.ok:bC PG (cnGl ee) 44 (bZ.c,bZ.sg):=kX fun ti kV h=>by
 unfold bZ.c at h
 split at h
 ·obtain ⟨hp,rfl⟩:=h;exact ⟨bZ.cn (_+1),(LO.Bk _),aO.2 ⟨hp,aa (Nat.lt_succ_self _)⟩,rfl⟩
 ·exact h.elim
theorem cF.ok:bC PG (cnGl ee) 112 (cF.c,cF.sg):=meets bG (all_cons jo.ok (all_cons di.ok (all_cons cD.ok all_nil))) cF.h (fits fun ins=>by unfold cF.c;split;exact cF.goal _;trivial)
theorem eS.ok:bC PG (cnGl ee) 81 (eS.c,eS.sg):=meets bG (all_cons cF.ok all_nil) eS.h (fits fun ins=>by unfold eS.c;split;exact eS.goal _ _;trivial)
theorem Rg.Bk:∀n:Nat,(bC PG (cnGl ee) 45 (cz.cn n,cz.sg)):=by
 intro n
 induction n with
 | zero=>exact jk (by intro ti kV h;unfold cz.cn at h;split at h;exact absurd (aO.1 h.1).2 (by simp);exact h.elim)
 | succ n ih =>
  have BA:=ih
  exact meets bG (all_cons BA (all_cons eS.ok all_nil)) cz.h (fits fun ins=>by unfold cz.cn;split;exact cz.goal _ _ (.mk _ _ _);trivial)
theorem cz.ok:bC PG (cnGl ee) 45 (cz.c,cz.sg):=kX fun ti kV h=>by
 unfold cz.c at h
 split at h
 ·obtain ⟨hp,rfl⟩:=h;exact ⟨cz.cn (_+1),(Rg.Bk _),aO.2 ⟨hp,aa (Nat.lt_succ_self _)⟩,rfl⟩
 ·exact h.elim
theorem fK.ok:bC PG (cnGl ee) 28 (fK.c,fK.sg):=meets bG (all_cons bZ.ok (all_cons cz.ok all_nil)) fK.h (fits fun ins=>by unfold fK.c;split;exact fK.goal (.mk _ _ _);trivial)
theorem fP.ok:bC PG (cnGl ee) 32 (fP.c,fP.sg):=meets bG all_nil fP.h (fits fun ins=>by unfold fP.c;split;exact fP.goal _;trivial)
theorem fO.ok:bC PG (cnGl ee) 90 (fO.c,fO.sg):=meets bG all_nil fO.h (fits fun ins=>by unfold fO.c;split;exact fO.goal _;trivial)
theorem iP.ok:bC PG (cnGl ee) 53 (iP.c,iP.sg):=meets bG (all_cons dN.ok (all_cons fO.ok all_nil)) iP.h (fits fun ins=>by unfold iP.c;split;exact iP.goal _ _;trivial)
theorem iN.ok:bC PG (cnGl ee) 62 (iN.c,iN.sg):=meets bG all_nil iN.h (fits fun ins=>by unfold iN.c;split;exact iN.goal _;trivial)
theorem dZ.ok:bC PG (cnGl ee) 33 (dZ.c,dZ.sg):=meets bG (all_cons dN.ok (all_cons dD.ok (all_cons iP.ok (all_cons bF.ok all_nil)))) dZ.h (fits fun ins=>by unfold dZ.c;split;exact dZ.goal _;trivial)
theorem iM.ok:bC PG (cnGl ee) 64 (iM.c,iM.sg):=meets bG all_nil iM.h (fits fun ins=>by unfold iM.c;split;exact iM.goal _ (.mk _ _ _);trivial)
theorem Oa.Bk:∀n:Nat,(bC PG (cnGl ee) 16 (bT.cn n,bT.sg)):=by
 intro n
 induction n with
 | zero=>exact jk (by intro ti kV h;unfold bT.cn at h;split at h;exact absurd (aO.1 h.1).2 (by simp);exact h.elim)
 | succ n ih =>
  have BA:=ih
  exact meets bG (all_cons BA (all_cons fP.ok (all_cons dZ.ok (all_cons kS.ok all_nil)))) bT.h (fits fun ins=>by unfold bT.cn;split;exact bT.goal _ (.mk _ _ _ _ _ _ _ _ _);trivial)
theorem bT.ok:bC PG (cnGl ee) 16 (bT.c,bT.sg):=kX fun ti kV h=>by
 unfold bT.c at h
 split at h
 ·obtain ⟨hp,rfl⟩:=h;exact ⟨bT.cn (_+1),(Oa.Bk _),aO.2 ⟨hp,aa (Nat.lt_succ_self _)⟩,rfl⟩
 ·exact h.elim
theorem fI.ok:bC PG (cnGl ee) 96 (fI.c,fI.sg):=meets bG (all_cons fQ.ok all_nil) fI.h (fits fun ins=>by unfold fI.c;split;exact fI.goal (.mk _ _ _ _ _ _ _ _ _) (.mk _ _ _ _ _ _ _ _ _);trivial)
theorem Oc.Bk:∀n:Nat,(bC PG (cnGl ee) 57 (bR.cn n,bR.sg)):=by
 intro n
 induction n with
 | zero=>exact jk (by intro ti kV h;unfold bR.cn at h;split at h;exact absurd (aO.1 h.1).2 (by simp);exact h.elim)
 | succ n ih =>
  have BA:=ih
  exact meets bG (all_cons BA (all_cons fg.ok (all_cons fI.ok all_nil))) bR.h (fits fun ins=>by unfold bR.cn;split;exact bR.goal _ _ (.mk _ _ _ _ _ _ _ _ _) (.mk _ _ _ _ _ _ _ _ _) _;trivial)
theorem bR.ok:bC PG (cnGl ee) 57 (bR.c,bR.sg):=kX fun ti kV h=>by
 unfold bR.c at h
 split at h
 ·obtain ⟨hp,rfl⟩:=h;exact ⟨bR.cn (_+1),(Oc.Bk _),aO.2 ⟨hp,aa (Nat.lt_succ_self _)⟩,rfl⟩
 ·exact h.elim
theorem gM.ok:bC PG (cnGl ee) 36 (gM.c,gM.sg):=meets bG (all_cons bR.ok all_nil) gM.h (fits fun ins=>by unfold gM.c;split;exact gM.goal (.mk _ _ _ _ _ _ _ _ _) (.mk _ _ _ _ _ _ _ _ _);trivial)
theorem gK.ok:bC PG (cnGl ee) 19 (gK.c,gK.sg):=meets bG (all_cons bT.ok (all_cons gM.ok all_nil)) gK.h (fits fun ins=>by unfold gK.c;split;exact gK.goal (.mk _ _ _ _ _ _ _ _ _);trivial)
theorem gH.ok:bC PG (cnGl ee) 131 (gH.c,gH.sg):=meets bG all_nil gH.h (fits fun ins=>by unfold gH.c;split;exact gH.goal _;trivial)
theorem dn.ok:bC PG (cnGl ee) 100 (dn.c,dn.sg):=meets bG (all_cons gH.ok all_nil) dn.h (fits fun ins=>by unfold dn.c;split;exact dn.goal _ _;trivial)
theorem fD.ok:bC PG (cnGl ee) 99 (fD.c,fD.sg):=meets bG all_nil fD.h (fits fun ins=>by unfold fD.c;split;exact fD.goal _;trivial)
theorem fk.ok:bC PG (cnGl ee) 101 (fk.c,fk.sg):=meets bG (all_cons iC.ok all_nil) fk.h (fits fun ins=>by unfold fk.c;split;exact fk.goal _ _;trivial)
theorem cq.ok:bC PG (cnGl ee) 63 (cq.c,cq.sg):=meets bG (all_cons fD.ok (all_cons dn.ok (all_cons fk.ok all_nil))) cq.h (fits fun ins=>by unfold cq.c;split;exact cq.goal _;trivial)
theorem Q6.Bk:∀n:Nat,(bC PG (cnGl ee) 26 (cM.cn n,cM.sg))∧(bC PG (cnGl ee) 42 (cC.cn n,cC.sg)):=by
 intro n
 induction n with
 | zero=>exact ⟨jk (by intro ti kV h;unfold cM.cn at h;split at h;exact absurd (aO.1 h.1).2 (by simp);exact h.elim),jk (by intro ti kV h;unfold cC.cn at h;split at h;exact absurd (aO.1 h.1).2 (by simp);exact h.elim)⟩
 | succ n ih =>
  obtain ⟨BA,Rj⟩:=ih
  exact ⟨meets bG (all_cons Rj all_nil) cM.h (fits fun ins=>by unfold cM.cn;split;exact cM.goal _ _;trivial),meets bG (all_cons BA (all_cons dZ.ok (all_cons eM.ok (all_cons iN.ok (all_cons cq.ok (all_cons iM.ok (all_cons cS.ok (all_cons bS.ok (all_cons gP.ok all_nil))))))))) cC.h (fits fun ins=>by unfold cC.cn;split;exact cC.goal _ (.mk _ _ _ _ _ _ _ _ _);trivial)⟩
theorem cM.ok:bC PG (cnGl ee) 26 (cM.c,cM.sg):=kX fun ti kV h=>by
 unfold cM.c at h
 split at h
 ·obtain ⟨hp,rfl⟩:=h;exact ⟨cM.cn (_+1),(Q6.Bk _).1,aO.2 ⟨hp,aa (Nat.lt_succ_self _)⟩,rfl⟩
 ·exact h.elim
theorem gL.ok:bC PG (cnGl ee) 9 (gL.c,gL.sg):=meets bG (all_cons dC.ok (all_cons cM.ok all_nil)) gL.h (fits fun ins=>by unfold gL.c;split;exact gL.goal (.mk _ _ _ _ _ _ _ _ _);trivial)
theorem fV.ok:bC PG (cnGl ee) 11 (fV.c,fV.sg):=meets bG (all_cons gL.ok (all_cons fK.ok all_nil)) fV.h (fits fun ins=>by unfold fV.c;split;exact fV.goal (.mk _ _ _ _ _ _ _ _ _);trivial)
theorem bL.ok:bC PG (cnGl ee) 18 (bL.c,bL.sg):=meets bG (all_cons bQ.ok all_nil) bL.h (fits fun ins=>by unfold bL.c;split;exact bL.goal _ _;trivial)
theorem Y5.ok:bC PG (cnGl ee) 23 (Y5.c,Y5.sg):=meets bG (all_cons Zi.ok all_nil) Y5.h (fits fun ins=>by unfold Y5.c;split;exact Y5.goal _;trivial)
theorem Zg.ok:bC PG (cnGl ee) 38 (Zg.c,Zg.sg):=meets bG all_nil Zg.h (fits fun ins=>by unfold Zg.c;split;exact Zg.goal _;trivial)
theorem aaf.Bk:∀n:Nat,(bC PG (cnGl ee) 35 (Y2.cn n,Y2.sg)):=by
 intro n
 induction n with
 | zero=>exact jk (by intro ti kV h;unfold Y2.cn at h;split at h;exact absurd (aO.1 h.1).2 (by simp);exact h.elim)
 | succ n ih =>
  have BA:=ih
  exact meets bG (all_cons BA (all_cons Nv.ok (all_cons Za.ok all_nil))) Y2.h (fits fun ins=>by unfold Y2.cn;split;exact Y2.goal _ (.mk _ _ _ _ _ _ _ _ _) (.mk _ _ _ _ _ _ _ _ _) _;trivial)
theorem Y2.ok:bC PG (cnGl ee) 35 (Y2.c,Y2.sg):=kX fun ti kV h=>by
 unfold Y2.c at h
 split at h
 ·obtain ⟨hp,rfl⟩:=h;exact ⟨Y2.cn (_+1),(aaf.Bk _),aO.2 ⟨hp,aa (Nat.lt_succ_self _)⟩,rfl⟩
 ·exact h.elim
theorem Ze.ok:bC PG (cnGl ee) 17 (Ze.c,Ze.sg):=meets bG (all_cons Y2.ok all_nil) Ze.h (fits fun ins=>by unfold Ze.c;split;exact Ze.goal (.mk _ _ _ _ _ _ _ _ _) (.mk _ _ _ _ _ _ _ _ _);trivial)
theorem Y9.ok:bC PG (cnGl ee) 21 (Y9.c,Y9.sg):=meets bG all_nil Y9.h (fits fun ins=>by unfold Y9.c;split;exact Y9.goal (.mk _ _ _ _ _ _ _ _ _) _;trivial)
theorem Zb.ok:bC PG (cnGl ee) 22 (Zb.c,Zb.sg):=meets bG (all_cons Y5.ok (all_cons Zg.ok all_nil)) Zb.h (fits fun ins=>by unfold Zb.c;split;exact Zb.goal (.mk _ _ _ _ _ _ _ _ _);trivial)
end Go.Eng
set_option maxRecDepth 20000
namespace Go.Eng
open Go.Proofs
variable {ee:Errs}
theorem dG.ok:bC PG (cnGl ee) 7 (dG.c,dG.sg):=meets bG (all_cons fV.ok (all_cons bL.ok (all_cons gK.ok all_nil))) dG.h (fits fun ins=>by unfold dG.c;split;exact dG.goal;trivial)
end Go.Eng
set_option maxRecDepth 100000
namespace Go.Eng
open Go.Proofs
noncomputable section
def RelaxKeeps.sg:bW:={}
def RelaxKeeps.c:eu:=fun l=>match l with
 | [.ag [.i .i64 jX,.u64 j0,.u64 jY,.u64 jW,.s jT,.s jV,.i .i64 jU,.sl .bs jS,.sl .fl jZ]] => .ok [(.b (true))]
 | _ => .err
def RelaxKeeps.E:cr:=cL fC zs [(7,(dG.c,dG.sg)),(8,(dV.c,dV.sg)),(15,(Zd.c,Zd.sg)),(16,(bT.c,bT.sg)),(17,(Ze.c,Ze.sg)),(18,(bL.c,bL.sg)),(19,(gK.c,gK.sg)),(20,(Y4.c,Y4.sg)),(21,(Y9.c,Y9.sg)),(22,(Zb.c,Zb.sg))]
def RelaxKeeps.h:Hint := .s .o (.s .o (.s .o (.s .o (.s .o (.s .o (.s .o (.s .o (.s (.s .o (.b (.l [(1,.ptr 128 0),(5,.ptr 132 0),(6,.no),(8,.no),(128,.cl []),(132,.cl [])] .o))) .o))))))))
def RelaxKeeps.F (v:Val):OT:=cI PG RelaxKeeps.E 4 RelaxKeeps.sg RelaxKeeps.h [(.ag (Val.cells v))]
def RelaxKeeps.l1 (x0:List (List Int)) (x1:Int) (x2:Val) (x3:Val):OT:=dL PG RelaxKeeps.E 4 RelaxKeeps.sg RelaxKeeps.h 2815 [.pt,.pt,(.sl .od x0),(.i .i64 x1),(.ag (Val.cells x2)),(.ag (Val.cells x3))]
theorem RelaxKeeps.bX (x0:List (List Int)) (x1:Int) (x2:Val) (x3:Val) {ρ:OT} (K:∀(v1:List Int) (h1:v1=(List.getD x0 (x1).toNat ([]:List Int))) (v2:Val) (h2:v2=((Rl.get x2 v1).getD Rl.zeroV)) (v3:Val) (h3:v3=((Rl.get x3 v1).getD Rl.zeroV)) (v4:Int) (h4:v4=((Rl.Zj (Val.kind v2) (Val.bits v2)).getD 0)) (v5:Bool) (h5:v5=((Rl.Zj (Val.kind v2) (Val.bits v2)).isSome)) (v6:Int) (h6:v6=((Rl.Zj (Val.kind v3) (Val.bits v3)).getD 0)) (v7:Bool) (h7:v7=((Rl.Zj (Val.kind v3) (Val.bits v3)).isSome)) (v8:Bool) (h8:v8=(cond (cond (!v5) true (!v7)) true (!decide (v4=v6)))) (v9:Bool) (h9:v9=((!v8)&&(!decide ((Val.kind v3)=(16:Int))))) (v10:Bool) (iS:v10=(cond (!decide ((Val.kind v3)=(16:Int))) (!decide ((Val.kind v3)=(18:Int))) false)) (v11:Bool) (kA:v11=((!(cond v8 true v10))&&(!decide ((Val.kind v2)=(18:Int))))) (v12:Bool) (jM:v12=(cond (!decide ((Val.kind v2)=(18:Int))) (!decide ((Val.kind v2)=(1:Int))) false)) (kq:Bool) (nr:kq=(cond (cond v8 true v10) true v12)) (jh:Int) (oa:jh=(IntKind.i64.wrap (x1+(1:Int)))) (jb:List Int) (nV:jb=((Tree.gQ (bA.of [] x3) []).1)) (lA:Int) (sw:lA=((Tree.gQ (bA.of [] x3) []).2)),cond (decide (x1<((x0).length:Int)))
  (ck (bD x1 (x0).length) (ck (decide (bA.bJ (bA.of [] x2)≤100000000∧(v1).length≤1000000000)) (ck (bD x1 (x0).length) (ck (decide (bA.bJ (bA.of [] x3)≤100000000∧(v1).length≤1000000000)) (ck (!(!(!v5)) || (!(!v5))) (ck ((!v5) || (!(!v5))) (ck (!(!(cond (!v5) true (!v7))) || ((!(cond (!v5) true (!v7)))&&(!(cond (!v5) true (!v7))))) (ck ((cond (!v5) true (!v7)) || (!(cond (!v5) true (!v7)))) (ck (!(!v8) || (!v8)) (ck (!(!v8) || (!v8)) (ck (!(!v8) || (!v8)) (ck (!v9 || v9) (ck (!v9 || v9) (ck (!(!v8) || ((!v8)&&(!(!decide ((Val.kind v3)=(16:Int))) || v9))) (ck (v8 || (!v8)) (ck (!(!(cond v8 true v10)) || (!(cond v8 true v10))) (ck (!(!(cond v8 true v10)) || (!(cond v8 true v10))) (ck (!(!(cond v8 true v10)) || (!(cond v8 true v10))) (ck (!v11 || v11) (ck (!v11 || v11) (ck (!(!(cond v8 true v10)) || ((!(cond v8 true v10))&&(!(!decide ((Val.kind v2)=(18:Int))) || v11))) (ck ((cond v8 true v10) || (!(cond v8 true v10))) (cond kq
  (some [(.b false)])
  (RelaxKeeps.l1 x0 jh x2 x3))))))))))))))))))))))))
  (ck (decide (bA.bJ (bA.of [] x3)≤1099511627776)) (some [(.b (decide (lA=(0:Int))))]))=ρ):RelaxKeeps.l1 x0 x1 x2 x3=ρ:=((bV _ _ _ _ _ _ _).trans (by kernel_rfl)).trans (K _ rfl _ rfl _ rfl _ rfl _ rfl _ rfl _ rfl _ rfl _ rfl _ rfl _ rfl _ rfl _ rfl _ rfl _ rfl _ rfl)
theorem RelaxKeeps.bY (v:Val) {ρ:OT} (K:∀(v1:List Int) (h1:v1=((Tree.gQ (bA.of [] v) []).1)) (v2:Int) (h2:v2=((Tree.gQ (bA.of [] v) []).2)) (v3:List (List Int)) (h3:v3=((Rl.diff v (Rl.ie v)).getD [])) (v4:Bool) (h4:v4=((Rl.diff v (Rl.ie v)).isSome)) (v5:Bool) (h5:v5=(cond (!v4) true (!(decide (v3=v3))))) (v6:Bool) (h6:v6=(Tree.same (Rl.ie (Rl.ie v)) (Rl.ie v))),cond (!(true))
  (some [(.b false)])
  (cond (!(decide (0≤fu.value 1200 (bA.of [] v))))
  (some [(.b true)])
  (ck (decide (bA.bJ (bA.of [] v)≤1099511627776)) (cond (!decide (v2=(0:Int)))
  (some [(.b true)])
  (ck (decide (bA.bJ (bA.of [] v)≤1000000000000)) (ck (decide (bA.bJ (bA.of [] v)≤100000000)) (ck (!(!(!v4)) || ((!(!v4))&&(decide (bA.bJ (bA.of [] v)≤10000000)))) (ck (!(!(!v4)) || (((!(!v4))&&(!(!v4)))&&(decide ((v3).length≤1000000000)&&(v3).all (fun l=>decide (l.length≤1099511627776))))) (ck (!(!(!v4)) || (!(!v4))) (ck ((!v4) || (!(!v4))) (ck (!(!v5) || ((!v5)&&(decide (bA.bJ (bA.of [] (Rl.ie v))≤1000000000000)))) (ck (!(!v5) || (((!v5)&&(!v5))&&(decide (bA.bJ (bA.of [] (Rl.ie (Rl.ie v)))≤1099511627776)))) (ck (!(!v5) || (!v5)) (ck (v5 || (!v5)) (cond (cond v5 true (!v6))
  (some [(.b false)])
  (RelaxKeeps.l1 v3 (0:Int) v (Rl.ie v))))))))))))))))=ρ):RelaxKeeps.F v=ρ:=Eq.trans (by kernel_rfl) (K _ rfl _ rfl _ rfl _ rfl _ rfl _ rfl)
end
end Go.Eng
set_option maxRecDepth 20000
namespace Go.Eng
open Go.IntWalk
namespace Rl
open Nr (je nI sh pr top gZ)
theorem ZT {N m s K:Nat} (h1:N * (2 * 2 ^ K)≤(2 * m+1) * 2 ^ s) (h2:2 * m * 2 ^ s≤N * (2 * 2 ^ K)+2 ^ s) (hs:s≤K):N * 2 ^ (K - s)=m:=by
 obtain ⟨d,rfl⟩:∃d,K=s+d:=⟨K - s,by omega⟩
 rw [Nat.add_sub_cancel_left]
 rw [Nat.pow_add] at h1 h2
 have hp:0<2 ^ s:=Nat.two_pow_pos s
 generalize 2 ^ s=P at *
 generalize 2 ^ d=D at *
 have e:N * (2 * (P * D))=2 * (N * D) * P:=by rw [Nat.mul_comm P D,←Nat.mul_assoc 2,←Nat.mul_assoc N,Nat.mul_left_comm N 2 D,←Nat.mul_assoc]
 rw [e] at h1 h2
 have h1:=Nat.le_of_mul_le_mul_right h1 hp
 have h2:2 * m * P≤(2 * (N * D)+1) * P:=by rw [Nat.add_mul,Nat.one_mul];exact h2
 have h2:=Nat.le_of_mul_le_mul_right h2 hp
 omega
theorem Z7 {p:Nat} (hp:0<p):2 * nI p * 2 ^ sh p≤pr (p - 1)+2 ^ sh p:=by
 unfold pr
 by_cases c:p<4503599627370496
 ·have e1:nI p=p:=by unfold nI;rw [au c]
  have e2:nI (p - 1)=p - 1:=by unfold nI;rw [au (by omega)]
  have e3:sh p=0:=by unfold sh;omega
  have e4:sh (p - 1)=0:=by unfold sh;omega
  rw [e1,e2,e3,e4,Nat.pow_zero];omega
 have e1:nI p=p % 4503599627370496+4503599627370496:=by unfold nI;rw [ao c]
 by_cases r:p % 4503599627370496=0
 ·by_cases q:p<9007199254740992
  ·have e2:nI (p - 1)=p - 1:=by unfold nI;rw [au (by omega)]
   have e3:sh p=0:=by unfold sh;omega
   have e4:sh (p - 1)=0:=by unfold sh;omega
   rw [e1,e2,e3,e4,Nat.pow_zero];omega
  ·have e2:nI (p - 1)=9007199254740991:=by unfold nI;rw [ao (by omega)];omega
   have e3:sh p=sh (p - 1)+1:=by unfold sh;omega
   rw [e1,e2,e3,r,Nat.pow_succ]
   generalize 2 ^ sh (p - 1)=P
   omega
 ·have e2:nI (p - 1)+1=nI p:=by rw [e1];unfold nI;rw [ao (by omega)];omega
  have e3:sh (p - 1)=sh p:=by unfold sh;omega
  rw [e3,←e2]
  have:=Nat.two_pow_pos (sh p)
  rw [←Nat.one_mul (2 ^ sh p),←Nat.mul_assoc,←Nat.mul_assoc,←Nat.add_mul]
  exact av _ (by omega)
theorem ZS {N p:Nat} (h:je N 1=some p) (hp:0<p) (hl:p<4845873199050653696):N * 2 ^ (1074 - sh p)=nI p∧sh p≤1074:=by
 obtain ⟨h1,h2,h3⟩:=(Sh.FZ (by omega)).1 h
 have hs:sh p≤1074:=by unfold sh;omega
 refine ⟨?_,hs⟩
 unfold gZ at h2 h3
 rw [Nr.lM] at h2 h3
 have h3:=h3.resolve_left (by omega)
 have hm:=Z7 hp
 revert h2 h3 hs
 generalize 1074=K
 intro h2 hs h3
 refine ZT (s:=sh p) (K:=K) ?_ ?_ hs
 ·have:pr p=(2 * nI p+1) * 2 ^ sh p:=rfl
  omega
 ·omega
theorem ZL {p:UInt8→Bool}:∀{l:bz},(∀x∈l,p x=true)→l.takeWhile p=l
 | [],_=>rfl
 | c :: r,h=>by rw [List.takeWhile_cons,au (h c (List.mem_cons_self ..)),ZL fun x hx=>h x (List.mem_cons_of_mem _ hx)]
theorem Z8 (v:Int):Nr.jf (Nr.itoa v)≠2:=by
 obtain ⟨d1,d2,d3,d4⟩:=Nr.j8 v.natAbs
 have hr:Nr.run (Nr.dec v.natAbs)=(Nr.dec v.natAbs).length:=by
  unfold Nr.run
  rw [ZL (fun x hx=>aD.1 d1 x hx)]
 have key:(if Nr.run (Nr.dec v.natAbs)=0∨((Nr.dec v.natAbs).getD 0 0=48∧1<Nr.run (Nr.dec v.natAbs)) then (0:Int) else Nr.mC ((Nr.dec v.natAbs).drop (Nr.run (Nr.dec v.natAbs))))≠2:=by
  rw [hr,List.drop_length]
  split
  ·decide
  ·decide
 rw [Nr.lC]
 split
 ·rw [Nr.Bs];exact key
 ·rw [Nr.Br (by rintro ⟨_,w⟩;exact (uU v.natAbs).1 (by rw [←w];cases Nr.dec v.natAbs <;> rfl))];exact key
theorem ZU {t d:bz} (hb:Nr.body t=d) (h:d.all Nr.eU=true):Nr.ahead t=d∧Nr.behind t=[]∧Nr.Ab (Nr.tail t)=0:=by
 have h1:∀x∈d,(fun c=>!Nr.SU c) x=true:=fun x hx=>by
  have:=aD.1 h x hx
  unfold Nr.eU at this
  have:=aq this
  simp only [Nr.SU,Bool.not_eq_true',decide_eq_false_iff_not]
  rintro (rfl | rfl) <;> revert this <;> decide
 have h2:∀x∈d,(x != 46)=true:=fun x hx=>by
  have:=aD.1 h x hx
  unfold Nr.eU at this
  have:=aq this
  simp only [bne_iff_ne,ne_eq]
  rintro rfl;revert this;decide
 have e1:Nr.Z1 t=d:=by unfold Nr.Z1;rw [hb];exact ZL h1
 have dw:∀{p:UInt8→Bool} {l:bz},(∀x∈l,p x=true)→l.dropWhile p=[]:=fun {p l} hp=>by
  induction l with
  | nil=>rfl
  | cons a l ih=>rw [List.dropWhile_cons,au (hp a (List.mem_cons_self ..))];exact ih fun x hx=>hp x (List.mem_cons_of_mem _ hx)
 refine ⟨?_,?_,?_⟩
 ·unfold Nr.ahead;rw [e1];exact ZL h2
 ·unfold Nr.behind;rw [e1,dw h2];rfl
 ·unfold Nr.tail;rw [hb,dw h1];rfl
theorem um {v:Int} {b:UInt64} (h:Nr.parse (Nr.itoa v)=(b,0)):∃p,Nr.je v.natAbs 1=some p∧b=UInt64.ofNat (p+if v<0 then 9223372036854775808 else 0):=by
 obtain ⟨d1,d2,d3,d4⟩:=Nr.j8 v.natAbs
 have hh:=uU v.natAbs
 have hb:Nr.body (Nr.itoa v)=Nr.dec v.natAbs:=by
  rw [Nr.lC]
  split
  ·rfl
  ·unfold Nr.body
   split
   ·rename_i e;rw [e] at hh;exact (hh.1 rfl).elim
   ·rfl
 have hg:((Nr.itoa v).getD 0 0=45) ↔ v<0:=by
  rw [Nr.lC]
  split
  ·rename_i c;simp [c]
  ·rename_i c
   refine ⟨fun w=>(hh.1 (by rw [←w];cases Nr.dec v.natAbs <;> rfl)).elim,fun w=>(c w).elim⟩
 obtain ⟨a1,a2,a3⟩:=ZU hb d1
 rw [Nr.Zr] at h
 unfold Nr.Zo at h
 split at h
 ·cases h
 split at h
 ·cases h
 rw [a1,a2,a3,bj,Int.add_zero] at h
 split at h
 ·cases h
 ·rename_i p hp
  refine ⟨p,?_,?_⟩
  ·unfold Nr.read at hp
   split at hp
   ·unfold Nr.rd at hp
    rw [d2,Int.sub_self] at hp
    simpa using hp
   ·cases hp
  ·cases h
   by_cases c:v<0
   ·rw [au (hg.2 c),au c]
   ·rw [ao (fun w=>c (hg.1 w)),ao c]
theorem ZE {b:UInt64} {n:Int} (h:jD 1 b=some n):Zl b=some n∧-9007199254740992<n∧n<9007199254740992:=by
 unfold jD at h
 rw [ao (by decide)] at h
 split at h
 ·rename_i hc
  obtain ⟨_,hc⟩:=hc
  obtain ⟨hi,ht⟩:=oh h
  rw [o6] at hc ht
  unfold nF at hc ht
  rw [ZF]
  unfold Zp
  by_cases k1:(Nr.split b).1=1
  ·rw [au k1] at ht ⊢
   have:n=0:=zG (by rw [ht,Nr.lC,ao (by omega),show Int.natAbs 0=0 from rfl,Nr.nn (by omega)];rfl)
   subst this
   exact ⟨rfl,by omega,by omega⟩
  rw [ao k1] at ht hc ⊢
  by_cases k2:(Nr.split b).1=2
  ·rw [ao (by omega)] at ht hc
   simp only at ht hc
   rw [←ht,ab (Z8 n),Bool.or_false] at hc
   have hc:=aq hc
   obtain ⟨CP,_⟩:=Sh.back (.inr k2)
   rw [←ht] at CP
   obtain ⟨p,hp,hbp⟩:=um CP
   obtain ⟨q1,q2,q3,q4⟩:=vG k2
   have Vy:p≤top:=((Sh.FZ (by omega)).1 hp).1
   have rE:top=9218868437227405311:=rfl
   have hbn:b.toNat=p+if n<0 then 9223372036854775808 else 0:=by
    rw [hbp,fA]
    split <;> omega
   have hmag:Sh.kx b=p:=by unfold Sh.kx;rw [hbn];split <;> omega
   have hneg:(Nr.split b).2.1=decide (n<0):=by
    rw [(Sh.oX b).2,hbn]
    by_cases c:n<0
    ·rw [au c,aa (by omega),aa c]
    ·rw [ao c,ab (by omega),ab c]
   rw [hmag] at q1 q2 q3 q4 hc
   obtain ⟨w1,w2⟩:=ZS hp q1 hc
   have hman:nI p<9007199254740992:=by unfold nI;split <;> omega
   have hN:n.natAbs≤nI p:=by rw [←w1];exact Nat.le_mul_of_pos_right _ (Nat.two_pow_pos _)
   have hS:Zm (Nr.split b).2.1 n.natAbs=some n:=by
    rw [hneg]
    unfold Zm
    by_cases c:n<0
    ·rw [aa c,au ⟨rfl,by omega⟩];exact congrArg some (by omega)
    ·rw [ab c,ao (by rintro ⟨w,_⟩;cases w),ao (by rintro (w | w);cases w;omega)];exact congrArg some (by omega)
   rw [ao (by rintro (w | w) <;> omega)]
   refine ⟨?_,by omega,by omega⟩
   unfold ZR
   rw [q3]
   by_cases e:(Nr.split b).2.2.2<0
   ·have e1:(-(Nr.split b).2.2.2).toNat=1074 - sh p:=by omega
    rw [au e,e1,←w1]
    rw [Nat.mul_mod_left,ao (by rintro ⟨_,w⟩;exact w rfl),Nat.mul_div_cancel _ (Nat.two_pow_pos _)]
    exact hS
   ·have e1:1074 - sh p=0:=by omega
    have e2:(Nr.split b).2.2.2.toNat=0:=by omega
    rw [e1,Nat.pow_zero,Nat.mul_one] at w1
    rw [ao (by rintro ⟨w,_⟩;exact e w),ao e,e2,Nat.pow_zero,Nat.mul_one,←w1]
    exact hS
  ·rw [au k2] at hc;cases hc
 ·cases h
end Rl
end Go.Eng
set_option maxRecDepth 20000
namespace Go.Eng
open Go.IntWalk
namespace Rl
theorem B6 (v:Val):bA.of [] (ie v)=mr (bA.of [] v):=rfl
mutual
theorem tN:∀f:bA,bA.bJ (mr f)=bA.bJ f
 | .mk n k b h l t m s y ks=>by rw [mr];simp only [bA.bJ,tK ks]
theorem tK:∀l:List bA,bA.cm (gg l)=bA.cm l
 | []=>by simp [gg]
 | f :: r=>by rw [gg];simp only [bA.cm,tN f,tK r]
end
end Rl
end Go.Eng
set_option maxRecDepth 20000
namespace Go.Eng
open Go.IntWalk
namespace Rl
theorem ZQ {f:bA}:∀{l:List bA},f∈l→bA.bJ f≤bA.cm l
 | g :: l,h=>by
  simp only [bA.cm]
  rcases aP.1 h with rfl | h
  ·omega
  ·have:=ZQ h;omega
theorem Zt (f:bA):(mr f).val=ie f.val:=by cases f;simp only [mr,bA.val,bA.kind,bA.bits,bA.high,bA.low,bA.text,bA.more,bA.sub,bA.bytes,bA.kids,ie]
theorem ZH:∀(l:List bA) (j:Nat),(gg l)[j]?=(l[j]?).map mr
 | [],_=>by simp [gg]
 | f :: r,0=>by simp [gg]
 | f :: r,j+1=>by rw [gg];simpa using ZH r j
theorem ZG (l:List bA):(gg l).length=l.length:=by
 have:=congrArg List.length (Zw l)
 simpa using this
def aab (v w:Val) (r:List Int):Prop:=∃x n,get v r=some x∧get w r=some (ie x)∧jD x.kind x.bits=some n
mutual
theorem ZK:∀(f:bA) (p:List Int),∃l,mG f (mr f) p=some l∧∀q∈l,∃r,q=p++r∧r.length≤bA.bJ f∧aab f.val (mr f).val r
 | .mk n k b h lo t m s y ks,p=>by
  obtain ⟨l,e,hl⟩:=ZD ks 0 p
  refine ⟨_,by simp only [mr,mG];rw [ao (by simp [ZG]),e,Option.map_some],fun q hq=>?_⟩
  rcases List.mem_append.1 hq with hq | hq
  ·split at hq
   ·cases hq
   ·rename_i ho
    rw [List.mem_singleton] at hq
    subst hq
    refine ⟨[],by simp,by simp,⟨k,b,h,lo,t,m,s,y,ks⟩,?_⟩
    have hk:(kt k b).1=k→(kt k b).2=b→False:=fun h1 h2=>ho (by simp [Tree.nD,h1,h2])
    cases ht:jD k b with
    | none =>
     rcases kg k b with ⟨_,e⟩ | ⟨n,e,_⟩ | ⟨n,e,_⟩
     ·exact (hk (by rw [e]) (by rw [e])).elim
     ·rw [ht] at e;cases e
     ·rw [ht] at e;cases e
    | some n=>exact ⟨n,rfl,by rw [Zt];rfl,rfl⟩
  ·obtain ⟨j,f,r,h1,h2,h3,x,n',h4,h5,h6⟩:=hl q hq
   have hj:j<ks.length:=(aH.1 h1).1
   have g1:ks.getD j (fx.gm .fl)=f:=by rw [ai,h1];rfl
   have g2:(gg ks).getD j (fx.gm .fl)=mr f:=by rw [ai,ZH,h1];rfl
   have hb:=ZQ (aK h1)
   refine ⟨((0+j:Nat):Int) :: r,h2,by simp only [az,bA.bJ];omega,x,n',?_,?_,h6⟩
   ·unfold get
    simp only [bA.val,bA.kids,Nat.zero_add]
    rw [ao (by omega),ak,g1];exact h4
   ·rw [Zt]
    unfold get
    simp only [ie,bA.val,bA.kids,Nat.zero_add]
    rw [ao (by rw [ZG];omega),ak,g2];exact h5
theorem ZD:∀(l:List bA) (i:Nat) (p:List Int),∃res,mf l (gg l) i p=some res∧∀q∈res,∃(j:Nat) (f:bA) (r:List Int),l[j]?=some f∧q=p++(((i+j:Nat):Int) :: r)∧r.length≤bA.bJ f∧aab f.val (mr f).val r
 | [],_,_=>⟨[],by simp [gg,mf],by simp⟩
 | f :: r,i,p=>by
  obtain ⟨a,e1,h1⟩:=ZK f (p++[(i:Int)])
  obtain ⟨b,e2,h2⟩:=ZD r (i+1) p
  have hn:(mr f).name=f.name:=by cases f;simp only [mr,bA.name]
  refine ⟨a++b,by rw [gg,mf,ao (by simp [hn]),e1,Option.bind_some,e2,Option.map_some],fun q hq=>?_⟩
  rcases List.mem_append.1 hq with hq | hq
  ·obtain ⟨s,h3,h4,h5⟩:=h1 q hq
   exact ⟨0,f,s,rfl,by rw [h3,aE];rfl,h4,h5⟩
  ·obtain ⟨j,g,s,h3,h4,h5,h6⟩:=h2 q hq
   exact ⟨j+1,g,s,h3,by rw [h4,show i+1+j=i+(j+1) by omega],h5,h6⟩
end
theorem Zx (k:Int) (b:UInt64):kt (kt k b).1 (kt k b).2=kt k b:=by
 rcases kg k b with ⟨h,e⟩ | ⟨n,h,m1,m2,e⟩ | ⟨n,h,m,e⟩
 ·rw [e];exact e
 ·rw [e];exact tJ (show (16:Int)≠1 by decide) (show (16:Int)≠18 by decide)
 ·rw [e]
  have hb:=HJ (Dn h)
  rcases kg 18 (UInt64.ofInt n) with ⟨h',_⟩ | ⟨n',h',m1,m2,_⟩ | ⟨n',h',_,e'⟩
  ·unfold jD at h';rw [au rfl] at h';cases h'
  ·unfold jD at h';rw [au rfl,hb] at h';cases h';exact (m ⟨m1,m2⟩).elim
  ·unfold jD at h';rw [au rfl,hb] at h';cases h';exact e'
mutual
theorem ZP:∀f:bA,mr (mr f)=mr f
 | .mk n k b h lo t m s y ks=>by simp only [mr,Zx,Zn ks]
theorem Zn:∀l:List bA,gg (gg l)=gg l
 | []=>by simp [gg]
 | f :: r=>by simp only [gg,ZP f,Zn r]
end
theorem ZA (v:Val):ie (ie v)=ie v:=by
 unfold ie
 simp only [Zx,Zn]
theorem ZW {x:Val} {n:Int} (h:jD x.kind x.bits=some n):Zj x.kind x.bits=some n∧Zj (ie x).kind (ie x).bits=some n∧(x.kind=18∨x.kind=1)∧((ie x).kind=16∨(ie x).kind=18):=by
 have hk:x.kind=18∨x.kind=1:=by
  by_cases c:x.kind=18
  ·exact .inl c
  ·unfold jD at h
   rw [ao c] at h
   split at h
   ·rename_i w;exact .inr w.1
   ·cases h
 have w1:Zj x.kind x.bits=some n:=by
  unfold Zj
  rcases hk with e | e
  ·unfold jD at h
   rw [au e] at h
   rw [ao (by omega),au e];exact h
  ·rw [ao (by omega),ao (by omega),au e]
   rw [e] at h
   exact (ZE h).1
 have e1:(ie x).kind=(kt x.kind x.bits).1:=rfl
 have e2:(ie x).bits=(kt x.kind x.bits).2:=rfl
 rw [e1,e2]
 rcases kg x.kind x.bits with ⟨h',_⟩ | ⟨n',h',m1,m2,e⟩ | ⟨n',h',_,e⟩
 ·rw [h] at h';cases h'
 ·rw [h] at h';cases h'
  rw [e]
  exact ⟨w1,by unfold Zj;rw [au rfl,(BR ⟨m1,m2⟩).2],hk,.inl rfl⟩
 ·rw [h] at h';cases h'
  rw [e]
  exact ⟨w1,by unfold Zj;rw [ao (show ¬(18:Int)=16 by decide),au rfl,HJ (Dn h)],hk,.inr rfl⟩
end Rl
theorem RelaxKeeps.cO (l:List (List Int)) (v w:Val) (hv:bA.bJ (bA.of [] v)≤1000000) (hw:bA.bJ (bA.of [] w)≤1000000) (hl:l.length≤1000000) (hq:∀q∈l,q.length≤1000000∧∃x n,Rl.get v q=some x∧Rl.get w q=some (Rl.ie x)∧Rl.jD x.kind x.bits=some n) (hc:(Tree.gQ (bA.of [] w) []).2=0) :
  ∀m i:Nat,i+m=l.length→RelaxKeeps.l1 l (i:Int) v w=some [.b true]
 | 0,i,hi=>by
  refine RelaxKeeps.bX _ _ _ _ ?_
  intro v1 h1 v2 h2 v3 h3 v4 h4 v5 h5 v6 h6 v7 h7 v8 h8 v9 h9 v10 iS v11 kA v12 jM kq nr jh oa jb nV lA sw
  rw [ab (by omega),ae,bx (aa (by omega)),sw,hc];rfl
 | m+1,i,hi=>by
  refine RelaxKeeps.bX _ _ _ _ ?_
  intro v1 h1 v2 h2 v3 h3 v4 h4 v5 h5 v6 h6 v7 h7 v8 h8 v9 h9 v10 iS v11 kA v12 jM kq nr jh oa jb nV lA sw
  rw [ak] at h1
  have Hn:jh=((i+1:Nat):Int):=by rw [oa,i64_in _ (by omega)];omega
  have hm:v1∈l:=by rw [h1,ai,ar (by omega)];exact List.getElem_mem _
  obtain ⟨g1,x,n,g2,g3,g4⟩:=hq v1 hm
  obtain ⟨w1,w2,w3,w4⟩:=Rl.ZW g4
  rw [g2] at h2
  rw [g3] at h3
  have h2:v2=x:=h2
  have h3:v3=Rl.ie x:=h3
  rw [h2,w1] at h4 h5
  rw [h3,w2] at h6 h7
  have h4:v4=n:=h4
  have h6:v6=n:=h6
  have h5:v5=true:=h5
  have h7:v7=true:=h7
  have e8:v8=false:=by rw [h8,h5,h7,h4,h6];simp
  have Ew:v10=false:=by
   rw [iS,h3]
   rcases w4 with e | e <;> rw [e] <;> rfl
  have JI:v12=false:=by
   rw [jM,h2]
   rcases w3 with e | e <;> rw [e] <;> rfl
  have MR:kq=false:=by rw [nr,e8,Ew,JI];rfl
  have ci:bD (i:Int) l.length=true:=bN (by omega) (by omega)
  have tt:∀c:Bool,(!(!(!c)) || (!(!c)))=true∧((!c) || (!(!c)))=true∧(!(!c) || (!c))=true∧(c || (!c))=true∧(!(!c) || ((!c)&&(!c)))=true:=by decide
  have t2:∀c d:Bool,(!(!c) || ((!c)&&(!d || ((!c)&&d))))=true:=by decide
  rw [aa (show (i:Int)<(l.length:Int) by omega),ah,bx ci,bx (aa ⟨by omega,by omega⟩),bx ci,bx (aa ⟨by omega,by omega⟩),bx (tt _).1,bx (tt _).2.1,bx (tt _).2.2.2.2,bx (tt _).2.2.2.1,bx (tt _).2.2.1,bx (tt _).2.2.1,bx (tt _).2.2.1,bx (jR _),bx (jR _)]
  rw [h9,bx (t2 _ _),bx (tt _).2.2.2.1,bx (tt _).2.2.1,bx (tt _).2.2.1,bx (tt _).2.2.1,bx (jR _),bx (jR _),kA,bx (t2 _ _),bx (tt _).2.2.2.1,MR,ae,Hn]
  exact RelaxKeeps.cO l v w hv hw hl hq hc m (i+1) (by omega)
theorem RelaxKeeps.goal (v:Val):RelaxKeeps.F v=some [.b true]:=by
 refine RelaxKeeps.bY _ ?_
 intro v1 h1 v2 h2 v3 h3 v4 h4 v5 h5 v6 h6
 rw [aG,ae]
 by_cases a:0≤fu.value 1200 (bA.of [] v)
 ·have hb:=fu.A2 v a
  have ht:bA.bJ (bA.of [] (Rl.ie v))=bA.bJ (bA.of [] v):=by rw [Rl.B6,Rl.tN]
  rw [aa a,aG,ae,bx (aa (by omega))]
  by_cases c:v2=0
  ·rw [aa c,aG,ae,bx (aa (by omega)),bx (aa (by omega))]
   obtain ⟨l,e,hl⟩:=Rl.ZK (bA.of [] v) []
   have e:Rl.diff v (Rl.ie v)=some l:=e
   have hlen:l.length≤bA.bJ (bA.of [] v):=Rl.wJ _ _ _ _ e
   rw [e] at h3 h4
   have h3:v3=l:=h3
   have h4:v4=true:=h4
   have e5:v5=false:=by rw [h5,h4];simp
   have e6:v6=true:=by rw [h6,Rl.ZA];unfold Tree.same;simp
   have hq:∀q∈l,q.length≤1000000∧∃x n,Rl.get v q=some x∧Rl.get (Rl.ie v) q=some (Rl.ie x)∧Rl.jD x.kind x.bits=some n:=fun q hq=>by
    obtain ⟨r,r1,r2,x,n,r3,r4,r5⟩:=hl q hq
    rw [bq] at r1
    subst r1
    exact ⟨by omega,x,n,r3,by rw [Rl.Zt] at r4;exact r4,r5⟩
   have call:l.all (fun l=>decide (l.length≤1099511627776))=true:=aD.2 fun q hm=>aa (by have:=(hq q hm).1;omega)
   rw [h4,h3,e5,e6,call,ht]
   have d1:∀n:Nat,n≤1000000→decide (n≤10000000)=true:=fun n h=>aa (by omega)
   have e2t:Rl.ie (Rl.ie v)=Rl.ie v:=Rl.ZA v
   rw [e2t,ht,d1 _ (by omega),aa (show l.length≤1000000000 by omega),aa (show bA.bJ (bA.of [] v)≤1000000000000 by omega),aa (show bA.bJ (bA.of [] v)≤1099511627776 by omega)]
   refine Eq.trans (b:=RelaxKeeps.l1 l (0:Int) v (Rl.ie v)) rfl ?_
   exact RelaxKeeps.cO l v (Rl.ie v) (by omega) (by omega) (by omega) hq (by rw [Rl.B6];exact Rl.vD _ _ (by rw [←h2];exact c)) l.length 0 (by omega)
  ·rw [ab c];rfl
 ·rw [ab a];rfl
end Go.Eng
set_option maxRecDepth 20000
namespace Go.Eng
open Go.Proofs
variable {ee:Errs}
theorem RelaxKeeps.ok:bC PG (cnGl ee) 4 (RelaxKeeps.c,RelaxKeeps.sg):=meets bG (all_cons dG.ok (all_cons dV.ok (all_cons Zd.ok (all_cons bT.ok (all_cons Ze.ok (all_cons bL.ok (all_cons gK.ok (all_cons Y4.ok (all_cons Y9.ok (all_cons Zb.ok all_nil)))))))))) RelaxKeeps.h (fits fun ins=>by unfold RelaxKeeps.c;split;exact RelaxKeeps.goal (.mk _ _ _ _ _ _ _ _ _);trivial)
end Go.Eng
namespace Go.Eng
theorem gl_var {P:Program} {w:World} {name:String} {g:Nat} {vs:List Value} {r:List (Nat × List Value)} (h:w.var? P name=some vs.toArray) (hg:P.globalNamed name=some g) (t:GlOK (Jx r) (Old w) w):GlOK (Jx ((g,vs) :: r)) (Old w) w:=fun n us hn o=>by
 unfold Jx at hn
 cases hb:Nat.beq n g with
 | true =>
  rw [hb] at hn;cases hn;rw [aw hb]
  refine ⟨?_,by have:=World.var?_cell hg h o;simpa using this⟩
  unfold World.var? at h
  rw [hg] at h
  simp only [Option.bind_some] at h
  cases hh:w.heap[g]? with
  | none=>rw [hh] at h;cases h
  | some x=>exact (Array.getElem?_eq_some_iff.1 hh).1
 | false=>rw [hb] at hn;exact t n us hn o
end Go.Eng
