/- Texts of my own, one behind the other: DkMp, DkR1, DkDb, DkR2, DkMR1, DkMR2, DkMR3, DkMR4, DkR3, DkP1, DkP2, DkP3, DkP4, DkP5, DkP6, DkP7, DkP8, DkSized, DkP. -/
import Derived.Test.YtoadlhkggdbfkaaGreatDoorT4
import Derived.WalkKit
import Derived.WalkSpells
import Derived.WalkLawsBesides
import Derived.ChangeSlices
import Derived.Maps.OwnOps
set_option linter.unusedVariables false
set_option linter.unusedSimpArgs false
namespace Go.Eng
open Go.IntWalk
theorem cM.ic {r:dj}:cM.ie r=true ↔ 0≤r.at_∧r.at_≤r.b.length∧r.b.length≤1099511627776:=by simp [cM.ie]
theorem gH.goal (r:dj):gH.F r=some [.i .i64 (r.at_)]:=gH.fR r
theorem eG.goal (r:dj) (hp:cM.ie r=true):eG.F r=some [.i .i64 (cM.left r)]:=by
 obtain ⟨h0,h1,h2⟩:=cM.ic.1 hp
 refine eG.dV r ?_
 intro v1 e1
 rw [e1,i64_in _ (by omega)];rfl
theorem fm.goal (r:dj) (hp:cM.ie r=true):fm.F r=some [.i .i64 (cM.byte r),.b (cM.more r),.ag (dj.cells (cM.oO r 1 (cM.more r)))]:=by
 obtain ⟨h0,h1,h2⟩:=cM.ic.1 hp
 refine fm.dV r ?_
 intro v1 e1 v2 e2 v3 e3 v4 e4
 by_cases h:r.at_=(r.b.length:Int)
 ·rw [aa h,aq,cM.byte,ah (by omega),cM.more,af (by omega)];rfl
 ·rw [af h,aj]
  have DG:v1=r.at_+1:=by rw [e1,i64_in _ (by omega)]
  have H2:v2=r.at_:=by rw [e2,i64_in _ (by omega)];omega
  rw [bK (fO (by omega) (by omega)),cM.byte,ao (by omega),cM.more,aa (by omega)]
  rw [e4,i64_in _ (by have:=v3.toNat_lt;omega),e3,H2,DG];rfl
theorem fj.goal (r:dj) (n:Int) (hp:cM.ie r=true):fj.F r n=some [.sl .bs (cM.nx r n (cM.pd r n)),.b (cM.pd r n),.ag (dj.cells (cM.oO r n (cM.pd r n)))]:=by
 obtain ⟨h0,h1,h2⟩:=cM.ic.1 hp
 refine fj.dV r n ?_
 intro v1 e1 v2 e2 v3 e3 v4 e4
 simp only [hp,Bool.not_not,aM,Bool.and_true,aP,bB,cV]
 have RB:v2=!cM.pd r n:=by
  rw [e2,e1,cM.pd,cM.left]
  by_cases a:n<1 <;> by_cases b:8<n <;> by_cases c:(r.b.length:Int) - r.at_<n <;> simp [a,b,c] <;> omega
 rw [RB]
 cases ho:cM.pd r n with
 | false=>rfl
 | true =>
  have Kf:1≤n∧n≤8∧n≤r.b.length - r.at_:=by simpa [cM.pd] using ho
  have LY:v3=r.at_+n:=by rw [e3,i64_in _ (by omega)]
  have e5:IntKind.i64.wrap (v3 - n)=r.at_:=by rw [LY,i64_in _ (by omega)];omega
  rw [aV,aj,e5,bK (j9 h0 (by omega) (by omega)),e4,e5,LY,cM.nx,cM.oO,aq,aq,show (r.at_+n).toNat=r.at_.toNat+n.toNat by omega,List.drop_take,show r.at_.toNat+n.toNat - r.at_.toNat=n.toNat by omega]
  rfl
theorem fk.goal (r:dj) (n:Int) (hp:cM.ie r=true):fk.F r n=some [.sl .bs (cM.nx r n (cM.rj r n)),.b (cM.rj r n),.ag (dj.cells (cM.oO r n (cM.rj r n)))]:=by
 obtain ⟨h0,h1,h2⟩:=cM.ic.1 hp
 refine fk.dV r n ?_
 intro v1 e1 v2 e2 v3 e3
 simp only [hp,Bool.not_not,aM,Bool.and_true,aP,bB,cV]
 have RC:v1=!cM.rj r n:=by
  rw [e1,cM.rj,cM.left]
  by_cases a:n<0 <;> by_cases c:(r.b.length:Int) - r.at_<n <;> simp [a,c] <;> omega
 rw [RC]
 cases ho:cM.rj r n with
 | false=>rfl
 | true =>
  have Kf:0≤n∧n≤r.b.length - r.at_:=by simpa [cM.rj] using ho
  have H2:v2=r.at_+n:=by rw [e2,i64_in _ (by omega)]
  have e5:IntKind.i64.wrap (v2 - n)=r.at_:=by rw [H2,i64_in _ (by omega)];omega
  have e6:v3=(r.b.drop r.at_.toNat).take n.toNat:=by
   rw [e3,e5,H2,show (r.at_+n).toNat=r.at_.toNat+n.toNat by omega,List.drop_take,show r.at_.toNat+n.toNat - r.at_.toNat=n.toNat by omega]
  have e7:v3.length≤1099511627776:=by rw [e6,bo,aW];omega
  rw [aV,aj,e5,bK (j9 h0 (by omega) (by omega)),bK (fE (by omega) (by omega)),e6,H2,cM.nx,cM.oO,aq,aq]
  rfl
theorem zn (x:UInt64) (c:UInt8):mf x 8 ||| UInt64.ofInt (c.toNat:Int)=x * 256+c.toUInt64:=by
 apply aZ.1
 have hc:=c.toNat_lt
 have hx:=x.toNat_lt
 rw [UInt64.toNat_or,jA,mf,UInt64.toNat_add,UInt64.toNat_mul,UInt64.toNat_ofNat',UInt8.toNat_toUInt64]
 rw [Nat.mod_eq_of_lt (show c.toNat<18446744073709551616 by omega)]
 have e:x.toNat * 2 ^ 8 % 2 ^ 64=(x.toNat % 2 ^ 56) * 2 ^ 8:=by omega
 rw [e,BE (k:=8) (by omega),show (256:UInt64).toNat=256 from rfl]
 omega
theorem dL.fN (ok:Bool) (l:bS) (q:dj) (hl:l.length≤1099511627776):∀(m i:Nat) (x:UInt64),i+m=l.length→dL.l1 ok x l (l.length:Int) i q=some [.u64 ((l.drop i).foldl (fun v x=>v * 256+x.toUInt64) x),.b ok,.ag (dj.cells q)]:=by
 intro m
 induction m with
 | zero =>
  intro i x hi
  refine dL.ew _ _ _ _ _ _ ?_
  intro v1 e1 v2 e2 v3 e3 v4 e4
  rw [af (by omega),aj,aI (by omega)];rfl
 | succ m ih =>
  intro i x hi
  refine dL.ew _ _ _ _ _ _ ?_
  intro v1 e1 v2 e2 v3 e3 v4 e4
  rw [aK] at e1
  rw [aa (by omega),aq,bK (fO (by omega) (by omega)),drop_cons (l:=l) (i:=i) (by omega) 0,List.foldl_cons,←e1,show v4=((i+1:Nat):Int) by rw [e4,i64_in _ (by omega)];omega,ih _ _ (by omega),e2,e3,show (8:UInt64).toNat=8 from rfl,zn]
theorem cM.BT (r:dj) (n:Int) (ok:Bool):(cM.nx r n ok).length≤r.b.length:=by
 unfold cM.nx;cases ok <;> simp <;> omega
theorem dL.goal (r:dj) (n:Int) (hp:cM.ie r=true):dL.F r n=some [.u64 (cM.be (cM.nx r n (cM.pd r n))),.b (cM.pd r n),.ag (dj.cells (cM.oO r n (cM.pd r n)))]:=by
 obtain ⟨h0,h1,h2⟩:=cM.ic.1 hp
 refine dL.dV r n ?_
 intro v1 e1
 rw [bK hp,e1]
 have:=cM.BT r n (cM.pd r n)
 exact dL.fN _ _ _ (by omega) _ 0 _ (Nat.zero_add _)
theorem fq.goal (b:bS) (hp:decide (b.length≤1099511627776)=true):fq.F b=some [.pt,.ag (dj.cells (dj.mk b 0))]:=by
 have h:=aD hp
 rw [fq.fR,bK (fE (by omega) (by omega))];rfl
theorem dI.goal (n:Int):dI.F n=some [.b (decide (1≤n∧n≤8))]:=by
 refine dI.dV n ?_
 intro v1 e1
 simp only [aP,cV,e1]
 by_cases a:1≤n <;> by_cases b:n≤8 <;> simp [a,b]
theorem ff.goal:ff.F=some [.pt,.ag (fh.cells (fh.mk []))]:=ff.fR
theorem eM.goal (w:fh) (v:Int) (hp:decide (w.b.length≤1099511627776)=true):eM.F w v=some [.ag (fh.cells (fh.mk (w.b++[UInt8.ofInt v])))]:=by
 have h:=aD hp
 refine eM.dV w v ?_
 intro v1 e1
 subst e1
 rw [bK (fE (by simp;omega) (by simp;omega))];rfl
theorem fU.goal (w:fh) (b:bS) (hp:decide (w.b.length+b.length≤1099511627776)=true):fU.F w b=some [.ag (fh.cells (fh.mk (w.b++b)))]:=by
 have h:=aD hp
 rw [fU.fR,bK (fE (by omega) (by omega))];rfl
theorem DP (v:UInt64) (n:Nat):me (v / 256) (8 * n)=me v (8 * (n+1)):=by
 rw [me,me,UInt64.toNat_div,show (256:UInt64).toNat=2 ^ 8 from rfl,Nat.div_div_eq_div_mul,←Nat.pow_add,show 8+8 * n=8 * (n+1) by omega]
theorem cM.qM:∀(n:Nat) (v:UInt64),cM.iy v (n+1)=cM.iy v n++[(me v (8 * n)).toUInt8]
 | 0,v=>by
  have:me v (8 * 0)=v:=by rw [me];simp
  rw [this];rfl
 | n+1,v=>by
  rw [cM.iy,cM.qM n,cM.iy,DP];rfl
theorem cM.pH (v:UInt64) (n:Nat):cM.eb v (n+1)=(me v (8 * n)).toUInt8 :: cM.eb v n:=by
 rw [cM.eb,cM.qM,List.reverse_append];rfl
theorem cM.kt:∀(n:Nat) (v:UInt64),(cM.iy v n).length=n
 | 0,_=>rfl
 | n+1,v=>by rw [cM.iy,aF,cM.kt n]
theorem cM.fM (v:UInt64) (n:Nat):(cM.eb v n).length=n:=by rw [cM.eb,List.length_reverse,cM.kt]
theorem vB (v:UInt64):UInt8.ofInt (v.toNat:Int)=v.toUInt8:=by
 apply UInt8.toNat_inj.1
 rw [nA,UInt64.toNat_toUInt8]
theorem dS.fN (v:UInt64) (n:Int) (hn:1≤n∧n≤8):∀(k:Nat) (w:fh),k≤8→w.b.length+k≤1099511627786→dS.l1 v n ((k:Int) - 1) w=some [.ag (fh.cells (fh.mk (w.b++cM.eb v k)))]:=by
 intro k
 induction k with
 | zero =>
  intro w _ _
  refine dS.ew _ _ _ _ ?_
  intro v1 e1 v2 e2 v3 e3 v4 e4 v5 e5
  simp only [aP,cV]
  rw [e1,aa hn,aq,af (by omega),aj,show cM.eb v 0=[] from rfl,aO]
 | succ k ih =>
  intro w hk hw
  refine dS.ew _ _ _ _ ?_
  intro v1 e1 v2 e2 v3 e3 v4 e4 v5 e5
  simp only [aP,cV]
  have H2:v2=((8 * k:Nat):Int):=by rw [e2,i64_in _ (by omega)];omega
  rw [e1,aa hn,aq,aa (by omega),aq,bK (aa (by omega)),bK (fE (by simp;omega) (by simp;omega))]
  rw [show v5=(k:Int) - 1 by rw [e5,i64_in _ (by omega)];omega,ih _ (by omega) (by rw [e4];simp;omega),e4,e3,H2,aK,vB,cM.pH,aU]
  rfl
theorem dS.goal (w:fh) (v:UInt64) (n:Int) (hp:decide (w.b.length≤1099511627776)=true):dS.F w v n=some [.ag (fh.cells (fh.mk (w.b++cM.high v n)))]:=by
 have h:=aD hp
 refine dS.dV w v n ?_
 intro v1 e1
 by_cases hn:1≤n∧n≤8
 ·rw [show v1=((n.toNat:Nat):Int) - 1 by rw [e1,i64_in _ (by omega)];omega,dS.fN v n hn _ _ (by omega) (by omega),cM.high,ao hn]
 ·refine dS.ew _ _ _ _ ?_
  intro u1 f1 u2 f2 u3 f3 u4 f4 u5 f5
  simp only [aP,cV]
  rw [f1,af hn,aj,aj,cM.high,ah hn,aO]
theorem eC.goal (w:fh) (hp:decide (w.b.length≤1099511627776)=true):eC.F w=some [.sl .bs (w.b),.ag (fh.cells w)]:=by
 have h:=aD hp
 rw [eC.fR,bK (fE (by omega) (by omega))]
mutual
theorem bD.jO:∀(ks:List bD),ks.length≤bD.cE ks
 | []=>Nat.le_refl _
 | k :: r=>by
  have h1:=bD.sU k
  have h2:=bD.jO r
  simp only [bD.cE,aF];omega
theorem bD.sU:∀(k:bD),1≤bD.cA k
 | .mk _ _ b t ks=>by simp only [bD.cA];omega
end
theorem bD.nW:∀(ks:List bD) (i:Nat),i<ks.length→bD.cA (ks.getD i (eJ.fc .il))≤bD.cE ks
 | [],_,h=>by simp at h
 | k :: r,0,_=>by simp only [List.getD_cons_zero,bD.cE];omega
 | k :: r,i+1,h=>by
  have:=bD.nW r i (by simpa using h)
  simp only [List.getD_cons_succ,bD.cE];omega
theorem bD.na (it:bM):bD.cA (bD.of it)=1+it.bytes.length+it.text.length+bD.cE it.kids:=by simp only [bD.of,bD.cA]
theorem uP {α:Type} (l:List α):((l.length:Int)=0)=(l=[]):=by
 simp
theorem B6 (m:Nat):((m:Int)<4294967296)=(m<4294967296):=propext (by omega)
theorem PD (m:Nat):((m:Int)=0)=(m=0):=propext (by omega)
theorem fZ.goal (n:Int) (hp:decide (0≤n∧n≤1099511627776)=true):fZ.F n=some [.b (decide (n<4294967296))]:=by
 have h:=aD hp
 obtain ⟨m,rfl⟩:∃m:Nat,n=m:=⟨n.toNat,by omega⟩
 have e:(UInt64.ofInt (m:Int)<4294967296)=((m:Int)<4294967296):=by
  rw [aH,jA,show (4294967296:UInt64).toNat=4294967296 from rfl]
  apply propext;omega
 rw [fZ.fR]
 simp only [e]
theorem bV.jM (a b:Int) (ok:Bool) (it:bM):bV.j2 a b ok it=some [.b (ok&&decide (it.n=0)&&decide (b=0)&&decide (it.text=[])&&decide (a=0))]:=by
 refine bV.ng _ _ _ _ ?_
 intro v1 e1 v2 e2 v3 e3 v4 e4
 simp only [aP,cV]
 rw [e4,e3,e2,e1]
 cases ok <;> simp [Bool.cond_false_right]
theorem bV.goal (it:bM) (hp:decide (bD.cA (bD.of it)≤1099511627776)=true):bV.F it=some [.b (Mp.dR (bD.of it))]:=by
 have h:=aD hp
 rw [bD.na] at h
 have hk:=bD.jO it.kids
 obtain ⟨k,n,b,t,ks⟩:=it
 simp only at h hk
 refine bV.dV _ ?_
 intro v1 e1 v2 e2
 simp only at e1 e2
 have key:∀x4:Bool,x4=decide (k=1∨k=9)→bV.j1 v1 v2 true k x4 ⟨k,n,b,t,ks⟩=some [.b (Mp.dR (bD.of ⟨k,n,b,t,ks⟩))]:=by
  intro x4 hx
  refine bV.pL _ _ _ _ _ _ ?_
  intro u1 f1 u2 f2 u3 f3 u4 f4 u5 f5
  simp only at f1 f4 f5
  simp only [aP,cV]
  subst e1 e2 f1
  have hdiv:Int.tdiv (ks.length:Int) 2=((ks.length / 2:Nat):Int):=rfl
  have Kk:Int.tmod (ks.length:Int) 2=((ks.length % 2:Nat):Int):=rfl
  rw [hdiv,i64_in _ (by omega)] at f2
  simp only [Mp.dR,bD.of]
  by_cases k1:k=1∨k=9
  ·rw [hx,aa k1,aq,ao k1,bV.jM]
   simp [Bool.decide_and,uP,Bool.and_assoc]
  rw [hx,af k1,aj,ah k1]
  by_cases k2:k=2
  ·rw [aa k2,aq,ao k2,bV.jM]
   simp [Bool.decide_and,uP,Bool.and_assoc]
  rw [af k2,aj,ah k2]
  by_cases k3:k=3
  ·rw [aa k3,aq,ao k3,bV.jM,bK (aa (by omega))]
   simp [Bool.decide_and,uP,B6,Bool.and_assoc]
  rw [af k3,aj,ah k3]
  by_cases k4:k=4
  ·rw [aa k4,aq,ao k4,bV.jM,bK (aa (by omega))]
   simp [Bool.decide_and,uP,B6,Bool.and_assoc]
  rw [af k4,aj,ah k4]
  by_cases k5:k=5
  ·rw [aa k5,aq,ao k5,bV.jM,bK (aa (by omega))]
   simp [Bool.decide_and,uP,B6,Bool.and_assoc]
  rw [af k5,aj,ah k5]
  by_cases k6:k=6
  ·rw [aa k6,aq,ao k6,bV.jM,Kk]
   rw [show (decide (0≤u2∧u2≤1099511627776))=true from aa (by omega),show (!decide ((2:Int)=0))=true from rfl]
   simp only [Bool.and_true,aP,cV]
   rw [f3,Kk,f2]
   simp [Bool.decide_and,uP,B6,PD,Bool.and_assoc,Bool.cond_false_right]
   rw [show decide ((ks.length:Int) % 2=0)=decide (ks.length % 2=0) from bC.2 (by omega),show decide ((ks.length:Int) / 2<4294967296)=decide (ks.length / 2<4294967296) from bC.2 (by omega)]
  rw [af k6,aj,ah k6]
  by_cases k8:k=8
  ·rw [aa k8,aq,ao k8,bV.jM,f4]
   simp [Bool.decide_and,uP,Bool.and_assoc,Bool.cond_false_right]
  rw [af k8,aj,ah k8]
  by_cases AQ:k=10
  ·rw [aa AQ,aq,ao AQ,bV.jM,f5]
   rw [show (decide (0≤(b.length:Int)∧(b.length:Int)≤1099511627776))=true from aa (by omega)]
   simp only [Bool.and_true,aP,cV]
   simp [Bool.decide_and,uP,B6,PD,Bool.and_assoc,Bool.cond_false_right]
  rw [af AQ,aj,ah AQ,bV.jM]
  simp [Bool.decide_and,uP,Bool.and_assoc]
 by_cases k1:k=1
 ·rw [aa k1,aq]
  exact key _ (by simp [k1])
 ·rw [af k1,aj]
  exact key _ (by simp [k1])
theorem Mp.GU (it:bM):Mp.own (bD.of it)=if it.kind<1∨10<it.kind∨it.kind=7 then 5 else if Mp.dR (bD.of it)=false then 1 else if dK.whole it.text then 0 else 4:=by
 obtain ⟨k,n,b,t,ks⟩:=it
 simp only [Mp.own,Mp.dR,bD.of]
 by_cases h0:k<1∨10<k∨k=7
 ·rw [ao h0,ao h0]
 rw [ah h0,ah h0]
 have hk:k=1∨k=2∨k=3∨k=4∨k=5∨k=6∨k=8∨k=9∨k=10:=by omega
 have l0:∀{α:Type} (l:List α),l=[]→l.length=0:=fun l h=>by rw [h];rfl
 rcases hk with rfl | rfl | rfl | rfl | rfl | rfl | rfl | rfl | rfl <;> simp <;> grind
theorem Mp.E6:∀(ks:List bD) (i:Nat),i<ks.length→Mp.gw (ks.drop i)=if Mp.di (ks.getD i (eJ.fc .il))=0 then Mp.gw (ks.drop (i+1)) else Mp.di (ks.getD i (eJ.fc .il)):=by
 intro ks i h
 rw [drop_cons h (eJ.fc .il),Mp.gw]
theorem cP.fN (n:Nat) (ks:List bD) (hb:bD.cE ks≤1099511627776) (hn:bD.cE ks<n):∀(m i:Nat),i+m=ks.length→cP.l1 n ks (ks.length:Int) i=some [.i .i64 (Mp.gw (ks.drop i))]:=by
 have hk:=bD.jO ks
 intro m
 induction m with
 | zero =>
  intro i hi
  refine cP.ew _ _ _ _ ?_
  intro v1 e1 v2 e2
  rw [af (by omega),aj,aI (by omega)];rfl
 | succ m ih =>
  intro i hi
  refine cP.ew _ _ _ _ ?_
  intro v1 e1 v2 e2
  have ta:i<ks.length:=by omega
  have wM:=bD.nW ks i ta
  rw [aK,bD.gr] at e1
  rw [aa (by omega),aq,bK (fO (by omega) (by omega)),aK,bD.gr,bK (by rw [aa (by omega),aa (by omega)];rfl),Mp.E6 ks i ta,←e1]
  by_cases a:v1=0
  ·rw [aa a,aV,aj,ao a,show v2=((i+1:Nat):Int) by rw [e2,i64_in _ (by omega)];omega,ih _ (by omega)]
  ·rw [af a,aX,aq,ah a]
theorem Mp.Dg (it:bM):Mp.di (bD.of it)=if Mp.own (bD.of it)=0 then Mp.gw it.kids else Mp.own (bD.of it):=by rw [bD.of,Mp.di]
theorem cP.goal (n:Nat) (it:bM) (hp:((decide (bD.cA (bD.of it)≤1099511627776))&&decide ((bD.cA (bD.of it))<n+1))=true):cP.F n it=some [.i .i64 (Mp.di (bD.of it))]:=by
 simp only [ae,aB] at hp
 obtain ⟨h,hn⟩:=hp
 rw [bD.na] at h hn
 refine cP.dV _ _ ?_
 intro v1 e1 v2 e2 v3 e3 v4 e4 v5 e5
 simp only [aP,bB,cV]
 rw [bK (aa (by rw [bD.na];omega)),bK (rM (by omega)),bK (aa (by omega)),e5,e4]
 have hl:=cP.fN n it.kids (by omega) (by omega) it.kids.length 0 (by omega)
 rw [show cP.l1 n it.kids (it.kids.length:Int) 0=some [.i .i64 (Mp.gw it.kids)] from hl,Mp.Dg,Mp.GU]
 have hv:v2=decide (it.kind<1∨10<it.kind∨it.kind=7):=by
  rw [e2,e1]
  by_cases a:it.kind<1 <;> by_cases b:10<it.kind <;> by_cases c:it.kind=7 <;> simp [a,b,c]
 rw [hv]
 by_cases h0:it.kind<1∨10<it.kind∨it.kind=7
 ·rw [aa h0,aq,ao h0];rfl
 rw [af h0,aj,ah h0]
 cases hf:Mp.dR (bD.of it) with
 | false=>rfl
 | true =>
  cases hw:dK.whole it.text <;> rfl
theorem dQ.goal (e at_:Int):dQ.F e at_=some [.ag (bM.cells (bD.val Mp.zero)),.ag (ez.cells (ez.mk e at_ []))]:=dQ.fR e at_
theorem c9.goal (n:UInt64):c9.F n=some [.ag [.i .i64 (Mp.eD n).1,.i .i64 (Mp.eD n).2]]:=by
 refine c9.dV _ ?_
 intro v1 e1
 unfold Mp.eD
 by_cases a:n<128
 ·rw [aa a,aq,ao a,e1,i64_in _ (by have:=aH.1 a;simp at this;omega)]
 rw [af a,aj,ah a]
 by_cases a:n<256
 ·rw [aa a,aq,ao a]
 rw [af a,aj,ah a]
 by_cases a:n<65536
 ·rw [aa a,aq,ao a]
 rw [af a,aj,ah a]
 by_cases a:n<4294967296
 ·rw [aa a,aq,ao a]
 rw [af a,aj,ah a]
theorem dP.goal (n:UInt64):dP.F n=some [.ag [.i .i64 (Mp.signed n).1,.i .i64 (Mp.signed n).2]]:=by
 refine dP.dV _ ?_
 intro v1 e1 v2 e2
 unfold Mp.signed
 by_cases a:n<32
 ·have:=aH.1 a
  simp at this
  rw [aa a,aq,ao a,e2,e1,i64_in (n.toNat:Int) (by omega),i64_in _ (by omega)]
 rw [af a,aj,ah a]
 by_cases a:n<128
 ·rw [aa a,aq,ao a]
 rw [af a,aj,ah a]
 by_cases a:n<32768
 ·rw [aa a,aq,ao a]
 rw [af a,aj,ah a]
 by_cases a:n<2147483648
 ·rw [aa a,aq,ao a]
 rw [af a,aj,ah a]
theorem fY.goal (w:fh) (f:kP) (n:UInt64) (hp:decide (w.b.length+10≤1099511627776)=true):fY.F w f n=some [.ag (fh.cells (fh.mk (w.b++Mp.put (f.at_,f.end_) n)))]:=by
 have h:=aD hp
 refine fY.dV _ _ _ ?_
 intro v1 e1 v2 e2
 rw [bK (aa (by omega)),e2,e1,bK (aa (by simp;omega))]
 simp [Mp.put]
theorem dz.goal (it:bM) (p c:Int) (f:kP):dz.F it p c f=some [.ag (bM.cells (bD.val (Mp.num (bD.of it) p c f.at_ 0).it)),.ag (ez.cells (ez.mk (Mp.num (bD.of it) p c f.at_ 0).err (Mp.num (bD.of it) p c f.at_ 0).at_ []))]:=by
 rw [dz.fR,Mp.num]
 by_cases a:f.at_=c
 ·rw [aa a,aV,aj,ah (fun h=>h a)];rfl
 ·rw [af a,aX,aq,ao a];rfl
theorem Mp.I4 (it:bM) (h:Mp.own (bD.of it)=0):(1≤it.kind∧it.kind≤10∧it.kind≠7)∧(it.kind=3∨it.kind=4∨it.kind=5∨it.kind=6→it.n=0)∧(it.kind≠3→it.kind≠10→it.bytes=[])∧(it.kind≠4→it.text=[]) ∧
  (it.kind≠5→it.kind≠6→it.kids=[])∧(it.kind=2→it.n<9223372036854775808)∧(it.kind=8→20≤it.n∧it.n≤22)∧(it.kind=10→it.n≤127)∧(it.kind=6→it.kids.length % 2=0) ∧
  it.bytes.length<4294967296∧it.text.length<4294967296∧(it.kind=5→it.kids.length<4294967296)∧it.kids.length / 2<4294967296∧dK.whole it.text=true:=by
 obtain ⟨k,n,b,t,ks⟩:=it
 simp only [Mp.own,bD.of] at h
 simp only
 by_cases h1:k<1∨10<k∨k=7
 ·rw [ao h1] at h;cases h
 rw [ah h1] at h
 split at h
 ·cases h
 rename_i h2
 split at h
 ·cases h
 rename_i h3
 split at h
 ·cases h
 rename_i h4
 split at h
 ·cases h
 rename_i h5
 split at h
 ·rename_i h6
  refine ⟨by omega,?_,?_,?_,?_,?_,?_,?_,?_,by omega,by omega,?_,by omega,h6⟩ <;> grind
 ·cases h
theorem cM.CM (v:UInt64) (n:Int):(cM.high v n).length≤8:=by
 unfold cM.high
 split
 ·rw [cM.fM];omega
 ·simp
theorem Mp.uD (f:Int × Int) (n:UInt64):(Mp.put f n).length≤9:=by
 have:=cM.CM n f.2
 simp only [Mp.put,aF];omega
theorem Mp.sF (it:bD):(Mp.head it).length≤10:=by
 obtain ⟨k,n,b,t,ks⟩:=it
 unfold Mp.head
 repeat' split
 all_goals first | exact Nat.le_succ_of_le (Mp.uD _ _) | skip
 ·simp
 ·simp
 ·simp
 ·rw [aw,aQ];exact Nat.succ_le_succ (Mp.uD _ _)
mutual
theorem Mp.oh:∀(it:bD),(Mp.lay it).length≤16 * bD.cA it
 | .mk k n b t ks=>by
  have h1:=Mp.sF (.mk k n b t ks)
  have h2:=Mp.wb ks
  simp only [Mp.lay,bD.cA,aw];omega
theorem Mp.wb:∀(ks:List bD),(Mp.fF ks).length≤16 * bD.cE ks
 | []=>Nat.zero_le _
 | k :: r=>by
  have h1:=Mp.oh k
  have h2:=Mp.wb r
  simp only [Mp.fF,bD.cE,aw];omega
end
theorem Mp.iV {k:bD} {r:List bD} (h:Mp.gw (k :: r)=0):Mp.di k=0∧Mp.gw r=0:=by
 rw [Mp.gw] at h
 split at h
 ·exact ⟨by assumption,h⟩
 ·rename_i h';exact (h' h).elim
theorem bD.sT:∀(ks:List bD) (i:Nat),i<ks.length→bD.cE (ks.drop i)=bD.cA (ks.getD i (eJ.fc .il))+bD.cE (ks.drop (i+1)):=by
 intro ks i h
 rw [drop_cons h (eJ.fc .il),bD.cE]
theorem df.oy (n:Nat) (ks:List bD) (hn:bD.cE ks<n) (HH:ks.length≤1099511627776):∀(m i:Nat) (w:fh),i+m=ks.length→w.b.length+16 * bD.cE (ks.drop i)≤1099511627776→Mp.gw (ks.drop i)=0 →
  df.l2 n ks (ks.length:Int) i w=some [.ag (fh.cells (fh.mk (w.b++Mp.fF (ks.drop i))))]:=by
 have hk:=bD.jO ks
 intro m
 induction m with
 | zero =>
  intro i w hi _ _
  refine df.lH _ _ _ _ _ ?_
  intro v1 e1 v2 e2
  rw [af (by omega),aj,aI (by omega),show Mp.fF []=[] from rfl,aO]
 | succ m ih =>
  intro i w hi hw hc
  refine df.lH _ _ _ _ _ ?_
  intro v1 e1 v2 e2
  have ta:i<ks.length:=by omega
  have wM:=bD.nW ks i ta
  have hd:=bD.sT ks i ta
  rw [drop_cons ta (eJ.fc .il)] at hc
  obtain ⟨c1,c2⟩:=Mp.iV hc
  have hl:=Mp.oh (ks.getD i (eJ.fc .il))
  rw [aK,bD.gr] at e1
  rw [aa (by omega),aq,bK (fO (by omega) (by omega)),aK,bD.gr,bK (by rw [aa (by omega),aa c1,aa (by omega)];rfl),show v2=((i+1:Nat):Int) by rw [e2,i64_in _ (by omega)];omega,ih _ _ (by omega) (by rw [e1];simp only [aw];omega) c2,e1,drop_cons ta (eJ.fc .il),Mp.fF]
  simp
theorem df.lu (n:Nat) (it:bM) (w:fh) (hn:bD.cE it.kids<n) (HH:it.kids.length≤1099511627776) (hw:w.b.length+16 * bD.cE it.kids≤1099511627776) (hc:Mp.gw it.kids=0) :
  df.j1 n it w=some [.ag (fh.cells (fh.mk (w.b++Mp.fF it.kids)))]:=by
 refine df.pL _ _ _ ?_
 intro v1 e1
 subst e1
 exact df.oy n it.kids hn HH it.kids.length 0 w (by omega) hw hc
theorem Mp.Cf (it:bM):Mp.lay (bD.of it)=Mp.head (bD.of it)++it.bytes++it.text++Mp.fF it.kids:=by rw [bD.of,Mp.lay]
theorem Mp.K6 (it:bM) (h:Mp.di (bD.of it)=0):Mp.own (bD.of it)=0∧Mp.gw it.kids=0:=by
 rw [Mp.Dg] at h
 split at h
 ·exact ⟨by assumption,h⟩
 ·rename_i h';exact (h' h).elim
theorem iD (n:Nat):UInt64.ofInt (n:Int)=UInt64.ofNat n:=by
 apply aZ.1
 rw [jA,UInt64.toNat_ofNat']
theorem Mi (v:UInt64) (h:v.toNat<9223372036854775808):UInt8.ofInt (IntKind.i64.wrap (v.toNat:Int))=v.toUInt8:=by
 rw [i64_in _ (by omega),vB]
theorem df.goal (n:Nat) (w:fh) (it:bM) (hp:((decide (w.b.length+16 * bD.cA (bD.of it)≤1099511627776)&&decide (Mp.di (bD.of it)=0))&&decide ((bD.cA (bD.of it))<n+1))=true) :
  df.F n w it=some [.ag (fh.cells (fh.mk (w.b++Mp.lay (bD.of it))))]:=by
 simp only [ae,aB] at hp
 obtain ⟨⟨hw,hc⟩,hn⟩:=hp
 obtain ⟨ho,hcs⟩:=Mp.K6 it hc
 obtain ⟨p1,p2,p3,p4,p5,p6,p7,p8,p9,I2,Ln,I1,Lm,MA⟩:=Mp.I4 it ho
 rw [bD.na] at hw hn
 have hk:=bD.jO it.kids
 have J:=fun (w':fh) (h':w'.b.length≤w.b.length+16+it.bytes.length+it.text.length)=>df.lu n it w' (by omega) (by omega) (by omega) hcs
 rw [Mp.Cf]
 obtain ⟨k,u,b,t,ks⟩:=it
 simp only at p1 p2 p3 p4 p5 p6 p7 p8 p9 I2 Ln I1 Lm MA hw hn hk J ⊢
 refine df.dV _ _ _ ?_
 intro v1 e1 v2 e2 v3 e3 v4 e4 v5 e5 v6 e6 v7 e7 v8 e8 v9 e9 v10 th v11 vv v12 yh kN Au jc sZ mM EZ lf Gd pC K5 mL K4 oq H3 v20 L0 v21 LZ ow IA tm PI v24 PH vt PG nq OO
 simp only at e1 e2 e3 e4 e5 e6 e7 e8 e9 th vv yh Au sZ EZ Gd K5 K4 H3 L0 LZ IA PI PH PG OO ⊢
 have L:=fun f m=>Mp.uD f m
 have km:k=1∨k=2∨k=3∨k=4∨k=5∨k=6∨k=8∨k=9∨k=10:=by omega
 have RU:decide (w.b.length+10≤1099511627776)=true:=aa (by omega)
 rcases km with rfl | rfl | rfl | rfl | rfl | rfl | rfl | rfl | rfl
 all_goals simp only [Int.reduceEq,decide_true,decide_false,aq,aj,RU,cV,aX]
 ·have h3:=p3 (by decide) (by decide)
  have h4:=p4 (by decide)
  subst h3 h4
  have:=L ((Mp.eD u).1,(Mp.eD u).2) u
  rw [J v1 (by rw [e1];simp only [aw];omega),e1]
  simp [bD.of,Mp.head]
 ·have h3:=p3 (by decide) (by decide)
  have h4:=p4 (by decide)
  subst h3 h4
  have:=L ((Mp.signed u).1,(Mp.signed u).2) (~~~ u)
  rw [J v2 (by rw [e2];simp only [aw];omega),e2]
  simp [bD.of,Mp.head]
 ·have h4:=p4 (by decide)
  subst h4
  have:=L (v12,kN) (UInt64.ofInt v11)
  rw [bK (by rw [aa (by omega)];rfl),bK (aa (by rw [sZ];simp only [aw];omega)),J mM (by rw [EZ,sZ];simp only [aw];omega),EZ,sZ,yh,Au,vv,iD]
  simp [bD.of,Mp.head]
 ·have h3:=p3 (by decide) (by decide)
  subst h3
  have:=L (v7,v8) (UInt64.ofInt v6)
  rw [bK (by rw [aa (by omega)];rfl),bK (rM (by omega)),bK (aa (by rw [e9];simp only [aw];omega)),J v10 (by rw [th,e9];simp only [aw];omega),th,e9,e7,e8,e6,iD]
  simp [bD.of,Mp.head]
 ·have h3:=p3 (by decide) (by decide)
  have h4:=p4 (by decide)
  subst h3 h4
  have:=I1 rfl
  have:=L (v20,v21) (UInt64.ofInt oq)
  rw [bK (by rw [aa (by omega)];rfl),J ow (by rw [IA];simp only [aw];omega),IA,L0,LZ,H3,iD]
  simp [bD.of,Mp.head]
 ·have h3:=p3 (by decide) (by decide)
  have h4:=p4 (by decide)
  subst h3 h4
  have OP:tm=((ks.length / 2:Nat):Int):=by rw [PI,H3,show Int.tdiv (ks.length:Int) 2=((ks.length / 2:Nat):Int) from rfl,i64_in _ (by omega)]
  have:=L (v24,vt) (UInt64.ofInt tm)
  rw [bK (by rw [aa (by omega)];rfl),J nq (by rw [OO];simp only [aw];omega),OO,PH,PG,OP,iD]
  simp [bD.of,Mp.head]
 ·have h3:=p3 (by decide) (by decide)
  have h4:=p4 (by decide)
  subst h3 h4
  obtain ⟨q1,q2⟩:=p7 rfl
  have hu:u=20∨u=21∨u=22:=by
   have a:=aJ.1 q1
   have b:=aJ.1 q2
   simp at a b
   have:u.toNat=20∨u.toNat=21∨u.toNat=22:=by omega
   rcases this with h | h | h
   ·exact .inl (aZ.1 h)
   ·exact .inr (.inl (aZ.1 h))
   ·exact .inr (.inr (aZ.1 h))
  have S2:v4.b.length=w.b.length+1:=by rw [e4];simp
  rw [bK (by rcases hu with rfl | rfl | rfl <;> rfl),bK (aa (by omega)),J v4 (by omega),e4,e3]
  rcases hu with rfl | rfl | rfl <;> simp [bD.of,Mp.head] <;> rfl
 ·have h3:=p3 (by decide) (by decide)
  have h4:=p4 (by decide)
  subst h3 h4
  have:=L (203,8) u
  rw [J v5 (by rw [e5];simp only [aw];omega),e5]
  simp [bD.of,Mp.head]
 ·have h4:=p4 (by decide)
  subst h4
  have h8:=aJ.1 (p8 rfl)
  simp at h8
  have:=L (v12,kN) (UInt64.ofInt v11)
  have S0:jc.b.length≤w.b.length+9:=by rw [sZ];simp only [aw];omega
  have SZ:pC.b.length≤w.b.length+10:=by rw [K5];simp only [aw,aQ];omega
  rw [bK (by rw [aa (by omega)];rfl),bK (aa (by omega)),bK (aa (by omega)),J mL (by rw [K4];simp only [aw];omega),K4,K5,sZ,Gd,Mi _ (by omega),yh,Au,vv,iD]
  simp [bD.of,Mp.head]
theorem eh.goal (it:bM) (hp:decide (bD.cA (bD.of it)≤1073741824)=true):eh.F it=some [.sl .bs (Mp.enc (bD.of it)),.i .i64 (Mp.di (bD.of it))]:=by
 have h:=aD hp
 refine eh.dV _ ?_
 intro v1 e1
 have hl:=Mp.oh (bD.of it)
 rw [bK (aa (by omega)),Mp.enc]
 by_cases a:Mp.di (bD.of it)=0
 ·have l1:v1.b.length≤1099511627776:=by rw [e1];simp only [bA];omega
  rw [aa a,aV,aj,ao a,bK (by rw [aa (by simp only [aA];omega)];rfl),bK (aa l1),e1,a]
  rfl
 ·rw [af a,aX,aq,ah a]
theorem bH.NK:bH.F 192=some [.i .i64 (Mp.first 192).1,.u64 (Mp.first 192).2.1,.i .i64 (Mp.first 192).2.2]:=by kernel_rfl
theorem bH.NJ:bH.F 193=some [.i .i64 (Mp.first 193).1,.u64 (Mp.first 193).2.1,.i .i64 (Mp.first 193).2.2]:=by kernel_rfl
theorem bH.NI:bH.F 194=some [.i .i64 (Mp.first 194).1,.u64 (Mp.first 194).2.1,.i .i64 (Mp.first 194).2.2]:=by kernel_rfl
theorem bH.NH:bH.F 195=some [.i .i64 (Mp.first 195).1,.u64 (Mp.first 195).2.1,.i .i64 (Mp.first 195).2.2]:=by kernel_rfl
theorem bH.NG:bH.F 196=some [.i .i64 (Mp.first 196).1,.u64 (Mp.first 196).2.1,.i .i64 (Mp.first 196).2.2]:=by kernel_rfl
theorem bH.NF:bH.F 197=some [.i .i64 (Mp.first 197).1,.u64 (Mp.first 197).2.1,.i .i64 (Mp.first 197).2.2]:=by kernel_rfl
theorem bH.ND:bH.F 198=some [.i .i64 (Mp.first 198).1,.u64 (Mp.first 198).2.1,.i .i64 (Mp.first 198).2.2]:=by kernel_rfl
theorem bH.NC:bH.F 199=some [.i .i64 (Mp.first 199).1,.u64 (Mp.first 199).2.1,.i .i64 (Mp.first 199).2.2]:=by kernel_rfl
theorem bH.NB:bH.F 200=some [.i .i64 (Mp.first 200).1,.u64 (Mp.first 200).2.1,.i .i64 (Mp.first 200).2.2]:=by kernel_rfl
theorem bH.NA:bH.F 201=some [.i .i64 (Mp.first 201).1,.u64 (Mp.first 201).2.1,.i .i64 (Mp.first 201).2.2]:=by kernel_rfl
theorem bH.Nz:bH.F 202=some [.i .i64 (Mp.first 202).1,.u64 (Mp.first 202).2.1,.i .i64 (Mp.first 202).2.2]:=by kernel_rfl
theorem bH.Ny:bH.F 203=some [.i .i64 (Mp.first 203).1,.u64 (Mp.first 203).2.1,.i .i64 (Mp.first 203).2.2]:=by kernel_rfl
theorem bH.Nx:bH.F 204=some [.i .i64 (Mp.first 204).1,.u64 (Mp.first 204).2.1,.i .i64 (Mp.first 204).2.2]:=by kernel_rfl
theorem bH.Nw:bH.F 205=some [.i .i64 (Mp.first 205).1,.u64 (Mp.first 205).2.1,.i .i64 (Mp.first 205).2.2]:=by kernel_rfl
theorem bH.Nv:bH.F 206=some [.i .i64 (Mp.first 206).1,.u64 (Mp.first 206).2.1,.i .i64 (Mp.first 206).2.2]:=by kernel_rfl
theorem bH.Nu:bH.F 207=some [.i .i64 (Mp.first 207).1,.u64 (Mp.first 207).2.1,.i .i64 (Mp.first 207).2.2]:=by kernel_rfl
theorem bH.Nt:bH.F 208=some [.i .i64 (Mp.first 208).1,.u64 (Mp.first 208).2.1,.i .i64 (Mp.first 208).2.2]:=by kernel_rfl
theorem bH.Ns:bH.F 209=some [.i .i64 (Mp.first 209).1,.u64 (Mp.first 209).2.1,.i .i64 (Mp.first 209).2.2]:=by kernel_rfl
theorem bH.Nr:bH.F 210=some [.i .i64 (Mp.first 210).1,.u64 (Mp.first 210).2.1,.i .i64 (Mp.first 210).2.2]:=by kernel_rfl
theorem bH.Nq:bH.F 211=some [.i .i64 (Mp.first 211).1,.u64 (Mp.first 211).2.1,.i .i64 (Mp.first 211).2.2]:=by kernel_rfl
theorem bH.Np:bH.F 212=some [.i .i64 (Mp.first 212).1,.u64 (Mp.first 212).2.1,.i .i64 (Mp.first 212).2.2]:=by kernel_rfl
theorem bH.No:bH.F 213=some [.i .i64 (Mp.first 213).1,.u64 (Mp.first 213).2.1,.i .i64 (Mp.first 213).2.2]:=by kernel_rfl
theorem bH.Nn:bH.F 214=some [.i .i64 (Mp.first 214).1,.u64 (Mp.first 214).2.1,.i .i64 (Mp.first 214).2.2]:=by kernel_rfl
theorem bH.Nl:bH.F 215=some [.i .i64 (Mp.first 215).1,.u64 (Mp.first 215).2.1,.i .i64 (Mp.first 215).2.2]:=by kernel_rfl
theorem bH.Nk:bH.F 216=some [.i .i64 (Mp.first 216).1,.u64 (Mp.first 216).2.1,.i .i64 (Mp.first 216).2.2]:=by kernel_rfl
theorem bH.Nj:bH.F 217=some [.i .i64 (Mp.first 217).1,.u64 (Mp.first 217).2.1,.i .i64 (Mp.first 217).2.2]:=by kernel_rfl
theorem bH.Ni:bH.F 218=some [.i .i64 (Mp.first 218).1,.u64 (Mp.first 218).2.1,.i .i64 (Mp.first 218).2.2]:=by kernel_rfl
theorem bH.Nh:bH.F 219=some [.i .i64 (Mp.first 219).1,.u64 (Mp.first 219).2.1,.i .i64 (Mp.first 219).2.2]:=by kernel_rfl
theorem bH.Ng:bH.F 220=some [.i .i64 (Mp.first 220).1,.u64 (Mp.first 220).2.1,.i .i64 (Mp.first 220).2.2]:=by kernel_rfl
theorem bH.Nf:bH.F 221=some [.i .i64 (Mp.first 221).1,.u64 (Mp.first 221).2.1,.i .i64 (Mp.first 221).2.2]:=by kernel_rfl
theorem bH.Nd:bH.F 222=some [.i .i64 (Mp.first 222).1,.u64 (Mp.first 222).2.1,.i .i64 (Mp.first 222).2.2]:=by kernel_rfl
theorem bH.Nc:bH.F 223=some [.i .i64 (Mp.first 223).1,.u64 (Mp.first 223).2.1,.i .i64 (Mp.first 223).2.2]:=by kernel_rfl
theorem bH.goal (c:Int) (hp:decide (0≤c∧c≤255)=true):bH.F c=some [.i .i64 (Mp.first c).1,.u64 (Mp.first c).2.1,.i .i64 (Mp.first c).2.2]:=by
 have h:=aD hp
 by_cases hc:192≤c∧c<224
 ·have:c=192∨c=193∨c=194∨c=195∨c=196∨c=197∨c=198∨c=199∨c=200∨c=201∨c=202∨c=203∨c=204∨c=205∨c=206∨c=207∨c=208∨c=209∨c=210∨c=211∨c=212∨c=213∨c=214∨c=215∨c=216∨c=217∨c=218∨c=219∨c=220∨c=221∨c=222∨c=223:=by omega
  rcases this with rfl | rfl | rfl | rfl | rfl | rfl | rfl | rfl | rfl | rfl | rfl | rfl | rfl | rfl | rfl | rfl | rfl | rfl | rfl | rfl | rfl | rfl | rfl | rfl | rfl | rfl | rfl | rfl | rfl | rfl | rfl | rfl 
  ·exact bH.NK
  ·exact bH.NJ
  ·exact bH.NI
  ·exact bH.NH
  ·exact bH.NG
  ·exact bH.NF
  ·exact bH.ND
  ·exact bH.NC
  ·exact bH.NB
  ·exact bH.NA
  ·exact bH.Nz
  ·exact bH.Ny
  ·exact bH.Nx
  ·exact bH.Nw
  ·exact bH.Nv
  ·exact bH.Nu
  ·exact bH.Nt
  ·exact bH.Ns
  ·exact bH.Nr
  ·exact bH.Nq
  ·exact bH.Np
  ·exact bH.No
  ·exact bH.Nn
  ·exact bH.Nl
  ·exact bH.Nk
  ·exact bH.Nj
  ·exact bH.Ni
  ·exact bH.Nh
  ·exact bH.Ng
  ·exact bH.Nf
  ·exact bH.Nd
  ·exact bH.Nc
 refine bH.dV _ ?_
 intro v1 e1 v2 e2 v3 e3 v4 e4
 intros
 unfold Mp.first
 by_cases a:c<128
 ·rw [aa a,aq,ao a]
 rw [af a,aj,ah a]
 by_cases a:c<144
 ·rw [aa a,aq,ao a,e1,i64_in _ (by omega)]
 rw [af a,aj,ah a]
 by_cases a:c<160
 ·rw [aa a,aq,ao a,e2,i64_in _ (by omega)]
 rw [af a,aj,ah a]
 by_cases a:c<192
 ·rw [aa a,aq,ao a,e3,i64_in _ (by omega)]
 rw [af a,aj,ah a,aa (show (224:Int)≤c by omega),aq,ao (show (224:Int)≤c by omega),e4,i64_in _ (by omega)]
set_option maxRecDepth 100000 in
theorem Mp.jN (c:Int) (h:0≤c∧c≤255):((Mp.first c).1=0∨(Mp.first c).1=1∨(Mp.first c).1=2∨(Mp.first c).1=3∨(Mp.first c).1=4∨(Mp.first c).1=5∨(Mp.first c).1=6∨(Mp.first c).1=8∨(Mp.first c).1=9∨(Mp.first c).1=10) ∧
  ((Mp.first c).2.2=0∨(Mp.first c).2.2=1∨(Mp.first c).2.2=2∨(Mp.first c).2.2=4∨(Mp.first c).2.2=8)∧((Mp.first c).2.2=8→(Mp.first c).1=1∨(Mp.first c).1=2∨(Mp.first c).1=9) ∧
  ((Mp.first c).2.2=0→(Mp.first c).2.1.toNat≤127)∧((Mp.first c).1=2→(Mp.first c).2.2=0→(Mp.first c).2.1.toNat≤31):=by
 obtain ⟨m,rfl⟩:∃m:Nat,c=m:=⟨c.toNat,by omega⟩
 have key:∀m:Fin 256,((Mp.first m.val).1=0∨(Mp.first m.val).1=1∨(Mp.first m.val).1=2∨(Mp.first m.val).1=3∨(Mp.first m.val).1=4∨(Mp.first m.val).1=5∨(Mp.first m.val).1=6∨(Mp.first m.val).1=8∨(Mp.first m.val).1=9∨(Mp.first m.val).1=10) ∧
  ((Mp.first m.val).2.2=0∨(Mp.first m.val).2.2=1∨(Mp.first m.val).2.2=2∨(Mp.first m.val).2.2=4∨(Mp.first m.val).2.2=8)∧((Mp.first m.val).2.2=8→(Mp.first m.val).1=1∨(Mp.first m.val).1=2∨(Mp.first m.val).1=9) ∧
  ((Mp.first m.val).2.2=0→(Mp.first m.val).2.1.toNat≤127)∧((Mp.first m.val).1=2→(Mp.first m.val).2.2=0→(Mp.first m.val).2.1.toNat≤31):=by decide +kernel
 exact key ⟨m,by omega⟩
theorem fB.goal (r:dj) (it:bM) (p n:Int) (hp:cM.ie r=true):fB.F r it p n=some [.ag (bM.cells (bD.val (Mp.row r.b (bD.of it) p r.at_ n).it)),.ag (ez.cells (ez.mk (Mp.row r.b (bD.of it) p r.at_ n).err (Mp.row r.b (bD.of it) p r.at_ n).at_ [])),.ag (dj.cells (dj.mk r.b (Mp.row r.b (bD.of it) p r.at_ n).pos))]:=by
 obtain ⟨h0,h1,h2⟩:=cM.ic.1 hp
 refine fB.dV _ _ _ _ ?_
 intro v1 e1 v2 e2
 have hl:=cM.BT r n (cM.rj r n)
 rw [bK hp]
 cases ho:cM.rj r n with
 | false =>
  have Kf:n<0∨(r.b.length:Int) - r.at_<n:=by
   have:=of_decide_eq_false ho;omega
  rw [Mp.row,ao Kf];rfl
 | true =>
  have Kf:¬(n<0∨(r.b.length:Int) - r.at_<n):=by
   have:=aD ho;omega
  rw [ho] at hl e2
  rw [Mp.row,ah Kf,aV,aj]
  by_cases a:it.kind=4
  ·rw [aa a,aV,aj,ah (show ¬(bD.of it).kind≠4 from fun h=>h a),bK (aa (by omega)),e2,show cM.nx r n true=(r.b.drop r.at_.toNat).take n.toNat from rfl]
   cases hw:dK.whole ((r.b.drop r.at_.toNat).take n.toNat) <;> rfl
  ·rw [af a,aX,aq,ao (show (bD.of it).kind≠4 from a)];rfl
theorem Mp.Cj (b:bS) (f:Int→Mp.jd) (hf:∀q:Int,0≤q→q≤b.length→q≤(f q).pos∧(f q).pos≤b.length∧((f q).err=0→q<(f q).pos)):∀(n:Nat) (it:bD) (q:Int),0≤q→q≤b.length →
  q≤(Mp.kids f it n q).pos∧(Mp.kids f it n q).pos≤b.length:=by
 intro n
 induction n with
 | zero=>intro it q h0 h1;exact ⟨Int.le_refl _,h1⟩
 | succ n ih =>
  intro it q h0 h1
  obtain ⟨a,c,_⟩:=hf q h0 h1
  rw [Mp.kids]
  split
  ·exact ⟨a,c⟩
  ·have:=ih (.mk it.kind it.n it.bytes it.text (it.kids++[(f q).it])) (f q).pos (by omega) c
   exact ⟨by omega,this.2⟩
theorem Mp.Ea (it:bD) (p c f q:Int):(Mp.num it p c f q).pos=q:=by unfold Mp.num;split <;> rfl
theorem Mp.DX (b:bS) (it:bD) (p q n:Int) (h:q≤b.length):q≤(Mp.row b it p q n).pos∧(Mp.row b it p q n).pos≤b.length:=by
 unfold Mp.row;repeat' split
 all_goals simp only [Mp.bad];omega
theorem Mp.zg (b:bS) (sub:Int→Mp.jd) (hf:∀q:Int,0≤q→q≤b.length→q≤(sub q).pos∧(sub q).pos≤b.length∧((sub q).err=0→q<(sub q).pos)) (p c k:Int) (n:UInt64) (long:Int) (t:UInt64) (q:Int) (h0:0≤q) (h:q≤b.length) :
  q≤(Mp.iX b sub p c k n long t q).pos∧(Mp.iX b sub p c k n long t q).pos≤b.length:=by
 unfold Mp.iX
 repeat' split
 all_goals first
  | exact ⟨Int.le_refl _,h⟩
  | (rw [Mp.Ea];exact ⟨Int.le_refl _,h⟩)
  | exact Mp.Cj b _ hf _ _ q h0 h
  | exact Mp.DX b _ _ q _ h
theorem Mp.mi (b:bS):∀(d:Nat) (p:Int),0≤p→p≤b.length→p≤(Mp.read b d p).pos∧(Mp.read b d p).pos≤b.length∧((Mp.read b d p).err=0→p<(Mp.read b d p).pos):=by
 intro d
 induction d with
 | zero=>intro p h0 h1;exact ⟨Int.le_refl _,h1,fun h=>by simp [Mp.read,Mp.bad] at h⟩
 | succ d ih =>
  intro p h0 h1
  rw [Mp.read]
  by_cases g1:(b.length:Int)≤p
  ·rw [ao g1];exact ⟨Int.le_refl _,h1,fun h=>by simp [Mp.bad] at h⟩
  rw [ah g1]
  have hc:=Mp.jN ((b.getD p.toNat 0).toNat:Int) ⟨by omega,by have:=(b.getD p.toNat 0).toNat_lt;omega⟩
  generalize Mp.first ((b.getD p.toNat 0).toNat:Int)=F at hc
  obtain ⟨k,n0,long⟩:=F
  simp only at hc ⊢
  obtain ⟨hk,hl,_⟩:=hc
  have step:∀(q:Int),p+1≤q→q≤b.length→∀g:Mp.jd,q≤g.pos∧g.pos≤b.length→p≤g.pos∧g.pos≤b.length∧(g.err=0→p<g.pos):=fun q a c g x=>⟨by omega,x.2,fun _=>by omega⟩
  have bp:∀(e q:Int),q≤b.length→q≤(Mp.bad e p q).pos∧(Mp.bad e p q).pos≤b.length:=fun e q h=>⟨Int.le_refl _,h⟩
  unfold Mp.sd
  by_cases g2:k=0
  ·rw [ao g2];exact step (p+1) (by omega) (by omega) _ (bp _ _ (by omega))
  rw [ah g2]
  by_cases g3:(b.length:Int) - (p+1)<long
  ·rw [ao g3];exact step (p+1) (by omega) (by omega) _ (bp _ _ (by omega))
  rw [ah g3]
  unfold Mp.mj
  by_cases g4:k=10
  ·rw [ao g4]
   by_cases g5:(b.length:Int) - (p+1+long)<1
   ·rw [ao g5];exact step (p+1+long) (by omega) (by omega) _ (bp _ _ (by omega))
   rw [ah g5]
   exact step (p+1+long+1) (by omega) (by omega) _ (Mp.zg b _ ih _ _ _ _ _ _ _ (by omega) (by omega))
  ·rw [ah g4]
   exact step (p+1+long) (by omega) (by omega) _ (Mp.zg b _ ih _ _ _ _ _ _ _ (by omega) (by omega))
theorem cM.Gg:∀(l:bS) (x:UInt64) (k:Nat),x.toNat<256 ^ k→k+l.length≤8→(l.foldl (fun v y=>v * 256+y.toUInt64) x).toNat<256 ^ (k+l.length)
 | [],x,k,h,_=>by simpa using h
 | y :: l,x,k,h,hl=>by
  rw [List.foldl_cons,aF,show k+(l.length+1)=(k+1)+l.length by omega]
  refine cM.Gg l _ (k+1) ?_ (by simp at hl;omega)
  have hy:=y.toNat_lt
  have h8:k+1≤8:=by simp at hl;omega
  have hp:256 ^ (k+1)≤256 ^ 8:=Nat.pow_le_pow_right (by omega) h8
  rw [UInt64.toNat_add,UInt64.toNat_mul,UInt8.toNat_toUInt64,show (256:UInt64).toNat=256 from rfl,Nat.pow_succ]
  rw [Nat.pow_succ] at hp
  omega
theorem cM.mI (l:bS) (n:Nat) (h:l.length=n) (hn:n≤8):(cM.be l).toNat<256 ^ n:=by
 have:=cM.Gg l 0 0 (by simp) (by omega)
 rw [Nat.zero_add,h] at this
 exact this
theorem de.oy (n:Nat) (b:bS) (hb:b.length≤1099511627776) (depth:Int) (hd:1≤depth∧depth≤1000) (hn:2 * depth.toNat<n+1) (M:Int) (hM:M≤8589934592) (kind:Int) (u:UInt64) (t:bS) (x7:bM) (x8:ez) :
  ∀(k:Nat) (i:Int) (acc:List bD) (q:Int),0≤i→i+k=M→0≤q→q≤b.length→(acc.length:Int)≤q →
   de.l2 n depth M i kind u t acc x7 x8 ⟨b,q⟩=some [.ag (bM.cells (bD.val (Mp.kids (Mp.read b (depth - 1).toNat) (bD.mk kind u [] t acc) k q).it)),.ag (ez.cells (ez.mk (Mp.kids (Mp.read b (depth - 1).toNat) (bD.mk kind u [] t acc) k q).err (Mp.kids (Mp.read b (depth - 1).toNat) (bD.mk kind u [] t acc) k q).at_ [])),.ag (dj.cells (dj.mk b (Mp.kids (Mp.read b (depth - 1).toNat) (bD.mk kind u [] t acc) k q).pos))]:=by
 intro k
 induction k with
 | zero =>
  intro i acc q Rc hi h0 h1 ha
  refine de.lH _ _ _ _ _ _ _ _ _ _ _ ?_
  intro v1 e1 v2 e2 v3 e3 v4 e4 v5 e5
  rw [af (by omega),aj];rfl
 | succ k ih =>
  intro i acc q Rc hi h0 h1 ha
  refine de.lH _ _ _ _ _ _ _ _ _ _ _ ?_
  intro v1 e1 v2 e2 v3 e3 v4 e4 v5 e5
  have DG:v1=depth - 1:=by rw [e1,i64_in _ (by omega)]
  obtain ⟨g1,g2,g3⟩:=Mp.mi b (depth - 1).toNat q h0 h1
  rw [DG] at e2 e3 e4
  simp only [bD.gr] at e2 e3 e4
  rw [aa (by omega),aq,bK (by rw [cM.ic.2 ⟨h0,h1,hb⟩,aa (by omega),aa (by omega)];rfl),Mp.kids,e2]
  by_cases a:(Mp.read b (depth - 1).toNat q).err=0
  ·rw [aa a,aV,aj,ah (fun h=>h a),e4]
   have:=g3 a
   rw [bK (fE (by simp only [aQ];omega) (by simp only [aQ];omega)),show v5=i+1 by rw [e5,i64_in _ (by omega)],e3]
   exact ih (i+1) (acc++[(Mp.read b (depth - 1).toNat q).it]) _ (by omega) (by omega) (by omega) g2 (by rw [aw,aQ];omega)
  ·rw [af a,aX,aq,ao a,e3];rfl
theorem de.goal (n:Nat) (r:dj) (it:bM) (m depth:Int) (hp:((cM.ie r&&decide (0≤m∧m≤4294967296∧1≤depth∧depth≤1000))&&decide ((2 * depth.toNat)<n+1))=true) :
  de.F n r it m depth=some [.ag (bM.cells (bD.val (Mp.kids (Mp.read r.b (depth - 1).toNat) (bD.mk it.kind it.n [] it.text []) (Mp.many it.kind m) r.at_).it)),.ag (ez.cells (ez.mk (Mp.kids (Mp.read r.b (depth - 1).toNat) (bD.mk it.kind it.n [] it.text []) (Mp.many it.kind m) r.at_).err (Mp.kids (Mp.read r.b (depth - 1).toNat) (bD.mk it.kind it.n [] it.text []) (Mp.many it.kind m) r.at_).at_ [])),.ag (dj.cells (dj.mk r.b (Mp.kids (Mp.read r.b (depth - 1).toNat) (bD.mk it.kind it.n [] it.text []) (Mp.many it.kind m) r.at_).pos))]:=by
 simp only [ae,aB] at hp
 obtain ⟨⟨hg,hm⟩,hn⟩:=hp
 obtain ⟨h0,h1,h2⟩:=cM.ic.1 hg
 refine de.dV _ _ _ _ _ ?_
 intro v1 e1
 have DG:v1=m * 2:=by rw [e1,i64_in _ (by omega)]
 unfold Mp.many
 by_cases a:it.kind=6
 ·rw [aa a,aq,ao a,de.lv]
  exact de.oy n r.b h2 depth (by omega) (by omega) v1 (by omega) _ _ _ _ _ _ 0 [] _ (by omega) (by omega) h0 h1 h0
 ·rw [af a,aj,ah a,de.lv]
  exact de.oy n r.b h2 depth (by omega) (by omega) m (by omega) _ _ _ _ _ _ 0 [] _ (by omega) (by omega) h0 h1 h0
theorem zC (n:UInt64) (k:Nat):(mf n k).toNat=n.toNat * 2 ^ k % 18446744073709551616:=by
 rw [mf,UInt64.toNat_ofNat']
theorem pJ (v:UInt64):(~~~ v).toNat=18446744073709551615 - v.toNat:=by
 have:=v.toNat_lt
 have h:UInt64.size=18446744073709551616:=rfl
 rw [UInt64.toNat_not];omega
theorem DJ (n:Int):(UInt64.ofInt n).toNat=(n % 18446744073709551616).toNat:=by
 have h:=kp n
 rw [iC] at h;omega
theorem Mp.xq (n:UInt64) (long:Int) (hl:long=1∨long=2∨long=4∨long=8) (hn:n.toNat<256 ^ long.toNat) (s:Int) (hs:s=64 - 8 * long) (v:UInt64)
  (hv:v = ~~~ (UInt64.ofInt (Int.fdiv (IntKind.i64.wrap ((mf n s.toNat).toNat:Int)) (2 ^ (min s.toNat IntKind.i64.bits))))) :
  match Mp.below n long with | none=>9223372036854775808≤v | some m=>v=m∧¬9223372036854775808≤v:=by
 have hw:=n.toNat_lt
 have key:∀(top:UInt64) (k L:Nat),s.toNat=k→k+L=64→0<L→top.toNat=2 ^ (L - 1)→n.toNat<2 ^ L→(match (if n<top then none else some (top - 1 - (n - top)):Option UInt64) with | none=>9223372036854775808≤v | some m=>v=m∧¬9223372036854775808≤v):=by
  intro top k L hk S9 hL ht QW
  have hb:(2:Nat) ^ (k+(L - 1))=2 ^ 63:=by rw [show k+(L - 1)=63 by omega]
  rw [Nat.pow_add] at hb
  have EK:0<2 ^ k:=Nat.pow_pos (by omega)
  have Tc:0<2 ^ (L - 1):=Nat.pow_pos (by omega)
  have PB:2 ^ L=2 * 2 ^ (L - 1):=by
   have e:L=(L - 1)+1:=by omega
   conv=>lhs;rw [e,Nat.pow_succ]
   omega
  have hmul:n.toNat * 2 ^ k<18446744073709551616:=by
   have:n.toNat * 2 ^ k<2 ^ L * 2 ^ k:=Nat.mul_lt_mul_of_pos_right QW EK
   rw [PB,Nat.mul_assoc,Nat.mul_comm (2 ^ (L - 1)),hb] at this
   exact this
  have Hw:(mf n s.toNat).toNat=n.toNat * 2 ^ k:=by rw [zC,hk,Nat.mod_eq_of_lt hmul]
  have Oe:min s.toNat IntKind.i64.bits=k:=by rw [hk];show min k 64=k;omega
  rw [Hw,Oe] at hv
  have KH:((2:Int) ^ k)=((2 ^ k:Nat):Int):=by rw [Int.natCast_pow];rfl
  rw [KH] at hv
  have Ew:v.toNat=18446744073709551615 - (UInt64.ofInt (Int.fdiv (IntKind.i64.wrap ((n.toNat * 2 ^ k:Nat):Int)) ((2 ^ k:Nat):Int))).toNat:=by rw [hv,pJ]
  by_cases a:n<top
  ·rw [ao a]
   have a':=aH.1 a
   rw [ht] at a'
   have NV:n.toNat * 2 ^ k<9223372036854775808:=by
    have:n.toNat * 2 ^ k<2 ^ (L - 1) * 2 ^ k:=Nat.mul_lt_mul_of_pos_right a' EK
    rw [Nat.mul_comm (2 ^ (L - 1)),hb] at this
    exact this
   rw [i64_in _ (by omega),Int.fdiv_eq_ediv_of_nonneg _ (by omega),show ((n.toNat * 2 ^ k:Nat):Int) / ((2 ^ k:Nat):Int)=((n.toNat * 2 ^ k / 2 ^ k:Nat):Int) from rfl,Nat.mul_div_cancel _ EK,jA,Nat.mod_eq_of_lt hw] at Ew
   have Rw:2 ^ (L - 1)≤2 ^ 63:=Nat.pow_le_pow_right (by omega) (by omega)
   show 9223372036854775808≤v
   rw [aJ,Ew,show (9223372036854775808:UInt64).toNat=9223372036854775808 from rfl]
   omega
  ·rw [ah a]
   have a':2 ^ (L - 1)≤n.toNat:=by rw [←ht];exact Nat.le_of_not_lt fun h=>a (aH.2 h)
   have EN:9223372036854775808≤n.toNat * 2 ^ k:=by
    have:2 ^ (L - 1) * 2 ^ k≤n.toNat * 2 ^ k:=bu _ a'
    rw [Nat.mul_comm (2 ^ (L - 1)),hb] at this
    exact this
   have QB:IntKind.i64.wrap ((n.toNat * 2 ^ k:Nat):Int)=((n.toNat:Int) - ((2 ^ L:Nat):Int)) * ((2 ^ k:Nat):Int):=by
    rw [IntKind.wrap_i64,Int.sub_mul,show ((2 ^ L:Nat):Int) * ((2 ^ k:Nat):Int)=((2 ^ L * 2 ^ k:Nat):Int) by simp,PB,Nat.mul_assoc,Nat.mul_comm (2 ^ (L - 1)),hb,show (n.toNat:Int) * ((2 ^ k:Nat):Int)=((n.toNat * 2 ^ k:Nat):Int) by simp]
    omega
   have Rv:2 ^ L≤2 ^ 64:=Nat.pow_le_pow_right (by omega) (by omega)
   rw [QB,Int.mul_fdiv_cancel _ (by omega),DJ] at Ew
   have e1:(1:UInt64).toNat=1:=rfl
   have hm:(top - 1 - (n - top)).toNat=2 ^ L - 1 - n.toNat:=by
    have h1:(top - 1).toNat=2 ^ (L - 1) - 1:=by
     rw [UInt64.toNat_sub_of_le _ _ (by rw [aJ,ht,e1];omega),ht,e1]
    have h2:(n - top).toNat=n.toNat - 2 ^ (L - 1):=by
     rw [UInt64.toNat_sub_of_le _ _ (by rw [aJ,ht];exact a'),ht]
    rw [UInt64.toNat_sub_of_le _ _ (by rw [aJ,h1,h2];omega),h1,h2];omega
   refine ⟨aZ.1 ?_,fun h=>?_⟩
   ·rw [hm,Ew];omega
   ·rw [aJ,Ew,show (9223372036854775808:UInt64).toNat=9223372036854775808 from rfl] at h
    omega
 unfold Mp.below
 rcases hl with rfl | rfl | rfl | rfl
 ·exact key 128 56 8 (by omega) rfl (by decide) rfl (by simpa using hn)
 ·exact key 32768 48 16 (by omega) rfl (by decide) rfl (by simpa using hn)
 ·exact key 2147483648 32 32 (by omega) rfl (by decide) rfl (by simpa using hn)
 ·exact key 9223372036854775808 0 64 (by omega) rfl (by decide) rfl (by simpa using hn)
section
variable {n:Nat} {depth p c k long q:Int} {u t:UInt64} {b:bS}
def Mp.jd.A3 (b:bS) (g:Mp.jd):List TV:=[.ag (bM.cells (bD.val g.it)),.ag (ez.cells (ez.mk g.err g.at_ [])),.ag (dj.cells (dj.mk b g.pos))]
theorem bZ.wc (x3:bM) (x4:ez) (v:UInt64) (x6:UInt64) (hv:match (none:Option UInt64) with | none=>True | some _=>True) :
  bZ.j4 n p c v x3 x4 k x6 [] ⟨b,q⟩=some (Mp.jd.A3 b (if 9223372036854775808≤v then Mp.bad 3 p q else Mp.num (.mk k v [] [] []) p c (Mp.signed v).1 q)):=by
 refine bZ.Cn _ _ _ _ _ _ _ _ _ _ ?_
 intro v1 e1
 by_cases a:9223372036854775808≤v
 ·rw [aa a,aq,ao a];rfl
 ·rw [af a,aj,ah a,e1]
  simp only [Mp.num,bD.of]
  split <;> rfl
theorem bZ.qS (x8:bM) (x9:ez) (hd:1≤depth∧depth≤1000) (hn:2 * depth.toNat<n) (hb:b.length≤1099511627776) (hq:0≤q∧q≤b.length)
  (hk:k=1∨k=2∨k=3∨k=4∨k=5∨k=6∨k=8∨k=9∨k=10) (hl:long=0∨long=1∨long=2∨long=4∨long=8)
  (hu:long≠0→u.toNat<256 ^ long.toNat) (FN:long=0→u.toNat≤127) (h8:long=8→k=1∨k=2∨k=9) :
  bZ.j3 n depth p c k u long k (decide (k=8∨k=9)) x8 x9 k t [] ⟨b,q⟩=some (Mp.jd.A3 b (Mp.iX b (Mp.read b (depth - 1).toNat) p c k u long t q)):=by
 refine bZ.sA _ _ _ _ _ _ _ _ _ _ _ _ _ _ _ ?_
 intro v1 e1 v2 e2 v3 e3 v4 e4 v5 e5 v6 e6 v7 e7 v8 e8 v9 e9 v10 th v11 vv v12 yh kN Au
 have hg:cM.ie ⟨b,q⟩=true:=cM.ic.2 ⟨hq.1,hq.2,hb⟩
 unfold Mp.iX
 by_cases a:k=8∨k=9
 ·rw [aa a,aq,ao a];rfl
 rw [af a,aj,ah a]
 by_cases a1:k=1
 ·rw [aa a1,aq,ao a1,e1]
  simp only [Mp.num,bD.of]
  split <;> rfl
 rw [af a1,aj,ah a1]
 by_cases a2:k=2
 ·rw [aa a2,aq,ao a2]
  by_cases a3:long=0
  ·rw [af (by omega),aj,ao a3,bZ.wc _ _ _ _ trivial,ah (fun h=>by
    have:=aJ.1 h
    have:=FN a3
    rw [show (9223372036854775808:UInt64).toNat=9223372036854775808 from rfl] at *
    omega)]
  ·have wC:long=1∨long=2∨long=4∨long=8:=by omega
   have LY:v3=64 - 8 * long:=by rw [e3,e2,i64_in (8 * long) (by omega),i64_in _ (by omega)]
   have hB:=Mp.xq u long wC (hu a3) v3 LY _ rfl
   rw [aa (by omega),aq,ah a3,bK (aa (by omega)),bK (aa (by omega)),bZ.wc _ _ _ _ trivial,e5,e4]
   cases AT:Mp.below u long with
   | none=>rw [AT] at hB;rw [ao hB]
   | some m=>rw [AT] at hB;rw [ah hB.2,hB.1]
 rw [af a2,aj,ah a2]
 have J5:u.toNat<4294967296:=by
  by_cases a3:long=0
  ·have:=FN a3;omega
  ·have EA:=hu a3
   have HW:long=1∨long=2∨long=4:=by
    rcases hl with h | h | h | h | h
    ·exact (a3 h).elim
    ·exact .inl h
    ·exact .inr (.inl h)
    ·exact .inr (.inr h)
    ·have:=h8 h;omega
   rcases HW with h | h | h <;> rw [h] at EA <;> simp at EA <;> omega
 have DF:v6=(u.toNat:Int):=by rw [e6,i64_in _ (by omega)]
 have hs:Mp.lN k=true:=by unfold Mp.lN;exact aa (by omega)
 rw [bK (by rw [hs,aa (by omega)];rfl)]
 have h7:(!decide ((Mp.sized k v6).1=c) || v7)=true:=by rw [e7];cases decide ((Mp.sized k v6).1=c) <;> rfl
 simp only [aP,cV]
 rw [bK h7,e8,DF]
 by_cases a4:(Mp.sized k u.toNat).1≠c∨127<t
 ·rw [ao a4,show (cond (!decide ((Mp.sized k u.toNat).1=c)) true (decide (127<t)))=true by
   by_cases a5:(Mp.sized k u.toNat).1=c
   ·rw [aa a5];simpa using a4.resolve_left (fun h=>h a5)
   ·rw [af a5];rfl];rfl
 ·have a5:(Mp.sized k u.toNat).1=c:=Classical.byContradiction fun h=>a4 (.inl h)
  have a6:¬127<t:=fun h=>a4 (.inr h)
  rw [ah a4,a5,aa rfl,af a6]
  simp only [aV,aj,bB,cV]
  rw [e9]
  by_cases k5:k=5
  ·rw [aa k5,aq,aq,ao k5,bK (by rw [hg,aa (by omega),aa (by omega)];rfl),th,vv,DF,show Mp.many (bM.kind ⟨k,t,[],[],[]⟩) (u.toNat:Int)=u.toNat by unfold Mp.many;rw [ah (by show ¬k=6;omega)];omega]
   rfl
  rw [af k5,aj,ah k5]
  by_cases k6:k=6
  ·rw [aa k6,aq,ao k6,bK (by rw [hg,aa (by omega),aa (by omega)];rfl),th,vv,DF,show Mp.many (bM.kind ⟨k,t,[],[],[]⟩) (u.toNat:Int)=2 * u.toNat by unfold Mp.many;rw [ao (by show k=6;omega)];omega]
   rfl
  rw [af k6,aj,ah k6,bK hg,yh,Au,DF]
  rfl
theorem Gt (v:UInt8):UInt64.ofInt ((v.toNat:Nat):Int)=v.toUInt64:=by
 apply aZ.1
 have:=v.toNat_lt
 rw [jA,UInt8.toNat_toUInt64];omega
theorem bZ.lu (x6:bM) (x7:ez) (hd:1≤depth∧depth≤1000) (hn:2 * depth.toNat<n) (hb:b.length≤1099511627776) (hq:0≤q∧q≤b.length)
  (hk:k=1∨k=2∨k=3∨k=4∨k=5∨k=6∨k=8∨k=9∨k=10) (hl:long=0∨long=1∨long=2∨long=4∨long=8)
  (hu:long≠0→u.toNat<256 ^ long.toNat) (FN:long=0→u.toNat≤127) (h8:long=8→k=1∨k=2∨k=9) :
  bZ.j1 n depth p c k u long x6 x7 ⟨b,q⟩=some (Mp.jd.A3 b (Mp.mj b (Mp.read b (depth - 1).toNat) p c k u long q)):=by
 have hg:cM.ie ⟨b,q⟩=true:=cM.ic.2 ⟨hq.1,hq.2,hb⟩
 have two:∀(t:UInt64) (q':Int),0≤q'∧q'≤b.length→bZ.j2 n depth p c k u long x6 x7 k t [] ⟨b,q'⟩=some (Mp.jd.A3 b (Mp.iX b (Mp.read b (depth - 1).toNat) p c k u long t q')):=by
  intro t q' Cz
  rw [bZ.jw]
  have J:=bZ.qS (n:=n) (depth:=depth) (p:=p) (c:=c) (k:=k) (long:=long) (q:=q') (u:=u) (t:=t) (b:=b) x6 x7 hd hn hb Cz hk hl hu FN h8
  by_cases a:k=8
  ·rw [aa a,aq,←J]
   congr 1
   exact (aa (Or.inl a)).symm
  ·rw [af a,aj,←J]
   congr 1
   by_cases a9:k=9
   ·rw [aa a9];exact (aa (Or.inr a9)).symm
   ·rw [af a9];exact (af (by omega)).symm
 rw [bZ.lv,Mp.mj]
 by_cases a:k=10
 ·rw [aa a,aq,ao a,bK hg]
  by_cases m:q<b.length
  ·rw [show cM.more ⟨b,q⟩=true from aa m,aV,aj,ah (by omega),show cM.byte ⟨b,q⟩=((b.getD q.toNat 0).toNat:Int) from ao m,Gt]
   exact two _ (q+1) (by omega)
  ·rw [show cM.more ⟨b,q⟩=false from af m,aX,aq,ao (by omega)];rfl
 ·rw [af a,aj,ah a]
  exact two 0 q hq
end
theorem bZ.goal (n:Nat) (r:dj) (depth:Int) (hp:((cM.ie r&&decide (0≤depth∧depth≤1000))&&decide ((2 * depth.toNat+1)<n+1))=true) :
  bZ.F n r depth=some [.ag (bM.cells (bD.val (Mp.read r.b depth.toNat r.at_).it)),.ag (ez.cells (ez.mk (Mp.read r.b depth.toNat r.at_).err (Mp.read r.b depth.toNat r.at_).at_ [])),.ag (dj.cells (dj.mk r.b (Mp.read r.b depth.toNat r.at_).pos))]:=by
 simp only [ae,aB] at hp
 obtain ⟨⟨hg,hd⟩,hn⟩:=hp
 obtain ⟨h0,h1,h2⟩:=cM.ic.1 hg
 obtain ⟨b,p⟩:=r
 simp only at h0 h1 h2 ⊢
 show bZ.F n ⟨b,p⟩ depth=some (Mp.jd.A3 b (Mp.read b depth.toNat p))
 refine bZ.dV _ _ _ ?_
 intro v1 e1 v2 e2 v3 e3 v4 e4 v5 e5 v6 e6 v7 e7 v8 e8 v9 e9
 by_cases a:depth=0
 ·rw [aa a,aq,a,e1];rfl
 obtain ⟨d,rfl⟩:∃d:Nat,depth=(d:Int)+1:=⟨(depth - 1).toNat,by omega⟩
 rw [af a,aj,bK hg,show ((d:Int)+1).toNat=d+1 by omega,Mp.read]
 by_cases m:p<b.length
 ·have hm:cM.more ⟨b,p⟩=true:=aa m
  have Pu:cM.byte ⟨b,p⟩=((b.getD p.toNat 0).toNat:Int):=ao m
  have hc:0≤((b.getD p.toNat 0).toNat:Int)∧((b.getD p.toNat 0).toNat:Int)≤255:=⟨by omega,by have:=(b.getD p.toNat 0).toNat_lt;omega⟩
  rw [Pu] at e3 e4 e5
  rw [hm] at e7 e8 e9
  have Pw:cM.oO ⟨b,p⟩ 1 true=⟨b,p+1⟩:=rfl
  rw [Pw] at e7 e8 e9
  obtain ⟨F1,F2,F3,F4,F5⟩:=Mp.jN _ hc
  rw [hm,aV,aj,Pu,Pw,bK (aa hc),ah (by omega),←e3,←e4,←e5,Mp.sd]
  rw [←e3,←e4,←e5] at *
  by_cases k0:v3=0
  ·rw [aa k0,aq,ao k0,e6];rfl
  rw [af k0,aj,ah k0]
  have mN:cM.ie ⟨b,p+1⟩=true:=cM.ic.2 ⟨by show 0≤p+1;omega,by show p+1≤(b.length:Int);omega,h2⟩
  by_cases l0:v5=0
  ·rw [af (by omega),aj,ah (by omega),ao l0,l0,Int.add_zero]
   have J:=bZ.lu (n:=n) (depth:=(d:Int)+1) (p:=p) (c:=((b.getD p.toNat 0).toNat:Int)) (k:=v3) (long:=0) (q:=p+1) (u:=v4) (b:=b) ⟨0,0,[],[],[]⟩ ⟨0,0,[]⟩ (by omega) (by omega) h2 (by omega) (by omega) (by omega) (fun h=>(h rfl).elim) (fun _=>F4 l0) (fun h=>by omega)
   rw [show ((d:Int)+1 - 1).toNat=d by omega] at J
   exact J
  ·rw [aa (by omega),aq,bK mN]
   have F6:v8=!decide ((b.length:Int) - (p+1)<v5):=by
    rw [e8,cM.pd]
    by_cases x:(b.length:Int) - (p+1)<v5
    ·rw [aa x];exact af (by show ¬(1≤v5∧v5≤8∧v5≤(b.length:Int) - (p+1));omega)
    ·rw [af x];exact aa (by show 1≤v5∧v5≤8∧v5≤(b.length:Int) - (p+1);omega)
   rw [←e8] at e7 e9
   by_cases x:(b.length:Int) - (p+1)<v5
   ·rw [aa x] at F6
    rw [ao x,F6,e2,e9,F6];rfl
   ·rw [af x] at F6
    rw [ah x,ah l0,F6,e9,e7,F6,aX,aV,aj]
    have AT:=cM.mI ((b.drop (p+1).toNat).take v5.toNat) v5.toNat (by rw [bo,aW];omega) (by omega)
    have J:=bZ.lu (n:=n) (depth:=(d:Int)+1) (p:=p) (c:=((b.getD p.toNat 0).toNat:Int)) (k:=v3) (long:=v5) (q:=p+1+v5) (u:=cM.be ((b.drop (p+1).toNat).take v5.toNat)) (b:=b) ⟨0,0,[],[],[]⟩ ⟨0,0,[]⟩ (by omega) (by omega) h2 (by omega) (by omega) F2 (fun _=>AT) (fun h=>(l0 h).elim) F3
    rw [show ((d:Int)+1 - 1).toNat=d by omega] at J
    exact J
 ·have hm:cM.more ⟨b,p⟩=false:=af m
  rw [hm,aX,aq,ao (by omega),e2];rfl
theorem ei.goal (b:bS) (depth:Int) (hp:decide (b.length≤1099511627776)=true):ei.F b depth=some [.ag (bM.cells (bD.val (Mp.dec b depth).1)),.ag (ez.cells (Mp.dec b depth).2)]:=by
 have hb:=aD hp
 refine ei.dV _ _ ?_
 intro v1 e1 v2 e2 v3 e3 v4 e4 v5 e5
 simp only [aP,bB,cV]
 have DG:v1=decide (depth<0∨1000<depth):=by
  rw [e1]
  by_cases a:depth<0 <;> by_cases b:1000<depth <;> simp [a,b]
 rw [DG,Mp.dec]
 by_cases a:depth<0∨1000<depth
 ·rw [aa a,aq,ao a,e2]
 have hg:cM.ie ⟨b,0⟩=true:=cM.ic.2 ⟨Int.le_refl _,by show (0:Int)≤(b.length:Int);omega,hb⟩
 obtain ⟨g1,g2,_⟩:=Mp.mi b depth.toNat 0 (Int.le_refl _) (by omega)
 simp only at e3 e4
 rw [af a,aj,ah a,bK hp,bK (by rw [hg,aa (by omega)];rfl),e3]
 by_cases x:(Mp.read b depth.toNat 0).err=0
 ·have Re:cM.ie v4=true:=by rw [e4];exact cM.ic.2 ⟨g1,g2,hb⟩
  rw [aa x,aV,aj,ah (fun h=>h x),bK Re,e5,e4]
  by_cases y:(Mp.read b depth.toNat 0).pos<b.length
  ·rw [aa (by show 0<(b.length:Int) - (Mp.read b depth.toNat 0).pos;omega),aq,ao y]
  ·rw [af (by show ¬0<(b.length:Int) - (Mp.read b depth.toNat 0).pos;omega),aj,ah y];rfl
 ·rw [af x,aX,aq,ao x];rfl
theorem dC.goal (n:UInt64):dC.F n=some [.i .i64 (Mp.wide n)]:=by
 rw [dC.fR,Mp.wide]
 by_cases a:n<256
 ·rw [aa a,ao a];rfl
 rw [af a,ah a,aj]
 by_cases a:n<65536
 ·rw [aa a,ao a];rfl
 rw [af a,ah a,aj]
 by_cases a:n<4294967296
 ·rw [aa a,ao a];rfl
 rw [af a,ah a,aj]
theorem dD.goal (n:Int):dD.F n=some [.u8 (Mp.step n)]:=by
 rw [dD.fR,Mp.step]
 by_cases a:n=1
 ·rw [aa a,ao a];rfl
 rw [af a,ah a,aj]
 by_cases a:n=2
 ·rw [aa a,ao a];rfl
 rw [af a,ah a,aj]
 by_cases a:n=4
 ·rw [aa a,ao a];rfl
 rw [af a,ah a,aj]
theorem cz.fN (N:Int) (hN:0≤N∧N≤8):∀(m:Nat) (i:Int) (x:UInt64) (acc:bS),0≤i→i+m=N→acc.length≤100+i→cz.l1 x N acc i=some [.sl .bs (acc++cM.iy x m)]:=by
 intro m
 induction m with
 | zero =>
  intro i x acc h0 hi ha
  refine cz.ew _ _ _ _ ?_
  intro v1 e1 v2 e2 v3 e3
  simp only [aP,cV]
  rw [e1,af (by omega),aj,aj,cM.iy,aO]
 | succ m ih =>
  intro i x acc h0 hi ha
  refine cz.ew _ _ _ _ ?_
  intro v1 e1 v2 e2 v3 e3
  simp only [aP,cV]
  rw [e1,aa (by omega),aq,aa (by omega),aq,bK (fE (by simp only [aQ];omega) (by simp only [aQ];omega)),show (!decide ((256:UInt64)=0))=true from rfl,cV,show v3=i+1 by rw [e3,i64_in _ (by omega)],ih _ _ _ (by omega) (by omega) (by rw [aw,aQ];omega),e2,vB,cM.iy,aU]
  rfl
theorem cz.goal (v:UInt64) (n:Int) (hp:decide (0≤n∧n≤8)=true):cz.F v n=some [.sl .bs (cM.iy v n.toNat)]:=by
 have h:=aD hp
 rw [cz.fR]
 exact cz.fN n h n.toNat 0 v [] (by omega) (by omega) (by simp)
theorem bP.fN (l:bS) (hl:l.length≤8):∀(k:Nat) (acc:bS),k≤l.length→acc.length+k≤100→bP.l1 l acc ((k:Int) - 1)=some [.sl .bs (acc++(l.take k).reverse)]:=by
 intro k
 induction k with
 | zero =>
  intro acc _ _
  refine bP.ew _ _ _ ?_
  intro v1 e1 v2 e2
  rw [af (by omega),aj];simp
 | succ k ih =>
  intro acc hk ha
  refine bP.ew _ _ _ ?_
  intro v1 e1 v2 e2
  rw [show ((k+1:Nat):Int) - 1=(k:Int) by omega] at *
  rw [aK] at e1
  rw [aa (by omega),aq,bK (fO (by omega) (by omega)),bK (fE (by simp only [aQ];omega) (by simp only [aQ];omega)),show v2=(k:Int) - 1 by rw [e2,i64_in _ (by omega)],ih _ (by omega) (by rw [aw,aQ];omega),List.take_succ_eq_append_getElem (by omega),List.reverse_append,e1,aG,aE (by omega)]
  simp
theorem bP.goal (v:UInt64) (n:Int) (hp:decide (0≤n∧n≤8)=true):bP.F v n=some [.sl .bs (cM.eb v n.toNat)]:=by
 have h:=aD hp
 refine bP.dV _ _ ?_
 intro v1 e1 v2 e2
 rw [cM.kt] at e1
 rw [bK hp,show v2=((n.toNat:Nat):Int) - 1 by rw [e2,e1,i64_in _ (by omega)],bP.fN _ (by rw [cM.kt];omega) _ _ (by rw [cM.kt];omega) (by simp;omega),List.take_of_length_le (by rw [cM.kt];omega)]
 rfl
theorem Mp.kZ (n:UInt64):(Mp.wide n=1∧n.toNat<256)∨(Mp.wide n=2∧256≤n.toNat∧n.toNat<65536)∨(Mp.wide n=4∧65536≤n.toNat∧n.toNat<4294967296)∨(Mp.wide n=8∧4294967296≤n.toNat):=by
 unfold Mp.wide
 have h1:(n<256)=(n.toNat<256):=propext aH
 have h2:(n<65536)=(n.toNat<65536):=propext aH
 have h3:(n<4294967296)=(n.toNat<4294967296):=propext aH
 simp only [h1,h2,h3]
 repeat' split
 all_goals omega
theorem B2 (a b:Int):nJ a b=max a b:=by unfold nJ;omega
theorem dw.goal (f:UInt8) (n:UInt64) (least:Int) (hp:decide (least≤8)=true):dw.F f n least=some [.sl .bs (Mp.form f n least)]:=by
 have h:=aD hp
 refine dw.dV _ _ _ ?_
 intro v1 e1 v2 e2 v3 e3
 rw [B2] at *
 have hw:=Mp.kZ n
 have hl:v3.length≤8:=by rw [e3,cM.fM];omega
 have h2:v2.length=1:=by rw [e2];rfl
 rw [bK (aa (by omega)),bK (fE (by omega) (by omega)),e2,e3,e1];rfl
theorem Mp.CX (f:UInt8) (n:UInt64) (least:Int) (h:least≤8):(Mp.form f n least).length≤9:=by
 have hw:=Mp.kZ n
 rw [Mp.form,aF,cM.fM];omega
theorem ef.goal (n k:UInt64):ef.F n k=some [.sl .bs (Mp.ext n k)]:=by
 refine ef.dV _ _ ?_
 intro v1 e1 v2 e2 v3 e3 v4 e4 v5 e5 v6 e6 v7 e7
 rw [vB] at e1
 have hl:v7.length≤9:=by rw [e7];exact Mp.CX _ _ _ (by omega)
 unfold Mp.ext
 subst e1
 by_cases a:n=1
 ·rw [aa a,ao a,aq,e2]
 rw [af a,ah a,aj]
 by_cases a:n=2
 ·rw [aa a,ao a,aq,e3]
 rw [af a,ah a,aj]
 by_cases a:n=4
 ·rw [aa a,ao a,aq,e4]
 rw [af a,ah a,aj]
 by_cases a:n=8
 ·rw [aa a,ao a,aq,e5]
 rw [af a,ah a,aj]
 by_cases a:n=16
 ·rw [aa a,ao a,aq,e6]
 rw [af a,ah a,aj,bK (aa (by omega)),bK (fE (by simp only [aQ];omega) (by simp only [aQ];omega)),e7]
theorem cJ.goal (n:UInt64):cJ.F n=some [.sl .bs (Mp.put (Mp.signed n) (~~~ n))]:=by
 refine cJ.dV _ ?_
 intro v1 e1 v2 e2 v3 e3 v4 e4 v5 e5 v6 e6 v7 e7 v8 e8 v9 e9
 have l2:v2.length=1:=by rw [e2];rfl
 have l4:v4.length=1:=by rw [e4];rfl
 have l6:v6.length=1:=by rw [e6];rfl
 have l8:v8.length=1:=by rw [e8];rfl
 have l3:v3.length=1:=by rw [e3,cM.fM];rfl
 have l5:v5.length=2:=by rw [e5,cM.fM];rfl
 have l7:v7.length=4:=by rw [e7,cM.fM];rfl
 have l9:v9.length=8:=by rw [e9,cM.fM];rfl
 unfold Mp.signed
 by_cases a:n<32
 ·rw [aa a,ao a,aq,e1]
  have h:=aH.1 a
  simp at h
  have e:((255:UInt64) - n).toNat=255 - n.toNat:=by
   rw [UInt64.toNat_sub_of_le _ _ (by rw [aJ];simp;omega)];rfl
  rw [e,show ((255 - n.toNat:Nat):Int)=255 - (n.toNat:Int) by omega]
  rfl
 rw [af a,ah a,aj]
 by_cases a:n<128
 ·rw [aa a,ao a,aq,bK (aa (by omega)),bK (fE (by omega) (by omega)),e2,e3];rfl
 rw [af a,ah a,aj]
 by_cases a:n<32768
 ·rw [aa a,ao a,aq,bK (aa (by omega)),bK (fE (by omega) (by omega)),e4,e5];rfl
 rw [af a,ah a,aj]
 by_cases a:n<2147483648
 ·rw [aa a,ao a,aq,bK (aa (by omega)),bK (fE (by omega) (by omega)),e6,e7];rfl
 rw [af a,ah a,aj,bK (aa (by omega)),bK (fE (by omega) (by omega)),e8,e9];rfl
theorem Mp.CZ (f:Int) (hf:0≤f∧f≤250) (n:UInt64) (hn:n.toNat<4294967296):Mp.form (UInt8.ofInt f) n 1=Mp.put (if n.toNat<256 then (f,1) else if n.toNat<65536 then (f+1,2) else (f+2,4)) n:=by
 have k:∀(d:Int) (D:UInt8),D=UInt8.ofInt d→0≤d∧d≤5→UInt8.ofInt f+D - 0=UInt8.ofInt (f+d):=by
  intro d D hD hd
  subst hD
  have hs:UInt8.ofInt f+UInt8.ofInt d - 0=UInt8.ofInt f+UInt8.ofInt d:=by simp
  rw [hs]
  apply UInt8.toNat_inj.1
  obtain ⟨f',rfl⟩:∃m:Nat,f=m:=⟨f.toNat,by omega⟩
  obtain ⟨d',rfl⟩:∃m:Nat,d=m:=⟨d.toNat,by omega⟩
  rw [UInt8.toNat_add,nA,nA,show ((f':Int)+(d':Int))=((f'+d':Nat):Int) by omega,nA];omega
 unfold Mp.form
 rcases Mp.kZ n with ⟨h,h'⟩ | ⟨h,h',h2⟩ | ⟨h,h',h2⟩ | ⟨h,h'⟩
 ·rw [h,ao h',show max (1:Int) 1=1 from rfl,show Mp.step 1=0 from rfl,k 0 0 rfl (by omega),Int.add_zero];rfl
 ·rw [h,ah (by omega),ao h2,show max (2:Int) 1=2 from rfl,show Mp.step 2=1 from rfl,show Mp.step 1=0 from rfl,k 1 1 rfl (by omega)];rfl
 ·rw [h,ah (by omega),ah (by omega),show max (4:Int) 1=4 from rfl,show Mp.step 4=2 from rfl,show Mp.step 1=0 from rfl,k 2 2 rfl (by omega)];rfl
 ·omega
theorem Mp.Gb (f:UInt8) (n:UInt64) (hn:n.toNat<4294967296) (g:Int) (hg:f=UInt8.ofInt g) (hg1:f+2 - 1=UInt8.ofInt (g+1)) (hg0:f+1 - 1=f):Mp.form f n 2=Mp.put (if n.toNat<65536 then (g,2) else (g+1,4)) n:=by
 unfold Mp.form
 rcases Mp.kZ n with ⟨h,h'⟩ | ⟨h,h',h2⟩ | ⟨h,h',h2⟩ | ⟨h,h'⟩
 ·rw [h,ao (by omega),show max (1:Int) 2=2 from rfl,show Mp.step 2=1 from rfl,hg0,hg];rfl
 ·rw [h,ao h2,show max (2:Int) 2=2 from rfl,show Mp.step 2=1 from rfl,hg0,hg];rfl
 ·rw [h,ah (by omega),show max (4:Int) 2=4 from rfl,show Mp.step 4=2 from rfl,show Mp.step 2=1 from rfl,hg1];rfl
 ·omega
theorem ia {n:Nat} (h:n<4294967296):(UInt64.ofNat n).toNat=n:=by rw [UInt64.toNat_ofNat'];omega
theorem Mp.oY (m:Int):Mp.sized 4 m=if m<32 then (160+m,0) else if m<256 then (217,1) else if m<65536 then (218,2) else (219,4):=by simp [Mp.sized,Mp.fixed,Mp.fix,Mp.tq,Mp.base]
theorem Mp.qJ (m:Int) (h:0≤m):Mp.sized 3 m=if m<256 then (196,1) else if m<65536 then (197,2) else (198,4):=by
 have:¬m<0:=by omega
 simp [Mp.sized,Mp.fixed,Mp.fix,Mp.tq,Mp.base,this]
theorem Mp.oZ (m:Int):Mp.sized 5 m=if m<16 then (144+m,0) else if m<65536 then (220,2) else (221,4):=by simp [Mp.sized,Mp.fixed,Mp.fix,Mp.tq,Mp.base]
theorem Mp.sized_map (m:Int):Mp.sized 6 m=if m<16 then (128+m,0) else if m<65536 then (222,2) else (223,4):=by simp [Mp.sized,Mp.fixed,Mp.fix,Mp.tq,Mp.base]
theorem Mp.tx (m:Int) (h:0≤m) (h1:m≠1) (h2:m≠2) (h4:m≠4) (h8:m≠8) (sH:m≠16):Mp.sized 10 m=if m<256 then (199,1) else if m<65536 then (200,2) else (201,4):=by
 have:¬m<0:=by omega
 simp [Mp.sized,Mp.fixed,Mp.fix,Mp.tq,Mp.base,this,h1,h2,h4,h8,sH]
theorem uF (m:Nat) (a b c:Int × Int) (n:UInt64):Mp.put (if m<256 then a else if m<65536 then b else c) n=Mp.put (if (m:Int)<256 then a else if (m:Int)<65536 then b else c) n:=by
 refine congrArg (fun f=>Mp.put f n) ?_
 by_cases x:m<256
 ·rw [ao x,ao (show (m:Int)<256 by omega)]
 ·rw [ah x,ah (show ¬(m:Int)<256 by omega)]
  by_cases y:m<65536
  ·rw [ao y,ao (show (m:Int)<65536 by omega)]
  ·rw [ah y,ah (show ¬(m:Int)<65536 by omega)]
theorem yI (m:Nat) (a b:Int × Int) (n:UInt64):Mp.put (if m<65536 then a else b) n=Mp.put (if (m:Int)<65536 then a else b) n:=by
 refine congrArg (fun f=>Mp.put f n) ?_
 by_cases y:m<65536
 ·rw [ao y,ao (show (m:Int)<65536 by omega)]
 ·rw [ah y,ah (show ¬(m:Int)<65536 by omega)]
theorem Mp.Ap (m:Nat) (h:m<4294967296):(if m<32 then [UInt8.ofInt (160+(m:Int))] else Mp.form 217 (UInt64.ofNat m) 1)=Mp.put (Mp.sized 4 m) (UInt64.ofNat m):=by
 rw [Mp.oY]
 by_cases a:m<32
 ·rw [ao a,ao (show (m:Int)<32 by omega)];rfl
 ·rw [ah a,ah (show ¬(m:Int)<32 by omega),show (217:UInt8)=UInt8.ofInt 217 from rfl,Mp.CZ 217 (by omega) _ (by rw [ia h];exact h),ia h]
  exact uF m _ _ _ _
theorem Mp.yc (m:Nat) (h:m<4294967296):Mp.form 196 (UInt64.ofNat m) 1=Mp.put (Mp.sized 3 m) (UInt64.ofNat m):=by
 rw [Mp.qJ _ (by omega),show (196:UInt8)=UInt8.ofInt 196 from rfl,Mp.CZ 196 (by omega) _ (by rw [ia h];exact h),ia h]
 exact uF m _ _ _ _
theorem Mp.Aq (m:Nat) (h:m<4294967296):(if m<16 then [UInt8.ofInt (144+(m:Int))] else Mp.form 220 (UInt64.ofNat m) 2)=Mp.put (Mp.sized 5 m) (UInt64.ofNat m):=by
 rw [Mp.oZ]
 by_cases a:m<16
 ·rw [ao a,ao (show (m:Int)<16 by omega)];rfl
 ·rw [ah a,ah (show ¬(m:Int)<16 by omega),Mp.Gb 220 _ (by rw [ia h];exact h) 220 rfl rfl rfl,ia h]
  exact yI m _ _ _
theorem Mp.CW (m:Nat) (h:m<4294967296):(if m<16 then [UInt8.ofInt (128+(m:Int))] else Mp.form 222 (UInt64.ofNat m) 2)=Mp.put (Mp.sized 6 m) (UInt64.ofNat m):=by
 rw [Mp.sized_map]
 by_cases a:m<16
 ·rw [ao a,ao (show (m:Int)<16 by omega)];rfl
 ·rw [ah a,ah (show ¬(m:Int)<16 by omega),Mp.Gb 222 _ (by rw [ia h];exact h) 222 rfl rfl rfl,ia h]
  exact yI m _ _ _
theorem Mp.CY (m:Nat) (t:UInt64) (h:m<4294967296):Mp.ext (UInt64.ofNat m) t=Mp.put (Mp.sized 10 m) (UInt64.ofNat m)++[t.toUInt8]:=by
 have e:∀k:Nat,k<17→(UInt64.ofNat m=UInt64.ofNat k)=(m=k):=by
  intro k hk
  apply propext
  constructor
  ·intro q
   have:=congrArg UInt64.toNat q
   rwa [ia h,ia (by omega)] at this
  ·rintro rfl;rfl
 have e1:=e 1 (by omega);have e2:=e 2 (by omega);have e4:=e 4 (by omega);have e8:=e 8 (by omega);have Gd:=e 16 (by omega)
 unfold Mp.ext
 by_cases a:m=1
 ·subst a;rfl
 by_cases a2:m=2
 ·subst a2;rfl
 by_cases a4:m=4
 ·subst a4;rfl
 by_cases a8:m=8
 ·subst a8;rfl
 by_cases zu:m=16
 ·subst zu;rfl
 have n1:¬UInt64.ofNat m=1:=fun q=>a (e1.mp q)
 have n2:¬UInt64.ofNat m=2:=fun q=>a2 (e2.mp q)
 have n4:¬UInt64.ofNat m=4:=fun q=>a4 (e4.mp q)
 have n8:¬UInt64.ofNat m=8:=fun q=>a8 (e8.mp q)
 have Qf:¬UInt64.ofNat m=16:=fun q=>zu (Gd.mp q)
 rw [ah n1,ah n2,ah n4,ah n8,ah Qf]
 congr 1
 rw [Mp.tx _ (by omega) (by omega) (by omega) (by omega) (by omega) (by omega),show (199:UInt8)=UInt8.ofInt 199 from rfl,Mp.CZ 199 (by omega) _ (by rw [ia h];exact h),ia h]
 exact uF m _ _ _ _
theorem Mp.Ao (n:UInt64):(if n<128 then [UInt8.ofInt (n.toNat:Int)] else Mp.form 204 n 1)=Mp.put (Mp.eD n) n:=by
 unfold Mp.eD
 by_cases a:n<128
 ·rw [ao a,ao a];rfl
 rw [ah a,ah a]
 unfold Mp.form
 have h1:(n<256)=(n.toNat<256):=propext aH
 have h2:(n<65536)=(n.toNat<65536):=propext aH
 have h3:(n<4294967296)=(n.toNat<4294967296):=propext aH
 simp only [h1,h2,h3]
 rcases Mp.kZ n with ⟨h,h'⟩ | ⟨h,h',h2⟩ | ⟨h,h',h2⟩ | ⟨h,h'⟩
 ·rw [h,ao h'];rfl
 ·rw [h,ah (by omega),ao h2];rfl
 ·rw [h,ah (by omega),ah (by omega),ao h2];rfl
 ·rw [h,ah (by omega),ah (by omega),ah (by omega)];rfl
theorem dE.goal (it:bM) (hp:(decide (bD.cA (bD.of it)≤1099511627776)&&decide (Mp.own (bD.of it)=0))=true):dE.F it=some [.sl .bs (Mp.head (bD.of it))]:=by
 simp only [ae,aB] at hp
 obtain ⟨hb,ho⟩:=hp
 obtain ⟨p1,p2,p3,p4,p5,p6,p7,p8,p9,I2,Ln,I1,Lm,MA⟩:=Mp.I4 it ho
 obtain ⟨k,u,b,t,ks⟩:=it
 simp only at p1 p2 p3 p4 p5 p6 p7 p8 p9 I2 Ln I1 Lm MA
 refine dE.dV _ ?_
 intro v1 e1 v2 e2 v3 e3 v4 e4 v5 e5 v6 e6 v7 e7 v8 e8 v9 e9 v10 th v11 vv v12 yh kN Au jc sZ mM EZ lf Gd pC K5 mL K4 oq H3 v20 L0 v21 LZ ow IA
 simp only at e1 e2 e3 e5 e7 e8 yh sZ IA ⊢
 have km:k=1∨k=2∨k=3∨k=4∨k=5∨k=6∨k=8∨k=9∨k=10:=by omega
 have Ql:(decide ((1:Int)≤8))=true:=rfl
 have Qk:(decide ((2:Int)≤8))=true:=rfl
 have Qj:(decide ((0:Int)≤8∧(8:Int)≤8))=true:=rfl
 rcases km with rfl | rfl | rfl | rfl | rfl | rfl | rfl | rfl | rfl
 all_goals simp only [Int.reduceEq,decide_true,decide_false,aq,aj,Ql,Qk,Qj,cV,aX,bD.of,Mp.head,if_true,if_false]
 ·rw [←Mp.Ao,e1,e2]
  by_cases a:u<128
  ·rw [aa a,ao a,aq]
  ·rw [af a,ah a,aj]
 ·rw [e3]
 ·rw [Au,yh,iD,Mp.yc _ I2]
 ·rw [←Mp.Ap _ Ln]
  by_cases a:t.length<32
  ·rw [aa (by omega),aq,ao a,th,e9,e8,i64_in _ (by omega)]
  ·rw [af (by omega),aj,ah a,vv,e8,iD]
 ·have q:=I1 rfl
  rw [←Mp.Aq _ q]
  by_cases a:ks.length<16
  ·rw [aa (by omega),aq,ao a,Gd,EZ,sZ,i64_in _ (by omega)]
  ·rw [af (by omega),aj,ah a,K5,sZ,iD]
 ·have HH:=bD.jO ks
  rw [bD.na] at hb
  simp only at hb
  have K3:mL=((ks.length / 2:Nat):Int):=by rw [K4,sZ,show Int.tdiv (ks.length:Int) 2=((ks.length / 2:Nat):Int) from rfl,i64_in _ (by omega)]
  rw [←Mp.CW _ Lm]
  by_cases a:ks.length<32
  ·rw [aa (by omega),aq,ao (by omega),L0,H3,K3,i64_in _ (by omega)]
  ·rw [af (by omega),aj,ah (by omega),LZ,K3,iD]
 ·obtain ⟨q1,q2⟩:=p7 rfl
  have hu:u=20∨u=21∨u=22:=by
   have a:=aJ.1 q1
   have b:=aJ.1 q2
   simp at a b
   have:u.toNat=20∨u.toNat=21∨u.toNat=22:=by omega
   rcases this with h | h | h
   ·exact .inl (aZ.1 h)
   ·exact .inr (.inl (aZ.1 h))
   ·exact .inr (.inr (aZ.1 h))
  rw [e5,e4]
  rcases hu with rfl | rfl | rfl <;> rfl
 ·have l6:v6.length=1:=by rw [e6];rfl
  have l7:v7.length=8:=by rw [e7,cM.fM];rfl
  rw [bK (fE (by omega) (by omega)),e6,e7];rfl
 ·rw [IA,yh,iD,Mp.CY _ _ I2]
theorem cF.fN (n:Nat) (it:bM) (hb:16 * bD.cE it.kids≤1099511627776) (hn:bD.cE it.kids<n):∀(m i:Nat) (acc:bS),i+m=it.kids.length→acc.length+16 * bD.cE (it.kids.drop i)≤2199023255552→Mp.gw (it.kids.drop i)=0 →
  cF.l1 n acc i it=some [.sl .bs (acc++Mp.fF (it.kids.drop i))]:=by
 have hk:=bD.jO it.kids
 intro m
 induction m with
 | zero =>
  intro i acc hi _ _
  refine cF.ew _ _ _ _ ?_
  intro v1 e1 v2 e2 v3 e3
  rw [af (by omega),aj,aI (by omega),show Mp.fF []=[] from rfl,aO]
 | succ m ih =>
  intro i acc hi ha hc
  refine cF.ew _ _ _ _ ?_
  intro v1 e1 v2 e2 v3 e3
  have ta:i<it.kids.length:=by omega
  have wM:=bD.nW it.kids i ta
  have hd:=bD.sT it.kids i ta
  rw [drop_cons ta (eJ.fc .il)] at hc
  obtain ⟨c1,c2⟩:=Mp.iV hc
  have hl:=Mp.oh (it.kids.getD i (eJ.fc .il))
  rw [aK,bD.gr] at e2
  rw [aa (by omega),aq,bK (fO (by omega) (by omega)),aK,bD.gr,bK (by rw [aa (by omega),aa c1,aa (by omega)];rfl),bK (fE (by rw [e2];omega) (by rw [e2];omega)),show v3=((i+1:Nat):Int) by rw [e3,i64_in _ (by omega)];omega,ih _ _ (by omega) (by rw [e2,aw];omega) c2,e2,drop_cons ta (eJ.fc .il),Mp.fF,aU]
theorem cF.goal (n:Nat) (it:bM) (hp:((decide (16 * bD.cA (bD.of it)≤1099511627776)&&decide (Mp.di (bD.of it)=0))&&decide ((bD.cA (bD.of it))<n+1))=true):cF.F n it=some [.sl .bs (Mp.lay (bD.of it))]:=by
 simp only [ae,aB] at hp
 obtain ⟨⟨hb,hc⟩,hn⟩:=hp
 obtain ⟨ho,hcs⟩:=Mp.K6 it hc
 refine cF.dV _ _ ?_
 intro v1 e1
 have hh:=Mp.sF (bD.of it)
 rw [bK (by rw [aa (by omega),aa ho];rfl)]
 rw [bD.na] at hb hn
 rw [bK (fE (by omega) (by omega)),bK (fE (by rw [e1,aw];omega) (by rw [e1,aw];omega)),Mp.Cf,e1]
 exact cF.fN n it (by omega) (by omega) it.kids.length 0 _ (by omega) (by simp only [aw];show _+16 * bD.cE it.kids≤_;omega) hcs
theorem cM.se:∀(n:Nat) (v w:UInt64),v.toNat % 256 ^ n=w.toNat % 256 ^ n→cM.iy v n=cM.iy w n
 | 0,_,_,_=>rfl
 | n+1,v,w,h=>by
  have hd:∀x:Nat,x % 256 ^ (n+1) % 256=x % 256:=fun x=>Nat.mod_mod_of_dvd x ⟨256 ^ n,by rw [Nat.pow_succ,Nat.mul_comm]⟩
  have hq:∀x:Nat,x % 256 ^ (n+1) / 256=x / 256 % 256 ^ n:=fun x=>by rw [Nat.pow_succ,Nat.mul_comm,Nat.mod_mul_right_div_self]
  have h1:v.toUInt8=w.toUInt8:=by
   apply UInt8.toNat_inj.1
   rw [UInt64.toNat_toUInt8,UInt64.toNat_toUInt8]
   have a:=hd v.toNat;have b:=hd w.toNat
   rw [h] at a
   show v.toNat % 256=w.toNat % 256
   omega
  have h2:(v / 256).toNat % 256 ^ n=(w / 256).toNat % 256 ^ n:=by
   rw [UInt64.toNat_div,UInt64.toNat_div,show (256:UInt64).toNat=256 from rfl,←hq,←hq,h]
  rw [cM.iy,cM.iy,h1,cM.se n _ _ h2]
theorem cM.vO (n:Nat) (v w:UInt64) (h:v.toNat % 256 ^ n=w.toNat % 256 ^ n):cM.eb v n=cM.eb w n:=by
 rw [cM.eb,cM.eb,cM.se n v w h]
theorem cM.Fh (l:bS) (y:UInt8):cM.be (l++[y])=cM.be l * 256+y.toUInt64:=by
 rw [cM.be,List.foldl_append];rfl
theorem cM.qo:∀(n:Nat) (l:bS),l.length=n→n≤8→cM.eb (cM.be l) n=l
 | 0,l,h,_=>by
  have:l=[]:=bm h
  subst this;rfl
 | n+1,l,h,hn=>by
  obtain ⟨l',y,rfl⟩:∃l' y,l=l'++[y]:=⟨l.dropLast,l.getLast (by intro q;rw [q] at h;cases h),(List.dropLast_concat_getLast _).symm⟩
  have hl:l'.length=n:=by simpa using h
  have hb:=cM.mI l' n hl (by omega)
  have hp:256 ^ n≤256 ^ 7:=Nat.pow_le_pow_right (by omega) (by omega)
  have hy:=y.toNat_lt
  have hv:(cM.be l' * 256+y.toUInt64).toNat=(cM.be l').toNat * 256+y.toNat:=by
   rw [UInt64.toNat_add,UInt64.toNat_mul,UInt8.toNat_toUInt64,show (256:UInt64).toNat=256 from rfl];omega
  rw [cM.Fh,cM.eb,cM.iy,List.reverse_cons]
  have h1:(cM.be l' * 256+y.toUInt64).toUInt8=y:=by
   apply UInt8.toNat_inj.1
   rw [UInt64.toNat_toUInt8,hv];omega
  have h2:(cM.be l' * 256+y.toUInt64) / 256=cM.be l':=by
   apply aZ.1
   rw [UInt64.toNat_div,hv,show (256:UInt64).toNat=256 from rfl];omega
  rw [h1,h2]
  have:=cM.qo n l' hl (by omega)
  rw [cM.eb] at this
  rw [this]
theorem qP (n:UInt64):UInt64.ofInt (n.toNat:Int)=n:=by
 apply aZ.1
 have:=n.toNat_lt
 rw [jA];omega
theorem Mp.sJ (n:UInt64):Mp.first (Mp.eD n).1=(1,if (Mp.eD n).2=0 then n else 0,(Mp.eD n).2)∧0≤(Mp.eD n).1∧(Mp.eD n).1≤255∧((Mp.eD n).2≠0→n.toNat<256 ^ (Mp.eD n).2.toNat):=by
 unfold Mp.eD
 have gM:=n.toNat_lt
 by_cases a:n<128
 ·have h:=aH.1 a
  simp at h
  rw [ao a]
  refine ⟨?_,by show (0:Int)≤_;omega,by show (n.toNat:Int)≤255;omega,fun h=>(h rfl).elim⟩
  show Mp.first (n.toNat:Int)=(1,n,0)
  rw [Mp.first,ao (by omega),qP]
 rw [ah a]
 by_cases a:n<256
 ·have h:=aH.1 a
  rw [ao a];exact ⟨rfl,by decide,by decide,fun _=>h⟩
 rw [ah a]
 by_cases a:n<65536
 ·have h:=aH.1 a
  rw [ao a];exact ⟨rfl,by decide,by decide,fun _=>h⟩
 rw [ah a]
 by_cases a:n<4294967296
 ·have h:=aH.1 a
  rw [ao a];exact ⟨rfl,by decide,by decide,fun _=>h⟩
 rw [ah a];exact ⟨rfl,by decide,by decide,fun _=>gM⟩
theorem Mp.vg (n:UInt64):Mp.first (Mp.signed n).1=(2,if (Mp.signed n).2=0 then n else 0,(Mp.signed n).2)∧0≤(Mp.signed n).1∧(Mp.signed n).1≤255∧((Mp.signed n).2=1∧n.toNat<128∨(Mp.signed n).2=2∧n.toNat<32768∨(Mp.signed n).2=4∧n.toNat<2147483648∨(Mp.signed n).2=8∨(Mp.signed n).2=0∧n.toNat<32):=by
 unfold Mp.signed
 by_cases a:n<32
 ·have h:=aH.1 a
  simp at h
  rw [ao a]
  refine ⟨?_,by show (0:Int)≤255 - (n.toNat:Int);omega,by show 255 - (n.toNat:Int)≤255;omega,.inr (.inr (.inr (.inr ⟨rfl,h⟩)))⟩
  show Mp.first (255 - (n.toNat:Int))=(2,n,0)
  rw [Mp.first,ah (by omega),ah (by omega),ah (by omega),ah (by omega),ao (by omega),show 255 - (255 - (n.toNat:Int))=(n.toNat:Int) by omega,qP]
 rw [ah a]
 by_cases a:n<128
 ·have h:=aH.1 a
  rw [ao a];exact ⟨rfl,by decide,by decide,.inl ⟨rfl,h⟩⟩
 rw [ah a]
 by_cases a:n<32768
 ·have h:=aH.1 a
  rw [ao a];exact ⟨rfl,by decide,by decide,.inr (.inl ⟨rfl,h⟩)⟩
 rw [ah a]
 by_cases a:n<2147483648
 ·have h:=aH.1 a
  rw [ao a];exact ⟨rfl,by decide,by decide,.inr (.inr (.inl ⟨rfl,h⟩))⟩
 rw [ah a];exact ⟨rfl,by decide,by decide,.inr (.inr (.inr (.inl rfl)))⟩
theorem Mp.wV (k:Int) (hk:k=3∨k=4∨k=5∨k=6∨k=10) (m:Nat) (h:m<4294967296) :
  Mp.first (Mp.sized k m).1=(k,if (Mp.sized k m).2=0 then UInt64.ofNat m else 0,(Mp.sized k m).2)∧0≤(Mp.sized k m).1∧(Mp.sized k m).1≤255∧((Mp.sized k m).2≠0→m<256 ^ (Mp.sized k m).2.toNat):=by
 have OW:∀(f1 f2 f4:Int),Mp.first f1=(k,0,1)→Mp.first f2=(k,0,2)→Mp.first f4=(k,0,4)→(0≤f1∧f1≤255)→(0≤f2∧f2≤255)→(0≤f4∧f4≤255)→∀S:Int × Int,S=(if (m:Int)<256 then (f1,1) else if (m:Int)<65536 then (f2,2) else (f4,4)) →
   Mp.first S.1=(k,if S.2=0 then UInt64.ofNat m else 0,S.2)∧0≤S.1∧S.1≤255∧(S.2≠0→m<256 ^ S.2.toNat):=by
  intro f1 f2 f4 h1 h2 h4 b1 b2 b4 S hS
  by_cases a:(m:Int)<256
  ·rw [ao a] at hS;subst hS;exact ⟨h1,b1.1,b1.2,fun _=>by show m<256;omega⟩
  rw [ah a] at hS
  by_cases a:(m:Int)<65536
  ·rw [ao a] at hS;subst hS;exact ⟨h2,b2.1,b2.2,fun _=>by show m<65536;omega⟩
  rw [ah a] at hS;subst hS;exact ⟨h4,b4.1,b4.2,fun _=>h⟩
 have K9:∀(f2 f4:Int),Mp.first f2=(k,0,2)→Mp.first f4=(k,0,4)→(0≤f2∧f2≤255)→(0≤f4∧f4≤255)→∀S:Int × Int,S=(if (m:Int)<65536 then (f2,2) else (f4,4)) →
   Mp.first S.1=(k,if S.2=0 then UInt64.ofNat m else 0,S.2)∧0≤S.1∧S.1≤255∧(S.2≠0→m<256 ^ S.2.toNat):=by
  intro f2 f4 h2 h4 b2 b4 S hS
  by_cases a:(m:Int)<65536
  ·rw [ao a] at hS;subst hS;exact ⟨h2,b2.1,b2.2,fun _=>by show m<65536;omega⟩
  rw [ah a] at hS;subst hS;exact ⟨h4,b4.1,b4.2,fun _=>h⟩
 rcases hk with rfl | rfl | rfl | rfl | rfl
 ·exact OW 196 197 198 rfl rfl rfl (by omega) (by omega) (by omega) _ (Mp.qJ _ (by omega))
 ·by_cases a:(m:Int)<32
  ·rw [Mp.oY,ao a]
   refine ⟨?_,by show 0≤160+(m:Int);omega,by show 160+(m:Int)≤255;omega,fun h=>(h rfl).elim⟩
   show Mp.first (160+(m:Int))=(4,UInt64.ofNat m,0)
   rw [Mp.first,ah (by omega),ah (by omega),ah (by omega),ao (by omega),show 160+(m:Int) - 160=m by omega,iD]
  ·exact OW 217 218 219 rfl rfl rfl (by omega) (by omega) (by omega) _ (by rw [Mp.oY,ah a])
 ·by_cases a:(m:Int)<16
  ·rw [Mp.oZ,ao a]
   refine ⟨?_,by show 0≤144+(m:Int);omega,by show 144+(m:Int)≤255;omega,fun h=>(h rfl).elim⟩
   show Mp.first (144+(m:Int))=(5,UInt64.ofNat m,0)
   rw [Mp.first,ah (by omega),ah (by omega),ao (by omega),show 144+(m:Int) - 144=m by omega,iD]
  ·exact K9 220 221 rfl rfl (by omega) (by omega) _ (by rw [Mp.oZ,ah a])
 ·by_cases a:(m:Int)<16
  ·rw [Mp.sized_map,ao a]
   refine ⟨?_,by show 0≤128+(m:Int);omega,by show 128+(m:Int)≤255;omega,fun h=>(h rfl).elim⟩
   show Mp.first (128+(m:Int))=(6,UInt64.ofNat m,0)
   rw [Mp.first,ah (by omega),ao (by omega),show 128+(m:Int) - 128=m by omega,iD]
  ·exact K9 222 223 rfl rfl (by omega) (by omega) _ (by rw [Mp.sized_map,ah a])
 ·by_cases a:m=1∨m=2∨m=4∨m=8∨m=16
  ·rcases a with rfl | rfl | rfl | rfl | rfl <;> exact ⟨rfl,by decide,by decide,fun h=>(h rfl).elim⟩
  ·exact OW 199 200 201 rfl rfl rfl (by omega) (by omega) (by omega) _ (Mp.tx _ (by omega) (by omega) (by omega) (by omega) (by omega) (by omega))
theorem Mp.uE (f:Int × Int) (x:UInt64) (c:UInt8) (L:bS) (h0:0≤f.1∧f.1≤255) (h:f.1=(c.toNat:Int)→cM.high x f.2=L):(Mp.put f x=c :: L) ↔ f.1=(c.toNat:Int):=by
 have hc:UInt8.ofInt f.1=c ↔ f.1=(c.toNat:Int):=by
  obtain ⟨m,hm⟩:∃m:Nat,f.1=m:=⟨f.1.toNat,by omega⟩
  rw [hm]
  constructor
  ·intro q
   have:=congrArg UInt8.toNat q
   rw [nA] at this;omega
  ·intro q
   apply UInt8.toNat_inj.1
   rw [nA];have:=c.toNat_lt;omega
 rw [Mp.put]
 constructor
 ·intro q;injection q with q1 q2;exact hc.1 q1
 ·intro q;rw [hc.2 q,h q]
theorem cM.rI (x:UInt64) (long:Int) (L:bS) (hl:long=0∨long=1∨long=2∨long=4∨long=8) (hL:L.length=long.toNat) (hx:long≠0→x.toNat % 256 ^ long.toNat=(cM.be L).toNat):cM.high x long=L:=by
 by_cases a:long=0
 ·subst a
  have:L=[]:=bm hL
  subst this;rfl
 ·have hb:=cM.mI L long.toNat hL (by omega)
  rw [cM.high,ao (by omega),cM.vO long.toNat x (cM.be L) (by rw [hx a,Nat.mod_eq_of_lt hb]),cM.qo _ _ hL (by omega)]
section
variable {c:UInt8} {L:bS} {u:UInt64} {k:Int} {n0:UInt64} {long:Int}
structure Mp.n5 (c:UInt8) (L:bS) (u:UInt64) (k:Int) (n0:UInt64) (long:Int):Prop where
 f:Mp.first (c.toNat:Int)=(k,n0,long)
 k0:k≠0
 l:L.length=long.toNat
 u:u=if long=0 then n0 else cM.be L
theorem Mp.n5.pK (h:Mp.n5 c L u k n0 long):long=0∨long=1∨long=2∨long=4∨long=8:=by
 have:=(Mp.jN (c.toNat:Int) ⟨by omega,by have:=c.toNat_lt;omega⟩).2.1
 rw [h.f] at this;exact this
theorem Mp.n5.uL (h:Mp.n5 c L u k n0 long):long≠0→u.toNat % 256 ^ long.toNat=(cM.be L).toNat:=by
 intro a
 have hl:=h.pK
 have hb:=cM.mI L long.toNat h.l (by omega)
 rw [h.u,ah a,Nat.mod_eq_of_lt hb]
theorem Mp.IG (h:Mp.n5 c L u 1 n0 long) (ty:UInt64):Mp.want 1 u ty=c :: L ↔ (Mp.eD u).1=(c.toNat:Int):=by
 obtain ⟨f,b0,b1,_⟩:=Mp.sJ u
 refine Mp.uE (Mp.eD u) u c L ⟨b0,b1⟩ fun q=>?_
 rw [q,h.f] at f
 injection f with _ f;injection f with _ f
 rw [←f]
 exact cM.rI u long L h.pK h.l h.uL
theorem Mp.Fp (h:Mp.n5 c L u 2 n0 long) (m:UInt64) (hm:if long=0 then m=u else Mp.below u long=some m) (ty:UInt64):Mp.want 2 m ty=c :: L ↔ (Mp.signed m).1=(c.toNat:Int):=by
 obtain ⟨f,b0,b1,_⟩:=Mp.vg m
 refine Mp.uE (Mp.signed m) (~~~ m) c L ⟨b0,b1⟩ fun q=>?_
 rw [q,h.f] at f
 injection f with _ f;injection f with _ f
 rw [←f]
 refine cM.rI (~~~ m) long L h.pK h.l fun a=>?_
 rw [ah a] at hm
 have hl:=h.pK
 have hu:=h.uL a
 have hb:=cM.mI L long.toNat h.l (by omega)
 have QF:u.toNat=(cM.be L).toNat:=by rw [h.u,ah a]
 rw [←QF] at hb ⊢
 have gM:=u.toNat_lt
 have key:∀(top:UInt64) (N:Nat),N=long.toNat→2 * top.toNat=256 ^ N→N≤8→0<N→(if u<top then none else some (top - 1 - (u - top)):Option UInt64)=some m→(~~~ m).toNat % 256 ^ long.toNat=u.toNat:=by
  intro top N hN ht h8 Rs he
  subst hN
  split at he
  ·cases he
  rename_i a'
  have a2:top.toNat≤u.toNat:=Nat.le_of_not_lt fun h=>a' (aH.2 h)
  injection he with he
  have Aa:256 ^ 1≤256 ^ long.toNat:=Nat.pow_le_pow_right (by omega) Rs
  have S3:256 ^ long.toNat≤256 ^ 8:=Nat.pow_le_pow_right (by omega) h8
  have e1:(1:UInt64).toNat=1:=rfl
  have h1:(top - 1).toNat=top.toNat - 1:=by rw [UInt64.toNat_sub_of_le _ _ (by rw [aJ,e1];omega),e1]
  have h2:(u - top).toNat=u.toNat - top.toNat:=UInt64.toNat_sub_of_le _ _ (aJ.2 a2)
  have lE:m.toNat=256 ^ long.toNat - 1 - u.toNat:=by
   rw [←he,UInt64.toNat_sub_of_le _ _ (by rw [aJ,h1,h2];omega),h1,h2];omega
  obtain ⟨d,hd⟩:∃d,18446744073709551616=256 ^ long.toNat * d:=⟨256 ^ (8 - long.toNat),by rw [←Nat.pow_add,show long.toNat+(8 - long.toNat)=8 by omega]⟩
  have hd1:1≤d:=by
   rcases Nat.eq_zero_or_pos d with q | q
   ·subst q;simp at hd
   ·exact q
  obtain ⟨d',rfl⟩:∃d',d=d'+1:=⟨d - 1,by omega⟩
  rw [pJ,lE,show 18446744073709551615 - (256 ^ long.toNat - 1 - u.toNat)=u.toNat+256 ^ long.toNat * d' by rw [Nat.mul_add,Nat.mul_one] at hd;omega,Nat.add_mul_mod_self_left,Nat.mod_eq_of_lt hb]
 unfold Mp.below at hm
 rcases (by omega:long=1∨long=2∨long=4∨long=8) with q | q | q | q
 ·exact key 128 1 (by rw [q];rfl) rfl (by omega) (by omega) (by simpa [q] using hm)
 ·exact key 32768 2 (by rw [q];rfl) rfl (by omega) (by omega) (by simpa [q] using hm)
 ·exact key 2147483648 4 (by rw [q];rfl) rfl (by omega) (by omega) (by simpa [q] using hm)
 ·exact key 9223372036854775808 8 (by rw [q];rfl) rfl (by omega) (by omega) (by simpa [q] using hm)
set_option maxRecDepth 100000 in
theorem Mp.ze:∀m:Fin 256,((Mp.first (m.val:Int)).1=8→(Mp.first (m.val:Int)).2.2=0∧(20≤(Mp.first (m.val:Int)).2.1∧(Mp.first (m.val:Int)).2.1≤22)∧Mp.head (.mk 8 (Mp.first (m.val:Int)).2.1 [] [] [])=[UInt8.ofNat m.val])∧((Mp.first (m.val:Int)).1=9→m.val=203∧(Mp.first (m.val:Int)).2.2=8):=by decide +kernel
theorem Mp.IF (h:Mp.n5 c L u 8 n0 long) (ty:UInt64):Mp.want 8 u ty=c :: L∧20≤u∧u≤22:=by
 have q:=(Mp.ze ⟨c.toNat,c.toNat_lt⟩).1
 simp only [h.f] at q
 obtain ⟨q1,q2,q3⟩:=q trivial
 have hL:=h.l
 have hu:=h.u
 rw [q1] at hL hu
 rw [ao rfl] at hu
 have:L=[]:=bm hL
 subst this hu
 refine ⟨?_,q2⟩
 rw [show Mp.want 8 u ty=Mp.head (.mk 8 u [] [] []) from rfl,q3,UInt8.ofNat_toNat]
theorem Mp.IE (h:Mp.n5 c L u 9 n0 long) (ty:UInt64):Mp.want 9 u ty=c :: L:=by
 have q:=(Mp.ze ⟨c.toNat,c.toNat_lt⟩).2
 simp only [h.f] at q
 obtain ⟨q1,q2⟩:=q trivial
 have e:=cM.rI u long L h.pK h.l h.uL
 rw [q2] at e
 rw [show Mp.want 9 u ty=UInt8.ofInt 203 :: cM.high u 8 from rfl,e]
 congr 1
 apply UInt8.toNat_inj.1
 rw [q1];rfl
end
section
variable {n:Nat} {b:bS} {p w d k q:Int} {u t:UInt64}
def Mp.body (b:bS) (f:Int→Mp.jd) (p k:Int) (u t:UInt64) (q:Int):Mp.jd :=
 if k=4∨k=3∨k=10 then Mp.row b (.mk k t [] [] []) p q u.toNat
 else if k=6 then Mp.kids f (.mk k 0 [] [] []) (2 * u.toNat) q
 else if k=5 then Mp.kids f (.mk k 0 [] [] []) u.toNat q
 else ⟨.mk k u [] [] [],0,0,q⟩
end
section
variable {c:UInt8} {L:bS} {u:UInt64} {k:Int} {n0:UInt64} {long:Int}
theorem Mp.n5.kinds (h:Mp.n5 c L u k n0 long):(k=1∨k=2∨k=3∨k=4∨k=5∨k=6∨k=8∨k=9∨k=10)∧(long=8→k=1∨k=2∨k=9)∧(long=0→u.toNat≤127)∧(k=2→long=0→u.toNat≤31):=by
 have hc:0≤(c.toNat:Int)∧(c.toNat:Int)≤255:=⟨by omega,by have:=c.toNat_lt;omega⟩
 obtain ⟨F1,_,F3,F4,F5⟩:=Mp.jN _ hc
 rw [h.f] at F1 F3 F4 F5
 simp only at F1 F3 F4 F5
 have lY:=h.k0
 refine ⟨by omega,F3,fun a=>?_,fun a b=>?_⟩
 ·rw [h.u,ao a];exact F4 a
 ·rw [h.u,ao b];exact F5 a b
theorem Mp.n5.u8 (h:Mp.n5 c L u k n0 long):long≠0→u.toNat<256 ^ long.toNat:=by
 intro a
 have hl:=h.pK
 rw [h.u,ah a]
 exact cM.mI L long.toNat h.l (by omega)
theorem Mp.n5.u32 (h:Mp.n5 c L u k n0 long) (hk:k=4∨k=3∨k=10∨k=5∨k=6):u.toNat<4294967296:=by
 obtain ⟨_,F3,F4,_⟩:=h.kinds
 by_cases a3:long=0
 ·have:=F4 a3;omega
 ·have EA:=h.u8 a3
  have HW:long=1∨long=2∨long=4:=by
   rcases h.pK with h | h | h | h | h
   ·exact (a3 h).elim
   ·exact .inl h
   ·exact .inr (.inl h)
   ·exact .inr (.inr h)
   ·have:=F3 h;omega
  clear F3 F4 hk a3
  rcases HW with h | h | h
  ·rw [h] at EA;exact Nat.lt_trans EA (by decide)
  ·rw [h] at EA;exact Nat.lt_trans EA (by decide)
  ·rw [h] at EA;exact EA
end
section
variable {n:Nat} {b:bS} {p w d k:Int} {u n0:UInt64} {long:Int}
end
theorem rp (b:bS) (p long:Nat) (h:p+1+long≤b.length):(b.drop p).take (1+long)=b.getD p 0 :: (b.drop (p+1)).take long:=by
 rw [drop_cons (show p<b.length by omega) 0,Nat.add_comm 1 long,List.take_succ_cons]
theorem ve (b:bS) (i j:Nat):(b.drop i).getD j 0=b.getD (i+j) 0:=by
 rw [aG,List.getElem?_drop,aG]
theorem zy (l:bS) (m:Nat) (h:m<l.length):l.take (m+1)=l.take m++[l.getD m 0]:=by
 rw [List.take_succ_eq_append_getElem h,aG,aE h];rfl
mutual
theorem bD.tA:∀(a:bD),bD.same a a=true
 | .mk k n b t ks=>by rw [bD.same];simp [bD.r6 ks]
theorem bD.r6:∀(l:List bD),bD.nf l l=true
 | []=>by rw [bD.nf]
 | k :: r=>by rw [bD.nf,bD.tA k,bD.r6 r];rfl
end
theorem bD.tz:∀(a b:List bD),a.length≠b.length→bD.nf a b=false
 | [],[],h=>(h rfl).elim
 | [],_ :: _,_=>by rw [bD.nf]
 | _ :: _,[],_=>by rw [bD.nf]
 | k :: r,k' :: r',h=>by rw [bD.nf,bD.tz r r' (fun e=>h (by simp [e])),Bool.and_false]
theorem cq.fN (n:Nat) (a b:bM) (hb:bD.cE a.kids≤1099511627776) (hn:bD.cE a.kids<n) (hl:a.kids.length=b.kids.length):∀(m i:Nat),i+m=a.kids.length→cq.l1 n i a b=some [.b (bD.nf (a.kids.drop i) (b.kids.drop i))]:=by
 have hk:=bD.jO a.kids
 intro m
 induction m with
 | zero =>
  intro i hi
  refine cq.ew _ _ _ _ ?_
  intro v1 e1 v2 e2 v3 e3
  rw [af (by omega),aj,aI (by omega),aI (by omega),bD.nf]
 | succ m ih =>
  intro i hi
  refine cq.ew _ _ _ _ ?_
  intro v1 e1 v2 e2 v3 e3
  have ta:i<a.kids.length:=by omega
  have Rb:i<b.kids.length:=by omega
  have wM:=bD.nW a.kids i ta
  rw [aK,bD.gr,bD.gr] at e2
  rw [aa (by omega),aq,bK (fO (by omega) (by omega)),bK (fO (by omega) (by omega)),aK,bD.gr,bK (by rw [aa (by omega),aa (by omega)];rfl),drop_cons ta (eJ.fc .il),drop_cons Rb (eJ.fc .il),bD.nf,←e2]
  cases v2 with
  | false=>rfl
  | true=>rw [aV,aj,Bool.true_and,show v3=((i+1:Nat):Int) by rw [e3,i64_in _ (by omega)];omega,ih _ (by omega)]
theorem cq.goal (n:Nat) (a b:bM) (hp:((decide (bD.cA (bD.of a)≤1099511627776))&&decide ((bD.cA (bD.of a))<n+1))=true):cq.F n a b=some [.b (bD.same (bD.of a) (bD.of b))]:=by
 simp only [ae,aB] at hp
 obtain ⟨h,hn⟩:=hp
 rw [bD.na] at h hn
 refine cq.dV _ _ _ ?_
 intro v1 e1 v2 e2 v3 e3 v4 e4 v5 e5 v6 e6 v7 e7
 have c1:((!decide (a.kind=b.kind)) || v1)=true:=by rw [e1];cases decide (a.kind=b.kind) <;> rfl
 simp only [aP,bB,aM,cV,c1]
 rw [e7,e4,e3,e2,e5,e6]
 simp only [bD.of,bD.same]
 by_cases a1:a.kind=b.kind
 ·by_cases a2:a.n=b.n
  ·by_cases a3:a.text=b.text
   ·by_cases a4:a.bytes=b.bytes
    ·by_cases a5:a.kids.length=b.kids.length
     ·have hl:=cq.fN n a b (by omega) (by omega) a5 a.kids.length 0 (by omega)
      rw [aa a1,aa a2,aa a3,aa a4,aa (show (a.kids.length:Int)=b.kids.length by omega)]
      simpa using hl
     ·rw [af (show ¬(a.kids.length:Int)=b.kids.length by omega),bD.tz _ _ a5]
      simp [a1,a2,a3,a4]
    ·simp [a4]
   ·simp [a3]
  ·simp [a2]
 ·simp [a1]
end Go.Eng
namespace Go.Eng
open Go.IntWalk
theorem Mp.D5 (f:Int × Int) (n:UInt64):1≤(Mp.put f n).length:=by simp [Mp.put]
theorem Mp.wI (it:bD):1≤(Mp.head it).length:=by
 obtain ⟨k,n,b,t,ks⟩:=it
 unfold Mp.head
 repeat' split
 all_goals first | exact Mp.D5 _ _ | simp
mutual
theorem Mp.xp:∀(it:bD),bD.cA it≤(Mp.lay it).length
 | .mk k n b t ks=>by
  have h1:=Mp.wI (.mk k n b t ks)
  have h2:=Mp.sS ks
  simp only [Mp.lay,bD.cA,aw];omega
theorem Mp.sS:∀(ks:List bD),bD.cE ks≤(Mp.fF ks).length
 | []=>Nat.zero_le _
 | k :: r=>by
  have h1:=Mp.xp k
  have h2:=Mp.sS r
  simp only [Mp.fF,bD.cE,aw];omega
end
theorem Mp.jh (it:bD):(Mp.lay it).length≤10+it.bytes.length+it.text.length+(Mp.fF it.kids).length∧1+it.bytes.length+it.text.length+(Mp.fF it.kids).length≤(Mp.lay it).length:=by
 obtain ⟨k,n,b,t,ks⟩:=it
 have h1:=Mp.sF (.mk k n b t ks)
 have h2:=Mp.wI (.mk k n b t ks)
 simp only [Mp.lay,bD.bytes,bD.text,bD.kids,aw];omega
namespace Tree
theorem kx {f:bG} {r:List bG}:gg (f :: r)=true ↔ jF f=true∧gg r=true:=by rw [gg,ae]
mutual
theorem nR:∀(f:bG) (p:List Int),(ga f p).2=0 ↔ jF f=true
 | .mk n k b h l t m s y ks,p=>by
  rw [ga,jF,ae,aB]
  by_cases a:qq ⟨k,b,h,l,t,m,s,y,ks⟩ n=0
  ·rw [ah (by simpa using a),ua ks 0 p]
   exact ⟨fun h=>⟨a,h⟩,fun h=>h.2⟩
  ·rw [ao a]
   exact ⟨fun h=>absurd h a,fun h=>absurd h.1 a⟩
theorem ua:∀(l:List bG) (i:Nat) (p:List Int),(rq l i p).2=0 ↔ gg l=true
 | [],i,p=>by rw [rq,gg];exact ⟨fun _=>rfl,fun _=>rfl⟩
 | f :: r,i,p=>by
  rw [rq,kx]
  by_cases a:(ga f (p++[(i:Int)])).2=0
  ·rw [ah (by simpa using a),ua r (i+1) p]
   exact ⟨fun h=>⟨(nR f _).1 a,h⟩,fun h=>h.2⟩
  ·rw [ao a]
   exact ⟨fun h=>absurd h a,fun h=>absurd ((nR f _).2 h.1) a⟩
end
theorem vQ {v:bE} {n:bS} (h:qq v n=0):own v=0∧dK.whole n=true∧dK.zero n=false:=by
 unfold qq at h
 by_cases a:own v=0
 ·rw [ah (by simpa using a)] at h
  refine ⟨a,?_⟩
  by_cases b:eP n true=false
  ·rw [ao b] at h;cases h
  ·simp only [Bool.not_eq_false] at b
   unfold eP at b
   simpa using b
 ·rw [ao a] at h;exact absurd h a
theorem BD {v:bE} {n:bS} (h:own v=0) (hn:dK.whole n=true∧dK.zero n=false):qq v n=0:=by
 unfold qq
 rw [ah (by simpa using h),ah (by unfold eP;rw [hn.1,hn.2];decide)]
theorem iY (n:bS) (v:bE):jF (bG.of n v)=true ↔ own v=0∧(dK.whole n=true∧dK.zero n=false)∧gg v.kids=true:=by
 obtain ⟨k,b,h,l,t,m,s,y,ks⟩:=v
 rw [bG.of,jF,ae,aB]
 exact ⟨fun h=>⟨(vQ h.1).1,(vQ h.1).2,h.2⟩,fun h=>⟨BD h.1 h.2.1,h.2.2⟩⟩
theorem C0 {n:bS} {v:bE} (h:jF (bG.of n v)=true):jF (bG.of [] v)=true:=by
 have:=(iY n v).1 h
 exact (iY [] v).2 ⟨this.1,⟨by decide,by decide⟩,this.2.2⟩
theorem pU (f:bG) (h:jF f=true):jF (bG.of [] f.val)=true:=by
 cases f with
 | mk n k b hh l t m s y ks=>exact C0 (n:=n) h
end Tree
namespace Dk
theorem yU (n:bS) (v:bE):item (bG.of n v)=gz v (mapped v.kids) (items v.kids):=by cases v;rfl
theorem tT (v:bE) (m:bS):(inner v m).length≤16+v.text.length+v.more.length+v.bytes.length+m.length:=by
 unfold inner
 repeat' split
 all_goals first | omega | (simp only [aw,aF,aA,cM.fM,Db.words];omega) | exact Nat.zero_le _
theorem wj (x:Int):(Mp.lay (Db.integer x)).length≤10:=by
 unfold Db.integer
 split
 ·exact (Mp.jh _).1
 ·exact (Mp.jh _).1
theorem rE (m:List bD):(Mp.lay (Db.map m)).length≤10+(Mp.fF m).length:=by
 have:=(Mp.jh (Db.map m)).1
 simpa [Db.map,bD.bytes,bD.text,bD.kids] using this
theorem xP (v:bE) (m l:List bD):(Mp.lay (gz v m l)).length≤40+v.text.length+v.more.length+v.bytes.length+max (Mp.fF m).length (Mp.fF l).length:=by
 have h1:=rE m
 have h2:=tT v (Mp.lay (Db.map m))
 have h3:=wj (Db.i32 v.bits)
 unfold gz
 repeat' split
 all_goals first | omega | skip
 all_goals refine Nat.le_trans (Mp.jh _).1 ?_
 all_goals simp only [Db.text,Db.list,Db.raw,Db.simple,ext,bD.bytes,bD.text,bD.kids,aA,Mp.fF]
 all_goals omega
mutual
theorem wg:∀f:bG,(Mp.lay (item f)).length+20+f.name.length≤64 * bG.cA f
 | .mk n k b h lo t m s y ks=>by
  have h1:=lp ks
  have h2:=tR ks
  have h3:=xP ⟨k,b,h,lo,t,m,s,y,ks⟩ (mapped ks) (items ks)
  simp only [item,bG.cA,bG.name] at h3 ⊢
  omega
theorem lp:∀l:List bG,(Mp.fF (mapped l)).length≤64 * bG.cE l
 | []=>Nat.zero_le _
 | f :: r=>by
  have h1:=wg f
  have h2:=lp r
  have h3:=(Mp.jh (Db.text f.name)).1
  simp only [Db.text,bD.bytes,bD.text,bD.kids,Mp.fF,aA] at h3
  simp only [mapped,Mp.fF,bG.cE,aw,Db.text];omega
theorem tR:∀l:List bG,(Mp.fF (items l)).length≤64 * bG.cE l
 | []=>Nat.zero_le _
 | f :: r=>by
  have h1:=wg f
  have h2:=tR r
  simp only [items,Mp.fF,bG.cE,aw];omega
end
theorem sv (l:List bG):bD.cA (Db.map (mapped l))≤64 * bG.cE l+10:=by
 have h1:=lp l
 have h2:=Mp.xp (Db.map (mapped l))
 have h3:=rE (mapped l)
 omega
theorem ln:∀l:List bG,(mapped l).length=2 * l.length
 | []=>rfl
 | f :: r=>by rw [mapped,aF,aF,ln r,aF];omega
theorem og:∀l:List bG,l.length≤bG.cE l
 | []=>Nat.zero_le _
 | f :: r=>by
  have:=og r
  cases f
  simp only [aF,bG.cE,bG.cA];omega
theorem tQ:∀l:List bG,(items l).length=l.length
 | []=>rfl
 | f :: r=>by rw [items,aF,aF,tQ r]
end Dk
end Go.Eng
namespace Go.Eng
open Go.IntWalk
theorem zP (v:Int) (h:v<0) (h2 : -9223372036854775808≤v) : ~~~(UInt64.ofInt v)=UInt64.ofInt (-(v+1)):=by
 apply aZ.1
 have h1:=kp (-(v+1))
 have h3:=kp v
 rw [iC] at h1 h3
 rw [pJ]
 omega
theorem rH (x:Int) : -2147483648≤IntKind.i32.wrap x∧IntKind.i32.wrap x≤2147483647:=by
 simp only [IntKind.wrap,IntKind.bits,IntKind.signed]
 simp
 omega
theorem yX (x:Int):IntKind.i64.wrap (IntKind.i32.wrap x)=IntKind.i32.wrap x:=by
 have:=rH x
 exact i64_in _ (by omega)
theorem Eo (n:UInt64):IntKind.i32.wrap ((UInt32.ofInt (n.toNat:Int)).toNat:Int)=IntKind.i32.wrap (n.toNat:Int):=by
 have h:=qi (n.toNat:Int)
 rw [wrap_u32'] at h
 rw [h]
 simp only [IntKind.wrap,IntKind.bits,IntKind.signed]
 simp
theorem cR.goal (v:Int) (hp:decide (-9223372036854775808≤v∧v≤9223372036854775807)=true):cR.F v=some [.ag (bM.cells (bD.val (Db.integer v)))]:=by
 have h:=aD hp
 refine cR.dV _ ?_
 intro v1 h1 v2 h2
 rw [Db.integer]
 by_cases a:v<0
 ·have e1:v1=v+1:=by rw [h1,i64_in _ (by omega)]
  rw [aa a,aq,ao a,h2,e1,i64_in _ (by omega),Int.zero_sub];rfl
 ·rw [af a,aj,ah a];rfl
theorem Db.xN (it:bD) (h:(Db.number it).isSome=true):Db.iB it=(Db.number it).getD 0:=by
 unfold Db.number Db.iB at *
 by_cases a:9223372036854775808≤it.n
 ·rw [ao a] at h;cases h
 rw [ah a] at h ⊢
 rw [ah a]
 by_cases b:it.kind=1
 ·rw [ao b,ah (by omega)];rfl
 rw [ah b] at h ⊢
 by_cases c:it.kind=2
 ·rw [ao c,ao c];rfl
 rw [ah c] at h;cases h
end Go.Eng
namespace Go.Eng
open Go.IntWalk
theorem jI:dK.whole []=true:=by decide
namespace Dk
theorem sQ {s:bS} (h:dK.whole s=true) (hl:s.length<4294967296):Mp.di (Db.text s)=0:=by
 rw [Db.text,Mp.di,ao (show Mp.own (.mk 4 0 [] s [])=0 by simp [Mp.own,h];omega)];rfl
theorem E7 {b:bS} (hl:b.length<4294967296):Mp.di (Db.raw b)=0:=by
 rw [Db.raw,Mp.di,ao (show Mp.own (.mk 3 0 b [] [])=0 by simp [Mp.own,jI];omega)];rfl
theorem AA (n:UInt64):Mp.di (.mk 9 n [] [] [])=0:=by
 rw [Mp.di,ao (show Mp.own (.mk 9 n [] [] [])=0 by simp [Mp.own,jI])];rfl
theorem De (n:UInt64):Mp.di (.mk 1 n [] [] [])=0:=by
 rw [Mp.di,ao (show Mp.own (.mk 1 n [] [] [])=0 by simp [Mp.own,jI])];rfl
theorem E9 {n:UInt64} (h:¬9223372036854775808≤n):Mp.di (.mk 2 n [] [] [])=0:=by
 rw [Mp.di,ao (show Mp.own (.mk 2 n [] [] [])=0 by simp [Mp.own,jI];simpa using h)];rfl
theorem sR {n:UInt64} (h:¬(n<20∨22<n)):Mp.di (Db.simple n)=0:=by
 simp only [not_or] at h
 rw [Db.simple,Mp.di,ao (show Mp.own (.mk 8 n [] [] [])=0 by simp [Mp.own,jI,h.1,h.2])];rfl
theorem zk {n:UInt64} {b:bS} (h:¬127<n) (hl:b.length<4294967296):Mp.di (.mk 10 n b [] [])=0:=by
 rw [Mp.di,ao (show Mp.own (.mk 10 n b [] [])=0 by simp [Mp.own,jI,h];omega)];rfl
theorem Dh {l:List bD} (h:Mp.gw l=0) (hl:l.length<4294967296):Mp.di (Db.list l)=0:=by
 rw [Db.list,Mp.di,ao (show Mp.own (.mk 5 0 [] [] l)=0 by simp [Mp.own,jI];omega)];exact h
theorem vl {l:List bD} (h:Mp.gw l=0) (he:l.length % 2=0) (hl:l.length<4294967296):Mp.di (Db.map l)=0:=by
 rw [Db.map,Mp.di,ao (show Mp.own (.mk 6 0 [] [] l)=0 by simp [Mp.own,jI,he];omega)];exact h
theorem xm {x:Int} (h : -2147483648≤x):Mp.di (Db.integer x)=0:=by
 unfold Db.integer
 split
 ·refine E9 fun a=>?_
  obtain ⟨m,hm⟩:∃m:Nat,-(x+1)=m:=⟨(-(x+1)).toNat,by omega⟩
  have:=aJ.1 a
  rw [hm,jA] at this
  have e:(9223372036854775808:UInt64).toNat=9223372036854775808:=rfl
  omega
 ·exact De _
theorem Ed {v:bE} (h:Tree.own v=0):v.kind∈Tree.kinds∧Tree.dR v=true∧dK.whole v.text=true:=by
 unfold Tree.own at h
 by_cases a:Tree.name v.kind=[]
 ·rw [ao a] at h;cases h
 rw [ah a] at h
 by_cases b:Tree.dR v=false
 ·rw [ao b] at h;cases h
 rw [ah b] at h
 by_cases c:Tree.eP v.text (decide (v.kind=11))=false∨Tree.eP v.more (decide (v.kind=11))=false
 ·rw [ao c] at h;cases h
 refine ⟨Classical.byContradiction fun h=>a (Tree.tH _ h),by simpa using b,?_⟩
 have c:=(not_or.1 c).1
 simp only [Bool.not_eq_false] at c
 unfold Tree.eP at c
 rw [ae] at c
 exact c.1
theorem DO {k:Int} (h:k∈Tree.kinds):¬127<sort k:=by
 simp only [Tree.kinds,bq,List.not_mem_nil,or_false] at h
 rcases h with rfl | rfl | rfl | rfl | rfl | rfl | rfl | rfl | rfl | rfl | rfl | rfl | rfl | rfl | rfl | rfl | rfl | rfl | rfl | rfl | rfl <;> decide
theorem Fb {v:bE} (h:Tree.dR v=true) (hk:v.kind=8):¬(20+v.bits<20∨22<20+v.bits):=by
 obtain ⟨k,b,hh,l,t,m,s,y,ks⟩:=v
 have hk:k=8:=hk
 subst hk
 simp [Tree.dR,Tree.gN] at h
 have hb:b.toNat<2:=aH.1 h.1.2
 show ¬(20+b<20∨22<20+b)
 rcases (by omega:b.toNat=0∨b.toNat=1) with e | e
 ·rw [show b=0 from aZ.1 e];decide
 ·rw [show b=1 from aZ.1 e];decide
theorem xQ {v:bE} {m l:List bD} (ho:Tree.own v=0) (hm:Mp.gw m=0) (he:m.length % 2=0) (hl:Mp.gw l=0) (h1:v.text.length≤2000000) (h2:v.more.length≤2000000) (h3:v.bytes.length≤2000000) (h4:m.length≤3000000) (h5:l.length≤3000000) (h6:(Mp.fF m).length≤200000000):Mp.di (gz v m l)=0:=by
 obtain ⟨hk,hf,hw⟩:=Ed ho
 have h7:=tT v (Mp.lay (Db.map m))
 have h8:=rE m
 unfold gz
 by_cases a1:v.kind=1
 ·rw [ao a1];exact AA _
 rw [ah a1]
 by_cases a2:v.kind=2
 ·rw [ao a2];exact sQ hw (by omega)
 rw [ah a2]
 by_cases a3:v.kind=3
 ·rw [ao a3];exact vl hm he (by omega)
 rw [ah a3]
 by_cases a4:v.kind=4∧Tree.regular v.kids=true
 ·rw [ao a4];exact Dh hl (by omega)
 rw [ah a4]
 by_cases a5:v.kind=5∧v.sub=0
 ·rw [ao a5];exact E7 (by omega)
 rw [ah a5]
 by_cases a6:v.kind=10
 ·rw [ao a6];exact sR (by decide)
 rw [ah a6]
 by_cases a7:v.kind=8
 ·rw [ao a7];exact sR (Fb hf a7)
 rw [ah a7]
 by_cases a8:v.kind=16
 ·rw [ao a8];exact xm (by unfold Db.i32;exact (rH _).1)
 rw [ah a8]
 exact zk (DO hk) (by omega)
theorem wR (n:bS) (k:Int) (b h l:UInt64) (t m:bS) (s:Int) (y:List UInt8) (ks:List bG) (hb:bG.cA (.mk n k b h l t m s y ks)≤1048576):n.length≤1048576∧t.length≤1048576∧m.length≤1048576∧y.length≤1048576∧bG.cE ks≤1048576:=by
 simp only [bG.cA] at hb;omega
mutual
theorem wi:∀f:bG,Tree.jF f=true→bG.cA f≤1048576→Mp.di (item f)=0
 | .mk n k b h lo t m s y ks,hf,hb=>by
  obtain ⟨b1,b2,b3,b4,b5⟩:=wR _ _ _ _ _ _ _ _ _ _ hb
  have wG:=(Tree.iY n ⟨k,b,h,lo,t,m,s,y,ks⟩).1 hf
  have h1:=pg ks wG.2.2 b5
  have h2:=tS ks wG.2.2 b5
  have h3:=og ks
  have h4:=lp ks
  rw [item]
  exact xQ wG.1 h1 (by rw [ln];omega) h2 (by show t.length≤_;omega) (by show m.length≤_;omega) (by show y.length≤_;omega) (by rw [ln];omega) (by rw [tQ];omega) (by omega)
theorem pg:∀l:List bG,Tree.gg l=true→bG.cE l≤1048576→Mp.gw (mapped l)=0
 | [],_,_=>by rw [mapped,Mp.gw]
 | f :: r,hf,hb=>by
  have wG:=Tree.kx.1 hf
  simp only [bG.cE] at hb
  have h1:=wi f wG.1 (by omega)
  have h2:=pg r wG.2 (by omega)
  have h3:dK.whole f.name=true∧f.name.length≤1048576:=by
   cases f with
   | mk n k b h lo t m s y ks=>exact ⟨((Tree.iY n ⟨k,b,h,lo,t,m,s,y,ks⟩).1 wG.1).2.1.1,(wR n k b h lo t m s y ks (by omega)).1⟩
  rw [mapped,Mp.gw,ao (sQ h3.1 (by omega)),Mp.gw,ao h1];exact h2
theorem tS:∀l:List bG,Tree.gg l=true→bG.cE l≤1048576→Mp.gw (items l)=0
 | [],_,_=>by rw [items,Mp.gw]
 | f :: r,hf,hb=>by
  have wG:=Tree.kx.1 hf
  simp only [bG.cE] at hb
  have h1:=wi f wG.1 (by omega)
  have h2:=tS r wG.2 (by omega)
  rw [items,Mp.gw,ao h1];exact h2
end
theorem uN (l:List bG) (hf:Tree.gg l=true) (hb:bG.cE l≤1048576):Mp.di (Db.map (mapped l))=0:=by
 have:=og l
 exact vl (pg l hf hb) (by rw [ln];omega) (by rw [ln];omega)
end Dk
end Go.Eng
namespace Go.Eng
open Go.IntWalk
def iZ (b:bS) (p q:Int):bS:=(b.drop p.toNat).take (q - p).toNat
theorem ob (b:bS) (p q r:Int) (h0:0≤p) (h1:p≤q) (h2:q≤r):iZ b p r=iZ b p q++iZ b q r:=by
 rw [iZ,iZ,iZ,show (r - p).toNat=(q - p).toNat+(r - q).toNat by omega,List.take_add,List.drop_drop,show p.toNat+(q - p).toNat=q.toNat by omega]
def Mp.n6 (b:bS) (d:Nat) (p:Int) (g:Mp.jd):Prop:=Mp.di g.it=0∧Mp.lay g.it=iZ b p g.pos∧bD.nest g.it≤d
section
variable {c:UInt8} {L:bS} {u:UInt64} {k:Int} {n0:UInt64} {long:Int}
theorem Mp.Bx (h:Mp.n5 c L u k n0 long) (hk:k=3∨k=4∨k=5∨k=6∨k=10) (hu:u.toNat<4294967296) (he:(Mp.sized k u.toNat).1=(c.toNat:Int)):Mp.put (Mp.sized k u.toNat) u=c :: L:=by
 obtain ⟨f,b0,b1,_⟩:=Mp.wV k (by omega) u.toNat hu
 refine (Mp.uE _ u c L ⟨b0,b1⟩ fun q=>?_).2 he
 rw [q,h.f] at f
 injection f with _ f;injection f with _ f
 rw [←f]
 exact cM.rI u long L h.pK h.l h.uL
end
theorem Mp.uJ {it:bD} {p c f q:Int} (h:(Mp.num it p c f q).err=0):f=c∧Mp.num it p c f q=⟨it,0,0,q⟩:=by
 unfold Mp.num at h ⊢
 by_cases a:f=c
 ·exact ⟨a,by rw [ah (fun h=>h a)]⟩
 ·rw [ao a] at h;cases h
theorem Mp.tO (b : bS) (d : Nat) (f : Int → Mp.jd) (hp : ∀ q : Int, 0 ≤ q → q ≤ b.length → q ≤ (f q).pos ∧ (f q).pos ≤ b.length ∧ ((f q).err = 0 → q < (f q).pos)) (hf : ∀ q : Int, 0 ≤ q → q ≤ b.length → (f q).err = 0 → Mp.n6 b d q (f q)) : ∀ (n : Nat) (it : bD) (q : Int), 0 ≤ q → q ≤ b.length → (Mp.kids f it n q).err = 0 →
    ∃ ks : List bD, (Mp.kids f it n q).it = .mk it.kind it.n it.bytes it.text (it.kids ++ ks) ∧ ks.length = n ∧ Mp.gw ks = 0 ∧ Mp.fF ks = iZ b q (Mp.kids f it n q).pos ∧ bD.qQ ks ≤ d ∧ q ≤ (Mp.kids f it n q).pos := by
  intro n
  induction n with
  | zero => intro it q h0 h1 _; refine ⟨[], ?_, rfl, rfl, ?_, Nat.zero_le _, Int.le_refl _⟩
            · cases it; simp [Mp.kids, bD.kind, bD.n, bD.bytes, bD.text, bD.kids]
            · simp [Mp.kids, Mp.fF, iZ]
  | succ n ih =>
    intro it q h0 h1 he
    rw [Mp.kids] at he ⊢
    by_cases a : (f q).err = 0
    · rw [ah (fun h => h a)] at he ⊢
      obtain ⟨p1, p2, p3⟩ := hp q h0 h1
      obtain ⟨j1, j2, j3⟩ := hf q h0 h1 a
      obtain ⟨ks, i1, i2, i3, i4, i5, i6⟩ := ih _ _ (by omega) p2 he
      refine ⟨(f q).it :: ks, ?_, by rw [aF, i2], ?_, ?_, ?_, by omega⟩
      · rw [i1]
        simp only [bD.kind, bD.n, bD.bytes, bD.text, bD.kids]
        rw [aU]; rfl
      · rw [Mp.gw, ao j1]; exact i3
      · rw [Mp.fF, j2, i4]
        exact (ob b q (f q).pos _ h0 p1 i6).symm
      · rw [bD.qQ]; omega
    · rw [ao a] at he; exact (a he).elim
theorem Mp.pV (k:Int) (n:UInt64) (b t:bS) (h:Mp.own (.mk k n b t [])=0):Mp.di (.mk k n b t [])=0:=by rw [Mp.di,ao h];rfl
theorem Mp.Ch (k:Int) (n:UInt64):Mp.lay (.mk k n [] [] [])=Mp.head (.mk k n [] [] []):=by simp [Mp.lay,Mp.fF]
theorem Mp.Cc (u:UInt64):UInt64.ofNat u.toNat=u:=UInt64.ofNat_toNat
theorem Aw (b:bS) (q:Int) (n:Nat) (h:q+n≤b.length) (h0:0≤q):(iZ b q (q+n)).length=n:=by
 rw [iZ,bo,aW];omega
theorem Mp.Br {b:bS} {it:bD} {p q:Int} {m:Nat} (h:(Mp.row b it p q m).err=0):q+m≤b.length∧(it.kind≠4→Mp.row b it p q m=⟨.mk it.kind it.n (iZ b q (q+m)) it.text it.kids,0,0,q+m⟩)∧(it.kind=4→dK.whole (iZ b q (q+m))=true∧Mp.row b it p q m=⟨.mk it.kind it.n it.bytes (iZ b q (q+m)) it.kids,0,0,q+m⟩):=by
 unfold Mp.row at h ⊢
 have e:iZ b q (q+m)=(b.drop q.toNat).take (m:Int).toNat:=by rw [iZ];congr 1;omega
 rw [e]
 by_cases a:(m:Int)<0∨(b.length:Int) - q<m
 ·rw [ao a] at h;cases h
 rw [ah a] at h ⊢
 refine ⟨by omega,fun k4=>by rw [ao k4],fun k4=>?_⟩
 rw [ah (fun h=>h k4)] at h ⊢
 by_cases a5:dK.whole ((b.drop q.toNat).take (m:Int).toNat)=true
 ·exact ⟨a5,by rw [ao a5]⟩
 ·rw [ah a5] at h;cases h
section
variable {c:UInt8} {L:bS} {u:UInt64} {k:Int} {n0:UInt64} {long:Int}
theorem Mp.w9 (b:bS) (d:Nat) (sub:Int→Mp.jd) (hp:∀q:Int,0≤q→q≤b.length→q≤(sub q).pos∧(sub q).pos≤b.length∧((sub q).err=0→q<(sub q).pos)) (hf:∀q:Int,0≤q→q≤b.length→(sub q).err=0→Mp.n6 b d q (sub q))
  (hS:Mp.n5 c L u k n0 long) (p q:Int) (h0:0≤p) (N2:p≤q) (hq:q≤b.length) (ty:UInt8) (y4:iZ b p q=c :: (L++if k=10 then [ty] else []))
  (h:(Mp.iX b sub p (c.toNat:Int) k u long (if k=10 then ty.toUInt64 else 0) q).err=0):Mp.n6 b (d+1) p (Mp.iX b sub p (c.toNat:Int) k u long (if k=10 then ty.toUInt64 else 0) q):=by
 obtain ⟨F1,_,_,F5⟩:=hS.kinds
 have QG:=hS.u8
 have J5:=hS.u32
 have leaf:∀(n:UInt64),k≠10→Mp.own (.mk k n [] [] [])=0→Mp.head (.mk k n [] [] [])=c :: L→Mp.n6 b (d+1) p ⟨.mk k n [] [] [],0,0,q⟩:=by
  intro n AQ ho hh
  rw [ah AQ,aO] at y4
  exact ⟨Mp.pV _ _ _ _ ho,by rw [Mp.Ch,hh,y4],by simp [bD.nest,bD.qQ]⟩
 have w0:dK.whole []=true:=by decide
 unfold Mp.iX at h ⊢
 by_cases k2:k=2
 ·subst k2
  rw [ah (by decide),ah (by decide),ao rfl] at h ⊢
  have I3:∀n:UInt64,n<9223372036854775808→Mp.own (.mk 2 n [] [] [])=0:=by
   intro n hn
   have:¬(9223372036854775808:UInt64)≤n:=UInt64.not_le.2 hn
   simp [Mp.own,w0,this]
  by_cases a:long=0
  ·have QH:=F5 rfl a
   rw [ao a] at h ⊢
   obtain ⟨e,g⟩:=Mp.uJ h
   rw [g]
   exact leaf u (by decide) (I3 u (by rw [aH];show u.toNat<9223372036854775808;omega)) ((Mp.Fp hS u (by rw [ao a]) 0).2 e)
  ·rw [ah a] at h ⊢
   cases AT:Mp.below u long with
   | none=>rw [AT] at h;cases h
   | some m =>
    rw [AT] at h
    have hl:=hS.pK
    have hB:=Mp.xq u long (by omega) (QG a) _ rfl _ rfl
    rw [AT] at hB
    have Oh:m<9223372036854775808:=by
     rw [hB.1] at hB
     exact UInt64.not_le.1 hB.2
    obtain ⟨e,g⟩:=Mp.uJ h
    simp only
    rw [g]
    exact leaf m (by decide) (I3 m Oh) ((Mp.Fp hS m (by rw [ah a];exact AT) 0).2 e)
 by_cases k8:k=8
 ·subst k8
  obtain ⟨w1,w2,w3⟩:=Mp.IF hS 0
  rw [ao (by decide)]
  refine leaf u (by decide) ?_ w1
  have q1:¬u<20:=fun h=>by
   have:=aH.1 h;have:=aJ.1 w2;omega
  have q2:¬22<u:=fun h=>by
   have:=aH.1 h;have:=aJ.1 w3;omega
  simp [Mp.own,w0,q1,q2]
 by_cases k9:k=9
 ·subst k9
  rw [ao (by decide)]
  exact leaf u (by decide) (by simp [Mp.own,w0]) (Mp.IE hS 0)
 rw [ah (show ¬(k=8∨k=9) by omega)] at h ⊢
 by_cases k1:k=1
 ·subst k1
  rw [ao rfl] at h ⊢
  obtain ⟨e,g⟩:=Mp.uJ h
  rw [g]
  exact leaf u (by decide) (by simp [Mp.own,w0]) ((Mp.IG hS 0).2 e)
 rw [ah k1,ah k2] at h ⊢
 have hk:k=3∨k=4∨k=5∨k=6∨k=10:=by omega
 have hu:=J5 (by omega)
 by_cases a:(Mp.sized k u.toNat).1≠(c.toNat:Int)∨127<(if k=10 then ty.toUInt64 else 0)
 ·rw [ao a] at h;cases h
 rw [ah a] at h ⊢
 have he:(Mp.sized k u.toNat).1=(c.toNat:Int):=Classical.byContradiction fun h=>a (.inl h)
 have CA:=Mp.Bx hS hk hu he
 by_cases k5:k=5
 ·subst k5
  rw [ah (by decide),aO] at y4
  simp only [show ((5:Int)=10)=False from propext ⟨by decide,False.elim⟩,if_false,if_true] at h ⊢
  obtain ⟨ks,i1,i2,i3,i4,i5,i6⟩:=Mp.tO b d sub hp hf _ _ q (by omega) hq h
  simp only [bD.kind,bD.n,bD.bytes,bD.text,bD.kids,bA] at i1
  refine ⟨?_,?_,?_⟩
  ·rw [i1,Mp.di,ao (by simp [Mp.own,w0];omega)];exact i3
  ·rw [i1,Mp.lay,aO,aO,i4,ob b p q _ h0 N2 i6]
   congr 1
   simp only [Mp.head,i2,Mp.Cc]
   exact CA.trans y4.symm
  ·rw [i1,bD.nest];omega
 by_cases k6:k=6
 ·subst k6
  rw [ah (by decide),aO] at y4
  simp only [show ((6:Int)=10)=False from propext ⟨by decide,False.elim⟩,show ((6:Int)=5)=False from propext ⟨by decide,False.elim⟩,if_false,if_true] at h ⊢
  obtain ⟨ks,i1,i2,i3,i4,i5,i6⟩:=Mp.tO b d sub hp hf _ _ q (by omega) hq h
  simp only [bD.kind,bD.n,bD.bytes,bD.text,bD.kids,bA] at i1
  have Qu:ks.length / 2=u.toNat:=by omega
  refine ⟨?_,?_,?_⟩
  ·rw [i1,Mp.di,ao (by simp [Mp.own,w0];omega)];exact i3
  ·rw [i1,Mp.lay,aO,aO,i4,ob b p q _ h0 N2 i6]
   congr 1
   have:Mp.head (.mk 6 0 [] [] ks)=Mp.put (Mp.sized 6 (ks.length / 2:Nat)) (UInt64.ofNat (ks.length / 2)):=by simp only [Mp.head];rfl
   rw [this,Qu,Mp.Cc]
   exact CA.trans y4.symm
  ·rw [i1,bD.nest];omega
 rw [ah k5,ah k6] at h ⊢
 obtain ⟨r1,r2,r3⟩:=Mp.Br h
 have jD:=Aw b q u.toNat r1 (by omega)
 have EP:=ob b p q (q+u.toNat) h0 N2 (by omega)
 by_cases k4:k=4
 ·subst k4
  obtain ⟨r4,r5⟩:=r3 rfl
  rw [ah (by decide),aO] at y4
  rw [r5]
  simp only [bD.kind,bD.n,bD.bytes,bD.text,bD.kids,show ((4:Int)=10)=False from propext ⟨by decide,False.elim⟩,if_false]
  refine ⟨Mp.pV _ _ _ _ (by simp [Mp.own,r4,jD];omega),?_,by simp [bD.nest,bD.qQ]⟩
  simp only [Mp.lay,Mp.fF,aO]
  rw [EP]
  congr 1
  simp only [Mp.head,jD,Mp.Cc]
  exact CA.trans y4.symm
 by_cases AQ:k=10
 ·subst AQ
  rw [ao rfl] at y4
  rw [r2 (show (10:Int)≠4 by decide)]
  simp only [bD.kind,bD.n,bD.bytes,bD.text,bD.kids,if_true] at a ⊢
  have OK:¬(127:UInt64)<ty.toUInt64:=fun h=>a (.inr h)
  refine ⟨Mp.pV _ _ _ _ (by simp [Mp.own,w0,jD,OK];omega),?_,by simp [bD.nest,bD.qQ]⟩
  simp only [Mp.lay,Mp.fF,aO]
  rw [EP]
  congr 1
  have:Mp.head (.mk 10 ty.toUInt64 (iZ b q (q+u.toNat)) [] [])=Mp.put (Mp.sized 10 (iZ b q (q+u.toNat)).length) (UInt64.ofNat (iZ b q (q+u.toNat)).length)++[ty.toUInt64.toUInt8]:=by simp only [Mp.head];rfl
  rw [this,jD,Mp.Cc,CA,y4]
  simp
 ·have k3:k=3:=by omega
  subst k3
  rw [ah (by decide),aO] at y4
  rw [r2 (show (3:Int)≠4 by decide)]
  simp only [bD.kind,bD.n,bD.bytes,bD.text,bD.kids,show ((3:Int)=10)=False from propext ⟨by decide,False.elim⟩,if_false]
  refine ⟨Mp.pV _ _ _ _ (by simp [Mp.own,w0,jD];omega),?_,by simp [bD.nest,bD.qQ]⟩
  simp only [Mp.lay,Mp.fF,aO]
  rw [EP]
  have hh:Mp.head (.mk 3 0 (iZ b q (q+u.toNat)) [] [])=Mp.put (Mp.sized 3 u.toNat) u:=by simp only [Mp.head,jD,Mp.Cc];rfl
  rw [hh,CA,y4]
end
theorem Mp.zG (b:bS):∀(d:Nat) (p:Int),0≤p→p≤b.length→(Mp.read b d p).err=0→Mp.n6 b d p (Mp.read b d p):=by
 intro d
 induction d with
 | zero=>intro p _ _ h;cases h
 | succ d ih =>
  intro p h0 h1
  rw [Mp.read]
  by_cases g1:(b.length:Int)≤p
  ·rw [ao g1];intro h;cases h
  rw [ah g1]
  have hc:=Mp.jN ((b.getD p.toNat 0).toNat:Int) ⟨by omega,by have:=(b.getD p.toNat 0).toNat_lt;omega⟩
  generalize hF:Mp.first ((b.getD p.toNat 0).toNat:Int)=F at hc
  obtain ⟨k,n0,long⟩:=F
  simp only at hc ⊢
  obtain ⟨_,hl,_⟩:=hc
  unfold Mp.sd
  by_cases g2:k=0
  ·rw [ao g2];intro h;cases h
  rw [ah g2]
  by_cases g3:(b.length:Int) - (p+1)<long
  ·rw [ao g3];intro h;cases h
  rw [ah g3]
  have hS:Mp.n5 (b.getD p.toNat 0) ((b.drop (p+1).toNat).take long.toNat) (if long=0 then n0 else cM.be ((b.drop (p+1).toNat).take long.toNat)) k n0 long:=⟨hF,g2,by rw [bo,aW];omega,rfl⟩
  have Ka:((b.drop p.toNat).take (1+long.toNat))=b.getD p.toNat 0 :: (b.drop (p+1).toNat).take long.toNat:=by
   rw [rp b p.toNat long.toNat (by omega),show (p+1).toNat=p.toNat+1 by omega]
  generalize (if long=0 then n0 else cM.be ((b.drop (p+1).toNat).take long.toNat))=u at hS
  unfold Mp.mj
  by_cases g4:k=10
  ·rw [ao g4]
   by_cases g5:(b.length:Int) - (p+1+long)<1
   ·rw [ao g5];intro h;cases h
   rw [ah g5]
   intro h
   have J:=Mp.w9 b d _ (Mp.mi b d) ih hS p (p+1+long+1) h0 (by omega) (by omega) (b.getD (p+1+long).toNat 0) (by
    rw [iZ,ao g4,show (p+1+long+1 - p).toNat=(1+long.toNat)+1 by omega,zy _ _ (by rw [aW];omega),Ka,List.cons_append,ve,show p.toNat+(1+long.toNat)=(p+1+long).toNat by omega])
   rw [ao g4] at J
   exact J h
  ·rw [ah g4]
   intro h
   have J:=Mp.w9 b d _ (Mp.mi b d) ih hS p (p+1+long) h0 (by omega) (by omega) 0 (by
    rw [iZ,ah g4,aO,show (p+1+long - p).toNat=1+long.toNat by omega,Ka])
   rw [ah g4] at J
   exact J h
theorem Mp.vM (b:bS):∀(d:Nat) (p:Int),0≤p→p≤b.length→0≤(Mp.read b d p).at_∧(Mp.read b d p).at_≤b.length:=by
 have num:∀(it:bD) (p c f q:Int),0≤p→p≤b.length→0≤(Mp.num it p c f q).at_∧(Mp.num it p c f q).at_≤b.length:=by
  intro it p c f q h0 h1;unfold Mp.num;split
  ·exact ⟨h0,h1⟩
  ·exact ⟨Int.le_refl _,by simp only;omega⟩
 have row:∀(it:bD) (p q n:Int),0≤p→p≤b.length→0≤(Mp.row b it p q n).at_∧(Mp.row b it p q n).at_≤b.length:=by
  intro it p q n h0 h1
  unfold Mp.row
  repeat' split
  all_goals first
   | exact ⟨h0,h1⟩
   | exact ⟨Int.le_refl _,by simp only;omega⟩
 intro d
 induction d with
 | zero=>intro p h0 h1;exact ⟨h0,h1⟩
 | succ d ih =>
  intro p h0 h1
  have kids:∀(n:Nat) (it:bD) (q:Int),0≤q→q≤b.length→0≤(Mp.kids (Mp.read b d) it n q).at_∧(Mp.kids (Mp.read b d) it n q).at_≤b.length:=by
   intro n
   induction n with
   | zero=>intro it q _ _;exact ⟨Int.le_refl _,by simp only [Mp.kids];omega⟩
   | succ n Qt =>
    intro it q h0 h1
    rw [Mp.kids]
    split
    ·exact ih q h0 h1
    ·obtain ⟨p1,p2,_⟩:=Mp.mi b d q h0 h1
     exact Qt _ _ (by omega) p2
  have fin:∀(c k:Int) (n:UInt64) (long:Int) (t:UInt64) (q:Int),0≤q→q≤b.length→0≤(Mp.iX b (Mp.read b d) p c k n long t q).at_∧(Mp.iX b (Mp.read b d) p c k n long t q).at_≤b.length:=by
   intro c k n long t q q0 q1
   unfold Mp.iX
   repeat' split
   all_goals first
    | exact ⟨h0,h1⟩
    | exact num _ _ _ _ _ h0 h1
    | exact kids _ _ _ q0 q1
    | exact row _ _ _ _ h0 h1
    | exact ⟨Int.le_refl _,by simp only;omega⟩
  rw [Mp.read]
  have hl:=(Mp.jN ((b.getD p.toNat 0).toNat:Int) ⟨by omega,by have:=(b.getD p.toNat 0).toNat_lt;omega⟩).2.1
  generalize Mp.first ((b.getD p.toNat 0).toNat:Int)=F at hl
  obtain ⟨k,n0,long⟩:=F
  simp only at hl ⊢
  unfold Mp.sd Mp.mj
  repeat' split
  all_goals first
   | exact ⟨h0,h1⟩
   | (refine fin _ _ _ _ _ _ ?_ ?_ <;> omega)
theorem Mp.nT (b:bS) (depth:Int):((Mp.dec b depth).2.err=0→Mp.di (Mp.dec b depth).1=0∧Mp.lay (Mp.dec b depth).1=b∧(bD.nest (Mp.dec b depth).1:Int)≤depth) ∧
  ((Mp.dec b depth).2.err≠0→(Mp.dec b depth).1=Mp.zero∧0≤(Mp.dec b depth).2.at_∧(Mp.dec b depth).2.at_≤b.length):=by
 unfold Mp.dec
 by_cases a:depth<0∨1000<depth
 ·rw [ao a];exact ⟨fun h=>absurd h (by decide),fun _=>⟨rfl,Int.le_refl _,by simp only;omega⟩⟩
 rw [ah a]
 have J:=Mp.zG b depth.toNat 0 (by omega) (by omega)
 have W:=Mp.vM b depth.toNat 0 (by omega) (by omega)
 have P:=Mp.mi b depth.toNat 0 (by omega) (by omega)
 generalize Mp.read b depth.toNat 0=g at J W P
 simp only
 by_cases e:g.err=0
 ·obtain ⟨j1,j2,j3⟩:=J e
  rw [ah (fun h=>h e)]
  by_cases m:g.pos<b.length
  ·rw [ao m];exact ⟨fun h=>absurd h (by simp),fun _=>⟨rfl,by simp only;omega,by simp only;omega⟩⟩
  ·rw [ah m]
   refine ⟨fun _=>⟨j1,?_,by simp only;omega⟩,fun h=>(h rfl).elim⟩
   simp only
   rw [j2,iZ,List.take_of_length_le (by simp only [aW];omega)];rfl
 ·rw [ao e]
  exact ⟨fun h=>(e h).elim,fun _=>⟨rfl,W⟩⟩
end Go.Eng
namespace Go.Eng
open Go.IntWalk
theorem Mp.HT (it:bM) (h:Mp.own (bD.of it)=0):(1≤it.kind∧it.kind≤10∧it.kind≠7)∧(it.kind=3∨it.kind=4∨it.kind=5∨it.kind=6→it.n=0)∧(it.kind≠3→it.kind≠10→it.bytes=[])∧(it.kind≠4→it.text=[])∧(it.kind≠5→it.kind≠6→it.kids=[]) ∧
  (it.kind=2→¬9223372036854775808≤it.n)∧(it.kind=8→20≤it.n∧it.n≤22)∧(it.kind=10→it.n≤127)∧(it.kind=6→it.kids.length % 2=0)∧dK.whole it.text=true:=by
 obtain ⟨k,n,b,t,ks⟩:=it
 simp only [Mp.own,bD.of] at h
 simp only
 by_cases h1:k<1∨10<k∨k=7
 ·rw [ao h1] at h;cases h
 rw [ah h1] at h
 split at h
 ·cases h
 rename_i h2
 split at h
 ·cases h
 rename_i h3
 split at h
 ·cases h
 rename_i h4
 split at h
 ·cases h
 split at h
 ·rename_i h6
  refine ⟨by omega,?_,?_,?_,?_,?_,?_,?_,?_,h6⟩ <;> grind
 ·cases h
theorem Mp.Fa (it:bM) (h:Mp.di (bD.of it)=0):Mp.own (bD.of it)=0∧Mp.gw it.kids=0:=by
 obtain ⟨k,n,b,t,ks⟩:=it
 rw [bD.of,Mp.di] at h
 by_cases a:Mp.own (.mk k n b t ks)=0
 ·rw [ao a] at h;exact ⟨a,h⟩
 ·rw [ah a] at h;exact (a h).elim
theorem Mp.qF:∀(l:List bD) (i:Nat),Mp.gw l=0→Mp.gw (l.drop i)=0
 | [],i,_=>by simp [Mp.gw]
 | k :: r,0,h=>by simpa using h
 | k :: r,i+1,h=>by simpa using Mp.qF r i (Mp.iV h).2
theorem Mp.tM:∀(l:List bD) (i:Nat),(Mp.fF (l.drop i)).length≤(Mp.fF l).length
 | [],i=>by simp
 | k :: r,0=>by simp
 | k :: r,i+1=>by
  have:=Mp.tM r i
  simp only [List.drop_succ_cons,Mp.fF,aw];omega
theorem Mp.uR (it:bD):1≤(Mp.lay it).length:=by
 have:=(Mp.jh it).2;omega
theorem Mp.jL:∀l:List bD,l.length≤(Mp.fF l).length
 | []=>Nat.zero_le _
 | k :: r=>by
  have h1:=Mp.jL r
  have h2:=Mp.uR k
  simp only [Mp.fF,aF,aw];omega
theorem Mp.yS:∀(l:List bD) (i:Nat) (d:bD),i<l.length→(Mp.lay (l.getD i d)).length+(l.length - 1)≤(Mp.fF l).length
 | [],i,d,h=>absurd h (Nat.not_lt_zero _)
 | k :: r,0,d,_=>by
  have:=Mp.jL r
  simp only [Mp.fF,aw,List.getD_cons_zero,aF];omega
 | k :: r,i+1,d,h=>by
  have h1:=Mp.yS r i d (by simpa using h)
  have h2:=Mp.uR k
  have h3:i<r.length:=by simpa using h
  simp only [Mp.fF,aw,List.getD_cons_succ,aF];omega
namespace Db
def jd.A3 (g:jd) (p:List Int):List TV:=[.ag (bE.cells g.val),.ag (ez.cells g.yd),.sl .is p]
def ir.app (acc:List bG):ir→ir
 | .ok r => .ok (acc++r)
 | .bad p => .bad p
theorem ir.zq (g:ir):g.app []=g:=by cases g <;> simp [ir.app]
theorem ir.zr (a b:List bG) (g:ir):(g.app b).app a=g.app (a++b):=by cases g <;> simp [ir.app]
end Db
namespace Dk
open Db (jd ir)
theorem ra (d:Nat) (k x:bD) (r:List bD) (i:Nat) (p:List Int):fields d (k :: x :: r) i p=if k.kind≠4∨dK.zero k.text=true then .bad (p++[(i:Int)])
  else match value d x (p++[((i+1:Nat):Int)]) with
   | .bad q => .bad q
   | .ok v=>(fields d r (i+2) p).app [bG.of k.text v]:=by
 show fP (ig d) (k :: x :: r) i p=if k.kind≠4∨dK.zero k.text=true then .bad (p++[(i:Int)])
  else match je (ig d) x (p++[((i+1:Nat):Int)]) with
   | .bad q => .bad q
   | .ok v=>(fP (ig d) r (i+2) p).app [bG.of k.text v]
 rw [fP]
 split
 ·rfl
 ·split
  ·rename_i q hq;rw [hq]
  ·rename_i v hv
   rw [hv]
   simp only
   split
   ·rename_i q hq;rw [hq];rfl
   ·rename_i l hl;rw [hl];rfl
theorem sK (d:Nat) (i:Nat) (p:List Int):fields d [] i p = .ok []:=by rw [fields,fP]
theorem At (d:Nat) (i:Nat) (p:List Int):elems d [] i p = .ok []:=by rw [elems,jj]
theorem yf (d:Nat) (x:bD) (r:List bD) (i:Nat) (p:List Int):elems d (x :: r) i p=match value d x (p++[(i:Int)]) with
   | .bad q => .bad q
   | .ok v=>(elems d r (i+1) p).app [bG.of (ky i) v]:=by
 show jj (ig d) (x :: r) i p=match je (ig d) x (p++[(i:Int)]) with
   | .bad q => .bad q
   | .ok v=>(jj (ig d) r (i+1) p).app [bG.of (ky i) v]
 rw [jj]
 split
 ·rename_i q hq;rw [hq]
 ·rename_i v hv
  rw [hv]
  simp only
  split
  ·rename_i q hq;rw [hq];rfl
  ·rename_i l hl;rw [hl];rfl
theorem value_of (d:Nat) (it:bM) (p:List Int):value d (bD.of it) p=if it.kind=6 then (fields d it.kids 0 p).qZ (Db.doc 3 []) else if it.kind=5 then (elems d it.kids 0 p).qZ (Db.doc 4 [])
  else if it.kind=10 then Db.opt (if (ig d it.n it.bytes).2 then some (ig d it.n it.bytes).1 else none) p else Db.opt (Db.leaf it.kind it.n it.bytes it.text) p:=by
 rw [bD.of,value,je];rfl
theorem sL (d:Nat):∀(l:List bD) (i:Nat) (p:List Int) (ks:List bG),fields d l i p = .ok ks→2 * ks.length=l.length
 | [],i,p,ks,h=>by rw [sK] at h;injection h with h;subst h;rfl
 | [k],i,p,ks,h=>by rw [fields,fP] at h;cases h
 | k :: x :: r,i,p,ks,h=>by
  rw [ra] at h
  split at h
  ·cases h
  split at h
  ·cases h
  ·cases hr:fields d r (i+2) p with
   | bad q=>rw [hr] at h;cases h
   | ok l =>
    rw [hr] at h
    have:=sL d r (i+2) p l hr
    injection h with h
    subst h
    simp only [aw,aF,aA];omega
theorem KM (n:UInt64) (b t:bS) (ks:List bD):(Db.half (.mk 1 n b t ks)).2=decide (n<2147483648)∧(n<2147483648→(Db.half (.mk 1 n b t ks)).1=⟨16,n,0,0,[],[],0,[],[]⟩):=by
 have hl:=@aH n 2147483648
 have he:(2147483648:UInt64).toNat=2147483648:=rfl
 have hg:=@aJ 9223372036854775808 n
 have hf:(9223372036854775808:UInt64).toNat=9223372036854775808:=rfl
 have hn:Db.iB (.mk 1 n b t ks)=if 9223372036854775808≤n then 0 else (n.toNat:Int):=rfl
 have hs:(Db.number (.mk 1 n b t ks)).isSome=!decide (9223372036854775808≤n):=by
  unfold Db.number
  by_cases a:9223372036854775808≤n
  ·rw [ao (show 9223372036854775808≤(bD.mk 1 n b t ks).n from a),aa a];rfl
  ·rw [ah (show ¬9223372036854775808≤(bD.mk 1 n b t ks).n from a),af a];rfl
 refine ⟨?_,fun h=>?_⟩
 ·show ((Db.number (.mk 1 n b t ks)).isSome&&decide (-2147483648≤Db.iB (.mk 1 n b t ks)∧Db.iB (.mk 1 n b t ks)<2147483648))=_
  rw [hs,hn]
  by_cases a:9223372036854775808≤n
  ·rw [aa a,af (show ¬n<2147483648 by rw [hl];have:=hg.1 a;omega)];rfl
  ·rw [af a,ah a,aX,Bool.true_and]
   exact bC.2 ⟨fun h=>by rw [hl];omega,fun h=>by have:=hl.1 h;omega⟩
 ·show (⟨16,UInt64.ofInt (Db.iB (.mk 1 n b t ks) % 4294967296),0,0,[],[],0,[],[]⟩:bE)=_
  have h1:=hl.1 h
  rw [hn,ah (by rw [hg];omega),ba (by omega) (by omega)]
  congr 1
  apply aZ.1
  rw [jA];omega
theorem KL (n:UInt64) (b t:bS) (ks:List bD) (xz:¬9223372036854775808≤n):(Db.half (.mk 2 n b t ks)).2=decide (n<2147483648)∧(n<2147483648→(Db.half (.mk 2 n b t ks)).1=⟨16,UInt64.ofInt ((UInt32.ofInt (((~~~ n).toNat:Nat):Int)).toNat:Int),0,0,[],[],0,[],[]⟩):=by
 have hl:=@aH n 2147483648
 have he:(2147483648:UInt64).toNat=2147483648:=rfl
 have hn:Db.iB (.mk 2 n b t ks)=-1 - (n.toNat:Int):=by
  show (if 9223372036854775808≤n then 0 else _)=_
  rw [ah xz];rfl
 have hs:(Db.number (.mk 2 n b t ks)).isSome=true:=by
  unfold Db.number
  rw [ah (show ¬9223372036854775808≤(bD.mk 2 n b t ks).n from xz)];rfl
 refine ⟨?_,fun h=>?_⟩
 ·show ((Db.number (.mk 2 n b t ks)).isSome&&decide (-2147483648≤Db.iB (.mk 2 n b t ks)∧Db.iB (.mk 2 n b t ks)<2147483648))=_
  rw [hs,hn,Bool.true_and]
  exact bC.2 ⟨fun h=>by rw [hl];omega,fun h=>by have:=hl.1 h;omega⟩
 ·show (⟨16,UInt64.ofInt (Db.iB (.mk 2 n b t ks) % 4294967296),0,0,[],[],0,[],[]⟩:bE)=_
  have h1:=hl.1 h
  have h2:=qi (((~~~ n).toNat:Nat):Int)
  rw [wrap_u32',pJ] at h2
  rw [hn,pJ,h2]
  have h3:=n.toNat_lt
  congr 2
  omega
end Dk
end Go.Eng
namespace Go.Eng
open Go.IntWalk
theorem mR:∀(s:bS) (c:UInt8),Lib.indexByte s c<s.length
 | [],c=>by rw [Lib.indexByte];decide
 | b :: l,c=>by
  have ih:=mR l c
  rw [Lib.indexByte,aF]
  split
  ·omega
  split
  ·omega
  ·omega
theorem fX.goal (s t:bS) (hp:decide (t.length=1∧s.length≤1099511627776)=true):fX.F s t=some [.s (Dk.cut s (t.getD 0 0)).1,.s (Dk.cut s (t.getD 0 0)).2.1,.b (Dk.cut s (t.getD 0 0)).2.2]:=by
 have h:=aD hp
 refine fX.dV _ _ ?_
 intro v1 h1 v2 h2
 have hl:=mR s (t.getD 0 0)
 rw [bK (aa h.1),Dk.cut,←h1]
 rw [←h1] at hl
 by_cases a:0≤v1
 ·have e2:v2=v1+1:=by rw [h2,h.1,i64_in _ (by omega)];rfl
  rw [aa a,aq,ao a,bK (j9 (by omega) (by omega) (by omega)),bK (j9 (by omega) (by omega) (by omega)),e2,show (v1+1).toNat=v1.toNat+1 by omega]
 ·rw [af a,aj,ah a]
theorem fW.goal (s t:bS) (hp:decide (t.length=1∧s.length≤1099511627776)=true):fW.F s t=some [.s (Dk.cut s (t.getD 0 0)).1,.s (Dk.cut s (t.getD 0 0)).2.1,.b (Dk.cut s (t.getD 0 0)).2.2]:=by
 refine fW.dV _ _ ?_
 intro v1 h1 v2 h2
 rw [bK hp,h1,h2]
theorem eN.goal (s:bS):eN.F s=some [.ag (bM.cells (bD.val (Db.text s)))]:=eN.fR s
theorem ej.goal (n:UInt64):ej.F n=some [.ag (bM.cells (bD.val (Db.simple n)))]:=ej.fR n
theorem dv.goal (s:bS):dv.F s=some [.ag (bM.cells (bD.val (Db.text s)))]:=dv.fR s
theorem fo.goal (k:Int):fo.F k=some [.u64 (Dk.sort k)]:=by
 rw [fo.fR,Dk.sort]
 by_cases a:k=255
 ·rw [aa a,aq,ao a]
 ·rw [af a,aj,ah a]
theorem dH.goal (v:Int) (hp:decide (-9223372036854775808≤v∧v≤9223372036854775807)=true):dH.F v=some [.ag (bM.cells (bD.val (Db.integer v)))]:=by
 have h:=aD hp
 rw [dH.fR,Db.integer]
 by_cases a:v<0
 ·rw [aa a,aq,ao a,zP v a h.1];rfl
 ·rw [af a,aj,ah a];rfl
theorem dO.fN (v:UInt64):∀(k:Nat) (acc:bS),k≤8→acc.length+k≤1000→dO.l1 v acc ((k:Int) - 1)=some [.sl .bs (acc++cM.eb v k)]:=by
 intro k
 induction k with
 | zero =>
  intro acc _ _
  refine dO.ew _ _ _ ?_
  intro v1 e1 v2 e2 v3 e3
  rw [af (by omega),aj,show cM.eb v 0=[] from rfl,aO]
 | succ k ih =>
  intro acc hk hw
  refine dO.ew _ _ _ ?_
  intro v1 e1 v2 e2 v3 e3
  have DG:v1=((8 * k:Nat):Int):=by rw [e1,i64_in _ (by omega)];omega
  rw [aa (by omega),aq,bK (aa (by omega)),bK (fE (by simp;omega) (by simp;omega))]
  rw [show v3=(k:Int) - 1 by rw [e3,i64_in _ (by omega)];omega,ih _ (by omega) (by simp;omega),e2,DG,aK,vB,cM.pH,aU]
  rfl
theorem dO.goal (v:UInt64) (n:Int) (hp:decide (0≤n∧n≤8)=true):dO.F v n=some [.sl .bs (cM.eb v n.toNat)]:=by
 have h:=aD hp
 refine dO.dV v n ?_
 intro v1 e1
 rw [show v1=((n.toNat:Nat):Int) - 1 by rw [e1,i64_in _ (by omega)];omega,dO.fN v _ _ (by omega) (by simp;omega)];rfl
theorem Dk.pN (n:bS) (f:bG):Dk.item (bG.of n f.val)=Dk.item f:=by cases f;rfl
theorem Tree.mF:∀(l:List bG) (i:Nat) (d:bG),i<l.length→Tree.gg l=true→Tree.jF (l.getD i d)=true
 | [],i,d,h,_=>absurd h (Nat.not_lt_zero _)
 | f :: r,0,d,_,hf=>(Tree.kx.1 hf).1
 | f :: r,i+1,d,h,hf=>Tree.mF r i d (by simpa using h) (Tree.kx.1 hf).2
theorem cD.fN (n:Nat) (l:List bG) (hb:bG.cE l≤1048576) (hf:Tree.gg l=true) (hn:4 * bG.cE l+2<n) (x3:bM) (x4:Int) (x5:UInt64) (x6:bS):∀(m i:Nat) (acc:List bD),i+m=l.length→acc.length+2 * m≤2147483648 →
  cD.l1 n l (l.length:Int) i x3 x4 x5 x6 acc=some [.ag [.i .i64 x4,.u64 x5,.sl .bs [],.s x6,.sl .il (acc++Dk.mapped (l.drop i))]]:=by
 have hlen:=bG.iG l
 intro m
 induction m with
 | zero =>
  intro i acc hi ha
  refine cD.ew _ _ _ _ _ _ _ _ _ ?_
  intro v1 h1 v2 h2 v3 h3
  rw [af (by omega),aj,aI (by omega),Dk.mapped,aO]
 | succ m ih =>
  intro i acc hi ha
  refine cD.ew _ _ _ _ _ _ _ _ _ ?_
  intro v1 h1 v2 h2 v3 h3
  rw [aK] at h1
  have hg:=bG.jo l i (eJ.fc .fl) (by omega)
  have hfn:=Tree.mF l i (eJ.fc .fl) (by omega) hf
  rw [←h1] at hg hfn
  have hv:=bG.mH v1
  have te:v2=[Db.text v1.name,Dk.item v1]:=by rw [h2,bD.gr,bD.gr,Dk.pN]
  rw [aa (by omega),aq,bK (fO (by omega) (by omega)),aa (show 4 * bG.cA (bG.of [] v1.val)+2<n by omega),aa (show bG.cA (bG.of [] v1.val)≤1048576 by omega),Tree.pU v1 hfn,aM,aM,cV,
   bK (fE (by rw [te];simp only [aF,aA];omega) (by rw [te];simp only [aF,aA];omega)),show v3=((i+1:Nat):Int) by rw [h3,i64_in _ (by omega)];omega,te,ih _ _ (by omega) (by simp only [aw,aF,aA];omega),drop_cons (l:=l) (i:=i) (by omega) (eJ.fc .fl),←h1,Dk.mapped,aU];rfl
theorem zL {a b c:Bool} (h:((a&&b)&&c)=true):(a=true∧b=true)∧c=true:=by simpa [ae] using h
theorem cD.goal (n:Nat) (l:List bG) (hp:((decide (bG.cE l≤1048576)&&Tree.gg l)&&decide ((4 * bG.cE l+3)<n+1))=true):cD.F n l=some [.ag (bM.cells (bD.val (Db.map (Dk.mapped l))))]:=by
 obtain ⟨⟨h1,h2⟩,h3⟩:=zL hp
 have h1:=aD h1
 have h3:=aD h3
 have hlen:=bG.iG l
 rw [cD.fR]
 have:=cD.fN n l h1 h2 (by omega) (bM.mk 0 0 [] [] []) 6 0 [] l.length 0 [] (by omega) (by simp;omega)
 rw [bg,bA] at this
 exact this
end Go.Eng
namespace Go.Eng
open Go.IntWalk
theorem qv {n:Nat} (h:n≤1000000000):kJ n=true:=mE.2 (by rw [qu];omega)
theorem kS {n:Nat} {b:Nat} (h:n≤500000000) (hb:b≤200):fS n b=true:=fE (Nat.le_trans (Nat.mul_le_mul h hb) (by omega)) (by omega)
theorem bE.bounds {v:bE} (h:bG.cA (bG.of [] v)≤1048576):v.text.length≤1048576∧v.more.length≤1048576∧v.bytes.length≤1048576∧bG.cE v.kids<bG.cA (bG.of [] v)∧v.kids.length≤1048576∧(Mp.lay (Db.map (Dk.mapped v.kids))).length≤70000000:=by
 have h1:=Dk.og v.kids
 have h2:=Dk.rE (Dk.mapped v.kids)
 have h3:=Dk.lp v.kids
 simp only [bG.of,bG.cA,aA] at h ⊢
 omega
theorem fw.goal (n:Nat) (l:List bG) (hp:((decide (bG.cE l≤1048576)&&Tree.gg l)&&decide ((4 * bG.cE l+4)<n+1))=true):fw.F n l=some [.sl .bs (Mp.lay (Db.map (Dk.mapped l)))]:=by
 obtain ⟨⟨h1,h2⟩,h3⟩:=zL hp
 have KU:=aD h1
 have h3:=aD h3
 have h4:=Dk.sv l
 refine fw.dV _ _ ?_
 intro v1 e1 v2 e2
 rw [bD.gr] at e1 e2
 rw [h1,h2,aa (show 4 * bG.cE l+3<n by omega),aM,aM,cV,bD.gr,bK (aa (by omega)),e1,Mp.enc,ao (Dk.uN l h2 KU)]
theorem cL.jM (n:Nat) (v:bE) (x1:Bool) (hx:x1=decide (v.kind=13∨v.kind=14)) (hb:bG.cA (bG.of [] v)≤1048576) (hf:Tree.jF (bG.of [] v)=true) (hn:4 * bG.cA (bG.of [] v)+1<n+1)
  (a4:v.kind≠4) (a5:v.kind≠5) (a7:v.kind≠7) (a9:¬(v.kind=9∨v.kind=17∨v.kind=18)) (nd:v.kind≠11) (a12:v.kind≠12) :
  cL.j2 n v.kind x1 v=some [.sl .bs (Dk.inner v (Mp.lay (Db.map (Dk.mapped v.kids))))]:=by
 obtain ⟨b1,b2,b3,b4,b5,b6⟩:=bE.bounds hb
 have hk:=((Tree.iY [] v).1 hf).2.2
 refine cL.ng _ _ _ _ ?_
 intro v1 e1 v2 e2 v3 e3 v4 e4 v5 e5 v6 e6
 rw [hx,Dk.inner,ah a4,ah a5,ah a7,ah a9,ah nd,ah a12]
 by_cases a:v.kind=13∨v.kind=14
 ·rw [aa a,aq,ao a,bK (qv (by omega))]
 rw [af a,aj,ah a]
 have l2:v2.length=4:=by rw [e2];exact cM.fM _ _
 have l5:v5.length=8:=by rw [e5];exact cM.fM _ _
 have l6:v6.length=8:=by rw [e6];exact cM.fM _ _
 by_cases c:v.kind=15
 ·rw [aa c,aq,ao c,bK (by decide),bK (kS (by omega) (by decide)),aa (show bG.cE v.kids≤1048576 by omega),hk,aa (show 4 * bG.cE v.kids+4<n by omega),aM,aM,cV,
   bK (kS (by rw [aw,e3];omega) (by decide)),e4,e3,e2,e1];rfl
 rw [af c,aj,ah c]
 by_cases d:v.kind=19
 ·rw [aa d,aq,ao d,bK (by decide),bK (by decide),bK (kS (by omega) (by decide)),e5,e6];rfl
 rw [af d,aj,ah d]
theorem cL.lu (n:Nat) (v:bE) (x1:Bool) (hx:x1=decide (v.kind=9∨v.kind=17∨v.kind=18)) (hb:bG.cA (bG.of [] v)≤1048576) (hf:Tree.jF (bG.of [] v)=true) (hn:4 * bG.cA (bG.of [] v)+1<n+1)
  (a4:v.kind≠4) (a5:v.kind≠5) (a7:v.kind≠7) :
  cL.j1 n v.kind x1 v=some [.sl .bs (Dk.inner v (Mp.lay (Db.map (Dk.mapped v.kids))))]:=by
 obtain ⟨b1,b2,b3,b4,b5,b6⟩:=bE.bounds hb
 refine cL.pL _ _ _ _ ?_
 intro v1 e1 v2 e2 v3 e3
 rw [hx]
 by_cases a9:v.kind=9∨v.kind=17∨v.kind=18
 ·rw [aa a9,aq,bK (by decide),e1,Dk.inner,ah a4,ah a5,ah a7,ao a9];rfl
 rw [af a9,aj]
 by_cases nd:v.kind=11
 ·have l2:v2.length=v.text.length+1:=by rw [e2,aw];rfl
  rw [aa nd,aq,bK (aa (by simp only [aF,aA];omega)),bK (aa (by omega)),bK (qv (by rw [aw];omega)),e2,Dk.inner,ah a4,ah a5,ah a7,ah a9,ao nd,aU];rfl
 rw [af nd,aj]
 by_cases a12:v.kind=12
 ·rw [aa a12,aq,bK (kS (by omega) (by decide)),bK (kS (by omega) (by decide)),e3,Dk.inner,ah a4,ah a5,ah a7,ah a9,ah nd,ao a12]
 rw [af a12,aj]
 by_cases rP:v.kind=13
 ·rw [aa rP,aq]
  exact cL.jM n v _ (by rw [aa (Or.inl rP)]) hb hf hn a4 a5 a7 a9 nd a12
 ·rw [af rP,aj]
  exact cL.jM n v _ (bC.2 ⟨.inr,fun h=>h.resolve_left rP⟩) hb hf hn a4 a5 a7 a9 nd a12
theorem cL.goal (n:Nat) (v:bE) (hp:((decide (bG.cA (bG.of [] v)≤1048576)&&Tree.jF (bG.of [] v))&&decide ((4 * bG.cA (bG.of [] v)+1)<n+1))=true):cL.F n v=some [.sl .bs (Dk.inner v (Mp.lay (Db.map (Dk.mapped v.kids))))]:=by
 obtain ⟨⟨h1,hf⟩,h3⟩:=zL hp
 have hb:=aD h1
 have hn:=aD h3
 obtain ⟨b1,b2,b3,b4,b5,b6⟩:=bE.bounds hb
 have hk:=((Tree.iY [] v).1 hf).2.2
 refine cL.dV _ _ ?_
 intro v1 e1 v2 e2
 by_cases a4:v.kind=4
 ·rw [aa a4,aq,aa (show bG.cE v.kids≤1048576 by omega),hk,aa (show 4 * bG.cE v.kids+4<n by omega),aM,aM,cV,e1,Dk.inner,ao a4]
 rw [af a4,aj]
 by_cases a5:v.kind=5
 ·rw [aa a5,aq,bK (kS (by rw [e2];simp only [aF,aA];omega) (by decide)),e2,Dk.inner,ah a4,ao a5];rfl
 rw [af a5,aj]
 by_cases a7:v.kind=7
 ·rw [aa a7,aq,bK (kS (by omega) (by decide)),Dk.inner,ah a4,ah a5,ao a7]
 rw [af a7,aj]
 by_cases a9:v.kind=9
 ·rw [aa a9,aq]
  exact cL.lu n v _ (by rw [aa (Or.inl a9)]) hb hf hn a4 a5 a7
 rw [af a9,aj]
 by_cases uf:v.kind=17
 ·rw [aa uf,aq]
  exact cL.lu n v _ (by rw [aa (Or.inr (Or.inl uf))]) hb hf hn a4 a5 a7
 rw [af uf,aj]
 exact cL.lu n v _ (bC.2 ⟨fun h => .inr (.inr h),fun h=>(h.resolve_left a9).resolve_left uf⟩) hb hf hn a4 a5 a7
theorem cU.fN (n:Nat) (l:List bG) (hb:bG.cE l≤1048576) (hf:Tree.gg l=true) (hn:4 * bG.cE l+2<n) (x3:bM) (x4:Int) (x5:UInt64) (x6:bS):∀(m i:Nat) (acc:List bD),i+m=l.length→acc.length+m≤2147483648 →
  cU.l1 n l (l.length:Int) i x3 x4 x5 x6 acc=some [.ag [.i .i64 x4,.u64 x5,.sl .bs [],.s x6,.sl .il (acc++Dk.items (l.drop i))]]:=by
 have hlen:=bG.iG l
 intro m
 induction m with
 | zero =>
  intro i acc hi ha
  refine cU.ew _ _ _ _ _ _ _ _ _ ?_
  intro v1 h1 v2 h2 v3 h3
  rw [af (by omega),aj,aI (by omega),Dk.items,aO]
 | succ m ih =>
  intro i acc hi ha
  refine cU.ew _ _ _ _ _ _ _ _ _ ?_
  intro v1 h1 v2 h2 v3 h3
  rw [aK] at h1
  have hg:=bG.jo l i (eJ.fc .fl) (by omega)
  have hfn:=Tree.mF l i (eJ.fc .fl) (by omega) hf
  rw [←h1] at hg hfn
  have hv:=bG.mH v1
  have te:v2=[Dk.item v1]:=by rw [h2,bD.gr,Dk.pN]
  rw [aa (by omega),aq,bK (fO (by omega) (by omega)),aa (show 4 * bG.cA (bG.of [] v1.val)+2<n by omega),aa (show bG.cA (bG.of [] v1.val)≤1048576 by omega),Tree.pU v1 hfn,aM,aM,cV,
   bK (fE (by rw [te];simp only [aF,aA];omega) (by rw [te];simp only [aF,aA];omega)),show v3=((i+1:Nat):Int) by rw [h3,i64_in _ (by omega)];omega,te,ih _ _ (by omega) (by simp only [aw,aF,aA];omega),drop_cons (l:=l) (i:=i) (by omega) (eJ.fc .fl),←h1,Dk.items,aU];rfl
theorem cU.jM (n:Nat) (v:bE) (x1:bM) (hb:bG.cA (bG.of [] v)≤1048576) (hf:Tree.jF (bG.of [] v)=true) (hn:4 * bG.cA (bG.of [] v)+2<n+1) :
  cU.j2 n v x1=some [.ag (bM.cells (bD.val (Dk.ext v.kind (Dk.inner v (Mp.lay (Db.map (Dk.mapped v.kids)))))))]:=by
 refine cU.ng _ _ _ ?_
 intro v1 e1
 rw [aa hb,hf,aa (show 4 * bG.cA (bG.of [] v)+1<n by omega),aM,aM,cV,e1];rfl
theorem cU.goal (n:Nat) (v:bE) (hp:((decide (bG.cA (bG.of [] v)≤1048576)&&Tree.jF (bG.of [] v))&&decide ((4 * bG.cA (bG.of [] v)+2)<n+1))=true):cU.F n v=some [.ag (bM.cells (bD.val (Dk.item (bG.of [] v))))]:=by
 obtain ⟨⟨h1,hf⟩,h3⟩:=zL hp
 have hb:=aD h1
 have hn:=aD h3
 obtain ⟨b1,b2,b3,b4,b5,b6⟩:=bE.bounds hb
 have hk:=((Tree.iY [] v).1 hf).2.2
 refine cU.dV _ _ ?_
 intro v1 e1 v2 e2 v3 e3 v4 e4
 rw [Dk.yU,Dk.gz]
 by_cases a1:v.kind=1
 ·rw [aa a1,aq,ao a1];rfl
 rw [af a1,aj,ah a1]
 by_cases a2:v.kind=2
 ·rw [aa a2,aq,ao a2]
 rw [af a2,aj,ah a2]
 by_cases a3:v.kind=3
 ·rw [aa a3,aq,ao a3,aa (show bG.cE v.kids≤1048576 by omega),hk,aa (show 4 * bG.cE v.kids+3<n by omega),aM,aM,cV]
 rw [af a3,aj,ah a3]
 have HO:=cU.jM n v (bM.mk 0 0 [] [] []) hb hf hn
 by_cases a4:v.kind=4
 ·rw [aa a4,aq,bK (aa (by omega)),e1]
  by_cases r:Tree.regular v.kids=true
  ·rw [r,aq,ao ⟨a4,rfl⟩,e2]
   have:=cU.fN n v.kids (by omega) hk (by omega) (bM.mk 0 0 [] [] []) 5 0 [] v.kids.length 0 [] (by omega) (by simp;omega)
   rw [bg,bA] at this
   exact this
  ·rw [show Tree.regular v.kids=false by simpa using r,aj,ah (fun h=>by cases h.2),ah (fun h=>by omega),ah (by omega),ah (by omega),ah (by omega)]
   exact HO
 rw [af a4,aj,ah (fun h=>a4 h.1)]
 by_cases a5:v.kind=5
 ·rw [aa a5,aq]
  by_cases s:v.sub=0
  ·rw [aa s,aq,ao ⟨a5,s⟩,bK (kS (by omega) (by decide))];rfl
  ·rw [af s,aj,ah (fun h=>s h.2),ah (by omega),ah (by omega),ah (by omega)]
   exact HO
 rw [af a5,aj,ah (fun h=>a5 h.1)]
 by_cases a6:v.kind=10
 ·rw [aa a6,aq,ao a6]
 rw [af a6,aj,ah a6]
 by_cases a7:v.kind=8
 ·rw [aa a7,aq,ao a7,e3]
 rw [af a7,aj,ah a7]
 by_cases a8:v.kind=16
 ·have hr:=rH (v.bits.toNat:Int)
  have e:IntKind.i64.wrap v4=Db.i32 v.bits:=by rw [e4,yX];rfl
  rw [aa a8,aq,ao a8,e,bK (aa (by unfold Db.i32;omega))]
 rw [af a8,aj,ah a8]
 exact HO
theorem fp.goal (v:bE) (hp:decide (bG.cA (bG.of [] v)≤1048576)=true):fp.F v=some [.ag (bM.cells (bD.val (Dk.enc v).1)),.ag (ez.cells (Dk.enc v).2)]:=by
 have hb:=aD hp
 obtain ⟨b1,b2,b3,b4,b5,b6⟩:=bE.bounds hb
 refine fp.dV _ ?_
 intro v1 e1 v2 e2 v3 e3
 rw [bK (aa (by omega))]
 unfold Dk.enc
 by_cases a:(Tree.ga (bG.of [] v) []).2=0
 ·have hf:=(Tree.nR _ _).1 a
  have hk:=((Tree.iY [] v).1 hf).2.2
  rw [e2,aa a,aV,aj,ah (by simpa using a)]
  by_cases b:v.kind=3
  ·rw [aa b,aV,aj,ah (by simpa using b),bK (aa (by omega)),e3]
   by_cases c:200<Tree.depth (bG.of [] v)
   ·rw [aa (by omega),aq,ao c];rfl
   ·rw [af (by omega),aj,ah c,aa (show bG.cE v.kids≤1048576 by omega),hk,aM,cV];rfl
  ·rw [af b,aX,aq,ao b];rfl
 ·rw [e2,af a,aX,aq,ao a,e1];rfl
end Go.Eng
namespace Go.Eng
open Go.IntWalk
theorem cI.goal (k:Int) (b:bS):cI.F k b=some [.ag (bM.cells (bD.val (Dk.ext k b)))]:=by
 rw [cI.fR,cI.lv,cI.lv,Dk.ext,Dk.sort]
 by_cases a:k=255
 ·rw [aa a,aq,ao a];rfl
 ·rw [af a,aj,ah a];rfl
theorem bR.fN (n:Nat) (l:List bG) (hb:bG.cE l≤1048576) (hf:Tree.gg l=true) (hn:2 * bG.cE l+1<n) (x2:bM) (x3:Int) (x4:UInt64) (x5:bS):∀(m i:Nat) (acc:List bD),i+m=l.length→acc.length+2 * m≤2147483648 →
  bR.l1 n l i x2 x3 x4 x5 acc=some [.ag [.i .i64 x3,.u64 x4,.sl .bs [],.s x5,.sl .il (acc++Dk.mapped (l.drop i))]]:=by
 have hlen:=bG.iG l
 intro m
 induction m with
 | zero =>
  intro i acc hi ha
  refine bR.ew _ _ _ _ _ _ _ _ ?_
  intro v1 h1 v2 h2 v3 h3
  rw [af (by omega),aj,aI (by omega),Dk.mapped,aO]
 | succ m ih =>
  intro i acc hi ha
  refine bR.ew _ _ _ _ _ _ _ _ ?_
  intro v1 h1 v2 h2 v3 h3
  rw [aK] at h1
  have hg:=bG.jo l i (eJ.fc .fl) (by omega)
  have hfn:=Tree.mF l i (eJ.fc .fl) (by omega) hf
  rw [←h1] at hg hfn
  have hv:=bG.mH v1
  have te:v2=[Db.text v1.name,Dk.item v1]:=by rw [h2,bD.gr,bD.gr,Dk.pN]
  rw [aa (by omega),aq,bK (fO (by omega) (by omega)),bK (fO (by omega) (by omega)),aa (show 2 * bG.cA (bG.of [] v1.val)+1<n by omega),aa (show bG.cA (bG.of [] v1.val)≤1048576 by omega),Tree.pU v1 hfn,aM,aM,cV,
   bK (fE (by rw [te];simp only [aF,aA];omega) (by rw [te];simp only [aF,aA];omega)),show v3=((i+1:Nat):Int) by rw [h3,i64_in _ (by omega)];omega,te,ih _ _ (by omega) (by simp only [aw,aF,aA];omega),drop_cons (l:=l) (i:=i) (by omega) (eJ.fc .fl),←h1,Dk.mapped,aU];rfl
theorem bR.goal (n:Nat) (l:List bG) (hp:((decide (bG.cE l≤1048576)&&Tree.gg l)&&decide ((2 * bG.cE l+2)<n+1))=true):bR.F n l=some [.ag (bM.cells (bD.val (Db.map (Dk.mapped l))))]:=by
 obtain ⟨⟨h1,h2⟩,h3⟩:=zL hp
 have h1:=aD h1
 have h3:=aD h3
 have hlen:=bG.iG l
 rw [bR.fR]
 have:=bR.fN n l h1 h2 (by omega) (bM.mk 0 0 [] [] []) 6 0 [] l.length 0 [] (by omega) (by simp;omega)
 rw [bg,bA] at this
 exact this
theorem bJ.fN (n:Nat) (v:bE) (hb:bG.cE v.kids≤1048576) (hf:Tree.gg v.kids=true) (hn:2 * bG.cE v.kids+1<n) (x2:bM) (x3:Int) (x4:UInt64) (x5:bS):∀(m i:Nat) (acc:List bD),i+m=v.kids.length→acc.length+m≤2147483648 →
  bJ.l1 n i v x2 x3 x4 x5 acc=some [.ag [.i .i64 x3,.u64 x4,.sl .bs [],.s x5,.sl .il (acc++Dk.items (v.kids.drop i))]]:=by
 have hlen:=bG.iG v.kids
 intro m
 induction m with
 | zero =>
  intro i acc hi ha
  refine bJ.ew _ _ _ _ _ _ _ _ ?_
  intro v1 h1 v2 h2 v3 h3 v4 h4
  rw [af (by omega),aj,aI (by omega),Dk.items,aO]
 | succ m ih =>
  intro i acc hi ha
  refine bJ.ew _ _ _ _ _ _ _ _ ?_
  intro v1 h1 v2 h2 v3 h3 v4 h4
  rw [aK] at h2
  have hg:=bG.jo v.kids i (eJ.fc .fl) (by omega)
  have hfn:=Tree.mF v.kids i (eJ.fc .fl) (by omega) hf
  rw [←h2] at hg hfn
  have hv:=bG.mH v2
  have F7:v3=[Dk.item v2]:=by rw [h3,bD.gr,Dk.pN]
  rw [aa (by omega),aq,bK (fO (by omega) (by omega)),aa (show 2 * bG.cA (bG.of [] v2.val)+1<n by omega),aa (show bG.cA (bG.of [] v2.val)≤1048576 by omega),Tree.pU v2 hfn,aM,aM,cV,
   bK (fE (by rw [F7];simp only [aF,aA];omega) (by rw [F7];simp only [aF,aA];omega)),show v4=((i+1:Nat):Int) by rw [h4,i64_in _ (by omega)];omega,F7,ih _ _ (by omega) (by simp only [aw,aF,aA];omega),drop_cons (l:=v.kids) (i:=i) (by omega) (eJ.fc .fl),←h2,Dk.items,aU];rfl
theorem Dk.ji (v:bE) (m l:List bD) (b:bS) (h1:v.kind≠1) (h2:v.kind≠2) (h3:v.kind≠3) (h4:v.kind≠4) (h5:v.kind≠5) (h6:v.kind≠10) (h7:v.kind≠8) (h8:v.kind≠16) (hb:Dk.inner v (Mp.lay (Db.map m))=b):Dk.gz v m l=Dk.ext v.kind b:=by
 rw [Dk.gz,ah h1,ah h2,ah h3,ah (fun h=>h4 h.1),ah (fun h=>h5 h.1),ah h6,ah h7,ah h8,hb]
theorem bJ.qS (n:Nat) (v:bE) (x1:Bool) (x3:bM) (hx:x1=decide (v.kind=13∨v.kind=14)) (hb:bG.cA (bG.of [] v)≤1048576) (hf:Tree.jF (bG.of [] v)=true) (hn:2 * bG.cA (bG.of [] v)+1<n+1)
  (a1:v.kind≠1) (a2:v.kind≠2) (a3:v.kind≠3) (a4:v.kind≠4) (a5:v.kind≠5) (ug:v.kind≠10) (a8:v.kind≠8) (a7:v.kind≠7) (a9:¬(v.kind=9∨v.kind=17∨v.kind=18)) (nd:v.kind≠11) (a12:v.kind≠12) :
  bJ.j3 n v.kind x1 v x3=some [.ag (bM.cells (bD.val (Dk.gz v (Dk.mapped v.kids) (Dk.items v.kids))))]:=by
 obtain ⟨b1,b2,b3,b4,b5,b6⟩:=bE.bounds hb
 have hk:=((Tree.iY [] v).1 hf).2.2
 have qz:bG.cE v.kids≤1048576:=by omega
 have Q0:=Dk.sv v.kids
 refine bJ.sA _ _ _ _ _ ?_
 intro v1 e1 v2 e2 v3 e3 v4 e4 v5 e5 v6 e6 v7 e7 v8 e8
 rw [bD.gr] at e3
 rw [hx]
 have l2:v2.length=4:=by rw [e2];exact cM.fM _ _
 have l7:v7.length=8:=by rw [e7];exact cM.fM _ _
 have l8:v8.length=8:=by rw [e8];exact cM.fM _ _
 by_cases a:v.kind=13∨v.kind=14
 ·rw [aa a,aq,bK (qv (by omega)),Dk.ji v _ _ v.text a1 a2 a3 a4 a5 ug a8 (by omega)]
  rw [Dk.inner,ah a4,ah a5,ah a7,ah a9,ah nd,ah a12,ao a]
 rw [af a,aj]
 by_cases c:v.kind=15
 ·rw [aa c,aq,bK (by decide),bK (kS (by omega) (by decide)),aa qz,hk,aa (show 2 * bG.cE v.kids+2<n by omega),aM,aM,cV,
   bD.gr,aa (Dk.uN _ hk qz),aa (show 16 * bD.cA (Db.map (Dk.mapped v.kids))≤1099511627776 by omega),aM,cV,
   bK (kS (by rw [aw,e3];omega) (by decide)),Dk.ji v _ _ v4 a1 a2 a3 a4 a5 ug a8 (by omega)]
  rw [Dk.inner,ah a4,ah a5,ah a7,ah a9,ah nd,ah a12,ah a,ao c,e4,e3,e2,e1];rfl
 rw [af c,aj]
 by_cases zu:v.kind=16
 ·have hr:=rH (v.bits.toNat:Int)
  have e:IntKind.i64.wrap v6=Db.i32 v.bits:=by rw [e6,e5,Eo,yX];rfl
  rw [aa zu,aq,e,bK (aa (by unfold Db.i32;omega)),Dk.gz,ah a1,ah a2,ah a3,ah (fun h=>a4 h.1),ah (fun h=>a5 h.1),ah ug,ah a8,ao zu]
 rw [af zu,aj]
 by_cases d:v.kind=19
 ·rw [aa d,aq,bK (by decide),bK (by decide),bK (kS (by omega) (by decide)),Dk.ji v _ _ (v7++v8) a1 a2 a3 a4 a5 ug a8 zu]
  rw [Dk.inner,ah a4,ah a5,ah a7,ah a9,ah nd,ah a12,ah a,ah c,ao d,e7,e8];rfl
 rw [af d,aj,Dk.ji v _ _ [] a1 a2 a3 a4 a5 ug a8 zu]
 rw [Dk.inner,ah a4,ah a5,ah a7,ah a9,ah nd,ah a12,ah a,ah c,ah d]
theorem bJ.jM (n:Nat) (v:bE) (x1:Bool) (x3:bM) (hx:x1=decide (v.kind=9∨v.kind=17∨v.kind=18)) (hb:bG.cA (bG.of [] v)≤1048576) (hf:Tree.jF (bG.of [] v)=true) (hn:2 * bG.cA (bG.of [] v)+1<n+1)
  (a1:v.kind≠1) (a2:v.kind≠2) (a3:v.kind≠3) (a4:v.kind≠4) (a5:v.kind≠5) (ug:v.kind≠10) (a8:v.kind≠8) (a7:v.kind≠7) :
  bJ.j2 n v.kind x1 v x3=some [.ag (bM.cells (bD.val (Dk.gz v (Dk.mapped v.kids) (Dk.items v.kids))))]:=by
 obtain ⟨b1,b2,b3,b4,b5,b6⟩:=bE.bounds hb
 refine bJ.ng _ _ _ _ _ ?_
 intro v1 e1 v2 e2 v3 e3
 rw [hx]
 by_cases a9:v.kind=9∨v.kind=17∨v.kind=18
 ·rw [aa a9,aq,bK (by decide),Dk.ji v _ _ v1 a1 a2 a3 a4 a5 ug a8 (by omega)]
  rw [e1,Dk.inner,ah a4,ah a5,ah a7,ao a9];rfl
 rw [af a9,aj]
 by_cases nd:v.kind=11
 ·have l2:v2.length=v.text.length+1:=by rw [e2,aw];rfl
  rw [aa nd,aq,bK (qv (by omega)),bK (kS (by simp only [aF,aA];omega) (by decide)),bK (kS (by omega) (by decide)),Dk.ji v _ _ (v2++v.more) a1 a2 a3 a4 a5 ug a8 (by omega)]
  rw [e2,Dk.inner,ah a4,ah a5,ah a7,ah a9,ao nd,aU];rfl
 rw [af nd,aj]
 by_cases a12:v.kind=12
 ·have l3:v3.length=v.bytes.length:=by rw [e3,bA]
  rw [aa a12,aq,bK (kS (by simp only [aA];omega) (by decide)),bK (kS (by omega) (by decide)),Dk.ji v _ _ (v3++v.text) a1 a2 a3 a4 a5 ug a8 (by omega)]
  rw [e3,Dk.inner,ah a4,ah a5,ah a7,ah a9,ah nd,ao a12,bA]
 rw [af a12,aj]
 by_cases rP:v.kind=13
 ·rw [aa rP,aq]
  exact bJ.qS n v _ x3 (by rw [aa (Or.inl rP)]) hb hf hn a1 a2 a3 a4 a5 ug a8 a7 a9 nd a12
 ·rw [af rP,aj]
  exact bJ.qS n v _ x3 (bC.2 ⟨.inr,fun h=>h.resolve_left rP⟩) hb hf hn a1 a2 a3 a4 a5 ug a8 a7 a9 nd a12
theorem bJ.goal (n:Nat) (v:bE) (hp:((decide (bG.cA (bG.of [] v)≤1048576)&&Tree.jF (bG.of [] v))&&decide ((2 * bG.cA (bG.of [] v)+1)<n+1))=true):bJ.F n v=some [.ag (bM.cells (bD.val (Dk.item (bG.of [] v))))]:=by
 obtain ⟨⟨h1,hf⟩,h3⟩:=zL hp
 have hb:=aD h1
 have hn:=aD h3
 obtain ⟨b1,b2,b3,b4,b5,b6⟩:=bE.bounds hb
 have hk:=((Tree.iY [] v).1 hf).2.2
 have qz:bG.cE v.kids≤1048576:=by omega
 have Q0:=Dk.sv v.kids
 refine bJ.dV _ _ ?_
 intro v1 e1 v2 e2 v3 e3 v4 e4
 rw [bD.gr] at e2
 rw [Dk.yU]
 by_cases a1:v.kind=1
 ·rw [aa a1,aq,Dk.gz,ao a1];rfl
 rw [af a1,aj]
 by_cases a2:v.kind=2
 ·rw [aa a2,aq,Dk.gz,ah a1,ao a2]
 rw [af a2,aj]
 by_cases a3:v.kind=3
 ·rw [aa a3,aq,Dk.gz,ah a1,ah a2,ao a3,aa qz,hk,aa (show 2 * bG.cE v.kids+2<n by omega),aM,aM,cV]
 rw [af a3,aj]
 by_cases a4:v.kind=4
 ·rw [aa a4,aq,bK (aa (by omega)),e1,Dk.gz,ah a1,ah a2,ah a3]
  by_cases r:Tree.regular v.kids=true
  ·rw [r,aV,aj,ao ⟨a4,rfl⟩]
   have:=bJ.fN n v qz hk (by omega) (bM.mk 0 0 [] [] []) 5 0 [] v.kids.length 0 [] (by omega) (by simp;omega)
   rw [bg,bA] at this
   exact this
  ·rw [show Tree.regular v.kids=false by simpa using r,aX,aq,ah (fun h=>by cases h.2),ah (fun h=>by omega),ah (by omega),ah (by omega),ah (by omega)]
   rw [aa qz,hk,aa (show 2 * bG.cE v.kids+2<n by omega),aM,aM,cV,
    bD.gr,aa (Dk.uN _ hk qz),aa (show 16 * bD.cA (Db.map (Dk.mapped v.kids))≤1099511627776 by omega),aM,cV,e2,Dk.inner,ao a4]
 rw [af a4,aj]
 by_cases a5:v.kind=5
 ·rw [aa a5,aq,Dk.gz,ah a1,ah a2,ah a3,ah (fun h=>a4 h.1)]
  by_cases s:v.sub=0
  ·rw [aa s,aq,ao ⟨a5,s⟩];rfl
  ·rw [af s,aj,ah (fun h=>s h.2),ah (by omega),ah (by omega),ah (by omega),bK (kS (by rw [e3];simp only [aF,aA];omega) (by decide)),e3,Dk.inner,ah a4,ao a5];rfl
 rw [af a5,aj]
 by_cases ug:v.kind=10
 ·rw [aa ug,aq,Dk.gz,ah a1,ah a2,ah a3,ah (fun h=>a4 h.1),ah (fun h=>a5 h.1),ao ug];rfl
 rw [af ug,aj]
 by_cases a8:v.kind=8
 ·rw [aa a8,aq,Dk.gz,ah a1,ah a2,ah a3,ah (fun h=>a4 h.1),ah (fun h=>a5 h.1),ah ug,ao a8,e4];rfl
 rw [af a8,aj]
 by_cases a7:v.kind=7
 ·rw [aa a7,aq,Dk.ji v _ _ v.bytes a1 a2 a3 a4 a5 ug a8 (by omega)]
  rw [Dk.inner,ah a4,ah a5,ao a7]
 rw [af a7,aj]
 by_cases a9:v.kind=9
 ·rw [aa a9,aq]
  exact bJ.jM n v _ _ (by rw [aa (Or.inl a9)]) hb hf hn a1 a2 a3 a4 a5 ug a8 a7
 rw [af a9,aj]
 by_cases uf:v.kind=17
 ·rw [aa uf,aq]
  exact bJ.jM n v _ _ (by rw [aa (Or.inr (Or.inl uf))]) hb hf hn a1 a2 a3 a4 a5 ug a8 a7
 rw [af uf,aj]
 exact bJ.jM n v _ _ (bC.2 ⟨fun h => .inr (.inr h),fun h=>(h.resolve_left a9).resolve_left uf⟩) hb hf hn a1 a2 a3 a4 a5 ug a8 a7
theorem dF.goal (v:bE) (hp:decide (bG.cA (bG.of [] v)≤1048576)=true):dF.F v=some [.ag (bM.cells (bD.val (Dk.enc v).1)),.ag (ez.cells (Dk.enc v).2)]:=by
 have hb:=aD hp
 obtain ⟨b1,b2,b3,b4,b5,b6⟩:=bE.bounds hb
 refine dF.dV _ ?_
 intro v1 e1 v2 e2 v3 e3
 rw [bK (aa (by omega))]
 unfold Dk.enc
 by_cases a:(Tree.ga (bG.of [] v) []).2=0
 ·have hf:=(Tree.nR _ _).1 a
  have hk:=((Tree.iY [] v).1 hf).2.2
  rw [e2,aa a,aV,aj,ah (by simpa using a)]
  by_cases b:v.kind=3
  ·rw [aa b,aV,aj,ah (by simpa using b),bK (aa (by omega)),e3]
   by_cases c:200<Tree.depth (bG.of [] v)
   ·rw [aa (by omega),aq,ao c];rfl
   ·rw [af (by omega),aj,ah c,aa (show bG.cE v.kids≤1048576 by omega),hk,aM,cV];rfl
  ·rw [af b,aX,aq,ao b];rfl
 ·rw [e2,af a,aX,aq,ao a,e1];rfl
end Go.Eng
namespace Go.Eng
open Go.IntWalk
theorem eF.goal (b:bS) (hp:decide (b.length≤1099511627776)=true):eF.F b=some [.b (dK.whole b)]:=by
 rw [eF.fR,bK hp]
theorem eH.goal (p:List Int) (hp:decide (p.length≤1099511627776)=true):eH.F p=some [.ag (ez.cells (ez.mk 12 0 p)),.sl .is p]:=by
 have h:=aD hp
 rw [eH.fR,bK (fE (by omega) (by omega))];rfl
theorem dN.fN (b:bS) (hb:b.length≤1099511627776):∀(m i:Nat) (x:UInt64),i+m=b.length→dN.l1 x b (b.length:Int) i=some [.u64 ((b.drop i).foldl (fun v x=>v * 256+x.toUInt64) x)]:=by
 intro m
 induction m with
 | zero =>
  intro i x hi
  refine dN.ew _ _ _ _ ?_
  intro v1 e1 v2 e2 v3 e3 v4 e4
  rw [af (by omega),aj,aI (by omega)];rfl
 | succ m ih =>
  intro i x hi
  refine dN.ew _ _ _ _ ?_
  intro v1 e1 v2 e2 v3 e3 v4 e4
  rw [aK] at e1
  rw [aa (by omega),aq,bK (fO (by omega) (by omega)),drop_cons (l:=b) (i:=i) (by omega) 0,List.foldl_cons,←e1,show v4=((i+1:Nat):Int) by rw [e4,i64_in _ (by omega)];omega,ih _ _ (by omega),e2,e3,show (8:UInt64).toNat=8 from rfl,zn]
theorem dN.goal (b:bS) (hp:decide (b.length≤1099511627776)=true):dN.F b=some [.u64 (cM.be b)]:=by
 have h:=aD hp
 rw [dN.fR]
 exact dN.fN b h _ 0 0 (Nat.zero_add _)
theorem dm.fN (n:Nat) (l:List bD) (path:List Int) (within:Int) (v:bE) (x4:bE) (x5:ez) (hw:0≤within∧within≤200) (hb:(Mp.fF l).length+path.length≤536870912) (hn:4 * (Mp.fF l).length+2<n) (hc:Mp.gw l=0):∀(m i:Nat) (acc:List bG),i+2 * m=l.length→acc.length+m≤600000000 →
  dm.l1 n l within i ⟨v.kind,v.bits,v.high,v.low,v.text,v.more,v.sub,v.bytes,acc⟩ x4 x5 path=some (Db.jd.A3 (((Dk.fields (200 - within).toNat (l.drop i) i path).app acc).qZ v) path):=by
 have hlen:=Mp.jL l
 intro m
 induction m with
 | zero =>
  intro i acc hi ha
  refine dm.ew _ _ _ _ _ _ _ _ ?_
  intro v1 h1 v2 h2 v3 h3 v4 h4 v5 h5 v6 h6 v7 h7 v8 h8 v9 h9 v10 lZ
  rw [af (by omega),aj,aI (by omega),Dk.sK]
  simp only [Db.ir.app,aO,Db.ir.qZ];rfl
 | succ m ih =>
  intro i acc hi ha
  refine dm.ew _ _ _ _ _ _ _ _ ?_
  intro v1 h1 v2 h2 v3 h3 v4 h4 v5 h5 v6 h6 v7 h7 v8 h8 v9 h9 v10 lZ
  have e6:v6=((i+1:Nat):Int):=by rw [h6,i64_in _ (by omega)];omega
  rw [e6] at h7 h8
  rw [aK] at h1 h3
  rw [aK,bD.gr] at h7 h8
  have hd:l.drop i=l.getD i (eJ.fc .il) :: l.getD (i+1) (eJ.fc .il) :: l.drop (i+2):=by
   rw [drop_cons (show i<l.length by omega) (eJ.fc .il),drop_cons (show i+1<l.length by omega) (eJ.fc .il)]
  have KK:=Mp.tM l i
  have HR:=Mp.qF l i hc
  rw [hd] at KK HR
  simp only [Mp.fF,aw] at KK
  have gK:=Mp.uR (l.getD i (eJ.fc .il))
  obtain ⟨_,HR⟩:=Mp.iV HR
  obtain ⟨KE,_⟩:=Mp.iV HR
  have hz:decide (0≤Lib.indexByte v3 (([0]:bS).getD 0 0))=dK.zero v3:=iO 0 v3
  have e2:v2=decide (v1=4):=by rw [h2,Bool.not_not]
  rw [hz] at h4
  have i0:eK (i:Int) l.length=true:=fO (by omega) (by omega)
  rw [hd,Dk.ra,←h1,←h3]
  rw [e6,aK,bD.gr]
  generalize l.getD (i+1) (eJ.fc .il)=x at h7 h8 KK KE
  simp only [i0,show decide ((([0]:bS)).length=1)=true from rfl,Bool.and_true,aM,aP,cV]
  rw [aa (by omega),aq,bK (by rw [e2];cases decide (v1=4) <;> rfl)]
  by_cases bad:v1≠4∨dK.zero v3=true
  ·have e4:v4=true:=by
    rw [h4]
    by_cases x:v1=4
    ·rw [aa x,bad.resolve_left (fun h=>h x)];rfl
    ·rw [af x];rfl
   rw [e4,aq,ao bad,bK (fE (by simp only [aQ];omega) (by simp only [aQ];omega)),bK (aa (by simp only [aw,aQ];omega)),h5];rfl
  ·have e4:v4=false:=by
    simp only [not_or,Classical.not_not,ne_eq] at bad
    rw [h4,aa bad.1,Bool.eq_false_iff.2 bad.2];rfl
   rw [e4,aj,ah bad,bK (fO (by omega) (by omega)),bK (fE (by simp only [aQ];omega) (by simp only [aQ];omega)),bK (by
    rw [aa (show (Mp.lay x).length+(path++[((i+1:Nat):Int)]).length≤536870912 by simp only [aw,aQ];omega),aa (show Mp.di x=0∧0≤within∧within≤200 from ⟨KE,hw⟩),aa (show 4 * (Mp.lay x).length<n by omega)];rfl)]
   cases hv:Dk.value (200 - within).toNat x (path++[((i+1:Nat):Int)]) with
   | bad q =>
    rw [hv] at h8
    rw [h8];rfl
   | ok w =>
    rw [hv] at h7 h8
    have RA:v7=w:=h7
    have F6:v8=⟨0,0,[]⟩:=h8
    have Td:v9.length=1:=by rw [h9];rfl
    rw [F6,show (!decide ((ez.mk 0 0 []).err=0))=false from rfl,aj,bK (fE (by show (acc.length+v9.length) * 136≤_;omega) (by show acc.length+v9.length≤_;omega)),lZ,i64_in _ (by omega),show (i:Int)+2=((i+2:Nat):Int) by omega]
    refine (ih (i+2) (acc++v9) (by omega) (by rw [aw];omega)).trans ?_
    rw [h9,RA]
    simp only
    rw [Db.ir.zr];rfl
theorem dm.goal (n:Nat) (v:bE) (l:List bD) (path:List Int) (within:Int) (hp:((decide ((Mp.fF l).length+path.length≤536870912)&&decide (Mp.gw l=0∧l.length % 2=0∧0≤within∧within≤200))&&decide ((4 * (Mp.fF l).length+3)<n+1))=true) :
  dm.F n v l path within=some (Db.jd.A3 ((Dk.fields (200 - within).toNat l 0 path).qZ ⟨v.kind,v.bits,v.high,v.low,v.text,v.more,v.sub,v.bytes,[]⟩) path):=by
 simp only [ae,aB] at hp
 obtain ⟨⟨hb,hc,he,hw⟩,hn⟩:=hp
 have hlen:=Mp.jL l
 rw [dm.fR]
 have:=dm.fN n l path within ⟨v.kind,v.bits,v.high,v.low,v.text,v.more,v.sub,v.bytes,[]⟩ Db.zero ⟨0,0,[]⟩ hw hb (by omega) hc (l.length / 2) 0 [] (by omega) (by simp only [aA];omega)
 rw [bg,Db.ir.zq] at this
 exact this
theorem cC.oy (n:Nat) (l:List bD) (path:List Int) (within:Int) (x4:bE) (x5:ez) (v:bE) (hw:0≤within∧within≤200) (hb:(Mp.fF l).length+1+path.length≤536870912) (hn:4 * (Mp.fF l).length<n) (hc:Mp.gw l=0):∀(m i:Nat) (acc:List bG),i+m=l.length→acc.length+m≤600000000 →
  cC.l2 n within l (l.length:Int) i x4 x5 ⟨v.kind,v.bits,v.high,v.low,v.text,v.more,v.sub,v.bytes,acc⟩ path=some (Db.jd.A3 (((Dk.elems (200 - within).toNat (l.drop i) i path).app acc).qZ v) path):=by
 have hlen:=Mp.jL l
 intro m
 induction m with
 | zero =>
  intro i acc hi ha
  refine cC.lH _ _ _ _ _ _ _ _ _ ?_
  intro v1 h1 v2 h2 v3 h3 v4 h4
  rw [af (by omega),aj,aI (by omega),Dk.At]
  simp only [Db.ir.app,aO,Db.ir.qZ];rfl
 | succ m ih =>
  intro i acc hi ha
  refine cC.lH _ _ _ _ _ _ _ _ _ ?_
  intro v1 h1 v2 h2 v3 h3 v4 h4
  rw [aK,bD.gr] at h1 h2
  have hd:l.drop i=l.getD i (eJ.fc .il) :: l.drop (i+1):=drop_cons (show i<l.length by omega) (eJ.fc .il)
  have KK:=Mp.yS l i (eJ.fc .il) (by omega)
  have HR:=Mp.qF l i hc
  rw [hd] at HR
  obtain ⟨KE,_⟩:=Mp.iV HR
  rw [hd,Dk.yf,aK,bD.gr]
  generalize l.getD i (eJ.fc .il)=x at h1 h2 KK KE
  rw [aa (by omega),aq,bK (fO (by omega) (by omega)),bK (fE (by simp only [aQ];omega) (by simp only [aQ];omega)),bK (by
    rw [aa (show (Mp.lay x).length+(path++[(i:Int)]).length≤536870912 by simp only [aw,aQ];omega),aa (show Mp.di x=0∧0≤within∧within≤200 from ⟨KE,hw⟩),aa (show 4 * (Mp.lay x).length<n by omega)];rfl)]
  cases hv:Dk.value (200 - within).toNat x (path++[(i:Int)]) with
  | bad q =>
   rw [hv] at h2
   rw [h2];rfl
  | ok w =>
   rw [hv] at h1 h2
   have KU:v1=w:=h1
   have te:v2=⟨0,0,[]⟩:=h2
   have F7:v3.length=1:=by rw [h3];rfl
   rw [te,show (!decide ((ez.mk 0 0 []).err=0))=false from rfl,aj,bK (aa (by omega)),bK (fE (by show (acc.length+v3.length) * 136≤_;omega) (by show acc.length+v3.length≤_;omega)),h4,i64_in _ (by omega),show (i:Int)+1=((i+1:Nat):Int) by omega]
   refine (ih (i+1) (acc++v3) (by omega) (by rw [aw];omega)).trans ?_
   rw [h3,KU,we]
   simp only
   rw [Db.ir.zr];rfl
theorem cC.lu (n:Nat) (x0:bE) (x1:ez) (p:List Int) (h:p.length≤1099511627776):cC.j1 n x0 x1 p=some (Db.jd.A3 (.bad p) p):=by
 rw [cC.lv,bK (aa h)];rfl
theorem rU {n:UInt64} (h:20≤n∧n≤22):n=20∨n=21∨n=22:=by
 have h1:(20:UInt64).toNat≤n.toNat:=aJ.1 h.1
 have h2:n.toNat≤(22:UInt64).toNat:=aJ.1 h.2
 have e1:(20:UInt64).toNat=20:=rfl
 have e2:(22:UInt64).toNat=22:=rfl
 rcases (by omega:n.toNat=20∨n.toNat=21∨n.toNat=22) with e | e | e
 ·exact .inl (aZ.1 e)
 ·exact .inr (.inl (aZ.1 e))
 ·exact .inr (.inr (aZ.1 e))
theorem cC.goal (n:Nat) (it:bM) (path:List Int) (within:Int) (hp:((decide ((Mp.lay (bD.of it)).length+path.length≤536870912)&&decide (Mp.di (bD.of it)=0∧0≤within∧within≤200))&&decide ((4 * (Mp.lay (bD.of it)).length)<n+1))=true) :
  cC.F n it path within=some (Db.jd.A3 (Dk.value (200 - within).toNat (bD.of it) path) path):=by
 simp only [ae,aB] at hp
 obtain ⟨⟨hb,hc,hw⟩,hn⟩:=hp
 obtain ⟨ho,hk⟩:=Mp.Fa it hc
 obtain ⟨o1,o2,o3,o4,o5,o6,o7,o8,o9,Iu⟩:=Mp.HT it ho
 have hs:1+it.bytes.length+it.text.length+(Mp.fF it.kids).length≤(Mp.lay (bD.of it)).length:=(Mp.jh (bD.of it)).2
 rw [Dk.value_of]
 refine cC.dV _ _ _ _ ?_
 intro v1 e1 v2 e2 v3 e3 v4 e4 v5 e5 v6 e6 v7 e7 v8 e8 v9 e9 v10 th v11 vv v12 yh kN Au jc sZ
 have hj:=fun x0 x1=>cC.lu n x0 x1 path (by omega)
 by_cases k9:it.kind=9
 ·rw [aa k9,aq,ah (by omega),ah (by omega),ah (by omega),Db.leaf,ao k9];rfl
 rw [af k9,aj]
 by_cases k4:it.kind=4
 ·rw [aa k4,aq,ah (by omega),ah (by omega),ah (by omega),Db.leaf,ah k9,ao k4];rfl
 rw [af k4,aj]
 by_cases k3:it.kind=3
 ·rw [aa k3,aq,ah (by omega),ah (by omega),ah (by omega),Db.leaf,ah k9,ah k4,ao k3,bK (fE (by omega) (by omega))];rfl
 rw [af k3,aj]
 by_cases k8:it.kind=8
 ·rw [aa k8,aq,ah (by omega),ah (by omega),ah (by omega),Db.leaf,ah k9,ah k4,ah k3,ao k8]
  have CC:=rU (o7 k8)
  subst e1 e2 e3 e4 e5 e6 e7
  rcases CC with e | e | e <;> rw [e] <;> rfl
 rw [af k8,aj]
 by_cases k1:it.kind=1
 ·rw [aa k1,aq,ah (by omega),ah (by omega),ah (by omega),Db.leaf,ah k9,ah k4,ah k3,ah k8,k1]
  obtain ⟨q1,q2⟩:=Dk.KM it.n it.bytes it.text []
  rw [q1]
  by_cases s:it.n<2147483648
  ·rw [aa s,aq,ao rfl,q2 s];rfl
  ·rw [af s,aj,hj];rfl
 rw [af k1,aj]
 by_cases k2:it.kind=2
 ·rw [aa k2,aq,ah (by omega),ah (by omega),ah (by omega),Db.leaf,ah k9,ah k4,ah k3,ah k8,k2]
  obtain ⟨q1,q2⟩:=Dk.KL it.n it.bytes it.text [] (o6 k2)
  rw [q1]
  by_cases s:it.n<2147483648
  ·rw [aa s,aq,ao rfl,q2 s,e9,e8];rfl
  ·rw [af s,aj,hj];rfl
 rw [af k2,aj]
 by_cases k6:it.kind=6
 ·rw [aa k6,aq,ao k6,aa (show (Mp.fF it.kids).length+path.length≤536870912 by omega),aa (show Mp.gw it.kids=0∧it.kids.length % 2=0∧0≤within∧within≤200 from ⟨hk,o9 k6,hw⟩),aa (show 4 * (Mp.fF it.kids).length+3<n by omega),aM,aM,cV,th,vv];rfl
 rw [af k6,aj,ah k6]
 by_cases k5:it.kind=5
 ·rw [aa k5,aq,ao k5,yh]
  have:=cC.oy n it.kids path within (bE.mk 0 0 0 0 [] [] 0 [] []) ⟨0,0,[]⟩ (Db.doc 4 []) hw (by omega) (by omega) hk it.kids.length 0 [] (by omega) (by have:=Mp.jL it.kids;simp only [aA];omega)
  rw [bg,Db.ir.zq] at this
  exact this
 rw [af k5,aj,ah k5]
 by_cases AQ:it.kind=10
 ·rw [aa AQ,aq,ao AQ,aa (show it.bytes.length≤536870912∧it.n≤127∧0≤within∧within≤200 from ⟨by omega,o8 AQ,hw⟩),aa (show 4 * it.bytes.length+2<n by omega),aM,cV,Au,sZ]
  cases (Dk.ig (200 - within).toNat it.n it.bytes).2
  ·rw [aj,hj,ah (by decide)];rfl
  ·rw [aq,ao rfl];rfl
 omega
end Go.Eng
namespace Go.Eng
open Go.IntWalk
namespace Dk
open Db (jd ir)
theorem tI {x:bD} (hc:Mp.di x=0) (hk:x.kind=6):Mp.gw x.kids=0∧x.kids.length % 2=0∧(Mp.fF x.kids).length+1≤(Mp.lay x).length:=by
 have h1:=Mp.Fa x.val (by rw [bD.gr];exact hc)
 have h2:=(Mp.jh x).2
 obtain ⟨o1,o2,o3,o4,o5,o6,o7,o8,o9,Iu⟩:=Mp.HT x.val h1.1
 exact ⟨h1.2,o9 hk,by omega⟩
theorem vj {c:bS} (he:(Mp.dec c 1000).2.err=0) (hk:(Mp.dec c 1000).1.kind=6):Mp.gw (Mp.dec c 1000).1.kids=0∧(Mp.dec c 1000).1.kids.length % 2=0∧(Mp.fF (Mp.dec c 1000).1.kids).length+1≤c.length:=by
 have h:=(Mp.nT c 1000).1 he
 have:=tI h.1 hk
 rw [h.2.1] at this
 exact this
theorem yW (d:Nat) (c:bS):Ls d c=if (Mp.dec c 1000).2.err≠0∨(Mp.dec c 1000).1.kind≠6 then none else match fields d (Mp.dec c 1000).1.kids 0 [] with
  | .ok l=>some l
  | .bad _=>none:=rfl
theorem vN (d:Nat) (v:bE) (c:bS):kH d v c=match Ls d c with
  | some l=>({ v with kids:=l },true)
  | none=>(Db.zero,false):=rfl
theorem Em {d:Nat} {c:bS} {l:List bG} (h:Ls d c=some l):l.length≤c.length:=by
 rw [yW] at h
 by_cases a:(Mp.dec c 1000).2.err≠0∨(Mp.dec c 1000).1.kind≠6
 ·rw [ao a] at h;cases h
 rw [ah a] at h
 simp only [not_or,Classical.not_not,ne_eq] at a
 have h1:=vj a.1 a.2
 have h2:=Mp.jL (Mp.dec c 1000).1.kids
 cases hf:fields d (Mp.dec c 1000).1.kids 0 [] with
 | bad q=>rw [hf] at h;cases h
 | ok l' =>
  rw [hf] at h
  injection h with h
  subst h
  have:=sL d _ _ _ _ hf
  omega
def two (r:bE × Bool):List TV:=[.ag (bE.cells r.1),.b r.2]
end Dk
theorem fv.goal (n:Nat) (v:bE) (b:bS) (within:Int) (hp:(decide (b.length≤536870912∧0≤within∧within<200)&&decide ((4 * b.length+1)<n+1))=true):fv.F n v b within=some (Dk.two (Dk.kH (199 - within).toNat ⟨v.kind,v.bits,v.high,v.low,v.text,v.more,v.sub,v.bytes,[]⟩ b)):=by
 simp only [ae,aB] at hp
 obtain ⟨⟨hb,hw⟩,hn⟩:=hp
 refine fv.dV _ _ _ _ ?_
 intro v1 h1 v2 h2 v3 h3 v4 h4 v5 h5 v6 h6 v7 h7 v8 h8
 have e2:v2=decide (v1.err=0):=by rw [h2,Bool.not_not]
 rw [bK (aa (by omega))]
 simp only [aP,cV]
 rw [bK (by rw [e2];cases decide (v1.err=0) <;> rfl),Dk.vN,Dk.yW,←h1,←h3]
 by_cases a:v1.err≠0∨v3≠6
 ·have e4:v4=true:=by
   rw [h4]
   by_cases x:v1.err=0
   ·rw [aa x,af (a.resolve_left (fun h=>h x))];rfl
   ·rw [af x];rfl
  rw [e4,aq,ao a];rfl
 ·have a':=a
  simp only [not_or,Classical.not_not,ne_eq] at a
  have e4:v4=false:=by rw [h4,aa a.1,aa a.2];rfl
  have hd:=Dk.vj (c:=b) (by rw [←h1];exact a.1) (by rw [←h3];exact a.2)
  rw [←h5] at hd
  have e6:v6=within+1:=by rw [h6,i64_in _ (by omega)]
  have ed:(200 - v6).toNat=(199 - within).toNat:=by omega
  rw [e4,aj,ah a',bK (by
   rw [aa (show (Mp.fF v5).length+([]:List Int).length≤536870912 by simp only [aA];omega),aa (show Mp.gw v5=0∧v5.length % 2=0∧0≤v6∧v6≤200 from ⟨hd.1,hd.2.1,by omega,by omega⟩),aa (show 4 * (Mp.fF v5).length+3<n by omega)];rfl)]
  rw [←h5]
  rw [ed] at h7 h8
  cases hf:Dk.fields (199 - within).toNat v5 0 [] with
  | ok l=>rw [hf] at h7 h8;rw [h7,h8];rfl
  | bad q=>rw [hf] at h7 h8;rw [h7,h8];rfl
theorem bY.wc (n:Nat) (R:bE→bS→bE × Bool) (b:bS) (k:Int) (x3:Bool) (x4:bE) (hb:b.length≤536870912) (hx:x3=decide (k=13∨k=14)) (a4:k≠4) (rf:k≠15) (a5:k≠5) (a7:k≠7) (a9:¬(k=9∨k=17∨k=18)) (nd:k≠11) (a12:k≠12) :
  bY.j4 n b false k x3 x4 k 0 0 0 [] [] 0 []=some (Dk.two (Dk.mG R k b)):=by
 refine bY.Cn _ _ _ _ _ _ _ _ _ _ _ _ _ _ ?_
 intro v1 e1 v2 e2
 rw [hx,Dk.mG,ah a4,ah rf,ah a5,ah a7,ah a9,ah nd,ah a12]
 by_cases a:k=13∨k=14
 ·rw [aa a,aq,ao a,bK (aa (by omega)),bY.jw];rfl
 rw [af a,aj,ah a]
 by_cases c:k=19
 ·rw [aa c,aq,ao c]
  by_cases s:b.length=16
  ·rw [aa (show (b.length:Int)=16 by omega),aq,ao s,bK (j9 (by omega) (by omega) (by omega)),bK (aa (by rw [e1,bo];omega)),bK (j9 (by omega) (by omega) (by omega)),bK (aa (by rw [e2,aW];omega)),bY.jw,e1,e2,c];rfl
  ·rw [af (show ¬(b.length:Int)=16 by omega),aj,ah s,bY.jw,c];rfl
 rw [af c,aj,ah c,bY.Cm,bY.Cm,bY.Cm]
 have he:decide ((b.length:Int)=0)=decide (b.length=0):=bC.2 (by omega)
 simp only [bY.jw,he]
 by_cases d:k=6
 ·rw [aa d,aq,aq,ao (.inl d)];rfl
 rw [af d,aj]
 by_cases f:k=255
 ·rw [aa f,aq,aq,ao (.inr (.inr f))];rfl
 rw [af f,aj]
 by_cases g:k=127
 ·rw [aa g,aq,ao (.inr (.inl g))];rfl
 ·rw [af g,aj,ah (by omega)];rfl
theorem bY.qS (n:Nat) (R:bE→bS→bE × Bool) (b:bS) (k:Int) (x3:Bool) (x4:bE) (hb:b.length≤536870912) (hx:x3=decide (k=9∨k=17∨k=18)) (a4:k≠4) (rf:k≠15) (a5:k≠5) (a7:k≠7) :
  bY.j3 n b false k x3 x4 k 0 0 0 [] [] 0 []=some (Dk.two (Dk.mG R k b)):=by
 refine bY.sA _ _ _ _ _ _ _ _ _ _ _ _ _ _ ?_
 intro v1 e1 v2 e2 v3 e3 v4 e4 v5 e5 v6 e6 v7 e7 v8 e8 v9 e9
 rw [hx]
 by_cases a9:k=9∨k=17∨k=18
 ·rw [aa a9,aq,Dk.mG,ah a4,ah rf,ah a5,ah a7,ao a9,bK (aa (by omega)),bY.jw,show decide ((b.length:Int)=8)=decide (b.length=8) from bC.2 (by omega)];rfl
 rw [af a9,aj]
 by_cases nd:k=11
 ·have l1:v1.length≤b.length:=by
   rw [e1];unfold Dk.cut;split
   ·rw [bo];omega
   ·exact Nat.le_refl _
  have l2:v2.length≤b.length:=by
   rw [e2];unfold Dk.cut;split
   ·rw [aW];omega
   ·exact Nat.zero_le _
  have hz:decide (0≤Lib.indexByte v2 (([0]:bS).getD 0 0))=dK.zero v2:=iO 0 v2
  rw [aa nd,aq,bK (aa ⟨rfl,by omega⟩)]
  rw [hz] at e4
  simp only [show decide ((([0]:bS)).length=1)=true from rfl,qv (show v1.length≤1000000000 by omega),qv (show v2.length≤1000000000 by omega),aa (show v1.length≤1099511627776 by omega),aa (show v2.length≤1099511627776 by omega),Bool.and_true,aP,cV]
  rw [bY.jw,Dk.mG,ah a4,ah rf,ah a5,ah a7,ah a9,ao nd,e6,e5,e4,nd]
  have f1:v1=(Dk.cut b 0).1:=e1
  have f2:v2=(Dk.cut b 0).2.1:=e2
  have f3:v3=(Dk.cut b 0).2.2:=e3
  rw [←f1,←f2,←f3]
  unfold Dk.two
  cases v3 <;> cases dK.zero v2 <;> cases dK.whole v1 <;> cases dK.whole v2 <;> rfl
 rw [af nd,aj]
 by_cases a12:k=12
 ·rw [aa a12,aq,Dk.mG,ah a4,ah rf,ah a5,ah a7,ah a9,ah nd,ao a12]
  have Iz:v7=b.drop 12:=e7
  have Iy:v9=b.take 12:=e9
  by_cases s:12≤b.length
  ·have l7:v7.length≤b.length:=by rw [Iz,aW];omega
   have l9:v9.length≤b.length:=by rw [Iy,bo];omega
   rw [aa (show (12:Int)≤b.length by omega),aq] at e8
   rw [aa (show (12:Int)≤b.length by omega),bK (by rw [j9 (show (0:Int)≤12 by omega) (show (12:Int)≤b.length by omega) (by omega)];rfl),bK (by rw [aa (show v7.length≤1099511627776 by omega)];rfl),bK (by rfl),e8]
   by_cases w:dK.whole v7=true
   ·rw [w,aq,bK (j9 (by omega) (by omega) (by omega)),bK (fE (by omega) (by omega)),bK (j9 (by omega) (by omega) (by omega)),bY.jw,ao ⟨s,by rw [←Iz];exact w⟩,←Iz,←Iy,a12];rfl
   ·rw [Bool.not_eq_true] at w
    rw [w,aj,bY.jw,ah (fun h=>by rw [←Iz,w] at h;exact absurd h.2 (by decide)),a12];rfl
  ·rw [af (show ¬(12:Int)≤b.length by omega),aj] at e8
   rw [af (show ¬(12:Int)≤b.length by omega),bK (by rfl),bK (by rfl),bK (by rfl),e8,aj,bY.jw,ah (fun h=>s h.1),a12];rfl
 rw [af a12,aj]
 by_cases rP:k=13
 ·rw [aa rP,aq]
  exact bY.wc n R b k _ x4 hb (by rw [aa (Or.inl rP)]) a4 rf a5 a7 a9 nd a12
 ·rw [af rP,aj]
  exact bY.wc n R b k _ x4 hb (bC.2 ⟨.inr,fun h=>h.resolve_left rP⟩) a4 rf a5 a7 a9 nd a12
end Go.Eng
namespace Go.Eng
open Go.IntWalk
namespace Dk
theorem Ee (d:Nat) (v:bE) (c:bS) (h0:v.kids=[]) (hb:c.length≤536870912):(kH d v c).1.kids.length≤1099511627776:=by
 rw [vN]
 cases h:Ls d c with
 | none=>show ([]:List bG).length≤_;simp
 | some l =>
  have:=Em h
  show l.length≤_
  omega
theorem Bd (b:bS) (h:4≤b.length):(UInt64.ofInt (IntKind.i64.wrap ((b.length:Int) - 4))<cM.be (b.take 4))=(b.length<4+iS b)∨536870912<b.length:=by
 by_cases hb:b.length≤536870912
 ·left
  apply propext
  rw [i64_in _ (by omega),aH]
  have e:(UInt64.ofInt ((b.length:Int) - 4)).toNat=b.length - 4:=by
   rw [show (b.length:Int) - 4=((b.length - 4:Nat):Int) by omega,jA];omega
  rw [e]
  unfold iS
  omega
 ·right;omega
theorem A6 (b:bS):List.drop 4 (List.take (4+iS b) b)=jV b:=by
 unfold jV
 rw [List.drop_take,show 4+iS b - 4=iS b by omega]
end Dk
theorem bY.lu (n:Nat) (within:Int) (b:bS) (k:Int) (x3:bE) (hb:b.length≤536870912) (hw:0≤within∧within≤200) (hn:4 * b.length+2<n+1) :
  bY.j1 n within b false x3 k 0 0 0 [] [] 0 []=some (Dk.two (if 200≤within then (Db.zero,false) else Dk.mG (Dk.kH (199 - within).toNat) k b)):=by
 refine bY.pL _ _ _ _ _ _ _ _ _ _ _ _ _ ?_
 intro v1 e1 v2 e2 v3 e3 v4 e4 v5 e5 v6 e6 v7 e7 v8 e8 v9 e9 v10 th v11 vv v12 yh kN Au jc sZ mM EZ lf Gd
 by_cases w:200≤within
 ·rw [aa w,aq,ao w];rfl
 rw [af w,aj,ah w]
 by_cases a4:k=4
 ·have hk:=Dk.Ee (199 - within).toNat (bE.mk k 0 0 0 [] [] 0 [] []) b rfl hb
  rw [←e1] at hk
  rw [aa a4,aq,aa (show b.length≤536870912∧0≤within∧within<200 by omega),aa (show 4 * b.length+1<n by omega),aM,cV,aa hk]
  simp only [Bool.and_true,aP,cV]
  rw [Dk.mG,ao a4]
  rw [a4] at e1 e2
  rw [show (Dk.kH (199 - within).toNat (Db.doc 4 []) b).1=v1 from e1.symm,show (Dk.kH (199 - within).toNat (Db.doc 4 []) b).2=v2 from e2.symm,←e3]
  cases v2 <;> rfl
 rw [af a4,aj]
 by_cases rf:k=15
 ·rw [aa rf,aq,Dk.mG,ah a4,ao rf]
  by_cases s:b.length<4
  ·have DF:v6=true:=by rw [e6,aa (show (b.length:Int)<4 by omega)];rfl
   rw [aa (show (b.length:Int)<4 by omega),DF,aq,ao (.inl s)]
   rfl
  ·have l4:v4.length≤1099511627776:=by rw [e4,bo];omega
   have hs:=(Dk.Bd b (by omega)).resolve_right (by omega)
   have PF:v4=b.take 4:=e4
   rw [←e5,←PF] at hs
   rw [af (show ¬(b.length:Int)<4 by omega),aj] at e6
   rw [af (show ¬(b.length:Int)<4 by omega)]
   simp only [aX,aV,Bool.false_or,Bool.true_and,cV,j9 (show (0:Int)≤0 by omega) (show (0:Int)≤4 by omega) (show (4:Int)≤b.length by omega),aa l4]
   by_cases t:b.length<4+Dk.iS b
   ·have DF:v6=true:=by rw [e6];exact aa (by rw [hs];exact t)
    rw [DF,aq,ao (.inr t)]
    rfl
   ·have DF:v6=false:=by rw [e6];exact af (by rw [hs];exact t)
    have Iz:v7=(Dk.iS b:Int):=by
     have:cM.be v4=cM.be (b.take 4):=by rw [PF]
     rw [e7,this,show (cM.be (b.take 4)).toNat=Dk.iS b from rfl,i64_in _ (by omega)]
    have Tp:v8=((4+Dk.iS b:Nat):Int):=by rw [e8,Iz,i64_in _ (by omega)];omega
    have ev:v8.toNat=4+Dk.iS b:=by omega
    have Iy:v9=Dk.jV b:=by rw [e9,ev];exact Dk.A6 b
    have l9:v9.length≤b.length:=by rw [Iy,Dk.jV,bo,aW];omega
    rw [ev,Iy,rf] at th vv
    rw [DF,aj,ah (by omega),bK (j9 (by omega) (by omega) (by omega)),bK (j9 (by omega) (by omega) (by omega)),ev,aa (show (b.drop (4+Dk.iS b)).length≤536870912∧0≤within∧within<200 from ⟨by rw [aW];omega,by omega,by omega⟩),aa (show 4 * (b.drop (4+Dk.iS b)).length+1<n by rw [aW];omega),aM,cV,
     j9 (show (0:Int)≤4 by omega) (show (4:Int)≤v8 by omega) (show v8≤b.length by omega),aa (show v9.length≤1099511627776 by omega)]
    simp only [Bool.and_true,aM,aP,cV]
    rw [show (Dk.kH (199 - within).toNat (Db.doc 15 (Dk.jV b)) (b.drop (4+Dk.iS b))).1=v10 from th.symm,show (Dk.kH (199 - within).toNat (Db.doc 15 (Dk.jV b)) (b.drop (4+Dk.iS b))).2=v11 from vv.symm,yh,Iy]
    cases v11 <;> rfl
 rw [af rf,aj]
 by_cases a5:k=5
 ·rw [aa a5,aq,Dk.mG,ah a4,ah rf,ao a5]
  have H6:kN=b.getD 0 0:=Au
  by_cases s:0<b.length
  ·have OQ:mM=(kN.toNat:Int):=by have:=kN.toNat_lt;rw [EZ,i64_in _ (by omega)]
   have H4:lf=b.drop 1:=Gd
   rw [aa (show (0:Int)<b.length by omega),aq] at sZ
   rw [aa (show (0:Int)<b.length by omega),fO (show (0:Int)≤0 by omega) (show (0:Int)<b.length by omega)]
   simp only [aM,aP,cV]
   by_cases z:kN=0
   ·have H5:jc=false:=by rw [sZ,aa z];rfl
    rw [H5,aj,bY.jw,ah (fun h=>h.2 (by rw [←H6];exact z)),a5];rfl
   ·have H5:jc=true:=by rw [sZ,af z];rfl
    rw [H5,aq,bK (j9 (by omega) (by omega) (by omega)),bK (fE (by rw [H4,aW];omega) (by rw [H4,aW];omega)),bY.jw,ao ⟨s,by rw [←H6];exact z⟩,a5,OQ,H4,H6];rfl
  ·rw [af (show ¬(0:Int)<b.length by omega),aj] at sZ
   rw [af (show ¬(0:Int)<b.length by omega),sZ]
   simp only [aX,Bool.true_or,cV,aj]
   rw [bY.jw,ah (fun h=>s h.1),a5];rfl
 rw [af a5,aj]
 by_cases a7:k=7
 ·rw [aa a7,aq,Dk.mG,ah a4,ah rf,ah a5,ao a7,bK (fE (by omega) (by omega)),bY.jw,a7,show decide ((b.length:Int)=12)=decide (b.length=12) from bC.2 (by omega)];rfl
 rw [af a7,aj]
 by_cases a9:k=9
 ·rw [aa a9,aq]
  exact bY.qS n _ b k _ x3 hb (by rw [aa (Or.inl a9)]) a4 rf a5 a7
 rw [af a9,aj]
 by_cases uf:k=17
 ·rw [aa uf,aq]
  exact bY.qS n _ b k _ x3 hb (by rw [aa (Or.inr (Or.inl uf))]) a4 rf a5 a7
 rw [af uf,aj]
 exact bY.qS n _ b k _ x3 hb (bC.2 ⟨fun h => .inr (.inr h),fun h=>(h.resolve_left a9).resolve_left uf⟩) a4 rf a5 a7
theorem Dk.EW (within:Int) (n:UInt64) (b:bS) (hw:0≤within∧within≤200):Dk.ig (200 - within).toNat n b=if 200≤within then (Db.zero,false) else Dk.mG (Dk.kH (199 - within).toNat) (Dk.kindOf n) b:=by
 by_cases w:200≤within
 ·rw [ao w,show (200 - within).toNat=0 by omega];rfl
 ·rw [ah w,show (200 - within).toNat=(199 - within).toNat+1 by omega];rfl
theorem bY.goal (n:Nat) (it:bM) (within:Int) (hp:(decide (it.bytes.length≤536870912∧it.n≤127∧0≤within∧within≤200)&&decide ((4 * it.bytes.length+2)<n+1))=true):bY.F n it within=some (Dk.two (Dk.ig (200 - within).toNat it.n it.bytes)):=by
 simp only [ae,aB] at hp
 obtain ⟨⟨hb,hn,hw⟩,hm⟩:=hp
 rw [Dk.EW within _ _ hw]
 refine bY.dV _ _ _ ?_
 intro v1 e1
 have h1:it.n.toNat≤127:=aJ.1 hn
 have DG:v1=(it.n.toNat:Int):=by rw [e1,i64_in _ (by omega)]
 have RF:(126:UInt64).toNat=126:=rfl
 rw [bY.lu n within it.bytes 255 _ hb hw hm,bY.lu n within it.bytes v1 _ hb hw hm,Dk.kindOf,DG]
 by_cases a:it.n=126
 ·rw [aa (show (it.n.toNat:Int)=126 by rw [a];rfl),aq,ao a]
 ·rw [af (show ¬(it.n.toNat:Int)=126 from fun h=>a (aZ.1 (by omega))),aj,ah a]
theorem eu.goal (it:bM) (hp:decide (bD.cA (bD.of it)≤1048576)=true):eu.F it=some [.ag (bE.cells (Dk.dec (bD.of it)).1),.ag (ez.cells (Dk.dec (bD.of it)).2)]:=by
 have hb:=aD hp
 have hl:=Mp.oh (bD.of it)
 refine eu.dV _ ?_
 intro v1 e1 v2 e2 v3 e3
 rw [bK (aa (by omega))]
 unfold Dk.dec
 by_cases a:Mp.di (bD.of it)=0
 ·rw [aa a,aV,aj,ah (by simpa using a)]
  by_cases k:it.kind=6
  ·have hm:=Dk.tI a (show (bD.of it).kind=6 from k)
   have pr:Mp.gw it.kids=0:=hm.1
   have qW:it.kids.length % 2=0:=hm.2.1
   have xV:(Mp.fF it.kids).length+1≤(Mp.lay (bD.of it)).length:=hm.2.2
   rw [aa k,aV,aj,ah (show ¬(bD.of it).kind≠6 from fun h=>h k),aa (show (Mp.fF it.kids).length+([]:List Int).length≤536870912 by simp only [aA];omega),aa (show Mp.gw it.kids=0∧it.kids.length % 2=0∧(0:Int)≤0∧(0:Int)≤200 from ⟨pr,qW,by omega,by omega⟩),aM,cV,e2,e3,Dk.value_of,ao k];rfl
  ·rw [af k,aX,aq,ao (show (bD.of it).kind≠6 from k),bK (by decide),e1];rfl
 ·rw [af a,aX,aq,ao a];rfl
end Go.Eng
namespace Go.Eng
open Go.IntWalk
namespace Dk
open Db (jd ir)
end Dk
theorem dc.goal:dc.F=some [.b true]:=by
 refine dc.dV ?_
 intro v1 h1 v2 h2 v3 h3 v4 h4 v5 h5 v6 h6 v7 h7 v8 h8 v9 h9 v10 lZ v11 yb v12 ya kN wN jc xZ mM Ai lf sH pC tg
 subst h1
 have e2:v2.err=0:=by rw [h2];decide +kernel
 have e4:v4.err=12:=by rw [h4];decide +kernel
 have e5:v5=6:=by rw [h5];decide +kernel
 have e7:v7.length=2:=by rw [h7];decide +kernel
 have e9:v9=[97]:=by rw [h9,h7];decide +kernel
 have vv:v11=10:=by rw [yb,h7];decide +kernel
 have Au:kN=18:=by rw [wN,h7];decide +kernel
 have EZ:mM.length=8:=by rw [Ai,h7];decide +kernel
 have t6:v6=true:=by rw [h6,e2,e5];rfl
 have t8:v8=true:=by rw [h8,t6,e7];rfl
 have t10:v10=true:=by rw [lZ,t8,e9];rfl
 have t12:v12=true:=by rw [ya,t10,vv];rfl
 have t14:jc=true:=by rw [xZ,t12,Au];rfl
 have t16:lf=true:=by rw [sH,t14,EZ];rfl
 have t17:pC=true:=by rw [tg,t16,e4];rfl
 have i0:eK (0:Int) v7.length=true:=by rw [e7];rfl
 have i1:eK (1:Int) v7.length=true:=by rw [e7];rfl
 rw [bK (by decide +kernel),bK (by decide +kernel)]
 simp only [i0,i1,t17,Bool.and_true,aP,cV]
end Go.Eng
namespace Go.Eng
open Go.RowKit Go.Maps Go.Proofs
set_option maxRecDepth 100000
set_option maxHeartbeats 1000000
theorem dZ {H:Type} {P:Program} (w:World) {ops:Array Oper} {rest:List Oper} {o:Oper} {a:Act} {Q:Exit→Act→World→Prop}
  (hg:o.guard=none) (m x v:Operand) (t:TypeId) (N6:o.op=Op.insert t m x v)
  (k e:TypeId) (K:Keyed P k) (ht:P.underlying t=some (.map k e)) (R:Value→Option (DataW H × List MemPlace)) (b n:Nat) (D:DataW H)
  (hm:a.eval m = .map (some b)) (qw:w.ownsMap P k R b n D) (hn:n<maxLen) (key val:Value) (kl:Lit) (hx:a.eval x=key) (hv:a.eval v=val) (s9:keyOf P k key=some kl)
  (d:DataW H) (ps:List MemPlace) (hval:R val=some (d,ps))
  (hK:∀w',w'.ownsMap P k R b (n+1) (D.put kl d)→w.grownBy w' (some b)→wpList P ops Q rest (a.put o.dst undef) w') :
  wpList P ops Q (o :: rest) a w:=by
 refine wpList_plain hg fun K' Ry=>?_
 obtain ⟨w',dX,r1,r2⟩:=qw.update K ht hn s9 hval
 unfold Oper.wp
 simp [execOp,N6,hm,hx,hv,dX,Result.andThen]
 exact Ry _ _ (hK w' r1 r2)
theorem lz (w:World) (o:Obj):(w.alloc o).heap.size=w.heap.size+1:=Array.size_push ..
theorem jJ:Keyed Tryz.prog 3:=int_keyed Tryz.underlying3
theorem vG (w:World):(zeroValue 3).run Tryz.prog w = .ok (.int .i64 0) w:=by kernel_rfl
structure Sz (w w':World):Prop where
 b:w'.heap[w.heap.size]?=some (.cells #[.int .i64 0,.int .i64 0] 144)
 o:Below w.heap.size w w'
 s:w.heap.size+1≤w'.heap.size
theorem Sz.c0 {w w':World} (h:Sz w w'):w'.cell? ⟨w.heap.size,0,none⟩=some (.int .i64 0):=by simp [World.cell?,h.b]
theorem Sz.c1 {w w':World} (h:Sz w w'):w'.cell? ⟨w.heap.size,1,none⟩=some (.int .i64 0):=by simp [World.cell?,h.b]
theorem Sz.f {w w':World} (h:Sz w w') (i:Nat):w'.frozen? ⟨w.heap.size,i,none⟩=false:=by simp [World.frozen?,h.b]
theorem nB (w:World):Sz w ((w.alloc (.cells #[.int .i64 0,.int .i64 0] 144)).alloc (.map #[] 0)):=by
 refine ⟨?_,((Below.refl _ _).alloc (Nat.le_refl _) _).alloc (by rw [lz];omega) _,by rw [lz,lz];omega⟩
 rw [Below.heap_alloc _ _ _ (by rw [lz];omega)]
 exact Array.getElem?_push_size
theorem iJ {w w1 w2:World} (h:Sz w w1) (hg:w1.grownBy w2 (some (w.heap.size+1))):Sz w w2 :=
 ⟨(hg.block _ (by have:=h.s;omega) (by simp)).trans h.b,h.o.grown hg (by have:=h.s;omega) (fun k e=>by cases e;omega),Nat.le_trans h.s hg.size⟩
theorem oU (n:Int) (h:(Lit.int .i64 n).wf=true):plainElem (H:=Unit) Tryz.prog 3 (.int .i64 n)=some (.lit (.int .i64 n),[]):=plainElem_int Tryz.underlying3 h
theorem pE (w:World) (o:Obj):((w.alloc o).alloc (.map #[] 0)).ownsMap Tryz.prog 3 (plainElem (H:=Unit) Tryz.prog 3) (w.heap.size+1) 0 (.map []):=by
 have:=World.ownsMap_made (H:=Unit) (w.alloc o) Tryz.prog 3 (plainElem Tryz.prog 3)
 rw [lz] at this;exact this
theorem Gx (tmps:Array Value) (W:World) (B:Nat) (x y:Int) (ht:tmps[4]?.getD undef = .pointer (some ⟨B,0,none⟩)) (hb:W.heap[B]?=some (.cells #[.int .i64 x,.int .i64 y] 144)):(results Tryz.f128 tmps).run Tryz.prog W = .ok (.agg #[.int .i64 x,.int .i64 y]) W:=by
 have c0:W.cell? ⟨B,0,none⟩=some (.int .i64 x):=by simp [World.cell?,hb]
 have c1:W.cell? ⟨B,1,none⟩=some (.int .i64 y):=by simp [World.cell?,hb]
 simp [results,Tryz.results128,go_sem,ht,c0,c1]
theorem rX {w3:World} {B:Nat} {x y:Int} (hb:w3.heap[B]?=some (.cells #[.int .i64 0,.int .i64 0] 144)):((w3.setCell ⟨B,0,none⟩ (.int .i64 x)).setCell ⟨B,1,none⟩ (.int .i64 y)).heap[B]?=some (.cells #[.int .i64 x,.int .i64 y] 144):=by
 simp [World.setCell,Array.getElem?_modify,hb]
theorem lL {a:Act} {Q:Ending→World→Prop} {W:World} {B:Nat} {x y:Int} (ht:a.tmps[4]?.getD undef = .pointer (some ⟨B,0,none⟩)) (hd:a.defers=[]) (hb:W.heap[B]?=some (.cells #[.int .i64 x,.int .i64 y] 144)) (hQ:Q (.returned (.agg #[.int .i64 x,.int .i64 y])) W):bodyPost Tryz.prog Tryz.f128 Q .ret a W :=
 bodyPost_ret (Gx a.tmps W B x y ht hb) hd hQ
theorem rY (w:World) (o:Obj):(w.alloc o).heap[w.heap.size]?=some o:=Array.getElem?_push_size
theorem ju {a b:Int} {p:Int × Int} (h:(a,b)=p):Ending.returned (.agg #[.int .i64 a,.int .i64 b]) = .returned (.agg #[.int .i64 p.1,.int .i64 p.2]):=by cases h;rfl
theorem uo {n:Int} (h0:0≤n) (h1:n<4294967296):wrap64 n=n:=by simp only [wrap64];omega
theorem Mo {n:Int} (h:n<32):(160+n,0)=Mp.sized 4 n:=by simp [Mp.sized,Mp.fixed,Mp.fix,Mp.tq,Mp.base];omega
theorem Mn {n:Int} (h:32≤n) (h2:n<256):(217,1)=Mp.sized 4 n:=by simp [Mp.sized,Mp.fixed,Mp.fix,Mp.tq,Mp.base];rw [ah (by omega),ao h2]
theorem Mm {n:Int} (h:256≤n) (h2:n<65536):(218,2)=Mp.sized 4 n:=by simp [Mp.sized,Mp.fixed,Mp.fix,Mp.tq,Mp.base];rw [ah (by omega),ah (by omega),ao h2]
theorem Ml {n:Int} (h:65536≤n):(219,4)=Mp.sized 4 n:=by simp [Mp.sized,Mp.fixed,Mp.fix,Mp.tq,Mp.base];rw [ah (by omega),ah (by omega),ah (by omega)]
theorem Mw {n:Int} (h0:0≤n) (h2:n<256):(196,1)=Mp.sized 3 n:=by simp [Mp.sized,Mp.fixed,Mp.fix,Mp.tq,Mp.base];rw [ah (by omega),ao h2]
theorem Mv {n:Int} (h:256≤n) (h2:n<65536):(197,2)=Mp.sized 3 n:=by simp [Mp.sized,Mp.fixed,Mp.fix,Mp.tq,Mp.base];rw [ah (by omega),ah (by omega),ao h2]
theorem Mu {n:Int} (h:65536≤n):(198,4)=Mp.sized 3 n:=by simp [Mp.sized,Mp.fixed,Mp.fix,Mp.tq,Mp.base];rw [ah (by omega),ah (by omega),ah (by omega)]
theorem Mt {n:Int} (h:(n == 1)=true):(212,0)=Mp.sized 10 n:=by rw [beq_iff_eq] at h;subst h;rfl
theorem Ms {n:Int} (h:(n == 2)=true):(213,0)=Mp.sized 10 n:=by rw [beq_iff_eq] at h;subst h;rfl
theorem Mr {n:Int} (h:(n == 4)=true):(214,0)=Mp.sized 10 n:=by rw [beq_iff_eq] at h;subst h;rfl
theorem Mq {n:Int} (h:(n == 8)=true):(215,0)=Mp.sized 10 n:=by rw [beq_iff_eq] at h;subst h;rfl
theorem IS {n:Int} (h:(n == 16)=true):(216,0)=Mp.sized 10 n:=by rw [beq_iff_eq] at h;subst h;rfl
theorem Gw {n a b:Int} (h0:0≤n) (h1:(n == 1)=false) (h2:(n == 2)=false) (h3:(n == 4)=false) (h4:(n == 8)=false) (h5:(n == 16)=false) (h:(n<256∧a=199∧b=1)∨(256≤n∧n<65536∧a=200∧b=2)∨(65536≤n∧a=201∧b=4)):(a,b)=Mp.sized 10 n:=by
 simp at h1 h2 h3 h4 h5
 simp [Mp.sized,Mp.fixed,Mp.fix,Mp.tq,Mp.base,h1,h2,h3,h4,h5]
 rw [ah (by omega)]
 rcases h with ⟨h,rfl,rfl⟩ | ⟨h,h',rfl,rfl⟩ | ⟨h,rfl,rfl⟩
 ·rw [ao h]
 ·rw [ah (by omega),ao h']
 ·rw [ah (by omega),ah (by omega)]
theorem IQ {n:Int} (h:n<16):(144+n,0)=Mp.sized 5 n:=by simp [Mp.sized,Mp.fixed,Mp.fix,Mp.tq,Mp.base];omega
theorem IP {n:Int} (h:16≤n) (h2:n<65536):(220,2)=Mp.sized 5 n:=by simp [Mp.sized,Mp.fixed,Mp.fix,Mp.tq,Mp.base];rw [ah (by omega),ao h2]
theorem IN {n:Int} (h:65536≤n):(221,4)=Mp.sized 5 n:=by simp [Mp.sized,Mp.fixed,Mp.fix,Mp.tq,Mp.base];rw [ah (by omega),ah (by omega)]
theorem IM {n:Int} (h:n<16):(128+n,0)=Mp.sized 6 n:=by simp [Mp.sized,Mp.fixed,Mp.fix,Mp.tq,Mp.base];omega
theorem IL {n:Int} (h:16≤n) (h2:n<65536):(222,2)=Mp.sized 6 n:=by simp [Mp.sized,Mp.fixed,Mp.fix,Mp.tq,Mp.base];rw [ah (by omega),ao h2]
theorem IK {n:Int} (h:65536≤n):(223,4)=Mp.sized 6 n:=by simp [Mp.sized,Mp.fixed,Mp.fix,Mp.tq,Mp.base];rw [ah (by omega),ah (by omega)]
theorem IV {c:Int} (xy:((((DataW.map []).put (Lit.int .i64 4) (DataW.lit (H:=Unit) (Lit.int .i64 160))).put (Lit.int .i64 5) (DataW.lit (Lit.int .i64 144))).put (Lit.int .i64 6) (DataW.lit (Lit.int .i64 128))).atKey (Lit.int .i64 4) (DataW.lit (Lit.int .i64 0))=DataW.lit (Lit.int .i64 c)):c=160:=by
 have e:((((DataW.map []).put (Lit.int .i64 4) (DataW.lit (H:=Unit) (Lit.int .i64 160))).put (Lit.int .i64 5) (DataW.lit (Lit.int .i64 144))).put (Lit.int .i64 6) (DataW.lit (Lit.int .i64 128))).atKey (Lit.int .i64 4) (DataW.lit (Lit.int .i64 0))=DataW.lit (Lit.int .i64 160):=rfl
 rw [e] at xy;cases xy;rfl
theorem IU {c:Int} (xy:((((DataW.map []).put (Lit.int .i64 4) (DataW.lit (H:=Unit) (Lit.int .i64 160))).put (Lit.int .i64 5) (DataW.lit (Lit.int .i64 144))).put (Lit.int .i64 6) (DataW.lit (Lit.int .i64 128))).atKey (Lit.int .i64 5) (DataW.lit (Lit.int .i64 0))=DataW.lit (Lit.int .i64 c)):c=144:=by
 have e:((((DataW.map []).put (Lit.int .i64 4) (DataW.lit (H:=Unit) (Lit.int .i64 160))).put (Lit.int .i64 5) (DataW.lit (Lit.int .i64 144))).put (Lit.int .i64 6) (DataW.lit (Lit.int .i64 128))).atKey (Lit.int .i64 5) (DataW.lit (Lit.int .i64 0))=DataW.lit (Lit.int .i64 144):=rfl
 rw [e] at xy;cases xy;rfl
theorem IT {c:Int} (xy:((((DataW.map []).put (Lit.int .i64 4) (DataW.lit (H:=Unit) (Lit.int .i64 160))).put (Lit.int .i64 5) (DataW.lit (Lit.int .i64 144))).put (Lit.int .i64 6) (DataW.lit (Lit.int .i64 128))).atKey (Lit.int .i64 6) (DataW.lit (Lit.int .i64 0))=DataW.lit (Lit.int .i64 c)):c=128:=by
 have e:((((DataW.map []).put (Lit.int .i64 4) (DataW.lit (H:=Unit) (Lit.int .i64 160))).put (Lit.int .i64 5) (DataW.lit (Lit.int .i64 144))).put (Lit.int .i64 6) (DataW.lit (Lit.int .i64 128))).atKey (Lit.int .i64 6) (DataW.lit (Lit.int .i64 0))=DataW.lit (Lit.int .i64 128):=rfl
 rw [e] at xy;cases xy;rfl
theorem DL (n : Int) (HF : 0 ≤ n) (wz : n < 4294967296) (w : World) : Calls Tryz.prog 128 #[.int .i64 4, .int .i64 n] w fun e w' => e = .returned (.agg #[.int .i64 (Mp.sized 4 n).1, .int .i64 (Mp.sized 4 n).2]) ∧ Below w.heap.size w w' := by
  have wA := @run_makeMap Tryz.prog
  go_enter Tryz.func128, Tryz.ntmps128
  go_wp2_with (first
      | (refine dZ _ rfl (.tmp 34) (.const (.int .i64 4)) (.const (.int .i64 160)) 167 rfl 3 3 jJ Tryz.underlying167 (plainElem (H := Unit) Tryz.prog 3) ?EO 0 ?LP ?pr ?u9 ?wz (.int .i64 4) (.int .i64 160) (.int .i64 4) ?yY ?hv1 ?gK (.lit (.int .i64 160)) [] ?Aa ?LL
         case pr => rfl
         case u9 => exact pE w _
         case wz => unfold maxLen; omega
         case yY => rfl
         case hv1 => rfl
         case gK => exact keyOf_int_mk Tryz.underlying3 (by decide)
         case Aa => exact oU _ (by decide)
         intro w1 u9 hg1
         have Et := iJ (nB w) hg1)
      | (refine dZ _ rfl (.tmp 34) (.const (.int .i64 5)) (.const (.int .i64 144)) 167 rfl 3 3 jJ Tryz.underlying167 (plainElem (H := Unit) Tryz.prog 3) ?AU 1 ?LO ?qW ?u7 ?CD (.int .i64 5) (.int .i64 144) (.int .i64 5) ?Cv ?hv2 ?js (.lit (.int .i64 144)) [] ?pq ?LK
         case qW => rfl
         case u7 => exact u9
         case CD => unfold maxLen; omega
         case Cv => rfl
         case hv2 => rfl
         case js => exact keyOf_int_mk Tryz.underlying3 (by decide)
         case pq => exact oU _ (by decide)
         intro w2 u7 hg2
         have Es := iJ Et hg2)
      | (refine dZ _ rfl (.tmp 34) (.const (.int .i64 6)) (.const (.int .i64 128)) 167 rfl 3 3 jJ Tryz.underlying167 (plainElem (H := Unit) Tryz.prog 3) ?LG 2 ?LN ?xV ?u6 ?CC (.int .i64 6) (.int .i64 128) (.int .i64 6) ?Ev ?z7 ?y8 (.lit (.int .i64 128)) [] ?EB ?LJ
         case xV => rfl
         case u6 => exact u7
         case CC => unfold maxLen; omega
         case Ev => rfl
         case z7 => rfl
         case y8 => exact keyOf_int_mk Tryz.underlying3 (by decide)
         case EB => exact oU _ (by decide)
         intro w3 u6 EM
         have oj := iJ Es EM
         have c0 := oj.c0
         have c1 := oj.c1
         have f0 := oj.f 0
         have f1 := oj.f 1)
      | (at_lookup
         refine wpList_lookup_own_int (H := Unit) _ rfl (.tmp 35) (.tmp 36) 167 rfl 3 3 .i64 jJ Tryz.underlying167 Tryz.underlying3 (vG _) ?LF 3 ?LM ?EI ?ED (.int .i64 4) (.int .i64 4) ?Eu ?EL ?LI
         case EL => exact keyOf_int_mk Tryz.underlying3 (by decide)
         case EI => rfl
         case ED => exact u6
         case Eu => rfl
         intro c xy Lw)
      | go_in)
  all_goals clear wA
  all_goals first | refine lL rfl rfl (rY _ _) ⟨?_, (Below.refl _ _).alloc (Nat.le_refl _) _⟩ | refine lL rfl rfl (rX oj.b) ⟨?_, (oj.o.setCell (Nat.le_refl _) _).setCell (Nat.le_refl _) _⟩
  · have hc : c = 160 := IV xy
    subst hc
    rw [uo (by omega) (by omega)]
    exact ju (Mo (by omega))
  · exact ju (Mn (by omega) (by omega))
  · exact ju (Mm (by omega) (by omega))
  · exact ju (Ml (by omega))
theorem Gz (n : Int) (HF : 0 ≤ n) (wz : n < 4294967296) (w : World) : Calls Tryz.prog 128 #[.int .i64 10, .int .i64 n] w fun e w' => e = .returned (.agg #[.int .i64 (Mp.sized 10 n).1, .int .i64 (Mp.sized 10 n).2]) ∧ Below w.heap.size w w' := by
  have wA := @run_makeMap Tryz.prog
  go_enter Tryz.func128, Tryz.ntmps128
  go_wp2_with (first
      | (refine dZ _ rfl (.tmp 34) (.const (.int .i64 4)) (.const (.int .i64 160)) 167 rfl 3 3 jJ Tryz.underlying167 (plainElem (H := Unit) Tryz.prog 3) ?EO 0 ?LP ?pr ?u9 ?wz (.int .i64 4) (.int .i64 160) (.int .i64 4) ?yY ?hv1 ?gK (.lit (.int .i64 160)) [] ?Aa ?LL
         case pr => rfl
         case u9 => exact pE w _
         case wz => unfold maxLen; omega
         case yY => rfl
         case hv1 => rfl
         case gK => exact keyOf_int_mk Tryz.underlying3 (by decide)
         case Aa => exact oU _ (by decide)
         intro w1 u9 hg1
         have Et := iJ (nB w) hg1)
      | (refine dZ _ rfl (.tmp 34) (.const (.int .i64 5)) (.const (.int .i64 144)) 167 rfl 3 3 jJ Tryz.underlying167 (plainElem (H := Unit) Tryz.prog 3) ?AU 1 ?LO ?qW ?u7 ?CD (.int .i64 5) (.int .i64 144) (.int .i64 5) ?Cv ?hv2 ?js (.lit (.int .i64 144)) [] ?pq ?LK
         case qW => rfl
         case u7 => exact u9
         case CD => unfold maxLen; omega
         case Cv => rfl
         case hv2 => rfl
         case js => exact keyOf_int_mk Tryz.underlying3 (by decide)
         case pq => exact oU _ (by decide)
         intro w2 u7 hg2
         have Es := iJ Et hg2)
      | (refine dZ _ rfl (.tmp 34) (.const (.int .i64 6)) (.const (.int .i64 128)) 167 rfl 3 3 jJ Tryz.underlying167 (plainElem (H := Unit) Tryz.prog 3) ?LG 2 ?LN ?xV ?u6 ?CC (.int .i64 6) (.int .i64 128) (.int .i64 6) ?Ev ?z7 ?y8 (.lit (.int .i64 128)) [] ?EB ?LJ
         case xV => rfl
         case u6 => exact u7
         case CC => unfold maxLen; omega
         case Ev => rfl
         case z7 => rfl
         case y8 => exact keyOf_int_mk Tryz.underlying3 (by decide)
         case EB => exact oU _ (by decide)
         intro w3 u6 EM
         have oj := iJ Es EM
         have c0 := oj.c0
         have c1 := oj.c1
         have f0 := oj.f 0
         have f1 := oj.f 1)
      | (at_lookup
         refine wpList_lookup_own_int (H := Unit) _ rfl (.tmp 35) (.tmp 36) 167 rfl 3 3 .i64 jJ Tryz.underlying167 Tryz.underlying3 (vG _) ?LF 3 ?LM ?EI ?ED (.int .i64 10) (.int .i64 10) ?Eu ?EL ?LI
         case EL => exact keyOf_int_mk Tryz.underlying3 (by decide)
         case EI => rfl
         case ED => exact u6
         case Eu => rfl
         intro c xy Lw)
      | go_in)
  refine wp_loop_rounds 6 ?_
  rw [rounds_succ]
  go_wp2
  all_goals try rw [rounds_succ]
  all_goals try go_wp2
  all_goals try rw [rounds_succ]
  all_goals try go_wp2
  all_goals try rw [rounds_succ]
  all_goals try go_wp2
  all_goals try rw [rounds_succ]
  all_goals try go_wp2
  all_goals try rw [rounds_succ]
  all_goals try go_wp2
  all_goals clear wA
  all_goals first | refine lL rfl rfl (rY _ _) ⟨?_, (Below.refl _ _).alloc (Nat.le_refl _) _⟩ | refine lL rfl rfl (rX oj.b) ⟨?_, (oj.o.setCell (Nat.le_refl _) _).setCell (Nat.le_refl _) _⟩
  · exact ju (Mt ‹_›)
  · exact ju (Ms ‹_›)
  · exact ju (Mr ‹_›)
  · exact ju (Mq ‹_›)
  · exact ju (IS ‹_›)
  · exact ju (Gw HF ‹(n == 1) = false› ‹(n == 2) = false› ‹(n == 4) = false› ‹(n == 8) = false› ‹(n == 16) = false› (by simp; omega))
  · exact ju (Gw HF ‹(n == 1) = false› ‹(n == 2) = false› ‹(n == 4) = false› ‹(n == 8) = false› ‹(n == 16) = false› (by simp; omega))
  · exact ju (Gw HF ‹(n == 1) = false› ‹(n == 2) = false› ‹(n == 4) = false› ‹(n == 8) = false› ‹(n == 16) = false› (by simp; omega))
theorem A9 (n : Int) (HF : 0 ≤ n) (wz : n < 4294967296) (w : World) : Calls Tryz.prog 128 #[.int .i64 3, .int .i64 n] w fun e w' => e = .returned (.agg #[.int .i64 (Mp.sized 3 n).1, .int .i64 (Mp.sized 3 n).2]) ∧ Below w.heap.size w w' := by
  have wA := @run_makeMap Tryz.prog
  go_enter Tryz.func128, Tryz.ntmps128
  go_wp2_with (first
      | (refine dZ _ rfl (.tmp 34) (.const (.int .i64 4)) (.const (.int .i64 160)) 167 rfl 3 3 jJ Tryz.underlying167 (plainElem (H := Unit) Tryz.prog 3) ?EO 0 ?LP ?pr ?u9 ?wz (.int .i64 4) (.int .i64 160) (.int .i64 4) ?yY ?hv1 ?gK (.lit (.int .i64 160)) [] ?Aa ?LL
         case pr => rfl
         case u9 => exact pE w _
         case wz => unfold maxLen; omega
         case yY => rfl
         case hv1 => rfl
         case gK => exact keyOf_int_mk Tryz.underlying3 (by decide)
         case Aa => exact oU _ (by decide)
         intro w1 u9 hg1
         have Et := iJ (nB w) hg1)
      | (refine dZ _ rfl (.tmp 34) (.const (.int .i64 5)) (.const (.int .i64 144)) 167 rfl 3 3 jJ Tryz.underlying167 (plainElem (H := Unit) Tryz.prog 3) ?AU 1 ?LO ?qW ?u7 ?CD (.int .i64 5) (.int .i64 144) (.int .i64 5) ?Cv ?hv2 ?js (.lit (.int .i64 144)) [] ?pq ?LK
         case qW => rfl
         case u7 => exact u9
         case CD => unfold maxLen; omega
         case Cv => rfl
         case hv2 => rfl
         case js => exact keyOf_int_mk Tryz.underlying3 (by decide)
         case pq => exact oU _ (by decide)
         intro w2 u7 hg2
         have Es := iJ Et hg2)
      | (refine dZ _ rfl (.tmp 34) (.const (.int .i64 6)) (.const (.int .i64 128)) 167 rfl 3 3 jJ Tryz.underlying167 (plainElem (H := Unit) Tryz.prog 3) ?LG 2 ?LN ?xV ?u6 ?CC (.int .i64 6) (.int .i64 128) (.int .i64 6) ?Ev ?z7 ?y8 (.lit (.int .i64 128)) [] ?EB ?LJ
         case xV => rfl
         case u6 => exact u7
         case CC => unfold maxLen; omega
         case Ev => rfl
         case z7 => rfl
         case y8 => exact keyOf_int_mk Tryz.underlying3 (by decide)
         case EB => exact oU _ (by decide)
         intro w3 u6 EM
         have oj := iJ Es EM
         have c0 := oj.c0
         have c1 := oj.c1
         have f0 := oj.f 0
         have f1 := oj.f 1)
      | (at_lookup
         refine wpList_lookup_own_int (H := Unit) _ rfl (.tmp 35) (.tmp 36) 167 rfl 3 3 .i64 jJ Tryz.underlying167 Tryz.underlying3 (vG _) ?LF 3 ?LM ?EI ?ED (.int .i64 3) (.int .i64 3) ?Eu ?EL ?LI
         case EL => exact keyOf_int_mk Tryz.underlying3 (by decide)
         case EI => rfl
         case ED => exact u6
         case Eu => rfl
         intro c xy Lw)
      | go_in)
  all_goals clear wA
  all_goals first | refine lL rfl rfl (rY _ _) ⟨?_, (Below.refl _ _).alloc (Nat.le_refl _) _⟩ | refine lL rfl rfl (rX oj.b) ⟨?_, (oj.o.setCell (Nat.le_refl _) _).setCell (Nat.le_refl _) _⟩
  · exact ju (Mw (by omega) (by omega))
  · exact ju (Mv (by omega) (by omega))
  · exact ju (Mu (by omega))
theorem DM (n : Int) (HF : 0 ≤ n) (wz : n < 4294967296) (w : World) : Calls Tryz.prog 128 #[.int .i64 5, .int .i64 n] w fun e w' => e = .returned (.agg #[.int .i64 (Mp.sized 5 n).1, .int .i64 (Mp.sized 5 n).2]) ∧ Below w.heap.size w w' := by
  have wA := @run_makeMap Tryz.prog
  go_enter Tryz.func128, Tryz.ntmps128
  go_wp2_with (first
      | (refine dZ _ rfl (.tmp 34) (.const (.int .i64 4)) (.const (.int .i64 160)) 167 rfl 3 3 jJ Tryz.underlying167 (plainElem (H := Unit) Tryz.prog 3) ?EO 0 ?LP ?pr ?u9 ?wz (.int .i64 4) (.int .i64 160) (.int .i64 4) ?yY ?hv1 ?gK (.lit (.int .i64 160)) [] ?Aa ?LL
         case pr => rfl
         case u9 => exact pE w _
         case wz => unfold maxLen; omega
         case yY => rfl
         case hv1 => rfl
         case gK => exact keyOf_int_mk Tryz.underlying3 (by decide)
         case Aa => exact oU _ (by decide)
         intro w1 u9 hg1
         have Et := iJ (nB w) hg1)
      | (refine dZ _ rfl (.tmp 34) (.const (.int .i64 5)) (.const (.int .i64 144)) 167 rfl 3 3 jJ Tryz.underlying167 (plainElem (H := Unit) Tryz.prog 3) ?AU 1 ?LO ?qW ?u7 ?CD (.int .i64 5) (.int .i64 144) (.int .i64 5) ?Cv ?hv2 ?js (.lit (.int .i64 144)) [] ?pq ?LK
         case qW => rfl
         case u7 => exact u9
         case CD => unfold maxLen; omega
         case Cv => rfl
         case hv2 => rfl
         case js => exact keyOf_int_mk Tryz.underlying3 (by decide)
         case pq => exact oU _ (by decide)
         intro w2 u7 hg2
         have Es := iJ Et hg2)
      | (refine dZ _ rfl (.tmp 34) (.const (.int .i64 6)) (.const (.int .i64 128)) 167 rfl 3 3 jJ Tryz.underlying167 (plainElem (H := Unit) Tryz.prog 3) ?LG 2 ?LN ?xV ?u6 ?CC (.int .i64 6) (.int .i64 128) (.int .i64 6) ?Ev ?z7 ?y8 (.lit (.int .i64 128)) [] ?EB ?LJ
         case xV => rfl
         case u6 => exact u7
         case CC => unfold maxLen; omega
         case Ev => rfl
         case z7 => rfl
         case y8 => exact keyOf_int_mk Tryz.underlying3 (by decide)
         case EB => exact oU _ (by decide)
         intro w3 u6 EM
         have oj := iJ Es EM
         have c0 := oj.c0
         have c1 := oj.c1
         have f0 := oj.f 0
         have f1 := oj.f 1)
      | (at_lookup
         refine wpList_lookup_own_int (H := Unit) _ rfl (.tmp 35) (.tmp 36) 167 rfl 3 3 .i64 jJ Tryz.underlying167 Tryz.underlying3 (vG _) ?LF 3 ?LM ?EI ?ED (.int .i64 5) (.int .i64 5) ?Eu ?EL ?LI
         case EL => exact keyOf_int_mk Tryz.underlying3 (by decide)
         case EI => rfl
         case ED => exact u6
         case Eu => rfl
         intro c xy Lw)
      | go_in)
  all_goals clear wA
  all_goals first | refine lL rfl rfl (rY _ _) ⟨?_, (Below.refl _ _).alloc (Nat.le_refl _) _⟩ | refine lL rfl rfl (rX oj.b) ⟨?_, (oj.o.setCell (Nat.le_refl _) _).setCell (Nat.le_refl _) _⟩
  · have hc : c = 144 := IU xy
    subst hc
    rw [uo (by omega) (by omega)]
    exact ju (IQ (by omega))
  · exact ju (IP (by omega) (by omega))
  · exact ju (IN (by omega))
theorem Gy (n : Int) (HF : 0 ≤ n) (wz : n < 4294967296) (w : World) : Calls Tryz.prog 128 #[.int .i64 6, .int .i64 n] w fun e w' => e = .returned (.agg #[.int .i64 (Mp.sized 6 n).1, .int .i64 (Mp.sized 6 n).2]) ∧ Below w.heap.size w w' := by
  have wA := @run_makeMap Tryz.prog
  go_enter Tryz.func128, Tryz.ntmps128
  go_wp2_with (first
      | (refine dZ _ rfl (.tmp 34) (.const (.int .i64 4)) (.const (.int .i64 160)) 167 rfl 3 3 jJ Tryz.underlying167 (plainElem (H := Unit) Tryz.prog 3) ?EO 0 ?LP ?pr ?u9 ?wz (.int .i64 4) (.int .i64 160) (.int .i64 4) ?yY ?hv1 ?gK (.lit (.int .i64 160)) [] ?Aa ?LL
         case pr => rfl
         case u9 => exact pE w _
         case wz => unfold maxLen; omega
         case yY => rfl
         case hv1 => rfl
         case gK => exact keyOf_int_mk Tryz.underlying3 (by decide)
         case Aa => exact oU _ (by decide)
         intro w1 u9 hg1
         have Et := iJ (nB w) hg1)
      | (refine dZ _ rfl (.tmp 34) (.const (.int .i64 5)) (.const (.int .i64 144)) 167 rfl 3 3 jJ Tryz.underlying167 (plainElem (H := Unit) Tryz.prog 3) ?AU 1 ?LO ?qW ?u7 ?CD (.int .i64 5) (.int .i64 144) (.int .i64 5) ?Cv ?hv2 ?js (.lit (.int .i64 144)) [] ?pq ?LK
         case qW => rfl
         case u7 => exact u9
         case CD => unfold maxLen; omega
         case Cv => rfl
         case hv2 => rfl
         case js => exact keyOf_int_mk Tryz.underlying3 (by decide)
         case pq => exact oU _ (by decide)
         intro w2 u7 hg2
         have Es := iJ Et hg2)
      | (refine dZ _ rfl (.tmp 34) (.const (.int .i64 6)) (.const (.int .i64 128)) 167 rfl 3 3 jJ Tryz.underlying167 (plainElem (H := Unit) Tryz.prog 3) ?LG 2 ?LN ?xV ?u6 ?CC (.int .i64 6) (.int .i64 128) (.int .i64 6) ?Ev ?z7 ?y8 (.lit (.int .i64 128)) [] ?EB ?LJ
         case xV => rfl
         case u6 => exact u7
         case CC => unfold maxLen; omega
         case Ev => rfl
         case z7 => rfl
         case y8 => exact keyOf_int_mk Tryz.underlying3 (by decide)
         case EB => exact oU _ (by decide)
         intro w3 u6 EM
         have oj := iJ Es EM
         have c0 := oj.c0
         have c1 := oj.c1
         have f0 := oj.f 0
         have f1 := oj.f 1)
      | (at_lookup
         refine wpList_lookup_own_int (H := Unit) _ rfl (.tmp 35) (.tmp 36) 167 rfl 3 3 .i64 jJ Tryz.underlying167 Tryz.underlying3 (vG _) ?LF 3 ?LM ?EI ?ED (.int .i64 6) (.int .i64 6) ?Eu ?EL ?LI
         case EL => exact keyOf_int_mk Tryz.underlying3 (by decide)
         case EI => rfl
         case ED => exact u6
         case Eu => rfl
         intro c xy Lw)
      | go_in)
  all_goals clear wA
  all_goals first | refine lL rfl rfl (rY _ _) ⟨?_, (Below.refl _ _).alloc (Nat.le_refl _) _⟩ | refine lL rfl rfl (rX oj.b) ⟨?_, (oj.o.setCell (Nat.le_refl _) _).setCell (Nat.le_refl _) _⟩
  · have hc : c = 128 := IT xy
    subst hc
    rw [uo (by omega) (by omega)]
    exact ju (IM (by omega))
  · exact ju (IL (by omega) (by omega))
  · exact ju (IK (by omega))
theorem jg.ok:KO 128 (jg.c) jg.sg:=by
 refine rZ fun ti gW w R xs hc ha hR xY=>?_
 unfold jg.c at hc
 split at hc
 ·rename_i k n
  obtain ⟨hp,rfl⟩:=hc
  simp only [ae,aB,Mp.lN] at hp
  obtain ⟨hk,h0,h1⟩:=hp
  have xR:xs=[.int .i64 k,.int .i64 n]:=by
   have hq:gP R w [.v (.int .i64 k),.v (.int .i64 n)] xs:=ha
   clear ha
   cases hq with
   | cons a1 q1=>cases q1 with
    | cons a2 q2=>cases q2;cases a1;cases a2;rfl
  subst xR
  have fin:∀{S:Int × Int},Calls Go.Proofs.Tryz.prog 128 #[.int .i64 k,.int .i64 n] w (fun e w'=>e = .returned (.agg #[.int .i64 S.1,.int .i64 S.2])∧Below w.heap.size w w') →
    Calls Go.Proofs.Tryz.prog 128 ⟨[.int .i64 k,.int .i64 n]⟩ w fun e w'=>∃x,e = .returned x∧Below w.heap.size w w'∧∀R w',gP R w' ([(TV.ag [.i .i64 S.1,.i .i64 S.2])].map TV.av) [x]:=by
   intro S h
   refine h.mono ?_
   rintro e w' ⟨rfl,hb⟩
   exact ⟨_,rfl,hb,fun R w' => .cons (.ag (.cons rfl (.v _) (.cons rfl (.v _) .nil))) .nil⟩
  rcases hk with rfl | rfl | rfl | rfl | rfl
  ·exact fin (A9 n h0 h1 w)
  ·exact fin (DL n h0 h1 w)
  ·exact fin (DM n h0 h1 w)
  ·exact fin (Gy n h0 h1 w)
  ·exact fin (Gz n h0 h1 w)
 ·exact hc.elim
end Go.Eng
