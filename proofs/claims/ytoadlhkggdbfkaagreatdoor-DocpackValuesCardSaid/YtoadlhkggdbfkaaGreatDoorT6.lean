/- Texts of my own, one behind the other: DkP6, DkP7, DkP8, DkSized, DkP, DkOK, DkDb2, DkR4, DkLValues, DkQValues, DkOKValues. -/
import Derived.Test.YtoadlhkggdbfkaaGreatDoorT5
import Derived.WalkKit
import Derived.WalkSpells
import Derived.WalkLawsBesides
import Derived.ChangeSlices
import Derived.Maps.OwnOps
set_option linter.unusedVariables false
set_option linter.unusedSimpArgs false
namespace Go.Eng
open Go.IntWalk
namespace Dk
theorem Eu (d:Nat) (v:bI) (c:bY) (h0:v.kids=[]) (hb:c.length≤536870912):(kK d v c).1.kids.length≤1099511627776:=by
 rw [wg]
 cases h:tX d c with
 | none=>show ([]:List bM).length≤_;simp
 | some l =>
  have:=zw h
  show l.length≤_
  omega
theorem vY (b:bY) (h:4≤b.length):(UInt64.ofInt (IntKind.i64.wrap ((b.length:Int) - 4))<cT.be (b.take 4))=(b.length<4+hU b)∨536870912<b.length:=by
 by_cases hb:b.length≤536870912
 ·left
  apply propext
  rw [i64_in _ (by omega),aC]
  have e:(UInt64.ofInt ((b.length:Int) - 4)).toNat=b.length - 4:=by
   rw [show (b.length:Int) - 4=((b.length - 4:Nat):Int) by omega,jv];omega
  rw [e]
  unfold hU
  omega
 ·right;omega
theorem vU (b:bY):List.drop 4 (List.take (4+hU b) b)=kI b:=by
 unfold kI
 rw [List.drop_take,show 4+hU b - 4=hU b by omega]
end Dk
theorem cj.jd (n:Nat) (within:Int) (b:bY) (k:Int) (x3:bI) (hb:b.length≤536870912) (hw:0≤within∧within≤200) (hn:4 * b.length+2<n+1) :
  cj.j1 n within b false x3 k 0 0 0 [] [] 0 []=some (Dk.two (if 200≤within then (Db.zero,false) else Dk.mS (Dk.kK (199 - within).toNat) k b)):=by
 refine cj.kM _ _ _ _ _ _ _ _ _ _ _ _ _ ?_
 intro v1 e1 v2 e2 v3 e3 v4 e4 v5 e5 v6 e6 v7 e7 v8 e8 v9 e9 v10 tc v11 vM v12 yA lx xq ji tt mY zX mW Bb
 by_cases w:200≤within
 ·rw [aa w,ak,aq w];rfl
 rw [ae w,ah,aj w]
 by_cases a4:k=4
 ·have hk:=Dk.Eu (199 - within).toNat (bI.mk k 0 0 0 [] [] 0 [] []) b rfl hb
  rw [←e1] at hk
  rw [aa a4,ak,aa (show b.length≤536870912∧0≤within∧within<200 by omega),aa (show 4 * b.length+1<n by omega),aO,cI,aa hk]
  simp only [Bool.and_true,aG,cI]
  rw [Dk.mS,aq a4]
  rw [a4] at e1 e2
  rw [show (Dk.kK (199 - within).toNat (Db.doc 4 []) b).1=v1 from e1.symm,show (Dk.kK (199 - within).toNat (Db.doc 4 []) b).2=v2 from e2.symm,←e3]
  cases v2 <;> rfl
 rw [ae a4,ah]
 by_cases lq:k=15
 ·rw [aa lq,ak,Dk.mS,aj a4,aq lq]
  by_cases s:b.length<4
  ·have DU:v6=true:=by rw [e6,aa (show (b.length:Int)<4 by omega)];rfl
   rw [aa (show (b.length:Int)<4 by omega),DU,ak,aq (.inl s)]
   rfl
  ·have l4:v4.length≤1099511627776:=by rw [e4,bh];omega
   have hs:=(Dk.vY b (by omega)).resolve_right (by omega)
   have Gy:v4=b.take 4:=e4
   rw [←e5,←Gy] at hs
   rw [ae (show ¬(b.length:Int)<4 by omega),ah] at e6
   rw [ae (show ¬(b.length:Int)<4 by omega)]
   simp only [aV,aR,Bool.false_or,Bool.true_and,cI,ij (show (0:Int)≤0 by omega) (show (0:Int)≤4 by omega) (show (4:Int)≤b.length by omega),aa l4]
   by_cases t:b.length<4+Dk.hU b
   ·have DU:v6=true:=by rw [e6];exact aa (by rw [hs];exact t)
    rw [DU,ak,aq (.inr t)]
    rfl
   ·have DU:v6=false:=by rw [e6];exact ae (by rw [hs];exact t)
    have zW:v7=(Dk.hU b:Int):=by
     have:cT.be v4=cT.be (b.take 4):=by rw [Gy]
     rw [e7,this,show (cT.be (b.take 4)).toNat=Dk.hU b from rfl,i64_in _ (by omega)]
    have MP:v8=((4+Dk.hU b:Nat):Int):=by rw [e8,zW,i64_in _ (by omega)];omega
    have ev:v8.toNat=4+Dk.hU b:=by omega
    have IU:v9=Dk.kI b:=by rw [e9,ev];exact Dk.vU b
    have l9:v9.length≤b.length:=by rw [IU,Dk.kI,bh,aS];omega
    rw [ev,IU,lq] at tc vM
    rw [DU,ah,aj (by omega),bL (ij (by omega) (by omega) (by omega)),bL (ij (by omega) (by omega) (by omega)),ev,aa (show (b.drop (4+Dk.hU b)).length≤536870912∧0≤within∧within<200 from ⟨by rw [aS];omega,by omega,by omega⟩),aa (show 4 * (b.drop (4+Dk.hU b)).length+1<n by rw [aS];omega),aO,cI,
     ij (show (0:Int)≤4 by omega) (show (4:Int)≤v8 by omega) (show v8≤b.length by omega),aa (show v9.length≤1099511627776 by omega)]
    simp only [Bool.and_true,aO,aG,cI]
    rw [show (Dk.kK (199 - within).toNat (Db.doc 15 (Dk.kI b)) (b.drop (4+Dk.hU b))).1=v10 from tc.symm,show (Dk.kK (199 - within).toNat (Db.doc 15 (Dk.kI b)) (b.drop (4+Dk.hU b))).2=v11 from vM.symm,yA,IU]
    cases v11 <;> rfl
 rw [ae lq,ah]
 by_cases a5:k=5
 ·rw [aa a5,ak,Dk.mS,aj a4,aj lq,aq a5]
  have IY:lx=b.getD 0 0:=xq
  by_cases s:0<b.length
  ·have yy:mY=(lx.toNat:Int):=by have:=lx.toNat_lt;rw [zX,i64_in _ (by omega)]
   have Dd:mW=b.drop 1:=Bb
   rw [aa (show (0:Int)<b.length by omega),ak] at tt
   rw [aa (show (0:Int)<b.length by omega),fq (show (0:Int)≤0 by omega) (show (0:Int)<b.length by omega)]
   simp only [aO,aG,cI]
   by_cases z:lx=0
   ·have yz:ji=false:=by rw [tt,aa z];rfl
    rw [yz,ah,cj.jC,aj (fun h=>h.2 (by rw [←IY];exact z)),a5];rfl
   ·have yz:ji=true:=by rw [tt,ae z];rfl
    rw [yz,ak,bL (ij (by omega) (by omega) (by omega)),bL (fu (by rw [Dd,aS];omega) (by rw [Dd,aS];omega)),cj.jC,aq ⟨s,by rw [←IY];exact z⟩,a5,yy,Dd,IY];rfl
  ·rw [ae (show ¬(0:Int)<b.length by omega),ah] at tt
   rw [ae (show ¬(0:Int)<b.length by omega),tt]
   simp only [aV,Bool.true_or,cI,ah]
   rw [cj.jC,aj (fun h=>s h.1),a5];rfl
 rw [ae a5,ah]
 by_cases a7:k=7
 ·rw [aa a7,ak,Dk.mS,aj a4,aj lq,aj a5,aq a7,bL (fu (by omega) (by omega)),cj.jC,a7,show decide ((b.length:Int)=12)=decide (b.length=12) from aX.2 (by omega)];rfl
 rw [ae a7,ah]
 by_cases a9:k=9
 ·rw [aa a9,ak]
  exact cj.nY n _ b k _ x3 hb (by rw [aa (Or.inl a9)]) a4 lq a5 a7
 rw [ae a9,ah]
 by_cases xE:k=17
 ·rw [aa xE,ak]
  exact cj.nY n _ b k _ x3 hb (by rw [aa (Or.inr (Or.inl xE))]) a4 lq a5 a7
 rw [ae xE,ah]
 exact cj.nY n _ b k _ x3 hb (aX.2 ⟨fun h => .inr (.inr h),fun h=>(h.resolve_left a9).resolve_left xE⟩) a4 lq a5 a7
theorem Dk.vB (within:Int) (n:UInt64) (b:bY) (hw:0≤within∧within≤200):Dk.jE (200 - within).toNat n b=if 200≤within then (Db.zero,false) else Dk.mS (Dk.kK (199 - within).toNat) (Dk.kindOf n) b:=by
 by_cases w:200≤within
 ·rw [aq w,show (200 - within).toNat=0 by omega];rfl
 ·rw [aj w,show (200 - within).toNat=(199 - within).toNat+1 by omega];rfl
theorem cj.goal (n:Nat) (it:Itv) (within:Int) (hp:(decide (it.bytes.length≤536870912∧it.n≤127∧0≤within∧within≤200)&&decide ((4 * it.bytes.length+2)<n+1))=true):cj.F n it within=some (Dk.two (Dk.jE (200 - within).toNat it.n it.bytes)):=by
 simp only [af,az] at hp
 obtain ⟨⟨hb,hn,hw⟩,hm⟩:=hp
 rw [Dk.vB within _ _ hw]
 refine cj.dQ _ _ _ ?_
 intro v1 e1
 have h1:it.n.toNat≤127:=aN.1 hn
 have tw:v1=(it.n.toNat:Int):=by rw [e1,i64_in _ (by omega)]
 have O5:(126:UInt64).toNat=126:=rfl
 rw [cj.jd n within it.bytes 255 _ hb hw hm,cj.jd n within it.bytes v1 _ hb hw hm,Dk.kindOf,tw]
 by_cases a:it.n=126
 ·rw [aa (show (it.n.toNat:Int)=126 by rw [a];rfl),ak,aq a]
 ·rw [ae (show ¬(it.n.toNat:Int)=126 from fun h=>a (aY.1 (by omega))),ah,aj a]
theorem eD.goal (it:Itv) (hp:decide (bG.c7 (bG.of it)≤1048576)=true):eD.F it=some [.ag (bI.cells (Dk.dec (bG.of it)).1),.ag (cX.cells (Dk.dec (bG.of it)).2)]:=by
 have hb:=aF hp
 have hl:=Mp.oz (bG.of it)
 refine eD.dQ _ ?_
 intro v1 e1 v2 e2 v3 e3
 rw [bL (aa (by omega))]
 unfold Dk.dec
 by_cases a:Mp.dp (bG.of it)=0
 ·rw [aa a,aR,ah,aj (by simpa using a)]
  by_cases k:it.kind=6
  ·have hm:=Dk.qK a (show (bG.of it).kind=6 from k)
   have oR:Mp.gf it.kids=0:=hm.1
   have qw:it.kids.length % 2=0:=hm.2.1
   have xK:(Mp.eR it.kids).length+1≤(Mp.lay (bG.of it)).length:=hm.2.2
   rw [aa k,aR,ah,aj (show ¬(bG.of it).kind≠6 from fun h=>h k),aa (show (Mp.eR it.kids).length+([]:List Int).length≤536870912 by simp only [aA];omega),aa (show Mp.gf it.kids=0∧it.kids.length % 2=0∧(0:Int)≤0∧(0:Int)≤200 from ⟨oR,qw,by omega,by omega⟩),aO,cI,e2,e3,Dk.value_of,aq k];rfl
  ·rw [ae k,aV,ak,aq (show (bG.of it).kind≠6 from k),bL (by decide),e1];rfl
 ·rw [ae a,aV,ak,aq a];rfl
end Go.Eng
namespace Go.Eng
open Go.IntWalk
theorem dE.goal (n:Nat) (b:bY) (within:Int) (hp:(decide (b.length≤536870912∧0≤within∧within<200)&&decide ((4 * b.length+1)<n+1))=true):dE.F n b within=some [.sl .fl ((Dk.tX (199 - within).toNat b).getD []),.b (Dk.tX (199 - within).toNat b).isSome]:=by
 simp only [af,az] at hp
 obtain ⟨⟨hb,hw⟩,hn⟩:=hp
 refine dE.dQ _ _ _ ?_
 intro v1 h1 v2 h2 v3 h3 v4 h4 v5 h5 v6 h6 v7 h7
 have e2:v2=decide (v1.err=0):=by rw [h2,Bool.not_not]
 rw [bL (aa (by omega))]
 simp only [aG,cI]
 rw [bL (by rw [e2];cases decide (v1.err=0) <;> rfl),Dk.vj,←h1,←h3]
 by_cases a:v1.err≠0∨v3≠6
 ·have e4:v4=true:=by
   rw [h4]
   by_cases x:v1.err=0
   ·rw [aa x,ae (a.resolve_left (fun h=>h x))];rfl
   ·rw [ae x];rfl
  rw [e4,ak,aq a];rfl
 ·have a':=a
  simp only [not_or,Classical.not_not,ne_eq] at a
  have e4:v4=false:=by rw [h4,aa a.1,aa a.2];rfl
  have hd:=Dk.rT (c:=b) (by rw [←h1];exact a.1) (by rw [←h3];exact a.2)
  have e5:v5=within+1:=by rw [h5,i64_in _ (by omega)]
  have ed:(200 - v5).toNat=(199 - within).toNat:=by omega
  have ek:(bG.val (Mp.dec b 1000).1).kids=(Mp.dec b 1000).1.kids:=rfl
  rw [ek] at h6 h7
  rw [e4,ah,aj a',ek,bL (by
   rw [aa (show (Mp.eR (Mp.dec b 1000).1.kids).length+([]:List Int).length≤536870912 by simp only [aA];omega),aa (show Mp.gf (Mp.dec b 1000).1.kids=0∧(Mp.dec b 1000).1.kids.length % 2=0∧0≤v5∧v5≤200 from ⟨hd.1,hd.2.1,by omega,by omega⟩),aa (show 4 * (Mp.eR (Mp.dec b 1000).1.kids).length+3<n by omega)];rfl)]
  rw [ed] at h6 h7
  cases hf:Dk.fields (199 - within).toNat (Mp.dec b 1000).1.kids 0 [] with
  | ok l=>rw [hf] at h6 h7;rw [h6,h7];rfl
  | bad q=>rw [hf] at h6 h7;rw [h6,h7];rfl
theorem sI (s:bY) (c:UInt8) (i:Nat) (hi:i<s.length) (jM:s.getD i 0≠c) (h:Lib.indexByte s c=if Lib.indexByte (s.drop i) c=-1 then -1 else i+Lib.indexByte (s.drop i) c) :
  Lib.indexByte s c=if Lib.indexByte (s.drop (i+1)) c=-1 then -1 else ((i+1:Nat):Int)+Lib.indexByte (s.drop (i+1)) c:=by
 have e:Lib.indexByte (s.drop i) c=if (Lib.indexByte (s.drop (i+1)) c == -1)=true then -1 else Lib.indexByte (s.drop (i+1)) c+1:=by
  rw [drop_cons (l:=s) (i:=i) hi 0,Lib.indexByte,aj (show ¬(s.getD i 0 == c)=true by rw [beq_iff_eq];exact jM)]
 have:=Lib.indexByte_ge (s.drop (i+1)) c
 by_cases a:Lib.indexByte (s.drop (i+1)) c=-1
 ·rw [aq (by rw [beq_iff_eq];exact a)] at e
  rw [h,e,aq rfl,aq a]
 ·rw [aj (by rw [beq_iff_eq];exact a)] at e
  rw [h,e,aj (by omega),aj a];omega
theorem bD.Kw (n:Nat) (s:bY) (x2 x3:bI) (hs:s.length≤536870912):∀(m i:Nat),i+m=s.length→(Lib.indexByte s 0=if Lib.indexByte (s.drop i) 0=-1 then -1 else i+Lib.indexByte (s.drop i) 0) →
  bD.l4 n s i x2 x3=some (Dk.two (if (Dk.cut s 0).2.2=true then (⟨x3.kind,x3.bits,x3.high,x3.low,(Dk.cut s 0).1,(Dk.cut s 0).2.1,x3.sub,x3.bytes,x3.kids⟩,ee.whole (Dk.cut s 0).1&&Tree.fK (Dk.cut s 0).2.1 true) else (Db.zero,false))):=by
 intro m
 induction m with
 | zero =>
  intro i hi h
  refine bD.F6 _ _ _ _ _ ?_
  intro v1 e1 v2 e2 v3 e3 v4 e4 v5 e5
  rw [ae (show ¬(i:Int)<s.length by omega),ah] at e2
  rw [aJ (by omega),aq (by rw [Lib.indexByte])] at h
  rw [ae (show ¬(i:Int)<s.length by omega),e2,aa (show (i:Int)=s.length by omega)]
  simp only [aV,Bool.true_or,cI,ah,ak]
  have ec:Dk.cut s 0=(s,[],false):=by rw [Dk.cut,h,aj (by decide)]
  rw [ec,aj (fun h=>by cases h)];rfl
 | succ m ih =>
  intro i hi h
  refine bD.F6 _ _ _ _ _ ?_
  intro v1 e1 v2 e2 v3 e3 v4 e4 v5 e5
  rw [aI] at e1 e4
  have sV:v3=((i+1:Nat):Int):=by rw [e3,i64_in _ (by omega)];omega
  rw [aa (show (i:Int)<s.length by omega),ak] at e2
  rw [aa (show (i:Int)<s.length by omega),fq (show (0:Int)≤i by omega) (show (i:Int)<s.length by omega),aO,aO,aG,cI,cI,cI]
  by_cases z:v1=0
  ·have hz:Lib.indexByte s 0=i:=by
    have e:Lib.indexByte (s.drop i) 0=0:=by
     rw [drop_cons (l:=s) (i:=i) (by omega) 0,Lib.indexByte,aq (show (s.getD i 0 == 0)=true by rw [←e1,z];rfl)]
    rw [h,e,aj (by decide)];omega
   have ec:Dk.cut s 0=(s.take i,s.drop (i+1),true):=by rw [Dk.cut,hz,aq (by omega),aI]
   have l5:(s.drop v3.toNat).length≤1099511627776:=by rw [aS];omega
   have l4:(s.take i).length≤1099511627776:=by rw [bh];omega
   rw [e2,aa z,aR,ah,ae (show ¬(i:Int)=s.length by omega),ah,bL (ij (by omega) (by omega) (by omega)),bL (ij (by omega) (by omega) (by omega)),aI,bL (aa l4),aa l5]
   simp only [Bool.and_true,aG,cI]
   rw [ec,aq rfl,e4,e5,sV,aI]
   cases ee.whole (s.take i) <;> rfl
  ·rw [e2,ae z,aV,ak,sV]
   exact ih (i+1) (by omega) (sI s 0 i (by omega) (by rw [←e1];exact z) h)
theorem bD.F9 (n:Nat) (I:bY→Option (List bM)) (b:bY) (k:Int) (x3:Bool) (x4:bI) (hb:b.length≤536870912) (hx:x3=decide (k=13∨k=14)) (a4:k≠4) (lq:k≠15) (a5:k≠5) (a6:¬(k=6∨k=127∨k=255)) (a7:k≠7) (a9:¬(k=9∨k=17∨k=18)) (nG:k≠11) (a12:k≠12) :
  bD.j5 n b b k x3 x4 ⟨k,0,0,0,[],[],0,[],[]⟩=some (Dk.two (Dk.jn I k b)):=by
 refine bD.KW _ _ _ _ _ _ _ ?_
 intro v1 e1 v2 e2 v3 e3 v4 e4
 rw [hx,Dk.jn,aj a4,aj lq,aj a5,aj a6,aj a7,aj a9,aj nG,aj a12]
 by_cases a:k=13∨k=14
 ·rw [aa a,ak,aq a,bL (aa (by omega))];rfl
 rw [ae a,ah,aj a]
 by_cases c:k=19
 ·rw [aa c,ak,aq c,bL (aa (by omega)),bL (aa (by omega)),c,e1,e3,show decide ((b.length:Int)=16)=decide (b.length=16) from aX.2 (by omega)];rfl
 rw [ae c,ah,aj c];rfl
theorem bD.nY (n:Nat) (I:bY→Option (List bM)) (b:bY) (k:Int) (x3:Bool) (x4:bI) (hb:b.length≤536870912) (hx:x3=decide (k=9∨k=17∨k=18)) (a4:k≠4) (lq:k≠15) (a5:k≠5) (a6:¬(k=6∨k=127∨k=255)) (a7:k≠7) :
  bD.j3 n b b k x3 x4 ⟨k,0,0,0,[],[],0,[],[]⟩=some (Dk.two (Dk.jn I k b)):=by
 refine bD.pZ _ _ _ _ _ _ _ ?_
 intro v1 e1 v2 e2 v3 e3 v4 e4
 rw [hx]
 by_cases a9:k=9∨k=17∨k=18
 ·rw [aa a9,ak,Dk.jn,aj a4,aj lq,aj a5,aj a6,aj a7,aq a9,bL (aa (by omega)),e1,show decide ((b.length:Int)=8)=decide (b.length=8) from aX.2 (by omega)];rfl
 rw [ae a9,ah]
 by_cases nG:k=11
 ·rw [aa nG,ak,Dk.jn,aj a4,aj lq,aj a5,aj a6,aj a7,aj a9,aq nG,nG]
  refine (bD.Kw n b x4 ⟨11,0,0,0,[],[],0,[],[]⟩ hb b.length 0 (by omega) ?_)
  have:=Lib.indexByte_ge b 0
  rw [bc]
  split <;> omega
 rw [ae nG,ah]
 by_cases a12:k=12
 ·rw [aa a12,ak,Dk.jn,aj a4,aj lq,aj a5,aj a6,aj a7,aj a9,aj nG,aq a12]
  by_cases s:b.length<12
  ·rw [aa (show (b.length:Int)<12 by omega),ak,aq s];rfl
  ·have sV:v3=b.take 12:=e3
   have Gy:v4=b.drop 12:=e4
   rw [ae (show ¬(b.length:Int)<12 by omega),ah,aj s,bL (ij (by omega) (by omega) (by omega)),bL (fu (by rw [sV,bh,aA];omega) (by rw [sV,bh,aA];omega)),bL (ij (by omega) (by omega) (by omega)),bL (aa (by rw [Gy,aS];omega)),sV,Gy,bz,a12];rfl
 rw [ae a12,ah]
 by_cases td:k=13
 ·rw [aa td,ak]
  exact bD.F9 n I b k _ x4 hb (by rw [aa (Or.inl td)]) a4 lq a5 a6 a7 a9 nG a12
 ·rw [ae td,ah]
  exact bD.F9 n I b k _ x4 hb (aX.2 ⟨.inr,fun h=>h.resolve_left td⟩) a4 lq a5 a6 a7 a9 nG a12
theorem bD.jo (n:Nat) (I:bY→Option (List bM)) (b:bY) (k:Int) (x3:Bool) (x4:bI) (hb:b.length≤536870912) (hx:x3=decide (k=6∨k=127∨k=255)) (a4:k≠4) (lq:k≠15) (a5:k≠5) :
  bD.j2 n b b k x3 x4 ⟨k,0,0,0,[],[],0,[],[]⟩=some (Dk.two (Dk.jn I k b)):=by
 rw [bD.jC,hx]
 by_cases a6:k=6∨k=127∨k=255
 ·rw [aa a6,ak,Dk.jn,aj a4,aj lq,aj a5,aq a6,show decide ((b.length:Int)=0)=decide (b.length=0) from aX.2 (by omega)];rfl
 rw [ae a6,ah]
 by_cases a7:k=7
 ·rw [aa a7,ak,Dk.jn,aj a4,aj lq,aj a5,aj a6,aq a7,bL (fu (by rw [aA];omega) (by rw [aA];omega)),bz,a7,show decide ((b.length:Int)=12)=decide (b.length=12) from aX.2 (by omega)];rfl
 rw [ae a7,ah]
 by_cases a9:k=9
 ·rw [aa a9,ak]
  exact bD.nY n I b k _ x4 hb (by rw [aa (Or.inl a9)]) a4 lq a5 a6 a7
 rw [ae a9,ah]
 by_cases xE:k=17
 ·rw [aa xE,ak]
  exact bD.nY n I b k _ x4 hb (by rw [aa (Or.inr (Or.inl xE))]) a4 lq a5 a6 a7
 rw [ae xE,ah]
 exact bD.nY n I b k _ x4 hb (aX.2 ⟨fun h => .inr (.inr h),fun h=>(h.resolve_left a9).resolve_left xE⟩) a4 lq a5 a6 a7
theorem Mp.Nq (b:bY):Mp.kq b 0 4=decide (4≤b.length)∧(4≤b.length→Mp.kk b 0 4=b.take 4):=by
 have h:Mp.kq b 0 4=decide (4≤b.length):=by
  unfold Mp.kq
  exact aX.2 (by omega)
 refine ⟨h,fun h4=>?_⟩
 unfold Mp.kk
 rw [h,aa h4,ak];rfl
theorem bD.jd (n:Nat) (within:Int) (b:bY) (k:Int) (x3:bI) (hb:b.length≤536870912) (hw:0≤within∧within<200) (hn:4 * b.length+2<n+1) :
  bD.j1 n k b within x3=some (Dk.two (Dk.jn (Dk.tX (199 - within).toNat) k b)):=by
 refine bD.kM _ _ _ _ _ ?_
 intro v1 e1 v2 e2 v3 e3 v4 e4 v5 e5 v6 e6 v7 e7 v8 e8 v9 e9 v10 tc v11 vM v12 yA lx xq ji tt mY zX mW Bb kR IX
 have hlen:∀c:bY,c.length≤b.length→((Dk.tX (199 - within).toNat c).getD []).length≤1099511627776:=by
  intro c hc
  cases h:Dk.tX (199 - within).toNat c with
  | none=>simp
  | some l=>have:=Dk.zw h;show l.length≤_;omega
 by_cases a4:k=4
 ·have hk:=hlen b (Nat.le_refl _)
  rw [←e1] at hk
  rw [aa a4,ak,aa (show b.length≤536870912∧0≤within∧within<200 by omega),aa (show 4 * b.length+1<n by omega),aO,cI,aa hk]
  simp only [Bool.and_true,aG,cI]
  rw [Dk.jn,aq a4,←e1,←e2,e3,a4]
  cases v2 <;> rfl
 rw [ae a4,ah]
 by_cases lq:k=15
 ·obtain ⟨r1,r2⟩:=Mp.Nq b
  rw [aa lq,ak,Dk.jn,aj a4,aq lq,bL (aa (by omega))]
  rw [r1] at e5
  by_cases s:b.length<4
  ·have IV:v5=false:=by rw [e5];exact ae (by omega)
   have zW:v7=true:=by rw [e7,IV];rfl
   rw [IV,zW,ak,aq (.inl s)];rfl
  ·have IV:v5=true:=by rw [e5];exact aa (by omega)
   have hs:=(Dk.vY b (by omega)).resolve_right (by omega)
   have Gy:v4=cT.be (b.take 4):=by rw [e4,r2 (by omega)]
   rw [←e6,←Gy] at hs
   rw [IV,aR,ah] at e7
   rw [IV]
   simp only [aR,aV,aO,Bool.or_true,Bool.false_or,cI]
   by_cases t:b.length<4+Dk.hU b
   ·have zW:v7=true:=by rw [e7];exact aa (by rw [hs];exact t)
    rw [zW,ak,aq (.inr t)];rfl
   ·have zW:v7=false:=by rw [e7];exact ae (by rw [hs];exact t)
    have MP:v8=(Dk.hU b:Int):=by rw [e8,Gy,show (cT.be (b.take 4)).toNat=Dk.hU b from rfl,i64_in _ (by omega)]
    have IU:v9=((4+Dk.hU b:Nat):Int):=by rw [e9,MP,i64_in _ (by omega)];omega
    have ev:v9.toNat=4+Dk.hU b:=by omega
    have L2:v12=Dk.kI b:=by rw [yA,ev];exact Dk.vU b
    have Th:v12.length≤b.length:=by rw [L2,Dk.kI,bh,aS];omega
    rw [ev] at tc vM
    rw [zW,ah,aj (by omega),bL (ij (by omega) (by omega) (by omega)),ev,aa (show (b.drop (4+Dk.hU b)).length≤536870912∧0≤within∧within<200 from ⟨by rw [aS];omega,by omega,by omega⟩),aa (show 4 * (b.drop (4+Dk.hU b)).length+1<n by rw [aS];omega),aO,cI,
     bL (ij (show (0:Int)≤4 by omega) (show (4:Int)≤v9 by omega) (show v9≤b.length by omega)),aa (show v12.length≤1099511627776 by omega)]
    simp only [Bool.and_true,aG,cI]
    rw [←tc,←vM,xq,L2,lq]
    cases v11 <;> rfl
 rw [ae lq,ah]
 by_cases a5:k=5
 ·rw [aa a5,ak,Dk.jn,aj a4,aj lq,aq a5]
  have yz:ji=b.getD 0 0:=tt
  by_cases s:b.length=0
  ·have yy:mY=true:=by rw [zX,aa (show (b.length:Int)=0 by omega)];rfl
   rw [aa (show (b.length:Int)=0 by omega),yy,aq (.inl s)];rfl
  ·have Dd:mW=(ji.toNat:Int):=by have:=ji.toNat_lt;rw [Bb,i64_in _ (by omega)]
   have IW:kR=b.drop 1:=IX
   rw [ae (show ¬(b.length:Int)=0 by omega),ah] at zX
   rw [ae (show ¬(b.length:Int)=0 by omega),fq (show (0:Int)≤0 by omega) (show (0:Int)<b.length by omega)]
   simp only [aV,aO,aR,Bool.or_true,Bool.false_or,cI]
   by_cases z:ji=0
   ·have yy:mY=true:=by rw [zX];exact aa z
    rw [yy,ak,aq (.inr (by rw [←yz];exact z))];rfl
   ·have yy:mY=false:=by rw [zX];exact ae z
    rw [yy,ah,aj (fun h=>h.elim s (by rw [←yz];exact z)),bL (ij (by omega) (by omega) (by omega)),bL (fu (by rw [IW,aS,aA];omega) (by rw [IW,aS,aA];omega)),Dd,IW,yz,bz,a5];rfl
 rw [ae a5,ah]
 by_cases a6:k=6
 ·rw [aa a6,ak]
  exact bD.jo n _ b k _ x3 hb (by rw [aa (Or.inl a6)]) a4 lq a5
 rw [ae a6,ah]
 by_cases Fv:k=255
 ·rw [aa Fv,ak]
  exact bD.jo n _ b k _ x3 hb (by rw [aa (Or.inr (Or.inr Fv))]) a4 lq a5
 rw [ae Fv,ah]
 exact bD.jo n _ b k _ x3 hb (aX.2 ⟨fun h => .inr (.inl h),fun h=>(h.resolve_left a6).resolve_right Fv⟩) a4 lq a5
theorem bD.goal (n:Nat) (k:Int) (b:bY) (within:Int) (hp:(decide (b.length≤536870912∧0≤k∧k≤127∧0≤within∧within<200)&&decide ((4 * b.length+2)<n+1))=true):bD.F n k b within=some (Dk.two (Dk.lD (199 - within).toNat k b)):=by
 simp only [af,az] at hp
 obtain ⟨⟨hb,mi,gG,hw⟩,hn⟩:=hp
 rw [bD.fM,bD.jd n within b _ _ hb hw hn,bD.jd n within b _ _ hb hw hn,Dk.lD]
 by_cases a:k=126
 ·rw [aa a,ak,aq a]
 ·rw [ae a,ah,aj a]
end Go.Eng
namespace Go.Eng
open Go.IntWalk
namespace Dk
open Db (iv fU)
theorem Ee {b:bY} (h:b.length=8):Mp.kk b 0 8=b:=by
 unfold Mp.kk Mp.kq
 rw [aa (by omega),ak]
 show (b.drop 0).take 8=b
 rw [bc,List.take_of_length_le (by omega)]
theorem zd {b:bY} (h:b.length=16):Mp.kk b 0 8=b.take 8∧Mp.kk b 8 8=b.drop 8:=by
 unfold Mp.kk Mp.kq
 rw [aa (by omega),ak,aa (by omega),ak]
 refine ⟨rfl,?_⟩
 show (b.drop 8).take 8=b.drop 8
 rw [List.take_of_length_le (by rw [aS];omega)]
def tI (I:bY→Option (List bM)) (v:bI) (c:bY):bI × Bool :=
 match I c with
  | some l=>({ v with kids:=l },true)
  | none=>(Db.zero,false)
theorem Av (I:bY→Option (List bM)) (k:Int) (b:bY):(jn I k b).2=(mS (tI I) k b).2∧((mS (tI I) k b).2=true→(jn I k b).1=(mS (tI I) k b).1):=by
 unfold jn mS
 by_cases a4:k=4
 ·rw [aq a4,aq a4]
  unfold tI
  cases h:I b with
  | none=>exact ⟨rfl,fun h=>by cases h⟩
  | some l=>exact ⟨rfl,fun _=>rfl⟩
 rw [aj a4,aj a4]
 by_cases lq:k=15
 ·rw [aq lq,aq lq]
  by_cases s:b.length<4∨b.length<4+hU b
  ·rw [aq s,aq s];exact ⟨rfl,fun h=>by cases h⟩
  ·rw [aj s,aj s]
   unfold tI
   cases h:I (b.drop (4+hU b)) with
   | none=>exact ⟨rfl,fun h=>by cases h⟩
   | some l=>exact ⟨rfl,fun _=>rfl⟩
 rw [aj lq,aj lq]
 by_cases a5:k=5
 ·rw [aq a5,aq a5]
  by_cases s:0<b.length∧b.getD 0 0≠0
  ·rw [aq s,aj (by rintro (h | h);omega;exact s.2 h)];exact ⟨rfl,fun _=>rfl⟩
  ·rw [aj s,aq (by
    by_cases h:b.length=0
    ·exact .inl h
    ·exact .inr (Classical.byContradiction fun g=>s ⟨by omega,g⟩))]
   exact ⟨rfl,fun h=>by cases h⟩
 rw [aj a5,aj a5]
 by_cases a6:k=6∨k=127∨k=255
 ·rw [aq a6,aj (by omega),aj (by omega),aj (by omega),aj (by omega),aj (by omega),aj (by omega),aq a6]
  exact ⟨rfl,fun _=>rfl⟩
 rw [aj a6]
 by_cases a7:k=7
 ·rw [aq a7,aq a7];exact ⟨rfl,fun _=>rfl⟩
 rw [aj a7,aj a7]
 by_cases a9:k=9∨k=17∨k=18
 ·rw [aq a9,aq a9]
  exact ⟨rfl,fun h=>by rw [Ee (aF h)]⟩
 rw [aj a9,aj a9]
 by_cases nG:k=11
 ·rw [aq nG,aq nG]
  cases h:(cut b 0).2.2
  ·rw [aj (by decide)];exact ⟨rfl,fun h=>by cases h⟩
  ·rw [aq rfl]
   unfold Tree.fK
   refine ⟨?_,fun _=>rfl⟩
   cases ee.zero (cut b 0).2.1 <;> cases ee.whole (cut b 0).1 <;> cases ee.whole (cut b 0).2.1 <;> rfl
 rw [aj nG,aj nG]
 by_cases a12:k=12
 ·rw [aq a12,aq a12]
  by_cases s:b.length<12
  ·rw [aq s,aj (fun h=>by omega)];exact ⟨rfl,fun h=>by cases h⟩
  ·rw [aj s]
   by_cases w:ee.whole (b.drop 12)=true
   ·rw [aq ⟨by omega,w⟩];exact ⟨w,fun _=>rfl⟩
   ·rw [aj (fun h=>w h.2)];exact ⟨by simpa using w,fun h=>by cases h⟩
 rw [aj a12,aj a12]
 by_cases td:k=13∨k=14
 ·rw [aq td,aq td];exact ⟨rfl,fun _=>rfl⟩
 rw [aj td,aj td]
 by_cases Jd:k=19
 ·rw [aq Jd,aq Jd]
  by_cases s:b.length=16
  ·rw [aq s,(zd s).1,(zd s).2];exact ⟨aa s,fun _=>rfl⟩
  ·rw [aj s];exact ⟨ae s,fun h=>by cases h⟩
 rw [aj Jd,aj Jd,aj a6]
 exact ⟨rfl,fun h=>by cases h⟩
theorem yh (within:Int) (hw:0≤within∧within<200) (n:UInt64) (hn:n≤127) (b:bY):(lD (199 - within).toNat (n.toNat:Int) b).2=(jE (200 - within).toNat n b).2∧((jE (200 - within).toNat n b).2=true→(lD (199 - within).toNat (n.toNat:Int) b).1=(jE (200 - within).toNat n b).1):=by
 have h:=Av (tX (199 - within).toNat) (kindOf n) b
 have e:jE (200 - within).toNat n b=mS (tI (tX (199 - within).toNat)) (kindOf n) b:=by
  rw [vB within n b ⟨hw.1,by omega⟩,aj (by omega)];rfl
 have k:(if (n.toNat:Int)=126 then 255 else (n.toNat:Int))=kindOf n:=by
  unfold kindOf
  have O5:(126:UInt64).toNat=126:=rfl
  by_cases a:n=126
  ·rw [aq a,a];rfl
  ·rw [aj a,aj (fun h=>a (aY.1 (by omega)))]
 rw [e,lD,k]
 exact h
end Dk
theorem bP.fH (n:Nat) (it:Itv) (path:List Int) (within:Int) (x5:cX) (hw:0≤within∧within≤200) (hb:(Mp.eR it.kids).length+path.length≤536870912) (hn:4 * (Mp.eR it.kids).length+2<n) (hc:Mp.gf it.kids=0):∀(m i:Nat) (acc:List bM),i+2 * m=it.kids.length→acc.length+m≤600000000 →
  bP.l1 n path within acc i it x5=some [.sl .fl (((Dk.fields (200 - within).toNat (it.kids.drop i) i path).app acc).Es),.ag (cX.cells ((Dk.fields (200 - within).toNat (it.kids.drop i) i path).app acc).qQ)]:=by
 have hlen:=Mp.iA it.kids
 intro m
 induction m with
 | zero =>
  intro i acc hi ha
  refine bP.eC _ _ _ _ _ _ _ ?_
  intro v1 h1 v2 h2 v3 h3 v4 h4 v5 h5 v6 h6 v7 h7 v8 h8 v9 h9 v10 nA
  rw [ae (by omega),ah,aJ (by omega),Dk.pH]
  simp only [Db.fU.app,aM,Db.fU.Es];rfl
 | succ m ih =>
  intro i acc hi ha
  refine bP.eC _ _ _ _ _ _ _ ?_
  intro v1 h1 v2 h2 v3 h3 v4 h4 v5 h5 v6 h6 v7 h7 v8 h8 v9 h9 v10 nA
  have e6:v6=((i+1:Nat):Int):=by rw [h6,i64_in _ (by omega)];omega
  rw [e6] at h7 h8
  rw [aI] at h2 h4
  rw [aI,bG.ib] at h7 h8
  have hd:it.kids.drop i=it.kids.getD i (eN.eG .il) :: it.kids.getD (i+1) (eN.eG .il) :: it.kids.drop (i+2):=by
   rw [drop_cons (show i<it.kids.length by omega) (eN.eG .il),drop_cons (show i+1<it.kids.length by omega) (eN.eG .il)]
  have C0:=Mp.qL it.kids i
  have yr:=Mp.mT it.kids i hc
  rw [hd] at C0 yr
  simp only [Mp.eR,aw] at C0
  have gG:=Mp.rP (it.kids.getD i (eN.eG .il))
  have jx:=(Mp.jc (it.kids.getD i (eN.eG .il))).2
  rw [←h4] at jx
  obtain ⟨_,yr⟩:=Mp.jR yr
  obtain ⟨CX,_⟩:=Mp.jR yr
  have e3:v3=decide (v2=4):=by rw [h3,Bool.not_not]
  rw [hd,Dk.oc,←h2,←h4]
  rw [e6,aI,bG.ib]
  generalize it.kids.getD (i+1) (eN.eG .il)=x at h7 h8 C0 CX
  rw [aa (by omega),ak,bL (fq (by omega) (by omega)),aa (show v4.length≤1099511627776 by omega)]
  simp only [Bool.and_true,aG,cI]
  rw [bL (by rw [e3];cases decide (v2=4) <;> rfl)]
  by_cases bad:v2≠4∨ee.zero v4=true
  ·have e5:v5=true:=by
    rw [h5]
    by_cases x:v2=4
    ·rw [aa x,bad.resolve_left (fun h=>h x)];rfl
    ·rw [ae x];rfl
   rw [e5,ak,aq bad,bL (aa (by omega))];rfl
  ·have e5:v5=false:=by
    simp only [not_or,Classical.not_not,ne_eq] at bad
    rw [h5,aa bad.1,Bool.eq_false_iff.2 bad.2];rfl
   rw [e5,ah,aj bad,bL (fq (by omega) (by omega)),bL (aa (by omega)),bL (by
    rw [aa (show (Mp.lay x).length+(path++[((i+1:Nat):Int)]).length≤536870912 by simp only [aw,aK];omega),aa (show Mp.dp x=0∧0≤within∧within≤200 from ⟨CX,hw⟩),aa (show 4 * (Mp.lay x).length<n by omega)];rfl)]
   cases hv:Dk.value (200 - within).toNat x (path++[((i+1:Nat):Int)]) with
   | bad q =>
    rw [hv] at h8
    rw [h8];rfl
   | ok w =>
    rw [hv] at h7 h8
    have OV:v7=w:=h7
    have DT:v8=⟨0,0,[]⟩:=h8
    have RR:v9.length=1:=by rw [h9];rfl
    rw [DT,show (!decide ((cX.mk 0 0 []).err=0))=false from rfl,ah,bL (fu (by omega) (by omega)),nA,i64_in _ (by omega),show (i:Int)+2=((i+2:Nat):Int) by omega]
    rw [ih (i+2) (acc++v9) (by omega) (by rw [aw];omega),h9,OV]
    simp only
    rw [Db.fU.rX];rfl
theorem bP.goal (n:Nat) (it:Itv) (p:List Int) (within:Int) (hp:((decide ((Mp.eR it.kids).length+p.length≤536870912)&&decide (Mp.gf it.kids=0∧it.kids.length % 2=0∧0≤within∧within≤200))&&decide ((4 * (Mp.eR it.kids).length+3)<n+1))=true) :
  bP.F n it p within=some [.sl .fl (Dk.fields (200 - within).toNat it.kids 0 p).Es,.ag (cX.cells (Dk.fields (200 - within).toNat it.kids 0 p).qQ)]:=by
 simp only [af,az] at hp
 obtain ⟨⟨hb,hc,he,hw⟩,hn⟩:=hp
 have hlen:=Mp.iA it.kids
 rw [bP.fM]
 have:=bP.fH n it p within ⟨0,0,[]⟩ hw hb (by omega) hc (it.kids.length / 2) 0 [] (by omega) (by simp only [aA];omega)
 rw [bc,Db.fU.rW] at this
 exact this
theorem bN.oZ (n:Nat) (it:Itv) (path:List Int) (within:Int) (x4:bI) (x5:cX) (hw:0≤within∧within≤200) (hb:(Mp.eR it.kids).length+1+path.length≤536870912) (hn:4 * (Mp.eR it.kids).length<n) (hc:Mp.gf it.kids=0):∀(m i:Nat) (acc:List bM),i+m=it.kids.length→acc.length+m≤600000000 →
  bN.l2 n path within i it x4 x5 4 0 0 0 [] [] 0 acc=some (Db.iv.M9 (((Dk.elems (200 - within).toNat (it.kids.drop i) i path).app acc).qf (Db.doc 4 []))):=by
 have hlen:=Mp.iA it.kids
 intro m
 induction m with
 | zero =>
  intro i acc hi ha
  refine bN.lS _ _ _ _ _ _ _ _ _ _ _ _ _ _ _ ?_
  intro v1 h1 v2 h2 v3 h3 v4 h4 v5 h5 v6 h6
  rw [ae (by omega),ah,aJ (by omega),Dk.uj]
  simp only [Db.fU.app,aM,Db.fU.qf];rfl
 | succ m ih =>
  intro i acc hi ha
  refine bN.lS _ _ _ _ _ _ _ _ _ _ _ _ _ _ _ ?_
  intro v1 h1 v2 h2 v3 h3 v4 h4 v5 h5 v6 h6
  rw [aI,bG.ib] at h2 h3
  have hd:it.kids.drop i=it.kids.getD i (eN.eG .il) :: it.kids.drop (i+1):=drop_cons (show i<it.kids.length by omega) (eN.eG .il)
  have C0:=Mp.va it.kids i (eN.eG .il) (by omega)
  have yr:=Mp.mT it.kids i hc
  rw [hd] at yr
  obtain ⟨CX,_⟩:=Mp.jR yr
  rw [hd,Dk.sT,aI,bG.ib]
  generalize it.kids.getD i (eN.eG .il)=x at h2 h3 C0 CX
  rw [aa (by omega),ak,bL (fq (by omega) (by omega)),bL (aa (by omega)),bL (by
    rw [aa (show (Mp.lay x).length+(path++[(i:Int)]).length≤536870912 by simp only [aw,aK];omega),aa (show Mp.dp x=0∧0≤within∧within≤200 from ⟨CX,hw⟩),aa (show 4 * (Mp.lay x).length<n by omega)];rfl)]
  cases hv:Dk.value (200 - within).toNat x (path++[(i:Int)]) with
  | bad q =>
   rw [hv] at h3
   rw [h3];rfl
  | ok w =>
   rw [hv] at h2 h3
   have vx:v2=w:=h2
   have PR:v3=⟨0,0,[]⟩:=h3
   have Ty:v5.length=1:=by rw [h5];rfl
   have RT:v4=kP i:=by
    rw [h4,show (UInt64.ofInt (i:Int)).toNat=i by rw [jv];omega]
   rw [PR,show (!decide ((cX.mk 0 0 []).err=0))=false from rfl,ah,bL (fu (by omega) (by omega)),h6,i64_in _ (by omega),show (i:Int)+1=((i+1:Nat):Int) by omega]
   rw [ih (i+1) (acc++v5) (by omega) (by rw [aw];omega),h5,vx,RT]
   simp only
   rw [Db.fU.rX];rfl
theorem bN.jd (n:Nat) (x3:Bool) (it:Itv) (x5:bI) (x6:cX) (p:List Int) (within:Int) (hx:x3=decide (it.kind=1∨it.kind=2)) (hw:0≤within∧within≤200) (hb:(Mp.lay (bG.of it)).length+p.length≤536870912) (hc:Mp.dp (bG.of it)=0) (hn:4 * (Mp.lay (bG.of it)).length<n+1) :
  bN.j1 n p within it.kind x3 it x5 x6 ⟨12,0,p⟩=some (Db.iv.M9 (Dk.value (200 - within).toNat (bG.of it) p)):=by
 obtain ⟨ho,hk⟩:=Mp.I3 it hc
 obtain ⟨o1,o2,o3,o4,o5,o6,o7,o8,o9,Ml⟩:=Mp.IG it ho
 have hs:1+it.bytes.length+it.text.length+(Mp.eR it.kids).length≤(Mp.lay (bG.of it)).length:=(Mp.jc (bG.of it)).2
 rw [Dk.value_of]
 refine bN.kM _ _ _ _ _ _ _ _ _ ?_
 intro v1 e1 v2 e2 v3 e3 v4 e4 v5 e5
 rw [hx]
 by_cases k1:it.kind=1∨it.kind=2
 ·rw [aa k1,ak,aj (by omega),aj (by omega),aj (by omega),Db.leaf,aj (by omega),aj (by omega),aj (by omega),aj (by omega)]
  rw [show Db.half (.mk it.kind it.n it.bytes it.text [])=Db.half (bG.of it) from rfl]
  cases (Db.half (bG.of it)).2
  ·rw [aV,ak,aj (by decide)];rfl
  ·rw [aR,ah,aq rfl];rfl
 rw [ae k1,ah]
 by_cases k3:it.kind=3
 ·rw [aa k3,ak,aj (by omega),aj (by omega),aj (by omega),Db.leaf,aj (by omega),aj (by omega),aq k3];rfl
 rw [ae k3,ah]
 by_cases k4:it.kind=4
 ·rw [aa k4,ak,aj (by omega),aj (by omega),aj (by omega),Db.leaf,aj (by omega),aq k4];rfl
 rw [ae k4,ah]
 by_cases k9:it.kind=9
 ·rw [aa k9,ak,aj (by omega),aj (by omega),aj (by omega),Db.leaf,aq k9];rfl
 rw [ae k9,ah]
 by_cases k8:it.kind=8
 ·rw [aa k8,ak,aj (by omega),aj (by omega),aj (by omega),Db.leaf,aj k9,aj k4,aj k3,aq k8]
  rcases r9 (o7 k8) with e | e | e <;> rw [e] <;> rfl
 rw [ae k8,ah]
 by_cases k6:it.kind=6
 ·rw [aa k6,ak,aq k6,aa (show (Mp.eR it.kids).length+p.length≤536870912 by omega),aa (show Mp.gf it.kids=0∧it.kids.length % 2=0∧0≤within∧within≤200 from ⟨hk,o9 k6,hw⟩),aa (show 4 * (Mp.eR it.kids).length+3<n by omega),aO,aO,cI,e1,e2]
  cases Dk.fields (200 - within).toNat it.kids 0 p with
  | ok l=>rfl
  | bad q=>rfl
 rw [ae k6,ah,aj k6]
 by_cases k5:it.kind=5
 ·rw [aa k5,ak,aq k5]
  have:=bN.oZ n it p within x5 x6 hw (by omega) (by omega) hk it.kids.length 0 [] (by omega) (by have:=Mp.iA it.kids;simp only [aA];omega)
  rw [bc,Db.fU.rW] at this
  exact this
 rw [ae k5,ah,aj k5]
 have nX:it.kind=10:=by omega
 rw [aq nX]
 by_cases w:200≤within
 ·rw [aa w,ak,Dk.vB within _ _ hw,aq w,aj (by decide)];rfl
 ·have Tn:it.n.toNat≤127:=aN.1 (o8 nX)
  have sV:v3=(it.n.toNat:Int):=by rw [e3,i64_in _ (by omega)]
  rw [sV] at e4 e5
  have hm:=Dk.yh within ⟨hw.1,by omega⟩ it.n (o8 nX) it.bytes
  rw [←e4,←e5] at hm
  rw [ae w,ah,aa (show it.bytes.length≤536870912∧0≤v3∧v3≤127∧0≤within∧within<200 from ⟨by omega,by omega,by omega,hw.1,by omega⟩),aa (show 4 * it.bytes.length+2<n by omega),aO,cI,hm.1]
  cases hx:(Dk.jE (200 - within).toNat it.n it.bytes).2
  ·rw [aV,ak,aj (by decide)];rfl
  ·rw [aR,ah,aq rfl,hm.2 hx];rfl
theorem bN.goal (n:Nat) (it:Itv) (p:List Int) (within:Int) (hp:((decide ((Mp.lay (bG.of it)).length+p.length≤536870912)&&decide (Mp.dp (bG.of it)=0∧0≤within∧within≤200))&&decide ((4 * (Mp.lay (bG.of it)).length)<n+1))=true) :
  bN.F n it p within=some (Db.iv.M9 (Dk.value (200 - within).toNat (bG.of it) p)):=by
 simp only [af,az] at hp
 obtain ⟨⟨hb,hc,hw⟩,hn⟩:=hp
 rw [bN.fM]
 by_cases a:it.kind=1
 ·rw [aa a,ak]
  exact bN.jd n _ it _ _ p within (by rw [aa (Or.inl a)]) hw hb hc hn
 ·rw [ae a,ah]
  exact bN.jd n _ it _ _ p within (aX.2 ⟨.inr,fun h=>h.resolve_left a⟩) hw hb hc hn
theorem dB.goal (it:Itv) (hp:decide (bG.c7 (bG.of it)≤1048576)=true):dB.F it=some [.ag (bI.cells (Dk.dec (bG.of it)).1),.ag (cX.cells (Dk.dec (bG.of it)).2)]:=by
 have hb:=aF hp
 have hl:=Mp.oz (bG.of it)
 refine dB.dQ _ ?_
 intro v1 e1 v2 e2
 rw [bL (aa (by omega))]
 unfold Dk.dec
 by_cases a:Mp.dp (bG.of it)=0
 ·rw [aa a,aR,ah,aj (by simpa using a)]
  by_cases k:it.kind=6
  ·have hm:=Dk.qK a (show (bG.of it).kind=6 from k)
   have oR:Mp.gf it.kids=0:=hm.1
   have qw:it.kids.length % 2=0:=hm.2.1
   have xK:(Mp.eR it.kids).length+1≤(Mp.lay (bG.of it)).length:=hm.2.2
   rw [aa k,aR,ah,aj (show ¬(bG.of it).kind≠6 from fun h=>h k),aa (show (Mp.eR it.kids).length+([]:List Int).length≤536870912 by simp only [aA];omega),aa (show Mp.gf it.kids=0∧it.kids.length % 2=0∧(0:Int)≤0∧(0:Int)≤200 from ⟨oR,qw,by omega,by omega⟩),aO,cI,e1,e2,Dk.value_of,aq k]
   rw [show (200 - (0:Int)).toNat=200 from rfl]
   cases Dk.fields 200 it.kids 0 [] with
   | ok l=>rfl
   | bad q=>rfl
  ·rw [ae k,aV,ak,aq (show (bG.of it).kind≠6 from k)];rfl
 ·rw [ae a,aV,ak,aq a];rfl
theorem dn.goal:dn.F=some [.b true]:=by
 refine dn.dQ ?_
 intro v1 h1 v2 h2 v3 h3 v4 h4 v5 h5 v6 h6 v7 h7 v8 h8 v9 h9 v10 nA v11 zN v12 zM lx zL ji AL mY yv mW zK kR C3
 subst h1
 have e2:v2.err=0:=by rw [h2];decide +kernel
 have e4:v4.err=12:=by rw [h4];decide +kernel
 have e5:v5=6:=by rw [h5];decide +kernel
 have e7:v7.length=2:=by rw [h7];decide +kernel
 have e9:v9=[97]:=by rw [h9,h7];decide +kernel
 have vM:v11=10:=by rw [zN,h7];decide +kernel
 have xq:lx=18:=by rw [zL,h7];decide +kernel
 have zX:mY.length=8:=by rw [yv,h7];decide +kernel
 have t6:v6=true:=by rw [h6,e2,e5];rfl
 have t8:v8=true:=by rw [h8,t6,e7];rfl
 have t10:v10=true:=by rw [nA,t8,e9];rfl
 have t12:v12=true:=by rw [zM,t10,vM];rfl
 have t14:ji=true:=by rw [AL,t12,xq];rfl
 have t16:mW=true:=by rw [zK,t14,zX];rfl
 have t17:kR=true:=by rw [C3,t16,e4];rfl
 have i0:eE (0:Int) v7.length=true:=by rw [e7];rfl
 have i1:eE (1:Int) v7.length=true:=by rw [e7];rfl
 rw [bL (by decide +kernel),bL (by decide +kernel)]
 simp only [i0,i1,t17,Bool.and_true,aG,cI]
end Go.Eng
namespace Go.Eng
open Go.RowKit Go.Maps Go.Proofs
set_option maxRecDepth 100000
set_option maxHeartbeats 1000000
theorem ej {H:Type} {P:Program} (w:World) {ops:Array Oper} {rest:List Oper} {o:Oper} {a:Act} {Q:Exit→Act→World→Prop}
  (hg:o.guard=none) (m x v:Operand) (t:TypeId) (Oq:o.op=Op.insert t m x v)
  (k e:TypeId) (K:Keyed P k) (ht:P.underlying t=some (.map k e)) (R:Value→Option (DataW H × List MemPlace)) (b n:Nat) (D:DataW H)
  (hm:a.eval m = .map (some b)) (qM:w.ownsMap P k R b n D) (hn:n<maxLen) (key val:Value) (kl:Lit) (hx:a.eval x=key) (hv:a.eval v=val) (tl:keyOf P k key=some kl)
  (d:DataW H) (ps:List MemPlace) (hval:R val=some (d,ps))
  (hK:∀w',w'.ownsMap P k R b (n+1) (D.put kl d)→w.grownBy w' (some b)→wpList P ops Q rest (a.put o.dst undef) w') :
  wpList P ops Q (o :: rest) a w:=by
 refine wpList_plain hg fun K' RP=>?_
 obtain ⟨w',eh,r1,r2⟩:=qM.update K ht hn tl hval
 unfold Oper.wp
 simp [execOp,Oq,hm,hx,hv,eh,Result.andThen]
 exact RP _ _ (hK w' r1 r2)
theorem lK (w:World) (o:Obj):(w.alloc o).heap.size=w.heap.size+1:=Array.size_push ..
theorem jP:Keyed Tryz.prog 3:=int_keyed Tryz.underlying3
theorem vW (w:World):(zeroValue 3).run Tryz.prog w = .ok (.int .i64 0) w:=by kernel_rfl
structure Sz (w w':World):Prop where
 b:w'.heap[w.heap.size]?=some (.cells #[.int .i64 0,.int .i64 0] 144)
 o:Below w.heap.size w w'
 s:w.heap.size+1≤w'.heap.size
theorem Sz.c0 {w w':World} (h:Sz w w'):w'.cell? ⟨w.heap.size,0,none⟩=some (.int .i64 0):=by simp [World.cell?,h.b]
theorem Sz.c1 {w w':World} (h:Sz w w'):w'.cell? ⟨w.heap.size,1,none⟩=some (.int .i64 0):=by simp [World.cell?,h.b]
theorem Sz.f {w w':World} (h:Sz w w') (i:Nat):w'.frozen? ⟨w.heap.size,i,none⟩=false:=by simp [World.frozen?,h.b]
theorem nN (w:World):Sz w ((w.alloc (.cells #[.int .i64 0,.int .i64 0] 144)).alloc (.map #[] 0)):=by
 refine ⟨?_,((Below.refl _ _).alloc (Nat.le_refl _) _).alloc (by rw [lK];omega) _,by rw [lK,lK];omega⟩
 rw [Below.heap_alloc _ _ _ (by rw [lK];omega)]
 exact Array.getElem?_push_size
theorem iU {w w1 w2:World} (h:Sz w w1) (hg:w1.grownBy w2 (some (w.heap.size+1))):Sz w w2 :=
 ⟨(hg.block _ (by have:=h.s;omega) (by simp)).trans h.b,h.o.grown hg (by have:=h.s;omega) (fun k e=>by cases e;omega),Nat.le_trans h.s hg.size⟩
theorem pn (n:Int) (h:(Lit.int .i64 n).wf=true):plainElem (H:=Unit) Tryz.prog 3 (.int .i64 n)=some (.lit (.int .i64 n),[]):=plainElem_int Tryz.underlying3 h
theorem pP (w:World) (o:Obj):((w.alloc o).alloc (.map #[] 0)).ownsMap Tryz.prog 3 (plainElem (H:=Unit) Tryz.prog 3) (w.heap.size+1) 0 (.map []):=by
 have:=World.ownsMap_made (H:=Unit) (w.alloc o) Tryz.prog 3 (plainElem Tryz.prog 3)
 rw [lK] at this;exact this
theorem GO (tmps:Array Value) (W:World) (B:Nat) (x y:Int) (ht:tmps[4]?.getD undef = .pointer (some ⟨B,0,none⟩)) (hb:W.heap[B]?=some (.cells #[.int .i64 x,.int .i64 y] 144)):(results Tryz.f128 tmps).run Tryz.prog W = .ok (.agg #[.int .i64 x,.int .i64 y]) W:=by
 have c0:W.cell? ⟨B,0,none⟩=some (.int .i64 x):=by simp [World.cell?,hb]
 have c1:W.cell? ⟨B,1,none⟩=some (.int .i64 y):=by simp [World.cell?,hb]
 simp [results,Tryz.results128,go_sem,ht,c0,c1]
theorem se {w3:World} {B:Nat} {x y:Int} (hb:w3.heap[B]?=some (.cells #[.int .i64 0,.int .i64 0] 144)):((w3.setCell ⟨B,0,none⟩ (.int .i64 x)).setCell ⟨B,1,none⟩ (.int .i64 y)).heap[B]?=some (.cells #[.int .i64 x,.int .i64 y] 144):=by
 simp [World.setCell,Array.getElem?_modify,hb]
theorem lY {a:Act} {Q:Ending→World→Prop} {W:World} {B:Nat} {x y:Int} (ht:a.tmps[4]?.getD undef = .pointer (some ⟨B,0,none⟩)) (hd:a.defers=[]) (hb:W.heap[B]?=some (.cells #[.int .i64 x,.int .i64 y] 144)) (hQ:Q (.returned (.agg #[.int .i64 x,.int .i64 y])) W):bodyPost Tryz.prog Tryz.f128 Q .ret a W :=
 bodyPost_ret (GO a.tmps W B x y ht hb) hd hQ
theorem sf (w:World) (o:Obj):(w.alloc o).heap[w.heap.size]?=some o:=Array.getElem?_push_size
theorem jA {a b:Int} {p:Int × Int} (h:(a,b)=p):Ending.returned (.agg #[.int .i64 a,.int .i64 b]) = .returned (.agg #[.int .i64 p.1,.int .i64 p.2]):=by cases h;rfl
theorem uF {n:Int} (h0:0≤n) (h1:n<4294967296):wrap64 n=n:=by simp only [wrap64];omega
theorem Ng {n:Int} (h:n<32):(160+n,0)=Mp.sized 4 n:=by simp [Mp.sized,Mp.fixed,Mp.fix,Mp.tD,Mp.base];omega
theorem Nf {n:Int} (h:32≤n) (h2:n<256):(217,1)=Mp.sized 4 n:=by simp [Mp.sized,Mp.fixed,Mp.fix,Mp.tD,Mp.base];rw [aj (by omega),aq h2]
theorem Nd {n:Int} (h:256≤n) (h2:n<65536):(218,2)=Mp.sized 4 n:=by simp [Mp.sized,Mp.fixed,Mp.fix,Mp.tD,Mp.base];rw [aj (by omega),aj (by omega),aq h2]
theorem Nc {n:Int} (h:65536≤n):(219,4)=Mp.sized 4 n:=by simp [Mp.sized,Mp.fixed,Mp.fix,Mp.tD,Mp.base];rw [aj (by omega),aj (by omega),aj (by omega)]
theorem No {n:Int} (h0:0≤n) (h2:n<256):(196,1)=Mp.sized 3 n:=by simp [Mp.sized,Mp.fixed,Mp.fix,Mp.tD,Mp.base];rw [aj (by omega),aq h2]
theorem Nn {n:Int} (h:256≤n) (h2:n<65536):(197,2)=Mp.sized 3 n:=by simp [Mp.sized,Mp.fixed,Mp.fix,Mp.tD,Mp.base];rw [aj (by omega),aj (by omega),aq h2]
theorem Nl {n:Int} (h:65536≤n):(198,4)=Mp.sized 3 n:=by simp [Mp.sized,Mp.fixed,Mp.fix,Mp.tD,Mp.base];rw [aj (by omega),aj (by omega),aj (by omega)]
theorem Nk {n:Int} (h:(n == 1)=true):(212,0)=Mp.sized 10 n:=by rw [beq_iff_eq] at h;subst h;rfl
theorem Nj {n:Int} (h:(n == 2)=true):(213,0)=Mp.sized 10 n:=by rw [beq_iff_eq] at h;subst h;rfl
theorem Ni {n:Int} (h:(n == 4)=true):(214,0)=Mp.sized 10 n:=by rw [beq_iff_eq] at h;subst h;rfl
theorem Nh {n:Int} (h:(n == 8)=true):(215,0)=Mp.sized 10 n:=by rw [beq_iff_eq] at h;subst h;rfl
theorem JM {n:Int} (h:(n == 16)=true):(216,0)=Mp.sized 10 n:=by rw [beq_iff_eq] at h;subst h;rfl
theorem GN {n a b:Int} (h0:0≤n) (h1:(n == 1)=false) (h2:(n == 2)=false) (h3:(n == 4)=false) (h4:(n == 8)=false) (h5:(n == 16)=false) (h:(n<256∧a=199∧b=1)∨(256≤n∧n<65536∧a=200∧b=2)∨(65536≤n∧a=201∧b=4)):(a,b)=Mp.sized 10 n:=by
 simp at h1 h2 h3 h4 h5
 simp [Mp.sized,Mp.fixed,Mp.fix,Mp.tD,Mp.base,h1,h2,h3,h4,h5]
 rw [aj (by omega)]
 rcases h with ⟨h,rfl,rfl⟩ | ⟨h,h',rfl,rfl⟩ | ⟨h,rfl,rfl⟩
 ·rw [aq h]
 ·rw [aj (by omega),aq h']
 ·rw [aj (by omega),aj (by omega)]
theorem JL {n:Int} (h:n<16):(144+n,0)=Mp.sized 5 n:=by simp [Mp.sized,Mp.fixed,Mp.fix,Mp.tD,Mp.base];omega
theorem JK {n:Int} (h:16≤n) (h2:n<65536):(220,2)=Mp.sized 5 n:=by simp [Mp.sized,Mp.fixed,Mp.fix,Mp.tD,Mp.base];rw [aj (by omega),aq h2]
theorem JI {n:Int} (h:65536≤n):(221,4)=Mp.sized 5 n:=by simp [Mp.sized,Mp.fixed,Mp.fix,Mp.tD,Mp.base];rw [aj (by omega),aj (by omega)]
theorem JH {n:Int} (h:n<16):(128+n,0)=Mp.sized 6 n:=by simp [Mp.sized,Mp.fixed,Mp.fix,Mp.tD,Mp.base];omega
theorem JG {n:Int} (h:16≤n) (h2:n<65536):(222,2)=Mp.sized 6 n:=by simp [Mp.sized,Mp.fixed,Mp.fix,Mp.tD,Mp.base];rw [aj (by omega),aq h2]
theorem JF {n:Int} (h:65536≤n):(223,4)=Mp.sized 6 n:=by simp [Mp.sized,Mp.fixed,Mp.fix,Mp.tD,Mp.base];rw [aj (by omega),aj (by omega)]
theorem JP {c:Int} (xL:((((DataW.map []).put (Lit.int .i64 4) (DataW.lit (H:=Unit) (Lit.int .i64 160))).put (Lit.int .i64 5) (DataW.lit (Lit.int .i64 144))).put (Lit.int .i64 6) (DataW.lit (Lit.int .i64 128))).atKey (Lit.int .i64 4) (DataW.lit (Lit.int .i64 0))=DataW.lit (Lit.int .i64 c)):c=160:=by
 have e:((((DataW.map []).put (Lit.int .i64 4) (DataW.lit (H:=Unit) (Lit.int .i64 160))).put (Lit.int .i64 5) (DataW.lit (Lit.int .i64 144))).put (Lit.int .i64 6) (DataW.lit (Lit.int .i64 128))).atKey (Lit.int .i64 4) (DataW.lit (Lit.int .i64 0))=DataW.lit (Lit.int .i64 160):=rfl
 rw [e] at xL;cases xL;rfl
theorem JO {c:Int} (xL:((((DataW.map []).put (Lit.int .i64 4) (DataW.lit (H:=Unit) (Lit.int .i64 160))).put (Lit.int .i64 5) (DataW.lit (Lit.int .i64 144))).put (Lit.int .i64 6) (DataW.lit (Lit.int .i64 128))).atKey (Lit.int .i64 5) (DataW.lit (Lit.int .i64 0))=DataW.lit (Lit.int .i64 c)):c=144:=by
 have e:((((DataW.map []).put (Lit.int .i64 4) (DataW.lit (H:=Unit) (Lit.int .i64 160))).put (Lit.int .i64 5) (DataW.lit (Lit.int .i64 144))).put (Lit.int .i64 6) (DataW.lit (Lit.int .i64 128))).atKey (Lit.int .i64 5) (DataW.lit (Lit.int .i64 0))=DataW.lit (Lit.int .i64 144):=rfl
 rw [e] at xL;cases xL;rfl
theorem JN {c:Int} (xL:((((DataW.map []).put (Lit.int .i64 4) (DataW.lit (H:=Unit) (Lit.int .i64 160))).put (Lit.int .i64 5) (DataW.lit (Lit.int .i64 144))).put (Lit.int .i64 6) (DataW.lit (Lit.int .i64 128))).atKey (Lit.int .i64 6) (DataW.lit (Lit.int .i64 0))=DataW.lit (Lit.int .i64 c)):c=128:=by
 have e:((((DataW.map []).put (Lit.int .i64 4) (DataW.lit (H:=Unit) (Lit.int .i64 160))).put (Lit.int .i64 5) (DataW.lit (Lit.int .i64 144))).put (Lit.int .i64 6) (DataW.lit (Lit.int .i64 128))).atKey (Lit.int .i64 6) (DataW.lit (Lit.int .i64 0))=DataW.lit (Lit.int .i64 128):=rfl
 rw [e] at xL;cases xL;rfl
theorem DY (n : Int) (Is : 0 ≤ n) (wP : n < 4294967296) (w : World) : Calls Tryz.prog 128 #[.int .i64 4, .int .i64 n] w fun e w' => e = .returned (.agg #[.int .i64 (Mp.sized 4 n).1, .int .i64 (Mp.sized 4 n).2]) ∧ Below w.heap.size w w' := by
  have wQ := @run_makeMap Tryz.prog
  go_enter Tryz.func128, Tryz.ntmps128
  go_wp2_with (first
      | (refine ej _ rfl (.tmp 34) (.const (.int .i64 4)) (.const (.int .i64 160)) 167 rfl 3 3 jP Tryz.underlying167 (plainElem (H := Unit) Tryz.prog 3) ?IF 0 ?ML ?oR ?vp ?wP (.int .i64 4) (.int .i64 160) (.int .i64 4) ?zx ?hv1 ?gG (.lit (.int .i64 160)) [] ?AE ?MH
         case oR => rfl
         case vp => exact pP w _
         case wP => unfold maxLen; omega
         case zx => rfl
         case hv1 => rfl
         case gG => exact keyOf_int_mk Tryz.underlying3 (by decide)
         case AE => exact pn _ (by decide)
         intro w1 vp hg1
         have EG := iU (nN w) hg1)
      | (refine ej _ rfl (.tmp 34) (.const (.int .i64 5)) (.const (.int .i64 144)) 167 rfl 3 3 jP Tryz.underlying167 (plainElem (H := Unit) Tryz.prog 3) ?DS 1 ?MK ?qw ?vo ?CM (.int .i64 5) (.int .i64 144) (.int .i64 5) ?CB ?hv2 ?jx (.lit (.int .i64 144)) [] ?pG ?MG
         case qw => rfl
         case vo => exact vp
         case CM => unfold maxLen; omega
         case CB => rfl
         case hv2 => rfl
         case jx => exact keyOf_int_mk Tryz.underlying3 (by decide)
         case pG => exact pn _ (by decide)
         intro w2 vo hg2
         have EF := iU EG hg2)
      | (refine ej _ rfl (.tmp 34) (.const (.int .i64 6)) (.const (.int .i64 128)) 167 rfl 3 3 jP Tryz.underlying167 (plainElem (H := Unit) Tryz.prog 3) ?MC 2 ?MJ ?xK ?vn ?CL (.int .i64 6) (.int .i64 128) (.int .i64 6) ?EI ?AA ?zE (.lit (.int .i64 128)) [] ?EO ?MF
         case xK => rfl
         case vn => exact vo
         case CL => unfold maxLen; omega
         case EI => rfl
         case AA => rfl
         case zE => exact keyOf_int_mk Tryz.underlying3 (by decide)
         case EO => exact pn _ (by decide)
         intro w3 vn E2
         have oD := iU EF E2
         have c0 := oD.c0
         have c1 := oD.c1
         have f0 := oD.f 0
         have f1 := oD.f 1)
      | (at_lookup
         refine wpList_lookup_own_int (H := Unit) _ rfl (.tmp 35) (.tmp 36) 167 rfl 3 3 .i64 jP Tryz.underlying167 Tryz.underlying3 (vW _) ?MB 3 ?MI ?EX ?ER (.int .i64 4) (.int .i64 4) ?EH ?Ba ?ME
         case Ba => exact keyOf_int_mk Tryz.underlying3 (by decide)
         case EX => rfl
         case ER => exact vn
         case EH => rfl
         intro c xL Ms)
      | go_in)
  all_goals clear wQ
  all_goals first | refine lY rfl rfl (sf _ _) ⟨?_, (Below.refl _ _).alloc (Nat.le_refl _) _⟩ | refine lY rfl rfl (se oD.b) ⟨?_, (oD.o.setCell (Nat.le_refl _) _).setCell (Nat.le_refl _) _⟩
  · have hc : c = 160 := JP xL
    subst hc
    rw [uF (by omega) (by omega)]
    exact jA (Ng (by omega))
  · exact jA (Nf (by omega) (by omega))
  · exact jA (Nd (by omega) (by omega))
  · exact jA (Nc (by omega))
theorem GR (n : Int) (Is : 0 ≤ n) (wP : n < 4294967296) (w : World) : Calls Tryz.prog 128 #[.int .i64 10, .int .i64 n] w fun e w' => e = .returned (.agg #[.int .i64 (Mp.sized 10 n).1, .int .i64 (Mp.sized 10 n).2]) ∧ Below w.heap.size w w' := by
  have wQ := @run_makeMap Tryz.prog
  go_enter Tryz.func128, Tryz.ntmps128
  go_wp2_with (first
      | (refine ej _ rfl (.tmp 34) (.const (.int .i64 4)) (.const (.int .i64 160)) 167 rfl 3 3 jP Tryz.underlying167 (plainElem (H := Unit) Tryz.prog 3) ?IF 0 ?ML ?oR ?vp ?wP (.int .i64 4) (.int .i64 160) (.int .i64 4) ?zx ?hv1 ?gG (.lit (.int .i64 160)) [] ?AE ?MH
         case oR => rfl
         case vp => exact pP w _
         case wP => unfold maxLen; omega
         case zx => rfl
         case hv1 => rfl
         case gG => exact keyOf_int_mk Tryz.underlying3 (by decide)
         case AE => exact pn _ (by decide)
         intro w1 vp hg1
         have EG := iU (nN w) hg1)
      | (refine ej _ rfl (.tmp 34) (.const (.int .i64 5)) (.const (.int .i64 144)) 167 rfl 3 3 jP Tryz.underlying167 (plainElem (H := Unit) Tryz.prog 3) ?DS 1 ?MK ?qw ?vo ?CM (.int .i64 5) (.int .i64 144) (.int .i64 5) ?CB ?hv2 ?jx (.lit (.int .i64 144)) [] ?pG ?MG
         case qw => rfl
         case vo => exact vp
         case CM => unfold maxLen; omega
         case CB => rfl
         case hv2 => rfl
         case jx => exact keyOf_int_mk Tryz.underlying3 (by decide)
         case pG => exact pn _ (by decide)
         intro w2 vo hg2
         have EF := iU EG hg2)
      | (refine ej _ rfl (.tmp 34) (.const (.int .i64 6)) (.const (.int .i64 128)) 167 rfl 3 3 jP Tryz.underlying167 (plainElem (H := Unit) Tryz.prog 3) ?MC 2 ?MJ ?xK ?vn ?CL (.int .i64 6) (.int .i64 128) (.int .i64 6) ?EI ?AA ?zE (.lit (.int .i64 128)) [] ?EO ?MF
         case xK => rfl
         case vn => exact vo
         case CL => unfold maxLen; omega
         case EI => rfl
         case AA => rfl
         case zE => exact keyOf_int_mk Tryz.underlying3 (by decide)
         case EO => exact pn _ (by decide)
         intro w3 vn E2
         have oD := iU EF E2
         have c0 := oD.c0
         have c1 := oD.c1
         have f0 := oD.f 0
         have f1 := oD.f 1)
      | (at_lookup
         refine wpList_lookup_own_int (H := Unit) _ rfl (.tmp 35) (.tmp 36) 167 rfl 3 3 .i64 jP Tryz.underlying167 Tryz.underlying3 (vW _) ?MB 3 ?MI ?EX ?ER (.int .i64 10) (.int .i64 10) ?EH ?Ba ?ME
         case Ba => exact keyOf_int_mk Tryz.underlying3 (by decide)
         case EX => rfl
         case ER => exact vn
         case EH => rfl
         intro c xL Ms)
      | go_in)
  refine wp_loop_rounds 6 ?_
  rw [rounds_succ]
  go_wp2
  all_goals try rw [rounds_succ]
  all_goals try go_wp2
  all_goals try rw [rounds_succ]
  all_goals try go_wp2
  all_goals try rw [rounds_succ]
  all_goals try go_wp2
  all_goals try rw [rounds_succ]
  all_goals try go_wp2
  all_goals try rw [rounds_succ]
  all_goals try go_wp2
  all_goals clear wQ
  all_goals first | refine lY rfl rfl (sf _ _) ⟨?_, (Below.refl _ _).alloc (Nat.le_refl _) _⟩ | refine lY rfl rfl (se oD.b) ⟨?_, (oD.o.setCell (Nat.le_refl _) _).setCell (Nat.le_refl _) _⟩
  · exact jA (Nk ‹_›)
  · exact jA (Nj ‹_›)
  · exact jA (Ni ‹_›)
  · exact jA (Nh ‹_›)
  · exact jA (JM ‹_›)
  · exact jA (GN Is ‹(n == 1) = false› ‹(n == 2) = false› ‹(n == 4) = false› ‹(n == 8) = false› ‹(n == 16) = false› (by simp; omega))
  · exact jA (GN Is ‹(n == 1) = false› ‹(n == 2) = false› ‹(n == 4) = false› ‹(n == 8) = false› ‹(n == 16) = false› (by simp; omega))
  · exact jA (GN Is ‹(n == 1) = false› ‹(n == 2) = false› ‹(n == 4) = false› ‹(n == 8) = false› ‹(n == 16) = false› (by simp; omega))
theorem Bm (n : Int) (Is : 0 ≤ n) (wP : n < 4294967296) (w : World) : Calls Tryz.prog 128 #[.int .i64 3, .int .i64 n] w fun e w' => e = .returned (.agg #[.int .i64 (Mp.sized 3 n).1, .int .i64 (Mp.sized 3 n).2]) ∧ Below w.heap.size w w' := by
  have wQ := @run_makeMap Tryz.prog
  go_enter Tryz.func128, Tryz.ntmps128
  go_wp2_with (first
      | (refine ej _ rfl (.tmp 34) (.const (.int .i64 4)) (.const (.int .i64 160)) 167 rfl 3 3 jP Tryz.underlying167 (plainElem (H := Unit) Tryz.prog 3) ?IF 0 ?ML ?oR ?vp ?wP (.int .i64 4) (.int .i64 160) (.int .i64 4) ?zx ?hv1 ?gG (.lit (.int .i64 160)) [] ?AE ?MH
         case oR => rfl
         case vp => exact pP w _
         case wP => unfold maxLen; omega
         case zx => rfl
         case hv1 => rfl
         case gG => exact keyOf_int_mk Tryz.underlying3 (by decide)
         case AE => exact pn _ (by decide)
         intro w1 vp hg1
         have EG := iU (nN w) hg1)
      | (refine ej _ rfl (.tmp 34) (.const (.int .i64 5)) (.const (.int .i64 144)) 167 rfl 3 3 jP Tryz.underlying167 (plainElem (H := Unit) Tryz.prog 3) ?DS 1 ?MK ?qw ?vo ?CM (.int .i64 5) (.int .i64 144) (.int .i64 5) ?CB ?hv2 ?jx (.lit (.int .i64 144)) [] ?pG ?MG
         case qw => rfl
         case vo => exact vp
         case CM => unfold maxLen; omega
         case CB => rfl
         case hv2 => rfl
         case jx => exact keyOf_int_mk Tryz.underlying3 (by decide)
         case pG => exact pn _ (by decide)
         intro w2 vo hg2
         have EF := iU EG hg2)
      | (refine ej _ rfl (.tmp 34) (.const (.int .i64 6)) (.const (.int .i64 128)) 167 rfl 3 3 jP Tryz.underlying167 (plainElem (H := Unit) Tryz.prog 3) ?MC 2 ?MJ ?xK ?vn ?CL (.int .i64 6) (.int .i64 128) (.int .i64 6) ?EI ?AA ?zE (.lit (.int .i64 128)) [] ?EO ?MF
         case xK => rfl
         case vn => exact vo
         case CL => unfold maxLen; omega
         case EI => rfl
         case AA => rfl
         case zE => exact keyOf_int_mk Tryz.underlying3 (by decide)
         case EO => exact pn _ (by decide)
         intro w3 vn E2
         have oD := iU EF E2
         have c0 := oD.c0
         have c1 := oD.c1
         have f0 := oD.f 0
         have f1 := oD.f 1)
      | (at_lookup
         refine wpList_lookup_own_int (H := Unit) _ rfl (.tmp 35) (.tmp 36) 167 rfl 3 3 .i64 jP Tryz.underlying167 Tryz.underlying3 (vW _) ?MB 3 ?MI ?EX ?ER (.int .i64 3) (.int .i64 3) ?EH ?Ba ?ME
         case Ba => exact keyOf_int_mk Tryz.underlying3 (by decide)
         case EX => rfl
         case ER => exact vn
         case EH => rfl
         intro c xL Ms)
      | go_in)
  all_goals clear wQ
  all_goals first | refine lY rfl rfl (sf _ _) ⟨?_, (Below.refl _ _).alloc (Nat.le_refl _) _⟩ | refine lY rfl rfl (se oD.b) ⟨?_, (oD.o.setCell (Nat.le_refl _) _).setCell (Nat.le_refl _) _⟩
  · exact jA (No (by omega) (by omega))
  · exact jA (Nn (by omega) (by omega))
  · exact jA (Nl (by omega))
theorem DZ (n : Int) (Is : 0 ≤ n) (wP : n < 4294967296) (w : World) : Calls Tryz.prog 128 #[.int .i64 5, .int .i64 n] w fun e w' => e = .returned (.agg #[.int .i64 (Mp.sized 5 n).1, .int .i64 (Mp.sized 5 n).2]) ∧ Below w.heap.size w w' := by
  have wQ := @run_makeMap Tryz.prog
  go_enter Tryz.func128, Tryz.ntmps128
  go_wp2_with (first
      | (refine ej _ rfl (.tmp 34) (.const (.int .i64 4)) (.const (.int .i64 160)) 167 rfl 3 3 jP Tryz.underlying167 (plainElem (H := Unit) Tryz.prog 3) ?IF 0 ?ML ?oR ?vp ?wP (.int .i64 4) (.int .i64 160) (.int .i64 4) ?zx ?hv1 ?gG (.lit (.int .i64 160)) [] ?AE ?MH
         case oR => rfl
         case vp => exact pP w _
         case wP => unfold maxLen; omega
         case zx => rfl
         case hv1 => rfl
         case gG => exact keyOf_int_mk Tryz.underlying3 (by decide)
         case AE => exact pn _ (by decide)
         intro w1 vp hg1
         have EG := iU (nN w) hg1)
      | (refine ej _ rfl (.tmp 34) (.const (.int .i64 5)) (.const (.int .i64 144)) 167 rfl 3 3 jP Tryz.underlying167 (plainElem (H := Unit) Tryz.prog 3) ?DS 1 ?MK ?qw ?vo ?CM (.int .i64 5) (.int .i64 144) (.int .i64 5) ?CB ?hv2 ?jx (.lit (.int .i64 144)) [] ?pG ?MG
         case qw => rfl
         case vo => exact vp
         case CM => unfold maxLen; omega
         case CB => rfl
         case hv2 => rfl
         case jx => exact keyOf_int_mk Tryz.underlying3 (by decide)
         case pG => exact pn _ (by decide)
         intro w2 vo hg2
         have EF := iU EG hg2)
      | (refine ej _ rfl (.tmp 34) (.const (.int .i64 6)) (.const (.int .i64 128)) 167 rfl 3 3 jP Tryz.underlying167 (plainElem (H := Unit) Tryz.prog 3) ?MC 2 ?MJ ?xK ?vn ?CL (.int .i64 6) (.int .i64 128) (.int .i64 6) ?EI ?AA ?zE (.lit (.int .i64 128)) [] ?EO ?MF
         case xK => rfl
         case vn => exact vo
         case CL => unfold maxLen; omega
         case EI => rfl
         case AA => rfl
         case zE => exact keyOf_int_mk Tryz.underlying3 (by decide)
         case EO => exact pn _ (by decide)
         intro w3 vn E2
         have oD := iU EF E2
         have c0 := oD.c0
         have c1 := oD.c1
         have f0 := oD.f 0
         have f1 := oD.f 1)
      | (at_lookup
         refine wpList_lookup_own_int (H := Unit) _ rfl (.tmp 35) (.tmp 36) 167 rfl 3 3 .i64 jP Tryz.underlying167 Tryz.underlying3 (vW _) ?MB 3 ?MI ?EX ?ER (.int .i64 5) (.int .i64 5) ?EH ?Ba ?ME
         case Ba => exact keyOf_int_mk Tryz.underlying3 (by decide)
         case EX => rfl
         case ER => exact vn
         case EH => rfl
         intro c xL Ms)
      | go_in)
  all_goals clear wQ
  all_goals first | refine lY rfl rfl (sf _ _) ⟨?_, (Below.refl _ _).alloc (Nat.le_refl _) _⟩ | refine lY rfl rfl (se oD.b) ⟨?_, (oD.o.setCell (Nat.le_refl _) _).setCell (Nat.le_refl _) _⟩
  · have hc : c = 144 := JO xL
    subst hc
    rw [uF (by omega) (by omega)]
    exact jA (JL (by omega))
  · exact jA (JK (by omega) (by omega))
  · exact jA (JI (by omega))
theorem GQ (n : Int) (Is : 0 ≤ n) (wP : n < 4294967296) (w : World) : Calls Tryz.prog 128 #[.int .i64 6, .int .i64 n] w fun e w' => e = .returned (.agg #[.int .i64 (Mp.sized 6 n).1, .int .i64 (Mp.sized 6 n).2]) ∧ Below w.heap.size w w' := by
  have wQ := @run_makeMap Tryz.prog
  go_enter Tryz.func128, Tryz.ntmps128
  go_wp2_with (first
      | (refine ej _ rfl (.tmp 34) (.const (.int .i64 4)) (.const (.int .i64 160)) 167 rfl 3 3 jP Tryz.underlying167 (plainElem (H := Unit) Tryz.prog 3) ?IF 0 ?ML ?oR ?vp ?wP (.int .i64 4) (.int .i64 160) (.int .i64 4) ?zx ?hv1 ?gG (.lit (.int .i64 160)) [] ?AE ?MH
         case oR => rfl
         case vp => exact pP w _
         case wP => unfold maxLen; omega
         case zx => rfl
         case hv1 => rfl
         case gG => exact keyOf_int_mk Tryz.underlying3 (by decide)
         case AE => exact pn _ (by decide)
         intro w1 vp hg1
         have EG := iU (nN w) hg1)
      | (refine ej _ rfl (.tmp 34) (.const (.int .i64 5)) (.const (.int .i64 144)) 167 rfl 3 3 jP Tryz.underlying167 (plainElem (H := Unit) Tryz.prog 3) ?DS 1 ?MK ?qw ?vo ?CM (.int .i64 5) (.int .i64 144) (.int .i64 5) ?CB ?hv2 ?jx (.lit (.int .i64 144)) [] ?pG ?MG
         case qw => rfl
         case vo => exact vp
         case CM => unfold maxLen; omega
         case CB => rfl
         case hv2 => rfl
         case jx => exact keyOf_int_mk Tryz.underlying3 (by decide)
         case pG => exact pn _ (by decide)
         intro w2 vo hg2
         have EF := iU EG hg2)
      | (refine ej _ rfl (.tmp 34) (.const (.int .i64 6)) (.const (.int .i64 128)) 167 rfl 3 3 jP Tryz.underlying167 (plainElem (H := Unit) Tryz.prog 3) ?MC 2 ?MJ ?xK ?vn ?CL (.int .i64 6) (.int .i64 128) (.int .i64 6) ?EI ?AA ?zE (.lit (.int .i64 128)) [] ?EO ?MF
         case xK => rfl
         case vn => exact vo
         case CL => unfold maxLen; omega
         case EI => rfl
         case AA => rfl
         case zE => exact keyOf_int_mk Tryz.underlying3 (by decide)
         case EO => exact pn _ (by decide)
         intro w3 vn E2
         have oD := iU EF E2
         have c0 := oD.c0
         have c1 := oD.c1
         have f0 := oD.f 0
         have f1 := oD.f 1)
      | (at_lookup
         refine wpList_lookup_own_int (H := Unit) _ rfl (.tmp 35) (.tmp 36) 167 rfl 3 3 .i64 jP Tryz.underlying167 Tryz.underlying3 (vW _) ?MB 3 ?MI ?EX ?ER (.int .i64 6) (.int .i64 6) ?EH ?Ba ?ME
         case Ba => exact keyOf_int_mk Tryz.underlying3 (by decide)
         case EX => rfl
         case ER => exact vn
         case EH => rfl
         intro c xL Ms)
      | go_in)
  all_goals clear wQ
  all_goals first | refine lY rfl rfl (sf _ _) ⟨?_, (Below.refl _ _).alloc (Nat.le_refl _) _⟩ | refine lY rfl rfl (se oD.b) ⟨?_, (oD.o.setCell (Nat.le_refl _) _).setCell (Nat.le_refl _) _⟩
  · have hc : c = 128 := JN xL
    subst hc
    rw [uF (by omega) (by omega)]
    exact jA (JH (by omega))
  · exact jA (JG (by omega) (by omega))
  · exact jA (JF (by omega))
theorem jl.ok:KO 128 (jl.c) jl.sg:=by
 refine sj fun ti gZ w R xs hc ha hR yq=>?_
 unfold jl.c at hc
 split at hc
 ·rename_i k n
  obtain ⟨hp,rfl⟩:=hc
  simp only [af,az,Mp.ma] at hp
  obtain ⟨hk,h0,h1⟩:=hp
  have yk:xs=[.int .i64 k,.int .i64 n]:=by
   have hq:gT R w [.v (.int .i64 k),.v (.int .i64 n)] xs:=ha
   clear ha
   cases hq with
   | cons a1 q1=>cases q1 with
    | cons a2 q2=>cases q2;cases a1;cases a2;rfl
  subst yk
  have fin:∀{S:Int × Int},Calls Go.Proofs.Tryz.prog 128 #[.int .i64 k,.int .i64 n] w (fun e w'=>e = .returned (.agg #[.int .i64 S.1,.int .i64 S.2])∧Below w.heap.size w w') →
    Calls Go.Proofs.Tryz.prog 128 ⟨[.int .i64 k,.int .i64 n]⟩ w fun e w'=>∃x,e = .returned x∧Below w.heap.size w w'∧∀R w',gT R w' ([(TV.ag [.i .i64 S.1,.i .i64 S.2])].map TV.av) [x]:=by
   intro S h
   refine h.mono ?_
   rintro e w' ⟨rfl,hb⟩
   exact ⟨_,rfl,hb,fun R w' => .cons (.ag (.cons rfl (.v _) (.cons rfl (.v _) .nil))) .nil⟩
  rcases hk with rfl | rfl | rfl | rfl | rfl
  ·exact fin (Bm n h0 h1 w)
  ·exact fin (DY n h0 h1 w)
  ·exact fin (DZ n h0 h1 w)
  ·exact fin (GQ n h0 h1 w)
  ·exact fin (GR n h0 h1 w)
 ·exact hc.elim
end Go.Eng
namespace Go.Eng
theorem fO.fit (r:Int):FT fO.d (cM tryzGl fO.env) [.i .i64 r] [(.b (ee.kx r))] :=
 ⟨by kernel_rfl,Eq.trans (b:=fO.F r) (by kernel_rfl) (Eq.trans (fO.goal r) (by kernel_rfl))⟩
theorem fO.ok:KO 97 (fO.c) fO.sg :=
 meets (l:=fO.env) all_nil fO.dp (by
   intro ins outs h
   unfold fO.c at h
   split at h
   ·cases h;exact fO.fit _
   ·exact h.elim)
theorem bR.fit (b:List UInt8) (at_:Int) (hp:(decide (b.length≤1099511627776))=true):FT bR.d (cM tryzGl bR.env) [.sl .bs b,.i .i64 at_] [(.i .i64 ((ee.iQ b at_).1)),(.i .i64 ((ee.iQ b at_).2))] :=
 ⟨by kernel_rfl,Eq.trans (b:=bR.F b at_) (by kernel_rfl) (Eq.trans (bR.goal b at_ hp) (by kernel_rfl))⟩
theorem bR.ok:KO 81 (bR.c) bR.sg :=
 meets (l:=bR.env) (all_cons fO.ok all_nil) bR.dp (by
   intro ins outs h
   unfold bR.c at h
   split at h
   ·obtain ⟨hp,rfl⟩:=h;exact bR.fit _ _ hp
   ·exact h.elim)
theorem cS.fit (b:List UInt8) (hp:(decide (b.length≤1099511627776))=true):FT cS.d (cM tryzGl cS.env) [.sl .bs b] [(.i .i64 (((ee.look b).1:Int))),(.i .i64 (((ee.look b).2:Int)))] :=
 ⟨by kernel_rfl,Eq.trans (b:=cS.F b) (by kernel_rfl) (Eq.trans (cS.goal b hp) (by kernel_rfl))⟩
theorem cS.ok:KO 67 (cS.c) cS.sg :=
 meets (l:=cS.env) (all_cons bR.ok all_nil) cS.dp (by
   intro ins outs h
   unfold cS.c at h
   split at h
   ·obtain ⟨hp,rfl⟩:=h;exact cS.fit _ hp
   ·exact h.elim)
theorem dD.fit (b:List UInt8) (hp:(decide (b.length≤1099511627776))=true):FT dD.d (cM tryzGl dD.env) [.sl .bs b] [(.i .i64 (((ee.look b).1:Int))),(.b (ee.whole b))] :=
 ⟨by kernel_rfl,Eq.trans (b:=dD.F b) (by kernel_rfl) (Eq.trans (dD.goal b hp) (by kernel_rfl))⟩
theorem dD.ok:KO 41 (dD.c) dD.sg :=
 meets (l:=dD.env) (all_cons cS.ok all_nil) dD.dp (by
   intro ins outs h
   unfold dD.c at h
   split at h
   ·obtain ⟨hp,rfl⟩:=h;exact dD.fit _ hp
   ·exact h.elim)
theorem cz.fit (b:List UInt8) (at_:Int) (hp:(decide (b.length≤1099511627776))=true):FT cz.d (cM tryzGl cz.env) [.sl .bs b,.i .i64 at_] [(.i .i64 ((ee.iQ b at_).1)),(.i .i64 ((ee.iQ b at_).2))] :=
 ⟨by kernel_rfl,Eq.trans (b:=cz.F b at_) (by kernel_rfl) (Eq.trans (cz.goal b at_ hp) (by kernel_rfl))⟩
theorem cz.ok:KO 105 (cz.c) cz.sg :=
 meets (l:=cz.env) all_nil cz.dp (by
   intro ins outs h
   unfold cz.c at h
   split at h
   ·obtain ⟨hp,rfl⟩:=h;exact cz.fit _ _ hp
   ·exact h.elim)
theorem cO.fit (b:List UInt8) (hp:(decide (b.length≤1099511627776))=true):FT cO.d (cM tryzGl cO.env) [.sl .bs b] [(.i .i64 (((ee.look b).1:Int))),(.b (ee.whole b))] :=
 ⟨by kernel_rfl,Eq.trans (b:=cO.F b) (by kernel_rfl) (Eq.trans (cO.goal b hp) (by kernel_rfl))⟩
theorem cO.ok:KO 88 (cO.c) cO.sg :=
 meets (l:=cO.env) (all_cons cz.ok all_nil) cO.dp (by
   intro ins outs h
   unfold cO.c at h
   split at h
   ·obtain ⟨hp,rfl⟩:=h;exact cO.fit _ hp
   ·exact h.elim)
theorem df.fit (s:bY) (hp:(decide (s.length≤1099511627776))=true):FT df.d (cM tryzGl df.env) [.s s] [(.b (ee.whole s))] :=
 ⟨by kernel_rfl,Eq.trans (b:=df.F s) (by kernel_rfl) (Eq.trans (df.goal s hp) (by kernel_rfl))⟩
theorem df.ok:KO 71 (df.c) df.sg :=
 meets (l:=df.env) (all_cons cO.ok all_nil) df.dp (by
   intro ins outs h
   unfold df.c at h
   split at h
   ·obtain ⟨hp,rfl⟩:=h;exact df.fit _ hp
   ·exact h.elim)
theorem cU.fit (s:bY) (hp:(decide (s.length≤1099511627776))=true):FT cU.d (cM tryzGl cU.env) [.s s] [(.b (ee.zero s))] :=
 ⟨by kernel_rfl,Eq.trans (b:=cU.F s) (by kernel_rfl) (Eq.trans (cU.goal s hp) (by kernel_rfl))⟩
theorem cU.ok:KO 46 (cU.c) cU.sg :=
 meets (l:=cU.env) all_nil cU.dp (by
   intro ins outs h
   unfold cU.c at h
   split at h
   ·obtain ⟨hp,rfl⟩:=h;exact cU.fit _ hp
   ·exact h.elim)
theorem bT.fit (a:List Int) (b:List Int) (hp:(decide (a.length≤1099511627776))=true):FT bT.d (cM tryzGl bT.env) [.sl .is a,.sl .is b] [(.b (decide (a=b)))] :=
 ⟨by kernel_rfl,Eq.trans (b:=bT.F a b) (by kernel_rfl) (Eq.trans (bT.goal a b hp) (by kernel_rfl))⟩
theorem bT.ok:KO 24 (bT.c) bT.sg :=
 meets (l:=bT.env) all_nil bT.dp (by
   intro ins outs h
   unfold bT.c at h
   split at h
   ·obtain ⟨hp,rfl⟩:=h;exact bT.fit _ _ hp
   ·exact h.elim)
theorem gE.fit (fp:List UInt8) (dj:Int):FT gE.d (cM tryzGl gE.env) [.ro (.ag [.sl .bs fp,.i .i64 dj])] [(.i .i64 ((((dx.mk fp dj)).at_)))] :=
 ⟨by kernel_rfl,Eq.trans (b:=gE.F (dx.mk fp dj)) (by kernel_rfl) (Eq.trans (gE.goal (dx.mk fp dj)) (by kernel_rfl))⟩
theorem gE.ok:KO 122 (gE.c) gE.sg :=
 meets (l:=gE.env) all_nil gE.dp (by
   intro ins outs h
   unfold gE.c at h
   split at h
   ·cases h;exact gE.fit _ _
   ·exact h.elim)
theorem eO.fit (fp:List UInt8) (dj:Int) (hp:(cT.iE (dx.mk fp dj))=true):FT eO.d (cM tryzGl eO.env) [.ro (.ag [.sl .bs fp,.i .i64 dj])] [(.i .i64 (cT.left (dx.mk fp dj)))] :=
 ⟨by kernel_rfl,Eq.trans (b:=eO.F (dx.mk fp dj)) (by kernel_rfl) (Eq.trans (eO.goal (dx.mk fp dj) hp) (by kernel_rfl))⟩
theorem eO.ok:KO 121 (eO.c) eO.sg :=
 meets (l:=eO.env) all_nil eO.dp (by
   intro ins outs h
   unfold eO.c at h
   split at h
   ·obtain ⟨hp,rfl⟩:=h;exact eO.fit _ _ hp
   ·exact h.elim)
theorem fj.fit (fp:List UInt8) (dj:Int) (hp:(cT.iE (dx.mk fp dj))=true):FT fj.d (cM tryzGl fj.env) [.ag [.sl .bs fp,.i .i64 dj]] [(.i .i64 (cT.byte (dx.mk fp dj))),(.b (cT.more (dx.mk fp dj))),(.ag (dx.cells (cT.pg (dx.mk fp dj) 1 (cT.more (dx.mk fp dj)))))] :=
 ⟨by kernel_rfl,Eq.trans (b:=fj.F (dx.mk fp dj)) (by kernel_rfl) (Eq.trans (fj.goal (dx.mk fp dj) hp) (by kernel_rfl))⟩
theorem fj.ok:KO 135 (fj.c) fj.sg :=
 meets (l:=fj.env) all_nil fj.dp (by
   intro ins outs h
   unfold fj.c at h
   split at h
   ·obtain ⟨hp,rfl⟩:=h;exact fj.fit _ _ hp
   ·exact h.elim)
theorem fh.fit (fp:List UInt8) (dj:Int) (n:Int) (hp:(cT.iE (dx.mk fp dj))=true):FT fh.d (cM tryzGl fh.env) [.ag [.sl .bs fp,.i .i64 dj],.i .i64 n] [(.sl .bs (cT.nx (dx.mk fp dj) n (cT.pz (dx.mk fp dj) n))),(.b (cT.pz (dx.mk fp dj) n)),(.ag (dx.cells (cT.pg (dx.mk fp dj) n (cT.pz (dx.mk fp dj) n))))] :=
 ⟨by kernel_rfl,Eq.trans (b:=fh.F (dx.mk fp dj) n) (by kernel_rfl) (Eq.trans (fh.goal (dx.mk fp dj) n hp) (by kernel_rfl))⟩
theorem fh.ok:KO 147 (fh.c) fh.sg :=
 meets (l:=fh.env) (all_cons eO.ok all_nil) fh.dp (by
   intro ins outs h
   unfold fh.c at h
   split at h
   ·obtain ⟨hp,rfl⟩:=h;exact fh.fit _ _ _ hp
   ·exact h.elim)
theorem fi.fit (fp:List UInt8) (dj:Int) (n:Int) (hp:(cT.iE (dx.mk fp dj))=true):FT fi.d (cM tryzGl fi.env) [.ag [.sl .bs fp,.i .i64 dj],.i .i64 n] [(.sl .bs (cT.nx (dx.mk fp dj) n (cT.rC (dx.mk fp dj) n))),(.b (cT.rC (dx.mk fp dj) n)),(.ag (dx.cells (cT.pg (dx.mk fp dj) n (cT.rC (dx.mk fp dj) n))))] :=
 ⟨by kernel_rfl,Eq.trans (b:=fi.F (dx.mk fp dj) n) (by kernel_rfl) (Eq.trans (fi.goal (dx.mk fp dj) n hp) (by kernel_rfl))⟩
theorem fi.ok:KO 148 (fi.c) fi.sg :=
 meets (l:=fi.env) (all_cons fE.ok (all_cons eO.ok all_nil)) fi.dp (by
   intro ins outs h
   unfold fi.c at h
   split at h
   ·obtain ⟨hp,rfl⟩:=h;exact fi.fit _ _ _ hp
   ·exact h.elim)
theorem dR.fit (fp:List UInt8) (dj:Int) (n:Int) (hp:(cT.iE (dx.mk fp dj))=true):FT dR.d (cM tryzGl dR.env) [.ag [.sl .bs fp,.i .i64 dj],.i .i64 n] [(.u64 (cT.be (cT.nx (dx.mk fp dj) n (cT.pz (dx.mk fp dj) n)))),(.b (cT.pz (dx.mk fp dj) n)),(.ag (dx.cells (cT.pg (dx.mk fp dj) n (cT.pz (dx.mk fp dj) n))))] :=
 ⟨by kernel_rfl,Eq.trans (b:=dR.F (dx.mk fp dj) n) (by kernel_rfl) (Eq.trans (dR.goal (dx.mk fp dj) n hp) (by kernel_rfl))⟩
theorem dR.ok:KO 137 (dR.c) dR.sg :=
 meets (l:=dR.env) (all_cons fh.ok all_nil) dR.dp (by
   intro ins outs h
   unfold dR.c at h
   split at h
   ·obtain ⟨hp,rfl⟩:=h;exact dR.fit _ _ _ hp
   ·exact h.elim)
theorem fo.fit (b:List UInt8) (hp:(decide ((b).length≤1099511627776))=true):FT fo.d (cM tryzGl fo.env) [.sl .bs b] [.pt,(.ag (dx.cells ((dx.mk b 0))))] :=
 ⟨by kernel_rfl,Eq.trans (b:=fo.F b) (by kernel_rfl) (Eq.trans (fo.goal b hp) (by kernel_rfl))⟩
theorem fo.ok:KO 119 (fo.c) fo.sg :=
 meets (l:=fo.env) (all_cons fE.ok all_nil) fo.dp (by
   intro ins outs h
   unfold fo.c at h
   split at h
   ·obtain ⟨hp,rfl⟩:=h;exact fo.fit _ hp
   ·exact h.elim)
theorem dO.fit (n:Int):FT dO.d (cM tryzGl dO.env) [.i .i64 n] [(.b (decide (1≤n∧n≤8)))] :=
 ⟨by kernel_rfl,Eq.trans (b:=dO.F n) (by kernel_rfl) (Eq.trans (dO.goal n) (by kernel_rfl))⟩
theorem dO.ok:KO 149 (dO.c) dO.sg :=
 meets (l:=dO.env) all_nil dO.dp (by
   intro ins outs h
   unfold dO.c at h
   split at h
   ·cases h;exact dO.fit _
   ·exact h.elim)
theorem eY.fit:([]:List TV).length=eY.d.np∧eY.d.run (cM tryzGl eY.env) []=some (([.pt,(.ag (fg.cells ((fg.mk []))))]:List TV)++eY.d.ps.toList.map fun q=>([]:List TV).getD q.1 .dead) :=
 ⟨by kernel_rfl,Eq.trans (b:=eY.F ) (by kernel_rfl) (Eq.trans (eY.goal ) (by kernel_rfl))⟩
theorem eY.ok:KO 107 (eY.c) eY.sg :=
 meets (l:=eY.env) all_nil eY.dp (by
   intro ins outs h
   unfold eY.c at h
   split at h
   ·cases h;exact eY.fit
   ·exact h.elim)
theorem eV.fit (kj:List UInt8) (v:Int) (hp:(decide (((fg.mk kj)).b.length≤1099511627776))=true):FT eV.d (cM tryzGl eV.env) [.ag [.sl .bs kj],.i .i64 v] [(.ag (fg.cells ((fg.mk (((fg.mk kj)).b++[UInt8.ofInt v])))))] :=
 ⟨by kernel_rfl,Eq.trans (b:=eV.F (fg.mk kj) v) (by kernel_rfl) (Eq.trans (eV.goal (fg.mk kj) v hp) (by kernel_rfl))⟩
theorem eV.ok:KO 127 (eV.c) eV.sg :=
 meets (l:=eV.env) all_nil eV.dp (by
   intro ins outs h
   unfold eV.c at h
   split at h
   ·obtain ⟨hp,rfl⟩:=h;exact eV.fit _ _ hp
   ·exact h.elim)
theorem fN.fit (kj:List UInt8) (b:List UInt8) (hp:(decide (((fg.mk kj)).b.length+(b).length≤1099511627776))=true):FT fN.d (cM tryzGl fN.env) [.ag [.sl .bs kj],.sl .bs b] [(.ag (fg.cells ((fg.mk (((fg.mk kj)).b++b)))))] :=
 ⟨by kernel_rfl,Eq.trans (b:=fN.F (fg.mk kj) b) (by kernel_rfl) (Eq.trans (fN.goal (fg.mk kj) b hp) (by kernel_rfl))⟩
theorem fN.ok:KO 129 (fN.c) fN.sg :=
 meets (l:=fN.env) all_nil fN.dp (by
   intro ins outs h
   unfold fN.c at h
   split at h
   ·obtain ⟨hp,rfl⟩:=h;exact fN.fit _ _ hp
   ·exact h.elim)
theorem dY.fit (kj:List UInt8) (v:UInt64) (n:Int) (hp:(decide (((fg.mk kj)).b.length≤1099511627776))=true):FT dY.d (cM tryzGl dY.env) [.ag [.sl .bs kj],.u64 v,.i .i64 n] [(.ag (fg.cells ((fg.mk (((fg.mk kj)).b++cT.high v n)))))] :=
 ⟨by kernel_rfl,Eq.trans (b:=dY.F (fg.mk kj) v n) (by kernel_rfl) (Eq.trans (dY.goal (fg.mk kj) v n hp) (by kernel_rfl))⟩
theorem dY.ok:KO 144 (dY.c) dY.sg :=
 meets (l:=dY.env) (all_cons dO.ok all_nil) dY.dp (by
   intro ins outs h
   unfold dY.c at h
   split at h
   ·obtain ⟨hp,rfl⟩:=h;exact dY.fit _ _ _ hp
   ·exact h.elim)
theorem eJ.fit (kj:List UInt8) (hp:(decide (((fg.mk kj)).b.length≤1099511627776))=true):FT eJ.d (cM tryzGl eJ.env) [.ag [.sl .bs kj]] [(.sl .bs ((((fg.mk kj)).b))),(.ag (fg.cells ((fg.mk kj))))] :=
 ⟨by kernel_rfl,Eq.trans (b:=eJ.F (fg.mk kj)) (by kernel_rfl) (Eq.trans (eJ.goal (fg.mk kj) hp) (by kernel_rfl))⟩
theorem eJ.ok:KO 109 (eJ.c) eJ.sg :=
 meets (l:=eJ.env) (all_cons fE.ok all_nil) eJ.dp (by
   intro ins outs h
   unfold eJ.c at h
   split at h
   ·obtain ⟨hp,rfl⟩:=h;exact eJ.fit _ hp
   ·exact h.elim)
theorem fS.fit (n:Int) (hp:(decide (0≤n∧n≤1099511627776))=true):FT fS.d (cM tryzGl fS.env) [.i .i64 n] [(.b (decide (n<4294967296)))] :=
 ⟨by kernel_rfl,Eq.trans (b:=fS.F n) (by kernel_rfl) (Eq.trans (fS.goal n hp) (by kernel_rfl))⟩
theorem fS.ok:KO 66 (fS.c) fS.sg :=
 meets (l:=fS.env) all_nil fS.dp (by
   intro ins outs h
   unfold fS.c at h
   split at h
   ·obtain ⟨hp,rfl⟩:=h;exact fS.fit _ hp
   ·exact h.elim)
theorem bV.fit (cg:Int) (cd:UInt64) (cB:List UInt8) (bZ:bY) (cC:List bG) (hp:(decide (bG.c7 (bG.of (Itv.mk cg cd cB bZ cC))≤1099511627776))=true):FT bV.d (cM tryzGl bV.env) [.ag [.i .i64 cg,.u64 cd,.sl .bs cB,.s bZ,.sl .il cC]] [(.b (Mp.fI (bG.of (Itv.mk cg cd cB bZ cC))))] :=
 ⟨by kernel_rfl,Eq.trans (b:=bV.F (Itv.mk cg cd cB bZ cC)) (by kernel_rfl) (Eq.trans (bV.goal (Itv.mk cg cd cB bZ cC) hp) (by kernel_rfl))⟩
theorem bV.ok:KO 40 (bV.c) bV.sg :=
 meets (l:=bV.env) (all_cons fS.ok all_nil) bV.dp (by
   intro ins outs h
   unfold bV.c at h
   split at h
   ·obtain ⟨hp,rfl⟩:=h;exact bV.fit _ _ _ _ _ hp
   ·exact h.elim)
theorem cW.fit (n:Nat) (cg:Int) (cd:UInt64) (cB:List UInt8) (bZ:bY) (cC:List bG) (hp:((decide (bG.c7 (bG.of (Itv.mk cg cd cB bZ cC))≤1099511627776))&&decide ((bG.c7 (bG.of (Itv.mk cg cd cB bZ cC)))<n+1))=true):FT cW.d (cM tryzGl (cW.env n)) [.ag [.i .i64 cg,.u64 cd,.sl .bs cB,.s bZ,.sl .il cC]] [(.i .i64 (Mp.dp (bG.of (Itv.mk cg cd cB bZ cC))))] :=
 ⟨by kernel_rfl,Eq.trans (b:=cW.F n (Itv.mk cg cd cB bZ cC)) (by kernel_rfl) (Eq.trans (cW.goal n (Itv.mk cg cd cB bZ cC) hp) (by kernel_rfl))⟩
theorem Hs.sy:∀n:Nat,(KO 26 (cW.cn n) cW.sg):=by
 intro n
 induction n with
 | zero=>exact fA (by
   intro ti gZ h
   unfold cW.cn at h
   split at h
   ·obtain ⟨h,_⟩:=h;simp at h
   ·exact h.elim)
 | succ n ih =>
  have rD:=ih
  exact meets (l:=cW.env n) (all_cons rD (all_cons bV.ok (all_cons dD.ok all_nil))) (cW.dp n) (by
   intro ins outs h
   unfold cW.cn at h
   split at h
   ·obtain ⟨hp,rfl⟩:=h;exact cW.fit n _ _ _ _ _ hp
   ·exact h.elim)
theorem cW.ok:KO 26 (cW.c) cW.sg:=ja fun ti gZ h=>by
 unfold cW.c at h
 split at h
 ·obtain ⟨hp,rfl⟩:=h;exact ⟨cW.cn (_+1),(Hs.sy _),bw.2 ⟨hp,aa (Nat.lt_succ_self _)⟩,rfl⟩
 ·exact h.elim
theorem dX.fit (e:Int) (at_:Int):FT dX.d (cM tryzGl dX.env) [.i .i64 e,.i .i64 at_] [(.ag (Itv.cells (bG.val (Mp.zero)))),(.ag (cX.cells ((cX.mk e at_ []))))] :=
 ⟨by kernel_rfl,Eq.trans (b:=dX.F e at_) (by kernel_rfl) (Eq.trans (dX.goal e at_) (by kernel_rfl))⟩
theorem dX.ok:KO 118 (dX.c) dX.sg :=
 meets (l:=dX.env) all_nil dX.dp (by
   intro ins outs h
   unfold dX.c at h
   split at h
   ·cases h;exact dX.fit _ _
   ·exact h.elim)
theorem dk.fit (n:UInt64):FT dk.d (cM tryzGl dk.env) [.u64 n] [(.ag [(.i .i64 (Mp.eK n).1),(.i .i64 (Mp.eK n).2)])] :=
 ⟨by kernel_rfl,Eq.trans (b:=dk.F n) (by kernel_rfl) (Eq.trans (dk.goal n) (by kernel_rfl))⟩
theorem dk.ok:KO 125 (dk.c) dk.sg :=
 meets (l:=dk.env) all_nil dk.dp (by
   intro ins outs h
   unfold dk.c at h
   split at h
   ·cases h;exact dk.fit _
   ·exact h.elim)
theorem dW.fit (n:UInt64):FT dW.d (cM tryzGl dW.env) [.u64 n] [(.ag [(.i .i64 (Mp.signed n).1),(.i .i64 (Mp.signed n).2)])] :=
 ⟨by kernel_rfl,Eq.trans (b:=dW.F n) (by kernel_rfl) (Eq.trans (dW.goal n) (by kernel_rfl))⟩
theorem dW.ok:KO 126 (dW.c) dW.sg :=
 meets (l:=dW.env) all_nil dW.dp (by
   intro ins outs h
   unfold dW.c at h
   split at h
   ·cases h;exact dW.fit _
   ·exact h.elim)
theorem fR.fit (kj:List UInt8) (jD:Int) (kb:Int) (n:UInt64) (hp:(decide (((fg.mk kj)).b.length+10≤1099511627776))=true):FT fR.d (cM tryzGl fR.env) [.ag [.sl .bs kj],.ag [.i .i64 jD,.i .i64 kb],.u64 n] [(.ag (fg.cells ((fg.mk (((fg.mk kj)).b++Mp.put (((kU.mk jD kb)).at_,((kU.mk jD kb)).end_) n)))))] :=
 ⟨by kernel_rfl,Eq.trans (b:=fR.F (fg.mk kj) (kU.mk jD kb) n) (by kernel_rfl) (Eq.trans (fR.goal (fg.mk kj) (kU.mk jD kb) n hp) (by kernel_rfl))⟩
theorem fR.ok:KO 124 (fR.c) fR.sg :=
 meets (l:=fR.env) (all_cons eV.ok (all_cons dY.ok all_nil)) fR.dp (by
   intro ins outs h
   unfold fR.c at h
   split at h
   ·obtain ⟨hp,rfl⟩:=h;exact fR.fit _ _ _ _ hp
   ·exact h.elim)
theorem dt.fit (n:Nat) (kj:List UInt8) (cg:Int) (cd:UInt64) (cB:List UInt8) (bZ:bY) (cC:List bG) (hp:((decide (((fg.mk kj)).b.length+16 * bG.c7 (bG.of (Itv.mk cg cd cB bZ cC))≤1099511627776)&&decide (Mp.dp (bG.of (Itv.mk cg cd cB bZ cC))=0))&&decide ((bG.c7 (bG.of (Itv.mk cg cd cB bZ cC)))<n+1))=true):FT dt.d (cM tryzGl (dt.env n)) [.ag [.sl .bs kj],.ag [.i .i64 cg,.u64 cd,.sl .bs cB,.s bZ,.sl .il cC]] [(.ag (fg.cells ((fg.mk (((fg.mk kj)).b++Mp.lay (bG.of (Itv.mk cg cd cB bZ cC)))))))] :=
 ⟨by kernel_rfl,Eq.trans (b:=dt.F n (fg.mk kj) (Itv.mk cg cd cB bZ cC)) (by kernel_rfl) (Eq.trans (dt.goal n (fg.mk kj) (Itv.mk cg cd cB bZ cC) hp) (by kernel_rfl))⟩
theorem Nw.sy:∀n:Nat,(KO 108 (dt.cn n) dt.sg):=by
 intro n
 induction n with
 | zero=>exact fA (by
   intro ti gZ h
   unfold dt.cn at h
   split at h
   ·obtain ⟨h,_⟩:=h;simp at h
   ·exact h.elim)
 | succ n ih =>
  have rD:=ih
  exact meets (l:=dt.env n) (all_cons rD (all_cons fR.ok (all_cons dk.ok (all_cons dW.ok (all_cons eV.ok (all_cons jl.ok (all_cons fN.ok all_nil))))))) (dt.dp n) (by
   intro ins outs h
   unfold dt.cn at h
   split at h
   ·obtain ⟨hp,rfl⟩:=h;exact dt.fit n _ _ _ _ _ _ hp
   ·exact h.elim)
theorem dt.ok:KO 108 (dt.c) dt.sg:=ja fun ti gZ h=>by
 unfold dt.c at h
 split at h
 ·obtain ⟨hp,rfl⟩:=h;exact ⟨dt.cn (_+1),(Nw.sy _),bw.2 ⟨hp,aa (Nat.lt_succ_self _)⟩,rfl⟩
 ·exact h.elim
theorem ez.fit (cg:Int) (cd:UInt64) (cB:List UInt8) (bZ:bY) (cC:List bG) (hp:(decide (bG.c7 (bG.of (Itv.mk cg cd cB bZ cC))≤1073741824))=true):FT ez.d (cM tryzGl ez.env) [.ag [.i .i64 cg,.u64 cd,.sl .bs cB,.s bZ,.sl .il cC]] [(.sl .bs (Mp.enc (bG.of (Itv.mk cg cd cB bZ cC)))),(.i .i64 (Mp.dp (bG.of (Itv.mk cg cd cB bZ cC))))] :=
 ⟨by kernel_rfl,Eq.trans (b:=ez.F (Itv.mk cg cd cB bZ cC)) (by kernel_rfl) (Eq.trans (ez.goal (Itv.mk cg cd cB bZ cC) hp) (by kernel_rfl))⟩
theorem ez.ok:KO 93 (ez.c) ez.sg :=
 meets (l:=ez.env) (all_cons cW.ok (all_cons eY.ok (all_cons dt.ok (all_cons eJ.ok all_nil)))) ez.dp (by
   intro ins outs h
   unfold ez.c at h
   split at h
   ·obtain ⟨hp,rfl⟩:=h;exact ez.fit _ _ _ _ _ hp
   ·exact h.elim)
theorem bJ.fit (c:Int) (hp:(decide (0≤c∧c≤255))=true):FT bJ.d (cM tryzGl bJ.env) [.i .i64 c] [(.i .i64 ((Mp.first c).1)),(.u64 ((Mp.first c).2.1)),(.i .i64 ((Mp.first c).2.2))] :=
 ⟨by kernel_rfl,Eq.trans (b:=bJ.F c) (by kernel_rfl) (Eq.trans (bJ.goal c hp) (by kernel_rfl))⟩
theorem bJ.ok:KO 136 (bJ.c) bJ.sg :=
 meets (l:=bJ.env) all_nil bJ.dp (by
   intro ins outs h
   unfold bJ.c at h
   split at h
   ·obtain ⟨hp,rfl⟩:=h;exact bJ.fit _ hp
   ·exact h.elim)
theorem dG.fit (cg:Int) (cd:UInt64) (cB:List UInt8) (bZ:bY) (cC:List bG) (p:Int) (c:Int) (jD:Int) (kb:Int):FT dG.d (cM tryzGl dG.env) [.ag [.i .i64 cg,.u64 cd,.sl .bs cB,.s bZ,.sl .il cC],.i .i64 p,.i .i64 c,.ag [.i .i64 jD,.i .i64 kb]] [(.ag (Itv.cells (bG.val ((Mp.num (bG.of (Itv.mk cg cd cB bZ cC)) p c ((kU.mk jD kb)).at_ 0).it)))),(.ag (cX.cells ((cX.mk (Mp.num (bG.of (Itv.mk cg cd cB bZ cC)) p c ((kU.mk jD kb)).at_ 0).err (Mp.num (bG.of (Itv.mk cg cd cB bZ cC)) p c ((kU.mk jD kb)).at_ 0).at_ []))))] :=
 ⟨by kernel_rfl,Eq.trans (b:=dG.F (Itv.mk cg cd cB bZ cC) p c (kU.mk jD kb)) (by kernel_rfl) (Eq.trans (dG.goal (Itv.mk cg cd cB bZ cC) p c (kU.mk jD kb)) (by kernel_rfl))⟩
theorem dG.ok:KO 138 (dG.c) dG.sg :=
 meets (l:=dG.env) (all_cons dX.ok all_nil) dG.dp (by
   intro ins outs h
   unfold dG.c at h
   split at h
   ·cases h;exact dG.fit _ _ _ _ _ _ _ _ _
   ·exact h.elim)
theorem dG.Nu:KO 138 (dG.cw) dG.sg:=y7 rfl (by decide) dG.ok
theorem fB.fit (fp:List UInt8) (dj:Int) (cg:Int) (cd:UInt64) (cB:List UInt8) (bZ:bY) (cC:List bG) (p:Int) (n:Int) (hp:(cT.iE (dx.mk fp dj))=true):FT fB.d (cM tryzGl fB.env) [.ag [.sl .bs fp,.i .i64 dj],.ag [.i .i64 cg,.u64 cd,.sl .bs cB,.s bZ,.sl .il cC],.i .i64 p,.i .i64 n] [(.ag (Itv.cells (bG.val ((Mp.row ((dx.mk fp dj)).b (bG.of (Itv.mk cg cd cB bZ cC)) p ((dx.mk fp dj)).at_ n).it)))),(.ag (cX.cells ((cX.mk (Mp.row ((dx.mk fp dj)).b (bG.of (Itv.mk cg cd cB bZ cC)) p ((dx.mk fp dj)).at_ n).err (Mp.row ((dx.mk fp dj)).b (bG.of (Itv.mk cg cd cB bZ cC)) p ((dx.mk fp dj)).at_ n).at_ [])))),(.ag (dx.cells ((dx.mk ((dx.mk fp dj)).b (Mp.row ((dx.mk fp dj)).b (bG.of (Itv.mk cg cd cB bZ cC)) p ((dx.mk fp dj)).at_ n).pos))))] :=
 ⟨by kernel_rfl,Eq.trans (b:=fB.F (dx.mk fp dj) (Itv.mk cg cd cB bZ cC) p n) (by kernel_rfl) (Eq.trans (fB.goal (dx.mk fp dj) (Itv.mk cg cd cB bZ cC) p n hp) (by kernel_rfl))⟩
theorem fB.ok:KO 140 (fB.c) fB.sg :=
 meets (l:=fB.env) (all_cons dD.ok (all_cons dX.ok (all_cons fi.ok all_nil))) fB.dp (by
   intro ins outs h
   unfold fB.c at h
   split at h
   ·obtain ⟨hp,rfl⟩:=h;exact fB.fit _ _ _ _ _ _ _ _ _ hp
   ·exact h.elim)
theorem fB.Nu:KO 140 (fB.cw) fB.sg:=y7 rfl (by decide) fB.ok
theorem dr.fit (n:Nat) (fp:List UInt8) (dj:Int) (cg:Int) (cd:UInt64) (bZ:bY) (m:Int) (depth:Int) (hp:((cT.iE (dx.mk fp dj)&&decide (0≤m∧m≤4294967296∧1≤depth∧depth≤1000))&&decide ((2 * (depth).toNat)<n+1))=true):FT dr.d (cM tryzGl (dr.env n)) [.ag [.sl .bs fp,.i .i64 dj],.ag [.i .i64 cg,.u64 cd,.c (.slice none 0 0),.s bZ,.c (.slice none 0 0)],.i .i64 m,.i .i64 depth] [(.ag (Itv.cells (bG.val ((Mp.kids (Mp.read ((dx.mk fp dj)).b (depth - 1).toNat) (bG.of (Itv.mk cg cd [] bZ [])) (Mp.many ((Itv.mk cg cd [] bZ [])).kind m) ((dx.mk fp dj)).at_).it)))),(.ag (cX.cells ((cX.mk (Mp.kids (Mp.read ((dx.mk fp dj)).b (depth - 1).toNat) (bG.of (Itv.mk cg cd [] bZ [])) (Mp.many ((Itv.mk cg cd [] bZ [])).kind m) ((dx.mk fp dj)).at_).err (Mp.kids (Mp.read ((dx.mk fp dj)).b (depth - 1).toNat) (bG.of (Itv.mk cg cd [] bZ [])) (Mp.many ((Itv.mk cg cd [] bZ [])).kind m) ((dx.mk fp dj)).at_).at_ [])))),(.ag (dx.cells ((dx.mk ((dx.mk fp dj)).b (Mp.kids (Mp.read ((dx.mk fp dj)).b (depth - 1).toNat) (bG.of (Itv.mk cg cd [] bZ [])) (Mp.many ((Itv.mk cg cd [] bZ [])).kind m) ((dx.mk fp dj)).at_).pos))))] :=
 ⟨by kernel_rfl,Eq.trans (b:=dr.F n (dx.mk fp dj) (Itv.mk cg cd [] bZ []) m depth) (by kernel_rfl) (Eq.trans (dr.goal n (dx.mk fp dj) (Itv.mk cg cd [] bZ []) m depth hp) (by kernel_rfl))⟩
theorem cm.fit (n:Nat) (fp:List UInt8) (dj:Int) (depth:Int) (hp:((cT.iE (dx.mk fp dj)&&decide (0≤depth∧depth≤1000))&&decide ((2 * (depth).toNat+1)<n+1))=true):FT cm.d (cM tryzGl (cm.env n)) [.ag [.sl .bs fp,.i .i64 dj],.i .i64 depth] [(.ag (Itv.cells (bG.val ((Mp.read ((dx.mk fp dj)).b (depth).toNat ((dx.mk fp dj)).at_).it)))),(.ag (cX.cells ((cX.mk (Mp.read ((dx.mk fp dj)).b (depth).toNat ((dx.mk fp dj)).at_).err (Mp.read ((dx.mk fp dj)).b (depth).toNat ((dx.mk fp dj)).at_).at_ [])))),(.ag (dx.cells ((dx.mk ((dx.mk fp dj)).b (Mp.read ((dx.mk fp dj)).b (depth).toNat ((dx.mk fp dj)).at_).pos))))] :=
 ⟨by kernel_rfl,Eq.trans (b:=cm.F n (dx.mk fp dj) depth) (by kernel_rfl) (Eq.trans (cm.goal n (dx.mk fp dj) depth hp) (by kernel_rfl))⟩
theorem Ku.sy:∀n:Nat,(KO 139 (dr.cn n) dr.sg)∧(KO 120 (cm.cn n) cm.sg):=by
 intro n
 induction n with
 | zero=>exact ⟨fA (by
   intro ti gZ h
   unfold dr.cn at h
   split at h
   ·obtain ⟨h,_⟩:=h;simp at h
   ·exact h.elim),fA (by
   intro ti gZ h
   unfold cm.cn at h
   split at h
   ·obtain ⟨h,_⟩:=h;simp at h
   ·exact h.elim)⟩
 | succ n ih =>
  obtain ⟨rD,Gb⟩:=ih
  exact ⟨meets (l:=dr.env n) (all_cons Gb all_nil) (dr.dp n) (by
   intro ins outs h
   unfold dr.cn at h
   split at h
   ·obtain ⟨hp,rfl⟩:=h;exact dr.fit n _ _ _ _ _ _ _ hp
   ·exact h.elim),meets (l:=cm.env n) (all_cons dX.ok (all_cons gE.ok (all_cons dk.ok (all_cons dW.ok (all_cons jl.ok (all_cons fj.ok (all_cons bJ.ok (all_cons dR.ok (all_cons dG.Nu (all_cons rD (all_cons fB.Nu all_nil))))))))))) (cm.dp n) (by
   intro ins outs h
   unfold cm.cn at h
   split at h
   ·obtain ⟨hp,rfl⟩:=h;exact cm.fit n _ _ _ hp
   ·exact h.elim)⟩
theorem cm.ok:KO 120 (cm.c) cm.sg:=ja fun ti gZ h=>by
 unfold cm.c at h
 split at h
 ·obtain ⟨hp,rfl⟩:=h;exact ⟨cm.cn (_+1),(Ku.sy _).2,bw.2 ⟨hp,aa (Nat.lt_succ_self _)⟩,rfl⟩
 ·exact h.elim
theorem eA.fit (b:List UInt8) (depth:Int) (hp:(decide ((b).length≤1099511627776))=true):FT eA.d (cM tryzGl eA.env) [.sl .bs b,.i .i64 depth] [(.ag (Itv.cells (bG.val ((Mp.dec b depth).1)))),(.ag (cX.cells ((Mp.dec b depth).2)))] :=
 ⟨by kernel_rfl,Eq.trans (b:=eA.F b depth) (by kernel_rfl) (Eq.trans (eA.goal b depth hp) (by kernel_rfl))⟩
theorem eA.ok:KO 103 (eA.c) eA.sg :=
 meets (l:=eA.env) (all_cons dX.ok (all_cons fo.ok (all_cons cm.ok (all_cons eO.ok (all_cons gE.ok all_nil))))) eA.dp (by
   intro ins outs h
   unfold eA.c at h
   split at h
   ·obtain ⟨hp,rfl⟩:=h;exact eA.fit _ _ hp
   ·exact h.elim)
theorem cG.fit (v:UInt64) (n:Int) (hp:(decide (0≤n∧n≤8))=true):FT cG.d (cM tryzGl cG.env) [.u64 v,.i .i64 n] [(.sl .bs (cT.iK v (n).toNat))] :=
 ⟨by kernel_rfl,Eq.trans (b:=cG.F v n) (by kernel_rfl) (Eq.trans (cG.goal v n hp) (by kernel_rfl))⟩
theorem cG.ok:KO 80 (cG.c) cG.sg :=
 meets (l:=cG.env) all_nil cG.dp (by
   intro ins outs h
   unfold cG.c at h
   split at h
   ·obtain ⟨hp,rfl⟩:=h;exact cG.fit _ _ hp
   ·exact h.elim)
theorem bS.fit (v:UInt64) (n:Int) (hp:(decide (0≤n∧n≤8))=true):FT bS.d (cM tryzGl bS.env) [.u64 v,.i .i64 n] [(.sl .bs (cT.eQ v (n).toNat))] :=
 ⟨by kernel_rfl,Eq.trans (b:=bS.F v n) (by kernel_rfl) (Eq.trans (bS.goal v n hp) (by kernel_rfl))⟩
theorem bS.ok:KO 64 (bS.c) bS.sg :=
 meets (l:=bS.env) (all_cons cG.ok all_nil) bS.dp (by
   intro ins outs h
   unfold bS.c at h
   split at h
   ·obtain ⟨hp,rfl⟩:=h;exact bS.fit _ _ hp
   ·exact h.elim)
theorem cV.fit (b:List UInt8) (at_:Int) (n:Int) (hp:(decide ((b).length≤1099511627776))=true):FT cV.d (cM tryzGl cV.env) [.sl .bs b,.i .i64 at_,.i .i64 n] [(.u64 (cT.be (Mp.kk b at_ n))),(.b (Mp.kq b at_ n))] :=
 ⟨by kernel_rfl,Eq.trans (b:=cV.F b at_ n) (by kernel_rfl) (Eq.trans (cV.goal b at_ n hp) (by kernel_rfl))⟩
theorem cV.ok:KO 91 (cV.c) cV.sg :=
 meets (l:=cV.env) all_nil cV.dp (by
   intro ins outs h
   unfold cV.c at h
   split at h
   ·obtain ⟨hp,rfl⟩:=h;exact cV.fit _ _ _ hp
   ·exact h.elim)
theorem er.fit (cg:Int) (cd:UInt64) (cB:List UInt8) (bZ:bY) (cC:List bG) (hp:(decide (bG.c7 (bG.of (Itv.mk cg cd cB bZ cC))≤1099511627776))=true):FT er.d (cM tryzGl er.env) [.ag [.i .i64 cg,.u64 cd,.sl .bs cB,.s bZ,.sl .il cC]] [(.i .i64 (Mp.own (bG.of (Itv.mk cg cd cB bZ cC))))] :=
 ⟨by kernel_rfl,Eq.trans (b:=er.F (Itv.mk cg cd cB bZ cC)) (by kernel_rfl) (Eq.trans (er.goal (Itv.mk cg cd cB bZ cC) hp) (by kernel_rfl))⟩
theorem er.ok:KO 45 (er.c) er.sg :=
 meets (l:=er.env) (all_cons df.ok all_nil) er.dp (by
   intro ins outs h
   unfold er.c at h
   split at h
   ·obtain ⟨hp,rfl⟩:=h;exact er.fit _ _ _ _ _ hp
   ·exact h.elim)
theorem bX.fit (n:Nat) (cg:Int) (cd:UInt64) (cB:List UInt8) (bZ:bY) (cC:List bG) (hp:((decide (bG.c7 (bG.of (Itv.mk cg cd cB bZ cC))≤1099511627776))&&decide ((bG.c7 (bG.of (Itv.mk cg cd cB bZ cC)))<n+1))=true):FT bX.d (cM tryzGl (bX.env n)) [.ag [.i .i64 cg,.u64 cd,.sl .bs cB,.s bZ,.sl .il cC]] [(.i .i64 (Mp.dp (bG.of (Itv.mk cg cd cB bZ cC))))] :=
 ⟨by kernel_rfl,Eq.trans (b:=bX.F n (Itv.mk cg cd cB bZ cC)) (by kernel_rfl) (Eq.trans (bX.goal n (Itv.mk cg cd cB bZ cC) hp) (by kernel_rfl))⟩
theorem BK.sy:∀n:Nat,(KO 29 (bX.cn n) bX.sg):=by
 intro n
 induction n with
 | zero=>exact fA (by
   intro ti gZ h
   unfold bX.cn at h
   split at h
   ·obtain ⟨h,_⟩:=h;simp at h
   ·exact h.elim)
 | succ n ih =>
  have rD:=ih
  exact meets (l:=bX.env n) (all_cons rD (all_cons er.ok all_nil)) (bX.dp n) (by
   intro ins outs h
   unfold bX.cn at h
   split at h
   ·obtain ⟨hp,rfl⟩:=h;exact bX.fit n _ _ _ _ _ hp
   ·exact h.elim)
theorem bX.ok:KO 29 (bX.c) bX.sg:=ja fun ti gZ h=>by
 unfold bX.c at h
 split at h
 ·obtain ⟨hp,rfl⟩:=h;exact ⟨bX.cn (_+1),(BK.sy _),bw.2 ⟨hp,aa (Nat.lt_succ_self _)⟩,rfl⟩
 ·exact h.elim
theorem dJ.fit (n:UInt64):FT dJ.d (cM tryzGl dJ.env) [.u64 n] [(.i .i64 (Mp.wide n))] :=
 ⟨by kernel_rfl,Eq.trans (b:=dJ.F n) (by kernel_rfl) (Eq.trans (dJ.goal n) (by kernel_rfl))⟩
theorem dJ.ok:KO 110 (dJ.c) dJ.sg :=
 meets (l:=dJ.env) all_nil dJ.dp (by
   intro ins outs h
   unfold dJ.c at h
   split at h
   ·cases h;exact dJ.fit _
   ·exact h.elim)
theorem dK.fit (n:Int):FT dK.d (cM tryzGl dK.env) [.i .i64 n] [(.u8 (Mp.step n))] :=
 ⟨by kernel_rfl,Eq.trans (b:=dK.F n) (by kernel_rfl) (Eq.trans (dK.goal n) (by kernel_rfl))⟩
theorem dK.ok:KO 111 (dK.c) dK.sg :=
 meets (l:=dK.env) all_nil dK.dp (by
   intro ins outs h
   unfold dK.c at h
   split at h
   ·cases h;exact dK.fit _
   ·exact h.elim)
theorem dq.fit (f:UInt8) (n:UInt64) (least:Int) (hp:(decide (least≤8))=true):FT dq.d (cM tryzGl dq.env) [.u8 f,.u64 n,.i .i64 least] [(.sl .bs (Mp.form f n least))] :=
 ⟨by kernel_rfl,Eq.trans (b:=dq.F f n least) (by kernel_rfl) (Eq.trans (dq.goal f n least hp) (by kernel_rfl))⟩
theorem dq.ok:KO 94 (dq.c) dq.sg :=
 meets (l:=dq.env) (all_cons bS.ok (all_cons dJ.ok (all_cons dK.ok all_nil))) dq.dp (by
   intro ins outs h
   unfold dq.c at h
   split at h
   ·obtain ⟨hp,rfl⟩:=h;exact dq.fit _ _ _ hp
   ·exact h.elim)
theorem dV.fit (n:UInt64) (k:UInt64):FT dV.d (cM tryzGl dV.env) [.u64 n,.u64 k] [(.sl .bs (Mp.ext n k))] :=
 ⟨by kernel_rfl,Eq.trans (b:=dV.F n k) (by kernel_rfl) (Eq.trans (dV.goal n k) (by kernel_rfl))⟩
theorem dV.ok:KO 96 (dV.c) dV.sg :=
 meets (l:=dV.env) (all_cons dq.ok all_nil) dV.dp (by
   intro ins outs h
   unfold dV.c at h
   split at h
   ·cases h;exact dV.fit _ _
   ·exact h.elim)
theorem cP.fit (n:UInt64):FT cP.d (cM tryzGl cP.env) [.u64 n] [(.sl .bs (Mp.put (Mp.signed n) (~~~ n)))] :=
 ⟨by kernel_rfl,Eq.trans (b:=cP.F n) (by kernel_rfl) (Eq.trans (cP.goal n) (by kernel_rfl))⟩
theorem cP.ok:KO 95 (cP.c) cP.sg :=
 meets (l:=cP.env) (all_cons bS.ok all_nil) cP.dp (by
   intro ins outs h
   unfold cP.c at h
   split at h
   ·cases h;exact cP.fit _
   ·exact h.elim)
theorem dL.fit (cg:Int) (cd:UInt64) (cB:List UInt8) (bZ:bY) (cC:List bG) (hp:(decide (bG.c7 (bG.of (Itv.mk cg cd cB bZ cC))≤1099511627776)&&decide (Mp.own (bG.of (Itv.mk cg cd cB bZ cC))=0))=true):FT dL.d (cM tryzGl dL.env) [.ag [.i .i64 cg,.u64 cd,.sl .bs cB,.s bZ,.sl .il cC]] [(.sl .bs (Mp.head (bG.of (Itv.mk cg cd cB bZ cC))))] :=
 ⟨by kernel_rfl,Eq.trans (b:=dL.F (Itv.mk cg cd cB bZ cC)) (by kernel_rfl) (Eq.trans (dL.goal (Itv.mk cg cd cB bZ cC) hp) (by kernel_rfl))⟩
theorem dL.ok:KO 79 (dL.c) dL.sg :=
 meets (l:=dL.env) (all_cons bS.ok (all_cons dq.ok (all_cons cP.ok (all_cons dV.ok all_nil)))) dL.dp (by
   intro ins outs h
   unfold dL.c at h
   split at h
   ·obtain ⟨hp,rfl⟩:=h;exact dL.fit _ _ _ _ _ hp
   ·exact h.elim)
theorem bF.fit (c:UInt8):FT bF.d (cM tryzGl bF.env) [.u8 c] [(.i .i64 ((Mp.first ((c).toNat:Int)).1)),(.u64 ((Mp.first ((c).toNat:Int)).2.1)),(.i .i64 ((Mp.first ((c).toNat:Int)).2.2)),(.i .i64 ((if (Mp.first ((c).toNat:Int)).1=10 then 1 else 0)))] :=
 ⟨by kernel_rfl,Eq.trans (b:=bF.F c) (by kernel_rfl) (Eq.trans (bF.goal c) (by kernel_rfl))⟩
theorem bF.ok:KO 141 (bF.c) bF.sg :=
 meets (l:=bF.env) all_nil bF.dp (by
   intro ins outs h
   unfold bF.c at h
   split at h
   ·cases h;exact bF.fit _
   ·exact h.elim)
theorem dA.fit (n:UInt64) (size:Int) (hp:(decide (size=1∨size=2∨size=4∨size=8))=true):FT dA.d (cM tryzGl dA.env) [.u64 n,.i .i64 size] [(.u64 ((Mp.below n size).getD 0)),(.b ((Mp.below n size).isSome))] :=
 ⟨by kernel_rfl,Eq.trans (b:=dA.F n size) (by kernel_rfl) (Eq.trans (dA.goal n size hp) (by kernel_rfl))⟩
theorem dA.ok:KO 142 (dA.c) dA.sg :=
 meets (l:=dA.env) all_nil dA.dp (by
   intro ins outs h
   unfold dA.c at h
   split at h
   ·obtain ⟨hp,rfl⟩:=h;exact dA.fit _ _ hp
   ·exact h.elim)
theorem cJ.fit (b:List UInt8) (p:Int) (end_:Int) (k:Int) (n:UInt64) (types:UInt64) (hp:(decide (0≤p∧p≤end_∧end_≤(b).length∧(b).length≤1099511627776)&&decide (k=1∨k=2∧n<9223372036854775808∨k=8∧20≤n∧n≤22∨k=9∨k=3∨k=4∨k=5∨k=6∨k=10))=true):FT cJ.d (cM tryzGl cJ.env) [.sl .bs b,.i .i64 p,.i .i64 end_,.i .i64 k,.u64 n,.u64 types] [(.b (decide (Mp.want k n types=((b).drop (p).toNat).take ((end_) - (p)).toNat)))] :=
 ⟨by kernel_rfl,Eq.trans (b:=cJ.F b p end_ k n types) (by kernel_rfl) (Eq.trans (cJ.goal b p end_ k n types hp) (by kernel_rfl))⟩
theorem cJ.ok:KO 143 (cJ.c) cJ.sg :=
 meets (l:=cJ.env) (all_cons dL.ok (all_cons dq.ok (all_cons dV.ok all_nil))) cJ.dp (by
   intro ins outs h
   unfold cJ.c at h
   split at h
   ·obtain ⟨hp,rfl⟩:=h;exact cJ.fit _ _ _ _ _ _ hp
   ·exact h.elim)
theorem bE.fit (n:Nat) (b:List UInt8) (p:Int) (within:Int) (depth:Int) (hp:((decide ((b).length≤1099511627776∧0≤p∧0≤within∧within≤depth∧depth≤1000))&&decide (((depth - within).toNat)<n+1))=true):FT bE.d (cM tryzGl (bE.env n)) [.sl .bs b,.i .i64 p,.i .i64 within,.i .i64 depth] [(.ag (Itv.cells (bG.val ((Mp.read b (depth - within).toNat p).it)))),(.i .i64 ((Mp.next b (depth - within).toNat p))),(.ag (cX.cells ((cX.mk (Mp.read b (depth - within).toNat p).err (Mp.read b (depth - within).toNat p).at_ []))))] :=
 ⟨by kernel_rfl,Eq.trans (b:=bE.F n b p within depth) (by kernel_rfl) (Eq.trans (bE.goal n b p within depth hp) (by kernel_rfl))⟩
theorem Ec.sy:∀n:Nat,(KO 123 (bE.cn n) bE.sg):=by
 intro n
 induction n with
 | zero=>exact fA (by
   intro ti gZ h
   unfold bE.cn at h
   split at h
   ·obtain ⟨h,_⟩:=h;simp at h
   ·exact h.elim)
 | succ n ih =>
  have rD:=ih
  exact meets (l:=bE.env n) (all_cons df.ok (all_cons cV.ok (all_cons rD (all_cons bF.ok (all_cons dA.ok (all_cons cJ.ok all_nil)))))) (bE.dp n) (by
   intro ins outs h
   unfold bE.cn at h
   split at h
   ·obtain ⟨hp,rfl⟩:=h;exact bE.fit n _ _ _ _ hp
   ·exact h.elim)
theorem bE.ok:KO 123 (bE.c) bE.sg:=ja fun ti gZ h=>by
 unfold bE.c at h
 split at h
 ·obtain ⟨hp,rfl⟩:=h;exact ⟨bE.cn (_+1),(Ec.sy _),bw.2 ⟨hp,aa (Nat.lt_succ_self _)⟩,rfl⟩
 ·exact h.elim
theorem cH.fit (b:List UInt8) (depth:Int) (hp:(decide ((b).length≤1099511627776))=true):FT cH.d (cM tryzGl cH.env) [.sl .bs b,.i .i64 depth] [(.ag (Itv.cells (bG.val ((Mp.dec b depth).1)))),(.ag (cX.cells ((Mp.dec b depth).2)))] :=
 ⟨by kernel_rfl,Eq.trans (b:=cH.F b depth) (by kernel_rfl) (Eq.trans (cH.goal b depth hp) (by kernel_rfl))⟩
theorem cH.ok:KO 106 (cH.c) cH.sg :=
 meets (l:=cH.env) (all_cons bE.ok all_nil) cH.dp (by
   intro ins outs h
   unfold cH.c at h
   split at h
   ·obtain ⟨hp,rfl⟩:=h;exact cH.fit _ _ hp
   ·exact h.elim)
theorem eo.fit (nC:Int) (jD:Int) (kT:List Int) (pd:Int) (tq:Int) (mm:List Int) (hp:(decide (((cX.mk nC jD kT)).path.length≤1099511627776))=true):FT eo.d (cM tryzGl eo.env) [.ag [.i .i64 nC,.i .i64 jD,.sl .is kT],.ag [.i .i64 pd,.i .i64 tq,.sl .is mm]] [(.b (decide (((cX.mk nC jD kT)).err=((cX.mk pd tq mm)).err∧((cX.mk nC jD kT)).at_=((cX.mk pd tq mm)).at_∧((cX.mk nC jD kT)).path=((cX.mk pd tq mm)).path)))] :=
 ⟨by kernel_rfl,Eq.trans (b:=eo.F (cX.mk nC jD kT) (cX.mk pd tq mm)) (by kernel_rfl) (Eq.trans (eo.goal (cX.mk nC jD kT) (cX.mk pd tq mm) hp) (by kernel_rfl))⟩
theorem eo.ok:KO 11 (eo.c) eo.sg :=
 meets (l:=eo.env) (all_cons bT.ok all_nil) eo.dp (by
   intro ins outs h
   unfold eo.c at h
   split at h
   ·obtain ⟨hp,rfl⟩:=h;exact eo.fit _ _ _ _ _ _ hp
   ·exact h.elim)
theorem da.fit (left:Int) (ig:List Int) (hp:(decide (left≤10000∧ig.length≤10)&&ig.all (fun s=>decide (0≤s)))=true):FT da.d (cM tryzGl da.env) [.i .i64 left,.sl .is ig] [(.i .i64 (qv.room left ig))] :=
 ⟨by kernel_rfl,Eq.trans (b:=da.F left ig) (by kernel_rfl) (Eq.trans (da.goal left ig hp) (by kernel_rfl))⟩
theorem da.ok:KO 34 (da.c) da.sg :=
 meets (l:=da.env) all_nil da.dp (by
   intro ins outs h
   unfold da.c at h
   split at h
   ·obtain ⟨hp,rfl⟩:=h;exact da.fit _ _ hp
   ·exact h.elim)
theorem cN.fit (n:Nat) (left:Int) (cg:Int) (cd:UInt64) (cB:List UInt8) (bZ:bY) (cC:List bG) (hp:((decide (left≤10000))&&decide ((bG.c7 (bG.of (Itv.mk cg cd cB bZ cC)))<n+1))=true):FT cN.d (cM tryzGl (cN.env n)) [.i .i64 left,.ag [.i .i64 cg,.u64 cd,.sl .bs cB,.s bZ,.sl .il cC]] [(.i .i64 (bG.room left (bG.of (Itv.mk cg cd cB bZ cC))))] :=
 ⟨by kernel_rfl,Eq.trans (b:=cN.F n left (Itv.mk cg cd cB bZ cC)) (by kernel_rfl) (Eq.trans (cN.goal n left (Itv.mk cg cd cB bZ cC) hp) (by kernel_rfl))⟩
theorem L5.sy:∀n:Nat,(KO 25 (cN.cn n) cN.sg):=by
 intro n
 induction n with
 | zero=>exact fA (by
   intro ti gZ h
   unfold cN.cn at h
   split at h
   ·obtain ⟨h,_⟩:=h;simp at h
   ·exact h.elim)
 | succ n ih =>
  have rD:=ih
  exact meets (l:=cN.env n) (all_cons rD (all_cons da.ok all_nil)) (cN.dp n) (by
   intro ins outs h
   unfold cN.cn at h
   split at h
   ·obtain ⟨hp,rfl⟩:=h;exact cN.fit n _ _ _ _ _ _ hp
   ·exact h.elim)
theorem cN.ok:KO 25 (cN.c) cN.sg:=ja fun ti gZ h=>by
 unfold cN.c at h
 split at h
 ·obtain ⟨hp,rfl⟩:=h;exact ⟨cN.cn (_+1),(L5.sy _),bw.2 ⟨hp,aa (Nat.lt_succ_self _)⟩,rfl⟩
 ·exact h.elim
theorem cR.fit (cg:Int) (cd:UInt64) (cB:List UInt8) (bZ:bY) (cC:List bG):FT cR.d (cM tryzGl cR.env) [.ag [.i .i64 cg,.u64 cd,.sl .bs cB,.s bZ,.sl .il cC]] [(.b (decide (0≤bG.room 1500 (bG.of (Itv.mk cg cd cB bZ cC)))))] :=
 ⟨by kernel_rfl,Eq.trans (b:=cR.F (Itv.mk cg cd cB bZ cC)) (by kernel_rfl) (Eq.trans (cR.goal (Itv.mk cg cd cB bZ cC)) (by kernel_rfl))⟩
theorem cR.ok:KO 13 (cR.c) cR.sg :=
 meets (l:=cR.env) (all_cons cN.ok all_nil) cR.dp (by
   intro ins outs h
   unfold cR.c at h
   split at h
   ·cases h;exact cR.fit _ _ _ _ _
   ·exact h.elim)
theorem dh.fit (s:bY) (c:UInt8):FT dh.d (cM tryzGl dh.env) [.s s,.u8 c] [(.i .i64 (Lib.indexByte s c))] :=
 ⟨by kernel_rfl,Eq.trans (b:=dh.F s c) (by kernel_rfl) (Eq.trans (dh.goal s c) (by kernel_rfl))⟩
theorem dh.ok:KO 98 (dh.c) dh.sg :=
 meets (l:=dh.env) all_nil dh.dp (by
   intro ins outs h
   unfold dh.c at h
   split at h
   ·cases h;exact dh.fit _ _
   ·exact h.elim)
theorem ef.fit (s:bY) (t:bY) (hp:(decide (t.length=1))=true):FT ef.d (cM tryzGl ef.env) [.s s,.s t] [(.i .i64 (Lib.indexByte s (t.getD 0 0)))] :=
 ⟨by kernel_rfl,Eq.trans (b:=ef.F s t) (by kernel_rfl) (Eq.trans (ef.goal s t hp) (by kernel_rfl))⟩
theorem ef.ok:KO 82 (ef.c) ef.sg :=
 meets (l:=ef.env) (all_cons dh.ok all_nil) ef.dp (by
   intro ins outs h
   unfold ef.c at h
   split at h
   ·obtain ⟨hp,rfl⟩:=h;exact ef.fit _ _ hp
   ·exact h.elim)
theorem eL.fit (s:bY) (t:bY) (hp:(decide (t.length=1))=true):FT eL.d (cM tryzGl eL.env) [.s s,.s t] [(.i .i64 (Lib.indexByte s (t.getD 0 0)))] :=
 ⟨by kernel_rfl,Eq.trans (b:=eL.F s t) (by kernel_rfl) (Eq.trans (eL.goal s t hp) (by kernel_rfl))⟩
theorem eL.ok:KO 68 (eL.c) eL.sg :=
 meets (l:=eL.env) (all_cons ef.ok all_nil) eL.dp (by
   intro ins outs h
   unfold eL.c at h
   split at h
   ·obtain ⟨hp,rfl⟩:=h;exact eL.fit _ _ hp
   ·exact h.elim)
theorem dc.fit (s:bY) (t:bY) (hp:(decide (t.length=1))=true):FT dc.d (cM tryzGl dc.env) [.s s,.s t] [(.b (decide (0≤Lib.indexByte s (t.getD 0 0))))] :=
 ⟨by kernel_rfl,Eq.trans (b:=dc.F s t) (by kernel_rfl) (Eq.trans (dc.goal s t hp) (by kernel_rfl))⟩
theorem dc.ok:KO 43 (dc.c) dc.sg :=
 meets (l:=dc.env) (all_cons eL.ok all_nil) dc.dp (by
   intro ins outs h
   unfold dc.c at h
   split at h
   ·obtain ⟨hp,rfl⟩:=h;exact dc.fit _ _ hp
   ·exact h.elim)
theorem en.fit (k:Int):FT en.d (cM tryzGl en.env) [.i .i64 k] [(.s (Tree.name k))] :=
 ⟨by kernel_rfl,Eq.trans (b:=en.F k) (by kernel_rfl) (Eq.trans (en.goal k) (by kernel_rfl))⟩
theorem en.ok:KO 52 (en.c) en.sg :=
 meets (l:=en.env) all_nil en.dp (by
   intro ins outs h
   unfold en.c at h
   split at h
   ·cases h;exact en.fit _
   ·exact h.elim)
theorem bH.fit (gN:Int) (gP:UInt64) (gO:UInt64) (gM:UInt64) (gJ:bY) (gL:bY) (gK:Int) (gI:List UInt8) (iH:List bM):FT bH.d (cM tryzGl bH.env) [.ag [.i .i64 gN,.u64 gP,.u64 gO,.u64 gM,.s gJ,.s gL,.i .i64 gK,.sl .bs gI,.sl .fl iH]] [(.b (Tree.fI (bI.mk gN gP gO gM gJ gL gK gI iH)))] :=
 ⟨by kernel_rfl,Eq.trans (b:=bH.F (bI.mk gN gP gO gM gJ gL gK gI iH)) (by kernel_rfl) (Eq.trans (bH.goal (bI.mk gN gP gO gM gJ gL gK gI iH)) (by kernel_rfl))⟩
theorem bH.ok:KO 53 (bH.c) bH.sg :=
 meets (l:=bH.env) all_nil bH.dp (by
   intro ins outs h
   unfold bH.c at h
   split at h
   ·cases h;exact bH.fit _ _ _ _ _ _ _ _ _
   ·exact h.elim)
theorem dH.fit (s:bY) (plain:Bool) (hp:(decide (s.length≤1099511627776))=true):FT dH.d (cM tryzGl dH.env) [.s s,.b plain] [(.b (Tree.fK s plain))] :=
 ⟨by kernel_rfl,Eq.trans (b:=dH.F s plain) (by kernel_rfl) (Eq.trans (dH.goal s plain hp) (by kernel_rfl))⟩
theorem dH.ok:KO 54 (dH.c) dH.sg :=
 meets (l:=dH.env) (all_cons dD.ok (all_cons dc.ok all_nil)) dH.dp (by
   intro ins outs h
   unfold dH.c at h
   split at h
   ·obtain ⟨hp,rfl⟩:=h;exact dH.fit _ _ hp
   ·exact h.elim)
theorem cE.fit (n:Nat) (gN:Int) (gP:UInt64) (gO:UInt64) (gM:UInt64) (gJ:bY) (gL:bY) (gK:Int) (gI:List UInt8) (iH:List bM) (name:bY) (path:List Int) (hp:((decide (bM.c7 (bM.of name (bI.mk gN gP gO gM gJ gL gK gI iH))+path.length≤1099511627776))&&decide ((bM.c7 (bM.of name (bI.mk gN gP gO gM gJ gL gK gI iH)))<n+1))=true):FT cE.d (cM tryzGl (cE.env n)) [.ag [.i .i64 gN,.u64 gP,.u64 gO,.u64 gM,.s gJ,.s gL,.i .i64 gK,.sl .bs gI,.sl .fl iH],.s name,.sl .is path] [(.sl .is ((Tree.iN (bM.of name (bI.mk gN gP gO gM gJ gL gK gI iH)) path).1)),(.i .i64 ((Tree.iN (bM.of name (bI.mk gN gP gO gM gJ gL gK gI iH)) path).2))] :=
 ⟨by kernel_rfl,Eq.trans (b:=cE.F n (bI.mk gN gP gO gM gJ gL gK gI iH) name path) (by kernel_rfl) (Eq.trans (cE.goal n (bI.mk gN gP gO gM gJ gL gK gI iH) name path hp) (by kernel_rfl))⟩
theorem GM.sy:∀n:Nat,(KO 35 (cE.cn n) cE.sg):=by
 intro n
 induction n with
 | zero=>exact fA (by
   intro ti gZ h
   unfold cE.cn at h
   split at h
   ·obtain ⟨h,_⟩:=h;simp at h
   ·exact h.elim)
 | succ n ih =>
  have rD:=ih
  exact meets (l:=cE.env n) (all_cons rD (all_cons jF.ok (all_cons en.ok (all_cons bH.ok (all_cons dH.ok all_nil))))) (cE.dp n) (by
   intro ins outs h
   unfold cE.cn at h
   split at h
   ·obtain ⟨hp,rfl⟩:=h;exact cE.fit n _ _ _ _ _ _ _ _ _ _ _ hp
   ·exact h.elim)
theorem cE.ok:KO 35 (cE.c) cE.sg:=ja fun ti gZ h=>by
 unfold cE.c at h
 split at h
 ·obtain ⟨hp,rfl⟩:=h;exact ⟨cE.cn (_+1),(GM.sy _),bw.2 ⟨hp,aa (Nat.lt_succ_self _)⟩,rfl⟩
 ·exact h.elim
theorem dI.fit (gN:Int) (gP:UInt64) (gO:UInt64) (gM:UInt64) (gJ:bY) (gL:bY) (gK:Int) (gI:List UInt8) (iH:List bM) (hp:(decide (bM.c7 (bM.of [] (bI.mk gN gP gO gM gJ gL gK gI iH))≤1099511627776))=true):FT dI.d (cM tryzGl dI.env) [.ag [.i .i64 gN,.u64 gP,.u64 gO,.u64 gM,.s gJ,.s gL,.i .i64 gK,.sl .bs gI,.sl .fl iH]] [(.sl .is ((Tree.iN (bM.of [] (bI.mk gN gP gO gM gJ gL gK gI iH)) []).1)),(.i .i64 ((Tree.iN (bM.of [] (bI.mk gN gP gO gM gJ gL gK gI iH)) []).2))] :=
 ⟨by kernel_rfl,Eq.trans (b:=dI.F (bI.mk gN gP gO gM gJ gL gK gI iH)) (by kernel_rfl) (Eq.trans (dI.goal (bI.mk gN gP gO gM gJ gL gK gI iH) hp) (by kernel_rfl))⟩
theorem dI.ok:KO 20 (dI.c) dI.sg :=
 meets (l:=dI.env) (all_cons cE.ok all_nil) dI.dp (by
   intro ins outs h
   unfold dI.c at h
   split at h
   ·obtain ⟨hp,rfl⟩:=h;exact dI.fit _ _ _ _ _ _ _ _ _ hp
   ·exact h.elim)
theorem cF.fit (n:Nat) (gN:Int) (gP:UInt64) (gO:UInt64) (gM:UInt64) (gJ:bY) (gL:bY) (gK:Int) (gI:List UInt8) (iH:List bM) (hp:((decide (bM.c7 (bM.of [] (bI.mk gN gP gO gM gJ gL gK gI iH))≤1099511627776))&&decide ((bM.c7 (bM.of [] (bI.mk gN gP gO gM gJ gL gK gI iH)))<n+1))=true):FT cF.d (cM tryzGl (cF.env n)) [.ag [.i .i64 gN,.u64 gP,.u64 gO,.u64 gM,.s gJ,.s gL,.i .i64 gK,.sl .bs gI,.sl .fl iH]] [(.i .i64 ((Tree.depth (bM.of [] (bI.mk gN gP gO gM gJ gL gK gI iH)):Int)))] :=
 ⟨by kernel_rfl,Eq.trans (b:=cF.F n (bI.mk gN gP gO gM gJ gL gK gI iH)) (by kernel_rfl) (Eq.trans (cF.goal n (bI.mk gN gP gO gM gJ gL gK gI iH) hp) (by kernel_rfl))⟩
theorem GK.sy:∀n:Nat,(KO 21 (cF.cn n) cF.sg):=by
 intro n
 induction n with
 | zero=>exact fA (by
   intro ti gZ h
   unfold cF.cn at h
   split at h
   ·obtain ⟨h,_⟩:=h;simp at h
   ·exact h.elim)
 | succ n ih =>
  have rD:=ih
  exact meets (l:=cF.env n) (all_cons rD all_nil) (cF.dp n) (by
   intro ins outs h
   unfold cF.cn at h
   split at h
   ·obtain ⟨hp,rfl⟩:=h;exact cF.fit n _ _ _ _ _ _ _ _ _ hp
   ·exact h.elim)
theorem cF.ok:KO 21 (cF.c) cF.sg:=ja fun ti gZ h=>by
 unfold cF.c at h
 split at h
 ·obtain ⟨hp,rfl⟩:=h;exact ⟨cF.cn (_+1),(GK.sy _),bw.2 ⟨hp,aa (Nat.lt_succ_self _)⟩,rfl⟩
 ·exact h.elim
theorem dC.fit (s:bY) (hp:(decide (s.length≤1099511627776))=true):FT dC.d (cM tryzGl dC.env) [.s s] [(.b (Tree.fK s true))] :=
 ⟨by kernel_rfl,Eq.trans (b:=dC.F s) (by kernel_rfl) (Eq.trans (dC.goal s hp) (by kernel_rfl))⟩
theorem dC.ok:KO 50 (dC.c) dC.sg :=
 meets (l:=dC.env) (all_cons cU.ok (all_cons df.ok all_nil)) dC.dp (by
   intro ins outs h
   unfold dC.c at h
   split at h
   ·obtain ⟨hp,rfl⟩:=h;exact dC.fit _ hp
   ·exact h.elim)
theorem eu.fit (uv:Int) (uy:UInt64) (uw:UInt64) (uu:UInt64) (uo:bY) (ur:bY) (uq:Int) (um:List UInt8) (ux:List bM) (yQ:Int) (yT:UInt64) (yR:UInt64) (yP:UInt64) (yM:bY) (yO:bY) (yN:Int) (yL:List UInt8) (yS:List bM):FT eu.d (cM tryzGl eu.env) [.ag [.i .i64 uv,.u64 uy,.u64 uw,.u64 uu,.s uo,.s ur,.i .i64 uq,.sl .bs um,.sl .fl ux],.ag [.i .i64 yQ,.u64 yT,.u64 yR,.u64 yP,.s yM,.s yO,.i .i64 yN,.sl .bs yL,.sl .fl yS]] [(.b (Tree.gH (bI.mk uv uy uw uu uo ur uq um ux) (bI.mk yQ yT yR yP yM yO yN yL yS)))] :=
 ⟨by kernel_rfl,Eq.trans (b:=eu.F (bI.mk uv uy uw uu uo ur uq um ux) (bI.mk yQ yT yR yP yM yO yN yL yS)) (by kernel_rfl) (Eq.trans (eu.goal (bI.mk uv uy uw uu uo ur uq um ux) (bI.mk yQ yT yR yP yM yO yN yL yS)) (by kernel_rfl))⟩
theorem eu.ok:KO 31 (eu.c) eu.sg :=
 meets (l:=eu.env) all_nil eu.dp (by
   intro ins outs h
   unfold eu.c at h
   split at h
   ·cases h;exact eu.fit _ _ _ _ _ _ _ _ _ _ _ _ _ _ _ _ _ _
   ·exact h.elim)
theorem cA.fit (n:Nat) (uv:Int) (uy:UInt64) (uw:UInt64) (uu:UInt64) (uo:bY) (ur:bY) (uq:Int) (um:List UInt8) (ux:List bM) (yQ:Int) (yT:UInt64) (yR:UInt64) (yP:UInt64) (yM:bY) (yO:bY) (yN:Int) (yL:List UInt8) (yS:List bM) (hp:((decide (bM.c7 (bM.of [] (bI.mk uv uy uw uu uo ur uq um ux))≤1099511627776))&&decide ((bM.c7 (bM.of [] (bI.mk uv uy uw uu uo ur uq um ux)))<n+1))=true):FT cA.d (cM tryzGl (cA.env n)) [.ag [.i .i64 uv,.u64 uy,.u64 uw,.u64 uu,.s uo,.s ur,.i .i64 uq,.sl .bs um,.sl .fl ux],.ag [.i .i64 yQ,.u64 yT,.u64 yR,.u64 yP,.s yM,.s yO,.i .i64 yN,.sl .bs yL,.sl .fl yS]] [(.b (Tree.same (bI.mk uv uy uw uu uo ur uq um ux) (bI.mk yQ yT yR yP yM yO yN yL yS)))] :=
 ⟨by kernel_rfl,Eq.trans (b:=cA.F n (bI.mk uv uy uw uu uo ur uq um ux) (bI.mk yQ yT yR yP yM yO yN yL yS)) (by kernel_rfl) (Eq.trans (cA.goal n (bI.mk uv uy uw uu uo ur uq um ux) (bI.mk yQ yT yR yP yM yO yN yL yS) hp) (by kernel_rfl))⟩
theorem JQ.sy:∀n:Nat,(KO 16 (cA.cn n) cA.sg):=by
 intro n
 induction n with
 | zero=>exact fA (by
   intro ti gZ h
   unfold cA.cn at h
   split at h
   ·obtain ⟨h,_⟩:=h;simp at h
   ·exact h.elim)
 | succ n ih =>
  have rD:=ih
  exact meets (l:=cA.env n) (all_cons rD (all_cons eu.ok all_nil)) (cA.dp n) (by
   intro ins outs h
   unfold cA.cn at h
   split at h
   ·obtain ⟨hp,rfl⟩:=h;exact cA.fit n _ _ _ _ _ _ _ _ _ _ _ _ _ _ _ _ _ _ hp
   ·exact h.elim)
theorem cA.ok:KO 16 (cA.c) cA.sg:=ja fun ti gZ h=>by
 unfold cA.c at h
 split at h
 ·obtain ⟨hp,rfl⟩:=h;exact ⟨cA.cn (_+1),(JQ.sy _),bw.2 ⟨hp,aa (Nat.lt_succ_self _)⟩,rfl⟩
 ·exact h.elim
theorem cD.fit (v:UInt64):FT cD.d (cM tryzGl cD.env) [.u64 v] [(.s (kP (v).toNat))] :=
 ⟨by kernel_rfl,Eq.trans (b:=cD.F v) (by kernel_rfl) (Eq.trans (cD.goal v) (by kernel_rfl))⟩
theorem cD.ok:KO 73 (cD.c) cD.sg :=
 meets (l:=cD.env) all_nil cD.dp (by
   intro ins outs h
   unfold cD.c at h
   split at h
   ·cases h;exact cD.fit _
   ·exact h.elim)
theorem bW.fit (l:List bM) (hp:(decide (l.length≤1099511627776))=true):FT bW.d (cM tryzGl bW.env) [.sl .fl l] [(.b (Tree.regular l))] :=
 ⟨by kernel_rfl,Eq.trans (b:=bW.F l) (by kernel_rfl) (Eq.trans (bW.goal l hp) (by kernel_rfl))⟩
theorem bW.ok:KO 55 (bW.c) bW.sg :=
 meets (l:=bW.env) (all_cons kG.ok all_nil) bW.dp (by
   intro ins outs h
   unfold bW.c at h
   split at h
   ·obtain ⟨hp,rfl⟩:=h;exact bW.fit _ hp
   ·exact h.elim)
theorem bU.fit (l:List bM) (hp:(decide (l.length≤1099511627776))=true):FT bU.d (cM tryzGl bU.env) [.sl .fl l] [(.b (Tree.regular l))] :=
 ⟨by kernel_rfl,Eq.trans (b:=bU.F l) (by kernel_rfl) (Eq.trans (bU.goal l hp) (by kernel_rfl))⟩
theorem bU.ok:KO 61 (bU.c) bU.sg :=
 meets (l:=bU.env) (all_cons cD.ok all_nil) bU.dp (by
   intro ins outs h
   unfold bU.c at h
   split at h
   ·obtain ⟨hp,rfl⟩:=h;exact bU.fit _ hp
   ·exact h.elim)
theorem di.fit (cg:Int) (cd:UInt64) (cB:List UInt8) (bZ:bY) (cC:List bG):FT di.d (cM tryzGl di.env) [.ag [.i .i64 cg,.u64 cd,.sl .bs cB,.s bZ,.sl .il cC]] [(.i .i64 (Db.gA (bG.of (Itv.mk cg cd cB bZ cC)))),(.b ((Db.number (bG.of (Itv.mk cg cd cB bZ cC))).isSome))] :=
 ⟨by kernel_rfl,Eq.trans (b:=di.F (Itv.mk cg cd cB bZ cC)) (by kernel_rfl) (Eq.trans (di.goal (Itv.mk cg cd cB bZ cC)) (by kernel_rfl))⟩
theorem di.ok:KO 89 (di.c) di.sg :=
 meets (l:=di.env) all_nil di.dp (by
   intro ins outs h
   unfold di.c at h
   split at h
   ·cases h;exact di.fit _ _ _ _ _
   ·exact h.elim)
theorem dM.fit (cg:Int) (cd:UInt64) (cB:List UInt8) (bZ:bY) (cC:List bG):FT dM.d (cM tryzGl dM.env) [.ag [.i .i64 cg,.u64 cd,.sl .bs cB,.s bZ,.sl .il cC]] [(.ag (bI.cells ((Db.half (bG.of (Itv.mk cg cd cB bZ cC))).1))),(.b ((Db.half (bG.of (Itv.mk cg cd cB bZ cC))).2))] :=
 ⟨by kernel_rfl,Eq.trans (b:=dM.F (Itv.mk cg cd cB bZ cC)) (by kernel_rfl) (Eq.trans (dM.goal (Itv.mk cg cd cB bZ cC)) (by kernel_rfl))⟩
theorem dM.ok:KO 72 (dM.c) dM.sg :=
 meets (l:=dM.env) (all_cons di.ok all_nil) dM.dp (by
   intro ins outs h
   unfold dM.c at h
   split at h
   ·cases h;exact dM.fit _ _ _ _ _
   ·exact h.elim)
theorem fQ.fit (s:bY) (t:bY) (hp:(decide (t.length=1∧s.length≤1099511627776))=true):FT fQ.d (cM tryzGl fQ.env) [.s s,.s t] [(.s ((Dk.cut s (t.getD 0 0)).1)),(.s ((Dk.cut s (t.getD 0 0)).2.1)),(.b ((Dk.cut s (t.getD 0 0)).2.2))] :=
 ⟨by kernel_rfl,Eq.trans (b:=fQ.F s t) (by kernel_rfl) (Eq.trans (fQ.goal s t hp) (by kernel_rfl))⟩
theorem fQ.ok:KO 104 (fQ.c) fQ.sg :=
 meets (l:=fQ.env) (all_cons ef.ok all_nil) fQ.dp (by
   intro ins outs h
   unfold fQ.c at h
   split at h
   ·obtain ⟨hp,rfl⟩:=h;exact fQ.fit _ _ hp
   ·exact h.elim)
theorem fP.fit (s:bY) (t:bY) (hp:(decide (t.length=1∧s.length≤1099511627776))=true):FT fP.d (cM tryzGl fP.env) [.s s,.s t] [(.s ((Dk.cut s (t.getD 0 0)).1)),(.s ((Dk.cut s (t.getD 0 0)).2.1)),(.b ((Dk.cut s (t.getD 0 0)).2.2))] :=
 ⟨by kernel_rfl,Eq.trans (b:=fP.F s t) (by kernel_rfl) (Eq.trans (fP.goal s t hp) (by kernel_rfl))⟩
theorem fP.ok:KO 87 (fP.c) fP.sg :=
 meets (l:=fP.env) (all_cons fQ.ok all_nil) fP.dp (by
   intro ins outs h
   unfold fP.c at h
   split at h
   ·obtain ⟨hp,rfl⟩:=h;exact fP.fit _ _ hp
   ·exact h.elim)
theorem eW.fit (s:bY):FT eW.d (cM tryzGl eW.env) [.s s] [(.ag (Itv.cells (bG.val (Db.text s))))] :=
 ⟨by kernel_rfl,Eq.trans (b:=eW.F s) (by kernel_rfl) (Eq.trans (eW.goal s) (by kernel_rfl))⟩
theorem eW.ok:KO 36 (eW.c) eW.sg :=
 meets (l:=eW.env) all_nil eW.dp (by
   intro ins outs h
   unfold eW.c at h
   split at h
   ·cases h;exact eW.fit _
   ·exact h.elim)
theorem eB.fit (n:UInt64):FT eB.d (cM tryzGl eB.env) [.u64 n] [(.ag (Itv.cells (bG.val (Db.simple n))))] :=
 ⟨by kernel_rfl,Eq.trans (b:=eB.F n) (by kernel_rfl) (Eq.trans (eB.goal n) (by kernel_rfl))⟩
theorem eB.ok:KO 57 (eB.c) eB.sg :=
 meets (l:=eB.env) all_nil eB.dp (by
   intro ins outs h
   unfold eB.c at h
   split at h
   ·cases h;exact eB.fit _
   ·exact h.elim)
theorem dU.fit (v:UInt64) (n:Int) (hp:(decide (0≤n∧n≤8))=true):FT dU.d (cM tryzGl dU.env) [.u64 v,.i .i64 n] [(.sl .bs (cT.eQ v (n).toNat))] :=
 ⟨by kernel_rfl,Eq.trans (b:=dU.F v n) (by kernel_rfl) (Eq.trans (dU.goal v n hp) (by kernel_rfl))⟩
theorem dU.ok:KO 78 (dU.c) dU.sg :=
 meets (l:=dU.env) all_nil dU.dp (by
   intro ins outs h
   unfold dU.c at h
   split at h
   ·obtain ⟨hp,rfl⟩:=h;exact dU.fit _ _ hp
   ·exact h.elim)
theorem dN.fit (v:Int) (hp:(decide (-9223372036854775808≤v∧v≤9223372036854775807))=true):FT dN.d (cM tryzGl dN.env) [.i .i64 v] [(.ag (Itv.cells (bG.val (Db.integer v))))] :=
 ⟨by kernel_rfl,Eq.trans (b:=dN.F v) (by kernel_rfl) (Eq.trans (dN.goal v hp) (by kernel_rfl))⟩
theorem dN.ok:KO 58 (dN.c) dN.sg :=
 meets (l:=dN.env) all_nil dN.dp (by
   intro ins outs h
   unfold dN.c at h
   split at h
   ·obtain ⟨hp,rfl⟩:=h;exact dN.fit _ hp
   ·exact h.elim)
theorem fk.fit (k:Int):FT fk.d (cM tryzGl fk.env) [.i .i64 k] [(.u64 (Dk.sort k))] :=
 ⟨by kernel_rfl,Eq.trans (b:=fk.F k) (by kernel_rfl) (Eq.trans (fk.goal k) (by kernel_rfl))⟩
theorem fk.ok:KO 59 (fk.c) fk.sg :=
 meets (l:=fk.env) all_nil fk.dp (by
   intro ins outs h
   unfold fk.c at h
   split at h
   ·cases h;exact fk.fit _
   ·exact h.elim)
theorem cL.fit (n:Nat) (l:List bM) (hp:((decide (bM.db l≤1048576)&&Tree.iT l)&&decide ((4 * bM.db l+3)<n+1))=true):FT cL.d (cM tryzGl (cL.env n)) [.sl .fl l] [(.ag (Itv.cells (bG.val (Db.map (Dk.mapped l)))))] :=
 ⟨by kernel_rfl,Eq.trans (b:=cL.F n l) (by kernel_rfl) (Eq.trans (cL.goal n l hp) (by kernel_rfl))⟩
theorem fw.fit (n:Nat) (l:List bM) (hp:((decide (bM.db l≤1048576)&&Tree.iT l)&&decide ((4 * bM.db l+4)<n+1))=true):FT fw.d (cM tryzGl (fw.env n)) [.sl .fl l] [(.sl .bs (Mp.lay (Db.map (Dk.mapped l))))] :=
 ⟨by kernel_rfl,Eq.trans (b:=fw.F n l) (by kernel_rfl) (Eq.trans (fw.goal n l hp) (by kernel_rfl))⟩
theorem de.fit (n:Nat) (gN:Int) (gP:UInt64) (gO:UInt64) (gM:UInt64) (gJ:bY) (gL:bY) (gK:Int) (gI:List UInt8) (iH:List bM) (hp:((decide (bM.c7 (bM.of [] (bI.mk gN gP gO gM gJ gL gK gI iH))≤1048576)&&Tree.lj (bM.of [] (bI.mk gN gP gO gM gJ gL gK gI iH)))&&decide ((4 * bM.c7 (bM.of [] (bI.mk gN gP gO gM gJ gL gK gI iH))+2)<n+1))=true):FT de.d (cM tryzGl (de.env n)) [.ag [.i .i64 gN,.u64 gP,.u64 gO,.u64 gM,.s gJ,.s gL,.i .i64 gK,.sl .bs gI,.sl .fl iH]] [(.ag (Itv.cells (bG.val (Dk.item (bM.of [] (bI.mk gN gP gO gM gJ gL gK gI iH))))))] :=
 ⟨by kernel_rfl,Eq.trans (b:=de.F n (bI.mk gN gP gO gM gJ gL gK gI iH)) (by kernel_rfl) (Eq.trans (de.goal n (bI.mk gN gP gO gM gJ gL gK gI iH) hp) (by kernel_rfl))⟩
theorem cQ.fit (n:Nat) (gN:Int) (gP:UInt64) (gO:UInt64) (gM:UInt64) (gJ:bY) (gL:bY) (gK:Int) (gI:List UInt8) (iH:List bM) (hp:((decide (bM.c7 (bM.of [] (bI.mk gN gP gO gM gJ gL gK gI iH))≤1048576)&&Tree.lj (bM.of [] (bI.mk gN gP gO gM gJ gL gK gI iH)))&&decide ((4 * bM.c7 (bM.of [] (bI.mk gN gP gO gM gJ gL gK gI iH))+1)<n+1))=true):FT cQ.d (cM tryzGl (cQ.env n)) [.ag [.i .i64 gN,.u64 gP,.u64 gO,.u64 gM,.s gJ,.s gL,.i .i64 gK,.sl .bs gI,.sl .fl iH]] [(.sl .bs (Dk.inner (bI.mk gN gP gO gM gJ gL gK gI iH) (Mp.lay (Db.map (Dk.mapped ((bI.mk gN gP gO gM gJ gL gK gI iH)).kids)))))] :=
 ⟨by kernel_rfl,Eq.trans (b:=cQ.F n (bI.mk gN gP gO gM gJ gL gK gI iH)) (by kernel_rfl) (Eq.trans (cQ.goal n (bI.mk gN gP gO gM gJ gL gK gI iH) hp) (by kernel_rfl))⟩
theorem IZ.sy:∀n:Nat,(KO 22 (cL.cn n) cL.sg)∧(KO 77 (fw.cn n) fw.sg)∧(KO 37 (de.cn n) de.sg)∧(KO 60 (cQ.cn n) cQ.sg):=by
 intro n
 induction n with
 | zero=>exact ⟨fA (by
   intro ti gZ h
   unfold cL.cn at h
   split at h
   ·obtain ⟨h,_⟩:=h;simp at h
   ·exact h.elim),fA (by
   intro ti gZ h
   unfold fw.cn at h
   split at h
   ·obtain ⟨h,_⟩:=h;simp at h
   ·exact h.elim),fA (by
   intro ti gZ h
   unfold de.cn at h
   split at h
   ·obtain ⟨h,_⟩:=h;simp at h
   ·exact h.elim),fA (by
   intro ti gZ h
   unfold cQ.cn at h
   split at h
   ·obtain ⟨h,_⟩:=h;simp at h
   ·exact h.elim)⟩
 | succ n ih =>
  obtain ⟨rD,Gb,Ib,Jm⟩:=ih
  exact ⟨meets (l:=cL.env n) (all_cons eW.ok (all_cons Ib all_nil)) (cL.dp n) (by
   intro ins outs h
   unfold cL.cn at h
   split at h
   ·obtain ⟨hp,rfl⟩:=h;exact cL.fit n _ hp
   ·exact h.elim),meets (l:=fw.env n) (all_cons rD (all_cons ez.ok all_nil)) (fw.dp n) (by
   intro ins outs h
   unfold fw.cn at h
   split at h
   ·obtain ⟨hp,rfl⟩:=h;exact fw.fit n _ hp
   ·exact h.elim),meets (l:=de.env n) (all_cons rD (all_cons eW.ok (all_cons Ib (all_cons bW.ok (all_cons fE.ok (all_cons eB.ok (all_cons dN.ok (all_cons fk.ok (all_cons Jm all_nil))))))))) (de.dp n) (by
   intro ins outs h
   unfold de.cn at h
   split at h
   ·obtain ⟨hp,rfl⟩:=h;exact de.fit n _ _ _ _ _ _ _ _ _ hp
   ·exact h.elim),meets (l:=cQ.env n) (all_cons fE.ok (all_cons Gb (all_cons dU.ok all_nil))) (cQ.dp n) (by
   intro ins outs h
   unfold cQ.cn at h
   split at h
   ·obtain ⟨hp,rfl⟩:=h;exact cQ.fit n _ _ _ _ _ _ _ _ _ hp
   ·exact h.elim)⟩
theorem cL.ok:KO 22 (cL.c) cL.sg:=ja fun ti gZ h=>by
 unfold cL.c at h
 split at h
 ·obtain ⟨hp,rfl⟩:=h;exact ⟨cL.cn (_+1),(IZ.sy _).1,bw.2 ⟨hp,aa (Nat.lt_succ_self _)⟩,rfl⟩
 ·exact h.elim
theorem fm.fit (gN:Int) (gP:UInt64) (gO:UInt64) (gM:UInt64) (gJ:bY) (gL:bY) (gK:Int) (gI:List UInt8) (iH:List bM) (hp:(decide (bM.c7 (bM.of [] (bI.mk gN gP gO gM gJ gL gK gI iH))≤1048576))=true):FT fm.d (cM tryzGl fm.env) [.ag [.i .i64 gN,.u64 gP,.u64 gO,.u64 gM,.s gJ,.s gL,.i .i64 gK,.sl .bs gI,.sl .fl iH]] [(.ag (Itv.cells (bG.val ((Dk.enc (bI.mk gN gP gO gM gJ gL gK gI iH)).1)))),(.ag (cX.cells ((Dk.enc (bI.mk gN gP gO gM gJ gL gK gI iH)).2)))] :=
 ⟨by kernel_rfl,Eq.trans (b:=fm.F (bI.mk gN gP gO gM gJ gL gK gI iH)) (by kernel_rfl) (Eq.trans (fm.goal (bI.mk gN gP gO gM gJ gL gK gI iH) hp) (by kernel_rfl))⟩
theorem fm.ok:KO 9 (fm.c) fm.sg :=
 meets (l:=fm.env) (all_cons dI.ok (all_cons cF.ok (all_cons cL.ok all_nil))) fm.dp (by
   intro ins outs h
   unfold fm.c at h
   split at h
   ·obtain ⟨hp,rfl⟩:=h;exact fm.fit _ _ _ _ _ _ _ _ _ hp
   ·exact h.elim)
theorem eP.fit (path:List Int) (hp:(decide ((path).length≤1099511627776))=true):FT eP.d (cM tryzGl eP.env) [.sl .is path] [(.ag (cX.cells ((cX.mk 12 0 path))))] :=
 ⟨by kernel_rfl,Eq.trans (b:=eP.F path) (by kernel_rfl) (Eq.trans (eP.goal path hp) (by kernel_rfl))⟩
theorem eP.ok:KO 27 (eP.c) eP.sg :=
 meets (l:=eP.env) (all_cons jF.ok all_nil) eP.dp (by
   intro ins outs h
   unfold eP.c at h
   split at h
   ·obtain ⟨hp,rfl⟩:=h;exact eP.fit _ hp
   ·exact h.elim)
theorem dT.fit (b:List UInt8) (hp:(decide ((b).length≤1099511627776))=true):FT dT.d (cM tryzGl dT.env) [.sl .bs b] [(.u64 (cT.be b))] :=
 ⟨by kernel_rfl,Eq.trans (b:=dT.F b) (by kernel_rfl) (Eq.trans (dT.goal b hp) (by kernel_rfl))⟩
theorem dT.ok:KO 85 (dT.c) dT.sg :=
 meets (l:=dT.env) all_nil dT.dp (by
   intro ins outs h
   unfold dT.c at h
   split at h
   ·obtain ⟨hp,rfl⟩:=h;exact dT.fit _ hp
   ·exact h.elim)
theorem eM.fit (b:List UInt8) (hp:(decide ((b).length≤1099511627776))=true):FT eM.d (cM tryzGl eM.env) [.sl .bs b] [(.b (ee.whole b))] :=
 ⟨by kernel_rfl,Eq.trans (b:=eM.F b) (by kernel_rfl) (Eq.trans (eM.goal b hp) (by kernel_rfl))⟩
theorem eM.ok:KO 86 (eM.c) eM.sg :=
 meets (l:=eM.env) (all_cons dD.ok all_nil) eM.dp (by
   intro ins outs h
   unfold eM.c at h
   split at h
   ·obtain ⟨hp,rfl⟩:=h;exact eM.fit _ hp
   ·exact h.elim)
theorem dz.fit (n:Nat) (gN:Int) (gP:UInt64) (gO:UInt64) (gM:UInt64) (gJ:bY) (gL:bY) (gK:Int) (gI:List UInt8) (l:List bG) (path:List Int) (within:Int) (hp:((decide ((Mp.eR l).length+(path).length≤536870912)&&decide (Mp.gf l=0∧(l).length % 2=0∧0≤within∧within≤200))&&decide ((4 * (Mp.eR l).length+3)<n+1))=true):FT dz.d (cM tryzGl (dz.env n)) [.ag [.i .i64 gN,.u64 gP,.u64 gO,.u64 gM,.s gJ,.s gL,.i .i64 gK,.sl .bs gI,.c (.slice none 0 0)],.sl .il l,.sl .is path,.i .i64 within] [(.ag (bI.cells (Db.iv.val (Db.fU.qf (bI.mk gN gP gO gM gJ gL gK gI []) (Dk.fields (200 - within).toNat l 0 path))))),(.ag (cX.cells (Db.iv.qQ (Db.fU.qf (bI.mk gN gP gO gM gJ gL gK gI []) (Dk.fields (200 - within).toNat l 0 path)))))] :=
 ⟨by kernel_rfl,Eq.trans (b:=dz.F n (bI.mk gN gP gO gM gJ gL gK gI []) l path within) (by kernel_rfl) (Eq.trans (dz.goal n (bI.mk gN gP gO gM gJ gL gK gI []) l path within hp) (by kernel_rfl))⟩
theorem cK.fit (n:Nat) (cg:Int) (cd:UInt64) (cB:List UInt8) (bZ:bY) (cC:List bG) (path:List Int) (within:Int) (hp:((decide ((Mp.lay (bG.of (Itv.mk cg cd cB bZ cC))).length+(path).length≤536870912)&&decide (Mp.dp (bG.of (Itv.mk cg cd cB bZ cC))=0∧0≤within∧within≤200))&&decide ((4 * (Mp.lay (bG.of (Itv.mk cg cd cB bZ cC))).length)<n+1))=true):FT cK.d (cM tryzGl (cK.env n)) [.ag [.i .i64 cg,.u64 cd,.sl .bs cB,.s bZ,.sl .il cC],.sl .is path,.i .i64 within] [(.ag (bI.cells (Db.iv.val (Dk.value (200 - within).toNat (bG.of (Itv.mk cg cd cB bZ cC)) path)))),(.ag (cX.cells (Db.iv.qQ (Dk.value (200 - within).toNat (bG.of (Itv.mk cg cd cB bZ cC)) path))))] :=
 ⟨by kernel_rfl,Eq.trans (b:=cK.F n (Itv.mk cg cd cB bZ cC) path within) (by kernel_rfl) (Eq.trans (cK.goal n (Itv.mk cg cd cB bZ cC) path within hp) (by kernel_rfl))⟩
theorem cj.fit (n:Nat) (cg:Int) (cd:UInt64) (cB:List UInt8) (bZ:bY) (cC:List bG) (within:Int) (hp:((decide (((Itv.mk cg cd cB bZ cC)).bytes.length≤536870912∧((Itv.mk cg cd cB bZ cC)).n≤127∧0≤within∧within≤200))&&decide ((4 * ((Itv.mk cg cd cB bZ cC)).bytes.length+2)<n+1))=true):FT cj.d (cM tryzGl (cj.env n)) [.ag [.i .i64 cg,.u64 cd,.sl .bs cB,.s bZ,.sl .il cC],.i .i64 within] [(.ag (bI.cells ((Dk.jE (200 - within).toNat ((Itv.mk cg cd cB bZ cC)).n ((Itv.mk cg cd cB bZ cC)).bytes).1))),(.b ((Dk.jE (200 - within).toNat ((Itv.mk cg cd cB bZ cC)).n ((Itv.mk cg cd cB bZ cC)).bytes).2))] :=
 ⟨by kernel_rfl,Eq.trans (b:=cj.F n (Itv.mk cg cd cB bZ cC) within) (by kernel_rfl) (Eq.trans (cj.goal n (Itv.mk cg cd cB bZ cC) within hp) (by kernel_rfl))⟩
theorem fv.fit (n:Nat) (gN:Int) (gP:UInt64) (gO:UInt64) (gM:UInt64) (gJ:bY) (gL:bY) (gK:Int) (gI:List UInt8) (b:List UInt8) (within:Int) (hp:((decide ((b).length≤536870912∧0≤within∧within<200))&&decide ((4 * (b).length+1)<n+1))=true):FT fv.d (cM tryzGl (fv.env n)) [.ag [.i .i64 gN,.u64 gP,.u64 gO,.u64 gM,.s gJ,.s gL,.i .i64 gK,.sl .bs gI,.c (.slice none 0 0)],.sl .bs b,.i .i64 within] [(.ag (bI.cells ((Dk.kK (199 - within).toNat (bI.mk gN gP gO gM gJ gL gK gI []) b).1))),(.b ((Dk.kK (199 - within).toNat (bI.mk gN gP gO gM gJ gL gK gI []) b).2))] :=
 ⟨by kernel_rfl,Eq.trans (b:=fv.F n (bI.mk gN gP gO gM gJ gL gK gI []) b within) (by kernel_rfl) (Eq.trans (fv.goal n (bI.mk gN gP gO gM gJ gL gK gI []) b within hp) (by kernel_rfl))⟩
theorem E9.sy:∀n:Nat,(KO 28 (dz.cn n) dz.sg)∧(KO 44 (cK.cn n) cK.sg)∧(KO 70 (cj.cn n) cj.sg)∧(KO 84 (fv.cn n) fv.sg):=by
 intro n
 induction n with
 | zero=>exact ⟨fA (by
   intro ti gZ h
   unfold dz.cn at h
   split at h
   ·obtain ⟨h,_⟩:=h;simp at h
   ·exact h.elim),fA (by
   intro ti gZ h
   unfold cK.cn at h
   split at h
   ·obtain ⟨h,_⟩:=h;simp at h
   ·exact h.elim),fA (by
   intro ti gZ h
   unfold cj.cn at h
   split at h
   ·obtain ⟨h,_⟩:=h;simp at h
   ·exact h.elim),fA (by
   intro ti gZ h
   unfold fv.cn at h
   split at h
   ·obtain ⟨h,_⟩:=h;simp at h
   ·exact h.elim)⟩
 | succ n ih =>
  obtain ⟨rD,Gb,Ib,Jm⟩:=ih
  exact ⟨meets (l:=dz.env n) (all_cons eP.ok (all_cons dc.ok (all_cons Gb all_nil))) (dz.dp n) (by
   intro ins outs h
   unfold dz.cn at h
   split at h
   ·obtain ⟨hp,rfl⟩:=h;exact dz.fit n _ _ _ _ _ _ _ _ _ _ _ hp
   ·exact h.elim),meets (l:=cK.env n) (all_cons eP.ok (all_cons rD (all_cons Gb (all_cons fE.ok (all_cons kG.ok (all_cons Ib all_nil)))))) (cK.dp n) (by
   intro ins outs h
   unfold cK.cn at h
   split at h
   ·obtain ⟨hp,rfl⟩:=h;exact cK.fit n _ _ _ _ _ _ _ hp
   ·exact h.elim),meets (l:=cj.env n) (all_cons dc.ok (all_cons bW.ok (all_cons fE.ok (all_cons Jm (all_cons dT.ok (all_cons eM.ok (all_cons fP.ok all_nil))))))) (cj.dp n) (by
   intro ins outs h
   unfold cj.cn at h
   split at h
   ·obtain ⟨hp,rfl⟩:=h;exact cj.fit n _ _ _ _ _ _ hp
   ·exact h.elim),meets (l:=fv.env n) (all_cons rD (all_cons eA.ok all_nil)) (fv.dp n) (by
   intro ins outs h
   unfold fv.cn at h
   split at h
   ·obtain ⟨hp,rfl⟩:=h;exact fv.fit n _ _ _ _ _ _ _ _ _ _ hp
   ·exact h.elim)⟩
theorem dz.ok:KO 28 (dz.c) dz.sg:=ja fun ti gZ h=>by
 unfold dz.c at h
 split at h
 ·obtain ⟨hp,rfl⟩:=h;exact ⟨dz.cn (_+1),(E9.sy _).1,bw.2 ⟨hp,aa (Nat.lt_succ_self _)⟩,rfl⟩
 ·exact h.elim
theorem eD.fit (cg:Int) (cd:UInt64) (cB:List UInt8) (bZ:bY) (cC:List bG) (hp:(decide (bG.c7 (bG.of (Itv.mk cg cd cB bZ cC))≤1048576))=true):FT eD.d (cM tryzGl eD.env) [.ag [.i .i64 cg,.u64 cd,.sl .bs cB,.s bZ,.sl .il cC]] [(.ag (bI.cells ((Dk.dec (bG.of (Itv.mk cg cd cB bZ cC))).1))),(.ag (cX.cells ((Dk.dec (bG.of (Itv.mk cg cd cB bZ cC))).2)))] :=
 ⟨by kernel_rfl,Eq.trans (b:=eD.F (Itv.mk cg cd cB bZ cC)) (by kernel_rfl) (Eq.trans (eD.goal (Itv.mk cg cd cB bZ cC) hp) (by kernel_rfl))⟩
theorem eD.ok:KO 14 (eD.c) eD.sg :=
 meets (l:=eD.env) (all_cons cW.ok (all_cons eP.ok (all_cons dz.ok all_nil))) eD.dp (by
   intro ins outs h
   unfold eD.c at h
   split at h
   ·obtain ⟨hp,rfl⟩:=h;exact eD.fit _ _ _ _ _ hp
   ·exact h.elim)
theorem c9.fit (p:List Int) (k:Int) (hp:(decide (p.length≤1099511627776))=true):FT c9.d (cM tryzGl c9.env) [.sl .is p,.i .i64 k] [(.sl .is ((p++[k])))] :=
 ⟨by kernel_rfl,Eq.trans (b:=c9.F p k) (by kernel_rfl) (Eq.trans (c9.goal p k hp) (by kernel_rfl))⟩
theorem c9.ok:KO 47 (c9.c) c9.sg :=
 meets (l:=c9.env) all_nil c9.dp (by
   intro ins outs h
   unfold c9.c at h
   split at h
   ·obtain ⟨hp,rfl⟩:=h;exact c9.fit _ _ hp
   ·exact h.elim)
theorem dE.fit (n:Nat) (b:List UInt8) (within:Int) (hp:((decide ((b).length≤536870912∧0≤within∧within<200))&&decide ((4 * (b).length+1)<n+1))=true):FT dE.d (cM tryzGl (dE.env n)) [.sl .bs b,.i .i64 within] [(.sl .fl ((Dk.tX (199 - within).toNat b).getD [])),(.b ((Dk.tX (199 - within).toNat b).isSome))] :=
 ⟨by kernel_rfl,Eq.trans (b:=dE.F n b within) (by kernel_rfl) (Eq.trans (dE.goal n b within hp) (by kernel_rfl))⟩
theorem bD.fit (n:Nat) (k:Int) (b:List UInt8) (within:Int) (hp:((decide ((b).length≤536870912∧0≤k∧k≤127∧0≤within∧within<200))&&decide ((4 * (b).length+2)<n+1))=true):FT bD.d (cM tryzGl (bD.env n)) [.i .i64 k,.sl .bs b,.i .i64 within] [(.ag (bI.cells ((Dk.lD (199 - within).toNat k b).1))),(.b ((Dk.lD (199 - within).toNat k b).2))] :=
 ⟨by kernel_rfl,Eq.trans (b:=bD.F n k b within) (by kernel_rfl) (Eq.trans (bD.goal n k b within hp) (by kernel_rfl))⟩
theorem bP.fit (n:Nat) (cg:Int) (cd:UInt64) (cB:List UInt8) (bZ:bY) (cC:List bG) (p:List Int) (within:Int) (hp:((decide ((Mp.eR ((Itv.mk cg cd cB bZ cC)).kids).length+(p).length≤536870912)&&decide (Mp.gf ((Itv.mk cg cd cB bZ cC)).kids=0∧((Itv.mk cg cd cB bZ cC)).kids.length % 2=0∧0≤within∧within≤200))&&decide ((4 * (Mp.eR ((Itv.mk cg cd cB bZ cC)).kids).length+3)<n+1))=true):FT bP.d (cM tryzGl (bP.env n)) [.ag [.i .i64 cg,.u64 cd,.sl .bs cB,.s bZ,.sl .il cC],.sl .is p,.i .i64 within] [(.sl .fl (Db.fU.Es (Dk.fields (200 - within).toNat ((Itv.mk cg cd cB bZ cC)).kids 0 p))),(.ag (cX.cells (Db.fU.qQ (Dk.fields (200 - within).toNat ((Itv.mk cg cd cB bZ cC)).kids 0 p))))] :=
 ⟨by kernel_rfl,Eq.trans (b:=bP.F n (Itv.mk cg cd cB bZ cC) p within) (by kernel_rfl) (Eq.trans (bP.goal n (Itv.mk cg cd cB bZ cC) p within hp) (by kernel_rfl))⟩
theorem bN.fit (n:Nat) (cg:Int) (cd:UInt64) (cB:List UInt8) (bZ:bY) (cC:List bG) (p:List Int) (within:Int) (hp:((decide ((Mp.lay (bG.of (Itv.mk cg cd cB bZ cC))).length+(p).length≤536870912)&&decide (Mp.dp (bG.of (Itv.mk cg cd cB bZ cC))=0∧0≤within∧within≤200))&&decide ((4 * (Mp.lay (bG.of (Itv.mk cg cd cB bZ cC))).length)<n+1))=true):FT bN.d (cM tryzGl (bN.env n)) [.ag [.i .i64 cg,.u64 cd,.sl .bs cB,.s bZ,.sl .il cC],.sl .is p,.i .i64 within] [(.ag (bI.cells (Db.iv.val (Dk.value (200 - within).toNat (bG.of (Itv.mk cg cd cB bZ cC)) p)))),(.ag (cX.cells (Db.iv.qQ (Dk.value (200 - within).toNat (bG.of (Itv.mk cg cd cB bZ cC)) p))))] :=
 ⟨by kernel_rfl,Eq.trans (b:=bN.F n (Itv.mk cg cd cB bZ cC) p within) (by kernel_rfl) (Eq.trans (bN.goal n (Itv.mk cg cd cB bZ cC) p within hp) (by kernel_rfl))⟩
theorem BC.sy:∀n:Nat,(KO 90 (dE.cn n) dE.sg)∧(KO 74 (bD.cn n) bD.sg)∧(KO 30 (bP.cn n) bP.sg)∧(KO 48 (bN.cn n) bN.sg):=by
 intro n
 induction n with
 | zero=>exact ⟨fA (by
   intro ti gZ h
   unfold dE.cn at h
   split at h
   ·obtain ⟨h,_⟩:=h;simp at h
   ·exact h.elim),fA (by
   intro ti gZ h
   unfold bD.cn at h
   split at h
   ·obtain ⟨h,_⟩:=h;simp at h
   ·exact h.elim),fA (by
   intro ti gZ h
   unfold bP.cn at h
   split at h
   ·obtain ⟨h,_⟩:=h;simp at h
   ·exact h.elim),fA (by
   intro ti gZ h
   unfold bN.cn at h
   split at h
   ·obtain ⟨h,_⟩:=h;simp at h
   ·exact h.elim)⟩
 | succ n ih =>
  obtain ⟨rD,Gb,Ib,Jm⟩:=ih
  exact ⟨meets (l:=dE.env n) (all_cons Ib (all_cons cH.ok all_nil)) (dE.dp n) (by
   intro ins outs h
   unfold dE.cn at h
   split at h
   ·obtain ⟨hp,rfl⟩:=h;exact dE.fit n _ _ hp
   ·exact h.elim),meets (l:=bD.env n) (all_cons dC.ok (all_cons bU.ok (all_cons df.ok (all_cons rD (all_cons cV.ok all_nil))))) (bD.dp n) (by
   intro ins outs h
   unfold bD.cn at h
   split at h
   ·obtain ⟨hp,rfl⟩:=h;exact bD.fit n _ _ _ hp
   ·exact h.elim),meets (l:=bP.env n) (all_cons cU.ok (all_cons c9.ok (all_cons Jm all_nil))) (bP.dp n) (by
   intro ins outs h
   unfold bP.cn at h
   split at h
   ·obtain ⟨hp,rfl⟩:=h;exact bP.fit n _ _ _ _ _ _ _ hp
   ·exact h.elim),meets (l:=bN.env n) (all_cons Ib (all_cons c9.ok (all_cons Jm (all_cons dM.ok (all_cons cD.ok (all_cons Gb all_nil)))))) (bN.dp n) (by
   intro ins outs h
   unfold bN.cn at h
   split at h
   ·obtain ⟨hp,rfl⟩:=h;exact bN.fit n _ _ _ _ _ _ _ hp
   ·exact h.elim)⟩
theorem bP.ok:KO 30 (bP.c) bP.sg:=ja fun ti gZ h=>by
 unfold bP.c at h
 split at h
 ·obtain ⟨hp,rfl⟩:=h;exact ⟨bP.cn (_+1),(BC.sy _).2.2.1,bw.2 ⟨hp,aa (Nat.lt_succ_self _)⟩,rfl⟩
 ·exact h.elim
theorem dB.fit (cg:Int) (cd:UInt64) (cB:List UInt8) (bZ:bY) (cC:List bG) (hp:(decide (bG.c7 (bG.of (Itv.mk cg cd cB bZ cC))≤1048576))=true):FT dB.d (cM tryzGl dB.env) [.ag [.i .i64 cg,.u64 cd,.sl .bs cB,.s bZ,.sl .il cC]] [(.ag (bI.cells ((Dk.dec (bG.of (Itv.mk cg cd cB bZ cC))).1))),(.ag (cX.cells ((Dk.dec (bG.of (Itv.mk cg cd cB bZ cC))).2)))] :=
 ⟨by kernel_rfl,Eq.trans (b:=dB.F (Itv.mk cg cd cB bZ cC)) (by kernel_rfl) (Eq.trans (dB.goal (Itv.mk cg cd cB bZ cC) hp) (by kernel_rfl))⟩
theorem dB.ok:KO 15 (dB.c) dB.sg :=
 meets (l:=dB.env) (all_cons bX.ok (all_cons bP.ok all_nil)) dB.dp (by
   intro ins outs h
   unfold dB.c at h
   split at h
   ·obtain ⟨hp,rfl⟩:=h;exact dB.fit _ _ _ _ _ hp
   ·exact h.elim)
theorem dn.fit:([]:List TV).length=dn.d.np∧dn.d.run (cM tryzGl dn.env) []=some (([(.b (true))]:List TV)++dn.d.ps.toList.map fun q=>([]:List TV).getD q.1 .dead) :=
 ⟨by kernel_rfl,Eq.trans (b:=dn.F ) (by kernel_rfl) (Eq.trans (dn.goal ) (by kernel_rfl))⟩
theorem dn.ok:KO 7 (dn.c) dn.sg :=
 meets (l:=dn.env) (all_cons fm.ok (all_cons eD.ok all_nil)) dn.dp (by
   intro ins outs h
   unfold dn.c at h
   split at h
   ·cases h;exact dn.fit
   ·exact h.elim)
end Go.Eng
namespace Go.Eng
open Go.IntWalk
theorem xr:∀(k n:Nat),n<10 ^ (k+1)→(kP n).length≤k+1
 | 0,n,h=>by rw [vC (by simpa using h)];simp
 | k+1,n,h=>by
  by_cases a:n<10
  ·rw [vC a];simp
  ·have:=xr k (n / 10) (by rw [Nat.pow_succ] at h;omega)
   rw [zY a,aw,aK];omega
end Go.Eng
namespace Go.Eng
open Go.IntWalk
namespace Dk
open Db (iv fU)
def iF (v:bI):Nat:=bM.c7 (bM.of [] v)
theorem sZ (n:bY) (v:bI):bM.c7 (bM.of n v)=n.length+iF v:=by
 cases v;simp only [iF,bM.of,bM.c7,aA];omega
theorem gR (k:Int) (b h l:UInt64) (t m:bY) (s:Int) (y:List UInt8) (ks:List bM):iF ⟨k,b,h,l,t,m,s,y,ks⟩=1+t.length+m.length+y.length+bM.db ks:=by
 simp only [iF,bM.of,bM.c7,aA]
theorem C4 {g:fU} {w v:bI} (h:g.qf w = .ok v):∃l,g = .ok l∧v={ w with kids:=l }:=by
 cases g with
 | ok l=>exact ⟨l,rfl,by injection h with h;exact h.symm⟩
 | bad p=>cases h
theorem zO {g:fU} {w:bI} {q:List Int} (h:g.qf w = .bad q):g = .bad q:=by
 cases g with
 | ok l=>cases h
 | bad p=>injection h with h;rw [h]
theorem Ay {k:Int} {n:UInt64} {b t:bY} {v:bI} (h:Db.leaf k n b t=some v):iF v≤1+b.length+t.length:=by
 unfold Db.leaf at h
 split at h
 ·injection h with h;subst h;rw [gR];simp only [aA,bM.db];omega
 split at h
 ·injection h with h;subst h;rw [gR];simp only [aA,bM.db];omega
 split at h
 ·injection h with h;subst h;rw [gR];simp only [aA,bM.db];omega
 split at h
 ·injection h with h;subst h
  split
  ·rw [gR];simp only [aA,bM.db];omega
  split
  ·rw [gR];simp only [aA,bM.db];omega
  ·rw [gR];simp only [aA,bM.db];omega
 split at h
 ·injection h with h;subst h;unfold Db.half;rw [gR];simp only [aA,bM.db];omega
 ·cases h
theorem Hx (k:Int) (n:UInt64) (b t:bY) (ks:List bG):1+b.length+t.length+(Mp.eR ks).length≤(Mp.lay (.mk k n b t ks)).length:=(Mp.jc (.mk k n b t ks)).2
mutual
theorem nL (E:UInt64→bY→bI × Bool) (hE:∀n b,b.length≤600000000→iF (E n b).1≤24 * b.length+4):∀(x:bG) (p:List Int) (v:bI),lX E x p = .ok v→(Mp.lay x).length≤600000000→iF v+20≤24 * (Mp.lay x).length
 | .mk k n b t ks,p,v,h,hb=>by
  have hl:=Hx k n b t ks
  rw [lX] at h
  split at h
  ·obtain ⟨l,EZ,rfl⟩:=C4 h
   have:=nj E hE ks 0 p l EZ (by omega)
   rw [Db.doc,gR];simp only [aA];omega
  split at h
  ·obtain ⟨l,EZ,rfl⟩:=C4 h
   have:=ru E hE ks 0 p l EZ (by omega) (by have:=Mp.iA ks;omega)
   rw [Db.doc,gR];simp only [aA];omega
  split at h
  ·have:=hE n b (by omega)
   cases h2:(E n b).2
   ·rw [h2,aj (by decide)] at h;cases h
   ·rw [h2,aq rfl] at h
    injection h with h;subst h;omega
  ·cases EZ:Db.leaf k n b t with
   | none=>rw [EZ] at h;cases h
   | some w =>
    rw [EZ] at h
    have h:w=v:=by injection h
    subst h
    have:=Ay EZ
    omega
theorem nj (E:UInt64→bY→bI × Bool) (hE:∀n b,b.length≤600000000→iF (E n b).1≤24 * b.length+4):∀(l:List bG) (i:Nat) (p:List Int) (ks:List bM),iq E l i p = .ok ks→(Mp.eR l).length≤600000000→bM.db ks≤24 * (Mp.eR l).length
 | [],i,p,ks,h,_=>by rw [iq] at h;injection h with h;subst h;exact Nat.zero_le _
 | [_],i,p,ks,h,_=>by rw [iq] at h;cases h
 | k :: x :: r,i,p,ks,h,hb=>by
  rw [iq] at h
  simp only [Mp.eR,aw] at hb ⊢
  split at h
  ·cases h
  split at h
  ·cases h
  rename_i v hv
  split at h
  ·cases h
  rename_i l hl
  injection h with h;subst h
  have h1:=nL E hE x _ v hv (by omega)
  have h2:=nj E hE r _ p l hl (by omega)
  have h3:=(Mp.jc k).2
  simp only [bM.db,sZ];omega
theorem ru (E:UInt64→bY→bI × Bool) (hE:∀n b,b.length≤600000000→iF (E n b).1≤24 * b.length+4):∀(l:List bG) (i:Nat) (p:List Int) (ks:List bM),kz E l i p = .ok ks→(Mp.eR l).length≤600000000→i+l.length≤600000000→bM.db ks≤24 * (Mp.eR l).length
 | [],i,p,ks,h,_,_=>by rw [kz] at h;injection h with h;subst h;exact Nat.zero_le _
 | x :: r,i,p,ks,h,hb,hi=>by
  rw [kz] at h
  simp only [Mp.eR,aw] at hb ⊢
  simp only [aL] at hi
  split at h
  ·cases h
  rename_i v hv
  split at h
  ·cases h
  rename_i l hl
  injection h with h;subst h
  have h1:=nL E hE x _ v hv (by omega)
  have h2:=ru E hE r _ p l hl (by omega) (by omega)
  have h3:=xr 19 i (by omega)
  simp only [bM.db,sZ];omega
end
theorem oo:iF Db.zero=1:=rfl
theorem De (k:Int) (t:bY) (l:List bM):iF { Db.doc k t with kids:=l }=1+t.length+bM.db l:=by rw [Db.doc,gR];simp only [aA];omega
theorem xV (E:UInt64→bY→bI × Bool) (hE:∀n b,b.length≤600000000→iF (E n b).1≤24 * b.length+4) (k:Int) (t c:bY) (hc:c.length≤600000000):iF (zf E (Db.doc k t) c).1≤1+t.length+24 * c.length:=by
 unfold zf Ia
 by_cases a:(Mp.dec c 1000).2.err≠0∨(Mp.dec c 1000).1.kind≠6
 ·rw [aq a];show iF Db.zero≤_;rw [oo];omega
 rw [aj a]
 simp only [not_or,Classical.not_not,ne_eq] at a
 have hd:=rT a.1 a.2
 cases hf:iq E (Mp.dec c 1000).1.kids 0 [] with
 | bad q=>show iF Db.zero≤_;rw [oo];omega
 | ok l =>
  have:=nj E hE _ 0 [] l hf (by omega)
  show iF { Db.doc k t with kids:=l }≤_
  rw [De];omega
theorem Fa (s:bY) (c:UInt8):(cut s c).1.length+(cut s c).2.1.length≤s.length:=by
 unfold cut
 split
 ·have:=ng s c
  simp only [bh,aS];omega
 ·simp
theorem AR (R:bI→bY→bI × Bool) (hR:∀k t c,c.length≤600000000→iF (R (Db.doc k t) c).1≤1+t.length+24 * c.length) (k:Int) (b:bY) (hb:b.length≤600000000):iF (mS R k b).1≤24 * b.length+4:=by
 have hd:∀(k:Int) (t:bY),iF (Db.doc k t)=1+t.length:=fun k t=>by rw [Db.doc,gR];simp only [aA,bM.db];omega
 have hc:=Fa b 0
 unfold mS
 split
 ·have:=hR 4 [] b hb
  simp only [aA] at this;show iF (R (Db.doc 4 []) b).1≤_;omega
 split
 ·split
  ·rw [oo];omega
  ·rename_i h
   have:=hR 15 (kI b) (b.drop (4+hU b)) (by rw [aS];omega)
   have h2:(kI b).length≤hU b:=by unfold kI;rw [bh];omega
   rw [aS] at this
   show iF (R (Db.doc 15 (kI b)) (b.drop (4+hU b))).1≤_
   omega
 split
 ·split
  ·rw [gR];simp only [aA,bM.db,aS];omega
  ·rw [hd];simp only [aA];omega
 split
 ·rw [gR];simp only [aA,bM.db];omega
 split
 ·rw [gR];simp only [aA,bM.db];omega
 split
 ·rw [gR];simp only [aA,bM.db];omega
 split
 ·split
  ·rw [gR];simp only [aA,bM.db,aS,bh];omega
  ·rw [hd];simp only [aA];omega
 split
 ·rw [hd];omega
 split
 ·split
  ·rw [gR];simp only [aA,bM.db];omega
  ·rw [hd];simp only [aA];omega
 split
 ·rw [hd];simp only [aA];omega
 ·rw [hd];simp only [aA];omega
theorem ui:∀(d:Nat) (n:UInt64) (b:bY),b.length≤600000000→iF (jE d n b).1≤24 * b.length+4
 | 0,n,b,_=>by show iF Db.zero≤_;rw [oo];omega
 | d+1,n,b,hb=>AR _ (fun k t c hc=>xV (jE d) (ui d) k t c hc) (kindOf n) b hb
theorem Dm (it:bG) (hb:bG.c7 it≤1500):iF (dec it).1≤600000:=by
 have hl:=Mp.oz it
 unfold dec
 split
 ·show iF Db.zero≤_;decide
 split
 ·show iF Db.zero≤_;decide
 ·show iF (value 200 it []).val≤_
  cases hv:value 200 it [] with
  | bad q=>show iF Db.zero≤_;decide
  | ok v =>
   have:=nL (jE 200) (ui 200) it [] v hv (by omega)
   show iF v≤_
   omega
mutual
theorem pj (E:UInt64→bY→bI × Bool):∀(x:bG) (p q:List Int),lX E x p = .bad q→q.length≤p.length+bG.c7 x
 | .mk k n b t ks,p,q,h=>by
  simp only [bG.c7]
  rw [lX] at h
  split at h
  ·have:=rr E ks 0 p q (zO h);omega
  split at h
  ·have:=sU E ks 0 p q (zO h);omega
  split at h
  ·unfold Db.opt at h
   split at h
   ·cases h
   ·injection h with h;subst h;omega
  ·unfold Db.opt at h
   split at h
   ·cases h
   ·injection h with h;subst h;omega
theorem rr (E:UInt64→bY→bI × Bool):∀(l:List bG) (i:Nat) (p q:List Int),iq E l i p = .bad q→q.length≤p.length+1+bG.db l
 | [],i,p,q,h=>by rw [iq] at h;cases h
 | [_],i,p,q,h=>by rw [iq] at h;injection h with h;subst h;simp only [aw,aK];omega
 | k :: x :: r,i,p,q,h=>by
  rw [iq] at h
  simp only [bG.db]
  split at h
  ·injection h with h;subst h;simp only [aw,aK];omega
  split at h
  ·rename_i q' hv
   injection h with h;subst h
   have:=pj E x _ _ hv
   simp only [aw,aK] at this;omega
  split at h
  ·rename_i q' hl
   injection h with h;subst h
   have:=rr E r _ p _ hl;omega
  ·cases h
theorem sU (E:UInt64→bY→bI × Bool):∀(l:List bG) (i:Nat) (p q:List Int),kz E l i p = .bad q→q.length≤p.length+1+bG.db l
 | [],i,p,q,h=>by rw [kz] at h;cases h
 | x :: r,i,p,q,h=>by
  rw [kz] at h
  simp only [bG.db]
  split at h
  ·rename_i q' hv
   injection h with h;subst h
   have:=pj E x _ _ hv
   simp only [aw,aK] at this;omega
  split at h
  ·rename_i q' hl
   injection h with h;subst h
   have:=sU E r _ p _ hl;omega
  ·cases h
end
theorem Dj (it:bG):(dec it).2.path.length≤bG.c7 it:=by
 unfold dec
 split
 ·simp
 split
 ·simp
 ·cases hv:value 200 it [] with
  | ok v=>show ([]:List Int).length≤_;simp
  | bad q =>
   have:=pj (jE 200) it [] q hv
   show q.length≤_
   simpa using this
end Dk
end Go.Eng
namespace Go.Eng
noncomputable section
def DocpackValues.sg:dw:={}
def DocpackValues.c:eZ:=fun l=>match l with
 | [.ag [.i .i64 cg,.u64 cd,.sl .bs cB,.s bZ,.sl .il cC]] => .ok [(.b (true))]
 | _ => .err
def DocpackValues.env:EV:=[(7,(dn.c,dn.sg)),(11,(eo.c,eo.sg)),(13,(cR.c,cR.sg)),(14,(eD.c,eD.sg)),(15,(dB.c,dB.sg)),(16,(cA.c,cA.sg))]
def DocpackValues.E:eg:=cM tryzGl DocpackValues.env
def DocpackValues.m:TM:=oS [oK (.k (.bx 1030)) [0,1030] [1,1030],oW (.b false) 2] (.seq (oS [oC 7 0 1 [] 7,oK (.k (.un .not)) [7] [8]] (.cond (.s 8) [] (oS [oW (.b false) 2] .ret) .skip)) none (.seq (oS [oM 1030 0 5 1 9,oC 13 1 1 [9] 10,oK (.k (.un .not)) [10] [11]] (.cond (.s 11) [] (oS [oW (.b true) 2] .ret) .skip)) none (oS [oM 1030 0 5 1 13,oC 14 1 2 [13] 14,oV 14 12,oE 0 12 15,oE 1 12 16,oN 1031 zV 3,oN 1032 zT 4,oT 1031 0 9 3 15,oT 1032 0 3 4 16] (oS [oM 1030 0 5 1 18,oC 15 1 2 [18] 19,oV 19 17,oE 0 17 20,oE 1 17 21,oN 1033 zV 5,oN 1034 zT 6,oT 1033 0 9 5 20,oT 1034 0 3 6 21] (oS [oM 1032 0 3 4 22,oM 1034 0 3 6 23,oC 11 2 1 [22,23] 24,oV 24 25,oG 25 true (oM 1031 0 9 3 26),oG 25 true (oM 1033 0 9 5 27),oG 25 true (oC 16 2 1 [26,27] 28),oP 25 28 false 29,oV 29 2] .ret)))))
def DocpackValues.d:gn:=D0 1 DocpackValues.m [.t 2]
def DocpackValues.F (it:Itv):OT:=DocpackValues.d.run DocpackValues.E [(.ag (Itv.cells it))]
theorem DocpackValues.dQ (it:Itv) {ρ:OT} (K:∀(v1:Bool) (h1:v1=(decide ((((Dk.dec (bG.of it)).2)).err=(((Dk.dec (bG.of it)).2)).err∧(((Dk.dec (bG.of it)).2)).at_=(((Dk.dec (bG.of it)).2)).at_∧(((Dk.dec (bG.of it)).2)).path=(((Dk.dec (bG.of it)).2)).path))) (v2:Bool) (h2:v2=(Tree.same ((Dk.dec (bG.of it)).1) ((Dk.dec (bG.of it)).1))),cond (!(true))
  (some [(.b false)])
  (cond (!(decide (0≤bG.room 1500 (bG.of it))))
  (some [(.b true)])
  (ck (decide (bG.c7 (bG.of it)≤1048576)) (ck (decide (bG.c7 (bG.of it)≤1048576)) (ck (decide ((((Dk.dec (bG.of it)).2)).path.length≤1099511627776)) (ck (!v1 || ((v1&&v1)&&(decide (bM.c7 (bM.of [] ((Dk.dec (bG.of it)).1))≤1099511627776)))) (ck (!v1 || v1) (some [(.b (cond v1 v2 false))])))))))=ρ):DocpackValues.F it=ρ:=Eq.trans (by kernel_rfl) (K _ rfl _ rfl)
theorem DocpackValues.dp:CK 4 DocpackValues.env DocpackValues.d:=eH (by kernel_rfl)
end
end Go.Eng
namespace Go.Eng
open Go.IntWalk
theorem DocpackValues.goal (it:Itv):DocpackValues.F it=some [.b true]:=by
 refine DocpackValues.dQ it ?_
 intro v1 h1 v2 h2
 rw [aR,ah]
 by_cases a:0≤bG.room 1500 (bG.of it)
 ·have hb:=bG.xT _ a
  have h3:bM.c7 (bM.of [] (Dk.dec (bG.of it)).1)≤_:=Dk.Dm (bG.of it) hb
  have h4:=Dk.Dj (bG.of it)
  rw [(Tree.pQ _ _).2 rfl] at h2
  have IN:v1=true:=by rw [h1];exact aa ⟨rfl,rfl,rfl⟩
  rw [aa a,aR,ah,bL (aa (by omega)),bL (aa (by omega)),bL (aa (by omega)),IN,h2,bL (by rw [aa (show bM.c7 (bM.of [] (Dk.dec (bG.of it)).1)≤1099511627776 by omega)];rfl)]
  rfl
 ·rw [ae a];rfl
end Go.Eng
namespace Go.Eng
theorem DocpackValues.fit (cg:Int) (cd:UInt64) (cB:List UInt8) (bZ:bY) (cC:List bG):FT DocpackValues.d (cM tryzGl DocpackValues.env) [.ag [.i .i64 cg,.u64 cd,.sl .bs cB,.s bZ,.sl .il cC]] [(.b (true))] :=
 ⟨by kernel_rfl,Eq.trans (b:=DocpackValues.F (Itv.mk cg cd cB bZ cC)) (by kernel_rfl) (Eq.trans (DocpackValues.goal (Itv.mk cg cd cB bZ cC)) (by kernel_rfl))⟩
theorem DocpackValues.ok:KO 4 (DocpackValues.c) DocpackValues.sg :=
 meets (l:=DocpackValues.env) (all_cons dn.ok (all_cons eo.ok (all_cons cR.ok (all_cons eD.ok (all_cons dB.ok (all_cons cA.ok all_nil)))))) DocpackValues.dp (by
   intro ins outs h
   unfold DocpackValues.c at h
   split at h
   ·cases h;exact DocpackValues.fit _ _ _ _ _
   ·exact h.elim)
end Go.Eng
