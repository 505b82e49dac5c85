/- Texts of my own, one behind the other: DkUtfP, DkT1, DkT2, DkT3, DkT4, DkRegP, DkBookP, DkMp, DkR1, DkDb, DkR2, DkMR1, DkMR2, DkMR3, DkMR4, DkR3, DkP1, DkP2, DkP3, DkP4, DkP5. -/
import Derived.Test.YtoadlhkggdbfkaaGreatDoorT4
set_option linter.unusedVariables false
set_option linter.unusedSimpArgs false
namespace Go.Eng
open Go.IntWalk
theorem fO.goal (r:Int):fO.F r=some [.b (ee.kx r)]:=by
 refine fO.dQ r ?_
 intro v1 h1 v2 h2 v3 h3
 subst h1 h2 h3
 by_cases a:0≤r <;> by_cases b:r≤1114111 <;> by_cases c:r<55296 <;> simp [ck,a,b,c,ee.kx]
theorem Jc:∀n,n<256→((n &&& 192=128) ↔ (128≤n∧n<192)):=by decide +kernel
theorem L7:∀n,n<256→(128≤n∧n<192)→n &&& 63=n - 128:=by decide +kernel
theorem L8:∀n,n<256→(192≤n∧n<224)→n &&& 31=n - 192:=by decide +kernel
theorem L9:∀n,n<256→(224≤n∧n<240)→n &&& 15=n - 224:=by decide +kernel
theorem Pf:∀n,n<256→(240≤n∧n<248)→n &&& 7=n - 240:=by decide +kernel
theorem Bg (c:UInt8):c.toNat<256:=by have:=c.toNat_lt;simpa using this
theorem AW (c:UInt8):decide ((c &&& (192:UInt8))=(128:UInt8))=decide (128≤c.toNat∧c.toNat<192):=by
 have h:=Jc c.toNat (Bg c)
 rw [bm]
 simp only [az]
 rw [←h,←UInt8.toNat_inj,UInt8.toNat_and]
 exact Iff.rfl
theorem Nx (c:UInt8) (h:128≤c.toNat∧c.toNat<192):((c &&& (63:UInt8)).toNat:Int)=((c.toNat - 128:Nat):Int):=by
 rw [UInt8.toNat_and]
 exact congrArg _ (L7 c.toNat (Bg c) h)
def tg (r:Option Nat) (more least:Nat):OT:=match r with
 | some r=>if r<least∨ee.kx r=false then some [.i .i64 0,.i .i64 0] else some [.i .i64 r,.i .i64 (more+1:Int)]
 | none=>some [.i .i64 0,.i .i64 0]
theorem zp (c:Nat) (more least:Nat) (l:bY):tg (ee.cont c more l) more least=some [.i .i64 (ee.mL c more least l).1,.i .i64 (ee.mL c more least l).2]:=by
 unfold tg ee.mL
 cases ee.cont c more l with
 | none=>rfl
 | some r=>simp only;split <;> rfl
theorem bR.end_ (r:Nat) (more least:Nat) (hm:more<8) :
  (ck (!(!(decide ((r:Int)<(least:Int)))) || (!(decide ((r:Int)<(least:Int))))) (ck (!(!(decide ((r:Int)<(least:Int)))) || (!(decide ((r:Int)<(least:Int))))) (ck ((decide ((r:Int)<(least:Int))) || (!(decide ((r:Int)<(least:Int))))) (cond (cond (decide ((r:Int)<(least:Int))) true (!(ee.kx r)))
  (bR.l1)
  (some [(.i .i64 (r:Int)),(.i .i64 (IntKind.i64.wrap ((more:Int)+(1:Int))))])))))=tg (some r) more least:=by
 simp only [aG,bB,cI]
 rw [i64_in _ (by omega),bR.tQ]
 unfold tg
 by_cases h:r<least
 ·simp [h]
 ·simp only [show ¬((r:Int)<(least:Int)) by omega,decide_false,ah,h,false_or]
  cases ee.kx r <;> simp
theorem bR.Kx (b:bY) (at_:Nat) (more least:Nat) (hm:more<8) (hb:b.length≤1099511627776) (gS:at_+more<b.length):∀(k i r:Nat),i+k=more+1→r<2 ^ (10+6 * i) →
  bR.l3 b at_ r more least i=tg (ee.cont r k (b.drop (at_+i))) more least:=by
 intro k
 induction k with
 | zero =>
  intro i r hi hr
  refine bR.Ct _ _ _ _ _ _ ?_
  intro v1 h1 v2 h2 v3 h3 v4 h4 v5 h5 v6 h6 v7 h7
  rw [show decide ((i:Int)≤(more:Int))=false by simp;omega,ah]
  subst h6 h7
  rw [ee.cont]
  exact bR.end_ r more least hm
 | succ k ih =>
  intro i r hi hr
  refine bR.Ct _ _ _ _ _ _ ?_
  intro v1 h1 v2 h2 v3 h3 v4 h4 v5 h5 v6 h6 v7 h7
  have hw:IntKind.i64.wrap ((at_:Int)+(i:Int))=((at_+i:Nat):Int):=by rw [i64_in _ (by omega)];omega
  have OM:=drop_cons (l:=b) (i:=at_+i) (by omega) 0
  rw [show decide ((i:Int)≤(more:Int))=true by simp;omega,ak,hw]
  rw [hw,aI] at h1
  rw [bL (fq (by omega) (by omega)),OM,←h1,ee.cont,h2,AW]
  by_cases hc:128≤v1.toNat∧v1.toNat<192
  ·rw [aq hc,aa hc]
   simp only [aR,ah]
   rw [bL (fq (by omega) (by omega))]
   have hp:2 ^ (10+6 * i) * 64=2 ^ (10+6 * (i+1)):=by rw [show 10+6 * (i+1)=(10+6 * i)+6 by omega,Nat.pow_add 2 (10+6 * i) 6]
   have pG:2 ^ (10+6 * (i+1))≤2 ^ 58:=Nat.pow_le_pow_right (by omega) (by omega)
   have Ok:r * 64+64≤2 ^ (10+6 * (i+1)):=by
    rw [←hp];have:=bu 64 (Nat.succ_le_of_lt hr);omega
   have e3:v3=((r * 64:Nat):Int):=by
    rw [h3]
    have:(min (((6:UInt64)).toNat) (IntKind.i64.bits))=6:=by decide
    rw [this,i64_in _ (by simp at pG;omega)];simp
   have e4:v4=((v1.toNat - 128:Nat):Int):=by
    rw [h4,Nx v1 hc];exact i64_in _ (by omega)
   have e5:v5=((i+1:Nat):Int):=by rw [h5,i64_in _ (by omega)];omega
   have e6:eF .or .i64 v3 v4=((r * 64+(v1.toNat - 128):Nat):Int):=by
    rw [e3,e4,G9 _ _ (by simp at pG;omega) (by omega)]
    have:=BT (a:=r) (b:=v1.toNat - 128) (k:=6) (by simp;omega)
    simp at this
    rw [this]
   rw [e6,e5,ih (i+1) _ (by omega) (by omega),Nat.add_assoc]
  ·rw [aj hc,ae hc]
   simp only [aV,ak]
   rw [bR.tQ];rfl
theorem bR.jo (b : bY) (at_ : Nat) (r more least : Nat) (hm : 1 ≤ more ∧ more < 8) (hb : b.length ≤ 1099511627776) (gS : at_ < b.length) (hr : r < 1024) :
    bR.j2 b at_ r more least = tg (ee.cont r more (b.drop (at_ + 1))) more least := by
  have MA : ∀ (k r : Nat) (l : bY), l.length < k → ee.cont r k l = none := by
    intro k
    induction k with
    | zero => intro r l h; omega
    | succ k ih =>
      intro r l h
      cases l with
      | nil => rfl
      | cons c l => rw [ee.cont]; split
                    · exact ih _ _ (by simp at h; omega)
                    · rfl
  have key := fun (h : at_ + more < b.length) => bR.Kx b at_ more least hm.2 hb h more 1 r (by omega) (by simp; omega)
  by_cases hx : at_ + more < b.length
  · rw [← key hx]
    refine bR.nw _ _ _ _ _ ?_
    intro v1 h1 v2 h2 v3 h3 v4 h4 v5 h5 v6 h6 v7 h7 v8 h8 v9 h9 v10 nA
    symm
    refine bR.Ct _ _ _ _ _ _ ?_
    intro w1 k1 w2 k2 w3 k3 w4 k4 w5 k5 w6 k6 w7 k7
    have e1 : v1 = (b.length : Int) - at_ := by rw [h1]; exact i64_in _ (by omega)
    have e2 : v2 = (b.length : Int) - at_ - 1 := by rw [h2, e1]; exact i64_in _ (by omega)
    rw [show decide (v2 < (more : Int)) = false by simp; omega, ah]
    have a1 : ((1 : Nat) : Int) = 1 := rfl
    simp only [a1] at k1 k2 k3 k4 k5 k6 k7 ⊢
    subst h3; subst h4; subst h5; subst h6; subst h7; subst h8; subst h9; subst nA; subst k1; subst k2; subst k3; subst k4; subst k5; subst k6; subst k7
    rfl
  · refine bR.nw _ _ _ _ _ ?_
    intro v1 h1 v2 h2 v3 h3 v4 h4 v5 h5 v6 h6 v7 h7 v8 h8 v9 h9 v10 nA
    have e1 : v1 = (b.length : Int) - at_ := by rw [h1]; exact i64_in _ (by omega)
    have e2 : v2 = (b.length : Int) - at_ - 1 := by rw [h2, e1]; exact i64_in _ (by omega)
    rw [show decide (v2 < (more : Int)) = true by simp; omega, ak, bR.tQ, MA _ _ _ (by simp; omega)]
    rfl
theorem kk (lo hi n:Nat):(cond (decide ((lo:Int)≤(n:Int))) (decide ((n:Int)<(hi:Int))) false)=decide (lo≤n∧n<hi):=by
 by_cases a:lo≤n
 ·rw [show decide ((lo:Int)≤(n:Int))=true by simp;omega,ak,bm];simp;omega
 ·rw [show decide ((lo:Int)≤(n:Int))=false by simp;omega,ah,ae (by omega)]
theorem bR.goal (b:bY) (at_:Int) (hp:decide (b.length≤1099511627776)=true):bR.F b at_=some [.i .i64 (ee.iQ b at_).1,.i .i64 (ee.iQ b at_).2]:=by
 have hb:b.length≤1099511627776:=aF hp
 refine bR.dQ b at_ ?_
 intro v1 h1 v2 h2 v3 h3 v4 h4 v5 h5 v6 h6 v7 h7 v8 h8 v9 h9
 unfold ee.iQ
 by_cases h0:at_<0
 ·subst h1
  simp [h0,ck,bR.tQ]
 ·have hd0:decide (at_<0)=false:=ae h0
  obtain ⟨i,rfl⟩:=Int.eq_ofNat_of_zero_le (show 0≤at_ by omega)
  rw [hd0] at h1 ⊢
  subst h1
  simp only [aV,aR,Bool.false_or,Bool.or_true,cI,ah,aI] at h2 ⊢
  by_cases hl:b.length≤i
  ·rw [show decide ((b.length:Int)≤(i:Int))=true by simp;omega,aq (.inr (by omega)),ak,bR.tQ];rfl
  ·rw [show decide ((b.length:Int)≤(i:Int))=false by simp;omega,aj (by omega),ah,bL (fq (by omega) (by omega)),drop_cons (l:=b) (i:=i) (by omega) 0,←h2,ee.rune]
   have hc:=Bg v2
   have e3:v3=(v2.toNat:Int):=by rw [h3];exact i64_in _ (by omega)
   have an:∀(m:Nat),m<256→eF .and .i64 v3 m=((v2.toNat &&& m:Nat):Int):=fun m h=>by rw [e3,Fu _ _ (by omega) (by omega)]
   have So:v5=((v2.toNat &&& 31:Nat):Int):=h5.trans (an 31 (by omega))
   have Sn:v7=((v2.toNat &&& 15:Nat):Int):=h7.trans (an 15 (by omega))
   have Sm:v9=((v2.toNat &&& 7:Nat):Int):=h9.trans (an 7 (by omega))
   have e4:v4=decide (192≤v2.toNat∧v2.toNat<224):=by rw [h4,e3];exact kk 192 224 _
   have e6:v6=decide (224≤v2.toNat∧v2.toNat<240):=by rw [h6,e3];exact kk 224 240 _
   have e8:v8=decide (240≤v2.toNat∧v2.toNat<248):=by rw [h8,e3];exact kk 240 248 _
   have J:∀(r more least:Nat),1≤more∧more<8→r<1024→bR.j2 b i r more least=some [.i .i64 (ee.mL r more least (b.drop (i+1))).1,.i .i64 (ee.mL r more least (b.drop (i+1))).2]:=fun r more least h1 h2 =>
    (bR.jo b i r more least h1 hb (by omega) h2).trans (zp _ _ _ _)
   simp only [aG,cI]
   by_cases c1:v2.toNat<128
   ·rw [aq c1,e3,show decide ((v2.toNat:Int)<128)=true by simp;omega,ak];rfl
   ·rw [aj c1,show decide (v3<(128:Int))=false by rw [e3];simp;omega,ah,e4]
    by_cases c2:192≤v2.toNat∧v2.toNat<224
    ·rw [aq c2,aa c2,ak,So,L8 _ hc c2];exact J _ 1 128 (by omega) (by omega)
    ·rw [aj c2,ae c2,ah,e6]
     by_cases c3:224≤v2.toNat∧v2.toNat<240
     ·rw [aq c3,aa c3,ak,Sn,L9 _ hc c3];exact J _ 2 2048 (by omega) (by omega)
     ·rw [aj c3,ae c3,ah,e8]
      by_cases c4:240≤v2.toNat∧v2.toNat<248
      ·rw [aq c4,aa c4,ak,Sm,Pf _ hc c4];exact J _ 3 65536 (by omega) (by omega)
      ·rw [aj c4,ae c4,ah,bR.tQ];rfl
theorem ee.ov (l:bY):0≤(ee.rune l).2∧(ee.rune l).2≤l.length:=by
 have jK:∀(k r q:Nat) (l:bY),ee.cont r k l=some q→k≤l.length:=by
  intro k
  induction k with
  | zero=>intro r q l _;omega
  | succ k ih =>
   intro r q l h
   cases l with
   | nil=>cases h
   | cons c l =>
    rw [ee.cont] at h
    split at h
    ·have:=ih _ _ _ h;simp;omega
    ·cases h
 have Oy:∀(r more least:Nat) (l:bY),0≤(ee.mL r more least l).2∧(ee.mL r more least l).2≤l.length+1:=by
  intro r more least l
  unfold ee.mL
  cases h:ee.cont r more l with
  | none=>simp;omega
  | some q =>
   have:=jK _ _ _ _ h
   simp only
   split <;> simp <;> omega
 cases l with
 | nil=>exact ⟨by decide,by decide⟩
 | cons c l =>
  unfold ee.rune
  simp only [aL]
  split
  ·simp;omega
  ·split
   ·have:=Oy (c.toNat - 192) 1 128 l;omega
   ·split
    ·have:=Oy (c.toNat - 224) 2 2048 l;omega
    ·split
     ·have:=Oy (c.toNat - 240) 3 65536 l;omega
     ·simp;omega
theorem ee.Co (l:bY):∀n,l.length≤n→ee.pY n l=ee.pY l.length l:=by
 have key:∀(m:Nat) (l:bY),l.length≤m→∀n,l.length≤n→ee.pY n l=ee.pY l.length l:=by
  intro m
  induction m with
  | zero =>
   intro l hl n hn
   have:l=[]:=List.length_eq_zero_iff.1 (by omega)
   subst this
   cases n with
   | zero=>rfl
   | succ n=>rfl
  | succ m ih =>
   intro l hl n hn
   cases h:l.length with
   | zero =>
    have:l=[]:=List.length_eq_zero_iff.1 h
    subst this
    cases n <;> rfl
   | succ k =>
    cases n with
    | zero=>omega
    | succ n =>
     unfold ee.pY
     have hs:=ee.ov l
     by_cases h0:(ee.rune l).2=0
     ·rw [aq h0,aq h0]
     ·rw [aj h0,aj h0]
      have hd:(l.drop (ee.rune l).2.toNat).length≤k:=by simp;omega
      rw [ih _ (by simp;omega) n (by simp;omega),ih _ (by simp;omega) k hd]
 exact fun n hn=>key _ l (Nat.le_refl _) n hn
theorem ee.tO (l:bY) (h:(ee.rune l).2≠0):ee.look l=((ee.look (l.drop (ee.rune l).2.toNat)).1+(ee.rune l).2.toNat,(ee.look (l.drop (ee.rune l).2.toNat)).2+1):=by
 have hs:=ee.ov l
 unfold ee.look
 cases hl:l.length with
 | zero=>omega
 | succ k =>
  rw [ee.pY,aj h]
  simp only
  rw [ee.Co _ k (by simp;omega)]
theorem ee.tP (l:bY) (h:(ee.rune l).2=0):ee.look l=(0,0):=by
 unfold ee.look
 cases l.length with
 | zero=>rfl
 | succ k=>rw [ee.pY,aq h]
theorem ee.sn (b:bY) (i:Nat) (h:i<b.length):ee.iQ b i=ee.rune (b.drop i):=by
 unfold ee.iQ;rw [aj (by omega),aI]
theorem cS.fH (b:bY) (hb:b.length≤1099511627776):∀(m i k:Nat),b.length - i≤m→i≤b.length→k≤i →
  cS.l1 b i k=some [.i .i64 ((i+(ee.look (b.drop i)).1:Nat):Int),.i .i64 ((k+(ee.look (b.drop i)).2:Nat):Int)]:=by
 intro m
 induction m with
 | zero =>
  intro i k hm hi hk
  refine cS.eC _ _ _ ?_
  intro v1 h1 v2 h2
  rw [show decide ((i:Int)<(b.length:Int))=false by simp;omega,ah,cS.jC,aJ (by omega)]
  rfl
 | succ m ih =>
  intro i k hm hi hk
  by_cases gS:i<b.length
  ·refine cS.eC _ _ _ ?_
   intro v1 h1 v2 h2
   rw [ee.sn b i gS] at h1 ⊢
   have hs:=ee.ov (b.drop i)
   rw [aS] at hs
   rw [show decide ((i:Int)<(b.length:Int))=true by simp;omega,ak,bL (aa hb)]
   by_cases h0:(ee.rune (b.drop i)).2=0
   ·rw [aa h0,ak,cS.jC,ee.tP _ h0];rfl
   ·rw [ae h0,ah,ee.tO _ h0]
    have e1:v1=((i+(ee.rune (b.drop i)).2.toNat:Nat):Int):=by rw [h1,i64_in _ (by omega)];omega
    have e2:v2=((k+1:Nat):Int):=by rw [h2,i64_in _ (by omega)];omega
    rw [e1,e2,ih _ _ (by omega) (by omega) (by omega),List.drop_drop]
    simp only [ax,ar,TV.i.injEq,true_and,and_true]
    exact ⟨by omega,by omega⟩
  ·refine cS.eC _ _ _ ?_
   intro v1 h1 v2 h2
   rw [show decide ((i:Int)<(b.length:Int))=false by simp;omega,ah,cS.jC,aJ (by omega)]
   rfl
theorem cS.goal (b:bY) (hp:decide (b.length≤1099511627776)=true):cS.F b=some [.i .i64 ((ee.look b).1:Int),.i .i64 ((ee.look b).2:Int)]:=by
 rw [cS.fM]
 have:=cS.fH b (aF hp) b.length 0 0 (by omega) (by omega) (by omega)
 simpa using this
theorem dD.goal (b:bY) (hp:decide (b.length≤1099511627776)=true):dD.F b=some [.i .i64 ((ee.look b).1:Int),.b (ee.whole b)]:=by
 have e:decide (((ee.look b).1:Int)=(b.length:Int))=ee.whole b:=by unfold ee.whole;rw [bm];simp;omega
 rw [dD.fM,bL hp,e]
theorem cz.end_ (r:Nat) (more least:Nat) {v7 v9:Bool} (h7:v7=(cond (decide ((r:Int)<(least:Int))) true (decide ((1114111:Int)<(r:Int))))) (h9:v9=(cond (decide ((55296:Int)≤(r:Int))) (decide ((r:Int)≤(57343:Int))) false)) :
  cond (cond v7 true v9)
  (some [(.i .i64 (0:Int)),(.i .i64 (0:Int))])
  (some [(.i .i64 (r:Int)),(.i .i64 ((more+1:Nat):Int))])=tg (some r) more least:=by
 have e:cond v7 true v9=decide (r<least∨ee.kx r=false):=by
  subst h7 h9
  unfold ee.kx
  rw [bm]
  by_cases a:r<least
  ·simp [a]
  ·by_cases b:1114111<r
   ·simp [a,show (1114111:Int)<(r:Int) by omega] <;> omega
   ·by_cases c:55296≤r
    ·simp [a,show ¬(1114111:Int)<(r:Int) by omega,show (55296:Int)≤(r:Int) by omega] <;> omega
    ·simp [a,show ¬(1114111:Int)<(r:Int) by omega,show ¬(55296:Int)≤(r:Int) by omega] <;> omega
 rw [e]
 unfold tg
 by_cases h:r<least∨ee.kx r=false
 ·rw [aa h];simp only [h,if_true,ak]
 ·rw [ae h];simp only [h,if_false,ah];rfl
theorem R9 (a b c:Bool) (hc:c=(!a&&b)):(!(!a) || ((!a)&&(!b || c)))=true:=by subst hc;cases a <;> cases b <;> rfl
theorem cz.oZ (b:bY) (at_:Nat) (more least:Nat) (hm:more<8) (hb:b.length≤1099511627776) (gS:at_+more<b.length):∀(k i r:Nat),i+k=more+1→r<2 ^ (10+6 * i) →
  cz.l2 b at_ ((more+1:Nat):Int) r least i=tg (ee.cont r k (b.drop (at_+i))) more least:=by
 intro k
 induction k with
 | zero =>
  intro i r hi hr
  refine cz.lS _ _ _ _ _ _ ?_
  intro v1 h1 v2 h2 v3 h3 v4 h4 v5 h5 v6 h6 v7 h7 v8 h8 v9 h9
  rw [show decide ((i:Int)<((more+1:Nat):Int))=false by simp;omega,ah]
  simp only [aG,bB,cI]
  rw [bL (R9 _ _ _ h8),ee.cont]
  exact cz.end_ r more least h7 h9
 | succ k ih =>
  intro i r hi hr
  refine cz.lS _ _ _ _ _ _ ?_
  intro v1 h1 v2 h2 v3 h3 v4 h4 v5 h5 v6 h6 v7 h7 v8 h8 v9 h9
  have hw:IntKind.i64.wrap ((at_:Int)+(i:Int))=((at_+i:Nat):Int):=by rw [i64_in _ (by omega)];omega
  have OM:=drop_cons (l:=b) (i:=at_+i) (by omega) 0
  have hu:=Bg v1
  rw [show decide ((i:Int)<((more+1:Nat):Int))=true by simp;omega,ak,hw]
  rw [hw,aI] at h1
  have e2:v2=(v1.toNat:Int):=by rw [h2];exact i64_in _ (by omega)
  have e3:v3=!decide (128≤v1.toNat∧v1.toNat<192):=by
   rw [h3,e2,bm]
   by_cases a:v1.toNat<128
   ·simp [a];omega
   ·simp [show ¬(v1.toNat:Int)<128 by omega];omega
  simp only [aG,bB,cI]
  rw [bL (fq (by omega) (by omega)),OM,←h1,ee.cont,e3]
  by_cases hc:128≤v1.toNat∧v1.toNat<192
  ·rw [aq hc,aa hc]
   simp only [aR,ah]
   have hp:2 ^ (10+6 * i) * 64=2 ^ (10+6 * (i+1)):=by rw [show 10+6 * (i+1)=(10+6 * i)+6 by omega,Nat.pow_add 2 (10+6 * i) 6]
   have pG:2 ^ (10+6 * (i+1))≤2 ^ 58:=Nat.pow_le_pow_right (by omega) (by omega)
   have Ok:r * 64+64≤2 ^ (10+6 * (i+1)):=by
    rw [←hp];have:=bu 64 (Nat.succ_le_of_lt hr);omega
   simp at pG
   have e4:v4=((r * 64:Nat):Int):=by rw [h4,i64_in _ (by omega)];simp
   have e5:v5=((r * 64+(v1.toNat - 128):Nat):Int):=by
    rw [h5,e4,e2,i64_in (((r * 64:Nat):Int)+(v1.toNat:Int)) (by omega),i64_in _ (by omega)];omega
   have e6:v6=((i+1:Nat):Int):=by rw [h6,i64_in _ (by omega)];omega
   rw [e5,e6,ih (i+1) _ (by omega) (by omega),Nat.add_assoc]
  ·rw [aj hc,ae hc]
   simp only [aV,ak]
   rfl
theorem ee.yC:∀(k r:Nat) (l:bY),l.length<k→ee.cont r k l=none:=by
 intro k
 induction k with
 | zero=>intro r l h;omega
 | succ k ih =>
  intro r l h
  cases l with
  | nil=>rfl
  | cons c l =>
   rw [ee.cont]
   split
   ·exact ih _ _ (by simp at h;omega)
   ·rfl
theorem cz.jd (b:bY) (at_:Nat) (r more least:Nat) (hm:1≤more∧more<8) (hb:b.length≤1099511627776) (gS:at_<b.length) (hr:r<1024) :
  cz.j1 b at_ ((more+1:Nat):Int) r least=tg (ee.cont r more (b.drop (at_+1))) more least:=by
 refine cz.kM _ _ _ _ _ ?_
 intro v1 h1
 have e1:v1=(b.length:Int) - at_:=by rw [h1];exact i64_in _ (by omega)
 by_cases hx:at_+more<b.length
 ·rw [show decide (v1<((more+1:Nat):Int))=false by rw [e1];simp;omega,ah]
  exact cz.oZ b at_ more least hm.2 hb hx more 1 r (by omega) (by simp;omega)
 ·rw [show decide (v1<((more+1:Nat):Int))=true by rw [e1];simp;omega,ak,ee.yC _ _ _ (by simp;omega)]
  rfl
theorem cz.goal (b:bY) (at_:Int) (hp:decide (b.length≤1099511627776)=true):cz.F b at_=some [.i .i64 (ee.iQ b at_).1,.i .i64 (ee.iQ b at_).2]:=by
 have hb:b.length≤1099511627776:=aF hp
 refine cz.dQ b at_ ?_
 intro v1 h1 v2 h2 v3 h3 v4 h4 v5 h5 v6 h6 v7 h7 v8 h8 v9 h9
 unfold ee.iQ
 simp only [aG,bB,aO,cI]
 by_cases h0:at_<0
 ·rw [h1,aa h0,ak,ak,aq (.inl h0)]
 ·rw [h1,ae h0,ah]
  obtain ⟨i,rfl⟩:=Int.eq_ofNat_of_zero_le (show 0≤at_ by omega)
  rw [aI] at h2
  by_cases hl:b.length≤i
  ·rw [show decide ((b.length:Int)≤(i:Int))=true by simp;omega,aq (.inr (by omega)),ak]
  ·rw [show decide ((b.length:Int)≤(i:Int))=false by simp;omega,aj (by omega),ah,bL (fq (by omega) (by omega)),aI,drop_cons (l:=b) (i:=i) (by omega) 0,←h2,ee.rune]
   have hc:=Bg v2
   have e3:v3=(v2.toNat:Int):=by rw [h3];exact i64_in _ (by omega)
   have e4:v4=decide (192≤v2.toNat∧v2.toNat<224):=by rw [h4,e3];exact kk 192 224 _
   have e6:v6=decide (224≤v2.toNat∧v2.toNat<240):=by rw [h6,e3];exact kk 224 240 _
   have e8:v8=decide (240≤v2.toNat∧v2.toNat<248):=by rw [h8,e3];exact kk 240 248 _
   have J:∀(r more least:Nat),1≤more∧more<8→r<1024→cz.j1 b i ((more+1:Nat):Int) r least=some [.i .i64 (ee.mL r more least (b.drop (i+1))).1,.i .i64 (ee.mL r more least (b.drop (i+1))).2]:=fun r more least h1 h2 =>
    (cz.jd b i r more least h1 hb (by omega) h2).trans (zp _ _ _ _)
   by_cases c1:v2.toNat<128
   ·rw [aq c1,e3,show decide ((v2.toNat:Int)<128)=true by simp;omega,ak]
   ·rw [aj c1,show decide (v3<(128:Int))=false by rw [e3];simp;omega,ah,e4]
    by_cases c2:192≤v2.toNat∧v2.toNat<224
    ·rw [aq c2,aa c2,ak,show v5=((v2.toNat - 192:Nat):Int) by rw [h5,e3,i64_in _ (by omega)];omega];exact J _ 1 128 (by omega) (by omega)
    ·rw [aj c2,ae c2,ah,e6]
     by_cases c3:224≤v2.toNat∧v2.toNat<240
     ·rw [aq c3,aa c3,ak,show v7=((v2.toNat - 224:Nat):Int) by rw [h7,e3,i64_in _ (by omega)];omega];exact J _ 2 2048 (by omega) (by omega)
     ·rw [aj c3,ae c3,ah,e8]
      by_cases c4:240≤v2.toNat∧v2.toNat<248
      ·rw [aq c4,aa c4,ak,show v9=((v2.toNat - 240:Nat):Int) by rw [h9,e3,i64_in _ (by omega)];omega];exact J _ 3 65536 (by omega) (by omega)
      ·rw [aj c4,ae c4,ah]
theorem cO.fH (b:bY) (hb:b.length≤1099511627776):∀(m i:Nat),b.length - i≤m→i≤b.length →
  cO.l1 b i=some [.i .i64 ((i+(ee.look (b.drop i)).1:Nat):Int),.b (decide (i+(ee.look (b.drop i)).1=b.length))]:=by
 intro m
 induction m with
 | zero =>
  intro i hm hi
  refine cO.eC _ _ ?_
  intro v1 h1
  rw [show decide ((i:Int)<(b.length:Int))=false by simp;omega,ah,aJ (by omega)]
  have:(ee.look []).1=0:=by decide
  rw [this,aa (show i+0=b.length by omega),show i+0=b.length by omega]
 | succ m ih =>
  intro i hm hi
  refine cO.eC _ _ ?_
  intro v1 h1
  by_cases gS:i<b.length
  ·rw [ee.sn b i gS] at h1 ⊢
   have hs:=ee.ov (b.drop i)
   rw [aS] at hs
   rw [show decide ((i:Int)<(b.length:Int))=true by simp;omega,ak,bL (aa hb)]
   by_cases h0:(ee.rune (b.drop i)).2=0
   ·rw [aa h0,ak,ee.tP _ h0,ae (show ¬i+(0,0).1=b.length by simp;omega)];rfl
   ·rw [ae h0,ah,ee.tO _ h0]
    have e1:v1=((i+(ee.rune (b.drop i)).2.toNat:Nat):Int):=by rw [h1,i64_in _ (by omega)];omega
    rw [e1,ih _ (by omega) (by omega),List.drop_drop]
    simp only [ax,ar,TV.i.injEq,TV.b.injEq,true_and,and_true]
    refine ⟨by omega,?_⟩
    rw [bm];simp;omega
  ·rw [show decide ((i:Int)<(b.length:Int))=false by simp;omega,ah,aJ (by omega)]
   have:(ee.look []).1=0:=by decide
   rw [this,aa (show i+0=b.length by omega),show i+0=b.length by omega]
theorem cO.goal (b:bY) (hp:decide (b.length≤1099511627776)=true):cO.F b=some [.i .i64 ((ee.look b).1:Int),.b (ee.whole b)]:=by
 rw [cO.fM]
 have:=cO.fH b (aF hp) b.length 0 (by omega) (by omega)
 simpa [ee.whole] using this
theorem df.goal (s:bY) (hp:decide (s.length≤1099511627776)=true):df.F s=some [.b (ee.whole s)]:=by
 rw [df.fM,bL (rU (aF hp)),bL hp]
theorem cU.fH (s:bY) (hb:s.length≤1099511627776):∀(m i:Nat),s.length - i≤m→i≤s.length→cU.l1 s i=some [.b ((s.drop i).contains 0)]:=by
 intro m
 induction m with
 | zero =>
  intro i hm hi
  refine cU.eC _ _ ?_
  intro v1 h1 v2 h2
  rw [show decide ((i:Int)<(s.length:Int))=false by simp;omega,ah,aJ (by omega)];rfl
 | succ m ih =>
  intro i hm hi
  refine cU.eC _ _ ?_
  intro v1 h1 v2 h2
  rw [aI] at h1
  by_cases gS:i<s.length
  ·rw [show decide ((i:Int)<(s.length:Int))=true by simp;omega,ak,bL (fq (by omega) (by omega)),drop_cons (l:=s) gS 0,←h1]
   have e2:v2=((i+1:Nat):Int):=by rw [h2,i64_in _ (by omega)];omega
   by_cases h0:v1=0
   ·rw [h0];rfl
   ·rw [ae h0,ah,e2,ih _ (by omega) (by omega),List.contains_cons]
    have:((0:UInt8) == v1)=false:=by rw [beq_eq_false_iff_ne];exact fun e=>h0 e.symm
    rw [this,Bool.false_or]
  ·rw [show decide ((i:Int)<(s.length:Int))=false by simp;omega,ah,aJ (by omega)];rfl
theorem cU.goal (s:bY) (hp:decide (s.length≤1099511627776)=true):cU.F s=some [.b (ee.zero s)]:=by
 rw [cU.fM]
 have:=cU.fH s (aF hp) s.length 0 (by omega) (by omega)
 simpa [ee.zero] using this
end Go.Eng
namespace Go.Eng
open Go.IntWalk
theorem dh.goal (s:bY) (c:UInt8):dh.F s c=some [.i .i64 (Lib.indexByte s c)]:=dh.fM s c
theorem ef.goal (s t:bY) (hp:decide (t.length=1)=true):ef.F s t=some [.i .i64 (Lib.indexByte s (t.getD 0 0))]:=by
 have hl:t.length=1:=aF hp
 refine ef.dQ s t ?_
 intro v1 h1 v2 h2
 have e0:decide ((t.length:Int)=0)=false:=ae (by omega)
 have e1:decide ((t.length:Int)=1)=true:=aa (by omega)
 rw [e0] at h1 ⊢
 simp only [aV,aR,Bool.false_or,aO,cI,ah] at h1 ⊢
 by_cases hs:t=s
 ·subst hs
  rw [h1,aa rfl,ak]
  obtain ⟨c,rfl⟩:∃c,t=[c]:=by
   match t,hl with
   | [c],_=>exact ⟨c,rfl⟩
  simp [Lib.indexByte]
 ·rw [h1,ae hs,ah,e1,ak,bL (fq (by omega) (by omega)),h2];rfl
theorem eL.goal (s t:bY) (hp:decide (t.length=1)=true):eL.F s t=some [.i .i64 (Lib.indexByte s (t.getD 0 0))]:=by
 refine eL.dQ s t ?_
 intro v1 h1
 rw [bL hp,h1]
theorem dc.goal (s t:bY) (hp:decide (t.length=1)=true):dc.F s t=some [.b (decide (0≤Lib.indexByte s (t.getD 0 0)))]:=by
 refine dc.dQ s t ?_
 intro v1 h1
 rw [bL hp,h1]
theorem en.goal (k:Int):en.F k=some [.s (Tree.name k)]:=by
 refine en.dQ k ?_
 intro v1 h1 v2 h2
 unfold Tree.name
 by_cases a:k=127
 ·rw [aq a,aa a];rfl
 ·rw [aj a,ae a,ah]
  by_cases b:k=255
  ·rw [aq b,aa b];rfl
  ·rw [aj b,ae b,ah]
   simp only [aG,bB,cI]
   by_cases c:k<0∨20≤k
   ·rw [aq c,show v1=true by rw [h1];by_cases d:k<0 <;> simp [d];omega];rfl
   ·rw [aj c,show v1=false by rw [h1];by_cases d:k<0 <;> simp [d] <;> omega,ah,bL (fq (by omega) (by omega)),bL (by simp;omega),h2];rfl
theorem Tree.At (k:Int) (h:k ∉ Tree.kinds):Tree.name k=[]:=by
 simp only [Tree.kinds,bq,List.not_mem_nil,not_or] at h
 unfold Tree.name
 rw [aj (by omega),aj (by omega)]
 by_cases c:k<0∨20≤k
 ·rw [aq c]
 ·have:k=0:=by omega
  subst this
  rfl
end Go.Eng
namespace Go.Eng
open Go.IntWalk
theorem iY (c:UInt8):∀s:bY,decide (0≤Lib.indexByte s c)=s.contains c
 | []=>by simp [Lib.indexByte]
 | b :: l=>by
  have ih:=iY c l
  have zF:=Lib.indexByte_ge l c
  rw [List.contains_cons,←ih]
  rw [Lib.indexByte]
  by_cases h:b=c
  ·subst h;simp
  ·rw [aj (by simpa using h),show (c == b)=false by rw [beq_eq_false_iff_ne];exact fun e=>h e.symm,Bool.false_or]
   by_cases h1:Lib.indexByte l c=-1
   ·rw [h1];rfl
   ·rw [aj (by simpa using h1),aa (by omega),aa (by omega)]
theorem dH.goal (s:bY) (plain:Bool) (hp:decide (s.length≤1099511627776)=true):dH.F s plain=some [.b (Tree.fK s plain)]:=by
 have e:decide (0≤Lib.indexByte s (([0]:bY).getD 0 0))=ee.zero s:=iY 0 s
 refine dH.dQ s plain ?_
 intro v1 h1 v2 h2
 rw [bL (rU (aF hp)),bL hp]
 rw [e] at h1
 subst h1 h2
 unfold Tree.fK
 cases ee.whole s <;> cases plain <;> cases ee.zero s <;> rfl
theorem bH.goal (v:bI):bH.F v=some [.b (Tree.fI v)]:=by
 have J2:∀(x:Bool) (v:bI),bH.j2 x v=some [.b (x&&decide (v.bits=0)&&decide (v.high=0)&&decide (v.low=0)&&decide (v.text=[])&&decide (v.more=[])&&decide (v.sub=0)&&decide (v.bytes=[])&&decide (v.kids=[]))]:=by
  intro x v
  refine bH.nw x v ?_
  intro v1 h1 v2 h2 v3 h3 v4 h4 v5 h5 v6 h6 v7 h7 v8 h8 v9 h9 v10 nA
  simp only [aG,cI]
  have e1:decide (v7=0)=decide (v.bytes=[]):=by rw [h7,bm];simp
  have e2:decide (v9=0)=decide (v.kids=[]):=by rw [h9,bm];simp
  rw [e1] at h8
  rw [e2] at nA
  subst h1 h2 h3 h4 h5 h6 h8 nA
  simp only [Bool.cond_false_right]
 have J3:∀(x0:Bool) (x1:Int) (x2:Bool) (x3:bI),bH.j3 x0 x1 x2 x3=cond x2
  (bH.j2 x0 (bI.mk (bI.kind x3) (bI.bits x3) (bI.high x3) (bI.low x3) ([]:bY) (bI.more x3) (bI.sub x3) (bI.bytes x3) (bI.kids x3)))
  (cond (decide (x1=(11:Int)))
  (bH.j2 x0 (bI.mk (bI.kind x3) (bI.bits x3) (bI.high x3) (bI.low x3) ([]:bY) ([]:bY) (bI.sub x3) (bI.bytes x3) (bI.kids x3)))
  (cond (decide (x1=(5:Int)))
  (bH.j2 (decide (0≤x3.sub)&&decide (x3.sub≤255)) (bI.mk (bI.kind x3) (bI.bits x3) (bI.high x3) (bI.low x3) (bI.text x3) (bI.more x3) (0:Int) ([]:List UInt8) (bI.kids x3)))
  (cond (decide (x1=(7:Int)))
  (bH.j2 (decide (x3.bytes.length=12)) (bI.mk (bI.kind x3) (bI.bits x3) (bI.high x3) (bI.low x3) (bI.text x3) (bI.more x3) (bI.sub x3) ([]:List UInt8) (bI.kids x3)))
  (cond (decide (x1=(12:Int)))
  (bH.j2 (decide (x3.bytes.length=12)) (bI.mk (bI.kind x3) (bI.bits x3) (bI.high x3) (bI.low x3) ([]:bY) (bI.more x3) (bI.sub x3) ([]:List UInt8) (bI.kids x3)))
  (cond (decide (x1=(3:Int)))
  (bH.j4 x0 x1 (decide (x1=(3:Int))) x3)
  (bH.j4 x0 x1 (decide (x1=(4:Int))) x3)))))):=by
  intro x0 x1 x2 x3
  refine bH.pZ x0 x1 x2 x3 ?_
  intro v1 h1 v2 h2
  have e:decide (v2=12)=decide (x3.bytes.length=12):=by rw [h2,bm];simp;omega
  simp only [aG,cI,e,h1,Bool.cond_false_right]
 obtain ⟨k,b,hi,lo,t,m,s,y,ks⟩:=v
 simp only [bH.fM,bH.nZ,J3,bH.KX,J2,Tree.fI,Tree.vv]
 by_cases a1:k=1
 ·subst a1;simp;grind
 by_cases a2:k=2
 ·subst a2;simp;grind
 by_cases a3:k=3
 ·subst a3;simp;grind
 by_cases a4:k=4
 ·subst a4;simp;grind
 by_cases a5:k=5
 ·subst a5;simp;grind
 by_cases a7:k=7
 ·subst a7;simp;grind
 by_cases a8:k=8
 ·subst a8;simp;grind
 by_cases a9:k=9
 ·subst a9;simp;grind
 by_cases nG:k=11
 ·subst nG;simp;grind
 by_cases a12:k=12
 ·subst a12;simp;grind
 by_cases td:k=13
 ·subst td;simp;grind
 by_cases P2:k=14
 ·subst P2;simp;grind
 by_cases lq:k=15
 ·subst lq;simp;grind
 by_cases Ma:k=16
 ·subst Ma;simp;grind
 by_cases xE:k=17
 ·subst xE;simp;grind
 by_cases P1:k=18
 ·subst P1;simp;grind
 by_cases Jd:k=19
 ·subst Jd;simp;grind
 simp [a1,a2,a3,a4,a5,a7,a8,a9,nG,a12,td,P2,lq,Ma,xE,P1,Jd];grind
end Go.Eng
namespace Go.Eng
open Go.IntWalk
theorem dC.goal (s:bY) (hp:decide (s.length≤1099511627776)=true):dC.F s=some [.b (Tree.fK s true)]:=by
 refine dC.dQ s ?_
 intro v1 h1
 rw [bL hp,hp]
 subst h1
 unfold Tree.fK
 cases ee.whole s <;> cases ee.zero s <;> rfl
theorem Je.lens (v:bI) (n:bY) (m:Nat) (h:bM.c7 (bM.of n v)≤m):v.text.length≤m∧v.more.length≤m∧n.length≤m∧v.bytes.length≤m∧bM.db v.kids+1≤m:=by
 simp only [bM.of,bM.c7] at h;omega
theorem bM.qo (f:bM):1≤f.c7:=by cases f;simp only [bM.c7];omega
theorem bM.kC:∀(l:List bM) (i:Nat) (d:bM),i<l.length→(l.getD i d).c7≤bM.db l
 | f :: l,0,d,_=>by simp [bM.db]
 | f :: l,i+1,d,h=>by
  have:=bM.kC l i d (by simpa using h)
  simp only [List.getD_cons_succ,bM.db];omega
theorem bM.kB:∀(l:List bM),l.length≤bM.db l
 | []=>by simp
 | f :: l=>by have:=bM.kB l;have:=bM.qo f;simp only [aL,bM.db];omega
theorem bM.Hp (f:bM):bM.of f.name f.val=f:=by cases f;rfl
theorem bM.oh (f:bM):bM.c7 (bM.of [] f.val)≤f.c7:=by cases f;simp only [bM.of,bM.val,bM.c7,bM.kind,bM.bits,bM.high,bM.low,bM.text,bM.more,bM.sub,bM.bytes,bM.kids];simp
theorem Bj (v:bI) (n:bY):Tree.rB v n=(if Tree.name v.kind=[] then 5 else if Tree.fI v=false then 1 else if Tree.fK v.text (decide (v.kind=11))=false∨Tree.fK v.more (decide (v.kind=11))=false∨Tree.fK n true=false then 4 else 0):=by
 unfold Tree.rB Tree.own
 grind
theorem Tree.Fj (n:bY) (v:bI) (p:List Int):Tree.iN (bM.of n v) p=if Tree.rB v n≠0 then (p,Tree.rB v n) else Tree.vF v.kids 0 p:=by
 cases v;simp only [bM.of,Tree.iN]
theorem cE.fH (n:Nat) (ks:List bM) (p:List Int) (hb:bM.db ks+p.length<1099511627776) (hn:bM.db ks<n):∀(m i:Nat),i+m=ks.length →
  cE.l1 n ks (ks.length:Int) i p=some [.sl .is (Tree.vF (ks.drop i) i p).1,.i .i64 (Tree.vF (ks.drop i) i p).2,.sl .is p]:=by
 have hlen:=bM.kB ks
 intro m
 induction m with
 | zero =>
  intro i hi
  refine cE.eC _ _ _ _ _ ?_
  intro v1 h1 v2 h2 v3 h3 v4 h4
  rw [ae (by omega),ah,aJ (by omega)];rfl
 | succ m ih =>
  intro i hi
  refine cE.eC _ _ _ _ _ ?_
  intro v1 h1 v2 h2 v3 h3 v4 h4
  rw [aI] at h1
  have hg:=bM.kC ks i (eN.eG .fl) (by omega)
  rw [←h1] at hg
  rw [bM.Hp] at h2 h3 ⊢
  rw [aa (by omega),ak,bL (fq (by omega) (by omega)),bL (fu (by simp;omega) (by simp;omega)),aa (by simp;omega),aa (by omega),aO,cI,drop_cons (l:=ks) (i:=i) (by omega) (eN.eG .fl),←h1,Tree.vF]
  by_cases h:v3=0
  ·rw [aa h,aj (by rw [h3] at h;simpa using h)]
   simp only [aR,ah]
   rw [show v4=((i+1:Nat):Int) by rw [h4,i64_in _ (by omega)];omega,ih _ (by omega)]
  ·rw [ae h,aq (by rw [h3] at h;simpa using h)]
   simp only [aV,ak]
   rw [h2,h3]
theorem cE.goal (n:Nat) (v:bI) (name:bY) (path:List Int) (hp:((decide (bM.c7 (bM.of name v)+path.length≤1099511627776))&&decide ((bM.c7 (bM.of name v))<n+1))=true) :
  cE.F n v name path=some [.sl .is (Tree.iN (bM.of name v) path).1,.i .i64 (Tree.iN (bM.of name v) path).2,.sl .is path]:=by
 simp only [af,az] at hp
 obtain ⟨hp,hn⟩:=hp
 obtain ⟨b1,b2,b3,_,_⟩:=Je.lens v name 1099511627776 (by omega)
 have Gk:bM.db v.kids<bM.c7 (bM.of name v):=by simp only [bM.of,bM.c7];omega
 refine cE.dQ n v name path ?_
 intro v1 h1 v2 h2 v3 h3 v4 h4
 rw [Tree.Fj,Bj]
 simp only [aG,bB,aO,cI,aa b1,aa b2,aa b3,Bool.and_true]
 have RE:gg path.length 8=true:=fu (by omega) (by omega)
 simp only [RE,cI]
 by_cases a:Tree.name v.kind=[]
 ·rw [aa a];simp [a]
 ·rw [ae a,ah]
  by_cases b:Tree.fI v=false
  ·rw [b];simp [a]
  ·have b':Tree.fI v=true:=by simpa using b
   rw [b']
   have e3:v3=decide (Tree.fK v.text (decide (v.kind=11))=false∨Tree.fK v.more (decide (v.kind=11))=false∨Tree.fK name true=false):=by
    subst h1 h2 h3
    cases Tree.fK v.text (decide (v.kind=11)) <;> cases Tree.fK v.more (decide (v.kind=11)) <;> cases Tree.fK name true <;> rfl
   rw [e3,h4]
   by_cases c:Tree.fK v.text (decide (v.kind=11))=false∨Tree.fK v.more (decide (v.kind=11))=false∨Tree.fK name true=false
   ·rw [aa c];simp [a,c]
   ·rw [ae c]
    simp only [aR,ah,aj a,aj c]
    have:=cE.fH n v.kids path (by omega) (by omega) v.kids.length 0 (by omega)
    rw [bc] at this
    simpa using this
theorem dI.goal (v:bI) (hp:decide (bM.c7 (bM.of [] v)≤1099511627776)=true):dI.F v=some [.sl .is (Tree.iN (bM.of [] v) []).1,.i .i64 (Tree.iN (bM.of [] v) []).2]:=by
 refine dI.dQ v ?_
 intro v1 h1 v2 h2
 rw [bL (by simpa using hp),h1,h2]
end Go.Eng
namespace Go.Eng
open Go.IntWalk
theorem Tree.pQ (a b:bI):Tree.same a b=true ↔ a=b:=by unfold Tree.same;simp
theorem Tree.uN (a b:bI) (c:Bool) (h:c=true ↔ a=b):Tree.same a b=c:=by
 rw [bm,Tree.pQ,h]
theorem bM.ext_iff (a b:bM):a=b ↔ a.name=b.name∧a.val=b.val:=by
 cases a;cases b;simp [bM.name,bM.val,bM.kind,bM.bits,bM.high,bM.low,bM.text,bM.more,bM.sub,bM.bytes,bM.kids]
theorem drop_eq {α:Type} {a b:List α} {i:Nat} (ha:i<a.length) (hb:i<b.length) (d:α):a.drop i=b.drop i ↔ a.getD i d=b.getD i d∧a.drop (i+1)=b.drop (i+1):=by
 rw [drop_cons ha d,drop_cons hb d,ar]
theorem bI.zS (a b:bI):a=b ↔ Tree.gH a b=true∧a.kids=b.kids:=by
 cases a;cases b;simp [Tree.gH,and_assoc]
theorem eu.goal (a b:bI):eu.F a b=some [.b (Tree.gH a b)]:=by
 refine eu.dQ a b ?_
 intro v1 h1 v2 h2 v3 h3 v4 h4 v5 h5 v6 h6 v7 h7
 subst h1 h2 h3 h4 h5 h6 h7
 simp only [aO,aG,cI,Bool.cond_false_right]
 rfl
theorem cA.fH (n:Nat) (a b:bI) (hl:a.kids.length=b.kids.length) (hb:bM.db a.kids<1099511627776) (hn:bM.db a.kids<n):∀(m i:Nat),i+m=a.kids.length →
  ∃c:Bool,cA.l1 n i a b=some [.b c]∧(c=true ↔ a.kids.drop i=b.kids.drop i):=by
 have hlen:=bM.kB a.kids
 intro m
 induction m with
 | zero =>
  intro i hi
  refine ⟨true,?_,by rw [aJ (by omega),aJ (by omega)];simp⟩
  refine cA.eC _ _ _ _ ?_
  intro v1 h1 v2 h2 v3 h3 v4 h4 v5 h5 v6 h6 v7 h7
  rw [ae (by omega),ah]
 | succ m ih =>
  intro i hi
  obtain ⟨c,yt,Gr⟩:=ih (i+1) (by omega)
  by_cases h:(a.kids.getD i (eN.eG .fl))=(b.kids.getD i (eN.eG .fl))
  ·refine ⟨c,?_,Gr.trans ⟨fun x=>(drop_eq (i:=i) (by omega) (by omega) (eN.eG .fl)).2 ⟨h,x⟩,fun x=>((drop_eq (i:=i) (by omega) (by omega) (eN.eG .fl)).1 x).2⟩⟩
   refine cA.eC _ _ _ _ ?_
   intro v1 h1 v2 h2 v3 h3 v4 h4 v5 h5 v6 h6 v7 h7
   rw [aI] at h2 h3
   have hg:=bM.kC a.kids i (eN.eG .fl) (by omega)
   rw [←h2] at hg h
   rw [←h3] at h
   have hv:=bM.oh v2
   rw [aa (by omega),ak,show v7=((i+1:Nat):Int) by rw [h7,i64_in _ (by omega)];omega,yt,show eE (i:Int) a.kids.length=true from fq (by omega) (by omega),show eE (i:Int) b.kids.length=true from fq (by omega) (by omega),aa (show bM.c7 (bM.of [] v2.val)<n by omega),aa (show bM.c7 (bM.of [] v2.val)≤1099511627776 by omega)]
   have e5:v5=true:=by rw [h5,Tree.pQ,h]
   rw [e5,h,aa rfl] at h6
   rw [h,aa rfl] at h4 ⊢
   subst h4 h6
   rfl
  ·refine ⟨false,?_,⟨fun x=>(by cases x),fun x=>(h ((drop_eq (i:=i) (by omega) (by omega) (eN.eG .fl)).1 x).1).elim⟩⟩
   refine cA.eC _ _ _ _ ?_
   intro v1 h1 v2 h2 v3 h3 v4 h4 v5 h5 v6 h6 v7 h7
   rw [aI] at h2 h3
   have hg:=bM.kC a.kids i (eN.eG .fl) (by omega)
   rw [←h2] at hg h
   rw [←h3] at h
   have hv:=bM.oh v2
   rw [aa (by omega),ak,show eE (i:Int) a.kids.length=true from fq (by omega) (by omega),show eE (i:Int) b.kids.length=true from fq (by omega) (by omega),aa (show bM.c7 (bM.of [] v2.val)<n by omega),aa (show bM.c7 (bM.of [] v2.val)≤1099511627776 by omega)]
   by_cases hN:v2.name=v3.name
   ·have e5:v5=false:=by
     have:v5≠true:=by rw [h5,Ne,Tree.pQ];exact fun e=>h ((bM.ext_iff _ _).2 ⟨hN,e⟩)
     simpa using this
    rw [e5,aa hN] at h6
    rw [aa hN] at h4 ⊢
    subst h4 h6
    rfl
   ·rw [ae hN] at h4 h6 ⊢
    subst h4 h6
    rfl
theorem cA.goal (n:Nat) (a b:bI) (hp:((decide (bM.c7 (bM.of [] a)≤1099511627776))&&decide ((bM.c7 (bM.of [] a))<n+1))=true):cA.F n a b=some [.b (Tree.same a b)]:=by
 simp only [af,az] at hp
 obtain ⟨E3,hn⟩:=hp
 have Gk:bM.db a.kids<bM.c7 (bM.of [] a):=by simp only [bM.of,bM.c7];omega
 refine cA.dQ n a b ?_
 intro v1 h1 v2 h2 v3 h3
 simp only [aO,aG,bB,cI]
 by_cases hl:a.kids.length=b.kids.length
 ·obtain ⟨c,yt,Gr⟩:=cA.fH n a b hl (by omega) (by omega) a.kids.length 0 (by omega)
  rw [aa (by omega)] at h3
  rw [bc,bc] at Gr
  rw [h3]
  cases ho:Tree.gH a b
  ·rw [Tree.uN a b false (by rw [bI.zS,ho];simp)];rfl
  ·rw [Tree.uN a b c (by rw [bI.zS,ho,Gr];simp)];exact yt
 ·rw [ae (by omega)] at h3
  have:v3=true:=by rw [h3];cases Tree.gH a b <;> rfl
  rw [this,Tree.uN a b false (by constructor;(· intro h;cases h);(· intro h;rw [h] at hl;exact (hl rfl).elim))];rfl
theorem Tree.AT (f:bM):Tree.depth (bM.of [] f.val)=Tree.depth f:=by cases f;rfl
theorem Tree.Dh (n:bY) (v:bI):Tree.depth (bM.of n v)=if v.kind=3∨v.kind=4∨v.kind=15 then Tree.nq v.kids+1 else 0:=by cases v;rfl
theorem Tree.qT:∀l:List bM,Tree.nq l≤bM.db l∧∀f∈l,Tree.depth f≤bM.c7 f
 | []=>by simp [Tree.nq]
 | f :: l=>by
  obtain ⟨h1,h2⟩:=Tree.qT l
  have hf:Tree.depth f≤bM.c7 f:=by
   obtain ⟨n,k,b,h,lo,t,m,s,y,ks⟩:=f
   have:=(Tree.qT ks).1
   unfold Tree.depth bM.c7
   split <;> omega
  refine ⟨by simp only [Tree.nq,bM.db];omega,fun g hg=>?_⟩
  rcases bq.1 hg with rfl | hg
  ·exact hf
  ·exact h2 g hg
theorem Tree.Di (f:bM):Tree.depth f≤bM.c7 f:=(Tree.qT [f]).2 f (List.mem_cons_self ..)
theorem cF.fH (n:Nat) (ks:List bM) (hb:bM.db ks<1099511627776) (hn:bM.db ks<n):∀(m i d:Nat),i+m=ks.length→d≤1099511627776 →
  cF.l1 n d ks (ks.length:Int) i=some [.i .i64 ((max d (Tree.nq (ks.drop i))+1:Nat):Int)]:=by
 have hlen:=bM.kB ks
 intro m
 induction m with
 | zero =>
  intro i d hi hd
  refine cF.eC _ _ _ _ _ ?_
  intro v1 h1 v2 h2 v3 h3 v4 h4
  rw [ae (by omega),ah,aJ (by omega),h4,i64_in _ (by omega)]
  simp [Tree.nq]
 | succ m ih =>
  intro i d hi hd
  refine cF.eC _ _ _ _ _ ?_
  intro v1 h1 v2 h2 v3 h3 v4 h4
  rw [aI] at h1
  have hg:=bM.kC ks i (eN.eG .fl) (by omega)
  rw [←h1] at hg
  have hv:=bM.oh v1
  have Tu:=Tree.Di v1
  rw [aa (by omega),ak,bL (fq (by omega) (by omega)),aa (show bM.c7 (bM.of [] v1.val)<n by omega),aa (show bM.c7 (bM.of [] v1.val)≤1099511627776 by omega),aO,cI,
   show v3=((i+1:Nat):Int) by rw [h3,i64_in _ (by omega)];omega,h2,Tree.AT,show pX (d:Int) (Tree.depth v1:Int)=((max d (Tree.depth v1):Nat):Int) by unfold pX;split <;> omega,ih _ _ (by omega) (by omega),drop_cons (l:=ks) (i:=i) (by omega) (eN.eG .fl),←h1,Tree.nq,Nat.max_assoc]
theorem cF.goal (n:Nat) (v:bI) (hp:((decide (bM.c7 (bM.of [] v)≤1099511627776))&&decide ((bM.c7 (bM.of [] v))<n+1))=true):cF.F n v=some [.i .i64 (Tree.depth (bM.of [] v):Int)]:=by
 simp only [af,az] at hp
 obtain ⟨E3,hn⟩:=hp
 have Gk:bM.db v.kids<bM.c7 (bM.of [] v):=by simp only [bM.of,bM.c7];omega
 refine cF.dQ n v ?_
 intro v1 h1 v2 h2 v3 h3
 simp only [aG,cI]
 have key:=cF.fH n v.kids (by omega) (by omega) v.kids.length 0 0 (by omega) (by omega)
 rw [bc] at key
 rw [Tree.Dh]
 by_cases h:v.kind=3∨v.kind=4∨v.kind=15
 ·rw [aq h,show v2=false by subst h1 h2;rcases h with h | h | h <;> simp [h],ah,h3]
  rw [Nat.zero_max] at key
  exact key
 ·rw [aj h,show v2=true by subst h1 h2;simp only [not_or] at h;simp [h.1,h.2.1,h.2.2],ak];rfl
theorem bT.fH (a b:List Int) (hl:a.length=b.length) (hb:a.length<9223372036854775807):∀(m i:Nat),i+m=a.length→bT.l1 a b i=some [.b (decide (a.drop i=b.drop i))]:=by
 intro m
 induction m with
 | zero =>
  intro i hi
  refine bT.eC _ _ _ ?_
  intro v1 h1 v2 h2 v3 h3
  rw [ae (by omega),ah,aJ (by omega),aJ (by omega)];rfl
 | succ m ih =>
  intro i hi
  refine bT.eC _ _ _ ?_
  intro v1 h1 v2 h2 v3 h3
  rw [aI] at h1 h2
  rw [aa (by omega),ak,bL (fq (by omega) (by omega)),bL (fq (by omega) (by omega)),drop_cons (l:=a) (i:=i) (by omega) 0,drop_cons (l:=b) (i:=i) (by omega) 0,←h1,←h2]
  by_cases h:v1=v2
  ·rw [aa h]
   simp only [aR,ah]
   rw [show v3=((i+1:Nat):Int) by rw [h3,i64_in _ (by omega)];omega,ih _ (by omega)]
   simp [h]
  ·rw [ae h];simp [h]
theorem bT.goal (a b:List Int) (hp:decide (a.length≤1099511627776)=true):bT.F a b=some [.b (decide (a=b))]:=by
 have hp:=aF hp
 rw [bT.fM]
 by_cases hl:a.length=b.length
 ·rw [aa (by omega)]
  have:=bT.fH a b hl (by omega) a.length 0 (by omega)
  simpa using this
 ·rw [ae (by omega),ae (fun e=>hl (by rw [e]))];rfl
end Go.Eng
namespace Go.Eng
open Go.IntWalk
theorem vC {n:Nat} (h:n<10):kP n=[UInt8.ofNat (48+n)]:=by rw [kP,dif_pos h]
theorem zY {n:Nat} (h:¬n<10):kP n=kP (n / 10)++[UInt8.ofNat (48+n % 10)]:=by rw [kP,dif_neg h]
theorem pO (n:Nat):UInt8.ofInt (n:Int)=UInt8.ofNat n:=by
 apply UInt8.toNat_inj.1
 rw [mZ,UInt8.toNat_ofNat']
theorem cD.fH:∀(v:UInt64) (s:bY),v.toNat+s.length≤18446744073709551616+100→s.length≤100→(10 ^ (20 - s.length) > v.toNat)→cD.l1 v s=some [.s (kP v.toNat++s)]:=by
 intro v
 generalize hn:v.toNat=n
 induction n using Nat.strongRecOn generalizing v with
 | _ n ih =>
  intro s h1 h2 h3
  refine cD.eC _ _ ?_
  intro v1 e1 v2 e2 v3 e3
  have gS:((9:UInt64)<v) ↔ 9<v.toNat:=aC
  by_cases a:n<10
  ·have e:v3=UInt8.ofNat (48+n):=by
    rw [e3,pO]
    apply UInt8.toNat_inj.1
    rw [UInt64.toNat_add,UInt8.toNat_ofNat',UInt8.toNat_ofNat',hn]
    show (48+n) % 18446744073709551616 % 256=_
    rw [Nat.mod_eq_of_lt (show 48+n<18446744073709551616 by omega)]
   rw [ae (fun h=>by have:=gS.1 h;omega),ah,bL (aa (by simp only [aK];omega)),vC a,e]
  ·have hs:s.length≤20:=by
    apply Classical.byContradiction
    intro h
    rw [show 20 - s.length=0 by omega] at h3
    simp at h3;omega
   have hd:(v / 10).toNat=n / 10:=by rw [UInt64.toNat_div,hn];rfl
   have e:v2=UInt8.ofNat (48+n % 10):=by
    rw [e2,e1,pO]
    apply UInt8.toNat_inj.1
    rw [UInt64.toNat_add,UInt64.toNat_mod,UInt8.toNat_ofNat',UInt8.toNat_ofNat',hn]
    show (48+n % 10) % 18446744073709551616 % 256=_
    rw [Nat.mod_eq_of_lt (show 48+n % 10<18446744073709551616 by omega)]
   have h4:10 ^ (20 - (UInt8.ofNat (48+n % 10) :: s).length) > n / 10:=by
    rw [aL]
    have hk:20 - s.length≠0:=by
     intro h;rw [h] at h3;simp at h3;omega
    rw [show 20 - s.length=(20 - (s.length+1))+1 by omega,Nat.pow_succ] at h3
    omega
   rw [aa (gS.2 (by omega)),ak,bL (by decide),bL (aa (by simp only [aK];omega)),bL (by decide),e,List.singleton_append,ih (n / 10) (by omega) (v / 10) hd _ (by rw [aL];omega) (by rw [aL];omega) h4,zY a,aZ];rfl
theorem cD.goal (v:UInt64):cD.F v=some [.s (kP v.toNat)]:=by
 have:=v.toNat_lt
 rw [cD.fM,cD.fH v [] (by simp only [aA];omega) (by decide) (by simp only [aA];omega),aM]
theorem bW.fH (l:List bM) (hb:l.length≤1099511627776):∀(m i:Nat),i+m=l.length→bW.l1 l (l.length:Int) i=some [.b (Tree.iC i (l.drop i))]:=by
 intro m
 induction m with
 | zero =>
  intro i hi
  refine bW.eC _ _ _ ?_
  intro v1 h1 v2 h2
  rw [ae (by omega),ah,aJ (by omega)];rfl
 | succ m ih =>
  intro i hi
  refine bW.eC _ _ _ ?_
  intro v1 h1 v2 h2
  rw [aI] at h1
  rw [aa (by omega),ak,bL (fq (by omega) (by omega)),bL (aa (by omega)),show v2=((i+1:Nat):Int) by rw [h2,i64_in _ (by omega)];omega,ih _ (by omega),drop_cons (l:=l) (i:=i) (by omega) (eN.eG .fl),←h1,Tree.iC,wC]
  by_cases a:v1.name=kP i
  ·rw [aa a];rfl
  ·rw [ae a];rfl
theorem bW.goal (l:List bM) (hp:decide (l.length≤1099511627776)=true):bW.F l=some [.b (Tree.regular l)]:=by
 rw [bW.fM]
 exact bW.fH l (aF hp) l.length 0 (by omega)
theorem bU.fH (l:List bM) (hb:l.length≤1099511627776):∀(m i:Nat),i+m=l.length→bU.l1 l i=some [.b (Tree.iC i (l.drop i))]:=by
 intro m
 induction m with
 | zero =>
  intro i hi
  refine bU.eC _ _ ?_
  intro v1 h1 v2 h2 v3 h3
  rw [ae (by omega),ah,aJ (by omega)];rfl
 | succ m ih =>
  intro i hi
  refine bU.eC _ _ ?_
  intro v1 h1 v2 h2 v3 h3
  rw [aI] at h1
  rw [jv,Nat.mod_eq_of_lt (by omega)] at h2
  rw [aa (by omega),ak,bL (fq (by omega) (by omega)),show v3=((i+1:Nat):Int) by rw [h3,i64_in _ (by omega)];omega,ih _ (by omega),drop_cons (l:=l) (i:=i) (by omega) (eN.eG .fl),←h1,Tree.iC,h2]
  by_cases a:v1.name=kP i
  ·rw [aa a];rfl
  ·rw [ae a];rfl
theorem bU.goal (l:List bM) (hp:decide (l.length≤1099511627776)=true):bU.F l=some [.b (Tree.regular l)]:=by
 rw [bU.fM]
 exact bU.fH l (aF hp) l.length 0 (by omega)
end Go.Eng
namespace Go.Eng
open Go.IntWalk
theorem da.fH (ig:List Int) (hl:ig.length≤10) (hs:∀s∈ig,0≤s):∀(m i:Nat) (left:Int),i+m=ig.length→left≤10000→da.l1 left ig i=some [.i .i64 (qv.room left (ig.drop i))]:=by
 intro m
 induction m with
 | zero =>
  intro i left hi hle
  refine da.eC _ _ _ ?_
  intro v1 h1 v2 h2 v3 h3
  rw [ae (by omega),ah,aJ (by omega)];rfl
 | succ m ih =>
  intro i left hi hle
  refine da.eC _ _ _ ?_
  intro v1 h1 v2 h2 v3 h3
  rw [aI] at h1
  have h0:0≤v1:=hs v1 (by rw [h1,aH,aD (show i<ig.length by omega)];simp)
  rw [aa (by omega),ak,show eE (i:Int) ig.length=true from fq (by omega) (by omega),drop_cons (l:=ig) (i:=i) (by omega) 0,←h1,qv.room]
  simp only [aO,Bool.and_true,aG,bB,cI]
  by_cases a:left<0∨left<v1
  ·rw [aq a,show v2=true by rw [h2];by_cases b:left<0 <;> simp [b];omega];rfl
  ·rw [aj a,show v2=false by rw [h2];by_cases b:left<0 <;> simp [b] <;> omega,ah,show v3=((i+1:Nat):Int) by rw [h3,i64_in _ (by omega)];omega,i64_in _ (by omega),ih _ _ (by omega) (by omega)]
theorem da.goal (left:Int) (ig:List Int) (hp:(decide (left≤10000∧ig.length≤10)&&ig.all (fun s=>decide (0≤s)))=true):da.F left ig=some [.i .i64 (qv.room left ig)]:=by
 simp only [af,az,bj] at hp
 rw [da.fM]
 exact da.fH ig hp.1.2 hp.2 ig.length 0 left (by omega) hp.1.1
end Go.Eng
namespace Go.Eng
open Go.IntWalk
theorem cT.iD {r:dx}:cT.iE r=true ↔ 0≤r.at_∧r.at_≤r.b.length∧r.b.length≤1099511627776:=by simp [cT.iE]
theorem gE.goal (r:dx):gE.F r=some [.i .i64 (r.at_)]:=gE.fM r
theorem eO.goal (r:dx) (hp:cT.iE r=true):eO.F r=some [.i .i64 (cT.left r)]:=by
 obtain ⟨h0,h1,h2⟩:=cT.iD.1 hp
 refine eO.dQ r ?_
 intro v1 e1
 rw [e1,i64_in _ (by omega)];rfl
theorem fj.goal (r:dx) (hp:cT.iE r=true):fj.F r=some [.i .i64 (cT.byte r),.b (cT.more r),.ag (dx.cells (cT.pg r 1 (cT.more r)))]:=by
 obtain ⟨h0,h1,h2⟩:=cT.iD.1 hp
 refine fj.dQ r ?_
 intro v1 e1 v2 e2 v3 e3 v4 e4
 by_cases h:r.at_=(r.b.length:Int)
 ·rw [aa h,ak,cT.byte,aj (by omega),cT.more,ae (by omega)];rfl
 ·rw [ae h,ah]
  have tw:v1=r.at_+1:=by rw [e1,i64_in _ (by omega)]
  have xN:v2=r.at_:=by rw [e2,i64_in _ (by omega)];omega
  rw [bL (fq (by omega) (by omega)),cT.byte,aq (by omega),cT.more,aa (by omega)]
  rw [e4,i64_in _ (by have:=v3.toNat_lt;omega),e3,xN,tw];rfl
theorem fh.goal (r:dx) (n:Int) (hp:cT.iE r=true):fh.F r n=some [.sl .bs (cT.nx r n (cT.pz r n)),.b (cT.pz r n),.ag (dx.cells (cT.pg r n (cT.pz r n)))]:=by
 obtain ⟨h0,h1,h2⟩:=cT.iD.1 hp
 refine fh.dQ r n ?_
 intro v1 e1 v2 e2 v3 e3 v4 e4
 simp only [hp,Bool.not_not,aO,Bool.and_true,aG,bB,cI]
 have RU:v2=!cT.pz r n:=by
  rw [e2,e1,cT.pz,cT.left]
  by_cases a:n<1 <;> by_cases b:8<n <;> by_cases c:(r.b.length:Int) - r.at_<n <;> simp [a,b,c] <;> omega
 rw [RU]
 cases ho:cT.pz r n with
 | false=>rfl
 | true =>
  have Jo:1≤n∧n≤8∧n≤r.b.length - r.at_:=by simpa [cT.pz] using ho
  have sV:v3=r.at_+n:=by rw [e3,i64_in _ (by omega)]
  have e5:IntKind.i64.wrap (v3 - n)=r.at_:=by rw [sV,i64_in _ (by omega)];omega
  rw [aR,ah,e5,bL (ij h0 (by omega) (by omega)),e4,e5,sV,cT.nx,cT.pg,ak,ak,show (r.at_+n).toNat=r.at_.toNat+n.toNat by omega,List.drop_take,show r.at_.toNat+n.toNat - r.at_.toNat=n.toNat by omega]
  rfl
theorem fi.goal (r:dx) (n:Int) (hp:cT.iE r=true):fi.F r n=some [.sl .bs (cT.nx r n (cT.rC r n)),.b (cT.rC r n),.ag (dx.cells (cT.pg r n (cT.rC r n)))]:=by
 obtain ⟨h0,h1,h2⟩:=cT.iD.1 hp
 refine fi.dQ r n ?_
 intro v1 e1 v2 e2 v3 e3
 simp only [hp,Bool.not_not,aO,Bool.and_true,aG,bB,cI]
 have RW:v1=!cT.rC r n:=by
  rw [e1,cT.rC,cT.left]
  by_cases a:n<0 <;> by_cases c:(r.b.length:Int) - r.at_<n <;> simp [a,c] <;> omega
 rw [RW]
 cases ho:cT.rC r n with
 | false=>rfl
 | true =>
  have Jo:0≤n∧n≤r.b.length - r.at_:=by simpa [cT.rC] using ho
  have xN:v2=r.at_+n:=by rw [e2,i64_in _ (by omega)]
  have e5:IntKind.i64.wrap (v2 - n)=r.at_:=by rw [xN,i64_in _ (by omega)];omega
  have e6:v3=(r.b.drop r.at_.toNat).take n.toNat:=by
   rw [e3,e5,xN,show (r.at_+n).toNat=r.at_.toNat+n.toNat by omega,List.drop_take,show r.at_.toNat+n.toNat - r.at_.toNat=n.toNat by omega]
  have e7:v3.length≤1099511627776:=by rw [e6,bh,aS];omega
  rw [aR,ah,e5,bL (ij h0 (by omega) (by omega)),bL (fu (by omega) (by omega)),e6,xN,cT.nx,cT.pg,ak,ak]
  rfl
theorem Ab (x:UInt64) (c:UInt8):lz x 8 ||| UInt64.ofInt (c.toNat:Int)=x * 256+c.toUInt64:=by
 apply aY.1
 have hc:=c.toNat_lt
 have hx:=x.toNat_lt
 rw [UInt64.toNat_or,jv,lz,UInt64.toNat_add,UInt64.toNat_mul,UInt64.toNat_ofNat',UInt8.toNat_toUInt64]
 rw [Nat.mod_eq_of_lt (show c.toNat<18446744073709551616 by omega)]
 have e:x.toNat * 2 ^ 8 % 2 ^ 64=(x.toNat % 2 ^ 56) * 2 ^ 8:=by omega
 rw [e,BT (k:=8) (by omega),show (256:UInt64).toNat=256 from rfl]
 omega
theorem dR.fH (ok:Bool) (l:bY) (q:dx) (hl:l.length≤1099511627776):∀(m i:Nat) (x:UInt64),i+m=l.length→dR.l1 ok x l (l.length:Int) i q=some [.u64 ((l.drop i).foldl (fun v x=>v * 256+x.toUInt64) x),.b ok,.ag (dx.cells q)]:=by
 intro m
 induction m with
 | zero =>
  intro i x hi
  refine dR.eC _ _ _ _ _ _ ?_
  intro v1 e1 v2 e2 v3 e3 v4 e4
  rw [ae (by omega),ah,aJ (by omega)];rfl
 | succ m ih =>
  intro i x hi
  refine dR.eC _ _ _ _ _ _ ?_
  intro v1 e1 v2 e2 v3 e3 v4 e4
  rw [aI] at e1
  rw [aa (by omega),ak,bL (fq (by omega) (by omega)),drop_cons (l:=l) (i:=i) (by omega) 0,List.foldl_cons,←e1,show v4=((i+1:Nat):Int) by rw [e4,i64_in _ (by omega)];omega,ih _ _ (by omega),e2,e3,show (8:UInt64).toNat=8 from rfl,Ab]
theorem cT.B7 (r:dx) (n:Int) (ok:Bool):(cT.nx r n ok).length≤r.b.length:=by
 unfold cT.nx;cases ok <;> simp <;> omega
theorem dR.goal (r:dx) (n:Int) (hp:cT.iE r=true):dR.F r n=some [.u64 (cT.be (cT.nx r n (cT.pz r n))),.b (cT.pz r n),.ag (dx.cells (cT.pg r n (cT.pz r n)))]:=by
 obtain ⟨h0,h1,h2⟩:=cT.iD.1 hp
 refine dR.dQ r n ?_
 intro v1 e1
 rw [bL hp,e1]
 have:=cT.B7 r n (cT.pz r n)
 exact dR.fH _ _ _ (by omega) _ 0 _ (Nat.zero_add _)
theorem fo.goal (b:bY) (hp:decide (b.length≤1099511627776)=true):fo.F b=some [.pt,.ag (dx.cells (dx.mk b 0))]:=by
 have h:=aF hp
 rw [fo.fM,bL (fu (by omega) (by omega))];rfl
theorem dO.goal (n:Int):dO.F n=some [.b (decide (1≤n∧n≤8))]:=by
 refine dO.dQ n ?_
 intro v1 e1
 simp only [aG,cI,e1]
 by_cases a:1≤n <;> by_cases b:n≤8 <;> simp [a,b]
theorem eY.goal:eY.F=some [.pt,.ag (fg.cells (fg.mk []))]:=eY.fM
theorem eV.goal (w:fg) (v:Int) (hp:decide (w.b.length≤1099511627776)=true):eV.F w v=some [.ag (fg.cells (fg.mk (w.b++[UInt8.ofInt v])))]:=by
 have h:=aF hp
 refine eV.dQ w v ?_
 intro v1 e1
 subst e1
 rw [bL (fu (by simp;omega) (by simp;omega))];rfl
theorem fN.goal (w:fg) (b:bY) (hp:decide (w.b.length+b.length≤1099511627776)=true):fN.F w b=some [.ag (fg.cells (fg.mk (w.b++b)))]:=by
 have h:=aF hp
 rw [fN.fM,bL (fu (by omega) (by omega))];rfl
theorem D6 (v:UInt64) (n:Nat):mD (v / 256) (8 * n)=mD v (8 * (n+1)):=by
 rw [mD,mD,UInt64.toNat_div,show (256:UInt64).toNat=2 ^ 8 from rfl,Nat.div_div_eq_div_mul,←Nat.pow_add,show 8+8 * n=8 * (n+1) by omega]
theorem cT.q9:∀(n:Nat) (v:UInt64),cT.iK v (n+1)=cT.iK v n++[(mD v (8 * n)).toUInt8]
 | 0,v=>by
  have:mD v (8 * 0)=v:=by rw [mD];simp
  rw [this];rfl
 | n+1,v=>by
  rw [cT.iK,cT.q9 n,cT.iK,D6];rfl
theorem cT.pU (v:UInt64) (n:Nat):cT.eQ v (n+1)=(mD v (8 * n)).toUInt8 :: cT.eQ v n:=by
 rw [cT.eQ,cT.q9,List.reverse_append];rfl
theorem cT.kv:∀(n:Nat) (v:UInt64),(cT.iK v n).length=n
 | 0,_=>rfl
 | n+1,v=>by rw [cT.iK,aL,cT.kv n]
theorem cT.gy (v:UInt64) (n:Nat):(cT.eQ v n).length=n:=by rw [cT.eQ,List.length_reverse,cT.kv]
theorem tA (v:UInt64):UInt8.ofInt (v.toNat:Int)=v.toUInt8:=by
 apply UInt8.toNat_inj.1
 rw [mZ,UInt64.toNat_toUInt8]
theorem dY.fH (v:UInt64) (n:Int) (hn:1≤n∧n≤8):∀(k:Nat) (w:fg),k≤8→w.b.length+k≤1099511627786→dY.l1 v n ((k:Int) - 1) w=some [.ag (fg.cells (fg.mk (w.b++cT.eQ v k)))]:=by
 intro k
 induction k with
 | zero =>
  intro w _ _
  refine dY.eC _ _ _ _ ?_
  intro v1 e1 v2 e2 v3 e3 v4 e4 v5 e5
  simp only [aG,cI]
  rw [e1,aa hn,ak,ae (by omega),ah,show cT.eQ v 0=[] from rfl,aM]
 | succ k ih =>
  intro w hk hw
  refine dY.eC _ _ _ _ ?_
  intro v1 e1 v2 e2 v3 e3 v4 e4 v5 e5
  simp only [aG,cI]
  have xN:v2=((8 * k:Nat):Int):=by rw [e2,i64_in _ (by omega)];omega
  rw [e1,aa hn,ak,aa (by omega),ak,bL (aa (by omega)),bL (fu (by simp;omega) (by simp;omega))]
  rw [show v5=(k:Int) - 1 by rw [e5,i64_in _ (by omega)];omega,ih _ (by omega) (by rw [e4];simp;omega),e4,e3,xN,aI,tA,cT.pU,aZ]
  rfl
theorem dY.goal (w:fg) (v:UInt64) (n:Int) (hp:decide (w.b.length≤1099511627776)=true):dY.F w v n=some [.ag (fg.cells (fg.mk (w.b++cT.high v n)))]:=by
 have h:=aF hp
 refine dY.dQ w v n ?_
 intro v1 e1
 by_cases hn:1≤n∧n≤8
 ·rw [show v1=((n.toNat:Nat):Int) - 1 by rw [e1,i64_in _ (by omega)];omega,dY.fH v n hn _ _ (by omega) (by omega),cT.high,aq hn]
 ·refine dY.eC _ _ _ _ ?_
  intro u1 f1 u2 f2 u3 f3 u4 f4 u5 f5
  simp only [aG,cI]
  rw [f1,ae hn,ah,ah,cT.high,aj hn,aM]
theorem eJ.goal (w:fg) (hp:decide (w.b.length≤1099511627776)=true):eJ.F w=some [.sl .bs (w.b),.ag (fg.cells w)]:=by
 have h:=aF hp
 rw [eJ.fM,bL (fu (by omega) (by omega))]
mutual
theorem bG.jS:∀(ks:List bG),ks.length≤bG.db ks
 | []=>Nat.le_refl _
 | k :: r=>by
  have h1:=bG.qo k
  have h2:=bG.jS r
  simp only [bG.db,aL];omega
theorem bG.qo:∀(k:bG),1≤bG.c7 k
 | .mk _ _ b t ks=>by simp only [bG.c7];omega
end
theorem bG.og:∀(ks:List bG) (i:Nat),i<ks.length→bG.c7 (ks.getD i (eN.eG .il))≤bG.db ks
 | [],_,h=>by simp at h
 | k :: r,0,_=>by simp only [List.getD_cons_zero,bG.db];omega
 | k :: r,i+1,h=>by
  have:=bG.og r i (by simpa using h)
  simp only [List.getD_cons_succ,bG.db];omega
theorem bG.ln (it:Itv):bG.c7 (bG.of it)=1+it.bytes.length+it.text.length+bG.db it.kids:=by simp only [bG.of,bG.c7]
theorem u9 {α:Type} (l:List α):((l.length:Int)=0)=(l=[]):=by
 simp
theorem Cl (m:Nat):((m:Int)<4294967296)=(m<4294967296):=propext (by omega)
theorem PU (m:Nat):((m:Int)=0)=(m=0):=propext (by omega)
theorem fS.goal (n:Int) (hp:decide (0≤n∧n≤1099511627776)=true):fS.F n=some [.b (decide (n<4294967296))]:=by
 have h:=aF hp
 obtain ⟨m,rfl⟩:∃m:Nat,n=m:=⟨n.toNat,by omega⟩
 have e:(UInt64.ofInt (m:Int)<4294967296)=((m:Int)<4294967296):=by
  rw [aC,jv,show (4294967296:UInt64).toNat=4294967296 from rfl]
  apply propext;omega
 rw [fS.fM]
 simp only [e]
theorem bV.jo (a b:Int) (ok:Bool) (it:Itv):bV.j2 a b ok it=some [.b (ok&&decide (it.n=0)&&decide (b=0)&&decide (it.text=[])&&decide (a=0))]:=by
 refine bV.nw _ _ _ _ ?_
 intro v1 e1 v2 e2 v3 e3 v4 e4
 simp only [aG,cI]
 rw [e4,e3,e2,e1]
 cases ok <;> simp [Bool.cond_false_right]
theorem bV.goal (it:Itv) (hp:decide (bG.c7 (bG.of it)≤1099511627776)=true):bV.F it=some [.b (Mp.fI (bG.of it))]:=by
 have h:=aF hp
 rw [bG.ln] at h
 have hk:=bG.jS it.kids
 obtain ⟨k,n,b,t,ks⟩:=it
 simp only at h hk
 refine bV.dQ _ ?_
 intro v1 e1 v2 e2
 simp only at e1 e2
 have key:∀x4:Bool,x4=decide (k=1∨k=9)→bV.j1 v1 v2 true k x4 ⟨k,n,b,t,ks⟩=some [.b (Mp.fI (bG.of ⟨k,n,b,t,ks⟩))]:=by
  intro x4 hx
  refine bV.kM _ _ _ _ _ _ ?_
  intro u1 f1 u2 f2 u3 f3 u4 f4 u5 f5
  simp only at f1 f4 f5
  simp only [aG,cI]
  subst e1 e2 f1
  have hdiv:Int.tdiv (ks.length:Int) 2=((ks.length / 2:Nat):Int):=rfl
  have Lj:Int.tmod (ks.length:Int) 2=((ks.length % 2:Nat):Int):=rfl
  rw [hdiv,i64_in _ (by omega)] at f2
  simp only [Mp.fI,bG.of]
  by_cases k1:k=1∨k=9
  ·rw [hx,aa k1,ak,aq k1,bV.jo]
   simp [Bool.decide_and,u9,Bool.and_assoc]
  rw [hx,ae k1,ah,aj k1]
  by_cases k2:k=2
  ·rw [aa k2,ak,aq k2,bV.jo]
   simp [Bool.decide_and,u9,Bool.and_assoc]
  rw [ae k2,ah,aj k2]
  by_cases k3:k=3
  ·rw [aa k3,ak,aq k3,bV.jo,bL (aa (by omega))]
   simp [Bool.decide_and,u9,Cl,Bool.and_assoc]
  rw [ae k3,ah,aj k3]
  by_cases k4:k=4
  ·rw [aa k4,ak,aq k4,bV.jo,bL (aa (by omega))]
   simp [Bool.decide_and,u9,Cl,Bool.and_assoc]
  rw [ae k4,ah,aj k4]
  by_cases k5:k=5
  ·rw [aa k5,ak,aq k5,bV.jo,bL (aa (by omega))]
   simp [Bool.decide_and,u9,Cl,Bool.and_assoc]
  rw [ae k5,ah,aj k5]
  by_cases k6:k=6
  ·rw [aa k6,ak,aq k6,bV.jo,Lj]
   rw [show (decide (0≤u2∧u2≤1099511627776))=true from aa (by omega),show (!decide ((2:Int)=0))=true from rfl]
   simp only [Bool.and_true,aG,cI]
   rw [f3,Lj,f2]
   simp [Bool.decide_and,u9,Cl,PU,Bool.and_assoc,Bool.cond_false_right]
   rw [show decide ((ks.length:Int) % 2=0)=decide (ks.length % 2=0) from aX.2 (by omega),show decide ((ks.length:Int) / 2<4294967296)=decide (ks.length / 2<4294967296) from aX.2 (by omega)]
  rw [ae k6,ah,aj k6]
  by_cases k8:k=8
  ·rw [aa k8,ak,aq k8,bV.jo,f4]
   simp [Bool.decide_and,u9,Bool.and_assoc,Bool.cond_false_right]
  rw [ae k8,ah,aj k8]
  by_cases nX:k=10
  ·rw [aa nX,ak,aq nX,bV.jo,f5]
   rw [show (decide (0≤(b.length:Int)∧(b.length:Int)≤1099511627776))=true from aa (by omega)]
   simp only [Bool.and_true,aG,cI]
   simp [Bool.decide_and,u9,Cl,PU,Bool.and_assoc,Bool.cond_false_right]
  rw [ae nX,ah,aj nX,bV.jo]
  simp [Bool.decide_and,u9,Bool.and_assoc]
 by_cases k1:k=1
 ·rw [aa k1,ak]
  exact key _ (by simp [k1])
 ·rw [ae k1,ah]
  exact key _ (by simp [k1])
theorem Mp.G7 (it:Itv):Mp.own (bG.of it)=if it.kind<1∨10<it.kind∨it.kind=7 then 5 else if Mp.fI (bG.of it)=false then 1 else if ee.whole it.text then 0 else 4:=by
 obtain ⟨k,n,b,t,ks⟩:=it
 simp only [Mp.own,Mp.fI,bG.of]
 by_cases h0:k<1∨10<k∨k=7
 ·rw [aq h0,aq h0]
 rw [aj h0,aj h0]
 have hk:k=1∨k=2∨k=3∨k=4∨k=5∨k=6∨k=8∨k=9∨k=10:=by omega
 have l0:∀{α:Type} (l:List α),l=[]→l.length=0:=fun l h=>by rw [h];rfl
 rcases hk with rfl | rfl | rfl | rfl | rfl | rfl | rfl | rfl | rfl <;> simp <;> grind
theorem Mp.z7:∀(ks:List bG) (i:Nat),i<ks.length→Mp.gf (ks.drop i)=if Mp.dp (ks.getD i (eN.eG .il))=0 then Mp.gf (ks.drop (i+1)) else Mp.dp (ks.getD i (eN.eG .il)):=by
 intro ks i h
 rw [drop_cons h (eN.eG .il),Mp.gf]
theorem cW.fH (n:Nat) (ks:List bG) (hb:bG.db ks≤1099511627776) (hn:bG.db ks<n):∀(m i:Nat),i+m=ks.length→cW.l1 n ks (ks.length:Int) i=some [.i .i64 (Mp.gf (ks.drop i))]:=by
 have hk:=bG.jS ks
 intro m
 induction m with
 | zero =>
  intro i hi
  refine cW.eC _ _ _ _ ?_
  intro v1 e1 v2 e2
  rw [ae (by omega),ah,aJ (by omega)];rfl
 | succ m ih =>
  intro i hi
  refine cW.eC _ _ _ _ ?_
  intro v1 e1 v2 e2
  have vq:i<ks.length:=by omega
  have xa:=bG.og ks i vq
  rw [aI,bG.ib] at e1
  rw [aa (by omega),ak,bL (fq (by omega) (by omega)),aI,bG.ib,bL (by rw [aa (by omega),aa (by omega)];rfl),Mp.z7 ks i vq,←e1]
  by_cases a:v1=0
  ·rw [aa a,aR,ah,aq a,show v2=((i+1:Nat):Int) by rw [e2,i64_in _ (by omega)];omega,ih _ (by omega)]
  ·rw [ae a,aV,ak,aj a]
theorem Mp.yF (it:Itv):Mp.dp (bG.of it)=if Mp.own (bG.of it)=0 then Mp.gf it.kids else Mp.own (bG.of it):=by rw [bG.of,Mp.dp]
theorem cW.goal (n:Nat) (it:Itv) (hp:((decide (bG.c7 (bG.of it)≤1099511627776))&&decide ((bG.c7 (bG.of it))<n+1))=true):cW.F n it=some [.i .i64 (Mp.dp (bG.of it))]:=by
 simp only [af,az] at hp
 obtain ⟨h,hn⟩:=hp
 rw [bG.ln] at h hn
 refine cW.dQ _ _ ?_
 intro v1 e1 v2 e2 v3 e3 v4 e4 v5 e5
 simp only [aG,bB,cI]
 rw [bL (aa (by rw [bG.ln];omega)),bL (rU (by omega)),bL (aa (by omega)),e5,e4]
 have hl:=cW.fH n it.kids (by omega) (by omega) it.kids.length 0 (by omega)
 rw [show cW.l1 n it.kids (it.kids.length:Int) 0=some [.i .i64 (Mp.gf it.kids)] from hl,Mp.yF,Mp.G7]
 have hv:v2=decide (it.kind<1∨10<it.kind∨it.kind=7):=by
  rw [e2,e1]
  by_cases a:it.kind<1 <;> by_cases b:10<it.kind <;> by_cases c:it.kind=7 <;> simp [a,b,c]
 rw [hv]
 by_cases h0:it.kind<1∨10<it.kind∨it.kind=7
 ·rw [aa h0,ak,aq h0];rfl
 rw [ae h0,ah,aj h0]
 cases hf:Mp.fI (bG.of it) with
 | false=>rfl
 | true =>
  cases hw:ee.whole it.text <;> rfl
theorem dX.goal (e at_:Int):dX.F e at_=some [.ag (Itv.cells (bG.val Mp.zero)),.ag (cX.cells (cX.mk e at_ []))]:=dX.fM e at_
theorem dk.goal (n:UInt64):dk.F n=some [.ag [.i .i64 (Mp.eK n).1,.i .i64 (Mp.eK n).2]]:=by
 refine dk.dQ _ ?_
 intro v1 e1
 unfold Mp.eK
 by_cases a:n<128
 ·rw [aa a,ak,aq a,e1,i64_in _ (by have:=aC.1 a;simp at this;omega)]
 rw [ae a,ah,aj a]
 by_cases a:n<256
 ·rw [aa a,ak,aq a]
 rw [ae a,ah,aj a]
 by_cases a:n<65536
 ·rw [aa a,ak,aq a]
 rw [ae a,ah,aj a]
 by_cases a:n<4294967296
 ·rw [aa a,ak,aq a]
 rw [ae a,ah,aj a]
theorem dW.goal (n:UInt64):dW.F n=some [.ag [.i .i64 (Mp.signed n).1,.i .i64 (Mp.signed n).2]]:=by
 refine dW.dQ _ ?_
 intro v1 e1 v2 e2
 unfold Mp.signed
 by_cases a:n<32
 ·have:=aC.1 a
  simp at this
  rw [aa a,ak,aq a,e2,e1,i64_in (n.toNat:Int) (by omega),i64_in _ (by omega)]
 rw [ae a,ah,aj a]
 by_cases a:n<128
 ·rw [aa a,ak,aq a]
 rw [ae a,ah,aj a]
 by_cases a:n<32768
 ·rw [aa a,ak,aq a]
 rw [ae a,ah,aj a]
 by_cases a:n<2147483648
 ·rw [aa a,ak,aq a]
 rw [ae a,ah,aj a]
theorem fR.goal (w:fg) (f:kU) (n:UInt64) (hp:decide (w.b.length+10≤1099511627776)=true):fR.F w f n=some [.ag (fg.cells (fg.mk (w.b++Mp.put (f.at_,f.end_) n)))]:=by
 have h:=aF hp
 refine fR.dQ _ _ _ ?_
 intro v1 e1 v2 e2
 rw [bL (aa (by omega)),e2,e1,bL (aa (by simp;omega))]
 simp [Mp.put]
theorem dG.goal (it:Itv) (p c:Int) (f:kU):dG.F it p c f=some [.ag (Itv.cells (bG.val (Mp.num (bG.of it) p c f.at_ 0).it)),.ag (cX.cells (cX.mk (Mp.num (bG.of it) p c f.at_ 0).err (Mp.num (bG.of it) p c f.at_ 0).at_ []))]:=by
 rw [dG.fM,Mp.num]
 by_cases a:f.at_=c
 ·rw [aa a,aR,ah,aj (fun h=>h a)];rfl
 ·rw [ae a,aV,ak,aq a];rfl
theorem Mp.JY (it:Itv) (h:Mp.own (bG.of it)=0):(1≤it.kind∧it.kind≤10∧it.kind≠7)∧(it.kind=3∨it.kind=4∨it.kind=5∨it.kind=6→it.n=0)∧(it.kind≠3→it.kind≠10→it.bytes=[])∧(it.kind≠4→it.text=[]) ∧
  (it.kind≠5→it.kind≠6→it.kids=[])∧(it.kind=2→it.n<9223372036854775808)∧(it.kind=8→20≤it.n∧it.n≤22)∧(it.kind=10→it.n≤127)∧(it.kind=6→it.kids.length % 2=0) ∧
  it.bytes.length<4294967296∧it.text.length<4294967296∧(it.kind=5→it.kids.length<4294967296)∧it.kids.length / 2<4294967296∧ee.whole it.text=true:=by
 obtain ⟨k,n,b,t,ks⟩:=it
 simp only [Mp.own,bG.of] at h
 simp only
 by_cases h1:k<1∨10<k∨k=7
 ·rw [aq h1] at h;cases h
 rw [aj h1] at h
 split at h
 ·cases h
 rename_i h2
 split at h
 ·cases h
 rename_i h3
 split at h
 ·cases h
 rename_i h4
 split at h
 ·cases h
 rename_i h5
 split at h
 ·rename_i h6
  refine ⟨by omega,?_,?_,?_,?_,?_,?_,?_,?_,by omega,by omega,?_,by omega,h6⟩ <;> grind
 ·cases h
theorem cT.CW (v:UInt64) (n:Int):(cT.high v n).length≤8:=by
 unfold cT.high
 split
 ·rw [cT.gy];omega
 ·simp
theorem Mp.uT (f:Int × Int) (n:UInt64):(Mp.put f n).length≤9:=by
 have:=cT.CW n f.2
 simp only [Mp.put,aL];omega
theorem Mp.wY (it:bG):(Mp.head it).length≤10:=by
 obtain ⟨k,n,b,t,ks⟩:=it
 unfold Mp.head
 repeat' split
 all_goals first | exact Nat.le_succ_of_le (Mp.uT _ _) | skip
 ·simp
 ·simp
 ·simp
 ·rw [aw,aK];exact Nat.succ_le_succ (Mp.uT _ _)
mutual
theorem Mp.oz:∀(it:bG),(Mp.lay it).length≤16 * bG.c7 it
 | .mk k n b t ks=>by
  have h1:=Mp.wY (.mk k n b t ks)
  have h2:=Mp.wA ks
  simp only [Mp.lay,bG.c7,aw];omega
theorem Mp.wA:∀(ks:List bG),(Mp.eR ks).length≤16 * bG.db ks
 | []=>Nat.zero_le _
 | k :: r=>by
  have h1:=Mp.oz k
  have h2:=Mp.wA r
  simp only [Mp.eR,bG.db,aw];omega
end
theorem Mp.jR {k:bG} {r:List bG} (h:Mp.gf (k :: r)=0):Mp.dp k=0∧Mp.gf r=0:=by
 rw [Mp.gf] at h
 split at h
 ·exact ⟨by assumption,h⟩
 ·rename_i h';exact (h' h).elim
theorem bG.yI:∀(ks:List bG) (i:Nat),i<ks.length→bG.db (ks.drop i)=bG.c7 (ks.getD i (eN.eG .il))+bG.db (ks.drop (i+1)):=by
 intro ks i h
 rw [drop_cons h (eN.eG .il),bG.db]
theorem dt.oZ (n:Nat) (ks:List bG) (hn:bG.db ks<n) (Gk:ks.length≤1099511627776):∀(m i:Nat) (w:fg),i+m=ks.length→w.b.length+16 * bG.db (ks.drop i)≤1099511627776→Mp.gf (ks.drop i)=0 →
  dt.l2 n ks (ks.length:Int) i w=some [.ag (fg.cells (fg.mk (w.b++Mp.eR (ks.drop i))))]:=by
 have hk:=bG.jS ks
 intro m
 induction m with
 | zero =>
  intro i w hi _ _
  refine dt.lS _ _ _ _ _ ?_
  intro v1 e1 v2 e2
  rw [ae (by omega),ah,aJ (by omega),show Mp.eR []=[] from rfl,aM]
 | succ m ih =>
  intro i w hi hw hc
  refine dt.lS _ _ _ _ _ ?_
  intro v1 e1 v2 e2
  have vq:i<ks.length:=by omega
  have xa:=bG.og ks i vq
  have hd:=bG.yI ks i vq
  rw [drop_cons vq (eN.eG .il)] at hc
  obtain ⟨c1,c2⟩:=Mp.jR hc
  have hl:=Mp.oz (ks.getD i (eN.eG .il))
  rw [aI,bG.ib] at e1
  rw [aa (by omega),ak,bL (fq (by omega) (by omega)),aI,bG.ib,bL (by rw [aa (by omega),aa c1,aa (by omega)];rfl),show v2=((i+1:Nat):Int) by rw [e2,i64_in _ (by omega)];omega,ih _ _ (by omega) (by rw [e1];simp only [aw];omega) c2,e1,drop_cons vq (eN.eG .il),Mp.eR]
  simp
theorem dt.jd (n:Nat) (it:Itv) (w:fg) (hn:bG.db it.kids<n) (Gk:it.kids.length≤1099511627776) (hw:w.b.length+16 * bG.db it.kids≤1099511627776) (hc:Mp.gf it.kids=0) :
  dt.j1 n it w=some [.ag (fg.cells (fg.mk (w.b++Mp.eR it.kids)))]:=by
 refine dt.kM _ _ _ ?_
 intro v1 e1
 subst e1
 exact dt.oZ n it.kids hn Gk it.kids.length 0 w (by omega) hw hc
theorem Mp.Hw (it:Itv):Mp.lay (bG.of it)=Mp.head (bG.of it)++it.bytes++it.text++Mp.eR it.kids:=by rw [bG.of,Mp.lay]
theorem Mp.O9 (it:Itv) (h:Mp.dp (bG.of it)=0):Mp.own (bG.of it)=0∧Mp.gf it.kids=0:=by
 rw [Mp.yF] at h
 split at h
 ·exact ⟨by assumption,h⟩
 ·rename_i h';exact (h' h).elim
theorem iO (n:Nat):UInt64.ofInt (n:Int)=UInt64.ofNat n:=by
 apply aY.1
 rw [jv,UInt64.toNat_ofNat']
theorem M8 (v:UInt64) (h:v.toNat<9223372036854775808):UInt8.ofInt (IntKind.i64.wrap (v.toNat:Int))=v.toUInt8:=by
 rw [i64_in _ (by omega),tA]
theorem dt.goal (n:Nat) (w:fg) (it:Itv) (hp:((decide (w.b.length+16 * bG.c7 (bG.of it)≤1099511627776)&&decide (Mp.dp (bG.of it)=0))&&decide ((bG.c7 (bG.of it))<n+1))=true) :
  dt.F n w it=some [.ag (fg.cells (fg.mk (w.b++Mp.lay (bG.of it))))]:=by
 simp only [af,az] at hp
 obtain ⟨⟨hw,hc⟩,hn⟩:=hp
 obtain ⟨ho,zG⟩:=Mp.O9 it hc
 obtain ⟨p1,p2,p3,p4,p5,p6,p7,p8,p9,JW,Mh,JV,Mg,Nt⟩:=Mp.JY it ho
 rw [bG.ln] at hw hn
 have hk:=bG.jS it.kids
 have J:=fun (w':fg) (h':w'.b.length≤w.b.length+16+it.bytes.length+it.text.length)=>dt.jd n it w' (by omega) (by omega) (by omega) zG
 rw [Mp.Hw]
 obtain ⟨k,u,b,t,ks⟩:=it
 simp only at p1 p2 p3 p4 p5 p6 p7 p8 p9 JW Mh JV Mg Nt hw hn hk J ⊢
 refine dt.dQ _ _ _ ?_
 intro v1 e1 v2 e2 v3 e3 v4 e4 v5 e5 v6 e6 v7 e7 v8 e8 v9 e9 v10 tc v11 vM v12 yA lx xq ji tt mY zX mW Bb kR IX pK L1 qz LZ v20 MR v21 MQ ta Ju uC PY v24 PX r7 PW xQ LY
 simp only at e1 e2 e3 e4 e5 e6 e7 e8 e9 tc vM yA xq tt zX Bb IX L1 LZ MR MQ Ju PY PX PW LY ⊢
 have L:=fun f m=>Mp.uT f m
 have ko:k=1∨k=2∨k=3∨k=4∨k=5∨k=6∨k=8∨k=9∨k=10:=by omega
 have Si:decide (w.b.length+10≤1099511627776)=true:=aa (by omega)
 rcases ko with rfl | rfl | rfl | rfl | rfl | rfl | rfl | rfl | rfl
 all_goals simp only [Int.reduceEq,decide_true,decide_false,ak,ah,Si,cI,aV]
 ·have h3:=p3 (by decide) (by decide)
  have h4:=p4 (by decide)
  subst h3 h4
  have:=L ((Mp.eK u).1,(Mp.eK u).2) u
  rw [J v1 (by rw [e1];simp only [aw];omega),e1]
  simp [bG.of,Mp.head]
 ·have h3:=p3 (by decide) (by decide)
  have h4:=p4 (by decide)
  subst h3 h4
  have:=L ((Mp.signed u).1,(Mp.signed u).2) (~~~ u)
  rw [J v2 (by rw [e2];simp only [aw];omega),e2]
  simp [bG.of,Mp.head]
 ·have h4:=p4 (by decide)
  subst h4
  have:=L (v12,lx) (UInt64.ofInt v11)
  rw [bL (by rw [aa (by omega)];rfl),bL (aa (by rw [tt];simp only [aw];omega)),J mY (by rw [zX,tt];simp only [aw];omega),zX,tt,yA,xq,vM,iO]
  simp [bG.of,Mp.head]
 ·have h3:=p3 (by decide) (by decide)
  subst h3
  have:=L (v7,v8) (UInt64.ofInt v6)
  rw [bL (by rw [aa (by omega)];rfl),bL (rU (by omega)),bL (aa (by rw [e9];simp only [aw];omega)),J v10 (by rw [tc,e9];simp only [aw];omega),tc,e9,e7,e8,e6,iO]
  simp [bG.of,Mp.head]
 ·have h3:=p3 (by decide) (by decide)
  have h4:=p4 (by decide)
  subst h3 h4
  have:=JV rfl
  have:=L (v20,v21) (UInt64.ofInt qz)
  rw [bL (by rw [aa (by omega)];rfl),J ta (by rw [Ju];simp only [aw];omega),Ju,MR,MQ,LZ,iO]
  simp [bG.of,Mp.head]
 ·have h3:=p3 (by decide) (by decide)
  have h4:=p4 (by decide)
  subst h3 h4
  have O4:uC=((ks.length / 2:Nat):Int):=by rw [PY,LZ,show Int.tdiv (ks.length:Int) 2=((ks.length / 2:Nat):Int) from rfl,i64_in _ (by omega)]
  have:=L (v24,r7) (UInt64.ofInt uC)
  rw [bL (by rw [aa (by omega)];rfl),J xQ (by rw [LY];simp only [aw];omega),LY,PX,PW,O4,iO]
  simp [bG.of,Mp.head]
 ·have h3:=p3 (by decide) (by decide)
  have h4:=p4 (by decide)
  subst h3 h4
  obtain ⟨q1,q2⟩:=p7 rfl
  have hu:u=20∨u=21∨u=22:=by
   have a:=aN.1 q1
   have b:=aN.1 q2
   simp at a b
   have:u.toNat=20∨u.toNat=21∨u.toNat=22:=by omega
   rcases this with h | h | h
   ·exact .inl (aY.1 h)
   ·exact .inr (.inl (aY.1 h))
   ·exact .inr (.inr (aY.1 h))
  have Tl:v4.b.length=w.b.length+1:=by rw [e4];simp
  rw [bL (by rcases hu with rfl | rfl | rfl <;> rfl),bL (aa (by omega)),J v4 (by omega),e4,e3]
  rcases hu with rfl | rfl | rfl <;> simp [bG.of,Mp.head] <;> rfl
 ·have h3:=p3 (by decide) (by decide)
  have h4:=p4 (by decide)
  subst h3 h4
  have:=L (203,8) u
  rw [J v5 (by rw [e5];simp only [aw];omega),e5]
  simp [bG.of,Mp.head]
 ·have h4:=p4 (by decide)
  subst h4
  have h8:=aN.1 (p8 rfl)
  simp at h8
  have:=L (v12,lx) (UInt64.ofInt v11)
  have Tg:ji.b.length≤w.b.length+9:=by rw [tt];simp only [aw];omega
  have Tf:kR.b.length≤w.b.length+10:=by rw [IX];simp only [aw,aK];omega
  rw [bL (by rw [aa (by omega)];rfl),bL (aa (by omega)),bL (aa (by omega)),J pK (by rw [L1];simp only [aw];omega),L1,IX,tt,Bb,M8 _ (by omega),yA,xq,vM,iO]
  simp [bG.of,Mp.head]
theorem ez.goal (it:Itv) (hp:decide (bG.c7 (bG.of it)≤1073741824)=true):ez.F it=some [.sl .bs (Mp.enc (bG.of it)),.i .i64 (Mp.dp (bG.of it))]:=by
 have h:=aF hp
 refine ez.dQ _ ?_
 intro v1 e1
 have hl:=Mp.oz (bG.of it)
 rw [bL (aa (by omega)),Mp.enc]
 by_cases a:Mp.dp (bG.of it)=0
 ·have l1:v1.b.length≤1099511627776:=by rw [e1];simp only [bz];omega
  rw [aa a,aR,ah,aq a,bL (by rw [aa (by simp only [aA];omega)];rfl),bL (aa l1),e1,a]
  rfl
 ·rw [ae a,aV,ak,aj a]
theorem bJ.H6:bJ.F 192=some [.i .i64 (Mp.first 192).1,.u64 (Mp.first 192).2.1,.i .i64 (Mp.first 192).2.2]:=by kernel_rfl
theorem bJ.H5:bJ.F 193=some [.i .i64 (Mp.first 193).1,.u64 (Mp.first 193).2.1,.i .i64 (Mp.first 193).2.2]:=by kernel_rfl
theorem bJ.H4:bJ.F 194=some [.i .i64 (Mp.first 194).1,.u64 (Mp.first 194).2.1,.i .i64 (Mp.first 194).2.2]:=by kernel_rfl
theorem bJ.H3:bJ.F 195=some [.i .i64 (Mp.first 195).1,.u64 (Mp.first 195).2.1,.i .i64 (Mp.first 195).2.2]:=by kernel_rfl
theorem bJ.H2:bJ.F 196=some [.i .i64 (Mp.first 196).1,.u64 (Mp.first 196).2.1,.i .i64 (Mp.first 196).2.2]:=by kernel_rfl
theorem bJ.H0:bJ.F 197=some [.i .i64 (Mp.first 197).1,.u64 (Mp.first 197).2.1,.i .i64 (Mp.first 197).2.2]:=by kernel_rfl
theorem bJ.HZ:bJ.F 198=some [.i .i64 (Mp.first 198).1,.u64 (Mp.first 198).2.1,.i .i64 (Mp.first 198).2.2]:=by kernel_rfl
theorem bJ.HY:bJ.F 199=some [.i .i64 (Mp.first 199).1,.u64 (Mp.first 199).2.1,.i .i64 (Mp.first 199).2.2]:=by kernel_rfl
theorem bJ.HX:bJ.F 200=some [.i .i64 (Mp.first 200).1,.u64 (Mp.first 200).2.1,.i .i64 (Mp.first 200).2.2]:=by kernel_rfl
theorem bJ.HW:bJ.F 201=some [.i .i64 (Mp.first 201).1,.u64 (Mp.first 201).2.1,.i .i64 (Mp.first 201).2.2]:=by kernel_rfl
theorem bJ.HV:bJ.F 202=some [.i .i64 (Mp.first 202).1,.u64 (Mp.first 202).2.1,.i .i64 (Mp.first 202).2.2]:=by kernel_rfl
theorem bJ.HU:bJ.F 203=some [.i .i64 (Mp.first 203).1,.u64 (Mp.first 203).2.1,.i .i64 (Mp.first 203).2.2]:=by kernel_rfl
theorem bJ.HT:bJ.F 204=some [.i .i64 (Mp.first 204).1,.u64 (Mp.first 204).2.1,.i .i64 (Mp.first 204).2.2]:=by kernel_rfl
theorem bJ.HS:bJ.F 205=some [.i .i64 (Mp.first 205).1,.u64 (Mp.first 205).2.1,.i .i64 (Mp.first 205).2.2]:=by kernel_rfl
theorem bJ.HR:bJ.F 206=some [.i .i64 (Mp.first 206).1,.u64 (Mp.first 206).2.1,.i .i64 (Mp.first 206).2.2]:=by kernel_rfl
theorem bJ.HQ:bJ.F 207=some [.i .i64 (Mp.first 207).1,.u64 (Mp.first 207).2.1,.i .i64 (Mp.first 207).2.2]:=by kernel_rfl
theorem bJ.HP:bJ.F 208=some [.i .i64 (Mp.first 208).1,.u64 (Mp.first 208).2.1,.i .i64 (Mp.first 208).2.2]:=by kernel_rfl
theorem bJ.HO:bJ.F 209=some [.i .i64 (Mp.first 209).1,.u64 (Mp.first 209).2.1,.i .i64 (Mp.first 209).2.2]:=by kernel_rfl
theorem bJ.HN:bJ.F 210=some [.i .i64 (Mp.first 210).1,.u64 (Mp.first 210).2.1,.i .i64 (Mp.first 210).2.2]:=by kernel_rfl
theorem bJ.HM:bJ.F 211=some [.i .i64 (Mp.first 211).1,.u64 (Mp.first 211).2.1,.i .i64 (Mp.first 211).2.2]:=by kernel_rfl
theorem bJ.HL:bJ.F 212=some [.i .i64 (Mp.first 212).1,.u64 (Mp.first 212).2.1,.i .i64 (Mp.first 212).2.2]:=by kernel_rfl
theorem bJ.HK:bJ.F 213=some [.i .i64 (Mp.first 213).1,.u64 (Mp.first 213).2.1,.i .i64 (Mp.first 213).2.2]:=by kernel_rfl
theorem bJ.HJ:bJ.F 214=some [.i .i64 (Mp.first 214).1,.u64 (Mp.first 214).2.1,.i .i64 (Mp.first 214).2.2]:=by kernel_rfl
theorem bJ.HI:bJ.F 215=some [.i .i64 (Mp.first 215).1,.u64 (Mp.first 215).2.1,.i .i64 (Mp.first 215).2.2]:=by kernel_rfl
theorem bJ.HH:bJ.F 216=some [.i .i64 (Mp.first 216).1,.u64 (Mp.first 216).2.1,.i .i64 (Mp.first 216).2.2]:=by kernel_rfl
theorem bJ.HG:bJ.F 217=some [.i .i64 (Mp.first 217).1,.u64 (Mp.first 217).2.1,.i .i64 (Mp.first 217).2.2]:=by kernel_rfl
theorem bJ.HF:bJ.F 218=some [.i .i64 (Mp.first 218).1,.u64 (Mp.first 218).2.1,.i .i64 (Mp.first 218).2.2]:=by kernel_rfl
theorem bJ.HE:bJ.F 219=some [.i .i64 (Mp.first 219).1,.u64 (Mp.first 219).2.1,.i .i64 (Mp.first 219).2.2]:=by kernel_rfl
theorem bJ.HD:bJ.F 220=some [.i .i64 (Mp.first 220).1,.u64 (Mp.first 220).2.1,.i .i64 (Mp.first 220).2.2]:=by kernel_rfl
theorem bJ.HC:bJ.F 221=some [.i .i64 (Mp.first 221).1,.u64 (Mp.first 221).2.1,.i .i64 (Mp.first 221).2.2]:=by kernel_rfl
theorem bJ.HB:bJ.F 222=some [.i .i64 (Mp.first 222).1,.u64 (Mp.first 222).2.1,.i .i64 (Mp.first 222).2.2]:=by kernel_rfl
theorem bJ.HA:bJ.F 223=some [.i .i64 (Mp.first 223).1,.u64 (Mp.first 223).2.1,.i .i64 (Mp.first 223).2.2]:=by kernel_rfl
theorem bJ.goal (c:Int) (hp:decide (0≤c∧c≤255)=true):bJ.F c=some [.i .i64 (Mp.first c).1,.u64 (Mp.first c).2.1,.i .i64 (Mp.first c).2.2]:=by
 have h:=aF hp
 by_cases hc:192≤c∧c<224
 ·have:c=192∨c=193∨c=194∨c=195∨c=196∨c=197∨c=198∨c=199∨c=200∨c=201∨c=202∨c=203∨c=204∨c=205∨c=206∨c=207∨c=208∨c=209∨c=210∨c=211∨c=212∨c=213∨c=214∨c=215∨c=216∨c=217∨c=218∨c=219∨c=220∨c=221∨c=222∨c=223:=by omega
  rcases this with rfl | rfl | rfl | rfl | rfl | rfl | rfl | rfl | rfl | rfl | rfl | rfl | rfl | rfl | rfl | rfl | rfl | rfl | rfl | rfl | rfl | rfl | rfl | rfl | rfl | rfl | rfl | rfl | rfl | rfl | rfl | rfl 
  ·exact bJ.H6
  ·exact bJ.H5
  ·exact bJ.H4
  ·exact bJ.H3
  ·exact bJ.H2
  ·exact bJ.H0
  ·exact bJ.HZ
  ·exact bJ.HY
  ·exact bJ.HX
  ·exact bJ.HW
  ·exact bJ.HV
  ·exact bJ.HU
  ·exact bJ.HT
  ·exact bJ.HS
  ·exact bJ.HR
  ·exact bJ.HQ
  ·exact bJ.HP
  ·exact bJ.HO
  ·exact bJ.HN
  ·exact bJ.HM
  ·exact bJ.HL
  ·exact bJ.HK
  ·exact bJ.HJ
  ·exact bJ.HI
  ·exact bJ.HH
  ·exact bJ.HG
  ·exact bJ.HF
  ·exact bJ.HE
  ·exact bJ.HD
  ·exact bJ.HC
  ·exact bJ.HB
  ·exact bJ.HA
 refine bJ.dQ _ ?_
 intro v1 e1 v2 e2 v3 e3 v4 e4
 intros
 unfold Mp.first
 by_cases a:c<128
 ·rw [aa a,ak,aq a]
 rw [ae a,ah,aj a]
 by_cases a:c<144
 ·rw [aa a,ak,aq a,e1,i64_in _ (by omega)]
 rw [ae a,ah,aj a]
 by_cases a:c<160
 ·rw [aa a,ak,aq a,e2,i64_in _ (by omega)]
 rw [ae a,ah,aj a]
 by_cases a:c<192
 ·rw [aa a,ak,aq a,e3,i64_in _ (by omega)]
 rw [ae a,ah,aj a,aa (show (224:Int)≤c by omega),ak,aq (show (224:Int)≤c by omega),e4,i64_in _ (by omega)]
set_option maxRecDepth 100000 in
theorem Mp.jq (c:Int) (h:0≤c∧c≤255):((Mp.first c).1=0∨(Mp.first c).1=1∨(Mp.first c).1=2∨(Mp.first c).1=3∨(Mp.first c).1=4∨(Mp.first c).1=5∨(Mp.first c).1=6∨(Mp.first c).1=8∨(Mp.first c).1=9∨(Mp.first c).1=10) ∧
  ((Mp.first c).2.2=0∨(Mp.first c).2.2=1∨(Mp.first c).2.2=2∨(Mp.first c).2.2=4∨(Mp.first c).2.2=8)∧((Mp.first c).2.2=8→(Mp.first c).1=1∨(Mp.first c).1=2∨(Mp.first c).1=9) ∧
  ((Mp.first c).2.2=0→(Mp.first c).2.1.toNat≤127)∧((Mp.first c).1=2→(Mp.first c).2.2=0→(Mp.first c).2.1.toNat≤31):=by
 obtain ⟨m,rfl⟩:∃m:Nat,c=m:=⟨c.toNat,by omega⟩
 have key:∀m:Fin 256,((Mp.first m.val).1=0∨(Mp.first m.val).1=1∨(Mp.first m.val).1=2∨(Mp.first m.val).1=3∨(Mp.first m.val).1=4∨(Mp.first m.val).1=5∨(Mp.first m.val).1=6∨(Mp.first m.val).1=8∨(Mp.first m.val).1=9∨(Mp.first m.val).1=10) ∧
  ((Mp.first m.val).2.2=0∨(Mp.first m.val).2.2=1∨(Mp.first m.val).2.2=2∨(Mp.first m.val).2.2=4∨(Mp.first m.val).2.2=8)∧((Mp.first m.val).2.2=8→(Mp.first m.val).1=1∨(Mp.first m.val).1=2∨(Mp.first m.val).1=9) ∧
  ((Mp.first m.val).2.2=0→(Mp.first m.val).2.1.toNat≤127)∧((Mp.first m.val).1=2→(Mp.first m.val).2.2=0→(Mp.first m.val).2.1.toNat≤31):=by decide +kernel
 exact key ⟨m,by omega⟩
theorem fB.goal (r:dx) (it:Itv) (p n:Int) (hp:cT.iE r=true):fB.F r it p n=some [.ag (Itv.cells (bG.val (Mp.row r.b (bG.of it) p r.at_ n).it)),.ag (cX.cells (cX.mk (Mp.row r.b (bG.of it) p r.at_ n).err (Mp.row r.b (bG.of it) p r.at_ n).at_ [])),.ag (dx.cells (dx.mk r.b (Mp.row r.b (bG.of it) p r.at_ n).pos))]:=by
 obtain ⟨h0,h1,h2⟩:=cT.iD.1 hp
 refine fB.dQ _ _ _ _ ?_
 intro v1 e1 v2 e2
 have hl:=cT.B7 r n (cT.rC r n)
 rw [bL hp]
 cases ho:cT.rC r n with
 | false =>
  have Jo:n<0∨(r.b.length:Int) - r.at_<n:=by
   have:=of_decide_eq_false ho;omega
  rw [Mp.row,aq Jo];rfl
 | true =>
  have Jo:¬(n<0∨(r.b.length:Int) - r.at_<n):=by
   have:=aF ho;omega
  rw [ho] at hl e2
  rw [Mp.row,aj Jo,aR,ah]
  by_cases a:it.kind=4
  ·rw [aa a,aR,ah,aj (show ¬(bG.of it).kind≠4 from fun h=>h a),bL (aa (by omega)),e2,show cT.nx r n true=(r.b.drop r.at_.toNat).take n.toNat from rfl]
   cases hw:ee.whole ((r.b.drop r.at_.toNat).take n.toNat) <;> rfl
  ·rw [ae a,aV,ak,aq (show (bG.of it).kind≠4 from a)];rfl
theorem Mp.Cu (b:bY) (f:Int→Mp.iv) (hf:∀q:Int,0≤q→q≤b.length→q≤(f q).pos∧(f q).pos≤b.length∧((f q).err=0→q<(f q).pos)):∀(n:Nat) (it:bG) (q:Int),0≤q→q≤b.length →
  q≤(Mp.kids f it n q).pos∧(Mp.kids f it n q).pos≤b.length:=by
 intro n
 induction n with
 | zero=>intro it q h0 h1;exact ⟨Int.le_refl _,h1⟩
 | succ n ih =>
  intro it q h0 h1
  obtain ⟨a,c,_⟩:=hf q h0 h1
  rw [Mp.kids]
  split
  ·exact ⟨a,c⟩
  ·have:=ih (.mk it.kind it.n it.bytes it.text (it.kids++[(f q).it])) (f q).pos (by omega) c
   exact ⟨by omega,this.2⟩
theorem Mp.Eo (it:bG) (p c f q:Int):(Mp.num it p c f q).pos=q:=by unfold Mp.num;split <;> rfl
theorem Mp.Ed (b:bY) (it:bG) (p q n:Int) (h:q≤b.length):q≤(Mp.row b it p q n).pos∧(Mp.row b it p q n).pos≤b.length:=by
 unfold Mp.row;repeat' split
 all_goals simp only [Mp.bad];omega
theorem Mp.zU (b:bY) (sub:Int→Mp.iv) (hf:∀q:Int,0≤q→q≤b.length→q≤(sub q).pos∧(sub q).pos≤b.length∧((sub q).err=0→q<(sub q).pos)) (p c k:Int) (n:UInt64) (long:Int) (t:UInt64) (q:Int) (h0:0≤q) (h:q≤b.length) :
  q≤(Mp.gU b sub p c k n long t q).pos∧(Mp.gU b sub p c k n long t q).pos≤b.length:=by
 unfold Mp.gU
 repeat' split
 all_goals first
  | exact ⟨Int.le_refl _,h⟩
  | (rw [Mp.Eo];exact ⟨Int.le_refl _,h⟩)
  | exact Mp.Cu b _ hf _ _ q h0 h
  | exact Mp.Ed b _ _ q _ h
theorem Mp.lB (b:bY):∀(d:Nat) (p:Int),0≤p→p≤b.length→p≤(Mp.read b d p).pos∧(Mp.read b d p).pos≤b.length∧((Mp.read b d p).err=0→p<(Mp.read b d p).pos):=by
 intro d
 induction d with
 | zero=>intro p h0 h1;exact ⟨Int.le_refl _,h1,fun h=>by simp [Mp.read,Mp.bad] at h⟩
 | succ d ih =>
  intro p h0 h1
  rw [Mp.read]
  by_cases g1:(b.length:Int)≤p
  ·rw [aq g1];exact ⟨Int.le_refl _,h1,fun h=>by simp [Mp.bad] at h⟩
  rw [aj g1]
  have hc:=Mp.jq ((b.getD p.toNat 0).toNat:Int) ⟨by omega,by have:=(b.getD p.toNat 0).toNat_lt;omega⟩
  generalize Mp.first ((b.getD p.toNat 0).toNat:Int)=F at hc
  obtain ⟨k,n0,long⟩:=F
  simp only at hc ⊢
  obtain ⟨hk,hl,_⟩:=hc
  have step:∀(q:Int),p+1≤q→q≤b.length→∀g:Mp.iv,q≤g.pos∧g.pos≤b.length→p≤g.pos∧g.pos≤b.length∧(g.err=0→p<g.pos):=fun q a c g x=>⟨by omega,x.2,fun _=>by omega⟩
  have bp:∀(e q:Int),q≤b.length→q≤(Mp.bad e p q).pos∧(Mp.bad e p q).pos≤b.length:=fun e q h=>⟨Int.le_refl _,h⟩
  unfold Mp.pw
  by_cases g2:k=0
  ·rw [aq g2];exact step (p+1) (by omega) (by omega) _ (bp _ _ (by omega))
  rw [aj g2]
  by_cases g3:(b.length:Int) - (p+1)<long
  ·rw [aq g3];exact step (p+1) (by omega) (by omega) _ (bp _ _ (by omega))
  rw [aj g3]
  unfold Mp.jB
  by_cases g4:k=10
  ·rw [aq g4]
   by_cases g5:(b.length:Int) - (p+1+long)<1
   ·rw [aq g5];exact step (p+1+long) (by omega) (by omega) _ (bp _ _ (by omega))
   rw [aj g5]
   exact step (p+1+long+1) (by omega) (by omega) _ (Mp.zU b _ ih _ _ _ _ _ _ _ (by omega) (by omega))
  ·rw [aj g4]
   exact step (p+1+long) (by omega) (by omega) _ (Mp.zU b _ ih _ _ _ _ _ _ _ (by omega) (by omega))
theorem cT.GD:∀(l:bY) (x:UInt64) (k:Nat),x.toNat<256 ^ k→k+l.length≤8→(l.foldl (fun v y=>v * 256+y.toUInt64) x).toNat<256 ^ (k+l.length)
 | [],x,k,h,_=>by simpa using h
 | y :: l,x,k,h,hl=>by
  rw [List.foldl_cons,aL,show k+(l.length+1)=(k+1)+l.length by omega]
  refine cT.GD l _ (k+1) ?_ (by simp at hl;omega)
  have hy:=y.toNat_lt
  have h8:k+1≤8:=by simp at hl;omega
  have hp:256 ^ (k+1)≤256 ^ 8:=Nat.pow_le_pow_right (by omega) h8
  rw [UInt64.toNat_add,UInt64.toNat_mul,UInt8.toNat_toUInt64,show (256:UInt64).toNat=256 from rfl,Nat.pow_succ]
  rw [Nat.pow_succ] at hp
  omega
theorem cT.mU (l:bY) (n:Nat) (h:l.length=n) (hn:n≤8):(cT.be l).toNat<256 ^ n:=by
 have:=cT.GD l 0 0 (by simp) (by omega)
 rw [Nat.zero_add,h] at this
 exact this
theorem dr.oZ (n:Nat) (b:bY) (hb:b.length≤1099511627776) (depth:Int) (hd:1≤depth∧depth≤1000) (hn:2 * depth.toNat<n+1) (M:Int) (hM:M≤8589934592) (kind:Int) (u:UInt64) (t:bY) (x7:Itv) (x8:cX) :
  ∀(k:Nat) (i:Int) (acc:List bG) (q:Int),0≤i→i+k=M→0≤q→q≤b.length→(acc.length:Int)≤q →
   dr.l2 n depth M i kind u t acc x7 x8 ⟨b,q⟩=some [.ag (Itv.cells (bG.val (Mp.kids (Mp.read b (depth - 1).toNat) (bG.mk kind u [] t acc) k q).it)),.ag (cX.cells (cX.mk (Mp.kids (Mp.read b (depth - 1).toNat) (bG.mk kind u [] t acc) k q).err (Mp.kids (Mp.read b (depth - 1).toNat) (bG.mk kind u [] t acc) k q).at_ [])),.ag (dx.cells (dx.mk b (Mp.kids (Mp.read b (depth - 1).toNat) (bG.mk kind u [] t acc) k q).pos))]:=by
 intro k
 induction k with
 | zero =>
  intro i acc q Rt hi h0 h1 ha
  refine dr.lS _ _ _ _ _ _ _ _ _ _ _ ?_
  intro v1 e1 v2 e2 v3 e3 v4 e4 v5 e5
  rw [ae (by omega),ah];rfl
 | succ k ih =>
  intro i acc q Rt hi h0 h1 ha
  refine dr.lS _ _ _ _ _ _ _ _ _ _ _ ?_
  intro v1 e1 v2 e2 v3 e3 v4 e4 v5 e5
  have tw:v1=depth - 1:=by rw [e1,i64_in _ (by omega)]
  obtain ⟨g1,g2,g3⟩:=Mp.lB b (depth - 1).toNat q h0 h1
  rw [tw] at e2 e3 e4
  simp only [bG.ib] at e2 e3 e4
  rw [aa (by omega),ak,bL (by rw [cT.iD.2 ⟨h0,h1,hb⟩,aa (by omega),aa (by omega)];rfl),Mp.kids,e2]
  by_cases a:(Mp.read b (depth - 1).toNat q).err=0
  ·rw [aa a,aR,ah,aj (fun h=>h a),e4]
   have:=g3 a
   rw [bL (fu (by simp only [aK];omega) (by simp only [aK];omega)),show v5=i+1 by rw [e5,i64_in _ (by omega)],e3]
   exact ih (i+1) (acc++[(Mp.read b (depth - 1).toNat q).it]) _ (by omega) (by omega) (by omega) g2 (by rw [aw,aK];omega)
  ·rw [ae a,aV,ak,aq a,e3];rfl
theorem dr.goal (n:Nat) (r:dx) (it:Itv) (m depth:Int) (hp:((cT.iE r&&decide (0≤m∧m≤4294967296∧1≤depth∧depth≤1000))&&decide ((2 * depth.toNat)<n+1))=true) :
  dr.F n r it m depth=some [.ag (Itv.cells (bG.val (Mp.kids (Mp.read r.b (depth - 1).toNat) (bG.mk it.kind it.n [] it.text []) (Mp.many it.kind m) r.at_).it)),.ag (cX.cells (cX.mk (Mp.kids (Mp.read r.b (depth - 1).toNat) (bG.mk it.kind it.n [] it.text []) (Mp.many it.kind m) r.at_).err (Mp.kids (Mp.read r.b (depth - 1).toNat) (bG.mk it.kind it.n [] it.text []) (Mp.many it.kind m) r.at_).at_ [])),.ag (dx.cells (dx.mk r.b (Mp.kids (Mp.read r.b (depth - 1).toNat) (bG.mk it.kind it.n [] it.text []) (Mp.many it.kind m) r.at_).pos))]:=by
 simp only [af,az] at hp
 obtain ⟨⟨hg,hm⟩,hn⟩:=hp
 obtain ⟨h0,h1,h2⟩:=cT.iD.1 hg
 refine dr.dQ _ _ _ _ _ ?_
 intro v1 e1
 have tw:v1=m * 2:=by rw [e1,i64_in _ (by omega)]
 unfold Mp.many
 by_cases a:it.kind=6
 ·rw [aa a,ak,aq a,dr.nZ]
  exact dr.oZ n r.b h2 depth (by omega) (by omega) v1 (by omega) _ _ _ _ _ _ 0 [] _ (by omega) (by omega) h0 h1 h0
 ·rw [ae a,ah,aj a,dr.nZ]
  exact dr.oZ n r.b h2 depth (by omega) (by omega) m (by omega) _ _ _ _ _ _ 0 [] _ (by omega) (by omega) h0 h1 h0
theorem Ai (n:UInt64) (k:Nat):(lz n k).toNat=n.toNat * 2 ^ k % 18446744073709551616:=by
 rw [lz,UInt64.toNat_ofNat']
theorem pW (v:UInt64):(~~~ v).toNat=18446744073709551615 - v.toNat:=by
 have:=v.toNat_lt
 have h:UInt64.size=18446744073709551616:=rfl
 rw [UInt64.toNat_not];omega
theorem DX (n:Int):(UInt64.ofInt n).toNat=(n % 18446744073709551616).toNat:=by
 have h:=lp n
 rw [je] at h;omega
theorem Mp.s6 (n:UInt64) (long:Int) (hl:long=1∨long=2∨long=4∨long=8) (hn:n.toNat<256 ^ long.toNat) (s:Int) (hs:s=64 - 8 * long) (v:UInt64)
  (hv:v = ~~~ (UInt64.ofInt (Int.fdiv (IntKind.i64.wrap ((lz n s.toNat).toNat:Int)) (2 ^ (min s.toNat IntKind.i64.bits))))) :
  match Mp.below n long with | none=>9223372036854775808≤v | some m=>v=m∧¬9223372036854775808≤v:=by
 have hw:=n.toNat_lt
 have key:∀(top:UInt64) (k L:Nat),s.toNat=k→k+L=64→0<L→top.toNat=2 ^ (L - 1)→n.toNat<2 ^ L→(match (if n<top then none else some (top - 1 - (n - top)):Option UInt64) with | none=>9223372036854775808≤v | some m=>v=m∧¬9223372036854775808≤v):=by
  intro top k L hk Tt hL ht Rf
  have hb:(2:Nat) ^ (k+(L - 1))=2 ^ 63:=by rw [show k+(L - 1)=63 by omega]
  rw [Nat.pow_add] at hb
  have E0:0<2 ^ k:=Nat.pow_pos (by omega)
  have Tw:0<2 ^ (L - 1):=Nat.pow_pos (by omega)
  have PS:2 ^ L=2 * 2 ^ (L - 1):=by
   have e:L=(L - 1)+1:=by omega
   conv=>lhs;rw [e,Nat.pow_succ]
   omega
  have hmul:n.toNat * 2 ^ k<18446744073709551616:=by
   have:n.toNat * 2 ^ k<2 ^ L * 2 ^ k:=Nat.mul_lt_mul_of_pos_right Rf E0
   rw [PS,Nat.mul_assoc,Nat.mul_comm (2 ^ (L - 1)),hb] at this
   exact this
  have Ij:(lz n s.toNat).toNat=n.toNat * 2 ^ k:=by rw [Ai,hk,Nat.mod_eq_of_lt hmul]
  have OA:min s.toNat IntKind.i64.bits=k:=by rw [hk];show min k 64=k;omega
  rw [Ij,OA] at hv
  have LC:((2:Int) ^ k)=((2 ^ k:Nat):Int):=by rw [Int.natCast_pow];rfl
  rw [LC] at hv
  have EJ:v.toNat=18446744073709551615 - (UInt64.ofInt (Int.fdiv (IntKind.i64.wrap ((n.toNat * 2 ^ k:Nat):Int)) ((2 ^ k:Nat):Int))).toNat:=by rw [hv,pW]
  by_cases a:n<top
  ·rw [aq a]
   have a':=aC.1 a
   rw [ht] at a'
   have Og:n.toNat * 2 ^ k<9223372036854775808:=by
    have:n.toNat * 2 ^ k<2 ^ (L - 1) * 2 ^ k:=Nat.mul_lt_mul_of_pos_right a' E0
    rw [Nat.mul_comm (2 ^ (L - 1)),hb] at this
    exact this
   rw [i64_in _ (by omega),Int.fdiv_eq_ediv_of_nonneg _ (by omega),show ((n.toNat * 2 ^ k:Nat):Int) / ((2 ^ k:Nat):Int)=((n.toNat * 2 ^ k / 2 ^ k:Nat):Int) from rfl,Nat.mul_div_cancel _ E0,jv,Nat.mod_eq_of_lt hw] at EJ
   have RN:2 ^ (L - 1)≤2 ^ 63:=Nat.pow_le_pow_right (by omega) (by omega)
   show 9223372036854775808≤v
   rw [aN,EJ,show (9223372036854775808:UInt64).toNat=9223372036854775808 from rfl]
   omega
  ·rw [aj a]
   have a':2 ^ (L - 1)≤n.toNat:=by rw [←ht];exact Nat.le_of_not_lt fun h=>a (aC.2 h)
   have E3:9223372036854775808≤n.toNat * 2 ^ k:=by
    have:2 ^ (L - 1) * 2 ^ k≤n.toNat * 2 ^ k:=bu _ a'
    rw [Nat.mul_comm (2 ^ (L - 1)),hb] at this
    exact this
   have QT:IntKind.i64.wrap ((n.toNat * 2 ^ k:Nat):Int)=((n.toNat:Int) - ((2 ^ L:Nat):Int)) * ((2 ^ k:Nat):Int):=by
    rw [IntKind.wrap_i64,Int.sub_mul,show ((2 ^ L:Nat):Int) * ((2 ^ k:Nat):Int)=((2 ^ L * 2 ^ k:Nat):Int) by simp,PS,Nat.mul_assoc,Nat.mul_comm (2 ^ (L - 1)),hb,show (n.toNat:Int) * ((2 ^ k:Nat):Int)=((n.toNat * 2 ^ k:Nat):Int) by simp]
    omega
   have RM:2 ^ L≤2 ^ 64:=Nat.pow_le_pow_right (by omega) (by omega)
   rw [QT,Int.mul_fdiv_cancel _ (by omega),DX] at EJ
   have e1:(1:UInt64).toNat=1:=rfl
   have hm:(top - 1 - (n - top)).toNat=2 ^ L - 1 - n.toNat:=by
    have h1:(top - 1).toNat=2 ^ (L - 1) - 1:=by
     rw [UInt64.toNat_sub_of_le _ _ (by rw [aN,ht,e1];omega),ht,e1]
    have h2:(n - top).toNat=n.toNat - 2 ^ (L - 1):=by
     rw [UInt64.toNat_sub_of_le _ _ (by rw [aN,ht];exact a'),ht]
    rw [UInt64.toNat_sub_of_le _ _ (by rw [aN,h1,h2];omega),h1,h2];omega
   refine ⟨aY.1 ?_,fun h=>?_⟩
   ·rw [hm,EJ];omega
   ·rw [aN,EJ,show (9223372036854775808:UInt64).toNat=9223372036854775808 from rfl] at h
    omega
 unfold Mp.below
 rcases hl with rfl | rfl | rfl | rfl
 ·exact key 128 56 8 (by omega) rfl (by decide) rfl (by simpa using hn)
 ·exact key 32768 48 16 (by omega) rfl (by decide) rfl (by simpa using hn)
 ·exact key 2147483648 32 32 (by omega) rfl (by decide) rfl (by simpa using hn)
 ·exact key 9223372036854775808 0 64 (by omega) rfl (by decide) rfl (by simpa using hn)
section
variable {n:Nat} {depth p c k long q:Int} {u t:UInt64} {b:bY}
def Mp.iv.Bh (b:bY) (g:Mp.iv):List TV:=[.ag (Itv.cells (bG.val g.it)),.ag (cX.cells (cX.mk g.err g.at_ [])),.ag (dx.cells (dx.mk b g.pos))]
theorem cm.sG (x3:Itv) (x4:cX) (v:UInt64) (x6:UInt64) (hv:match (none:Option UInt64) with | none=>True | some _=>True) :
  cm.j4 n p c v x3 x4 k x6 [] ⟨b,q⟩=some (Mp.iv.Bh b (if 9223372036854775808≤v then Mp.bad 3 p q else Mp.num (.mk k v [] [] []) p c (Mp.signed v).1 q)):=by
 refine cm.wB _ _ _ _ _ _ _ _ _ _ ?_
 intro v1 e1
 by_cases a:9223372036854775808≤v
 ·rw [aa a,ak,aq a];rfl
 ·rw [ae a,ah,aj a,e1]
  simp only [Mp.num,bG.of]
  split <;> rfl
theorem cm.nY (x8:Itv) (x9:cX) (hd:1≤depth∧depth≤1000) (hn:2 * depth.toNat<n) (hb:b.length≤1099511627776) (hq:0≤q∧q≤b.length)
  (hk:k=1∨k=2∨k=3∨k=4∨k=5∨k=6∨k=8∨k=9∨k=10) (hl:long=0∨long=1∨long=2∨long=4∨long=8)
  (hu:long≠0→u.toNat<256 ^ long.toNat) (Gd:long=0→u.toNat≤127) (h8:long=8→k=1∨k=2∨k=9) :
  cm.j3 n depth p c k u long k (decide (k=8∨k=9)) x8 x9 k t [] ⟨b,q⟩=some (Mp.iv.Bh b (Mp.gU b (Mp.read b (depth - 1).toNat) p c k u long t q)):=by
 refine cm.pZ _ _ _ _ _ _ _ _ _ _ _ _ _ _ _ ?_
 intro v1 e1 v2 e2 v3 e3 v4 e4 v5 e5 v6 e6 v7 e7 v8 e8 v9 e9 v10 tc v11 vM v12 yA lx xq
 have hg:cT.iE ⟨b,q⟩=true:=cT.iD.2 ⟨hq.1,hq.2,hb⟩
 unfold Mp.gU
 by_cases a:k=8∨k=9
 ·rw [aa a,ak,aq a];rfl
 rw [ae a,ah,aj a]
 by_cases a1:k=1
 ·rw [aa a1,ak,aq a1,e1]
  simp only [Mp.num,bG.of]
  split <;> rfl
 rw [ae a1,ah,aj a1]
 by_cases a2:k=2
 ·rw [aa a2,ak,aq a2]
  by_cases a3:long=0
  ·rw [ae (by omega),ah,aq a3,cm.sG _ _ _ _ trivial,aj (fun h=>by
    have:=aN.1 h
    have:=Gd a3
    rw [show (9223372036854775808:UInt64).toNat=9223372036854775808 from rfl] at *
    omega)]
  ·have EZ:long=1∨long=2∨long=4∨long=8:=by omega
   have sV:v3=64 - 8 * long:=by rw [e3,e2,i64_in (8 * long) (by omega),i64_in _ (by omega)]
   have hB:=Mp.s6 u long EZ (hu a3) v3 sV _ rfl
   rw [aa (by omega),ak,aj a3,bL (aa (by omega)),bL (aa (by omega)),cm.sG _ _ _ _ trivial,e5,e4]
   cases yu:Mp.below u long with
   | none=>rw [yu] at hB;rw [aq hB]
   | some m=>rw [yu] at hB;rw [aj hB.2,hB.1]
 rw [ae a2,ah,aj a2]
 have CD:u.toNat<4294967296:=by
  by_cases a3:long=0
  ·have:=Gd a3;omega
  ·have EN:=hu a3
   have IM:long=1∨long=2∨long=4:=by
    rcases hl with h | h | h | h | h
    ·exact (a3 h).elim
    ·exact .inl h
    ·exact .inr (.inl h)
    ·exact .inr (.inr h)
    ·have:=h8 h;omega
   rcases IM with h | h | h <;> rw [h] at EN <;> simp at EN <;> omega
 have DU:v6=(u.toNat:Int):=by rw [e6,i64_in _ (by omega)]
 have hs:Mp.ma k=true:=by unfold Mp.ma;exact aa (by omega)
 rw [bL (by rw [hs,aa (by omega)];rfl)]
 have h7:(!decide ((Mp.sized k v6).1=c) || v7)=true:=by rw [e7];cases decide ((Mp.sized k v6).1=c) <;> rfl
 simp only [aG,cI]
 rw [bL h7,e8,DU]
 by_cases a4:(Mp.sized k u.toNat).1≠c∨127<t
 ·rw [aq a4,show (cond (!decide ((Mp.sized k u.toNat).1=c)) true (decide (127<t)))=true by
   by_cases a5:(Mp.sized k u.toNat).1=c
   ·rw [aa a5];simpa using a4.resolve_left (fun h=>h a5)
   ·rw [ae a5];rfl];rfl
 ·have a5:(Mp.sized k u.toNat).1=c:=Classical.byContradiction fun h=>a4 (.inl h)
  have a6:¬127<t:=fun h=>a4 (.inr h)
  rw [aj a4,a5,aa rfl,ae a6]
  simp only [aR,ah,bB,cI]
  rw [e9]
  by_cases k5:k=5
  ·rw [aa k5,ak,ak,aq k5,bL (by rw [hg,aa (by omega),aa (by omega)];rfl),tc,vM,DU,show Mp.many (Itv.kind ⟨k,t,[],[],[]⟩) (u.toNat:Int)=u.toNat by unfold Mp.many;rw [aj (by show ¬k=6;omega)];omega]
   rfl
  rw [ae k5,ah,aj k5]
  by_cases k6:k=6
  ·rw [aa k6,ak,aq k6,bL (by rw [hg,aa (by omega),aa (by omega)];rfl),tc,vM,DU,show Mp.many (Itv.kind ⟨k,t,[],[],[]⟩) (u.toNat:Int)=2 * u.toNat by unfold Mp.many;rw [aq (by show k=6;omega)];omega]
   rfl
  rw [ae k6,ah,aj k6,bL hg,yA,xq,DU]
  rfl
theorem xS (v:UInt8):UInt64.ofInt ((v.toNat:Nat):Int)=v.toUInt64:=by
 apply aY.1
 have:=v.toNat_lt
 rw [jv,UInt8.toNat_toUInt64];omega
theorem cm.jd (x6:Itv) (x7:cX) (hd:1≤depth∧depth≤1000) (hn:2 * depth.toNat<n) (hb:b.length≤1099511627776) (hq:0≤q∧q≤b.length)
  (hk:k=1∨k=2∨k=3∨k=4∨k=5∨k=6∨k=8∨k=9∨k=10) (hl:long=0∨long=1∨long=2∨long=4∨long=8)
  (hu:long≠0→u.toNat<256 ^ long.toNat) (Gd:long=0→u.toNat≤127) (h8:long=8→k=1∨k=2∨k=9) :
  cm.j1 n depth p c k u long x6 x7 ⟨b,q⟩=some (Mp.iv.Bh b (Mp.jB b (Mp.read b (depth - 1).toNat) p c k u long q)):=by
 have hg:cT.iE ⟨b,q⟩=true:=cT.iD.2 ⟨hq.1,hq.2,hb⟩
 have two:∀(t:UInt64) (q':Int),0≤q'∧q'≤b.length→cm.j2 n depth p c k u long x6 x7 k t [] ⟨b,q'⟩=some (Mp.iv.Bh b (Mp.gU b (Mp.read b (depth - 1).toNat) p c k u long t q')):=by
  intro t q' AD
  rw [cm.jC]
  have J:=cm.nY (n:=n) (depth:=depth) (p:=p) (c:=c) (k:=k) (long:=long) (q:=q') (u:=u) (t:=t) (b:=b) x6 x7 hd hn hb AD hk hl hu Gd h8
  by_cases a:k=8
  ·rw [aa a,ak,←J]
   congr 1
   exact (aa (Or.inl a)).symm
  ·rw [ae a,ah,←J]
   congr 1
   by_cases a9:k=9
   ·rw [aa a9];exact (aa (Or.inr a9)).symm
   ·rw [ae a9];exact (ae (by omega)).symm
 rw [cm.nZ,Mp.jB]
 by_cases a:k=10
 ·rw [aa a,ak,aq a,bL hg]
  by_cases m:q<b.length
  ·rw [show cT.more ⟨b,q⟩=true from aa m,aR,ah,aj (by omega),show cT.byte ⟨b,q⟩=((b.getD q.toNat 0).toNat:Int) from aq m,xS]
   exact two _ (q+1) (by omega)
  ·rw [show cT.more ⟨b,q⟩=false from ae m,aV,ak,aq (by omega)];rfl
 ·rw [ae a,ah,aj a]
  exact two 0 q hq
end
theorem cm.goal (n:Nat) (r:dx) (depth:Int) (hp:((cT.iE r&&decide (0≤depth∧depth≤1000))&&decide ((2 * depth.toNat+1)<n+1))=true) :
  cm.F n r depth=some [.ag (Itv.cells (bG.val (Mp.read r.b depth.toNat r.at_).it)),.ag (cX.cells (cX.mk (Mp.read r.b depth.toNat r.at_).err (Mp.read r.b depth.toNat r.at_).at_ [])),.ag (dx.cells (dx.mk r.b (Mp.read r.b depth.toNat r.at_).pos))]:=by
 simp only [af,az] at hp
 obtain ⟨⟨hg,hd⟩,hn⟩:=hp
 obtain ⟨h0,h1,h2⟩:=cT.iD.1 hg
 obtain ⟨b,p⟩:=r
 simp only at h0 h1 h2 ⊢
 show cm.F n ⟨b,p⟩ depth=some (Mp.iv.Bh b (Mp.read b depth.toNat p))
 refine cm.dQ _ _ _ ?_
 intro v1 e1 v2 e2 v3 e3 v4 e4 v5 e5 v6 e6 v7 e7 v8 e8 v9 e9
 by_cases a:depth=0
 ·rw [aa a,ak,a,e1];rfl
 obtain ⟨d,rfl⟩:∃d:Nat,depth=(d:Int)+1:=⟨(depth - 1).toNat,by omega⟩
 rw [ae a,ah,bL hg,show ((d:Int)+1).toNat=d+1 by omega,Mp.read]
 by_cases m:p<b.length
 ·have hm:cT.more ⟨b,p⟩=true:=aa m
  have PL:cT.byte ⟨b,p⟩=((b.getD p.toNat 0).toNat:Int):=aq m
  have hc:0≤((b.getD p.toNat 0).toNat:Int)∧((b.getD p.toNat 0).toNat:Int)≤255:=⟨by omega,by have:=(b.getD p.toNat 0).toNat_lt;omega⟩
  rw [PL] at e3 e4 e5
  rw [hm] at e7 e8 e9
  have PN:cT.pg ⟨b,p⟩ 1 true=⟨b,p+1⟩:=rfl
  rw [PN] at e7 e8 e9
  obtain ⟨F1,F2,F3,F4,F5⟩:=Mp.jq _ hc
  rw [hm,aR,ah,PL,PN,bL (aa hc),aj (by omega),←e3,←e4,←e5,Mp.pw]
  rw [←e3,←e4,←e5] at *
  by_cases k0:v3=0
  ·rw [aa k0,ak,aq k0,e6];rfl
  rw [ae k0,ah,aj k0]
  have mX:cT.iE ⟨b,p+1⟩=true:=cT.iD.2 ⟨by show 0≤p+1;omega,by show p+1≤(b.length:Int);omega,h2⟩
  by_cases l0:v5=0
  ·rw [ae (by omega),ah,aj (by omega),aq l0,l0,Int.add_zero]
   have J:=cm.jd (n:=n) (depth:=(d:Int)+1) (p:=p) (c:=((b.getD p.toNat 0).toNat:Int)) (k:=v3) (long:=0) (q:=p+1) (u:=v4) (b:=b) ⟨0,0,[],[],[]⟩ ⟨0,0,[]⟩ (by omega) (by omega) h2 (by omega) (by omega) (by omega) (fun h=>(h rfl).elim) (fun _=>F4 l0) (fun h=>by omega)
   rw [show ((d:Int)+1 - 1).toNat=d by omega] at J
   exact J
  ·rw [aa (by omega),ak,bL mX]
   have DT:v8=!decide ((b.length:Int) - (p+1)<v5):=by
    rw [e8,cT.pz]
    by_cases x:(b.length:Int) - (p+1)<v5
    ·rw [aa x];exact ae (by show ¬(1≤v5∧v5≤8∧v5≤(b.length:Int) - (p+1));omega)
    ·rw [ae x];exact aa (by show 1≤v5∧v5≤8∧v5≤(b.length:Int) - (p+1);omega)
   rw [←e8] at e7 e9
   by_cases x:(b.length:Int) - (p+1)<v5
   ·rw [aa x] at DT
    rw [aq x,DT,e2,e9,DT];rfl
   ·rw [ae x] at DT
    rw [aj x,aj l0,DT,e9,e7,DT,aV,aR,ah]
    have yu:=cT.mU ((b.drop (p+1).toNat).take v5.toNat) v5.toNat (by rw [bh,aS];omega) (by omega)
    have J:=cm.jd (n:=n) (depth:=(d:Int)+1) (p:=p) (c:=((b.getD p.toNat 0).toNat:Int)) (k:=v3) (long:=v5) (q:=p+1+v5) (u:=cT.be ((b.drop (p+1).toNat).take v5.toNat)) (b:=b) ⟨0,0,[],[],[]⟩ ⟨0,0,[]⟩ (by omega) (by omega) h2 (by omega) (by omega) F2 (fun _=>yu) (fun h=>(l0 h).elim) F3
    rw [show ((d:Int)+1 - 1).toNat=d by omega] at J
    exact J
 ·have hm:cT.more ⟨b,p⟩=false:=ae m
  rw [hm,aV,ak,aq (by omega),e2];rfl
theorem eA.goal (b:bY) (depth:Int) (hp:decide (b.length≤1099511627776)=true):eA.F b depth=some [.ag (Itv.cells (bG.val (Mp.dec b depth).1)),.ag (cX.cells (Mp.dec b depth).2)]:=by
 have hb:=aF hp
 refine eA.dQ _ _ ?_
 intro v1 e1 v2 e2 v3 e3 v4 e4 v5 e5
 simp only [aG,bB,cI]
 have tw:v1=decide (depth<0∨1000<depth):=by
  rw [e1]
  by_cases a:depth<0 <;> by_cases b:1000<depth <;> simp [a,b]
 rw [tw,Mp.dec]
 by_cases a:depth<0∨1000<depth
 ·rw [aa a,ak,aq a,e2]
 have hg:cT.iE ⟨b,0⟩=true:=cT.iD.2 ⟨Int.le_refl _,by show (0:Int)≤(b.length:Int);omega,hb⟩
 obtain ⟨g1,g2,_⟩:=Mp.lB b depth.toNat 0 (Int.le_refl _) (by omega)
 simp only at e3 e4
 rw [ae a,ah,aj a,bL hp,bL (by rw [hg,aa (by omega)];rfl),e3]
 by_cases x:(Mp.read b depth.toNat 0).err=0
 ·have Rv:cT.iE v4=true:=by rw [e4];exact cT.iD.2 ⟨g1,g2,hb⟩
  rw [aa x,aR,ah,aj (fun h=>h x),bL Rv,e5,e4]
  by_cases y:(Mp.read b depth.toNat 0).pos<b.length
  ·rw [aa (by show 0<(b.length:Int) - (Mp.read b depth.toNat 0).pos;omega),ak,aq y]
  ·rw [ae (by show ¬0<(b.length:Int) - (Mp.read b depth.toNat 0).pos;omega),ah,aj y];rfl
 ·rw [ae x,aV,ak,aq x];rfl
theorem er.goal (it:Itv) (hp:decide (bG.c7 (bG.of it)≤1099511627776)=true):er.F it=some [.i .i64 (Mp.own (bG.of it))]:=by
 have h:=aF hp
 rw [bG.ln] at h
 have Gk:=bG.jS it.kids
 obtain ⟨k,n,b,t,ks⟩:=it
 simp only at h Gk
 refine er.dQ _ ?_
 intro v1 h1 v2 h2 v3 h3 v4 h4 v5 h5 v6 h6 v7 h7 v8 h8 v9 h9 v10 nA v11 zN v12 zM lx zL ji AL mY yv mW zK kR C3 pK IL qz IK v20 IJ v21 II ta IH uC Jt v24 Gu r7 Js xQ Jr DO LO v28 LN xP LM v30 LL v31 LK Mf OZ M6 OY
 simp only at h1 h2 h3 h4 h5 h6 h7 h8 h9 nA zN zM zL AL yv zK C3 IL IK IJ II IH Jt Gu Js Jr LO LN LM LL LK OZ OY ⊢
 subst h7 zN IL IK IH Js LM
 simp only [aG,bB,aO,cI,Sb,Sa,Bool.and_true,show (!decide ((2:Int)=0))=true from rfl,aa (show t.length≤1099511627776 by omega)]
 have l0:∀{α:Type} (l:List α),decide ((0:Int)<(l.length:Int))=decide (l≠[]):=by
  intro α l;rw [aX];cases l <;> simp <;> omega
 have R3:v31=((ks.length / 2:Nat):Int):=by rw [LK,yv,show Int.tdiv (ks.length:Int) 2=((ks.length / 2:Nat):Int) from rfl,i64_in _ (by omega)]
 have e5:v5=decide (k<1∨10<k∨k=7):=by
  rw [h5,h4];by_cases a:k<1 <;> by_cases c:10<k <;> by_cases d:k=7 <;> simp [a,c,d]
 have e3:v3=decide (¬(k=3∨k=4∨k=5∨k=6)):=by
  rw [h3,h2,h1];by_cases a:k=3 <;> by_cases c:k=4 <;> by_cases d:k=5 <;> by_cases e:k=6 <;> simp [a,c,d,e]
 have xq:lx=decide (((k=3∨k=4∨k=5∨k=6)∧n≠0)∨(k≠3∧k≠10∧b≠[])∨(k≠4∧t≠[])):=by
  rw [zL,zM,nA,h8,h6,e3,h9,l0]
  by_cases a:k=3∨k=4∨k=5∨k=6 <;> by_cases c:n=0 <;> by_cases d:k=3 <;> by_cases e:k=10 <;> by_cases f:b=[] <;> by_cases g:k=4 <;> by_cases g':t=[] <;> simp [a,c,d,e,f,g,g']
 have Bb:mW=decide (k≠5∧k≠6∧ks≠[]):=by
  rw [zK,AL,yv,l0]
  by_cases d:k=5 <;> by_cases e:k=6 <;> by_cases f:ks=[] <;> simp [d,e,f]
 have LY:(cond v24 true xQ)=decide ((k=2∧9223372036854775808≤n)∨(k=8∧(n<20∨22<n))∨(k=10∧127<n)∨(k=6∧ks.length % 2≠0)):=by
  rw [Gu,Jt,II,IJ,C3,Jr,yv,show Int.tmod (ks.length:Int) 2=((ks.length % 2:Nat):Int) from rfl,show decide (((ks.length % 2:Nat):Int)=0)=decide (ks.length % 2=0) from aX.2 (by omega)]
  by_cases a:k=2 <;> by_cases c:k=8 <;> by_cases d:k=10 <;> by_cases e:k=6 <;> by_cases f:(9223372036854775808:UInt64)≤n <;> by_cases g:n<20 <;> by_cases g':22<n <;> by_cases g2:127<n <;> by_cases g3:ks.length % 2=0 <;> simp only [a,c,d,e,f,g,g',g2,g3,decide_true,decide_false,ak,ah,aR,aV,true_and,false_and,and_true,and_false,true_or,or_true,or_false,false_or,or_self,not_true,not_false_iff,ne_eq] <;> first | rfl | omega
 have RZ:Mf=decide (4294967296≤b.length∨4294967296≤t.length∨(k=5∧4294967296≤ks.length)∨4294967296≤ks.length / 2):=by
  have c1:∀m:Nat,decide ((4294967296:Int)≤(m:Int))=decide (4294967296≤m):=fun m=>aX.2 (by omega)
  rw [OZ,LL,LN,R3,h9,LO,yv,c1,c1,c1,c1]
  by_cases a:4294967296≤b.length <;> by_cases c:4294967296≤t.length <;> by_cases d:k=5 <;> by_cases e:4294967296≤ks.length <;> by_cases f:4294967296≤ks.length / 2 <;> simp [a,c,d,e,f]
 rw [e5,xq,Bb,LY,RZ,OY,bG.of,Mp.own]
 by_cases a1:k<1∨10<k∨k=7
 ·rw [aa a1,aq a1];rfl
 rw [ae a1,aj a1,ah]
 by_cases a2:((k=3∨k=4∨k=5∨k=6)∧n≠0)∨(k≠3∧k≠10∧b≠[])∨(k≠4∧t≠[])
 ·rw [aa a2,aq a2];rfl
 rw [ae a2,aj a2,ah]
 by_cases a3:k≠5∧k≠6∧ks≠[]
 ·rw [aa a3,aq a3];rfl
 rw [ae a3,aj a3,ah]
 by_cases a4:(k=2∧9223372036854775808≤n)∨(k=8∧(n<20∨22<n))∨(k=10∧127<n)∨(k=6∧ks.length % 2≠0)
 ·rw [aa a4,aq a4];rfl
 rw [ae a4,aj a4,ah]
 by_cases a5:4294967296≤b.length∨4294967296≤t.length∨(k=5∧4294967296≤ks.length)∨4294967296≤ks.length / 2
 ·rw [aa a5,aq a5];rfl
 rw [ae a5,aj a5,ah]
 cases hw:ee.whole t <;> rfl
theorem bX.fH (n:Nat) (it:Itv) (hb:bG.db it.kids≤1099511627776) (hn:bG.db it.kids<n):∀(m i:Nat) (e:Int),i+m=it.kids.length→bX.l1 n e i it=some [.i .i64 (if e=0 then Mp.gf (it.kids.drop i) else e)]:=by
 have hk:=bG.jS it.kids
 intro m
 induction m with
 | zero =>
  intro i e hi
  refine bX.eC _ _ _ _ ?_
  intro v1 e1 v2 e2 v3 e3 v4 e4
  simp only [aG,cI]
  rw [e2,ae (by omega),ah,ah,aJ (by omega)]
  split
  ·rename_i h;rw [h];rfl
  ·rfl
 | succ m ih =>
  intro i e hi
  refine bX.eC _ _ _ _ ?_
  intro v1 e1 v2 e2 v3 e3 v4 e4
  simp only [aG,cI]
  have vq:i<it.kids.length:=by omega
  have xa:=bG.og it.kids i vq
  rw [aI,bG.ib] at e3
  rw [e2,aa (by omega),ak]
  by_cases a:e=0
  ·rw [aa a,ak,aq a,bL (fq (by omega) (by omega)),aI,bG.ib,bL (by rw [aa (by omega),aa (by omega)];rfl),show v4=((i+1:Nat):Int) by rw [e4,i64_in _ (by omega)];omega,ih _ _ (by omega),e3,Mp.z7 it.kids i vq]
  ·rw [ae a,ah,aj a]
theorem bX.goal (n:Nat) (it:Itv) (hp:((decide (bG.c7 (bG.of it)≤1099511627776))&&decide ((bG.c7 (bG.of it))<n+1))=true):bX.F n it=some [.i .i64 (Mp.dp (bG.of it))]:=by
 simp only [af,az] at hp
 obtain ⟨h,hn⟩:=hp
 rw [bX.fM,bL (aa h)]
 rw [bG.ln] at h hn
 have hl:=bX.fH n it (by omega) (by omega) it.kids.length 0 (Mp.own (bG.of it)) (by omega)
 rw [Mp.yF]
 exact hl
theorem dJ.goal (n:UInt64):dJ.F n=some [.i .i64 (Mp.wide n)]:=by
 rw [dJ.fM,Mp.wide]
 by_cases a:n<256
 ·rw [aa a,aq a];rfl
 rw [ae a,aj a,ah]
 by_cases a:n<65536
 ·rw [aa a,aq a];rfl
 rw [ae a,aj a,ah]
 by_cases a:n<4294967296
 ·rw [aa a,aq a];rfl
 rw [ae a,aj a,ah]
theorem dK.goal (n:Int):dK.F n=some [.u8 (Mp.step n)]:=by
 rw [dK.fM,Mp.step]
 by_cases a:n=1
 ·rw [aa a,aq a];rfl
 rw [ae a,aj a,ah]
 by_cases a:n=2
 ·rw [aa a,aq a];rfl
 rw [ae a,aj a,ah]
 by_cases a:n=4
 ·rw [aa a,aq a];rfl
 rw [ae a,aj a,ah]
theorem cG.fH (N:Int) (hN:0≤N∧N≤8):∀(m:Nat) (i:Int) (x:UInt64) (acc:bY),0≤i→i+m=N→acc.length≤100+i→cG.l1 x N acc i=some [.sl .bs (acc++cT.iK x m)]:=by
 intro m
 induction m with
 | zero =>
  intro i x acc h0 hi ha
  refine cG.eC _ _ _ _ ?_
  intro v1 e1 v2 e2 v3 e3
  simp only [aG,cI]
  rw [e1,ae (by omega),ah,ah,cT.iK,aM]
 | succ m ih =>
  intro i x acc h0 hi ha
  refine cG.eC _ _ _ _ ?_
  intro v1 e1 v2 e2 v3 e3
  simp only [aG,cI]
  rw [e1,aa (by omega),ak,aa (by omega),ak,bL (fu (by simp only [aK];omega) (by simp only [aK];omega)),show (!decide ((256:UInt64)=0))=true from rfl,cI,show v3=i+1 by rw [e3,i64_in _ (by omega)],ih _ _ _ (by omega) (by omega) (by rw [aw,aK];omega),e2,tA,cT.iK,aZ]
  rfl
theorem cG.goal (v:UInt64) (n:Int) (hp:decide (0≤n∧n≤8)=true):cG.F v n=some [.sl .bs (cT.iK v n.toNat)]:=by
 have h:=aF hp
 rw [cG.fM]
 exact cG.fH n h n.toNat 0 v [] (by omega) (by omega) (by simp)
theorem bS.fH (l:bY) (hl:l.length≤8):∀(k:Nat) (acc:bY),k≤l.length→acc.length+k≤100→bS.l1 l acc ((k:Int) - 1)=some [.sl .bs (acc++(l.take k).reverse)]:=by
 intro k
 induction k with
 | zero =>
  intro acc _ _
  refine bS.eC _ _ _ ?_
  intro v1 e1 v2 e2
  rw [ae (by omega),ah];simp
 | succ k ih =>
  intro acc hk ha
  refine bS.eC _ _ _ ?_
  intro v1 e1 v2 e2
  rw [show ((k+1:Nat):Int) - 1=(k:Int) by omega] at *
  rw [aI] at e1
  rw [aa (by omega),ak,bL (fq (by omega) (by omega)),bL (fu (by simp only [aK];omega) (by simp only [aK];omega)),show v2=(k:Int) - 1 by rw [e2,i64_in _ (by omega)],ih _ (by omega) (by rw [aw,aK];omega),List.take_succ_eq_append_getElem (by omega),List.reverse_append,e1,aH,aD (by omega)]
  simp
theorem bS.goal (v:UInt64) (n:Int) (hp:decide (0≤n∧n≤8)=true):bS.F v n=some [.sl .bs (cT.eQ v n.toNat)]:=by
 have h:=aF hp
 refine bS.dQ _ _ ?_
 intro v1 e1 v2 e2
 rw [cT.kv] at e1
 rw [bL hp,show v2=((n.toNat:Nat):Int) - 1 by rw [e2,e1,i64_in _ (by omega)],bS.fH _ (by rw [cT.kv];omega) _ _ (by rw [cT.kv];omega) (by simp;omega),List.take_of_length_le (by rw [cT.kv];omega)]
 rfl
theorem cV.fH (b:bY) (hb:b.length≤1099511627776) (a N:Int) (ha:0≤a) (hN:0≤N∧N≤8∧a+N≤b.length):∀(m:Nat) (i:Int) (x:UInt64),0≤i→i+m=N→cV.l1 b a N x i=some [.u64 (((b.drop (a+i).toNat).take m).foldl (fun v y=>v * 256+y.toUInt64) x),.b true]:=by
 intro m
 induction m with
 | zero =>
  intro i x h0 hi
  refine cV.eC _ _ _ _ _ ?_
  intro v1 e1 v2 e2 v3 e3
  rw [ae (by omega),ah,List.take_zero];rfl
 | succ m ih =>
  intro i x h0 hi
  refine cV.eC _ _ _ _ _ ?_
  intro v1 e1 v2 e2 v3 e3
  have hw:IntKind.i64.wrap (a+i)=a+i:=i64_in _ (by omega)
  rw [hw] at e1 ⊢
  have hc:(a+i).toNat<b.length:=by omega
  rw [aa (by omega),ak,bL (fq (by omega) (by omega)),show v3=i+1 by rw [e3,i64_in _ (by omega)],ih _ _ (by omega) (by omega),drop_cons hc 0,List.take_succ_cons,List.foldl_cons,←e1,e2,xS,show (a+(i+1)).toNat=(a+i).toNat+1 by omega]
theorem cV.goal (b:bY) (a n:Int) (hp:decide (b.length≤1099511627776)=true):cV.F b a n=some [.u64 (cT.be (Mp.kk b a n)),.b (Mp.kq b a n)]:=by
 have h:=aF hp
 refine cV.dQ _ _ _ ?_
 intro v1 e1 v2 e2 v3 e3 v4 e4 v5 e5
 simp only [aG,bB,aO,cI]
 have sV:v3=decide (n<1∨8<n∨a<0∨(b.length:Int)<a):=by
  rw [e3,e2,e1];by_cases x1:n<1 <;> by_cases x2:8<n <;> by_cases x3:a<0 <;> by_cases x4:(b.length:Int)<a <;> simp [x1,x2,x3,x4]
 have IV:v5=!Mp.kq b a n:=by
  rw [e5,sV,Mp.kq]
  by_cases x:n<1∨8<n∨a<0∨(b.length:Int)<a
  ·rw [aa x,ak,ae (by omega)];rfl
  ·rw [ae x,ah,e4,i64_in _ (by omega)]
   by_cases y:(b.length:Int) - a<n
   ·rw [aa y,ae (by omega)];rfl
   ·rw [ae y,aa (by omega)];rfl
 rw [IV]
 cases ho:Mp.kq b a n with
 | false=>rw [Mp.kk,ho];rfl
 | true =>
  have Jo:=aF ho
  rw [aR,ah,cV.fH b h a n (by omega) (by omega) n.toNat 0 0 (by omega) (by omega),Mp.kk,ho,ak,Int.add_zero]
  rfl
theorem Mp.lv (n:UInt64):(Mp.wide n=1∧n.toNat<256)∨(Mp.wide n=2∧256≤n.toNat∧n.toNat<65536)∨(Mp.wide n=4∧65536≤n.toNat∧n.toNat<4294967296)∨(Mp.wide n=8∧4294967296≤n.toNat):=by
 unfold Mp.wide
 have h1:(n<256)=(n.toNat<256):=propext aC
 have h2:(n<65536)=(n.toNat<65536):=propext aC
 have h3:(n<4294967296)=(n.toNat<4294967296):=propext aC
 simp only [h1,h2,h3]
 repeat' split
 all_goals omega
theorem Ch (a b:Int):pX a b=max a b:=by unfold pX;omega
theorem dq.goal (f:UInt8) (n:UInt64) (least:Int) (hp:decide (least≤8)=true):dq.F f n least=some [.sl .bs (Mp.form f n least)]:=by
 have h:=aF hp
 refine dq.dQ _ _ _ ?_
 intro v1 e1 v2 e2 v3 e3
 rw [Ch] at *
 have hw:=Mp.lv n
 have hl:v3.length≤8:=by rw [e3,cT.gy];omega
 have h2:v2.length=1:=by rw [e2];rfl
 rw [bL (aa (by omega)),bL (fu (by omega) (by omega)),e2,e3,e1];rfl
theorem Mp.C7 (f:UInt8) (n:UInt64) (least:Int) (h:least≤8):(Mp.form f n least).length≤9:=by
 have hw:=Mp.lv n
 rw [Mp.form,aL,cT.gy];omega
theorem dV.goal (n k:UInt64):dV.F n k=some [.sl .bs (Mp.ext n k)]:=by
 refine dV.dQ _ _ ?_
 intro v1 e1 v2 e2 v3 e3 v4 e4 v5 e5 v6 e6 v7 e7
 rw [tA] at e1
 have hl:v7.length≤9:=by rw [e7];exact Mp.C7 _ _ _ (by omega)
 unfold Mp.ext
 subst e1
 by_cases a:n=1
 ·rw [aa a,aq a,ak,e2]
 rw [ae a,aj a,ah]
 by_cases a:n=2
 ·rw [aa a,aq a,ak,e3]
 rw [ae a,aj a,ah]
 by_cases a:n=4
 ·rw [aa a,aq a,ak,e4]
 rw [ae a,aj a,ah]
 by_cases a:n=8
 ·rw [aa a,aq a,ak,e5]
 rw [ae a,aj a,ah]
 by_cases a:n=16
 ·rw [aa a,aq a,ak,e6]
 rw [ae a,aj a,ah,bL (aa (by omega)),bL (fu (by simp only [aK];omega) (by simp only [aK];omega)),e7]
theorem cP.goal (n:UInt64):cP.F n=some [.sl .bs (Mp.put (Mp.signed n) (~~~ n))]:=by
 refine cP.dQ _ ?_
 intro v1 e1 v2 e2 v3 e3 v4 e4 v5 e5 v6 e6 v7 e7 v8 e8 v9 e9
 have l2:v2.length=1:=by rw [e2];rfl
 have l4:v4.length=1:=by rw [e4];rfl
 have l6:v6.length=1:=by rw [e6];rfl
 have l8:v8.length=1:=by rw [e8];rfl
 have l3:v3.length=1:=by rw [e3,cT.gy];rfl
 have l5:v5.length=2:=by rw [e5,cT.gy];rfl
 have l7:v7.length=4:=by rw [e7,cT.gy];rfl
 have l9:v9.length=8:=by rw [e9,cT.gy];rfl
 unfold Mp.signed
 by_cases a:n<32
 ·rw [aa a,aq a,ak,e1]
  have h:=aC.1 a
  simp at h
  have e:((255:UInt64) - n).toNat=255 - n.toNat:=by
   rw [UInt64.toNat_sub_of_le _ _ (by rw [aN];simp;omega)];rfl
  rw [e,show ((255 - n.toNat:Nat):Int)=255 - (n.toNat:Int) by omega]
  rfl
 rw [ae a,aj a,ah]
 by_cases a:n<128
 ·rw [aa a,aq a,ak,bL (aa (by omega)),bL (fu (by omega) (by omega)),e2,e3];rfl
 rw [ae a,aj a,ah]
 by_cases a:n<32768
 ·rw [aa a,aq a,ak,bL (aa (by omega)),bL (fu (by omega) (by omega)),e4,e5];rfl
 rw [ae a,aj a,ah]
 by_cases a:n<2147483648
 ·rw [aa a,aq a,ak,bL (aa (by omega)),bL (fu (by omega) (by omega)),e6,e7];rfl
 rw [ae a,aj a,ah,bL (aa (by omega)),bL (fu (by omega) (by omega)),e8,e9];rfl
theorem Mp.C8 (f:Int) (hf:0≤f∧f≤250) (n:UInt64) (hn:n.toNat<4294967296):Mp.form (UInt8.ofInt f) n 1=Mp.put (if n.toNat<256 then (f,1) else if n.toNat<65536 then (f+1,2) else (f+2,4)) n:=by
 have k:∀(d:Int) (D:UInt8),D=UInt8.ofInt d→0≤d∧d≤5→UInt8.ofInt f+D - 0=UInt8.ofInt (f+d):=by
  intro d D hD hd
  subst hD
  have hs:UInt8.ofInt f+UInt8.ofInt d - 0=UInt8.ofInt f+UInt8.ofInt d:=by simp
  rw [hs]
  apply UInt8.toNat_inj.1
  obtain ⟨f',rfl⟩:∃m:Nat,f=m:=⟨f.toNat,by omega⟩
  obtain ⟨d',rfl⟩:∃m:Nat,d=m:=⟨d.toNat,by omega⟩
  rw [UInt8.toNat_add,mZ,mZ,show ((f':Int)+(d':Int))=((f'+d':Nat):Int) by omega,mZ];omega
 unfold Mp.form
 rcases Mp.lv n with ⟨h,h'⟩ | ⟨h,h',h2⟩ | ⟨h,h',h2⟩ | ⟨h,h'⟩
 ·rw [h,aq h',show max (1:Int) 1=1 from rfl,show Mp.step 1=0 from rfl,k 0 0 rfl (by omega),Int.add_zero];rfl
 ·rw [h,aj (by omega),aq h2,show max (2:Int) 1=2 from rfl,show Mp.step 2=1 from rfl,show Mp.step 1=0 from rfl,k 1 1 rfl (by omega)];rfl
 ·rw [h,aj (by omega),aj (by omega),show max (4:Int) 1=4 from rfl,show Mp.step 4=2 from rfl,show Mp.step 1=0 from rfl,k 2 2 rfl (by omega)];rfl
 ·omega
theorem Mp.Gw (f:UInt8) (n:UInt64) (hn:n.toNat<4294967296) (g:Int) (hg:f=UInt8.ofInt g) (hg1:f+2 - 1=UInt8.ofInt (g+1)) (hg0:f+1 - 1=f):Mp.form f n 2=Mp.put (if n.toNat<65536 then (g,2) else (g+1,4)) n:=by
 unfold Mp.form
 rcases Mp.lv n with ⟨h,h'⟩ | ⟨h,h',h2⟩ | ⟨h,h',h2⟩ | ⟨h,h'⟩
 ·rw [h,aq (by omega),show max (1:Int) 2=2 from rfl,show Mp.step 2=1 from rfl,hg0,hg];rfl
 ·rw [h,aq h2,show max (2:Int) 2=2 from rfl,show Mp.step 2=1 from rfl,hg0,hg];rfl
 ·rw [h,aj (by omega),show max (4:Int) 2=4 from rfl,show Mp.step 4=2 from rfl,show Mp.step 2=1 from rfl,hg1];rfl
 ·omega
theorem iz {n:Nat} (h:n<4294967296):(UInt64.ofNat n).toNat=n:=by rw [UInt64.toNat_ofNat'];omega
theorem Mp.po (m:Int):Mp.sized 4 m=if m<32 then (160+m,0) else if m<256 then (217,1) else if m<65536 then (218,2) else (219,4):=by simp [Mp.sized,Mp.fixed,Mp.fix,Mp.tD,Mp.base]
theorem Mp.qY (m:Int) (h:0≤m):Mp.sized 3 m=if m<256 then (196,1) else if m<65536 then (197,2) else (198,4):=by
 have:¬m<0:=by omega
 simp [Mp.sized,Mp.fixed,Mp.fix,Mp.tD,Mp.base,this]
theorem Mp.pq (m:Int):Mp.sized 5 m=if m<16 then (144+m,0) else if m<65536 then (220,2) else (221,4):=by simp [Mp.sized,Mp.fixed,Mp.fix,Mp.tD,Mp.base]
theorem Mp.sized_map (m:Int):Mp.sized 6 m=if m<16 then (128+m,0) else if m<65536 then (222,2) else (223,4):=by simp [Mp.sized,Mp.fixed,Mp.fix,Mp.tD,Mp.base]
theorem Mp.tG (m:Int) (h:0≤m) (h1:m≠1) (h2:m≠2) (h4:m≠4) (h8:m≠8) (zK:m≠16):Mp.sized 10 m=if m<256 then (199,1) else if m<65536 then (200,2) else (201,4):=by
 have:¬m<0:=by omega
 simp [Mp.sized,Mp.fixed,Mp.fix,Mp.tD,Mp.base,this,h1,h2,h4,h8,zK]
theorem uU (m:Nat) (a b c:Int × Int) (n:UInt64):Mp.put (if m<256 then a else if m<65536 then b else c) n=Mp.put (if (m:Int)<256 then a else if (m:Int)<65536 then b else c) n:=by
 refine congrArg (fun f=>Mp.put f n) ?_
 by_cases x:m<256
 ·rw [aq x,aq (show (m:Int)<256 by omega)]
 ·rw [aj x,aj (show ¬(m:Int)<256 by omega)]
  by_cases y:m<65536
  ·rw [aq y,aq (show (m:Int)<65536 by omega)]
  ·rw [aj y,aj (show ¬(m:Int)<65536 by omega)]
theorem zh (m:Nat) (a b:Int × Int) (n:UInt64):Mp.put (if m<65536 then a else b) n=Mp.put (if (m:Int)<65536 then a else b) n:=by
 refine congrArg (fun f=>Mp.put f n) ?_
 by_cases y:m<65536
 ·rw [aq y,aq (show (m:Int)<65536 by omega)]
 ·rw [aj y,aj (show ¬(m:Int)<65536 by omega)]
theorem Mp.ud (m:Nat) (h:m<4294967296):(if m<32 then [UInt8.ofInt (160+(m:Int))] else Mp.form 217 (UInt64.ofNat m) 1)=Mp.put (Mp.sized 4 m) (UInt64.ofNat m):=by
 rw [Mp.po]
 by_cases a:m<32
 ·rw [aq a,aq (show (m:Int)<32 by omega)];rfl
 ·rw [aj a,aj (show ¬(m:Int)<32 by omega),show (217:UInt8)=UInt8.ofInt 217 from rfl,Mp.C8 217 (by omega) _ (by rw [iz h];exact h),iz h]
  exact uU m _ _ _ _
theorem Mp.sN (m:Nat) (h:m<4294967296):Mp.form 196 (UInt64.ofNat m) 1=Mp.put (Mp.sized 3 m) (UInt64.ofNat m):=by
 rw [Mp.qY _ (by omega),show (196:UInt8)=UInt8.ofInt 196 from rfl,Mp.C8 196 (by omega) _ (by rw [iz h];exact h),iz h]
 exact uU m _ _ _ _
theorem Mp.ue (m:Nat) (h:m<4294967296):(if m<16 then [UInt8.ofInt (144+(m:Int))] else Mp.form 220 (UInt64.ofNat m) 2)=Mp.put (Mp.sized 5 m) (UInt64.ofNat m):=by
 rw [Mp.pq]
 by_cases a:m<16
 ·rw [aq a,aq (show (m:Int)<16 by omega)];rfl
 ·rw [aj a,aj (show ¬(m:Int)<16 by omega),Mp.Gw 220 _ (by rw [iz h];exact h) 220 rfl rfl rfl,iz h]
  exact zh m _ _ _
theorem Mp.xe (m:Nat) (h:m<4294967296):(if m<16 then [UInt8.ofInt (128+(m:Int))] else Mp.form 222 (UInt64.ofNat m) 2)=Mp.put (Mp.sized 6 m) (UInt64.ofNat m):=by
 rw [Mp.sized_map]
 by_cases a:m<16
 ·rw [aq a,aq (show (m:Int)<16 by omega)];rfl
 ·rw [aj a,aj (show ¬(m:Int)<16 by omega),Mp.Gw 222 _ (by rw [iz h];exact h) 222 rfl rfl rfl,iz h]
  exact zh m _ _ _
theorem Mp.xf (m:Nat) (t:UInt64) (h:m<4294967296):Mp.ext (UInt64.ofNat m) t=Mp.put (Mp.sized 10 m) (UInt64.ofNat m)++[t.toUInt8]:=by
 have e:∀k:Nat,k<17→(UInt64.ofNat m=UInt64.ofNat k)=(m=k):=by
  intro k hk
  apply propext
  constructor
  ·intro q
   have:=congrArg UInt64.toNat q
   rwa [iz h,iz (by omega)] at this
  ·rintro rfl;rfl
 have e1:=e 1 (by omega);have e2:=e 2 (by omega);have e4:=e 4 (by omega);have e8:=e 8 (by omega);have Bb:=e 16 (by omega)
 unfold Mp.ext
 by_cases a:m=1
 ·subst a;rfl
 by_cases a2:m=2
 ·subst a2;rfl
 by_cases a4:m=4
 ·subst a4;rfl
 by_cases a8:m=8
 ·subst a8;rfl
 by_cases Ma:m=16
 ·subst Ma;rfl
 have n1:¬UInt64.ofNat m=1:=fun q=>a (e1.mp q)
 have n2:¬UInt64.ofNat m=2:=fun q=>a2 (e2.mp q)
 have n4:¬UInt64.ofNat m=4:=fun q=>a4 (e4.mp q)
 have n8:¬UInt64.ofNat m=8:=fun q=>a8 (e8.mp q)
 have Qy:¬UInt64.ofNat m=16:=fun q=>Ma (Bb.mp q)
 rw [aj n1,aj n2,aj n4,aj n8,aj Qy]
 congr 1
 rw [Mp.tG _ (by omega) (by omega) (by omega) (by omega) (by omega) (by omega),show (199:UInt8)=UInt8.ofInt 199 from rfl,Mp.C8 199 (by omega) _ (by rw [iz h];exact h),iz h]
 exact uU m _ _ _ _
theorem Mp.AQ (n:UInt64):(if n<128 then [UInt8.ofInt (n.toNat:Int)] else Mp.form 204 n 1)=Mp.put (Mp.eK n) n:=by
 unfold Mp.eK
 by_cases a:n<128
 ·rw [aq a,aq a];rfl
 rw [aj a,aj a]
 unfold Mp.form
 have h1:(n<256)=(n.toNat<256):=propext aC
 have h2:(n<65536)=(n.toNat<65536):=propext aC
 have h3:(n<4294967296)=(n.toNat<4294967296):=propext aC
 simp only [h1,h2,h3]
 rcases Mp.lv n with ⟨h,h'⟩ | ⟨h,h',h2⟩ | ⟨h,h',h2⟩ | ⟨h,h'⟩
 ·rw [h,aq h'];rfl
 ·rw [h,aj (by omega),aq h2];rfl
 ·rw [h,aj (by omega),aj (by omega),aq h2];rfl
 ·rw [h,aj (by omega),aj (by omega),aj (by omega)];rfl
theorem dL.goal (it:Itv) (hp:(decide (bG.c7 (bG.of it)≤1099511627776)&&decide (Mp.own (bG.of it)=0))=true):dL.F it=some [.sl .bs (Mp.head (bG.of it))]:=by
 simp only [af,az] at hp
 obtain ⟨hb,ho⟩:=hp
 obtain ⟨p1,p2,p3,p4,p5,p6,p7,p8,p9,JW,Mh,JV,Mg,Nt⟩:=Mp.JY it ho
 obtain ⟨k,u,b,t,ks⟩:=it
 simp only at p1 p2 p3 p4 p5 p6 p7 p8 p9 JW Mh JV Mg Nt
 refine dL.dQ _ ?_
 intro v1 e1 v2 e2 v3 e3 v4 e4 v5 e5 v6 e6 v7 e7 v8 e8 v9 e9 v10 tc v11 vM v12 yA lx xq ji tt mY zX mW Bb kR IX pK L1 qz LZ v20 MR v21 MQ ta Ju
 simp only at e1 e2 e3 e5 e7 e8 yA tt Ju ⊢
 have ko:k=1∨k=2∨k=3∨k=4∨k=5∨k=6∨k=8∨k=9∨k=10:=by omega
 have Mo:(decide ((1:Int)≤8))=true:=rfl
 have Mn:(decide ((2:Int)≤8))=true:=rfl
 have QD:(decide ((0:Int)≤8∧(8:Int)≤8))=true:=rfl
 rcases ko with rfl | rfl | rfl | rfl | rfl | rfl | rfl | rfl | rfl
 all_goals simp only [Int.reduceEq,decide_true,decide_false,ak,ah,Mo,Mn,QD,cI,aV,bG.of,Mp.head,if_true,if_false]
 ·rw [←Mp.AQ,e1,e2]
  by_cases a:u<128
  ·rw [aa a,aq a,ak]
  ·rw [ae a,aj a,ah]
 ·rw [e3]
 ·rw [xq,yA,iO,Mp.sN _ JW]
 ·rw [←Mp.ud _ Mh]
  by_cases a:t.length<32
  ·rw [aa (by omega),ak,aq a,tc,e9,e8,i64_in _ (by omega)]
  ·rw [ae (by omega),ah,aj a,vM,e8,iO]
 ·have q:=JV rfl
  rw [←Mp.ue _ q]
  by_cases a:ks.length<16
  ·rw [aa (by omega),ak,aq a,Bb,zX,tt,i64_in _ (by omega)]
  ·rw [ae (by omega),ah,aj a,IX,tt,iO]
 ·have Gk:=bG.jS ks
  rw [bG.ln] at hb
  simp only at hb
  have L0:pK=((ks.length / 2:Nat):Int):=by rw [L1,tt,show Int.tdiv (ks.length:Int) 2=((ks.length / 2:Nat):Int) from rfl,i64_in _ (by omega)]
  rw [←Mp.xe _ Mg]
  by_cases a:ks.length<32
  ·rw [aa (by omega),ak,aq (by omega),MR,LZ,L0,i64_in _ (by omega)]
  ·rw [ae (by omega),ah,aj (by omega),MQ,L0,iO]
 ·obtain ⟨q1,q2⟩:=p7 rfl
  have hu:u=20∨u=21∨u=22:=by
   have a:=aN.1 q1
   have b:=aN.1 q2
   simp at a b
   have:u.toNat=20∨u.toNat=21∨u.toNat=22:=by omega
   rcases this with h | h | h
   ·exact .inl (aY.1 h)
   ·exact .inr (.inl (aY.1 h))
   ·exact .inr (.inr (aY.1 h))
  rw [e5,e4]
  rcases hu with rfl | rfl | rfl <;> rfl
 ·have l6:v6.length=1:=by rw [e6];rfl
  have l7:v7.length=8:=by rw [e7,cT.gy];rfl
  rw [bL (fu (by omega) (by omega)),e6,e7];rfl
 ·rw [Ju,yA,iO,Mp.xf _ _ JW]
theorem dA.goal (n:UInt64) (size:Int) (hp:decide (size=1∨size=2∨size=4∨size=8)=true):dA.F n size=some [.u64 ((Mp.below n size).getD 0),.b (Mp.below n size).isSome]:=by
 have h:=aF hp
 refine dA.dQ _ _ ?_
 intro v1 e1 v2 e2 v3 e3 v4 e4
 have sV:v3=if size=1 then 128 else if size=2 then 32768 else if size=4 then 2147483648 else 9223372036854775808:=by
  rw [e3,e2,e1]
  rcases h with rfl | rfl | rfl | rfl <;> rfl
 rw [e4,Mp.below]
 simp only [←sV]
 by_cases a:n<v3
 ·rw [aa a,aq a];rfl
 ·rw [ae a,aj a];rfl
theorem cT.sv:∀(n:Nat) (v w:UInt64),v.toNat % 256 ^ n=w.toNat % 256 ^ n→cT.iK v n=cT.iK w n
 | 0,_,_,_=>rfl
 | n+1,v,w,h=>by
  have hd:∀x:Nat,x % 256 ^ (n+1) % 256=x % 256:=fun x=>Nat.mod_mod_of_dvd x ⟨256 ^ n,by rw [Nat.pow_succ,Nat.mul_comm]⟩
  have hq:∀x:Nat,x % 256 ^ (n+1) / 256=x / 256 % 256 ^ n:=fun x=>by rw [Nat.pow_succ,Nat.mul_comm,Nat.mod_mul_right_div_self]
  have h1:v.toUInt8=w.toUInt8:=by
   apply UInt8.toNat_inj.1
   rw [UInt64.toNat_toUInt8,UInt64.toNat_toUInt8]
   have a:=hd v.toNat;have b:=hd w.toNat
   rw [h] at a
   show v.toNat % 256=w.toNat % 256
   omega
  have h2:(v / 256).toNat % 256 ^ n=(w / 256).toNat % 256 ^ n:=by
   rw [UInt64.toNat_div,UInt64.toNat_div,show (256:UInt64).toNat=256 from rfl,←hq,←hq,h]
  rw [cT.iK,cT.iK,h1,cT.sv n _ _ h2]
theorem cT.wh (n:Nat) (v w:UInt64) (h:v.toNat % 256 ^ n=w.toNat % 256 ^ n):cT.eQ v n=cT.eQ w n:=by
 rw [cT.eQ,cT.eQ,cT.sv n v w h]
theorem cT.Fq (l:bY) (y:UInt8):cT.be (l++[y])=cT.be l * 256+y.toUInt64:=by
 rw [cT.be,List.foldl_append];rfl
theorem cT.BM:∀(n:Nat) (l:bY),l.length=n→n≤8→cT.eQ (cT.be l) n=l
 | 0,l,h,_=>by
  have:l=[]:=bA h
  subst this;rfl
 | n+1,l,h,hn=>by
  obtain ⟨l',y,rfl⟩:∃l' y,l=l'++[y]:=⟨l.dropLast,l.getLast (by intro q;rw [q] at h;cases h),(List.dropLast_concat_getLast _).symm⟩
  have hl:l'.length=n:=by simpa using h
  have hb:=cT.mU l' n hl (by omega)
  have hp:256 ^ n≤256 ^ 7:=Nat.pow_le_pow_right (by omega) (by omega)
  have hy:=y.toNat_lt
  have hv:(cT.be l' * 256+y.toUInt64).toNat=(cT.be l').toNat * 256+y.toNat:=by
   rw [UInt64.toNat_add,UInt64.toNat_mul,UInt8.toNat_toUInt64,show (256:UInt64).toNat=256 from rfl];omega
  rw [cT.Fq,cT.eQ,cT.iK,List.reverse_cons]
  have h1:(cT.be l' * 256+y.toUInt64).toUInt8=y:=by
   apply UInt8.toNat_inj.1
   rw [UInt64.toNat_toUInt8,hv];omega
  have h2:(cT.be l' * 256+y.toUInt64) / 256=cT.be l':=by
   apply aY.1
   rw [UInt64.toNat_div,hv,show (256:UInt64).toNat=256 from rfl];omega
  rw [h1,h2]
  have:=cT.BM n l' hl (by omega)
  rw [cT.eQ] at this
  rw [this]
theorem re (n:UInt64):UInt64.ofInt (n.toNat:Int)=n:=by
 apply aY.1
 have:=n.toNat_lt
 rw [jv];omega
theorem Mp.sP (n:UInt64):Mp.first (Mp.eK n).1=(1,if (Mp.eK n).2=0 then n else 0,(Mp.eK n).2)∧0≤(Mp.eK n).1∧(Mp.eK n).1≤255∧((Mp.eK n).2≠0→n.toNat<256 ^ (Mp.eK n).2.toNat):=by
 unfold Mp.eK
 have gS:=n.toNat_lt
 by_cases a:n<128
 ·have h:=aC.1 a
  simp at h
  rw [aq a]
  refine ⟨?_,by show (0:Int)≤_;omega,by show (n.toNat:Int)≤255;omega,fun h=>(h rfl).elim⟩
  show Mp.first (n.toNat:Int)=(1,n,0)
  rw [Mp.first,aq (by omega),re]
 rw [aj a]
 by_cases a:n<256
 ·have h:=aC.1 a
  rw [aq a];exact ⟨rfl,by decide,by decide,fun _=>h⟩
 rw [aj a]
 by_cases a:n<65536
 ·have h:=aC.1 a
  rw [aq a];exact ⟨rfl,by decide,by decide,fun _=>h⟩
 rw [aj a]
 by_cases a:n<4294967296
 ·have h:=aC.1 a
  rw [aq a];exact ⟨rfl,by decide,by decide,fun _=>h⟩
 rw [aj a];exact ⟨rfl,by decide,by decide,fun _=>gS⟩
theorem Mp.vA (n:UInt64):Mp.first (Mp.signed n).1=(2,if (Mp.signed n).2=0 then n else 0,(Mp.signed n).2)∧0≤(Mp.signed n).1∧(Mp.signed n).1≤255∧((Mp.signed n).2=1∧n.toNat<128∨(Mp.signed n).2=2∧n.toNat<32768∨(Mp.signed n).2=4∧n.toNat<2147483648∨(Mp.signed n).2=8∨(Mp.signed n).2=0∧n.toNat<32):=by
 unfold Mp.signed
 by_cases a:n<32
 ·have h:=aC.1 a
  simp at h
  rw [aq a]
  refine ⟨?_,by show (0:Int)≤255 - (n.toNat:Int);omega,by show 255 - (n.toNat:Int)≤255;omega,.inr (.inr (.inr (.inr ⟨rfl,h⟩)))⟩
  show Mp.first (255 - (n.toNat:Int))=(2,n,0)
  rw [Mp.first,aj (by omega),aj (by omega),aj (by omega),aj (by omega),aq (by omega),show 255 - (255 - (n.toNat:Int))=(n.toNat:Int) by omega,re]
 rw [aj a]
 by_cases a:n<128
 ·have h:=aC.1 a
  rw [aq a];exact ⟨rfl,by decide,by decide,.inl ⟨rfl,h⟩⟩
 rw [aj a]
 by_cases a:n<32768
 ·have h:=aC.1 a
  rw [aq a];exact ⟨rfl,by decide,by decide,.inr (.inl ⟨rfl,h⟩)⟩
 rw [aj a]
 by_cases a:n<2147483648
 ·have h:=aC.1 a
  rw [aq a];exact ⟨rfl,by decide,by decide,.inr (.inr (.inl ⟨rfl,h⟩))⟩
 rw [aj a];exact ⟨rfl,by decide,by decide,.inr (.inr (.inr (.inl rfl)))⟩
theorem Mp.ob (k:Int) (hk:k=3∨k=4∨k=5∨k=6∨k=10) (m:Nat) (h:m<4294967296) :
  Mp.first (Mp.sized k m).1=(k,if (Mp.sized k m).2=0 then UInt64.ofNat m else 0,(Mp.sized k m).2)∧0≤(Mp.sized k m).1∧(Mp.sized k m).1≤255∧((Mp.sized k m).2≠0→m<256 ^ (Mp.sized k m).2.toNat):=by
 have Pc:∀(f1 f2 f4:Int),Mp.first f1=(k,0,1)→Mp.first f2=(k,0,2)→Mp.first f4=(k,0,4)→(0≤f1∧f1≤255)→(0≤f2∧f2≤255)→(0≤f4∧f4≤255)→∀S:Int × Int,S=(if (m:Int)<256 then (f1,1) else if (m:Int)<65536 then (f2,2) else (f4,4)) →
   Mp.first S.1=(k,if S.2=0 then UInt64.ofNat m else 0,S.2)∧0≤S.1∧S.1≤255∧(S.2≠0→m<256 ^ S.2.toNat):=by
  intro f1 f2 f4 h1 h2 h4 b1 b2 b4 S hS
  by_cases a:(m:Int)<256
  ·rw [aq a] at hS;subst hS;exact ⟨h1,b1.1,b1.2,fun _=>by show m<256;omega⟩
  rw [aj a] at hS
  by_cases a:(m:Int)<65536
  ·rw [aq a] at hS;subst hS;exact ⟨h2,b2.1,b2.2,fun _=>by show m<65536;omega⟩
  rw [aj a] at hS;subst hS;exact ⟨h4,b4.1,b4.2,fun _=>h⟩
 have L6:∀(f2 f4:Int),Mp.first f2=(k,0,2)→Mp.first f4=(k,0,4)→(0≤f2∧f2≤255)→(0≤f4∧f4≤255)→∀S:Int × Int,S=(if (m:Int)<65536 then (f2,2) else (f4,4)) →
   Mp.first S.1=(k,if S.2=0 then UInt64.ofNat m else 0,S.2)∧0≤S.1∧S.1≤255∧(S.2≠0→m<256 ^ S.2.toNat):=by
  intro f2 f4 h2 h4 b2 b4 S hS
  by_cases a:(m:Int)<65536
  ·rw [aq a] at hS;subst hS;exact ⟨h2,b2.1,b2.2,fun _=>by show m<65536;omega⟩
  rw [aj a] at hS;subst hS;exact ⟨h4,b4.1,b4.2,fun _=>h⟩
 rcases hk with rfl | rfl | rfl | rfl | rfl
 ·exact Pc 196 197 198 rfl rfl rfl (by omega) (by omega) (by omega) _ (Mp.qY _ (by omega))
 ·by_cases a:(m:Int)<32
  ·rw [Mp.po,aq a]
   refine ⟨?_,by show 0≤160+(m:Int);omega,by show 160+(m:Int)≤255;omega,fun h=>(h rfl).elim⟩
   show Mp.first (160+(m:Int))=(4,UInt64.ofNat m,0)
   rw [Mp.first,aj (by omega),aj (by omega),aj (by omega),aq (by omega),show 160+(m:Int) - 160=m by omega,iO]
  ·exact Pc 217 218 219 rfl rfl rfl (by omega) (by omega) (by omega) _ (by rw [Mp.po,aj a])
 ·by_cases a:(m:Int)<16
  ·rw [Mp.pq,aq a]
   refine ⟨?_,by show 0≤144+(m:Int);omega,by show 144+(m:Int)≤255;omega,fun h=>(h rfl).elim⟩
   show Mp.first (144+(m:Int))=(5,UInt64.ofNat m,0)
   rw [Mp.first,aj (by omega),aj (by omega),aq (by omega),show 144+(m:Int) - 144=m by omega,iO]
  ·exact L6 220 221 rfl rfl (by omega) (by omega) _ (by rw [Mp.pq,aj a])
 ·by_cases a:(m:Int)<16
  ·rw [Mp.sized_map,aq a]
   refine ⟨?_,by show 0≤128+(m:Int);omega,by show 128+(m:Int)≤255;omega,fun h=>(h rfl).elim⟩
   show Mp.first (128+(m:Int))=(6,UInt64.ofNat m,0)
   rw [Mp.first,aj (by omega),aq (by omega),show 128+(m:Int) - 128=m by omega,iO]
  ·exact L6 222 223 rfl rfl (by omega) (by omega) _ (by rw [Mp.sized_map,aj a])
 ·by_cases a:m=1∨m=2∨m=4∨m=8∨m=16
  ·rcases a with rfl | rfl | rfl | rfl | rfl <;> exact ⟨rfl,by decide,by decide,fun h=>(h rfl).elim⟩
  ·exact Pc 199 200 201 rfl rfl rfl (by omega) (by omega) (by omega) _ (Mp.tG _ (by omega) (by omega) (by omega) (by omega) (by omega) (by omega))
theorem bF.H6:bF.F 192=some [.i .i64 (Mp.first 192).1,.u64 (Mp.first 192).2.1,.i .i64 (Mp.first 192).2.2,.i .i64 (if (Mp.first 192).1=10 then 1 else 0)]:=by kernel_rfl
theorem bF.H5:bF.F 193=some [.i .i64 (Mp.first 193).1,.u64 (Mp.first 193).2.1,.i .i64 (Mp.first 193).2.2,.i .i64 (if (Mp.first 193).1=10 then 1 else 0)]:=by kernel_rfl
theorem bF.H4:bF.F 194=some [.i .i64 (Mp.first 194).1,.u64 (Mp.first 194).2.1,.i .i64 (Mp.first 194).2.2,.i .i64 (if (Mp.first 194).1=10 then 1 else 0)]:=by kernel_rfl
theorem bF.H3:bF.F 195=some [.i .i64 (Mp.first 195).1,.u64 (Mp.first 195).2.1,.i .i64 (Mp.first 195).2.2,.i .i64 (if (Mp.first 195).1=10 then 1 else 0)]:=by kernel_rfl
theorem bF.H2:bF.F 196=some [.i .i64 (Mp.first 196).1,.u64 (Mp.first 196).2.1,.i .i64 (Mp.first 196).2.2,.i .i64 (if (Mp.first 196).1=10 then 1 else 0)]:=by kernel_rfl
theorem bF.H0:bF.F 197=some [.i .i64 (Mp.first 197).1,.u64 (Mp.first 197).2.1,.i .i64 (Mp.first 197).2.2,.i .i64 (if (Mp.first 197).1=10 then 1 else 0)]:=by kernel_rfl
theorem bF.HZ:bF.F 198=some [.i .i64 (Mp.first 198).1,.u64 (Mp.first 198).2.1,.i .i64 (Mp.first 198).2.2,.i .i64 (if (Mp.first 198).1=10 then 1 else 0)]:=by kernel_rfl
theorem bF.HY:bF.F 199=some [.i .i64 (Mp.first 199).1,.u64 (Mp.first 199).2.1,.i .i64 (Mp.first 199).2.2,.i .i64 (if (Mp.first 199).1=10 then 1 else 0)]:=by kernel_rfl
theorem bF.HX:bF.F 200=some [.i .i64 (Mp.first 200).1,.u64 (Mp.first 200).2.1,.i .i64 (Mp.first 200).2.2,.i .i64 (if (Mp.first 200).1=10 then 1 else 0)]:=by kernel_rfl
theorem bF.HW:bF.F 201=some [.i .i64 (Mp.first 201).1,.u64 (Mp.first 201).2.1,.i .i64 (Mp.first 201).2.2,.i .i64 (if (Mp.first 201).1=10 then 1 else 0)]:=by kernel_rfl
theorem bF.HV:bF.F 202=some [.i .i64 (Mp.first 202).1,.u64 (Mp.first 202).2.1,.i .i64 (Mp.first 202).2.2,.i .i64 (if (Mp.first 202).1=10 then 1 else 0)]:=by kernel_rfl
theorem bF.HU:bF.F 203=some [.i .i64 (Mp.first 203).1,.u64 (Mp.first 203).2.1,.i .i64 (Mp.first 203).2.2,.i .i64 (if (Mp.first 203).1=10 then 1 else 0)]:=by kernel_rfl
theorem bF.HT:bF.F 204=some [.i .i64 (Mp.first 204).1,.u64 (Mp.first 204).2.1,.i .i64 (Mp.first 204).2.2,.i .i64 (if (Mp.first 204).1=10 then 1 else 0)]:=by kernel_rfl
theorem bF.HS:bF.F 205=some [.i .i64 (Mp.first 205).1,.u64 (Mp.first 205).2.1,.i .i64 (Mp.first 205).2.2,.i .i64 (if (Mp.first 205).1=10 then 1 else 0)]:=by kernel_rfl
theorem bF.HR:bF.F 206=some [.i .i64 (Mp.first 206).1,.u64 (Mp.first 206).2.1,.i .i64 (Mp.first 206).2.2,.i .i64 (if (Mp.first 206).1=10 then 1 else 0)]:=by kernel_rfl
theorem bF.HQ:bF.F 207=some [.i .i64 (Mp.first 207).1,.u64 (Mp.first 207).2.1,.i .i64 (Mp.first 207).2.2,.i .i64 (if (Mp.first 207).1=10 then 1 else 0)]:=by kernel_rfl
theorem bF.HP:bF.F 208=some [.i .i64 (Mp.first 208).1,.u64 (Mp.first 208).2.1,.i .i64 (Mp.first 208).2.2,.i .i64 (if (Mp.first 208).1=10 then 1 else 0)]:=by kernel_rfl
theorem bF.HO:bF.F 209=some [.i .i64 (Mp.first 209).1,.u64 (Mp.first 209).2.1,.i .i64 (Mp.first 209).2.2,.i .i64 (if (Mp.first 209).1=10 then 1 else 0)]:=by kernel_rfl
theorem bF.HN:bF.F 210=some [.i .i64 (Mp.first 210).1,.u64 (Mp.first 210).2.1,.i .i64 (Mp.first 210).2.2,.i .i64 (if (Mp.first 210).1=10 then 1 else 0)]:=by kernel_rfl
theorem bF.HM:bF.F 211=some [.i .i64 (Mp.first 211).1,.u64 (Mp.first 211).2.1,.i .i64 (Mp.first 211).2.2,.i .i64 (if (Mp.first 211).1=10 then 1 else 0)]:=by kernel_rfl
theorem bF.HL:bF.F 212=some [.i .i64 (Mp.first 212).1,.u64 (Mp.first 212).2.1,.i .i64 (Mp.first 212).2.2,.i .i64 (if (Mp.first 212).1=10 then 1 else 0)]:=by kernel_rfl
theorem bF.HK:bF.F 213=some [.i .i64 (Mp.first 213).1,.u64 (Mp.first 213).2.1,.i .i64 (Mp.first 213).2.2,.i .i64 (if (Mp.first 213).1=10 then 1 else 0)]:=by kernel_rfl
theorem bF.HJ:bF.F 214=some [.i .i64 (Mp.first 214).1,.u64 (Mp.first 214).2.1,.i .i64 (Mp.first 214).2.2,.i .i64 (if (Mp.first 214).1=10 then 1 else 0)]:=by kernel_rfl
theorem bF.HI:bF.F 215=some [.i .i64 (Mp.first 215).1,.u64 (Mp.first 215).2.1,.i .i64 (Mp.first 215).2.2,.i .i64 (if (Mp.first 215).1=10 then 1 else 0)]:=by kernel_rfl
theorem bF.HH:bF.F 216=some [.i .i64 (Mp.first 216).1,.u64 (Mp.first 216).2.1,.i .i64 (Mp.first 216).2.2,.i .i64 (if (Mp.first 216).1=10 then 1 else 0)]:=by kernel_rfl
theorem bF.HG:bF.F 217=some [.i .i64 (Mp.first 217).1,.u64 (Mp.first 217).2.1,.i .i64 (Mp.first 217).2.2,.i .i64 (if (Mp.first 217).1=10 then 1 else 0)]:=by kernel_rfl
theorem bF.HF:bF.F 218=some [.i .i64 (Mp.first 218).1,.u64 (Mp.first 218).2.1,.i .i64 (Mp.first 218).2.2,.i .i64 (if (Mp.first 218).1=10 then 1 else 0)]:=by kernel_rfl
theorem bF.HE:bF.F 219=some [.i .i64 (Mp.first 219).1,.u64 (Mp.first 219).2.1,.i .i64 (Mp.first 219).2.2,.i .i64 (if (Mp.first 219).1=10 then 1 else 0)]:=by kernel_rfl
theorem bF.HD:bF.F 220=some [.i .i64 (Mp.first 220).1,.u64 (Mp.first 220).2.1,.i .i64 (Mp.first 220).2.2,.i .i64 (if (Mp.first 220).1=10 then 1 else 0)]:=by kernel_rfl
theorem bF.HC:bF.F 221=some [.i .i64 (Mp.first 221).1,.u64 (Mp.first 221).2.1,.i .i64 (Mp.first 221).2.2,.i .i64 (if (Mp.first 221).1=10 then 1 else 0)]:=by kernel_rfl
theorem bF.HB:bF.F 222=some [.i .i64 (Mp.first 222).1,.u64 (Mp.first 222).2.1,.i .i64 (Mp.first 222).2.2,.i .i64 (if (Mp.first 222).1=10 then 1 else 0)]:=by kernel_rfl
theorem bF.HA:bF.F 223=some [.i .i64 (Mp.first 223).1,.u64 (Mp.first 223).2.1,.i .i64 (Mp.first 223).2.2,.i .i64 (if (Mp.first 223).1=10 then 1 else 0)]:=by kernel_rfl
theorem bF.goal (c:UInt8):bF.F c=some [.i .i64 (Mp.first (c.toNat:Int)).1,.u64 (Mp.first (c.toNat:Int)).2.1,.i .i64 (Mp.first (c.toNat:Int)).2.2,.i .i64 (if (Mp.first (c.toNat:Int)).1=10 then 1 else 0)]:=by
 have hc:=c.toNat_lt
 have lt:∀m:UInt8,(c<m)=(c.toNat<m.toNat):=fun m=>propext UInt8.lt_iff_toNat_lt
 have le:∀m:UInt8,(m≤c)=(m.toNat≤c.toNat):=fun m=>propext UInt8.le_iff_toNat_le
 by_cases hr:192≤c.toNat∧c.toNat<224
 ·have:c=192∨c=193∨c=194∨c=195∨c=196∨c=197∨c=198∨c=199∨c=200∨c=201∨c=202∨c=203∨c=204∨c=205∨c=206∨c=207∨c=208∨c=209∨c=210∨c=211∨c=212∨c=213∨c=214∨c=215∨c=216∨c=217∨c=218∨c=219∨c=220∨c=221∨c=222∨c=223:=by
   have q:c.toNat=192∨c.toNat=193∨c.toNat=194∨c.toNat=195∨c.toNat=196∨c.toNat=197∨c.toNat=198∨c.toNat=199∨c.toNat=200∨c.toNat=201∨c.toNat=202∨c.toNat=203∨c.toNat=204∨c.toNat=205∨c.toNat=206∨c.toNat=207∨c.toNat=208∨c.toNat=209∨c.toNat=210∨c.toNat=211∨c.toNat=212∨c.toNat=213∨c.toNat=214∨c.toNat=215∨c.toNat=216∨c.toNat=217∨c.toNat=218∨c.toNat=219∨c.toNat=220∨c.toNat=221∨c.toNat=222∨c.toNat=223:=by omega
   have w:∀k:UInt8,c.toNat=k.toNat→c=k:=fun k h=>UInt8.toNat_inj.1 h
   rcases q with q | q | q | q | q | q | q | q | q | q | q | q | q | q | q | q | q | q | q | q | q | q | q | q | q | q | q | q | q | q | q | q
   ·exact (.inl (w 192 q))
   ·exact .inr ((.inl (w 193 q)))
   ·exact .inr (.inr ((.inl (w 194 q))))
   ·exact .inr (.inr (.inr ((.inl (w 195 q)))))
   ·exact i4 ((.inl (w 196 q)))
   ·exact i4 (.inr ((.inl (w 197 q))))
   ·exact i4 (.inr (.inr ((.inl (w 198 q)))))
   ·exact i4 (.inr (.inr (.inr ((.inl (w 199 q))))))
   ·exact i4 (i4 ((.inl (w 200 q))))
   ·exact i4 (i4 (.inr ((.inl (w 201 q)))))
   ·exact i4 (i4 (.inr (.inr ((.inl (w 202 q))))))
   ·exact i4 (i4 (.inr (.inr (.inr ((.inl (w 203 q)))))))
   ·exact i12 ((.inl (w 204 q)))
   ·exact i12 (.inr ((.inl (w 205 q))))
   ·exact i12 (.inr (.inr ((.inl (w 206 q)))))
   ·exact i12 (.inr (.inr (.inr ((.inl (w 207 q))))))
   ·exact i12 (i4 ((.inl (w 208 q))))
   ·exact i12 (i4 (.inr ((.inl (w 209 q)))))
   ·exact i12 (i4 (.inr (.inr ((.inl (w 210 q))))))
   ·exact i12 (i4 (.inr (.inr (.inr ((.inl (w 211 q)))))))
   ·exact i12 (i4 (i4 ((.inl (w 212 q)))))
   ·exact i12 (i4 (i4 (.inr ((.inl (w 213 q))))))
   ·exact i12 (i4 (i4 (.inr (.inr ((.inl (w 214 q)))))))
   ·exact i12 (i4 (i4 (.inr (.inr (.inr ((.inl (w 215 q))))))))
   ·exact i12 (i12 ((.inl (w 216 q))))
   ·exact i12 (i12 (.inr ((.inl (w 217 q)))))
   ·exact i12 (i12 (.inr (.inr ((.inl (w 218 q))))))
   ·exact i12 (i12 (.inr (.inr (.inr ((.inl (w 219 q)))))))
   ·exact i12 (i12 (i4 ((.inl (w 220 q)))))
   ·exact i12 (i12 (i4 (.inr ((.inl (w 221 q))))))
   ·exact i12 (i12 (i4 (.inr (.inr ((.inl (w 222 q)))))))
   ·exact i12 (i12 (i4 (.inr (.inr (.inr ((w 223 q)))))))
  rcases this with rfl | rfl | rfl | rfl | rfl | rfl | rfl | rfl | rfl | rfl | rfl | rfl | rfl | rfl | rfl | rfl | rfl | rfl | rfl | rfl | rfl | rfl | rfl | rfl | rfl | rfl | rfl | rfl | rfl | rfl | rfl | rfl
  ·exact bF.H6
  ·exact bF.H5
  ·exact bF.H4
  ·exact bF.H3
  ·exact bF.H2
  ·exact bF.H0
  ·exact bF.HZ
  ·exact bF.HY
  ·exact bF.HX
  ·exact bF.HW
  ·exact bF.HV
  ·exact bF.HU
  ·exact bF.HT
  ·exact bF.HS
  ·exact bF.HR
  ·exact bF.HQ
  ·exact bF.HP
  ·exact bF.HO
  ·exact bF.HN
  ·exact bF.HM
  ·exact bF.HL
  ·exact bF.HK
  ·exact bF.HJ
  ·exact bF.HI
  ·exact bF.HH
  ·exact bF.HG
  ·exact bF.HF
  ·exact bF.HE
  ·exact bF.HD
  ·exact bF.HC
  ·exact bF.HB
  ·exact bF.HA
 refine bF.dQ _ ?_
 intro v1 e1 v2 e2 v3 e3 v4 e4 v5 e5
 intros
 have sub:∀m:UInt8,m.toNat≤c.toNat→(c - m).toNat=c.toNat - m.toNat:=fun m h=>UInt8.toNat_sub_of_le _ _ (UInt8.le_iff_toNat_le.2 h)
 unfold Mp.first
 by_cases a:c.toNat<128
 ·rw [show decide (c<128)=true from aa ((lt 128).mpr a),ak,aq (show (c.toNat:Int)<128 by omega),e1];rfl
 rw [show decide (c<128)=false from ae (fun h=>a ((lt 128).mp h)),ah,aj (show ¬(c.toNat:Int)<128 by omega)]
 by_cases a:c.toNat<144
 ·rw [show decide (c<144)=true from aa ((lt 144).mpr a),ak,aq (show (c.toNat:Int)<144 by omega),e2,sub 128 (by show 128≤c.toNat;omega),show ((c.toNat - (128:UInt8).toNat:Nat):Int)=(c.toNat:Int) - 128 by show ((c.toNat - 128:Nat):Int)=_;omega];rfl
 rw [show decide (c<144)=false from ae (fun h=>a ((lt 144).mp h)),ah,aj (show ¬(c.toNat:Int)<144 by omega)]
 by_cases a:c.toNat<160
 ·rw [show decide (c<160)=true from aa ((lt 160).mpr a),ak,aq (show (c.toNat:Int)<160 by omega),e3,sub 144 (by show 144≤c.toNat;omega),show ((c.toNat - (144:UInt8).toNat:Nat):Int)=(c.toNat:Int) - 144 by show ((c.toNat - 144:Nat):Int)=_;omega];rfl
 rw [show decide (c<160)=false from ae (fun h=>a ((lt 160).mp h)),ah,aj (show ¬(c.toNat:Int)<160 by omega)]
 by_cases a:c.toNat<192
 ·rw [show decide (c<192)=true from aa ((lt 192).mpr a),ak,aq (show (c.toNat:Int)<192 by omega),e4,sub 160 (by show 160≤c.toNat;omega),show ((c.toNat - (160:UInt8).toNat:Nat):Int)=(c.toNat:Int) - 160 by show ((c.toNat - 160:Nat):Int)=_;omega];rfl
 rw [show decide (c<192)=false from ae (fun h=>a ((lt 192).mp h)),ah,aj (show ¬(c.toNat:Int)<192 by omega)]
 have a:224≤c.toNat:=by omega
 have s5:((255:UInt8) - c).toNat=255 - c.toNat:=UInt8.toNat_sub_of_le _ _ (UInt8.le_iff_toNat_le.2 (by show c.toNat≤255;omega))
 rw [show decide ((224:UInt8)≤c)=true from aa ((le 224).mpr a),ak,aq (show (224:Int)≤(c.toNat:Int) by omega),e5,s5,show ((255 - c.toNat:Nat):Int)=255 - (c.toNat:Int) by omega];rfl
theorem Mp.pT (f:Int × Int) (x:UInt64) (c:UInt8) (L:bY) (h0:0≤f.1∧f.1≤255) (h:f.1=(c.toNat:Int)→cT.high x f.2=L):(Mp.put f x=c :: L) ↔ f.1=(c.toNat:Int):=by
 have hc:UInt8.ofInt f.1=c ↔ f.1=(c.toNat:Int):=by
  obtain ⟨m,hm⟩:∃m:Nat,f.1=m:=⟨f.1.toNat,by omega⟩
  rw [hm]
  constructor
  ·intro q
   have:=congrArg UInt8.toNat q
   rw [mZ] at this;omega
  ·intro q
   apply UInt8.toNat_inj.1
   rw [mZ];have:=c.toNat_lt;omega
 rw [Mp.put]
 constructor
 ·intro q;injection q with q1 q2;exact hc.1 q1
 ·intro q;rw [hc.2 q,h q]
theorem cT.oF (x:UInt64) (long:Int) (L:bY) (hl:long=0∨long=1∨long=2∨long=4∨long=8) (hL:L.length=long.toNat) (hx:long≠0→x.toNat % 256 ^ long.toNat=(cT.be L).toNat):cT.high x long=L:=by
 by_cases a:long=0
 ·subst a
  have:L=[]:=bA hL
  subst this;rfl
 ·have hb:=cT.mU L long.toNat hL (by omega)
  rw [cT.high,aq (by omega),cT.wh long.toNat x (cT.be L) (by rw [hx a,Nat.mod_eq_of_lt hb]),cT.BM _ _ hL (by omega)]
section
variable {c:UInt8} {L:bY} {u:UInt64} {k:Int} {n0:UInt64} {long:Int}
structure Mp.mz (c:UInt8) (L:bY) (u:UInt64) (k:Int) (n0:UInt64) (long:Int):Prop where
 f:Mp.first (c.toNat:Int)=(k,n0,long)
 k0:k≠0
 l:L.length=long.toNat
 u:u=if long=0 then n0 else cT.be L
theorem Mp.mz.mN (h:Mp.mz c L u k n0 long):long=0∨long=1∨long=2∨long=4∨long=8:=by
 have:=(Mp.jq (c.toNat:Int) ⟨by omega,by have:=c.toNat_lt;omega⟩).2.1
 rw [h.f] at this;exact this
theorem Mp.mz.uL (h:Mp.mz c L u k n0 long):long≠0→u.toNat % 256 ^ long.toNat=(cT.be L).toNat:=by
 intro a
 have hl:=h.mN
 have hb:=cT.mU L long.toNat h.l (by omega)
 rw [h.u,aj a,Nat.mod_eq_of_lt hb]
theorem Mp.FB (h:Mp.mz c L u 1 n0 long) (ty:UInt64):Mp.want 1 u ty=c :: L ↔ (Mp.eK u).1=(c.toNat:Int):=by
 obtain ⟨f,b0,b1,_⟩:=Mp.sP u
 refine Mp.pT (Mp.eK u) u c L ⟨b0,b1⟩ fun q=>?_
 rw [q,h.f] at f
 injection f with _ f;injection f with _ f
 rw [←f]
 exact cT.oF u long L h.mN h.l h.uL
theorem Mp.y3 (h:Mp.mz c L u 2 n0 long) (m:UInt64) (hm:if long=0 then m=u else Mp.below u long=some m) (ty:UInt64):Mp.want 2 m ty=c :: L ↔ (Mp.signed m).1=(c.toNat:Int):=by
 obtain ⟨f,b0,b1,_⟩:=Mp.vA m
 refine Mp.pT (Mp.signed m) (~~~ m) c L ⟨b0,b1⟩ fun q=>?_
 rw [q,h.f] at f
 injection f with _ f;injection f with _ f
 rw [←f]
 refine cT.oF (~~~ m) long L h.mN h.l fun a=>?_
 rw [aj a] at hm
 have hl:=h.mN
 have hu:=h.uL a
 have hb:=cT.mU L long.toNat h.l (by omega)
 have QY:u.toNat=(cT.be L).toNat:=by rw [h.u,aj a]
 rw [←QY] at hb ⊢
 have gS:=u.toNat_lt
 have key:∀(top:UInt64) (N:Nat),N=long.toNat→2 * top.toNat=256 ^ N→N≤8→0<N→(if u<top then none else some (top - 1 - (u - top)):Option UInt64)=some m→(~~~ m).toNat % 256 ^ long.toNat=u.toNat:=by
  intro top N hN ht h8 RJ he
  subst hN
  split at he
  ·cases he
  rename_i a'
  have a2:top.toNat≤u.toNat:=Nat.le_of_not_lt fun h=>a' (aC.2 h)
  injection he with he
  have AE:256 ^ 1≤256 ^ long.toNat:=Nat.pow_le_pow_right (by omega) RJ
  have Tm:256 ^ long.toNat≤256 ^ 8:=Nat.pow_le_pow_right (by omega) h8
  have e1:(1:UInt64).toNat=1:=rfl
  have h1:(top - 1).toNat=top.toNat - 1:=by rw [UInt64.toNat_sub_of_le _ _ (by rw [aN,e1];omega),e1]
  have h2:(u - top).toNat=u.toNat - top.toNat:=UInt64.toNat_sub_of_le _ _ (aN.2 a2)
  have lP:m.toNat=256 ^ long.toNat - 1 - u.toNat:=by
   rw [←he,UInt64.toNat_sub_of_le _ _ (by rw [aN,h1,h2];omega),h1,h2];omega
  obtain ⟨d,hd⟩:∃d,18446744073709551616=256 ^ long.toNat * d:=⟨256 ^ (8 - long.toNat),by rw [←Nat.pow_add,show long.toNat+(8 - long.toNat)=8 by omega]⟩
  have hd1:1≤d:=by
   rcases Nat.eq_zero_or_pos d with q | q
   ·subst q;simp at hd
   ·exact q
  obtain ⟨d',rfl⟩:∃d',d=d'+1:=⟨d - 1,by omega⟩
  rw [pW,lP,show 18446744073709551615 - (256 ^ long.toNat - 1 - u.toNat)=u.toNat+256 ^ long.toNat * d' by rw [Nat.mul_add,Nat.mul_one] at hd;omega,Nat.add_mul_mod_self_left,Nat.mod_eq_of_lt hb]
 unfold Mp.below at hm
 rcases (by omega:long=1∨long=2∨long=4∨long=8) with q | q | q | q
 ·exact key 128 1 (by rw [q];rfl) rfl (by omega) (by omega) (by simpa [q] using hm)
 ·exact key 32768 2 (by rw [q];rfl) rfl (by omega) (by omega) (by simpa [q] using hm)
 ·exact key 2147483648 4 (by rw [q];rfl) rfl (by omega) (by omega) (by simpa [q] using hm)
 ·exact key 9223372036854775808 8 (by rw [q];rfl) rfl (by omega) (by omega) (by simpa [q] using hm)
set_option maxRecDepth 100000 in
theorem Mp.zQ:∀m:Fin 256,((Mp.first (m.val:Int)).1=8→(Mp.first (m.val:Int)).2.2=0∧(20≤(Mp.first (m.val:Int)).2.1∧(Mp.first (m.val:Int)).2.1≤22)∧Mp.head (.mk 8 (Mp.first (m.val:Int)).2.1 [] [] [])=[UInt8.ofNat m.val])∧((Mp.first (m.val:Int)).1=9→m.val=203∧(Mp.first (m.val:Int)).2.2=8):=by decide +kernel
theorem Mp.FA (h:Mp.mz c L u 8 n0 long) (ty:UInt64):Mp.want 8 u ty=c :: L∧20≤u∧u≤22:=by
 have q:=(Mp.zQ ⟨c.toNat,c.toNat_lt⟩).1
 simp only [h.f] at q
 obtain ⟨q1,q2,q3⟩:=q trivial
 have hL:=h.l
 have hu:=h.u
 rw [q1] at hL hu
 rw [aq rfl] at hu
 have:L=[]:=bA hL
 subst this hu
 refine ⟨?_,q2⟩
 rw [show Mp.want 8 u ty=Mp.head (.mk 8 u [] [] []) from rfl,q3,UInt8.ofNat_toNat]
theorem Mp.Fz (h:Mp.mz c L u 9 n0 long) (ty:UInt64):Mp.want 9 u ty=c :: L:=by
 have q:=(Mp.zQ ⟨c.toNat,c.toNat_lt⟩).2
 simp only [h.f] at q
 obtain ⟨q1,q2⟩:=q trivial
 have e:=cT.oF u long L h.mN h.l h.uL
 rw [q2] at e
 rw [show Mp.want 9 u ty=UInt8.ofInt 203 :: cT.high u 8 from rfl,e]
 congr 1
 apply UInt8.toNat_inj.1
 rw [q1];rfl
theorem Mp.JA (hk:k=3∨k=4∨k=5∨k=6) (h:Mp.mz c L u k n0 long) (hu:u.toNat<4294967296) (ty:UInt64):Mp.want k u ty=c :: L ↔ (Mp.sized k u.toNat).1=(c.toNat:Int):=by
 obtain ⟨f,b0,b1,_⟩:=Mp.ob k (by omega) u.toNat hu
 have hw:Mp.want k u ty=Mp.put (Mp.sized k u.toNat) u:=by
  have e:UInt64.ofNat u.toNat=u:=UInt64.ofNat_toNat
  have sh:∀(a:UInt8) (b:Int),a=UInt8.ofInt b→0≤b→a+u.toUInt8=UInt8.ofInt (b+(u.toNat:Int)):=by
   intro a b ha hb
   obtain ⟨m,rfl⟩:∃m:Nat,b=m:=⟨b.toNat,by omega⟩
   subst ha
   apply UInt8.toNat_inj.1
   rw [UInt8.toNat_add,mZ,UInt64.toNat_toUInt8,show (m:Int)+(u.toNat:Int)=((m+u.toNat:Nat):Int) by omega,mZ];omega
  have QE:(u<32)=(u.toNat<32):=propext aC
  have Pv:(u<16)=(u.toNat<16):=propext aC
  rcases hk with rfl | rfl | rfl | rfl
  ·have:=Mp.sN u.toNat hu;rw [e] at this;exact this
  ·have:=Mp.ud u.toNat hu
   rw [e,←sh 160 160 rfl (by omega)] at this
   rw [←this,show Mp.want 4 u ty=if u<32 then [160+u.toUInt8] else Mp.form 217 u 1 from rfl]
   simp only [QE]
  ·have:=Mp.ue u.toNat hu
   rw [e,←sh 144 144 rfl (by omega)] at this
   rw [←this,show Mp.want 5 u ty=if u<16 then [144+u.toUInt8] else Mp.form 220 u 2 from rfl]
   simp only [Pv]
  ·have:=Mp.xe u.toNat hu
   rw [e,←sh 128 128 rfl (by omega)] at this
   rw [←this,show Mp.want 6 u ty=if u<16 then [128+u.toUInt8] else Mp.form 222 u 2 from rfl]
   simp only [Pv]
 rw [hw]
 refine Mp.pT _ u c L ⟨b0,b1⟩ fun q=>?_
 rw [q,h.f] at f
 injection f with _ f;injection f with _ f
 rw [←f]
 exact cT.oF u long L h.mN h.l h.uL
theorem Mp.GH (h:Mp.mz c L u 10 n0 long) (hu:u.toNat<4294967296) (ty:UInt8):Mp.want 10 u ty.toUInt64=c :: (L++[ty]) ↔ (Mp.sized 10 u.toNat).1=(c.toNat:Int):=by
 obtain ⟨f,b0,b1,_⟩:=Mp.ob 10 (by omega) u.toNat hu
 have hw:Mp.want 10 u ty.toUInt64=Mp.put (Mp.sized 10 u.toNat) u++[ty]:=by
  have:=Mp.xf u.toNat ty.toUInt64 hu
  rw [UInt64.ofNat_toNat] at this
  rw [show Mp.want 10 u ty.toUInt64=Mp.ext u ty.toUInt64 from rfl,this]
  simp
 rw [hw,←List.cons_append,List.append_left_inj]
 refine Mp.pT _ u c L ⟨b0,b1⟩ fun q=>?_
 rw [q,h.f] at f
 injection f with _ f;injection f with _ f
 rw [←f]
 exact cT.oF u long L h.mN h.l h.uL
end
theorem cJ.jd (b:bY) (p e:Int) (w:bY) (h:0≤p∧p≤e∧e≤b.length):cJ.j1 b p e w=some [.b (decide (w=(b.drop p.toNat).take (e - p).toNat))]:=by
 refine cJ.kM _ _ _ _ ?_
 intro v1 e1
 rw [bL (ij h.1 h.2.1 h.2.2),e1,List.drop_take,show e.toNat - p.toNat=(e - p).toNat by omega]
theorem cJ.goal (b:bY) (p e k:Int) (n ty:UInt64) (hp:(decide (0≤p∧p≤e∧e≤b.length∧b.length≤1099511627776)&&decide (k=1∨k=2∧n<9223372036854775808∨k=8∧20≤n∧n≤22∨k=9∨k=3∨k=4∨k=5∨k=6∨k=10))=true) :
  cJ.F b p e k n ty=some [.b (decide (Mp.want k n ty=(b.drop p.toNat).take (e - p).toNat))]:=by
 simp only [af,az] at hp
 obtain ⟨h,hk⟩:=hp
 refine cJ.dQ _ _ _ _ _ _ ?_
 intro v1 e1 v2 e2 v3 e3 v4 e4 v5 e5 v6 e6 v7 e7 v8 e8
 have J:=fun w=>cJ.jd b p e w ⟨h.1,h.2.1,h.2.2.1⟩
 have Pg:∀a:UInt64,UInt8.ofInt (((a+n).toNat:Nat):Int)=a.toUInt8+n.toUInt8:=fun a=>by rw [tA,UInt64.toUInt8_add]
 have Mo:(decide ((1:Int)≤8))=true:=rfl
 have Mn:(decide ((2:Int)≤8))=true:=rfl
 rw [Pg] at e3 e5 e7
 unfold Mp.want
 by_cases k3:k=3
 ·rw [aa k3,ak,aq k3,Mo,cI,J,e1]
 rw [ae k3,ah,aj k3]
 by_cases nX:k=10
 ·rw [aa nX,ak,aq nX,J]
 rw [ae nX,ah,aj nX]
 by_cases k4:k=4
 ·rw [aa k4,ak,aq k4,Mo,cI]
  by_cases a:n<32
  ·rw [aa a,ak,aq a,J,e3];rfl
  ·rw [ae a,ah,aj a,J,e2]
 rw [ae k4,ah,aj k4]
 by_cases k5:k=5
 ·rw [aa k5,ak,aq k5,Mn,cI]
  by_cases a:n<16
  ·rw [aa a,ak,aq a,J,e5];rfl
  ·rw [ae a,ah,aj a,J,e4]
 rw [ae k5,ah,aj k5]
 by_cases k6:k=6
 ·rw [aa k6,ak,aq k6,Mn,cI]
  by_cases a:n<16
  ·rw [aa a,ak,aq a,J,e7];rfl
  ·rw [ae a,ah,aj a,J,e6]
 rw [ae k6,ah,aj k6]
 have ho:Mp.own (bG.of ⟨k,n,[],[],[]⟩)=0:=by
  simp only [Mp.own,bG.of]
  have hw:ee.whole []=true:=by decide
  have c2:¬(k=2∧9223372036854775808≤n):=by
   rintro ⟨rfl,q⟩
   have:n<9223372036854775808:=by
    rcases hk with h | h | h | h | h | h | h | h | h
    all_goals first | exact h.2 | omega
   rw [aN] at q;rw [aC] at this;omega
  have c8:¬(k=8∧(n<20∨22<n)):=by
   rintro ⟨rfl,q⟩
   have:20≤n∧n≤22:=by
    rcases hk with h | h | h | h | h | h | h | h | h
    all_goals first | exact h.2 | omega
   rw [aN,aN] at this
   rw [aC,aC] at q
   omega
  rw [aj (by omega),aj (by rintro (⟨q,_⟩ | ⟨_,_,q⟩ | ⟨_,q⟩) <;> first | omega | exact q rfl),aj (by rintro ⟨_,_,q⟩;exact q rfl),aj (by rintro (q | q | q | q) <;> first | exact c2 q | exact c8 q | omega),aj (by simp),aq hw]
 rw [bL (by rw [ho,aa (show bG.c7 (bG.of ⟨k,n,[],[],[]⟩)≤1099511627776 by rw [bG.ln];simp [bG.db])];rfl),J,e8]
 rfl
def Mp.iv.ju (g:Mp.iv):List TV:=[.ag (Itv.cells (bG.val g.it)),.i .i64 (if g.err=0 then g.pos else 0),.ag (cX.cells (cX.mk g.err g.at_ []))]
theorem Mp.lg (e p q:Int) (h:e≠0):(Mp.bad e p q).ju=[.ag (Itv.cells (bG.val Mp.zero)),.i .i64 0,.ag (cX.cells (cX.mk e p []))]:=by
 simp [Mp.iv.ju,Mp.bad,h]
theorem bE.FZ (n:Nat) (b:bY) (hb:b.length≤1099511627776) (w d:Int) (hw:0≤w∧w+1≤d∧d≤1000) (hn:(d - w).toNat<n+1) (O8:UInt64) (x6:Itv) (x7:cX) :
  ∀(k:Nat) (i:UInt64) (x8:Itv) (q:Int),i.toNat+k=O8.toNat→0≤q→q≤b.length→(x8.kids.length:Int)≤q →
   bE.l7 n b w d O8 q i x6 x7 x8=some (Mp.kids (Mp.read b (d - w - 1).toNat) (bG.of x8) k q).ju:=by
 intro k
 induction k with
 | zero =>
  intro i x8 q hi h0 h1 ha
  refine bE.F0 _ _ _ _ _ _ _ _ _ _ ?_
  intro v1 e1 v2 e2 v3 e3 v4 e4
  rw [ae (by rw [aC];omega),ah];rfl
 | succ k ih =>
  intro i x8 q hi h0 h1 ha
  refine bE.F0 _ _ _ _ _ _ _ _ _ _ ?_
  intro v1 e1 v2 e2 v3 e3 v4 e4
  have tw:v1=w+1:=by rw [e1,i64_in _ (by omega)]
  have ed:(d - v1).toNat=(d - w - 1).toNat:=by omega
  have hc:=O8.toNat_lt
  obtain ⟨g1,g2,g3⟩:=Mp.lB b (d - w - 1).toNat q h0 h1
  rw [ed] at e2 e3 e4 ⊢
  simp only [bG.ib] at e4
  rw [aa (by rw [aC];omega),ak,bL (by rw [aa (by omega),aa (by omega)];rfl),Mp.kids,e3]
  by_cases a:(Mp.read b (d - w - 1).toNat q).err=0
  ·have:=g3 a
   have xN:v2=(Mp.read b (d - w - 1).toNat q).pos:=by rw [e2,Mp.next,aq a]
   rw [aa a,aR,ah,aj (fun h=>h a),e4,bL (fu (by simp only [aK];omega) (by simp only [aK];omega)),xN]
   exact ih (i+1) ⟨x8.kind,x8.n,x8.bytes,x8.text,x8.kids++[(Mp.read b (d - w - 1).toNat q).it]⟩ _ (by rw [UInt64.toNat_add,show (1:UInt64).toNat=1 from rfl];omega) (by omega) g2 (by rw [aw,aK];omega)
  ·rw [ae a,aV,ak,aq a]
   simp only [Mp.iv.ju,aj a];rfl
section
variable {n:Nat} {b:bY} {p w d k q:Int} {u t:UInt64}
def Mp.body (b:bY) (f:Int→Mp.iv) (p k:Int) (u t:UInt64) (q:Int):Mp.iv :=
 if k=4∨k=3∨k=10 then Mp.row b (.mk k t [] [] []) p q u.toNat
 else if k=6 then Mp.kids f (.mk k 0 [] [] []) (2 * u.toNat) q
 else if k=5 then Mp.kids f (.mk k 0 [] [] []) u.toNat q
 else ⟨.mk k u [] [] [],0,0,q⟩
theorem bE.sG (gB:Itv) (ie:cX) (hb:b.length≤1099511627776) (hw:0≤w∧w+1≤d∧d≤1000) (hn:(d - w).toNat<n+1) (hq:0≤q∧q≤b.length)
  (hu:k=4∨k=3∨k=10∨k=5∨k=6→u.toNat<4294967296) (ht:k≠10→t=0) :
  bE.j4 n b p w d k u q t k (decide (k=4∨k=3∨k=10)) gB ie ⟨k,0,[],[],[]⟩=some (Mp.body b (Mp.read b (d - w - 1).toNat) p k u t q).ju:=by
 refine bE.wB _ _ _ _ _ _ _ _ _ _ _ _ _ _ ?_
 intro v1 e1 v2 e2 v3 e3
 unfold Mp.body
 by_cases a:k=4∨k=3∨k=10
 ·have QZ:=hu (by omega)
  have tw:v1=((b.length - q.toNat:Nat):Int):=by rw [e1,i64_in _ (by omega)];omega
  have xN:v2=(u.toNat:Int):=by rw [e2,i64_in _ (by omega)]
  have ew:IntKind.i64.wrap (q+v2)=q+u.toNat:=by rw [xN,i64_in _ (by omega)]
  have sV:v3=(b.drop q.toNat).take u.toNat:=by
   rw [e3,ew,List.drop_take,show (q+(u.toNat:Int)).toNat - q.toNat=u.toNat by omega]
  have Rm:v3.length≤1099511627776:=by rw [sV,bh,aS];omega
  rw [aa a,ak,aq a,Mp.row]
  by_cases c:(b.length:Int) - q<u.toNat
  ·rw [aa (by rw [aC,tw,jv];omega),ak,aq (.inr c),Mp.lg _ _ _ (by decide)];rfl
  ·rw [ae (by rw [aC,tw,jv];omega),ah,aj (by omega),ew,bL (ij hq.1 (by omega) (by omega)),aI]
   by_cases k4:k=4
   ·rw [aa k4,aR,ah,aj (show ¬(bG.mk k t [] [] []).kind≠4 from fun h=>h k4),bL (aa Rm),sV]
    cases Tj:ee.whole ((b.drop q.toNat).take u.toNat) with
    | false=>rw [aV,ak,aj (by decide),Mp.lg _ _ _ (by decide)];rfl
    | true=>rw [aR,ah,aq rfl,bE.tS,ht (by omega)];rfl
   ·rw [ae k4,aV,ak,aq (show (bG.mk k t [] [] []).kind≠4 from k4),bL (fu (by simp only [aA];omega) (by simp only [aA];omega)),bE.tS,sV];rfl
 rw [ae a,ah,aj a]
 by_cases k6:k=6
 ·have QZ:=hu (by omega)
  rw [aa k6,ak,aq k6,bE.F8]
  exact bE.FZ n b hb w d hw hn (2 * u) _ _ (2 * u.toNat) 0 ⟨k,0,[],[],[]⟩ q (by rw [UInt64.toNat_mul,show (2:UInt64).toNat=2 from rfl,show (0:UInt64).toNat=0 from rfl];omega) hq.1 hq.2 hq.1
 rw [ae k6,ah,aj k6]
 by_cases k5:k=5
 ·rw [aa k5,ak,aq k5,bE.F8]
  exact bE.FZ n b hb w d hw hn u _ _ u.toNat 0 ⟨k,0,[],[],[]⟩ q (Nat.zero_add _) hq.1 hq.2 hq.1
 rw [ae k5,ah,aj k5];rfl
theorem bE.nY (x8:Itv) (x9:cX) (hb:b.length≤1099511627776) (hw:0≤w∧w+1≤d∧d≤1000) (hn:(d - w).toNat<n+1) (hp:0≤p∧p≤q) (hq:0≤q∧q≤b.length)
  (hu:k=4∨k=3∨k=10∨k=5∨k=6→u.toNat<4294967296) (ht:k≠10→t=0) (hk:k=1∨k=2∧u<9223372036854775808∨k=8∧20≤u∧u≤22∨k=9∨k=3∨k=4∨k=5∨k=6∨k=10)
  (W:Prop) [Decidable W] (hW:Mp.want k u t=(b.drop p.toNat).take (q - p).toNat ↔ W) :
  bE.j3 n b p w d k u q t x8 x9 ⟨0,0,[],[],[]⟩ ⟨3,p,[]⟩=some (if ¬W∨127<t then Mp.bad 3 p q else Mp.body b (Mp.read b (d - w - 1).toNat) p k u t q).ju:=by
 refine bE.pZ _ _ _ _ _ _ _ _ _ _ _ _ _ ?_
 intro v1 e1
 have c1:(decide (0≤p∧p≤q∧q≤b.length∧b.length≤1099511627776)&&decide (k=1∨k=2∧u<9223372036854775808∨k=8∧20≤u∧u≤22∨k=9∨k=3∨k=4∨k=5∨k=6∨k=10))=true:=by
  rw [aa ⟨hp.1,hp.2,hq.2,hb⟩,aa hk];rfl
 simp only [c1,aO,Bool.and_true,aG,bB,cI]
 have tw:v1=decide (¬W∨127<t):=by
  rw [e1,show decide (Mp.want k u t=(b.drop p.toNat).take (q - p).toNat)=decide W from aX.2 hW]
  by_cases a:127<t <;> by_cases c:W <;> simp [a,c]
 rw [tw]
 by_cases a:¬W∨127<t
 ·rw [aa a,ak,aq a,Mp.lg _ _ _ (by decide)];rfl
 rw [ae a,ah,aj a]
 have J:=bE.sG (n:=n) (b:=b) (p:=p) (w:=w) (d:=d) (k:=k) (q:=q) (u:=u) (t:=t) x8 x9 hb hw hn hq hu ht
 by_cases k4:k=4
 ·rw [aa k4,ak,←J]
  congr 1;exact (aa (Or.inl k4)).symm
 rw [ae k4,ah]
 by_cases k3:k=3
 ·rw [aa k3,ak,←J]
  congr 1;exact (aa (Or.inr (Or.inl k3))).symm
 rw [ae k3,ah,←J]
 congr 1
 exact aX.2 (by omega)
end
theorem Mp.uY (it:bG) (p c f q:Int):(Mp.num it p c f q).ju=(if ¬f=c∨(127:UInt64)<0 then Mp.bad 3 p q else (⟨it,0,0,q⟩:Mp.iv)).ju:=by
 unfold Mp.num
 by_cases a:f=c
 ·rw [aj (fun h=>h a),aj (fun h=>h.elim (fun h=>h a) (by decide))]
 ·rw [aq a,aq (.inl a)]
section
variable {c:UInt8} {L:bY} {u:UInt64} {k:Int} {n0:UInt64} {long:Int}
theorem Mp.mz.kinds (h:Mp.mz c L u k n0 long):(k=1∨k=2∨k=3∨k=4∨k=5∨k=6∨k=8∨k=9∨k=10)∧(long=8→k=1∨k=2∨k=9)∧(long=0→u.toNat≤127)∧(k=2→long=0→u.toNat≤31):=by
 have hc:0≤(c.toNat:Int)∧(c.toNat:Int)≤255:=⟨by omega,by have:=c.toNat_lt;omega⟩
 obtain ⟨F1,_,F3,F4,F5⟩:=Mp.jq _ hc
 rw [h.f] at F1 F3 F4 F5
 simp only at F1 F3 F4 F5
 have mi:=h.k0
 refine ⟨by omega,F3,fun a=>?_,fun a b=>?_⟩
 ·rw [h.u,aq a];exact F4 a
 ·rw [h.u,aq b];exact F5 a b
theorem Mp.mz.u8 (h:Mp.mz c L u k n0 long):long≠0→u.toNat<256 ^ long.toNat:=by
 intro a
 have hl:=h.mN
 rw [h.u,aj a]
 exact cT.mU L long.toNat h.l (by omega)
theorem Mp.mz.u32 (h:Mp.mz c L u k n0 long) (hk:k=4∨k=3∨k=10∨k=5∨k=6):u.toNat<4294967296:=by
 obtain ⟨_,F3,F4,_⟩:=h.kinds
 by_cases a3:long=0
 ·have:=F4 a3;omega
 ·have EN:=h.u8 a3
  have IM:long=1∨long=2∨long=4:=by
   rcases h.mN with h | h | h | h | h
   ·exact (a3 h).elim
   ·exact .inl h
   ·exact .inr (.inl h)
   ·exact .inr (.inr h)
   ·have:=F3 h;omega
  clear F3 F4 hk a3
  rcases IM with h | h | h
  ·rw [h] at EN;exact Nat.lt_trans EN (by decide)
  ·rw [h] at EN;exact Nat.lt_trans EN (by decide)
  ·rw [h] at EN;exact EN
end
section
variable {n:Nat} {b:bY} {p w d k:Int} {u n0:UInt64} {long:Int}
theorem bE.jo (c:UInt8) (L:bY) (x9:Itv) (gB:cX) (hb:b.length≤1099511627776) (hw:0≤w∧w+1≤d∧d≤1000) (hn:(d - w).toNat<n+1) (hp:0≤p)
  (hS:Mp.mz c L u k n0 long) (q:Int) (ty:UInt8) (hq:q=p+1+long+(if k=10 then 1 else 0)) (AD:q≤b.length)
  (xJ:(b.drop p.toNat).take (q - p).toNat=c :: (L++if k=10 then [ty] else [])) :
  bE.j2 n b p w d k u long q (if k=10 then ty.toUInt64 else 0) x9 gB ⟨0,0,[],[],[]⟩ ⟨3,p,[]⟩=some (Mp.gU b (Mp.read b (d - w - 1).toNat) p (c.toNat:Int) k u long (if k=10 then ty.toUInt64 else 0) q).ju:=by
 have hl:=hS.mN
 obtain ⟨F1,_,_,F5⟩:=hS.kinds
 have Oc:=hS.u8
 have CD:=hS.u32
 have Rc:0≤q:=by rw [hq];split <;> omega
 have Lb:p≤q:=by rw [hq];split <;> omega
 have Qz:k≠10→(if k=10 then ty.toUInt64 else 0)=0:=fun h=>aj h
 have J:=fun (m:UInt64) (h1:k=4∨k=3∨k=10∨k=5∨k=6→m.toNat<4294967296) (h2:k=1∨k=2∧m<9223372036854775808∨k=8∧20≤m∧m≤22∨k=9∨k=3∨k=4∨k=5∨k=6∨k=10) (W:Prop) [Decidable W] (hW:Mp.want k m (if k=10 then ty.toUInt64 else 0)=(b.drop p.toNat).take (q - p).toNat ↔ W) =>
  bE.nY (n:=n) (b:=b) (p:=p) (w:=w) (d:=d) (k:=k) (q:=q) (u:=m) (t:=if k=10 then ty.toUInt64 else 0) x9 gB hb hw hn ⟨hp,Lb⟩ ⟨Rc,AD⟩ h1 Qz h2 W hW
 rw [xJ] at J
 refine bE.nw _ _ _ _ _ _ _ _ _ _ _ _ _ _ ?_
 intro v1 e1
 simp only [aG,cI]
 have z127:¬(127:UInt64)<0:=by decide
 by_cases k2:k=2
 ·subst k2
  simp only [show ((2:Int)=10)=False from propext ⟨by decide,False.elim⟩,if_false,aM] at J ⊢
  unfold Mp.gU
  rw [aj (by decide),aj (by decide),aq rfl]
  rw [aa (show (2:Int)=2 from rfl),ak] at e1
  by_cases a:long=0
  ·rw [ae (by omega)] at e1
   have Od:=F5 rfl a
   rw [e1,ah,aq a,J u (fun h=>absurd h (by decide)) (.inr (.inl ⟨trivial,by rw [aC];show u.toNat<9223372036854775808;omega⟩)) _ (Mp.y3 hS u (by rw [aq a]) 0),Mp.uY]
   rfl
  ·rw [aa (by omega)] at e1
   rw [e1,ak,bL (aa (by omega)),aj a]
   cases yu:Mp.below u long with
   | none=>rw [show ((none:Option UInt64).isSome)=false from rfl,aV,ak,Mp.lg _ _ _ (by decide)];rfl
   | some m =>
    have hB:=Mp.s6 u long (by omega) (Oc a) _ rfl _ rfl
    rw [yu] at hB
    have It:m<9223372036854775808:=by
     rw [hB.1] at hB
     exact UInt64.not_le.1 hB.2
    rw [show ((some m).isSome)=true from rfl,aR,ah,show (some m).getD 0=m from rfl,J m (fun h=>absurd h (by decide)) (.inr (.inl ⟨trivial,It⟩)) _ (Mp.y3 hS m (by rw [aj a];exact yu) 0),Mp.uY]
    rfl
 rw [ae k2,ah] at e1
 rw [e1,ah]
 unfold Mp.gU
 by_cases k8:k=8
 ·subst k8
  simp only [show ((8:Int)=10)=False from propext ⟨by decide,False.elim⟩,if_false,aM] at J ⊢
  obtain ⟨w1,w2⟩:=Mp.FA hS 0
  rw [J u (fun h=>absurd h (by decide)) (.inr (.inr (.inl ⟨trivial,w2⟩))) True ⟨fun _=>trivial,fun _=>w1⟩,aj (fun h=>h.elim (fun h=>h trivial) z127),aq (by decide)]
  rfl
 by_cases k9:k=9
 ·subst k9
  simp only [show ((9:Int)=10)=False from propext ⟨by decide,False.elim⟩,if_false,aM] at J ⊢
  rw [J u (fun h=>absurd h (by decide)) (.inr (.inr (.inr (.inl trivial)))) True ⟨fun _=>trivial,fun _=>Mp.Fz hS 0⟩,aj (fun h=>h.elim (fun h=>h trivial) z127),aq (by decide)]
  rfl
 rw [aj (show ¬(k=8∨k=9) by omega)]
 by_cases k1:k=1
 ·subst k1
  simp only [show ((1:Int)=10)=False from propext ⟨by decide,False.elim⟩,if_false,aM] at J ⊢
  rw [aq trivial,J u (fun h=>absurd h (by decide)) (.inl trivial) _ (Mp.FB hS 0),Mp.uY]
  rfl
 rw [aj k1,aj k2]
 by_cases nX:k=10
 ·subst nX
  simp only [if_true] at J ⊢
  have hu:=CD (by omega)
  rw [J u (fun _=>hu) (i4 (.inr (.inr (.inr (.inr trivial))))) _ (Mp.GH hS hu ty)]
  simp only [ne_eq,show ((10:Int)=5)=False from propext ⟨by decide,False.elim⟩,show ((10:Int)=6)=False from propext ⟨by decide,False.elim⟩,if_false]
  rfl
 simp only [aj nX,aM] at J ⊢
 have Ba:k=3∨k=4∨k=5∨k=6:=by omega
 have hu:=CD (by omega)
 rw [J u (fun _=>hu) (by omega) _ (Mp.JA Ba hS hu 0)]
 congr 2
 by_cases a:¬(Mp.sized k u.toNat).1=(c.toNat:Int)∨(127:UInt64)<0
 ·rw [aq a,aq a]
 rw [aj a,aj a,Mp.body]
 rcases Ba with rfl | rfl | rfl | rfl <;> rfl
end
theorem nD (b:bY) (p long:Nat) (h:p+1+long≤b.length):(b.drop p).take (1+long)=b.getD p 0 :: (b.drop (p+1)).take long:=by
 rw [drop_cons (show p<b.length by omega) 0,Nat.add_comm 1 long,List.take_succ_cons]
theorem qh (b:bY) (i j:Nat):(b.drop i).getD j 0=b.getD (i+j) 0:=by
 rw [aH,List.getElem?_drop,aH]
theorem tC (l:bY) (m:Nat) (h:m<l.length):l.take (m+1)=l.take m++[l.getD m 0]:=by
 rw [List.take_succ_eq_append_getElem h,aH,aD h];rfl
theorem bE.jd (n:Nat) (b:bY) (p w d k:Int) (u n0:UInt64) (long:Int) (x8:Itv) (x9:cX) (hb:b.length≤1099511627776) (hw:0≤w∧w+1≤d∧d≤1000) (hn:(d - w).toNat<n+1) (hp:0≤p)
  (mQ:p+1+long+(if k=10 then 1 else 0)≤b.length)
  (hS:Mp.mz (b.getD p.toNat 0) ((b.drop (p+1).toNat).take long.toNat) u k n0 long) :
  bE.j1 n b p w d k u long (if k=10 then 1 else 0) x8 x9 ⟨0,0,[],[],[]⟩ ⟨3,p,[]⟩=some (Mp.jB b (Mp.read b (d - w - 1).toNat) p ((b.getD p.toNat 0).toNat:Int) k u long (p+1+long)).ju:=by
 have hl:=hS.mN
 have Mw:0≤long∧long≤8:=by omega
 clear hl
 refine bE.kM _ _ _ _ _ _ _ _ _ _ _ _ _ ?_
 intro v1 e1 v2 e2 v3 e3 v4 e4 v5 e5
 have tw:v1=p+1:=by
  rw [e1,i64_in _ (by split at mQ <;> omega)]
 have CE:((b.drop p.toNat).take (1+long.toNat))=b.getD p.toNat 0 :: (b.drop (p+1).toNat).take long.toNat:=by
  rw [nD b p.toNat long.toNat (by split at mQ <;> omega),show (p+1).toNat=p.toNat+1 by omega]
 unfold Mp.jB
 by_cases nX:k=10
 ·simp only [aq nX] at mQ e2 ⊢
  have xN:v2=p+1+long+1:=by rw [e2,tw,i64_in (p+1+long) (by omega),i64_in _ (by omega)]
  have sV:v3=p+1+long:=by rw [e3,xN,i64_in _ (by omega)];omega
  rw [aa (by omega),ak,bL (fq (by omega) (by omega)),aj (by omega),e5,e4,sV,xS,xN]
  have J:=bE.jo (n:=n) (b:=b) (p:=p) (w:=w) (d:=d) (k:=k) (u:=u) (n0:=n0) (long:=long) (b.getD p.toNat 0) _ x8 x9 hb hw hn hp hS (p+1+long+1) (b.getD (p+1+long).toNat 0) (by rw [aq nX]) (by omega) (by
   rw [aq nX,show (p+1+long+1 - p).toNat=(1+long.toNat)+1 by omega,tC _ _ (by rw [aS];omega),CE,List.cons_append,qh,show p.toNat+(1+long.toNat)=(p+1+long).toNat by omega])
  simp only [aq nX] at J
  exact J
 ·simp only [aj nX] at mQ e2 ⊢
  have xN:v2=p+1+long:=by rw [e2,tw,i64_in (p+1+long) (by omega),i64_in _ (by omega)];omega
  rw [ae (by omega),ah,xN]
  have J:=bE.jo (n:=n) (b:=b) (p:=p) (w:=w) (d:=d) (k:=k) (u:=u) (n0:=n0) (long:=long) (b.getD p.toNat 0) _ x8 x9 hb hw hn hp hS (p+1+long) 0 (by rw [aj nX];omega) (by omega) (by
   rw [aj nX,aM,show (p+1+long - p).toNat=1+long.toNat by omega,CE])
  simp only [aj nX] at J
  exact J
theorem bE.goal (n:Nat) (b:bY) (p w d:Int) (hp:((decide (b.length≤1099511627776∧0≤p∧0≤w∧w≤d∧d≤1000))&&decide (((d - w).toNat)<n+1))=true) :
  bE.F n b p w d=some [.ag (Itv.cells (bG.val (Mp.read b (d - w).toNat p).it)),.i .i64 (Mp.next b (d - w).toNat p),.ag (cX.cells (cX.mk (Mp.read b (d - w).toNat p).err (Mp.read b (d - w).toNat p).at_ []))]:=by
 simp only [af,az] at hp
 obtain ⟨⟨hb,h0,QU,Tk,hd⟩,hn⟩:=hp
 show bE.F n b p w d=some (Mp.read b (d - w).toNat p).ju
 refine bE.dQ _ _ _ _ _ ?_
 intro v1 e1 v2 e2 v3 e3 v4 e4 v5 e5 v6 e6 v7 e7 v8 e8
 by_cases a:d≤w
 ·rw [aa a,ak,show (d - w).toNat=0 by omega,show Mp.read b 0 p=Mp.bad 8 p p from rfl,Mp.lg _ _ _ (by decide)];rfl
 rw [ae a,ah,show (d - w).toNat=(d - w - 1).toNat+1 by omega,Mp.read]
 by_cases m:(b.length:Int)≤p
 ·rw [aa m,ak,aq m,Mp.lg _ _ _ (by decide)];rfl
 rw [ae m,ah,aj m,bL (fq h0 (by omega)),←e1,←e2,←e3,←e4,Mp.pw]
 have hc:0≤(v1.toNat:Int)∧(v1.toNat:Int)≤255:=⟨by omega,by have:=v1.toNat_lt;omega⟩
 have hl:0≤v4∧v4≤8:=by
  have:=(Mp.jq _ hc).2.1
  rw [←e4] at this;omega
 rw [←e2] at e5
 have zW:v7=(b.length:Int) - p - 1:=by rw [e7,e6,i64_in ((b.length:Int) - p) (by omega),i64_in _ (by omega)]
 have MP:v8=p+1:=by rw [e8,i64_in _ (by omega)]
 have h5:v5=0∨v5=1:=by rw [e5];split <;> omega
 by_cases k0:v2=0
 ·rw [aa k0,ak,aq k0,Mp.lg _ _ _ (by decide)];rfl
 rw [ae k0,ah,aj k0,i64_in (v4+v5) (by omega),zW]
 by_cases s:(b.length:Int) - p - 1<v4+v5
 ·rw [aa s,ak]
  by_cases s1:(b.length:Int) - (p+1)<v4
  ·rw [aq s1,Mp.lg _ _ _ (by decide)];rfl
  ·have Tx:v5=1:=by omega
   have nX:v2=10:=Classical.byContradiction fun h=>by rw [aj h] at e5;omega
   rw [aj s1,Mp.jB,aq nX,aq (by omega),Mp.lg _ _ _ (by decide)];rfl
 rw [ae s,ah,aj (by omega)]
 have mQ:p+1+v4+(if v2=10 then 1 else 0)≤b.length:=by rw [←e5];omega
 have J:=fun (u:UInt64) (hu:u=if v4=0 then v3 else cT.be ((b.drop (p+1).toNat).take v4.toNat))=>bE.jd n b p w d v2 u v3 v4 ⟨0,0,[],[],[]⟩ ⟨0,0,[]⟩ hb ⟨QU,by omega,hd⟩ hn h0 mQ ⟨by rw [←e1,e2,e3,e4],k0,by rw [bh,aS];omega,hu⟩
 rw [←e1,←e5] at J
 by_cases l0:v4=0
 ·rw [ae (by omega),ah]
  exact J v3 (by rw [aq l0]) ▸ (by rw [aq l0])
 ·rw [aa (by omega),ak,bL (aa hb),MP]
  have CF:Mp.kk b (p+1) v4=(b.drop (p+1).toNat).take v4.toNat:=by
   rw [Mp.kk,show Mp.kq b (p+1) v4=true by unfold Mp.kq;exact aa (by omega),ak]
  rw [CF,aj l0]
  exact J _ (by rw [aj l0])
theorem Mp.zt (f:Int→Mp.iv):∀(n:Nat) (it:bG) (q:Int),(Mp.kids f it n q).err=0→(Mp.kids f it n q).at_=0
 | 0,_,_,_=>rfl
 | n+1,it,q,h=>by
  rw [Mp.kids] at h ⊢
  split at h
  ·rename_i a;exact (a h).elim
  ·rename_i a;rw [aj a];exact Mp.zt f n _ _ h
theorem Mp.Eh (b:bY):∀(d:Nat) (p:Int),(Mp.read b d p).err=0→(Mp.read b d p).at_=0:=by
 have num:∀(it:bG) (p c f q:Int),(Mp.num it p c f q).err=0→(Mp.num it p c f q).at_=0:=by
  intro it p c f q h;unfold Mp.num at h ⊢;split at h
  ·cases h
  ·rename_i a;rw [aj a]
 have row:∀(it:bG) (p q n:Int),(Mp.row b it p q n).err=0→(Mp.row b it p q n).at_=0:=by
  intro it p q n h
  unfold Mp.row at h ⊢
  split at h
  ·cases h
  ·rename_i a;rw [aj a]
   split at h
   ·rename_i a;rw [aq a]
   ·rename_i a;rw [aj a]
    split at h
    ·rename_i a;rw [aq a]
    ·cases h
 have fin:∀(sub:Int→Mp.iv) (p c k:Int) (n:UInt64) (long:Int) (t:UInt64) (q:Int),(Mp.gU b sub p c k n long t q).err=0→(Mp.gU b sub p c k n long t q).at_=0:=by
  intro sub p c k n long t q
  unfold Mp.gU
  repeat' split
  all_goals intro h
  all_goals first
   | rfl
   | exact num _ _ _ _ _ h
   | exact Mp.zt _ _ _ _ h
   | exact row _ _ _ _ h
   | cases h
 intro d
 cases d with
 | zero=>intro p h;cases h
 | succ d =>
  intro p
  rw [Mp.read]
  split
  ·intro h;cases h
  unfold Mp.pw Mp.jB
  repeat' split
  all_goals intro h
  all_goals first
   | exact fin _ _ _ _ _ _ _ _ h
   | cases h
theorem cH.goal (b:bY) (depth:Int) (hp:decide (b.length≤1099511627776)=true):cH.F b depth=some [.ag (Itv.cells (bG.val (Mp.dec b depth).1)),.ag (cX.cells (Mp.dec b depth).2)]:=by
 have hb:=aF hp
 refine cH.dQ _ _ ?_
 intro v1 e1 v2 e2 v3 e3 v4 e4
 simp only [aG,bB,aO,cI]
 have tw:v1=decide (depth<0∨1000<depth):=by
  rw [e1]
  by_cases a:depth<0 <;> by_cases b:1000<depth <;> simp [a,b]
 rw [tw,Mp.dec]
 by_cases a:depth<0∨1000<depth
 ·rw [aa a,ak,aq a];rfl
 rw [ae a,ah,aj a,bL (aa ⟨hb,by omega,by omega,by omega,by omega⟩)]
 rw [Int.sub_zero] at e2 e3
 rw [cH.nZ,cH.nZ,e4,e3,Int.sub_zero,e2,Mp.next]
 by_cases x:(Mp.read b depth.toNat 0).err=0
 ·rw [aa x,ak,aq x,aj (fun h=>h x)]
  by_cases y:(Mp.read b depth.toNat 0).pos<b.length
  ·rw [aa y,ak,aq y];rfl
  ·rw [ae y,ah,aj y]
   simp only [x,Mp.Eh b _ _ x];rfl
 ·rw [ae x,ah,ah,aq x];rfl
theorem bG.FG (left a b c:Int) (ha:0≤a) (hb:0≤b) (hc:0≤c) (hl:left≤10000) :
  qv.room left [a,b,c]≤10000∧(qv.room left [a,b,c]=-1∨(qv.room left [a,b,c]=left - a - b - c∧0≤left - a - b - c)):=by
 simp only [qv.room]
 split
 ·omega
 ·split
  ·omega
  ·split <;> omega
mutual
theorem bG.room_le:∀(it:bG) (left:Int),left≤10000→bG.room left it≤10000∧(0≤bG.room left it→(bG.c7 it:Int)≤left - bG.room left it)
 | .mk k n b t ks,left,hl=>by
  have h1:=bG.FG left 2 t.length b.length (by omega) (by omega) (by omega) hl
  have h2:=bG.wa ks (qv.room left [2,(t.length:Int),(b.length:Int)]) h1.1
  simp only [bG.room,bG.c7]
  refine ⟨h2.1,fun h0=>?_⟩
  have h3:=h2.2 h0
  rcases h1.2 with e | ⟨e,e0⟩
  ·omega
  ·omega
theorem bG.wa:∀(ks:List bG) (left:Int),left≤10000→bG.pS left ks≤10000∧(0≤bG.pS left ks→0≤left∧(bG.db ks:Int)≤left - bG.pS left ks)
 | [],left,hl=>by simp only [bG.pS,bG.db];exact ⟨hl,fun h=>⟨h,by omega⟩⟩
 | k :: r,left,hl=>by
  simp only [bG.pS,bG.db]
  split
  ·exact ⟨hl,fun h=>by omega⟩
  ·have h1:=bG.room_le k left hl
   have h2:=bG.wa r (bG.room left k) h1.1
   refine ⟨h2.1,fun h0=>?_⟩
   have h3:=h2.2 h0
   have h4:=h1.2 h3.1
   exact ⟨by omega,by omega⟩
end
theorem bG.xT (it:bG) (h:0≤bG.room 1500 it):bG.c7 it≤1500:=by
 have:=(bG.room_le it 1500 (by omega)).2 h;omega
theorem cN.fH (n:Nat) (it:Itv) (hn:bG.db it.kids<n):∀(m i:Nat) (left:Int),i+m=it.kids.length→left≤10000→(i:Int)+left≤10000→cN.l1 n left i it=some [.i .i64 (bG.pS left (it.kids.drop i))]:=by
 intro m
 induction m with
 | zero =>
  intro i left hi hl OF
  refine cN.eC _ _ _ _ ?_
  intro v1 e1 v2 e2 v3 e3 v4 e4
  simp only [aG,cI]
  rw [e2,ae (by omega),ah,ah,aJ (by omega)];rfl
 | succ m ih =>
  intro i left hi hl OF
  refine cN.eC _ _ _ _ ?_
  intro v1 e1 v2 e2 v3 e3 v4 e4
  simp only [aG,cI]
  have vq:i<it.kids.length:=by omega
  have xa:=bG.og it.kids i vq
  rw [aI,bG.ib] at e3
  rw [e2,aa (by omega),ak,drop_cons vq (eN.eG .il),bG.pS]
  by_cases a:left<0
  ·rw [ae (by omega),ah,aq a]
  ·rw [aa (by omega),ak,aj a,bL (fq (by omega) (by omega)),aI,bG.ib,bL (by rw [aa hl,aa (by omega)];rfl),show v4=((i+1:Nat):Int) by rw [e4,i64_in _ (by omega)];omega,e3]
   have hr:=bG.room_le (it.kids.getD i (eN.eG .il)) left hl
   have hp:=bG.qo (it.kids.getD i (eN.eG .il))
   refine ih _ _ (by omega) hr.1 ?_
   by_cases z:0≤bG.room left (it.kids.getD i (eN.eG .il))
   ·have:=hr.2 z;omega
   ·omega
theorem cN.goal (n:Nat) (left:Int) (it:Itv) (hp:((decide (left≤10000))&&decide ((bG.c7 (bG.of it))<n+1))=true):cN.F n left it=some [.i .i64 (bG.room left (bG.of it))]:=by
 simp only [af,az] at hp
 obtain ⟨hl,hn⟩:=hp
 rw [bG.ln] at hn
 refine cN.dQ _ _ _ ?_
 intro v1 e1 v2 e2 v3 e3
 have h3:=bG.FG left 2 it.text.length it.bytes.length (by omega) (by omega) (by omega) hl
 have c3:(decide (left≤10000∧v3.length≤10)&&v3.all (fun s=>decide (0≤s)))=true:=by
  rw [e3,e1,e2];simp;omega
 rw [bL c3,e3,e1,e2]
 have:=cN.fH n it (by omega) it.kids.length 0 (qv.room left [2,(it.text.length:Int),(it.bytes.length:Int)]) (by omega) h3.1 (by have:=h3.1;omega)
 simp only [bG.of,bG.room]
 exact this
theorem cR.goal (it:Itv):cR.F it=some [.b (decide (0≤bG.room 1500 (bG.of it)))]:=by
 refine cR.dQ _ ?_
 intro v1 e1
 rw [bL (aa (by omega)),e1]
theorem eo.goal (f g:cX) (hp:decide (f.path.length≤1099511627776)=true):eo.F f g=some [.b (decide (f.err=g.err∧f.at_=g.at_∧f.path=g.path))]:=by
 refine eo.dQ _ _ ?_
 intro v1 e1 v2 e2
 simp only [hp,Bool.and_true,aO,aG,cI]
 rw [e2,e1]
 by_cases a:f.err=g.err <;> by_cases b:f.at_=g.at_ <;> by_cases c:f.path=g.path <;> simp [a,b,c]
end Go.Eng
namespace Go.Eng
open Go.IntWalk
theorem Mp.Ei (f:Int × Int) (n:UInt64):1≤(Mp.put f n).length:=by simp [Mp.put]
theorem Mp.wX (it:bG):1≤(Mp.head it).length:=by
 obtain ⟨k,n,b,t,ks⟩:=it
 unfold Mp.head
 repeat' split
 all_goals first | exact Mp.Ei _ _ | simp
mutual
theorem Mp.xC:∀(it:bG),bG.c7 it≤(Mp.lay it).length
 | .mk k n b t ks=>by
  have h1:=Mp.wX (.mk k n b t ks)
  have h2:=Mp.sY ks
  simp only [Mp.lay,bG.c7,aw];omega
theorem Mp.sY:∀(ks:List bG),bG.db ks≤(Mp.eR ks).length
 | []=>Nat.zero_le _
 | k :: r=>by
  have h1:=Mp.xC k
  have h2:=Mp.sY r
  simp only [Mp.eR,bG.db,aw];omega
end
theorem Mp.jc (it:bG):(Mp.lay it).length≤10+it.bytes.length+it.text.length+(Mp.eR it.kids).length∧1+it.bytes.length+it.text.length+(Mp.eR it.kids).length≤(Mp.lay it).length:=by
 obtain ⟨k,n,b,t,ks⟩:=it
 have h1:=Mp.wY (.mk k n b t ks)
 have h2:=Mp.wX (.mk k n b t ks)
 simp only [Mp.lay,bG.bytes,bG.text,bG.kids,aw];omega
namespace Tree
theorem mR {f:bM} {r:List bM}:iT (f :: r)=true ↔ lj f=true∧iT r=true:=by rw [iT,af]
mutual
theorem sQ:∀(f:bM) (p:List Int),(iN f p).2=0 ↔ lj f=true
 | .mk n k b h l t m s y ks,p=>by
  rw [iN,lj,af,az]
  by_cases a:rB ⟨k,b,h,l,t,m,s,y,ks⟩ n=0
  ·rw [aj (by simpa using a),ug ks 0 p]
   exact ⟨fun h=>⟨a,h⟩,fun h=>h.2⟩
  ·rw [aq a]
   exact ⟨fun h=>absurd h a,fun h=>absurd h.1 a⟩
theorem ug:∀(l:List bM) (i:Nat) (p:List Int),(vF l i p).2=0 ↔ iT l=true
 | [],i,p=>by rw [vF,iT];exact ⟨fun _=>rfl,fun _=>rfl⟩
 | f :: r,i,p=>by
  rw [vF,mR]
  by_cases a:(iN f (p++[(i:Int)])).2=0
  ·rw [aj (by simpa using a),ug r (i+1) p]
   exact ⟨fun h=>⟨(sQ f _).1 a,h⟩,fun h=>h.2⟩
  ·rw [aq a]
   exact ⟨fun h=>absurd h a,fun h=>absurd ((sQ f _).2 h.1) a⟩
end
theorem wj {v:bI} {n:bY} (h:rB v n=0):own v=0∧ee.whole n=true∧ee.zero n=false:=by
 unfold rB at h
 by_cases a:own v=0
 ·rw [aj (by simpa using a)] at h
  refine ⟨a,?_⟩
  by_cases b:fK n true=false
  ·rw [aq b] at h;cases h
  ·simp only [Bool.not_eq_false] at b
   unfold fK at b
   simpa using b
 ·rw [aq a] at h;exact absurd h a
theorem BS {v:bI} {n:bY} (h:own v=0) (hn:ee.whole n=true∧ee.zero n=false):rB v n=0:=by
 unfold rB
 rw [aj (by simpa using h),aj (by unfold fK;rw [hn.1,hn.2];decide)]
theorem lT (n:bY) (v:bI):lj (bM.of n v)=true ↔ own v=0∧(ee.whole n=true∧ee.zero n=false)∧iT v.kids=true:=by
 obtain ⟨k,b,h,l,t,m,s,y,ks⟩:=v
 rw [bM.of,lj,af,az]
 exact ⟨fun h=>⟨(wj h.1).1,(wj h.1).2,h.2⟩,fun h=>⟨BS h.1 h.2.1,h.2.2⟩⟩
theorem C9 {n:bY} {v:bI} (h:lj (bM.of n v)=true):lj (bM.of [] v)=true:=by
 have:=(lT n v).1 h
 exact (lT [] v).2 ⟨this.1,⟨by decide,by decide⟩,this.2.2⟩
theorem xk (f:bM) (h:lj f=true):lj (bM.of [] f.val)=true:=by
 cases f with
 | mk n k b hh l t m s y ks=>exact C9 (n:=n) h
end Tree
namespace Dk
theorem EA (n:bY) (v:bI):item (bM.of n v)=nf v (mapped v.kids) (items v.kids):=by cases v;rfl
theorem tW (v:bI) (m:bY):(inner v m).length≤16+v.text.length+v.more.length+v.bytes.length+m.length:=by
 unfold inner
 repeat' split
 all_goals first | omega | (simp only [aw,aL,aA,cT.gy,Db.words];omega) | exact Nat.zero_le _
theorem wG (x:Int):(Mp.lay (Db.integer x)).length≤10:=by
 unfold Db.integer
 split
 ·exact (Mp.jc _).1
 ·exact (Mp.jc _).1
theorem rN (m:List bG):(Mp.lay (Db.map m)).length≤10+(Mp.eR m).length:=by
 have:=(Mp.jc (Db.map m)).1
 simpa [Db.map,bG.bytes,bG.text,bG.kids] using this
theorem yi (v:bI) (m l:List bG):(Mp.lay (nf v m l)).length≤40+v.text.length+v.more.length+v.bytes.length+max (Mp.eR m).length (Mp.eR l).length:=by
 have h1:=rN m
 have h2:=tW v (Mp.lay (Db.map m))
 have h3:=wG (Db.i32 v.bits)
 unfold nf
 repeat' split
 all_goals first | omega | skip
 all_goals refine Nat.le_trans (Mp.jc _).1 ?_
 all_goals simp only [Db.text,Db.list,Db.raw,Db.simple,ext,bG.bytes,bG.text,bG.kids,aA,Mp.eR]
 all_goals omega
mutual
theorem wE:∀f:bM,(Mp.lay (item f)).length+20+f.name.length≤64 * bM.c7 f
 | .mk n k b h lo t m s y ks=>by
  have h1:=lF ks
  have h2:=tU ks
  have h3:=yi ⟨k,b,h,lo,t,m,s,y,ks⟩ (mapped ks) (items ks)
  simp only [item,bM.c7,bM.name] at h3 ⊢
  omega
theorem lF:∀l:List bM,(Mp.eR (mapped l)).length≤64 * bM.db l
 | []=>Nat.zero_le _
 | f :: r=>by
  have h1:=wE f
  have h2:=lF r
  have h3:=(Mp.jc (Db.text f.name)).1
  simp only [Db.text,bG.bytes,bG.text,bG.kids,Mp.eR,aA] at h3
  simp only [mapped,Mp.eR,bM.db,aw,Db.text];omega
theorem tU:∀l:List bM,(Mp.eR (items l)).length≤64 * bM.db l
 | []=>Nat.zero_le _
 | f :: r=>by
  have h1:=wE f
  have h2:=tU r
  simp only [items,Mp.eR,bM.db,aw];omega
end
theorem Ci (l:List bM):bG.c7 (Db.map (mapped l))≤64 * bM.db l+10:=by
 have h1:=lF l
 have h2:=Mp.xC (Db.map (mapped l))
 have h3:=rN (mapped l)
 omega
theorem lE:∀l:List bM,(mapped l).length=2 * l.length
 | []=>rfl
 | f :: r=>by rw [mapped,aL,aL,lE r,aL];omega
theorem oy:∀l:List bM,l.length≤bM.db l
 | []=>Nat.zero_le _
 | f :: r=>by
  have:=oy r
  cases f
  simp only [aL,bM.db,bM.c7];omega
theorem tT:∀l:List bM,(items l).length=l.length
 | []=>rfl
 | f :: r=>by rw [items,aL,aL,tT r]
end Dk
end Go.Eng
namespace Go.Eng
open Go.IntWalk
theorem As (v:Int) (h:v<0) (h2 : -9223372036854775808≤v) : ~~~(UInt64.ofInt v)=UInt64.ofInt (-(v+1)):=by
 apply aY.1
 have h1:=lp (-(v+1))
 have h3:=lp v
 rw [je] at h1 h3
 rw [pW]
 omega
theorem vk (x:Int) : -2147483648≤IntKind.i32.wrap x∧IntKind.i32.wrap x≤2147483647:=by
 simp only [IntKind.wrap,IntKind.bits,IntKind.signed]
 simp
 omega
theorem EC (x:Int):IntKind.i64.wrap (IntKind.i32.wrap x)=IntKind.i32.wrap x:=by
 have:=vk x
 exact i64_in _ (by omega)
theorem Qx {n:UInt64} (h:¬(9223372036854775808:UInt64)≤n):n.toNat<9223372036854775808:=aC.1 (UInt64.not_le.1 h)
theorem Db.Ar (it:Itv):Db.number (bG.of it)=if 9223372036854775808≤it.n then none else if it.kind=1 then some (it.n.toNat:Int) else if it.kind=2 then some (-1 - (it.n.toNat:Int)) else none:=rfl
theorem Db.yf (it:Itv):Db.gA (bG.of it)=if 9223372036854775808≤it.n then 0 else if it.kind=2 then -1 - (it.n.toNat:Int) else (it.n.toNat:Int):=rfl
theorem di.goal (it:Itv):di.F it=some [.i .i64 (Db.gA (bG.of it)),.b (Db.number (bG.of it)).isSome]:=by
 refine di.dQ _ ?_
 intro v1 h1 v2 h2
 rw [Db.Ar,Db.yf]
 by_cases a:9223372036854775808≤it.n
 ·rw [aa a,ak,aq a,aq a];rfl
 have hn:=Qx a
 have e1:v1=(it.n.toNat:Int):=by rw [h1,i64_in _ (by omega)]
 rw [ae a,ah,aj a,aj a]
 by_cases c:it.kind=2
 ·rw [aa c,ak,aq c,h2,e1,i64_in (0 - (it.n.toNat:Int)) (by omega),i64_in _ (by omega),aj (by omega),aq c,show (0:Int) - (it.n.toNat:Int) - 1=-1 - (it.n.toNat:Int) by omega];rfl
 rw [ae c,ah,aj c,e1]
 by_cases b:it.kind=1
 ·rw [aa b,aq b];rfl
 ·rw [ae b,aj b,aj c];rfl
theorem dM.goal (it:Itv):dM.F it=some [.ag (bI.cells (Db.half (bG.of it)).1),.b (Db.half (bG.of it)).2]:=by
 refine dM.dQ _ ?_
 intro v1 h1 v2 h2 v3 h3 v4 h4 v5 h5
 simp only [aG,cI]
 have e3:v3=UInt64.ofInt (Db.gA (bG.of it) % 4294967296):=by
  rw [h3]
  congr 1
  have:=qB v2
  rw [wrap_u32'] at this
  rw [this,h2]
  simp only [IntKind.wrap,IntKind.bits,IntKind.signed]
  simp
  omega
 have e5:v5=((Db.number (bG.of it)).isSome&&decide (-2147483648≤Db.gA (bG.of it)∧Db.gA (bG.of it)<2147483648)):=by
  rw [h5,h4,h1,Bool.decide_and]
  cases (Db.number (bG.of it)).isSome <;> by_cases x:(-2147483648:Int)≤Db.gA (bG.of it) <;> simp [x]
 rw [e3,e5];rfl
end Go.Eng
namespace Go.Eng
open Go.IntWalk
theorem jO:ee.whole []=true:=by decide
namespace Dk
theorem xz {s:bY} (h:ee.whole s=true) (hl:s.length<4294967296):Mp.dp (Db.text s)=0:=by
 rw [Db.text,Mp.dp,aq (show Mp.own (.mk 4 0 [] s [])=0 by simp [Mp.own,h];omega)];rfl
theorem Ff {b:bY} (hl:b.length<4294967296):Mp.dp (Db.raw b)=0:=by
 rw [Db.raw,Mp.dp,aq (show Mp.own (.mk 3 0 b [] [])=0 by simp [Mp.own,jO];omega)];rfl
theorem AZ (n:UInt64):Mp.dp (.mk 9 n [] [] [])=0:=by
 rw [Mp.dp,aq (show Mp.own (.mk 9 n [] [] [])=0 by simp [Mp.own,jO])];rfl
theorem Dt (n:UInt64):Mp.dp (.mk 1 n [] [] [])=0:=by
 rw [Mp.dp,aq (show Mp.own (.mk 1 n [] [] [])=0 by simp [Mp.own,jO])];rfl
theorem Fh {n:UInt64} (h:¬9223372036854775808≤n):Mp.dp (.mk 2 n [] [] [])=0:=by
 rw [Mp.dp,aq (show Mp.own (.mk 2 n [] [] [])=0 by simp [Mp.own,jO];simpa using h)];rfl
theorem sX {n:UInt64} (h:¬(n<20∨22<n)):Mp.dp (Db.simple n)=0:=by
 simp only [not_or] at h
 rw [Db.simple,Mp.dp,aq (show Mp.own (.mk 8 n [] [] [])=0 by simp [Mp.own,jO,h.1,h.2])];rfl
theorem Fi {n:UInt64} {b:bY} (h:¬127<n) (hl:b.length<4294967296):Mp.dp (.mk 10 n b [] [])=0:=by
 rw [Mp.dp,aq (show Mp.own (.mk 10 n b [] [])=0 by simp [Mp.own,jO,h];omega)];rfl
theorem Dv {l:List bG} (h:Mp.gf l=0) (hl:l.length<4294967296):Mp.dp (Db.list l)=0:=by
 rw [Db.list,Mp.dp,aq (show Mp.own (.mk 5 0 [] [] l)=0 by simp [Mp.own,jO];omega)];exact h
theorem z8 {l:List bG} (h:Mp.gf l=0) (he:l.length % 2=0) (hl:l.length<4294967296):Mp.dp (Db.map l)=0:=by
 rw [Db.map,Mp.dp,aq (show Mp.own (.mk 6 0 [] [] l)=0 by simp [Mp.own,jO,he];omega)];exact h
theorem xA {x:Int} (h : -2147483648≤x):Mp.dp (Db.integer x)=0:=by
 unfold Db.integer
 split
 ·refine Fh fun a=>?_
  obtain ⟨m,hm⟩:∃m:Nat,-(x+1)=m:=⟨(-(x+1)).toNat,by omega⟩
  have:=aN.1 a
  rw [hm,jv] at this
  have e:(9223372036854775808:UInt64).toNat=9223372036854775808:=rfl
  omega
 ·exact Dt _
theorem Et {v:bI} (h:Tree.own v=0):v.kind∈Tree.kinds∧Tree.fI v=true∧ee.whole v.text=true:=by
 unfold Tree.own at h
 by_cases a:Tree.name v.kind=[]
 ·rw [aq a] at h;cases h
 rw [aj a] at h
 by_cases b:Tree.fI v=false
 ·rw [aq b] at h;cases h
 rw [aj b] at h
 by_cases c:Tree.fK v.text (decide (v.kind=11))=false∨Tree.fK v.more (decide (v.kind=11))=false
 ·rw [aq c] at h;cases h
 refine ⟨Classical.byContradiction fun h=>a (Tree.At _ h),by simpa using b,?_⟩
 have c:=(not_or.1 c).1
 simp only [Bool.not_eq_false] at c
 unfold Tree.fK at c
 rw [af] at c
 exact c.1
theorem D5 {k:Int} (h:k∈Tree.kinds):¬127<sort k:=by
 simp only [Tree.kinds,bq,List.not_mem_nil,or_false] at h
 rcases h with rfl | rfl | rfl | rfl | rfl | rfl | rfl | rfl | rfl | rfl | rfl | rfl | rfl | rfl | rfl | rfl | rfl | rfl | rfl | rfl | rfl <;> decide
theorem Fk {v:bI} (h:Tree.fI v=true) (hk:v.kind=8):¬(20+v.bits<20∨22<20+v.bits):=by
 obtain ⟨k,b,hh,l,t,m,s,y,ks⟩:=v
 have hk:k=8:=hk
 subst hk
 simp [Tree.fI,Tree.vv] at h
 have hb:b.toNat<2:=aC.1 h.1.2
 show ¬(20+b<20∨22<20+b)
 rcases (by omega:b.toNat=0∨b.toNat=1) with e | e
 ·rw [show b=0 from aY.1 e];decide
 ·rw [show b=1 from aY.1 e];decide
theorem yj {v:bI} {m l:List bG} (ho:Tree.own v=0) (hm:Mp.gf m=0) (he:m.length % 2=0) (hl:Mp.gf l=0) (h1:v.text.length≤2000000) (h2:v.more.length≤2000000) (h3:v.bytes.length≤2000000) (h4:m.length≤3000000) (h5:l.length≤3000000) (h6:(Mp.eR m).length≤200000000):Mp.dp (nf v m l)=0:=by
 obtain ⟨hk,hf,hw⟩:=Et ho
 have h7:=tW v (Mp.lay (Db.map m))
 have h8:=rN m
 unfold nf
 by_cases a1:v.kind=1
 ·rw [aq a1];exact AZ _
 rw [aj a1]
 by_cases a2:v.kind=2
 ·rw [aq a2];exact xz hw (by omega)
 rw [aj a2]
 by_cases a3:v.kind=3
 ·rw [aq a3];exact z8 hm he (by omega)
 rw [aj a3]
 by_cases a4:v.kind=4∧Tree.regular v.kids=true
 ·rw [aq a4];exact Dv hl (by omega)
 rw [aj a4]
 by_cases a5:v.kind=5∧v.sub=0
 ·rw [aq a5];exact Ff (by omega)
 rw [aj a5]
 by_cases a6:v.kind=10
 ·rw [aq a6];exact sX (by decide)
 rw [aj a6]
 by_cases a7:v.kind=8
 ·rw [aq a7];exact sX (Fk hf a7)
 rw [aj a7]
 by_cases a8:v.kind=16
 ·rw [aq a8];exact xA (by unfold Db.i32;exact (vk _).1)
 rw [aj a8]
 exact Fi (D5 hk) (by omega)
theorem xg (n:bY) (k:Int) (b h l:UInt64) (t m:bY) (s:Int) (y:List UInt8) (ks:List bM) (hb:bM.c7 (.mk n k b h l t m s y ks)≤1048576):n.length≤1048576∧t.length≤1048576∧m.length≤1048576∧y.length≤1048576∧bM.db ks≤1048576:=by
 simp only [bM.c7] at hb;omega
mutual
theorem wF:∀f:bM,Tree.lj f=true→bM.c7 f≤1048576→Mp.dp (item f)=0
 | .mk n k b h lo t m s y ks,hf,hb=>by
  obtain ⟨b1,b2,b3,b4,b5⟩:=xg _ _ _ _ _ _ _ _ _ _ hb
  have wV:=(Tree.lT n ⟨k,b,h,lo,t,m,s,y,ks⟩).1 hf
  have h1:=pB ks wV.2.2 b5
  have h2:=tV ks wV.2.2 b5
  have h3:=oy ks
  have h4:=lF ks
  rw [item]
  exact yj wV.1 h1 (by rw [lE];omega) h2 (by show t.length≤_;omega) (by show m.length≤_;omega) (by show y.length≤_;omega) (by rw [lE];omega) (by rw [tT];omega) (by omega)
theorem pB:∀l:List bM,Tree.iT l=true→bM.db l≤1048576→Mp.gf (mapped l)=0
 | [],_,_=>by rw [mapped,Mp.gf]
 | f :: r,hf,hb=>by
  have wV:=Tree.mR.1 hf
  simp only [bM.db] at hb
  have h1:=wF f wV.1 (by omega)
  have h2:=pB r wV.2 (by omega)
  have h3:ee.whole f.name=true∧f.name.length≤1048576:=by
   cases f with
   | mk n k b h lo t m s y ks=>exact ⟨((Tree.lT n ⟨k,b,h,lo,t,m,s,y,ks⟩).1 wV.1).2.1.1,(xg n k b h lo t m s y ks (by omega)).1⟩
  rw [mapped,Mp.gf,aq (xz h3.1 (by omega)),Mp.gf,aq h1];exact h2
theorem tV:∀l:List bM,Tree.iT l=true→bM.db l≤1048576→Mp.gf (items l)=0
 | [],_,_=>by rw [items,Mp.gf]
 | f :: r,hf,hb=>by
  have wV:=Tree.mR.1 hf
  simp only [bM.db] at hb
  have h1:=wF f wV.1 (by omega)
  have h2:=tV r wV.2 (by omega)
  rw [items,Mp.gf,aq h1];exact h2
end
theorem Er (l:List bM) (hf:Tree.iT l=true) (hb:bM.db l≤1048576):Mp.dp (Db.map (mapped l))=0:=by
 have:=oy l
 exact z8 (pB l hf hb) (by rw [lE];omega) (by rw [lE];omega)
end Dk
end Go.Eng
namespace Go.Eng
open Go.IntWalk
def jh (b:bY) (p q:Int):bY:=(b.drop p.toNat).take (q - p).toNat
theorem ot (b:bY) (p q r:Int) (h0:0≤p) (h1:p≤q) (h2:q≤r):jh b p r=jh b p q++jh b q r:=by
 rw [jh,jh,jh,show (r - p).toNat=(q - p).toNat+(r - q).toNat by omega,List.take_add,List.drop_drop,show p.toNat+(q - p).toNat=q.toNat by omega]
def Mp.DL (b:bY) (d:Nat) (p:Int) (g:Mp.iv):Prop:=Mp.dp g.it=0∧Mp.lay g.it=jh b p g.pos∧bG.nest g.it≤d
section
variable {c:UInt8} {L:bY} {u:UInt64} {k:Int} {n0:UInt64} {long:Int}
theorem Mp.BL (h:Mp.mz c L u k n0 long) (hk:k=3∨k=4∨k=5∨k=6∨k=10) (hu:u.toNat<4294967296) (he:(Mp.sized k u.toNat).1=(c.toNat:Int)):Mp.put (Mp.sized k u.toNat) u=c :: L:=by
 obtain ⟨f,b0,b1,_⟩:=Mp.ob k (by omega) u.toNat hu
 refine (Mp.pT _ u c L ⟨b0,b1⟩ fun q=>?_).2 he
 rw [q,h.f] at f
 injection f with _ f;injection f with _ f
 rw [←f]
 exact cT.oF u long L h.mN h.l h.uL
end
theorem Mp.uZ {it:bG} {p c f q:Int} (h:(Mp.num it p c f q).err=0):f=c∧Mp.num it p c f q=⟨it,0,0,q⟩:=by
 unfold Mp.num at h ⊢
 by_cases a:f=c
 ·exact ⟨a,by rw [aj (fun h=>h a)]⟩
 ·rw [aq a] at h;cases h
theorem Mp.tR (b : bY) (d : Nat) (f : Int → Mp.iv) (hp : ∀ q : Int, 0 ≤ q → q ≤ b.length → q ≤ (f q).pos ∧ (f q).pos ≤ b.length ∧ ((f q).err = 0 → q < (f q).pos)) (hf : ∀ q : Int, 0 ≤ q → q ≤ b.length → (f q).err = 0 → Mp.DL b d q (f q)) : ∀ (n : Nat) (it : bG) (q : Int), 0 ≤ q → q ≤ b.length → (Mp.kids f it n q).err = 0 →
    ∃ ks : List bG, (Mp.kids f it n q).it = .mk it.kind it.n it.bytes it.text (it.kids ++ ks) ∧ ks.length = n ∧ Mp.gf ks = 0 ∧ Mp.eR ks = jh b q (Mp.kids f it n q).pos ∧ bG.rf ks ≤ d ∧ q ≤ (Mp.kids f it n q).pos := by
  intro n
  induction n with
  | zero => intro it q h0 h1 _; refine ⟨[], ?_, rfl, rfl, ?_, Nat.zero_le _, Int.le_refl _⟩
            · cases it; simp [Mp.kids, bG.kind, bG.n, bG.bytes, bG.text, bG.kids]
            · simp [Mp.kids, Mp.eR, jh]
  | succ n ih =>
    intro it q h0 h1 he
    rw [Mp.kids] at he ⊢
    by_cases a : (f q).err = 0
    · rw [aj (fun h => h a)] at he ⊢
      obtain ⟨p1, p2, p3⟩ := hp q h0 h1
      obtain ⟨j1, j2, j3⟩ := hf q h0 h1 a
      obtain ⟨ks, i1, i2, i3, i4, i5, i6⟩ := ih _ _ (by omega) p2 he
      refine ⟨(f q).it :: ks, ?_, by rw [aL, i2], ?_, ?_, ?_, by omega⟩
      · rw [i1]
        simp only [bG.kind, bG.n, bG.bytes, bG.text, bG.kids]
        rw [aZ]; rfl
      · rw [Mp.gf, aq j1]; exact i3
      · rw [Mp.eR, j2, i4]
        exact (ot b q (f q).pos _ h0 p1 i6).symm
      · rw [bG.rf]; omega
    · rw [aq a] at he; exact (a he).elim
theorem Mp.qj (k:Int) (n:UInt64) (b t:bY) (h:Mp.own (.mk k n b t [])=0):Mp.dp (.mk k n b t [])=0:=by rw [Mp.dp,aq h];rfl
theorem Mp.Cs (k:Int) (n:UInt64):Mp.lay (.mk k n [] [] [])=Mp.head (.mk k n [] [] []):=by simp [Mp.lay,Mp.eR]
theorem Mp.Cq (u:UInt64):UInt64.ofNat u.toNat=u:=UInt64.ofNat_toNat
theorem AU (b:bY) (q:Int) (n:Nat) (h:q+n≤b.length) (h0:0≤q):(jh b q (q+n)).length=n:=by
 rw [jh,bh,aS];omega
theorem Mp.BE {b:bY} {it:bG} {p q:Int} {m:Nat} (h:(Mp.row b it p q m).err=0):q+m≤b.length∧(it.kind≠4→Mp.row b it p q m=⟨.mk it.kind it.n (jh b q (q+m)) it.text it.kids,0,0,q+m⟩)∧(it.kind=4→ee.whole (jh b q (q+m))=true∧Mp.row b it p q m=⟨.mk it.kind it.n it.bytes (jh b q (q+m)) it.kids,0,0,q+m⟩):=by
 unfold Mp.row at h ⊢
 have e:jh b q (q+m)=(b.drop q.toNat).take (m:Int).toNat:=by rw [jh];congr 1;omega
 rw [e]
 by_cases a:(m:Int)<0∨(b.length:Int) - q<m
 ·rw [aq a] at h;cases h
 rw [aj a] at h ⊢
 refine ⟨by omega,fun k4=>by rw [aq k4],fun k4=>?_⟩
 rw [aj (fun h=>h k4)] at h ⊢
 by_cases a5:ee.whole ((b.drop q.toNat).take (m:Int).toNat)=true
 ·exact ⟨a5,by rw [aq a5]⟩
 ·rw [aj a5] at h;cases h
section
variable {c:UInt8} {L:bY} {u:UInt64} {k:Int} {n0:UInt64} {long:Int}
theorem Mp.xp (b:bY) (d:Nat) (sub:Int→Mp.iv) (hp:∀q:Int,0≤q→q≤b.length→q≤(sub q).pos∧(sub q).pos≤b.length∧((sub q).err=0→q<(sub q).pos)) (hf:∀q:Int,0≤q→q≤b.length→(sub q).err=0→Mp.DL b d q (sub q))
  (hS:Mp.mz c L u k n0 long) (p q:Int) (h0:0≤p) (Lb:p≤q) (hq:q≤b.length) (ty:UInt8) (xJ:jh b p q=c :: (L++if k=10 then [ty] else []))
  (h:(Mp.gU b sub p (c.toNat:Int) k u long (if k=10 then ty.toUInt64 else 0) q).err=0):Mp.DL b (d+1) p (Mp.gU b sub p (c.toNat:Int) k u long (if k=10 then ty.toUInt64 else 0) q):=by
 obtain ⟨F1,_,_,F5⟩:=hS.kinds
 have Oc:=hS.u8
 have CD:=hS.u32
 have leaf:∀(n:UInt64),k≠10→Mp.own (.mk k n [] [] [])=0→Mp.head (.mk k n [] [] [])=c :: L→Mp.DL b (d+1) p ⟨.mk k n [] [] [],0,0,q⟩:=by
  intro n nX ho hh
  rw [aj nX,aM] at xJ
  exact ⟨Mp.qj _ _ _ _ ho,by rw [Mp.Cs,hh,xJ],by simp [bG.nest,bG.rf]⟩
 have w0:ee.whole []=true:=by decide
 unfold Mp.gU at h ⊢
 by_cases k2:k=2
 ·subst k2
  rw [aj (by decide),aj (by decide),aq rfl] at h ⊢
  have JX:∀n:UInt64,n<9223372036854775808→Mp.own (.mk 2 n [] [] [])=0:=by
   intro n hn
   have:¬(9223372036854775808:UInt64)≤n:=UInt64.not_le.2 hn
   simp [Mp.own,w0,this]
  by_cases a:long=0
  ·have Od:=F5 rfl a
   rw [aq a] at h ⊢
   obtain ⟨e,g⟩:=Mp.uZ h
   rw [g]
   exact leaf u (by decide) (JX u (by rw [aC];show u.toNat<9223372036854775808;omega)) ((Mp.y3 hS u (by rw [aq a]) 0).2 e)
  ·rw [aj a] at h ⊢
   cases yu:Mp.below u long with
   | none=>rw [yu] at h;cases h
   | some m =>
    rw [yu] at h
    have hl:=hS.mN
    have hB:=Mp.s6 u long (by omega) (Oc a) _ rfl _ rfl
    rw [yu] at hB
    have It:m<9223372036854775808:=by
     rw [hB.1] at hB
     exact UInt64.not_le.1 hB.2
    obtain ⟨e,g⟩:=Mp.uZ h
    simp only
    rw [g]
    exact leaf m (by decide) (JX m It) ((Mp.y3 hS m (by rw [aj a];exact yu) 0).2 e)
 by_cases k8:k=8
 ·subst k8
  obtain ⟨w1,w2,w3⟩:=Mp.FA hS 0
  rw [aq (by decide)]
  refine leaf u (by decide) ?_ w1
  have q1:¬u<20:=fun h=>by
   have:=aC.1 h;have:=aN.1 w2;omega
  have q2:¬22<u:=fun h=>by
   have:=aC.1 h;have:=aN.1 w3;omega
  simp [Mp.own,w0,q1,q2]
 by_cases k9:k=9
 ·subst k9
  rw [aq (by decide)]
  exact leaf u (by decide) (by simp [Mp.own,w0]) (Mp.Fz hS 0)
 rw [aj (show ¬(k=8∨k=9) by omega)] at h ⊢
 by_cases k1:k=1
 ·subst k1
  rw [aq rfl] at h ⊢
  obtain ⟨e,g⟩:=Mp.uZ h
  rw [g]
  exact leaf u (by decide) (by simp [Mp.own,w0]) ((Mp.FB hS 0).2 e)
 rw [aj k1,aj k2] at h ⊢
 have hk:k=3∨k=4∨k=5∨k=6∨k=10:=by omega
 have hu:=CD (by omega)
 by_cases a:(Mp.sized k u.toNat).1≠(c.toNat:Int)∨127<(if k=10 then ty.toUInt64 else 0)
 ·rw [aq a] at h;cases h
 rw [aj a] at h ⊢
 have he:(Mp.sized k u.toNat).1=(c.toNat:Int):=Classical.byContradiction fun h=>a (.inl h)
 have CI:=Mp.BL hS hk hu he
 by_cases k5:k=5
 ·subst k5
  rw [aj (by decide),aM] at xJ
  simp only [show ((5:Int)=10)=False from propext ⟨by decide,False.elim⟩,if_false,if_true] at h ⊢
  obtain ⟨ks,i1,i2,i3,i4,i5,i6⟩:=Mp.tR b d sub hp hf _ _ q (by omega) hq h
  simp only [bG.kind,bG.n,bG.bytes,bG.text,bG.kids,bz] at i1
  refine ⟨?_,?_,?_⟩
  ·rw [i1,Mp.dp,aq (by simp [Mp.own,w0];omega)];exact i3
  ·rw [i1,Mp.lay,aM,aM,i4,ot b p q _ h0 Lb i6]
   congr 1
   simp only [Mp.head,i2,Mp.Cq]
   exact CI.trans xJ.symm
  ·rw [i1,bG.nest];omega
 by_cases k6:k=6
 ·subst k6
  rw [aj (by decide),aM] at xJ
  simp only [show ((6:Int)=10)=False from propext ⟨by decide,False.elim⟩,show ((6:Int)=5)=False from propext ⟨by decide,False.elim⟩,if_false,if_true] at h ⊢
  obtain ⟨ks,i1,i2,i3,i4,i5,i6⟩:=Mp.tR b d sub hp hf _ _ q (by omega) hq h
  simp only [bG.kind,bG.n,bG.bytes,bG.text,bG.kids,bz] at i1
  have QM:ks.length / 2=u.toNat:=by omega
  refine ⟨?_,?_,?_⟩
  ·rw [i1,Mp.dp,aq (by simp [Mp.own,w0];omega)];exact i3
  ·rw [i1,Mp.lay,aM,aM,i4,ot b p q _ h0 Lb i6]
   congr 1
   have:Mp.head (.mk 6 0 [] [] ks)=Mp.put (Mp.sized 6 (ks.length / 2:Nat)) (UInt64.ofNat (ks.length / 2)):=by simp only [Mp.head];rfl
   rw [this,QM,Mp.Cq]
   exact CI.trans xJ.symm
  ·rw [i1,bG.nest];omega
 rw [aj k5,aj k6] at h ⊢
 obtain ⟨r1,r2,r3⟩:=Mp.BE h
 have jK:=AU b q u.toNat r1 (by omega)
 have E4:=ot b p q (q+u.toNat) h0 Lb (by omega)
 by_cases k4:k=4
 ·subst k4
  obtain ⟨r4,r5⟩:=r3 rfl
  rw [aj (by decide),aM] at xJ
  rw [r5]
  simp only [bG.kind,bG.n,bG.bytes,bG.text,bG.kids,show ((4:Int)=10)=False from propext ⟨by decide,False.elim⟩,if_false]
  refine ⟨Mp.qj _ _ _ _ (by simp [Mp.own,r4,jK];omega),?_,by simp [bG.nest,bG.rf]⟩
  simp only [Mp.lay,Mp.eR,aM]
  rw [E4]
  congr 1
  simp only [Mp.head,jK,Mp.Cq]
  exact CI.trans xJ.symm
 by_cases nX:k=10
 ·subst nX
  rw [aq rfl] at xJ
  rw [r2 (show (10:Int)≠4 by decide)]
  simp only [bG.kind,bG.n,bG.bytes,bG.text,bG.kids,if_true] at a ⊢
  have O0:¬(127:UInt64)<ty.toUInt64:=fun h=>a (.inr h)
  refine ⟨Mp.qj _ _ _ _ (by simp [Mp.own,w0,jK,O0];omega),?_,by simp [bG.nest,bG.rf]⟩
  simp only [Mp.lay,Mp.eR,aM]
  rw [E4]
  congr 1
  have:Mp.head (.mk 10 ty.toUInt64 (jh b q (q+u.toNat)) [] [])=Mp.put (Mp.sized 10 (jh b q (q+u.toNat)).length) (UInt64.ofNat (jh b q (q+u.toNat)).length)++[ty.toUInt64.toUInt8]:=by simp only [Mp.head];rfl
  rw [this,jK,Mp.Cq,CI,xJ]
  simp
 ·have k3:k=3:=by omega
  subst k3
  rw [aj (by decide),aM] at xJ
  rw [r2 (show (3:Int)≠4 by decide)]
  simp only [bG.kind,bG.n,bG.bytes,bG.text,bG.kids,show ((3:Int)=10)=False from propext ⟨by decide,False.elim⟩,if_false]
  refine ⟨Mp.qj _ _ _ _ (by simp [Mp.own,w0,jK];omega),?_,by simp [bG.nest,bG.rf]⟩
  simp only [Mp.lay,Mp.eR,aM]
  rw [E4]
  have hh:Mp.head (.mk 3 0 (jh b q (q+u.toNat)) [] [])=Mp.put (Mp.sized 3 u.toNat) u:=by simp only [Mp.head,jK,Mp.Cq];rfl
  rw [hh,CI,xJ]
end
theorem Mp.Al (b:bY):∀(d:Nat) (p:Int),0≤p→p≤b.length→(Mp.read b d p).err=0→Mp.DL b d p (Mp.read b d p):=by
 intro d
 induction d with
 | zero=>intro p _ _ h;cases h
 | succ d ih =>
  intro p h0 h1
  rw [Mp.read]
  by_cases g1:(b.length:Int)≤p
  ·rw [aq g1];intro h;cases h
  rw [aj g1]
  have hc:=Mp.jq ((b.getD p.toNat 0).toNat:Int) ⟨by omega,by have:=(b.getD p.toNat 0).toNat_lt;omega⟩
  generalize hF:Mp.first ((b.getD p.toNat 0).toNat:Int)=F at hc
  obtain ⟨k,n0,long⟩:=F
  simp only at hc ⊢
  obtain ⟨_,hl,_⟩:=hc
  unfold Mp.pw
  by_cases g2:k=0
  ·rw [aq g2];intro h;cases h
  rw [aj g2]
  by_cases g3:(b.length:Int) - (p+1)<long
  ·rw [aq g3];intro h;cases h
  rw [aj g3]
  have hS:Mp.mz (b.getD p.toNat 0) ((b.drop (p+1).toNat).take long.toNat) (if long=0 then n0 else cT.be ((b.drop (p+1).toNat).take long.toNat)) k n0 long:=⟨hF,g2,by rw [bh,aS];omega,rfl⟩
  have CE:((b.drop p.toNat).take (1+long.toNat))=b.getD p.toNat 0 :: (b.drop (p+1).toNat).take long.toNat:=by
   rw [nD b p.toNat long.toNat (by omega),show (p+1).toNat=p.toNat+1 by omega]
  generalize (if long=0 then n0 else cT.be ((b.drop (p+1).toNat).take long.toNat))=u at hS
  unfold Mp.jB
  by_cases g4:k=10
  ·rw [aq g4]
   by_cases g5:(b.length:Int) - (p+1+long)<1
   ·rw [aq g5];intro h;cases h
   rw [aj g5]
   intro h
   have J:=Mp.xp b d _ (Mp.lB b d) ih hS p (p+1+long+1) h0 (by omega) (by omega) (b.getD (p+1+long).toNat 0) (by
    rw [jh,aq g4,show (p+1+long+1 - p).toNat=(1+long.toNat)+1 by omega,tC _ _ (by rw [aS];omega),CE,List.cons_append,qh,show p.toNat+(1+long.toNat)=(p+1+long).toNat by omega])
   rw [aq g4] at J
   exact J h
  ·rw [aj g4]
   intro h
   have J:=Mp.xp b d _ (Mp.lB b d) ih hS p (p+1+long) h0 (by omega) (by omega) 0 (by
    rw [jh,aj g4,aM,show (p+1+long - p).toNat=1+long.toNat by omega,CE])
   rw [aj g4] at J
   exact J h
theorem Mp.we (b:bY):∀(d:Nat) (p:Int),0≤p→p≤b.length→0≤(Mp.read b d p).at_∧(Mp.read b d p).at_≤b.length:=by
 have num:∀(it:bG) (p c f q:Int),0≤p→p≤b.length→0≤(Mp.num it p c f q).at_∧(Mp.num it p c f q).at_≤b.length:=by
  intro it p c f q h0 h1;unfold Mp.num;split
  ·exact ⟨h0,h1⟩
  ·exact ⟨Int.le_refl _,by simp only;omega⟩
 have row:∀(it:bG) (p q n:Int),0≤p→p≤b.length→0≤(Mp.row b it p q n).at_∧(Mp.row b it p q n).at_≤b.length:=by
  intro it p q n h0 h1
  unfold Mp.row
  repeat' split
  all_goals first
   | exact ⟨h0,h1⟩
   | exact ⟨Int.le_refl _,by simp only;omega⟩
 intro d
 induction d with
 | zero=>intro p h0 h1;exact ⟨h0,h1⟩
 | succ d ih =>
  intro p h0 h1
  have kids:∀(n:Nat) (it:bG) (q:Int),0≤q→q≤b.length→0≤(Mp.kids (Mp.read b d) it n q).at_∧(Mp.kids (Mp.read b d) it n q).at_≤b.length:=by
   intro n
   induction n with
   | zero=>intro it q _ _;exact ⟨Int.le_refl _,by simp only [Mp.kids];omega⟩
   | succ n QL =>
    intro it q h0 h1
    rw [Mp.kids]
    split
    ·exact ih q h0 h1
    ·obtain ⟨p1,p2,_⟩:=Mp.lB b d q h0 h1
     exact QL _ _ (by omega) p2
  have fin:∀(c k:Int) (n:UInt64) (long:Int) (t:UInt64) (q:Int),0≤q→q≤b.length→0≤(Mp.gU b (Mp.read b d) p c k n long t q).at_∧(Mp.gU b (Mp.read b d) p c k n long t q).at_≤b.length:=by
   intro c k n long t q q0 q1
   unfold Mp.gU
   repeat' split
   all_goals first
    | exact ⟨h0,h1⟩
    | exact num _ _ _ _ _ h0 h1
    | exact kids _ _ _ q0 q1
    | exact row _ _ _ _ h0 h1
    | exact ⟨Int.le_refl _,by simp only;omega⟩
  rw [Mp.read]
  have hl:=(Mp.jq ((b.getD p.toNat 0).toNat:Int) ⟨by omega,by have:=(b.getD p.toNat 0).toNat_lt;omega⟩).2.1
  generalize Mp.first ((b.getD p.toNat 0).toNat:Int)=F at hl
  obtain ⟨k,n0,long⟩:=F
  simp only at hl ⊢
  unfold Mp.pw Mp.jB
  repeat' split
  all_goals first
   | exact ⟨h0,h1⟩
   | (refine fin _ _ _ _ _ _ ?_ ?_ <;> omega)
theorem Mp.Dl (b:bY) (depth:Int):((Mp.dec b depth).2.err=0→Mp.dp (Mp.dec b depth).1=0∧Mp.lay (Mp.dec b depth).1=b∧(bG.nest (Mp.dec b depth).1:Int)≤depth) ∧
  ((Mp.dec b depth).2.err≠0→(Mp.dec b depth).1=Mp.zero∧0≤(Mp.dec b depth).2.at_∧(Mp.dec b depth).2.at_≤b.length):=by
 unfold Mp.dec
 by_cases a:depth<0∨1000<depth
 ·rw [aq a];exact ⟨fun h=>absurd h (by decide),fun _=>⟨rfl,Int.le_refl _,by simp only;omega⟩⟩
 rw [aj a]
 have J:=Mp.Al b depth.toNat 0 (by omega) (by omega)
 have W:=Mp.we b depth.toNat 0 (by omega) (by omega)
 have P:=Mp.lB b depth.toNat 0 (by omega) (by omega)
 generalize Mp.read b depth.toNat 0=g at J W P
 simp only
 by_cases e:g.err=0
 ·obtain ⟨j1,j2,j3⟩:=J e
  rw [aj (fun h=>h e)]
  by_cases m:g.pos<b.length
  ·rw [aq m];exact ⟨fun h=>absurd h (by simp),fun _=>⟨rfl,by simp only;omega,by simp only;omega⟩⟩
  ·rw [aj m]
   refine ⟨fun _=>⟨j1,?_,by simp only;omega⟩,fun h=>(h rfl).elim⟩
   simp only
   rw [j2,jh,List.take_of_length_le (by simp only [aS];omega)];rfl
 ·rw [aq e]
  exact ⟨fun h=>(e h).elim,fun _=>⟨rfl,W⟩⟩
end Go.Eng
namespace Go.Eng
open Go.IntWalk
theorem Mp.IG (it:Itv) (h:Mp.own (bG.of it)=0):(1≤it.kind∧it.kind≤10∧it.kind≠7)∧(it.kind=3∨it.kind=4∨it.kind=5∨it.kind=6→it.n=0)∧(it.kind≠3→it.kind≠10→it.bytes=[])∧(it.kind≠4→it.text=[])∧(it.kind≠5→it.kind≠6→it.kids=[]) ∧
  (it.kind=2→¬9223372036854775808≤it.n)∧(it.kind=8→20≤it.n∧it.n≤22)∧(it.kind=10→it.n≤127)∧(it.kind=6→it.kids.length % 2=0)∧ee.whole it.text=true:=by
 obtain ⟨k,n,b,t,ks⟩:=it
 simp only [Mp.own,bG.of] at h
 simp only
 by_cases h1:k<1∨10<k∨k=7
 ·rw [aq h1] at h;cases h
 rw [aj h1] at h
 split at h
 ·cases h
 rename_i h2
 split at h
 ·cases h
 rename_i h3
 split at h
 ·cases h
 rename_i h4
 split at h
 ·cases h
 split at h
 ·rename_i h6
  refine ⟨by omega,?_,?_,?_,?_,?_,?_,?_,?_,h6⟩ <;> grind
 ·cases h
theorem Mp.I3 (it:Itv) (h:Mp.dp (bG.of it)=0):Mp.own (bG.of it)=0∧Mp.gf it.kids=0:=by
 obtain ⟨k,n,b,t,ks⟩:=it
 rw [bG.of,Mp.dp] at h
 by_cases a:Mp.own (.mk k n b t ks)=0
 ·rw [aq a] at h;exact ⟨a,h⟩
 ·rw [aj a] at h;exact (a h).elim
theorem Mp.mT:∀(l:List bG) (i:Nat),Mp.gf l=0→Mp.gf (l.drop i)=0
 | [],i,_=>by simp [Mp.gf]
 | k :: r,0,h=>by simpa using h
 | k :: r,i+1,h=>by simpa using Mp.mT r i (Mp.jR h).2
theorem Mp.qL:∀(l:List bG) (i:Nat),(Mp.eR (l.drop i)).length≤(Mp.eR l).length
 | [],i=>by simp
 | k :: r,0=>by simp
 | k :: r,i+1=>by
  have:=Mp.qL r i
  simp only [List.drop_succ_cons,Mp.eR,aw];omega
theorem Mp.rP (it:bG):1≤(Mp.lay it).length:=by
 have:=(Mp.jc it).2;omega
theorem Mp.iA:∀l:List bG,l.length≤(Mp.eR l).length
 | []=>Nat.zero_le _
 | k :: r=>by
  have h1:=Mp.iA r
  have h2:=Mp.rP k
  simp only [Mp.eR,aL,aw];omega
theorem Mp.va:∀(l:List bG) (i:Nat) (d:bG),i<l.length→(Mp.lay (l.getD i d)).length+(l.length - 1)≤(Mp.eR l).length
 | [],i,d,h=>absurd h (Nat.not_lt_zero _)
 | k :: r,0,d,_=>by
  have:=Mp.iA r
  simp only [Mp.eR,aw,List.getD_cons_zero,aL];omega
 | k :: r,i+1,d,h=>by
  have h1:=Mp.va r i d (by simpa using h)
  have h2:=Mp.rP k
  have h3:i<r.length:=by simpa using h
  simp only [Mp.eR,aw,List.getD_cons_succ,aL];omega
namespace Db
def iv.Bh (g:iv) (p:List Int):List TV:=[.ag (bI.cells g.val),.ag (cX.cells g.qQ),.sl .is p]
def iv.M9 (g:iv):List TV:=[.ag (bI.cells g.val),.ag (cX.cells g.qQ)]
def fU.app (acc:List bM):fU→fU
 | .ok r => .ok (acc++r)
 | .bad p => .bad p
theorem fU.rW (g:fU):g.app []=g:=by cases g <;> simp [fU.app]
theorem fU.rX (a b:List bM) (g:fU):(g.app b).app a=g.app (a++b):=by cases g <;> simp [fU.app]
end Db
namespace Dk
open Db (iv fU)
theorem oc (d:Nat) (k x:bG) (r:List bG) (i:Nat) (p:List Int):fields d (k :: x :: r) i p=if k.kind≠4∨ee.zero k.text=true then .bad (p++[(i:Int)])
  else match value d x (p++[((i+1:Nat):Int)]) with
   | .bad q => .bad q
   | .ok v=>(fields d r (i+2) p).app [bM.of k.text v]:=by
 show iq (jE d) (k :: x :: r) i p=if k.kind≠4∨ee.zero k.text=true then .bad (p++[(i:Int)])
  else match lX (jE d) x (p++[((i+1:Nat):Int)]) with
   | .bad q => .bad q
   | .ok v=>(iq (jE d) r (i+2) p).app [bM.of k.text v]
 rw [iq]
 split
 ·rfl
 ·split
  ·rename_i q hq;rw [hq]
  ·rename_i v hv
   rw [hv]
   simp only
   split
   ·rename_i q hq;rw [hq];rfl
   ·rename_i l hl;rw [hl];rfl
theorem pH (d:Nat) (i:Nat) (p:List Int):fields d [] i p = .ok []:=by rw [fields,iq]
theorem uj (d:Nat) (i:Nat) (p:List Int):elems d [] i p = .ok []:=by rw [elems,kz]
theorem sT (d:Nat) (x:bG) (r:List bG) (i:Nat) (p:List Int):elems d (x :: r) i p=match value d x (p++[(i:Int)]) with
   | .bad q => .bad q
   | .ok v=>(elems d r (i+1) p).app [bM.of (kP i) v]:=by
 show kz (jE d) (x :: r) i p=match lX (jE d) x (p++[(i:Int)]) with
   | .bad q => .bad q
   | .ok v=>(kz (jE d) r (i+1) p).app [bM.of (kP i) v]
 rw [kz]
 split
 ·rename_i q hq;rw [hq]
 ·rename_i v hv
  rw [hv]
  simp only
  split
  ·rename_i q hq;rw [hq];rfl
  ·rename_i l hl;rw [hl];rfl
theorem value_of (d:Nat) (it:Itv) (p:List Int):value d (bG.of it) p=if it.kind=6 then (fields d it.kids 0 p).qf (Db.doc 3 []) else if it.kind=5 then (elems d it.kids 0 p).qf (Db.doc 4 [])
  else if it.kind=10 then Db.opt (if (jE d it.n it.bytes).2 then some (jE d it.n it.bytes).1 else none) p else Db.opt (Db.leaf it.kind it.n it.bytes it.text) p:=by
 rw [bG.of,value,lX];rfl
theorem sR (d:Nat):∀(l:List bG) (i:Nat) (p:List Int) (ks:List bM),fields d l i p = .ok ks→2 * ks.length=l.length
 | [],i,p,ks,h=>by rw [pH] at h;injection h with h;subst h;rfl
 | [k],i,p,ks,h=>by rw [fields,iq] at h;cases h
 | k :: x :: r,i,p,ks,h=>by
  rw [oc] at h
  split at h
  ·cases h
  split at h
  ·cases h
  ·cases hr:fields d r (i+2) p with
   | bad q=>rw [hr] at h;cases h
   | ok l =>
    rw [hr] at h
    have:=sR d r (i+2) p l hr
    injection h with h
    subst h
    simp only [aw,aL,aA];omega
theorem LH (n:UInt64) (b t:bY) (ks:List bG):(Db.half (.mk 1 n b t ks)).2=decide (n<2147483648)∧(n<2147483648→(Db.half (.mk 1 n b t ks)).1=⟨16,n,0,0,[],[],0,[],[]⟩):=by
 have hl:=@aC n 2147483648
 have he:(2147483648:UInt64).toNat=2147483648:=rfl
 have hg:=@aN 9223372036854775808 n
 have hf:(9223372036854775808:UInt64).toNat=9223372036854775808:=rfl
 have hn:Db.gA (.mk 1 n b t ks)=if 9223372036854775808≤n then 0 else (n.toNat:Int):=rfl
 have hs:(Db.number (.mk 1 n b t ks)).isSome=!decide (9223372036854775808≤n):=by
  unfold Db.number
  by_cases a:9223372036854775808≤n
  ·rw [aq (show 9223372036854775808≤(bG.mk 1 n b t ks).n from a),aa a];rfl
  ·rw [aj (show ¬9223372036854775808≤(bG.mk 1 n b t ks).n from a),ae a];rfl
 refine ⟨?_,fun h=>?_⟩
 ·show ((Db.number (.mk 1 n b t ks)).isSome&&decide (-2147483648≤Db.gA (.mk 1 n b t ks)∧Db.gA (.mk 1 n b t ks)<2147483648))=_
  rw [hs,hn]
  by_cases a:9223372036854775808≤n
  ·rw [aa a,ae (show ¬n<2147483648 by rw [hl];have:=hg.1 a;omega)];rfl
  ·rw [ae a,aj a,aV,Bool.true_and]
   exact aX.2 ⟨fun h=>by rw [hl];omega,fun h=>by have:=hl.1 h;omega⟩
 ·show (⟨16,UInt64.ofInt (Db.gA (.mk 1 n b t ks) % 4294967296),0,0,[],[],0,[],[]⟩:bI)=_
  have h1:=hl.1 h
  rw [hn,aj (by rw [hg];omega),ba (by omega) (by omega)]
  congr 1
  apply aY.1
  rw [jv];omega
theorem LG (n:UInt64) (b t:bY) (ks:List bG) (xM:¬9223372036854775808≤n):(Db.half (.mk 2 n b t ks)).2=decide (n<2147483648)∧(n<2147483648→(Db.half (.mk 2 n b t ks)).1=⟨16,UInt64.ofInt ((UInt32.ofInt (((~~~ n).toNat:Nat):Int)).toNat:Int),0,0,[],[],0,[],[]⟩):=by
 have hl:=@aC n 2147483648
 have he:(2147483648:UInt64).toNat=2147483648:=rfl
 have hn:Db.gA (.mk 2 n b t ks)=-1 - (n.toNat:Int):=by
  show (if 9223372036854775808≤n then 0 else _)=_
  rw [aj xM];rfl
 have hs:(Db.number (.mk 2 n b t ks)).isSome=true:=by
  unfold Db.number
  rw [aj (show ¬9223372036854775808≤(bG.mk 2 n b t ks).n from xM)];rfl
 refine ⟨?_,fun h=>?_⟩
 ·show ((Db.number (.mk 2 n b t ks)).isSome&&decide (-2147483648≤Db.gA (.mk 2 n b t ks)∧Db.gA (.mk 2 n b t ks)<2147483648))=_
  rw [hs,hn,Bool.true_and]
  exact aX.2 ⟨fun h=>by rw [hl];omega,fun h=>by have:=hl.1 h;omega⟩
 ·show (⟨16,UInt64.ofInt (Db.gA (.mk 2 n b t ks) % 4294967296),0,0,[],[],0,[],[]⟩:bI)=_
  have h1:=hl.1 h
  have h2:=qB (((~~~ n).toNat:Nat):Int)
  rw [wrap_u32',pW] at h2
  rw [hn,pW,h2]
  have h3:=n.toNat_lt
  congr 2
  omega
end Dk
end Go.Eng
namespace Go.Eng
open Go.IntWalk
theorem ng:∀(s:bY) (c:UInt8),Lib.indexByte s c<s.length
 | [],c=>by rw [Lib.indexByte];decide
 | b :: l,c=>by
  have ih:=ng l c
  rw [Lib.indexByte,aL]
  split
  ·omega
  split
  ·omega
  ·omega
theorem fQ.goal (s t:bY) (hp:decide (t.length=1∧s.length≤1099511627776)=true):fQ.F s t=some [.s (Dk.cut s (t.getD 0 0)).1,.s (Dk.cut s (t.getD 0 0)).2.1,.b (Dk.cut s (t.getD 0 0)).2.2]:=by
 have h:=aF hp
 refine fQ.dQ _ _ ?_
 intro v1 h1 v2 h2
 have hl:=ng s (t.getD 0 0)
 rw [bL (aa h.1),Dk.cut,←h1]
 rw [←h1] at hl
 by_cases a:0≤v1
 ·have e2:v2=v1+1:=by rw [h2,h.1,i64_in _ (by omega)];rfl
  rw [aa a,ak,aq a,bL (ij (by omega) (by omega) (by omega)),bL (ij (by omega) (by omega) (by omega)),e2,show (v1+1).toNat=v1.toNat+1 by omega]
 ·rw [ae a,ah,aj a]
theorem fP.goal (s t:bY) (hp:decide (t.length=1∧s.length≤1099511627776)=true):fP.F s t=some [.s (Dk.cut s (t.getD 0 0)).1,.s (Dk.cut s (t.getD 0 0)).2.1,.b (Dk.cut s (t.getD 0 0)).2.2]:=by
 refine fP.dQ _ _ ?_
 intro v1 h1 v2 h2
 rw [bL hp,h1,h2]
theorem eW.goal (s:bY):eW.F s=some [.ag (Itv.cells (bG.val (Db.text s)))]:=eW.fM s
theorem eB.goal (n:UInt64):eB.F n=some [.ag (Itv.cells (bG.val (Db.simple n)))]:=eB.fM n
theorem fk.goal (k:Int):fk.F k=some [.u64 (Dk.sort k)]:=by
 rw [fk.fM,Dk.sort]
 by_cases a:k=255
 ·rw [aa a,ak,aq a]
 ·rw [ae a,ah,aj a]
theorem dN.goal (v:Int) (hp:decide (-9223372036854775808≤v∧v≤9223372036854775807)=true):dN.F v=some [.ag (Itv.cells (bG.val (Db.integer v)))]:=by
 have h:=aF hp
 rw [dN.fM,Db.integer]
 by_cases a:v<0
 ·rw [aa a,ak,aq a,As v a h.1];rfl
 ·rw [ae a,ah,aj a];rfl
theorem dU.fH (v:UInt64):∀(k:Nat) (acc:bY),k≤8→acc.length+k≤1000→dU.l1 v acc ((k:Int) - 1)=some [.sl .bs (acc++cT.eQ v k)]:=by
 intro k
 induction k with
 | zero =>
  intro acc _ _
  refine dU.eC _ _ _ ?_
  intro v1 e1 v2 e2 v3 e3
  rw [ae (by omega),ah,show cT.eQ v 0=[] from rfl,aM]
 | succ k ih =>
  intro acc hk hw
  refine dU.eC _ _ _ ?_
  intro v1 e1 v2 e2 v3 e3
  have tw:v1=((8 * k:Nat):Int):=by rw [e1,i64_in _ (by omega)];omega
  rw [aa (by omega),ak,bL (aa (by omega)),bL (fu (by simp;omega) (by simp;omega))]
  rw [show v3=(k:Int) - 1 by rw [e3,i64_in _ (by omega)];omega,ih _ (by omega) (by simp;omega),e2,tw,aI,tA,cT.pU,aZ]
  rfl
theorem dU.goal (v:UInt64) (n:Int) (hp:decide (0≤n∧n≤8)=true):dU.F v n=some [.sl .bs (cT.eQ v n.toNat)]:=by
 have h:=aF hp
 refine dU.dQ v n ?_
 intro v1 e1
 rw [show v1=((n.toNat:Nat):Int) - 1 by rw [e1,i64_in _ (by omega)];omega,dU.fH v _ _ (by omega) (by simp;omega)];rfl
theorem Dk.wD (n:bY) (f:bM):Dk.item (bM.of n f.val)=Dk.item f:=by cases f;rfl
theorem Tree.qS:∀(l:List bM) (i:Nat) (d:bM),i<l.length→Tree.iT l=true→Tree.lj (l.getD i d)=true
 | [],i,d,h,_=>absurd h (Nat.not_lt_zero _)
 | f :: r,0,d,_,hf=>(Tree.mR.1 hf).1
 | f :: r,i+1,d,h,hf=>Tree.qS r i d (by simpa using h) (Tree.mR.1 hf).2
theorem cL.fH (n:Nat) (l:List bM) (hb:bM.db l≤1048576) (hf:Tree.iT l=true) (hn:4 * bM.db l+2<n) (x3:Itv) (x4:Int) (x5:UInt64) (x6:bY):∀(m i:Nat) (acc:List bG),i+m=l.length→acc.length+2 * m≤2147483648 →
  cL.l1 n l (l.length:Int) i x3 x4 x5 x6 acc=some [.ag [.i .i64 x4,.u64 x5,.sl .bs [],.s x6,.sl .il (acc++Dk.mapped (l.drop i))]]:=by
 have hlen:=bM.kB l
 intro m
 induction m with
 | zero =>
  intro i acc hi ha
  refine cL.eC _ _ _ _ _ _ _ _ _ ?_
  intro v1 h1 v2 h2 v3 h3
  rw [ae (by omega),ah,aJ (by omega),Dk.mapped,aM]
 | succ m ih =>
  intro i acc hi ha
  refine cL.eC _ _ _ _ _ _ _ _ _ ?_
  intro v1 h1 v2 h2 v3 h3
  rw [aI] at h1
  have hg:=bM.kC l i (eN.eG .fl) (by omega)
  have hfn:=Tree.qS l i (eN.eG .fl) (by omega) hf
  rw [←h1] at hg hfn
  have hv:=bM.oh v1
  have vx:v2=[Db.text v1.name,Dk.item v1]:=by rw [h2,bG.ib,bG.ib,Dk.wD]
  rw [aa (by omega),ak,bL (fq (by omega) (by omega)),aa (show 4 * bM.c7 (bM.of [] v1.val)+2<n by omega),aa (show bM.c7 (bM.of [] v1.val)≤1048576 by omega),Tree.xk v1 hfn,aO,aO,cI,
   bL (fu (by rw [vx];simp only [aL,aA];omega) (by rw [vx];simp only [aL,aA];omega)),show v3=((i+1:Nat):Int) by rw [h3,i64_in _ (by omega)];omega,vx,ih _ _ (by omega) (by simp only [aw,aL,aA];omega),drop_cons (l:=l) (i:=i) (by omega) (eN.eG .fl),←h1,Dk.mapped,aZ];rfl
theorem Ek {a b c:Bool} (h:((a&&b)&&c)=true):(a=true∧b=true)∧c=true:=by simpa [af] using h
theorem cL.goal (n:Nat) (l:List bM) (hp:((decide (bM.db l≤1048576)&&Tree.iT l)&&decide ((4 * bM.db l+3)<n+1))=true):cL.F n l=some [.ag (Itv.cells (bG.val (Db.map (Dk.mapped l))))]:=by
 obtain ⟨⟨h1,h2⟩,h3⟩:=Ek hp
 have h1:=aF h1
 have h3:=aF h3
 have hlen:=bM.kB l
 rw [cL.fM]
 have:=cL.fH n l h1 h2 (by omega) (Itv.mk 0 0 [] [] []) 6 0 [] l.length 0 [] (by omega) (by simp;omega)
 rw [bc,bz] at this
 exact this
end Go.Eng
namespace Go.Eng
open Go.IntWalk
theorem u7 {n:Nat} (h:n≤1000000000):lH n=true:=mP.2 (by rw [qJ];omega)
theorem ry {n:Nat} {b:Nat} (h:n≤500000000) (hb:b≤200):gg n b=true:=fu (Nat.le_trans (Nat.mul_le_mul h hb) (by omega)) (by omega)
theorem bI.bounds {v:bI} (h:bM.c7 (bM.of [] v)≤1048576):v.text.length≤1048576∧v.more.length≤1048576∧v.bytes.length≤1048576∧bM.db v.kids<bM.c7 (bM.of [] v)∧v.kids.length≤1048576∧(Mp.lay (Db.map (Dk.mapped v.kids))).length≤70000000:=by
 have h1:=Dk.oy v.kids
 have h2:=Dk.rN (Dk.mapped v.kids)
 have h3:=Dk.lF v.kids
 simp only [bM.of,bM.c7,aA] at h ⊢
 omega
theorem fw.goal (n:Nat) (l:List bM) (hp:((decide (bM.db l≤1048576)&&Tree.iT l)&&decide ((4 * bM.db l+4)<n+1))=true):fw.F n l=some [.sl .bs (Mp.lay (Db.map (Dk.mapped l)))]:=by
 obtain ⟨⟨h1,h2⟩,h3⟩:=Ek hp
 have IN:=aF h1
 have h3:=aF h3
 have h4:=Dk.Ci l
 refine fw.dQ _ _ ?_
 intro v1 e1 v2 e2
 rw [bG.ib] at e1 e2
 rw [h1,h2,aa (show 4 * bM.db l+3<n by omega),aO,aO,cI,bG.ib,bL (aa (by omega)),e1,Mp.enc,aq (Dk.Er l h2 IN)]
theorem cQ.jo (n:Nat) (v:bI) (x1:Bool) (hx:x1=decide (v.kind=13∨v.kind=14)) (hb:bM.c7 (bM.of [] v)≤1048576) (hf:Tree.lj (bM.of [] v)=true) (hn:4 * bM.c7 (bM.of [] v)+1<n+1)
  (a4:v.kind≠4) (a5:v.kind≠5) (a7:v.kind≠7) (a9:¬(v.kind=9∨v.kind=17∨v.kind=18)) (nG:v.kind≠11) (a12:v.kind≠12) :
  cQ.j2 n v.kind x1 v=some [.sl .bs (Dk.inner v (Mp.lay (Db.map (Dk.mapped v.kids))))]:=by
 obtain ⟨b1,b2,b3,b4,b5,b6⟩:=bI.bounds hb
 have hk:=((Tree.lT [] v).1 hf).2.2
 refine cQ.nw _ _ _ _ ?_
 intro v1 e1 v2 e2 v3 e3 v4 e4 v5 e5 v6 e6
 rw [hx,Dk.inner,aj a4,aj a5,aj a7,aj a9,aj nG,aj a12]
 by_cases a:v.kind=13∨v.kind=14
 ·rw [aa a,ak,aq a,bL (u7 (by omega))]
 rw [ae a,ah,aj a]
 have l2:v2.length=4:=by rw [e2];exact cT.gy _ _
 have l5:v5.length=8:=by rw [e5];exact cT.gy _ _
 have l6:v6.length=8:=by rw [e6];exact cT.gy _ _
 by_cases c:v.kind=15
 ·rw [aa c,ak,aq c,bL (by decide),bL (ry (by omega) (by decide)),aa (show bM.db v.kids≤1048576 by omega),hk,aa (show 4 * bM.db v.kids+4<n by omega),aO,aO,cI,
   bL (ry (by rw [aw,e3];omega) (by decide)),e4,e3,e2,e1];rfl
 rw [ae c,ah,aj c]
 by_cases d:v.kind=19
 ·rw [aa d,ak,aq d,bL (by decide),bL (by decide),bL (ry (by omega) (by decide)),e5,e6];rfl
 rw [ae d,ah,aj d]
theorem cQ.jd (n:Nat) (v:bI) (x1:Bool) (hx:x1=decide (v.kind=9∨v.kind=17∨v.kind=18)) (hb:bM.c7 (bM.of [] v)≤1048576) (hf:Tree.lj (bM.of [] v)=true) (hn:4 * bM.c7 (bM.of [] v)+1<n+1)
  (a4:v.kind≠4) (a5:v.kind≠5) (a7:v.kind≠7) :
  cQ.j1 n v.kind x1 v=some [.sl .bs (Dk.inner v (Mp.lay (Db.map (Dk.mapped v.kids))))]:=by
 obtain ⟨b1,b2,b3,b4,b5,b6⟩:=bI.bounds hb
 refine cQ.kM _ _ _ _ ?_
 intro v1 e1 v2 e2 v3 e3
 rw [hx]
 by_cases a9:v.kind=9∨v.kind=17∨v.kind=18
 ·rw [aa a9,ak,bL (by decide),e1,Dk.inner,aj a4,aj a5,aj a7,aq a9];rfl
 rw [ae a9,ah]
 by_cases nG:v.kind=11
 ·have l2:v2.length=v.text.length+1:=by rw [e2,aw];rfl
  rw [aa nG,ak,bL (aa (by simp only [aL,aA];omega)),bL (aa (by omega)),bL (u7 (by rw [aw];omega)),e2,Dk.inner,aj a4,aj a5,aj a7,aj a9,aq nG,aZ];rfl
 rw [ae nG,ah]
 by_cases a12:v.kind=12
 ·rw [aa a12,ak,bL (ry (by omega) (by decide)),bL (ry (by omega) (by decide)),e3,Dk.inner,aj a4,aj a5,aj a7,aj a9,aj nG,aq a12]
 rw [ae a12,ah]
 by_cases td:v.kind=13
 ·rw [aa td,ak]
  exact cQ.jo n v _ (by rw [aa (Or.inl td)]) hb hf hn a4 a5 a7 a9 nG a12
 ·rw [ae td,ah]
  exact cQ.jo n v _ (aX.2 ⟨.inr,fun h=>h.resolve_left td⟩) hb hf hn a4 a5 a7 a9 nG a12
theorem cQ.goal (n:Nat) (v:bI) (hp:((decide (bM.c7 (bM.of [] v)≤1048576)&&Tree.lj (bM.of [] v))&&decide ((4 * bM.c7 (bM.of [] v)+1)<n+1))=true):cQ.F n v=some [.sl .bs (Dk.inner v (Mp.lay (Db.map (Dk.mapped v.kids))))]:=by
 obtain ⟨⟨h1,hf⟩,h3⟩:=Ek hp
 have hb:=aF h1
 have hn:=aF h3
 obtain ⟨b1,b2,b3,b4,b5,b6⟩:=bI.bounds hb
 have hk:=((Tree.lT [] v).1 hf).2.2
 refine cQ.dQ _ _ ?_
 intro v1 e1 v2 e2
 by_cases a4:v.kind=4
 ·rw [aa a4,ak,aa (show bM.db v.kids≤1048576 by omega),hk,aa (show 4 * bM.db v.kids+4<n by omega),aO,aO,cI,e1,Dk.inner,aq a4]
 rw [ae a4,ah]
 by_cases a5:v.kind=5
 ·rw [aa a5,ak,bL (ry (by rw [e2];simp only [aL,aA];omega) (by decide)),e2,Dk.inner,aj a4,aq a5];rfl
 rw [ae a5,ah]
 by_cases a7:v.kind=7
 ·rw [aa a7,ak,bL (ry (by omega) (by decide)),Dk.inner,aj a4,aj a5,aq a7]
 rw [ae a7,ah]
 by_cases a9:v.kind=9
 ·rw [aa a9,ak]
  exact cQ.jd n v _ (by rw [aa (Or.inl a9)]) hb hf hn a4 a5 a7
 rw [ae a9,ah]
 by_cases xE:v.kind=17
 ·rw [aa xE,ak]
  exact cQ.jd n v _ (by rw [aa (Or.inr (Or.inl xE))]) hb hf hn a4 a5 a7
 rw [ae xE,ah]
 exact cQ.jd n v _ (aX.2 ⟨fun h => .inr (.inr h),fun h=>(h.resolve_left a9).resolve_left xE⟩) hb hf hn a4 a5 a7
theorem de.fH (n:Nat) (l:List bM) (hb:bM.db l≤1048576) (hf:Tree.iT l=true) (hn:4 * bM.db l+2<n) (x3:Itv) (x4:Int) (x5:UInt64) (x6:bY):∀(m i:Nat) (acc:List bG),i+m=l.length→acc.length+m≤2147483648 →
  de.l1 n l (l.length:Int) i x3 x4 x5 x6 acc=some [.ag [.i .i64 x4,.u64 x5,.sl .bs [],.s x6,.sl .il (acc++Dk.items (l.drop i))]]:=by
 have hlen:=bM.kB l
 intro m
 induction m with
 | zero =>
  intro i acc hi ha
  refine de.eC _ _ _ _ _ _ _ _ _ ?_
  intro v1 h1 v2 h2 v3 h3
  rw [ae (by omega),ah,aJ (by omega),Dk.items,aM]
 | succ m ih =>
  intro i acc hi ha
  refine de.eC _ _ _ _ _ _ _ _ _ ?_
  intro v1 h1 v2 h2 v3 h3
  rw [aI] at h1
  have hg:=bM.kC l i (eN.eG .fl) (by omega)
  have hfn:=Tree.qS l i (eN.eG .fl) (by omega) hf
  rw [←h1] at hg hfn
  have hv:=bM.oh v1
  have vx:v2=[Dk.item v1]:=by rw [h2,bG.ib,Dk.wD]
  rw [aa (by omega),ak,bL (fq (by omega) (by omega)),aa (show 4 * bM.c7 (bM.of [] v1.val)+2<n by omega),aa (show bM.c7 (bM.of [] v1.val)≤1048576 by omega),Tree.xk v1 hfn,aO,aO,cI,
   bL (fu (by rw [vx];simp only [aL,aA];omega) (by rw [vx];simp only [aL,aA];omega)),show v3=((i+1:Nat):Int) by rw [h3,i64_in _ (by omega)];omega,vx,ih _ _ (by omega) (by simp only [aw,aL,aA];omega),drop_cons (l:=l) (i:=i) (by omega) (eN.eG .fl),←h1,Dk.items,aZ];rfl
theorem de.jo (n:Nat) (v:bI) (x1:Itv) (hb:bM.c7 (bM.of [] v)≤1048576) (hf:Tree.lj (bM.of [] v)=true) (hn:4 * bM.c7 (bM.of [] v)+2<n+1) :
  de.j2 n v x1=some [.ag (Itv.cells (bG.val (Dk.ext v.kind (Dk.inner v (Mp.lay (Db.map (Dk.mapped v.kids)))))))]:=by
 refine de.nw _ _ _ ?_
 intro v1 e1
 rw [aa hb,hf,aa (show 4 * bM.c7 (bM.of [] v)+1<n by omega),aO,aO,cI,e1];rfl
theorem de.goal (n:Nat) (v:bI) (hp:((decide (bM.c7 (bM.of [] v)≤1048576)&&Tree.lj (bM.of [] v))&&decide ((4 * bM.c7 (bM.of [] v)+2)<n+1))=true):de.F n v=some [.ag (Itv.cells (bG.val (Dk.item (bM.of [] v))))]:=by
 obtain ⟨⟨h1,hf⟩,h3⟩:=Ek hp
 have hb:=aF h1
 have hn:=aF h3
 obtain ⟨b1,b2,b3,b4,b5,b6⟩:=bI.bounds hb
 have hk:=((Tree.lT [] v).1 hf).2.2
 refine de.dQ _ _ ?_
 intro v1 e1 v2 e2 v3 e3 v4 e4
 rw [Dk.EA,Dk.nf]
 by_cases a1:v.kind=1
 ·rw [aa a1,ak,aq a1];rfl
 rw [ae a1,ah,aj a1]
 by_cases a2:v.kind=2
 ·rw [aa a2,ak,aq a2]
 rw [ae a2,ah,aj a2]
 by_cases a3:v.kind=3
 ·rw [aa a3,ak,aq a3,aa (show bM.db v.kids≤1048576 by omega),hk,aa (show 4 * bM.db v.kids+3<n by omega),aO,aO,cI]
 rw [ae a3,ah,aj a3]
 have IB:=de.jo n v (Itv.mk 0 0 [] [] []) hb hf hn
 by_cases a4:v.kind=4
 ·rw [aa a4,ak,bL (aa (by omega)),e1]
  by_cases r:Tree.regular v.kids=true
  ·rw [r,ak,aq ⟨a4,rfl⟩,e2]
   have:=de.fH n v.kids (by omega) hk (by omega) (Itv.mk 0 0 [] [] []) 5 0 [] v.kids.length 0 [] (by omega) (by simp;omega)
   rw [bc,bz] at this
   exact this
  ·rw [show Tree.regular v.kids=false by simpa using r,ah,aj (fun h=>by cases h.2),aj (fun h=>by omega),aj (by omega),aj (by omega),aj (by omega)]
   exact IB
 rw [ae a4,ah,aj (fun h=>a4 h.1)]
 by_cases a5:v.kind=5
 ·rw [aa a5,ak]
  by_cases s:v.sub=0
  ·rw [aa s,ak,aq ⟨a5,s⟩,bL (ry (by omega) (by decide))];rfl
  ·rw [ae s,ah,aj (fun h=>s h.2),aj (by omega),aj (by omega),aj (by omega)]
   exact IB
 rw [ae a5,ah,aj (fun h=>a5 h.1)]
 by_cases a6:v.kind=10
 ·rw [aa a6,ak,aq a6]
 rw [ae a6,ah,aj a6]
 by_cases a7:v.kind=8
 ·rw [aa a7,ak,aq a7,e3]
 rw [ae a7,ah,aj a7]
 by_cases a8:v.kind=16
 ·have hr:=vk (v.bits.toNat:Int)
  have e:IntKind.i64.wrap v4=Db.i32 v.bits:=by rw [e4,EC];rfl
  rw [aa a8,ak,aq a8,e,bL (aa (by unfold Db.i32;omega))]
 rw [ae a8,ah,aj a8]
 exact IB
theorem fm.goal (v:bI) (hp:decide (bM.c7 (bM.of [] v)≤1048576)=true):fm.F v=some [.ag (Itv.cells (bG.val (Dk.enc v).1)),.ag (cX.cells (Dk.enc v).2)]:=by
 have hb:=aF hp
 obtain ⟨b1,b2,b3,b4,b5,b6⟩:=bI.bounds hb
 refine fm.dQ _ ?_
 intro v1 e1 v2 e2 v3 e3
 rw [bL (aa (by omega))]
 unfold Dk.enc
 by_cases a:(Tree.iN (bM.of [] v) []).2=0
 ·have hf:=(Tree.sQ _ _).1 a
  have hk:=((Tree.lT [] v).1 hf).2.2
  rw [e2,aa a,aR,ah,aj (by simpa using a)]
  by_cases b:v.kind=3
  ·rw [aa b,aR,ah,aj (by simpa using b),bL (aa (by omega)),e3]
   by_cases c:200<Tree.depth (bM.of [] v)
   ·rw [aa (by omega),ak,aq c];rfl
   ·rw [ae (by omega),ah,aj c,aa (show bM.db v.kids≤1048576 by omega),hk,aO,cI];rfl
  ·rw [ae b,aV,ak,aq b];rfl
 ·rw [e2,ae a,aV,ak,aq a,e1];rfl
end Go.Eng
namespace Go.Eng
open Go.IntWalk
theorem c9.goal (p:List Int) (k:Int) (hp:decide (p.length≤1099511627776)=true):c9.F p k=some [.sl .is (p++[k])]:=by
 have h:=aF hp
 refine c9.dQ _ _ ?_
 intro v1 e1
 rw [bL (fu (by simp only [aA];omega) (by simp only [aA];omega)),bL (fu (by simp only [bz,aL,aA];omega) (by simp only [bz,aL,aA];omega)),e1,bz]
end Go.Eng
namespace Go.Eng
open Go.IntWalk
theorem eM.goal (b:bY) (hp:decide (b.length≤1099511627776)=true):eM.F b=some [.b (ee.whole b)]:=by
 rw [eM.fM,bL hp]
theorem eP.goal (p:List Int) (hp:decide (p.length≤1099511627776)=true):eP.F p=some [.ag (cX.cells (cX.mk 12 0 p)),.sl .is p]:=by
 have h:=aF hp
 rw [eP.fM,bL (fu (by omega) (by omega))];rfl
theorem dT.fH (b:bY) (hb:b.length≤1099511627776):∀(m i:Nat) (x:UInt64),i+m=b.length→dT.l1 x b (b.length:Int) i=some [.u64 ((b.drop i).foldl (fun v x=>v * 256+x.toUInt64) x)]:=by
 intro m
 induction m with
 | zero =>
  intro i x hi
  refine dT.eC _ _ _ _ ?_
  intro v1 e1 v2 e2 v3 e3 v4 e4
  rw [ae (by omega),ah,aJ (by omega)];rfl
 | succ m ih =>
  intro i x hi
  refine dT.eC _ _ _ _ ?_
  intro v1 e1 v2 e2 v3 e3 v4 e4
  rw [aI] at e1
  rw [aa (by omega),ak,bL (fq (by omega) (by omega)),drop_cons (l:=b) (i:=i) (by omega) 0,List.foldl_cons,←e1,show v4=((i+1:Nat):Int) by rw [e4,i64_in _ (by omega)];omega,ih _ _ (by omega),e2,e3,show (8:UInt64).toNat=8 from rfl,Ab]
theorem dT.goal (b:bY) (hp:decide (b.length≤1099511627776)=true):dT.F b=some [.u64 (cT.be b)]:=by
 have h:=aF hp
 rw [dT.fM]
 exact dT.fH b h _ 0 0 (Nat.zero_add _)
theorem dz.fH (n:Nat) (l:List bG) (path:List Int) (within:Int) (v:bI) (x4:bI) (x5:cX) (hw:0≤within∧within≤200) (hb:(Mp.eR l).length+path.length≤536870912) (hn:4 * (Mp.eR l).length+2<n) (hc:Mp.gf l=0):∀(m i:Nat) (acc:List bM),i+2 * m=l.length→acc.length+m≤600000000 →
  dz.l1 n l within i ⟨v.kind,v.bits,v.high,v.low,v.text,v.more,v.sub,v.bytes,acc⟩ x4 x5 path=some (Db.iv.Bh (((Dk.fields (200 - within).toNat (l.drop i) i path).app acc).qf v) path):=by
 have hlen:=Mp.iA l
 intro m
 induction m with
 | zero =>
  intro i acc hi ha
  refine dz.eC _ _ _ _ _ _ _ _ ?_
  intro v1 h1 v2 h2 v3 h3 v4 h4 v5 h5 v6 h6 v7 h7 v8 h8 v9 h9 v10 nA
  rw [ae (by omega),ah,aJ (by omega),Dk.pH]
  simp only [Db.fU.app,aM,Db.fU.qf];rfl
 | succ m ih =>
  intro i acc hi ha
  refine dz.eC _ _ _ _ _ _ _ _ ?_
  intro v1 h1 v2 h2 v3 h3 v4 h4 v5 h5 v6 h6 v7 h7 v8 h8 v9 h9 v10 nA
  have e6:v6=((i+1:Nat):Int):=by rw [h6,i64_in _ (by omega)];omega
  rw [e6] at h7 h8
  rw [aI] at h1 h3
  rw [aI,bG.ib] at h7 h8
  have hd:l.drop i=l.getD i (eN.eG .il) :: l.getD (i+1) (eN.eG .il) :: l.drop (i+2):=by
   rw [drop_cons (show i<l.length by omega) (eN.eG .il),drop_cons (show i+1<l.length by omega) (eN.eG .il)]
  have C0:=Mp.qL l i
  have yr:=Mp.mT l i hc
  rw [hd] at C0 yr
  simp only [Mp.eR,aw] at C0
  have gG:=Mp.rP (l.getD i (eN.eG .il))
  obtain ⟨_,yr⟩:=Mp.jR yr
  obtain ⟨CX,_⟩:=Mp.jR yr
  have hz:decide (0≤Lib.indexByte v3 (([0]:bY).getD 0 0))=ee.zero v3:=iY 0 v3
  have e2:v2=decide (v1=4):=by rw [h2,Bool.not_not]
  rw [hz] at h4
  have i0:eE (i:Int) l.length=true:=fq (by omega) (by omega)
  rw [hd,Dk.oc,←h1,←h3]
  rw [e6,aI,bG.ib]
  generalize l.getD (i+1) (eN.eG .il)=x at h7 h8 C0 CX
  simp only [i0,show decide ((([0]:bY)).length=1)=true from rfl,Bool.and_true,aO,aG,cI]
  rw [aa (by omega),ak,bL (by rw [e2];cases decide (v1=4) <;> rfl)]
  by_cases bad:v1≠4∨ee.zero v3=true
  ·have e4:v4=true:=by
    rw [h4]
    by_cases x:v1=4
    ·rw [aa x,bad.resolve_left (fun h=>h x)];rfl
    ·rw [ae x];rfl
   rw [e4,ak,aq bad,bL (fu (by simp only [aK];omega) (by simp only [aK];omega)),bL (aa (by simp only [aw,aK];omega)),h5];rfl
  ·have e4:v4=false:=by
    simp only [not_or,Classical.not_not,ne_eq] at bad
    rw [h4,aa bad.1,Bool.eq_false_iff.2 bad.2];rfl
   rw [e4,ah,aj bad,bL (fq (by omega) (by omega)),bL (fu (by simp only [aK];omega) (by simp only [aK];omega)),bL (by
    rw [aa (show (Mp.lay x).length+(path++[((i+1:Nat):Int)]).length≤536870912 by simp only [aw,aK];omega),aa (show Mp.dp x=0∧0≤within∧within≤200 from ⟨CX,hw⟩),aa (show 4 * (Mp.lay x).length<n by omega)];rfl)]
   cases hv:Dk.value (200 - within).toNat x (path++[((i+1:Nat):Int)]) with
   | bad q =>
    rw [hv] at h8
    rw [h8];rfl
   | ok w =>
    rw [hv] at h7 h8
    have OV:v7=w:=h7
    have DT:v8=⟨0,0,[]⟩:=h8
    have RR:v9.length=1:=by rw [h9];rfl
    rw [DT,show (!decide ((cX.mk 0 0 []).err=0))=false from rfl,ah,bL (fu (by show (acc.length+v9.length) * 136≤_;omega) (by show acc.length+v9.length≤_;omega)),nA,i64_in _ (by omega),show (i:Int)+2=((i+2:Nat):Int) by omega]
    refine (ih (i+2) (acc++v9) (by omega) (by rw [aw];omega)).trans ?_
    rw [h9,OV]
    simp only
    rw [Db.fU.rX];rfl
theorem dz.goal (n:Nat) (v:bI) (l:List bG) (path:List Int) (within:Int) (hp:((decide ((Mp.eR l).length+path.length≤536870912)&&decide (Mp.gf l=0∧l.length % 2=0∧0≤within∧within≤200))&&decide ((4 * (Mp.eR l).length+3)<n+1))=true) :
  dz.F n v l path within=some (Db.iv.Bh ((Dk.fields (200 - within).toNat l 0 path).qf ⟨v.kind,v.bits,v.high,v.low,v.text,v.more,v.sub,v.bytes,[]⟩) path):=by
 simp only [af,az] at hp
 obtain ⟨⟨hb,hc,he,hw⟩,hn⟩:=hp
 have hlen:=Mp.iA l
 rw [dz.fM]
 have:=dz.fH n l path within ⟨v.kind,v.bits,v.high,v.low,v.text,v.more,v.sub,v.bytes,[]⟩ Db.zero ⟨0,0,[]⟩ hw hb (by omega) hc (l.length / 2) 0 [] (by omega) (by simp only [aA];omega)
 rw [bc,Db.fU.rW] at this
 exact this
theorem cK.oZ (n:Nat) (l:List bG) (path:List Int) (within:Int) (x4:bI) (x5:cX) (v:bI) (hw:0≤within∧within≤200) (hb:(Mp.eR l).length+1+path.length≤536870912) (hn:4 * (Mp.eR l).length<n) (hc:Mp.gf l=0):∀(m i:Nat) (acc:List bM),i+m=l.length→acc.length+m≤600000000 →
  cK.l2 n within l (l.length:Int) i x4 x5 ⟨v.kind,v.bits,v.high,v.low,v.text,v.more,v.sub,v.bytes,acc⟩ path=some (Db.iv.Bh (((Dk.elems (200 - within).toNat (l.drop i) i path).app acc).qf v) path):=by
 have hlen:=Mp.iA l
 intro m
 induction m with
 | zero =>
  intro i acc hi ha
  refine cK.lS _ _ _ _ _ _ _ _ _ ?_
  intro v1 h1 v2 h2 v3 h3 v4 h4
  rw [ae (by omega),ah,aJ (by omega),Dk.uj]
  simp only [Db.fU.app,aM,Db.fU.qf];rfl
 | succ m ih =>
  intro i acc hi ha
  refine cK.lS _ _ _ _ _ _ _ _ _ ?_
  intro v1 h1 v2 h2 v3 h3 v4 h4
  rw [aI,bG.ib] at h1 h2
  have hd:l.drop i=l.getD i (eN.eG .il) :: l.drop (i+1):=drop_cons (show i<l.length by omega) (eN.eG .il)
  have C0:=Mp.va l i (eN.eG .il) (by omega)
  have yr:=Mp.mT l i hc
  rw [hd] at yr
  obtain ⟨CX,_⟩:=Mp.jR yr
  rw [hd,Dk.sT,aI,bG.ib]
  generalize l.getD i (eN.eG .il)=x at h1 h2 C0 CX
  rw [aa (by omega),ak,bL (fq (by omega) (by omega)),bL (fu (by simp only [aK];omega) (by simp only [aK];omega)),bL (by
    rw [aa (show (Mp.lay x).length+(path++[(i:Int)]).length≤536870912 by simp only [aw,aK];omega),aa (show Mp.dp x=0∧0≤within∧within≤200 from ⟨CX,hw⟩),aa (show 4 * (Mp.lay x).length<n by omega)];rfl)]
  cases hv:Dk.value (200 - within).toNat x (path++[(i:Int)]) with
  | bad q =>
   rw [hv] at h2
   rw [h2];rfl
  | ok w =>
   rw [hv] at h1 h2
   have IN:v1=w:=h1
   have vx:v2=⟨0,0,[]⟩:=h2
   have PR:v3.length=1:=by rw [h3];rfl
   rw [vx,show (!decide ((cX.mk 0 0 []).err=0))=false from rfl,ah,bL (aa (by omega)),bL (fu (by show (acc.length+v3.length) * 136≤_;omega) (by show acc.length+v3.length≤_;omega)),h4,i64_in _ (by omega),show (i:Int)+1=((i+1:Nat):Int) by omega]
   refine (ih (i+1) (acc++v3) (by omega) (by rw [aw];omega)).trans ?_
   rw [h3,IN,wC]
   simp only
   rw [Db.fU.rX];rfl
theorem cK.jd (n:Nat) (x0:bI) (x1:cX) (p:List Int) (h:p.length≤1099511627776):cK.j1 n x0 x1 p=some (Db.iv.Bh (.bad p) p):=by
 rw [cK.nZ,bL (aa h)];rfl
theorem r9 {n:UInt64} (h:20≤n∧n≤22):n=20∨n=21∨n=22:=by
 have h1:(20:UInt64).toNat≤n.toNat:=aN.1 h.1
 have h2:n.toNat≤(22:UInt64).toNat:=aN.1 h.2
 have e1:(20:UInt64).toNat=20:=rfl
 have e2:(22:UInt64).toNat=22:=rfl
 rcases (by omega:n.toNat=20∨n.toNat=21∨n.toNat=22) with e | e | e
 ·exact .inl (aY.1 e)
 ·exact .inr (.inl (aY.1 e))
 ·exact .inr (.inr (aY.1 e))
theorem cK.goal (n:Nat) (it:Itv) (path:List Int) (within:Int) (hp:((decide ((Mp.lay (bG.of it)).length+path.length≤536870912)&&decide (Mp.dp (bG.of it)=0∧0≤within∧within≤200))&&decide ((4 * (Mp.lay (bG.of it)).length)<n+1))=true) :
  cK.F n it path within=some (Db.iv.Bh (Dk.value (200 - within).toNat (bG.of it) path) path):=by
 simp only [af,az] at hp
 obtain ⟨⟨hb,hc,hw⟩,hn⟩:=hp
 obtain ⟨ho,hk⟩:=Mp.I3 it hc
 obtain ⟨o1,o2,o3,o4,o5,o6,o7,o8,o9,Ml⟩:=Mp.IG it ho
 have hs:1+it.bytes.length+it.text.length+(Mp.eR it.kids).length≤(Mp.lay (bG.of it)).length:=(Mp.jc (bG.of it)).2
 rw [Dk.value_of]
 refine cK.dQ _ _ _ _ ?_
 intro v1 e1 v2 e2 v3 e3 v4 e4 v5 e5 v6 e6 v7 e7 v8 e8 v9 e9 v10 tc v11 vM v12 yA lx xq ji tt
 have hj:=fun x0 x1=>cK.jd n x0 x1 path (by omega)
 by_cases k9:it.kind=9
 ·rw [aa k9,ak,aj (by omega),aj (by omega),aj (by omega),Db.leaf,aq k9];rfl
 rw [ae k9,ah]
 by_cases k4:it.kind=4
 ·rw [aa k4,ak,aj (by omega),aj (by omega),aj (by omega),Db.leaf,aj k9,aq k4];rfl
 rw [ae k4,ah]
 by_cases k3:it.kind=3
 ·rw [aa k3,ak,aj (by omega),aj (by omega),aj (by omega),Db.leaf,aj k9,aj k4,aq k3,bL (fu (by omega) (by omega))];rfl
 rw [ae k3,ah]
 by_cases k8:it.kind=8
 ·rw [aa k8,ak,aj (by omega),aj (by omega),aj (by omega),Db.leaf,aj k9,aj k4,aj k3,aq k8]
  have CL:=r9 (o7 k8)
  subst e1 e2 e3 e4 e5 e6 e7
  rcases CL with e | e | e <;> rw [e] <;> rfl
 rw [ae k8,ah]
 by_cases k1:it.kind=1
 ·rw [aa k1,ak,aj (by omega),aj (by omega),aj (by omega),Db.leaf,aj k9,aj k4,aj k3,aj k8,k1]
  obtain ⟨q1,q2⟩:=Dk.LH it.n it.bytes it.text []
  rw [q1]
  by_cases s:it.n<2147483648
  ·rw [aa s,ak,aq rfl,q2 s];rfl
  ·rw [ae s,ah,hj];rfl
 rw [ae k1,ah]
 by_cases k2:it.kind=2
 ·rw [aa k2,ak,aj (by omega),aj (by omega),aj (by omega),Db.leaf,aj k9,aj k4,aj k3,aj k8,k2]
  obtain ⟨q1,q2⟩:=Dk.LG it.n it.bytes it.text [] (o6 k2)
  rw [q1]
  by_cases s:it.n<2147483648
  ·rw [aa s,ak,aq rfl,q2 s,e9,e8];rfl
  ·rw [ae s,ah,hj];rfl
 rw [ae k2,ah]
 by_cases k6:it.kind=6
 ·rw [aa k6,ak,aq k6,aa (show (Mp.eR it.kids).length+path.length≤536870912 by omega),aa (show Mp.gf it.kids=0∧it.kids.length % 2=0∧0≤within∧within≤200 from ⟨hk,o9 k6,hw⟩),aa (show 4 * (Mp.eR it.kids).length+3<n by omega),aO,aO,cI,tc,vM];rfl
 rw [ae k6,ah,aj k6]
 by_cases k5:it.kind=5
 ·rw [aa k5,ak,aq k5,yA]
  have:=cK.oZ n it.kids path within (bI.mk 0 0 0 0 [] [] 0 [] []) ⟨0,0,[]⟩ (Db.doc 4 []) hw (by omega) (by omega) hk it.kids.length 0 [] (by omega) (by have:=Mp.iA it.kids;simp only [aA];omega)
  rw [bc,Db.fU.rW] at this
  exact this
 rw [ae k5,ah,aj k5]
 by_cases nX:it.kind=10
 ·rw [aa nX,ak,aq nX,aa (show it.bytes.length≤536870912∧it.n≤127∧0≤within∧within≤200 from ⟨by omega,o8 nX,hw⟩),aa (show 4 * it.bytes.length+2<n by omega),aO,cI,xq,tt]
  cases (Dk.jE (200 - within).toNat it.n it.bytes).2
  ·rw [ah,hj,aj (by decide)];rfl
  ·rw [ak,aq rfl];rfl
 omega
end Go.Eng
namespace Go.Eng
open Go.IntWalk
namespace Dk
open Db (iv fU)
theorem qK {x:bG} (hc:Mp.dp x=0) (hk:x.kind=6):Mp.gf x.kids=0∧x.kids.length % 2=0∧(Mp.eR x.kids).length+1≤(Mp.lay x).length:=by
 have h1:=Mp.I3 x.val (by rw [bG.ib];exact hc)
 have h2:=(Mp.jc x).2
 obtain ⟨o1,o2,o3,o4,o5,o6,o7,o8,o9,Ml⟩:=Mp.IG x.val h1.1
 exact ⟨h1.2,o9 hk,by omega⟩
theorem rT {c:bY} (he:(Mp.dec c 1000).2.err=0) (hk:(Mp.dec c 1000).1.kind=6):Mp.gf (Mp.dec c 1000).1.kids=0∧(Mp.dec c 1000).1.kids.length % 2=0∧(Mp.eR (Mp.dec c 1000).1.kids).length+1≤c.length:=by
 have h:=(Mp.Dl c 1000).1 he
 have:=qK h.1 hk
 rw [h.2.1] at this
 exact this
theorem vj (d:Nat) (c:bY):tX d c=if (Mp.dec c 1000).2.err≠0∨(Mp.dec c 1000).1.kind≠6 then none else match fields d (Mp.dec c 1000).1.kids 0 [] with
  | .ok l=>some l
  | .bad _=>none:=rfl
theorem wg (d:Nat) (v:bI) (c:bY):kK d v c=match tX d c with
  | some l=>({ v with kids:=l },true)
  | none=>(Db.zero,false):=rfl
theorem zw {d:Nat} {c:bY} {l:List bM} (h:tX d c=some l):l.length≤c.length:=by
 rw [vj] at h
 by_cases a:(Mp.dec c 1000).2.err≠0∨(Mp.dec c 1000).1.kind≠6
 ·rw [aq a] at h;cases h
 rw [aj a] at h
 simp only [not_or,Classical.not_not,ne_eq] at a
 have h1:=rT a.1 a.2
 have h2:=Mp.iA (Mp.dec c 1000).1.kids
 cases hf:fields d (Mp.dec c 1000).1.kids 0 [] with
 | bad q=>rw [hf] at h;cases h
 | ok l' =>
  rw [hf] at h
  injection h with h
  subst h
  have:=sR d _ _ _ _ hf
  omega
def two (r:bI × Bool):List TV:=[.ag (bI.cells r.1),.b r.2]
end Dk
theorem fv.goal (n:Nat) (v:bI) (b:bY) (within:Int) (hp:(decide (b.length≤536870912∧0≤within∧within<200)&&decide ((4 * b.length+1)<n+1))=true):fv.F n v b within=some (Dk.two (Dk.kK (199 - within).toNat ⟨v.kind,v.bits,v.high,v.low,v.text,v.more,v.sub,v.bytes,[]⟩ b)):=by
 simp only [af,az] at hp
 obtain ⟨⟨hb,hw⟩,hn⟩:=hp
 refine fv.dQ _ _ _ _ ?_
 intro v1 h1 v2 h2 v3 h3 v4 h4 v5 h5 v6 h6 v7 h7 v8 h8
 have e2:v2=decide (v1.err=0):=by rw [h2,Bool.not_not]
 rw [bL (aa (by omega))]
 simp only [aG,cI]
 rw [bL (by rw [e2];cases decide (v1.err=0) <;> rfl),Dk.wg,Dk.vj,←h1,←h3]
 by_cases a:v1.err≠0∨v3≠6
 ·have e4:v4=true:=by
   rw [h4]
   by_cases x:v1.err=0
   ·rw [aa x,ae (a.resolve_left (fun h=>h x))];rfl
   ·rw [ae x];rfl
  rw [e4,ak,aq a];rfl
 ·have a':=a
  simp only [not_or,Classical.not_not,ne_eq] at a
  have e4:v4=false:=by rw [h4,aa a.1,aa a.2];rfl
  have hd:=Dk.rT (c:=b) (by rw [←h1];exact a.1) (by rw [←h3];exact a.2)
  rw [←h5] at hd
  have e6:v6=within+1:=by rw [h6,i64_in _ (by omega)]
  have ed:(200 - v6).toNat=(199 - within).toNat:=by omega
  rw [e4,ah,aj a',bL (by
   rw [aa (show (Mp.eR v5).length+([]:List Int).length≤536870912 by simp only [aA];omega),aa (show Mp.gf v5=0∧v5.length % 2=0∧0≤v6∧v6≤200 from ⟨hd.1,hd.2.1,by omega,by omega⟩),aa (show 4 * (Mp.eR v5).length+3<n by omega)];rfl)]
  rw [←h5]
  rw [ed] at h7 h8
  cases hf:Dk.fields (199 - within).toNat v5 0 [] with
  | ok l=>rw [hf] at h7 h8;rw [h7,h8];rfl
  | bad q=>rw [hf] at h7 h8;rw [h7,h8];rfl
theorem cj.sG (n:Nat) (R:bI→bY→bI × Bool) (b:bY) (k:Int) (x3:Bool) (x4:bI) (hb:b.length≤536870912) (hx:x3=decide (k=13∨k=14)) (a4:k≠4) (lq:k≠15) (a5:k≠5) (a7:k≠7) (a9:¬(k=9∨k=17∨k=18)) (nG:k≠11) (a12:k≠12) :
  cj.j4 n b false k x3 x4 k 0 0 0 [] [] 0 []=some (Dk.two (Dk.mS R k b)):=by
 refine cj.wB _ _ _ _ _ _ _ _ _ _ _ _ _ _ ?_
 intro v1 e1 v2 e2
 rw [hx,Dk.mS,aj a4,aj lq,aj a5,aj a7,aj a9,aj nG,aj a12]
 by_cases a:k=13∨k=14
 ·rw [aa a,ak,aq a,bL (aa (by omega)),cj.jC];rfl
 rw [ae a,ah,aj a]
 by_cases c:k=19
 ·rw [aa c,ak,aq c]
  by_cases s:b.length=16
  ·rw [aa (show (b.length:Int)=16 by omega),ak,aq s,bL (ij (by omega) (by omega) (by omega)),bL (aa (by rw [e1,bh];omega)),bL (ij (by omega) (by omega) (by omega)),bL (aa (by rw [e2,aS];omega)),cj.jC,e1,e2,c];rfl
  ·rw [ae (show ¬(b.length:Int)=16 by omega),ah,aj s,cj.jC,c];rfl
 rw [ae c,ah,aj c,cj.tS,cj.tS,cj.tS]
 have he:decide ((b.length:Int)=0)=decide (b.length=0):=aX.2 (by omega)
 simp only [cj.jC,he]
 by_cases d:k=6
 ·rw [aa d,ak,ak,aq (.inl d)];rfl
 rw [ae d,ah]
 by_cases f:k=255
 ·rw [aa f,ak,ak,aq (.inr (.inr f))];rfl
 rw [ae f,ah]
 by_cases g:k=127
 ·rw [aa g,ak,aq (.inr (.inl g))];rfl
 ·rw [ae g,ah,aj (by omega)];rfl
theorem cj.nY (n:Nat) (R:bI→bY→bI × Bool) (b:bY) (k:Int) (x3:Bool) (x4:bI) (hb:b.length≤536870912) (hx:x3=decide (k=9∨k=17∨k=18)) (a4:k≠4) (lq:k≠15) (a5:k≠5) (a7:k≠7) :
  cj.j3 n b false k x3 x4 k 0 0 0 [] [] 0 []=some (Dk.two (Dk.mS R k b)):=by
 refine cj.pZ _ _ _ _ _ _ _ _ _ _ _ _ _ _ ?_
 intro v1 e1 v2 e2 v3 e3 v4 e4 v5 e5 v6 e6 v7 e7 v8 e8 v9 e9
 rw [hx]
 by_cases a9:k=9∨k=17∨k=18
 ·rw [aa a9,ak,Dk.mS,aj a4,aj lq,aj a5,aj a7,aq a9,bL (aa (by omega)),cj.jC,show decide ((b.length:Int)=8)=decide (b.length=8) from aX.2 (by omega)];rfl
 rw [ae a9,ah]
 by_cases nG:k=11
 ·have l1:v1.length≤b.length:=by
   rw [e1];unfold Dk.cut;split
   ·rw [bh];omega
   ·exact Nat.le_refl _
  have l2:v2.length≤b.length:=by
   rw [e2];unfold Dk.cut;split
   ·rw [aS];omega
   ·exact Nat.zero_le _
  have hz:decide (0≤Lib.indexByte v2 (([0]:bY).getD 0 0))=ee.zero v2:=iY 0 v2
  rw [aa nG,ak,bL (aa ⟨rfl,by omega⟩)]
  rw [hz] at e4
  simp only [show decide ((([0]:bY)).length=1)=true from rfl,u7 (show v1.length≤1000000000 by omega),u7 (show v2.length≤1000000000 by omega),aa (show v1.length≤1099511627776 by omega),aa (show v2.length≤1099511627776 by omega),Bool.and_true,aG,cI]
  rw [cj.jC,Dk.mS,aj a4,aj lq,aj a5,aj a7,aj a9,aq nG,e6,e5,e4,nG]
  have f1:v1=(Dk.cut b 0).1:=e1
  have f2:v2=(Dk.cut b 0).2.1:=e2
  have f3:v3=(Dk.cut b 0).2.2:=e3
  rw [←f1,←f2,←f3]
  unfold Dk.two
  cases v3 <;> cases ee.zero v2 <;> cases ee.whole v1 <;> cases ee.whole v2 <;> rfl
 rw [ae nG,ah]
 by_cases a12:k=12
 ·rw [aa a12,ak,Dk.mS,aj a4,aj lq,aj a5,aj a7,aj a9,aj nG,aq a12]
  have zW:v7=b.drop 12:=e7
  have IU:v9=b.take 12:=e9
  by_cases s:12≤b.length
  ·have l7:v7.length≤b.length:=by rw [zW,aS];omega
   have l9:v9.length≤b.length:=by rw [IU,bh];omega
   rw [aa (show (12:Int)≤b.length by omega),ak] at e8
   rw [aa (show (12:Int)≤b.length by omega),bL (by rw [ij (show (0:Int)≤12 by omega) (show (12:Int)≤b.length by omega) (by omega)];rfl),bL (by rw [aa (show v7.length≤1099511627776 by omega)];rfl),bL (by rfl),e8]
   by_cases w:ee.whole v7=true
   ·rw [w,ak,bL (ij (by omega) (by omega) (by omega)),bL (fu (by omega) (by omega)),bL (ij (by omega) (by omega) (by omega)),cj.jC,aq ⟨s,by rw [←zW];exact w⟩,←zW,←IU,a12];rfl
   ·rw [Bool.not_eq_true] at w
    rw [w,ah,cj.jC,aj (fun h=>by rw [←zW,w] at h;exact absurd h.2 (by decide)),a12];rfl
  ·rw [ae (show ¬(12:Int)≤b.length by omega),ah] at e8
   rw [ae (show ¬(12:Int)≤b.length by omega),bL (by rfl),bL (by rfl),bL (by rfl),e8,ah,cj.jC,aj (fun h=>s h.1),a12];rfl
 rw [ae a12,ah]
 by_cases td:k=13
 ·rw [aa td,ak]
  exact cj.sG n R b k _ x4 hb (by rw [aa (Or.inl td)]) a4 lq a5 a7 a9 nG a12
 ·rw [ae td,ah]
  exact cj.sG n R b k _ x4 hb (aX.2 ⟨.inr,fun h=>h.resolve_left td⟩) a4 lq a5 a7 a9 nG a12
end Go.Eng
