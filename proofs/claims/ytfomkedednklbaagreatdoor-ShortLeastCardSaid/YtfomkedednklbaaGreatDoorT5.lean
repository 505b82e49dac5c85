/- Texts of my own, one behind the other: SnP8, SnP9, SnP10, SnP11, SnP12, SnP13, SnP14, SnP15, SnP16, SnN2, SnN3, SnN4, SnE1, SnE2, SnR1, ShM1, ShM2, ShM3, ShM4, ShM5, SnN5, ShM6, ShP1, ShP2, ShP3, ShP4, ShP5, ShP6, SnShelf, SnHand, ShHand, ShRev, SnOKT, SnWhole, SnP. -/
import Derived.Test.YtfomkedednklbaaGreatDoorT4
import Derived.Ground.Names7Prog
import Derived.Ground.Names2Prog
import Derived.Shelf.Slices.ReverseS
import Derived.Shelf.Strings.SlTrimAscii
import Derived.Shelf.Small.Wraps
import Derived.Shelf.Strings.Search1
import Derived.Shelf.Strings.Search2
import Derived.Shelf.Strings.IndexAnyAll
import Derived.Shelf.Spec.TrailingZeros
import Derived.Shelf.Strings.OnBuilder
import Derived.Shelf.Strings.Repeat
import Derived.Shelf.LaysM
import Derived.Shelf.Strconv.Itoa3
import Derived.Shelf.Strconv.Itoa4
import Derived.Test.YtfomkedednklbaaGreatDoorProg
import Derived.WalkKit
import Derived.WalkSpells
set_option linter.unusedVariables false
set_option linter.unusedSimpArgs false
namespace Go.Eng
open Go.IntWalk
theorem Dj {B v1 v2 top u2 g r V T P:Nat} (hP:0<P) (rZ:top=g * v1+r) (h:r * B+u2<g * v2) (hV:(v1 * B+v2) * P≤V) (hT:T<(top * B+u2+1) * P):T / V<g:=by
 have h1:top * B+u2+1≤g * (v1 * B+v2):=by
  rw [rZ,Nat.add_mul,Nat.mul_add,Nat.mul_assoc];omega
 have h2:(top * B+u2+1) * P≤g * V:=by
  have:=ar P h1
  rw [Nat.mul_assoc] at this
  exact Nat.le_trans this (Nat.mul_le_mul_left _ hV)
 have Aj:0<V:=by
  rcases Nat.eq_zero_or_pos V with e | e
  ·subst e;simp at h2;omega
  ·exact e
 exact (Nat.div_lt_iff_lt_mul Aj).2 (by omega)
theorem Ba {B v1 v2 top u2 g r V T P:Nat} (hB:g≤B) (rZ:top=g * v1+r) (h:g * v2≤r * B+u2) (Mc:V<(v1 * B+v2+1) * P) (MZ:B * P≤V) (hT:(top * B+u2) * P≤T) (Aj:0<V):g≤T / V+1:=by
 rcases Nat.eq_zero_or_pos g with e | hg
 ·rw [e];exact Nat.zero_le _
 have h1:g * (v1 * B+v2)≤top * B+u2:=by
  rw [rZ,Nat.add_mul,Nat.mul_add,Nat.mul_assoc];omega
 have h2:g * V<(g * (v1 * B+v2)+g) * P:=by
  have:=Nat.mul_lt_mul_of_pos_left Mc hg
  rw [←Nat.mul_assoc,Nat.mul_add,Nat.mul_one] at this
  exact this
 have h3:(g * (v1 * B+v2)) * P≤(top * B+u2) * P:=ar _ h1
 have h4:g * P≤B * P:=ar _ hB
 rw [Nat.add_mul] at h2
 have h5:g * V<T+V:=by omega
 have h6:(g - 1) * V≤T:=by
  have:g * V=(g - 1) * V+V:=by rw [←Nat.succ_mul];congr 1;omega
  omega
 have:=(Nat.le_div_iff_mul_le Aj).2 h6
 omega
theorem zn {B v1 top g r V T P:Nat} (hg:g≤B) (rZ:top=g * v1+r) (hr:B≤r) (hV:V≤(v1+1) * P) (Aj:0<V) (hT:top * P≤T):g≤T / V:=by
 refine (Nat.le_div_iff_mul_le Aj).2 ?_
 have h1:g * V≤g * ((v1+1) * P):=Nat.mul_le_mul_left _ hV
 have h2:g * ((v1+1) * P)=(g * v1+g) * P:=by rw [←Nat.mul_assoc,Nat.mul_add,Nat.mul_one]
 have h3:(g * v1+g) * P≤top * P:=ar _ (by omega)
 omega
theorem yt {x:UInt64} (h:x.toNat<65536 * 65536):(kM x 16).toNat=x.toNat * 65536:=by
 rw [kM,UInt64.toNat_ofNat'];omega
theorem Nv {a b:UInt64} {x:Nat} (ha:a.toNat=x * 65536) (hb:b.toNat<65536):(a ||| b).toNat=x * 65536+b.toNat:=by
 rw [UInt64.toNat_or,ha];exact oi (a:=x) (b:=b.toNat) (k:=16) hb
theorem yd {g:UInt64} (h:0<g.toNat):(g - 1).toNat=g.toNat - 1:=by
 have:=UInt64.toNat_sub_of_le g 1 (bk.2 h)
 exact this
theorem bG.lF (v w qs:List UInt16) (n j:Nat) (hn:n=v.length) (h2:2≤n) (hj:j+n<w.length) (hl:w.length≤1000001) {V T P top:Nat} (hP:0<P)
  (hv1:32768≤(v.getD (n - 1) 0).toNat) (rZ:top=(w.getD (j+n) 0).toNat * 65536+(w.getD (j+n - 1) 0).toNat)
  (Mb:((v.getD (n - 1) 0).toNat * 65536+(v.getD (n - 2) 0).toNat) * P≤V) (QJ:V<((v.getD (n - 1) 0).toNat * 65536+(v.getD (n - 2) 0).toNat+1) * P)
  (IL:(top * 65536+(w.getD (j+n - 2) 0).toNat) * P≤T) (QK:T<(top * 65536+(w.getD (j+n - 2) 0).toNat+1) * P) (hq:T / V≤65535) :
  ∀(m:Nat) (g r:UInt64),g.toNat≤m→g.toNat≤65537→top=g.toNat * (v.getD (n - 1) 0).toNat+r.toNat→r.toNat≤65535→T / V≤g.toNat →
   ∃g':UInt64,T / V≤g'.toNat∧g'.toNat≤T / V+1∧g'.toNat≤65535∧bG.l2 v n j g r w qs=bG.j3 v n j g' w qs:=by
 intro m
 induction m with
 | zero =>
  intro g r hg hg2 ht hr Sl
  -- nothing is left to take XF
  have g0:g.toNat=0:=by omega
  refine ⟨g,Sl,by rw [g0];exact Nat.zero_le _,by omega,?_⟩
  refine bG.jw _ _ _ _ _ _ _ ?_
  intro u1 h1 u2 Ck u3 h3 u4 h4 u5 h5 u6 h6 u7 h7 u8 h8 u9 h9 Q1 kQ Vv mY Ah lO
  have f1:decide ((65535:UInt64)<g)=false:=af fun e=>by
   have:=bp.1 e
   have e0:(65535:UInt64).toNat=65535:=rfl
   omega
  have e1:u1=((n - 2:Nat):Int):=by rw [h1,i64_in _ (by omega)];omega
  have e5:u5=((j+n - 2:Nat):Int):=by rw [h5,i64_in ((j:Int)+n) (by omega),i64_in _ (by omega)];omega
  have x1:cq u1 v.length=true:=cN (by omega) (by omega)
  have x2:cq u5 w.length=true:=cN (by omega) (by omega)
  have x3:decide (u5.toNat<w.length)=true:=ae (by omega)
  have e8:u8=false:=by
   rw [h8]
   refine af fun e=>?_
   have:=bp.1 e
   rw [UInt64.toNat_mul,g0,Nat.zero_mul,Nat.zero_mod] at this
   omega
  have e9:u9=false:=by rw [h9,f1,ax,e8]
  simp only [f1,e9,x1,x2,x3,bq,a8,Bool.false_or,Bool.or_true,Bool.true_or,bw,da,ax]
 | succ m ih =>
  intro g r hg hg2 ht hr Sl
  have hB:(65535:UInt64).toNat=65535:=rfl
  have w1:=(v.getD (n - 1) 0).toNat_lt
  have w2:=(v.getD (n - 2) 0).toNat_lt
  have w3:=(w.getD (j+n - 2) 0).toNat_lt
  have step:∀ρ:OT,(∀(u9:Bool),u9=decide (65535<g.toNat∨r.toNat * 65536+(w.getD (j+n - 2) 0).toNat<g.toNat * (v.getD (n - 2) 0).toNat)→∀Ah:UInt64,Ah.toNat=(v.getD (n - 1) 0).toNat →
    cond u9 (cond (decide ((65535:UInt64)<(r+Ah))) (bG.j3 v n j (g - 1) w qs) (bG.l2 v n j (g - 1) (r+Ah) w qs)) (bG.j3 v n j g w qs)=ρ)→bG.l2 v n j g r w qs=ρ:=by
   intro ρ Qu
   refine bG.jw _ _ _ _ _ _ _ ?_
   intro u1 h1 u2 Ck u3 h3 u4 h4 u5 h5 u6 h6 u7 h7 u8 h8 u9 h9 Q1 kQ Vv mY Ah lO
   have e1:u1=((n - 2:Nat):Int):=by rw [h1,i64_in _ (by omega)];omega
   have e5:u5=((j+n - 2:Nat):Int):=by rw [h5,i64_in ((j:Int)+n) (by omega),i64_in _ (by omega)];omega
   have xX:Q1=((n - 1:Nat):Int):=by rw [kQ,i64_in _ (by omega)];omega
   rw [e1,aw] at Ck
   rw [e5,aw] at h6
   rw [xX,aw] at mY
   have x1:cq u1 v.length=true:=cN (by omega) (by omega)
   have x2:cq u5 w.length=true:=cN (by omega) (by omega)
   have x3:decide (u5.toNat<w.length)=true:=ae (by omega)
   have x4:cq Q1 v.length=true:=cN (by omega) (by omega)
   have f3:u3.toNat=(v.getD (n - 2) 0).toNat:=by rw [h3,fU,Ck]
   have f7:u7.toNat=(w.getD (j+n - 2) 0).toNat:=by rw [h7,fU,h6]
   have f12:Ah.toNat=(v.getD (n - 1) 0).toNat:=by rw [lO,fU,mY]
   have f4:u4.toNat=r.toNat * 65536:=by rw [h4];exact yt (by omega)
   have f47:=Nv f4 (b:=u7) (by omega)
   have hm:g.toNat * (v.getD (n - 2) 0).toNat≤65537 * 65535:=Nat.mul_le_mul hg2 (by omega)
   have fm:(g * u3).toNat=g.toNat * (v.getD (n - 2) 0).toNat:=by rw [UInt64.toNat_mul,f3,Nat.mod_eq_of_lt (by omega)]
   have TZ:=Qu u9 (by
    rw [h9,h8,bo]
    simp only [bp,hB,f47,fm,f7]
    by_cases c:65535<g.toNat
    ·simp [c]
    ·simp [c]) Ah f12
   cases hb:decide ((65535:UInt64)<g) with
   | true =>
    rw [hb,aF] at h9
    simp only [x1,x2,x3,x4,bq,a8,Bool.false_or,Bool.or_true,Bool.true_or,bw,Bool.or_self,bz,bB,da]
    exact TZ
   | false =>
    simp only [x1,x2,x3,x4,bq,a8,Bool.false_or,Bool.or_true,Bool.true_or,bw,Bool.or_self,bz,bB,da]
    exact TZ
  by_cases c:65535<g.toNat∨r.toNat * 65536+(w.getD (j+n - 2) 0).toNat<g.toNat * (v.getD (n - 2) 0).toNat
  ·have eO:T / V<g.toNat:=by
    rcases c with c | c
    ·omega
    ·exact Dj hP ht c Mb QK
   have hg0:0<g.toNat:=Nat.lt_of_le_of_lt (Nat.zero_le _) eO
   have gs:=yd (g:=g) hg0
   have tg:top=(g.toNat - 1) * (v.getD (n - 1) 0).toNat+(r.toNat+(v.getD (n - 1) 0).toNat):=by
    have:g.toNat * (v.getD (n - 1) 0).toNat=(g.toNat - 1) * (v.getD (n - 1) 0).toNat+(v.getD (n - 1) 0).toNat:=by rw [←Nat.succ_mul];congr 1;omega
    omega
   by_cases c2:65535<r.toNat+(v.getD (n - 1) 0).toNat
   ·have Aj:0<V:=Nat.lt_of_lt_of_le (Nat.mul_pos (by omega) hP) Mb
    have hle:g.toNat - 1≤T / V:=by
     refine zn (B:=65536) (P:=65536 * P) (by omega) tg (by omega) ?_ Aj ?_
     ·have e:((v.getD (n - 1) 0).toNat+1) * (65536 * P)=(((v.getD (n - 1) 0).toNat+1) * 65536) * P:=by rw [Nat.mul_assoc]
      rw [e]
      refine Nat.le_trans (Nat.le_of_lt QJ) (ar _ (by omega))
     ·have e:top * (65536 * P)=(top * 65536) * P:=by rw [Nat.mul_assoc]
      rw [e]
      exact Nat.le_trans (ar _ (by omega)) IL
    refine ⟨g - 1,by omega,by rw [gs];exact Nat.le_succ_of_le hle,by omega,step _ fun u9 h9 Ah lO=>?_⟩
    have e:(r+Ah).toNat=r.toNat+(v.getD (n - 1) 0).toNat:=by rw [UInt64.toNat_add,lO,Nat.mod_eq_of_lt (by omega)]
    rw [h9,ae c,aF,ae (by rw [bp,e,hB];exact c2),aF]
   ·have e:∀Ah:UInt64,Ah.toNat=(v.getD (n - 1) 0).toNat→(r+Ah).toNat=r.toNat+(v.getD (n - 1) 0).toNat:=fun Ah lO=>by rw [UInt64.toNat_add,lO,Nat.mod_eq_of_lt (by omega)]
    obtain ⟨g',i1,i2,i3,i4⟩:=ih (g - 1) (r+UInt64.ofInt ((v.getD (n - 1) 0).toNat:Int)) (by omega) (by omega) (by rw [gs,e _ (fU _)];exact tg) (by rw [e _ (fU _)];omega) (by omega)
    refine ⟨g',i1,i2,i3,step _ fun u9 h9 Ah lO=>?_⟩
    have Mq:Ah=UInt64.ofInt ((v.getD (n - 1) 0).toNat:Int):=bt.1 (by rw [lO,fU])
    rw [h9,ae c,aF,af (by rw [bp,e _ lO,hB];exact c2),ax,Mq]
    exact i4
  ·have c1:g.toNat≤65535:=by omega
   refine ⟨g,Sl,Ba (B:=65536) (by omega) ht (by omega) QJ ?_ IL (Nat.lt_of_lt_of_le (Nat.mul_pos (by omega) hP) Mb),c1,step _ fun u9 h9 Ah lO=>?_⟩
   ·refine Nat.le_trans (ar _ ?_) Mb
    omega
   ·rw [h9,af c,ax]
end Go.Eng
namespace Go.Eng
open Go.IntWalk
theorem oR {α:Type} (l:List α) (j i:Nat) (x:α):(l.set (j+i) x).drop j=(l.drop j).set i x:=by
 rw [List.drop_set,aD (by omega)];congr 1;omega
theorem kz (w:List UInt16) (j i:Nat) (h:j+i<w.length):Nt.val ((w.drop j).take (i+1))=Nt.val ((w.drop j).take i)+65536 ^ i * (w.getD (j+i) 0).toNat:=by
 have:=dy (w.drop j) i (by rw [bm];omega)
 rw [this]
 congr 3
 simp [ak]
theorem wz (w:List UInt16) (j i:Nat) (d:UInt16) (h:j+i<w.length):Nt.val (((w.set (j+i) d).drop j).take (i+1))=Nt.val ((w.drop j).take i)+65536 ^ i * d.toNat:=by
 rw [kz _ _ _ (by rw [List.length_set];exact h),getD_set_ne _ _ _ _ h,oR,List.take_set_of_le (Nat.le_refl _)]
theorem Al (w:List UInt16) (j i:Nat):Nt.val ((w.drop j).take i)<65536 ^ i:=by
 refine Nat.lt_of_lt_of_le (Nt.gB _) (Nat.pow_le_pow_right (by omega) ?_)
 rw [aK];omega
theorem IW (x:Int):Int.fdiv x (2 ^ (min (16:UInt64).toNat IntKind.i64.bits))=x / 65536:=by
 rw [show (2:Int) ^ (min (16:UInt64).toNat IntKind.i64.bits)=65536 by decide,Int.fdiv_eq_ediv_of_nonneg _ (by omega)]
theorem z6 (x:Int) (h:x=0∨x=-1∨x=-2):dN .and .i64 x 1=x % 2:=by
 rcases h with rfl | rfl | rfl <;> decide
theorem vi (x:Int):(UInt16.ofInt x).toNat=(x % 65536).toNat:=by
 have h:=rE x
 rw [iQ] at h
 omega
theorem bG.Fw (v w0 qs:List UInt16) (n j:Nat) (g:UInt64) (hn:n=v.length) (hj:j+n<w0.length) (hl:w0.length≤1000001):∀(m i:Nat) (c:UInt32) (w:List UInt16),i+m=n→c.toNat≤1→w.length=w0.length→w.take j=w0.take j→w.drop (j+i)=w0.drop (j+i) →
   Nt.val ((w0.drop j).take i)+Nt.val (v.take i)=Nt.val ((w.drop j).take i)+65536 ^ i * c.toNat →
   ∃(c':Nat) (w':List UInt16),c'≤1∧w'.length=w0.length∧w'.take j=w0.take j∧w'.drop (j+n+1)=w0.drop (j+n+1)∧Nt.val ((w0.drop j).take n)+Nt.val v=Nt.val ((w'.drop j).take n)+65536 ^ n * c' ∧
    (w'.getD (j+n) 0).toNat=((w0.getD (j+n) 0).toNat+c') % 65536∧bG.l5 v n j g c n i w qs=bG.j6 v n j g w' qs:=by
 intro m
 induction m with
 | zero =>
  intro i c w hi hc ID ht hd hv
  obtain rfl:i=n:=by omega
  rw [List.take_of_length_le (l:=v) (by omega)] at hv
  have eO:j+i<w.length:=by omega
  refine ⟨c.toNat,w.set (j+i) (w.getD (j+i) 0+UInt16.ofNat c.toNat),hc,by rw [List.length_set];exact ID,by rw [List.take_set_of_le (by omega)];exact ht,?_,?_,?_,?_⟩
  ·rw [List.drop_set_of_lt (by omega),show j+i+1=(j+i)+1 from rfl,←List.drop_drop (l:=w),hd,List.drop_drop]
  ·rw [oR,List.take_set_of_le (Nat.le_refl _)];exact hv
  ·rw [getD_set_ne _ _ _ _ eO,UInt16.toNat_add,Nt.dB,Nat.add_mod_mod]
   congr 3
   have e1:w.getD (j+i) 0=(w.drop (j+i)).getD 0 0:=by simp [ak]
   have e2:w0.getD (j+i) 0=(w0.drop (j+i)).getD 0 0:=by simp [ak]
   rw [e1,e2,hd]
  ·refine bG.yZ _ _ _ _ _ _ _ _ _ ?_
   intro v1 h1 v2 h2 v3 h3 v4 h4 v5 h5 v6 h6 v7 h7 v8 h8 v9 h9 v10 kQ v11 mY v12 lO
   have Gq:IntKind.i64.wrap ((j:Int)+(i:Int))=((j+i:Nat):Int):=by rw [i64_in _ (by omega)];omega
   rw [Gq,aw] at h9
   rw [h9] at kQ lO
   rw [af (by omega),ax,Gq,bD (cN (by omega) (by omega)),bD (ae (by omega)),bD (cN (by omega) (by omega)),bD (ae (by omega)),lO,kQ,mY,jk]
 | succ m ih =>
  intro i c w hi hc ID ht hd hv
  have eO:j+i<w.length:=by omega
  have w1:=(w.getD (j+i) 0).toNat_lt
  have w2:=(v.getD i 0).toNat_lt
  have ew:w.getD (j+i) 0=w0.getD (j+i) 0:=by
   have e1:w.getD (j+i) 0=(w.drop (j+i)).getD 0 0:=by simp [ak]
   have e2:w0.getD (j+i) 0=(w0.drop (j+i)).getD 0 0:=by simp [ak]
   rw [e1,e2,hd]
  obtain ⟨s,hs⟩:∃s,s=c.toNat+((w.getD (j+i) 0).toNat+(v.getD i 0).toNat):=⟨_,rfl⟩
  obtain ⟨c',w',r1,r2,r3,r4,r5,r6,r7⟩:=ih (i+1) (UInt32.ofNat (s / 65536)) (w.set (j+i) (UInt16.ofNat s)) (by omega) (by simp;omega) (by rw [List.length_set];exact ID) (by rw [List.take_set_of_le (by omega)];exact ht)
   (by rw [List.drop_set_of_lt (by omega),show j+(i+1)=(j+i)+1 from rfl,←List.drop_drop (l:=w),hd,List.drop_drop]) (by
    rw [kz w0 j i (by omega),wz w j i _ eO,dy v i (by omega),Nt.dB]
    have e:(UInt32.ofNat (s / 65536)).toNat=s / 65536:=by simp;omega
    rw [e,Nat.pow_succ,Nat.mul_assoc,Nat.add_assoc (Nt.val ((w.drop j).take i)),←Nat.mul_add,Nat.mod_add_div,hs,←ew,Nat.mul_add,Nat.mul_add]
    omega)
  refine ⟨c',w',r1,r2,r3,r4,r5,r6,?_⟩
  rw [←r7]
  refine bG.yZ _ _ _ _ _ _ _ _ _ ?_
  intro v1 h1 v2 h2 v3 h3 v4 h4 v5 h5 v6 h6 v7 h7 v8 h8 v9 h9 v10 kQ v11 mY v12 lO
  have Gq:IntKind.i64.wrap ((i:Int)+(j:Int))=((j+i:Nat):Int):=by rw [i64_in _ (by omega)];omega
  rw [Gq,aw] at h1
  rw [h1] at h2
  rw [aw] at h4
  have es:(c+(v3+v5)).toNat=s:=by
   rw [UInt32.toNat_add,UInt32.toNat_add,h3,h5,j5,j5,h2,h4,hs];omega
  have e6:v6=UInt16.ofNat s:=by rw [h6,jk,es]
  have e7:v7=UInt32.ofNat (s / 65536):=by
   apply UInt32.toNat_inj.1
   rw [h7,ue,es,show (16:UInt64).toNat=16 from rfl]
  have e8:v8=((i+1:Nat):Int):=by rw [h8,i64_in _ (by omega)];omega
  rw [ae (by omega),aF,Gq,bD (cN (by omega) (by omega)),bD (ae (by omega)),bD (cN (by omega) (by omega)),bD (cN (by omega) (by omega)),bD (ae (by omega)),e6,e7,e8,h1]
end Go.Eng
namespace Go.Eng
open Go.IntWalk
theorem Qe (x:UInt64):(x &&& 65535).toNat=x.toNat % 65536:=by
 rw [UInt64.toNat_and,show (65535:UInt64).toNat=2 ^ 16 - 1 from rfl,Nat.and_two_pow_sub_one_eq_mod]
theorem qT {w w0:List UInt16} {k:Nat} (h:w.drop k=w0.drop k):w.getD k 0=w0.getD k 0:=by
 have e1:w.getD k 0=(w.drop k).getD 0 0:=by simp [ak]
 have e2:w0.getD k 0=(w0.drop k).getD 0 0:=by simp [ak]
 rw [e1,e2,h]
theorem sr {w w0:List UInt16} {k:Nat} (x:UInt16) (h:w.drop k=w0.drop k):(w.set k x).drop (k+1)=w0.drop (k+1):=by
 rw [List.drop_set_of_lt (by omega),←List.drop_drop (l:=w),h,List.drop_drop]
theorem bG.y0 (v w0 qs:List UInt16) (n j:Nat) (g:UInt64) (hn:n=v.length) (hj:j+n<w0.length) (hl:w0.length≤1000001) (hg:g.toNat≤65535) {T:Nat} (hT:T=Nt.val ((w0.drop j).take (n+1))) (Aj:0<Nt.val v) (hg1:T / Nt.val v≤g.toNat) (hg2:g.toNat≤T / Nt.val v+1) :
  ∀(m i b:Nat) (c:UInt64) (w:List UInt16),i+m=n→b≤1→c.toNat≤65535→w.length=w0.length→w.take j=w0.take j→w.drop (j+i)=w0.drop (j+i) →
   Nt.val ((w0.drop j).take i)+65536 ^ i * (b+c.toNat)=Nt.val ((w.drop j).take i)+g.toNat * Nt.val (v.take i) →
   ∃(q:UInt64) (w':List UInt16),q.toNat=T / Nt.val v∧w'.length=w0.length∧w'.take j=w0.take j∧w'.drop (j+n+1)=w0.drop (j+n+1)∧Nt.val ((w'.drop j).take (n+1))=T % Nt.val v∧bG.l4 v n j g b c n i w qs=bG.j6 v n j q w' qs:=by
 have WV:Nt.val v<65536 ^ n:=by rw [hn];exact Nt.gB v
 intro m
 induction m with
 | zero =>
  intro i b c w hi hb hc ID ht hd hv
  obtain rfl:i=n:=by omega
  rw [List.take_of_length_le (l:=v) (by omega)] at hv
  have eO:j+i<w.length:=by omega
  have V3:=Al w j i
  have ew:=qT hd
  have PT:=kz w0 j i (by omega)
  rw [←hT,←ew] at PT
  have w1:=(w.getD (j+i) 0).toNat_lt
  have Dh:=Nat.div_add_mod T (Nt.val v)
  have hR:=Nat.mod_lt T Aj
  generalize T / Nt.val v=q at *
  generalize Y6:T % Nt.val v=R at *
  generalize WW:Nt.val v=V at *
  generalize Uu:65536 ^ i=P at *
  generalize hx:Nt.val ((w.drop j).take i)=X at *
  generalize kO:Nt.val ((w0.drop j).take i)=X0 at *
  generalize hy:(w.getD (j+i) 0).toNat=y at *
  -- the top digit,less what is taken
  have FV:(V * q+R)+P * (b+c.toNat)=X+g.toNat * V+P * y:=by rw [Dh,PT];omega
  have step:∀ρ:OT,(∀v20:List UInt16,v20=w.set (j+i) (UInt16.ofInt ((y:Int) - b - c.toNat))→cond (decide ((y:Int) - b - c.toNat<0)) (bG.l5 v i j (g - 1) 0 i 0 v20 qs) (bG.j6 v i j g v20 qs)=ρ)→bG.l4 v i j g b c i i w qs=ρ:=by
   intro ρ Qu
   refine bG.sQ _ _ _ _ _ _ _ _ _ _ ?_
   intro v1 h1 v2 h2 v3 h3 v4 h4 v5 h5 v6 h6 v7 h7 v8 h8 v9 h9 v10 kQ v11 mY v12 lO pL Ak mD zm mE A9 Ag Mg Hn Ka Hm M3 DS M1 v20 J9
   have Gq:IntKind.i64.wrap ((j:Int)+(i:Int))=((j+i:Nat):Int):=by rw [i64_in _ (by omega)];omega
   rw [Gq,aw] at zm
   rw [zm] at A9 J9
   rw [A9,hy,i64_in _ (by omega)] at Mg
   have Tj:Hm=(c.toNat:Int):=by rw [M3,i64_in _ (by omega)]
   have Tk:Hn=(y:Int) - b:=by rw [Ka,i64_in _ (by omega),Mg]
   have P5:DS=(y:Int) - b - c.toNat:=by rw [M1,i64_in _ (by omega),Tk,Tj]
   rw [af (by omega),ax,Gq,bD (cN (by omega) (by omega)),bD (ae (by omega)),bD (cN (by omega) (by omega)),bD (ae (by omega)),P5]
   exact Qu v20 (by rw [J9,P5])
  by_cases cg:g.toNat=q
  ·-- the PX is right
   have e0:y=b+c.toNat:=by
    rw [cg,Nat.mul_comm q V] at FV
    rcases Nat.lt_trichotomy y (b+c.toNat) with h | h | h
    ·have:P * (y+1)≤P * (b+c.toNat):=Nat.mul_le_mul_left _ h
     rw [Nat.mul_add,Nat.mul_one] at this
     omega
    ·exact h
    ·have:P * (b+c.toNat+1)≤P * y:=Nat.mul_le_mul_left _ h
     rw [Nat.mul_add,Nat.mul_one] at this
     omega
   have eR:X=R:=by
    rw [cg,Nat.mul_comm q V,e0] at FV
    omega
   refine ⟨g,w.set (j+i) 0,cg,by rw [List.length_set];exact ID,by rw [List.take_set_of_le (by omega)];exact ht,sr 0 hd,?_,step _ fun v20 J9=>?_⟩
   ·rw [wz w j i 0 eO,hx,eR];simp
   ·rw [af (by omega),ax,J9,show (y:Int) - b - c.toNat=0 by omega];rfl
  ·-- the PX is one YE UB
   have Xx:g.toNat=q+1:=by omega
   have T0:g.toNat * V=V * q+V:=by rw [Xx,Nat.succ_mul,Nat.mul_comm]
   rw [T0] at FV
   have e0:y+1=b+c.toNat:=by
    rcases Nat.lt_trichotomy (y+1) (b+c.toNat) with h | h | h
    ·have:P * (y+2)≤P * (b+c.toNat):=Nat.mul_le_mul_left _ h
     rw [Nat.mul_add] at this
     omega
    ·exact h
    ·have:P * (b+c.toNat)≤P * y:=Nat.mul_le_mul_left _ (by omega)
     omega
   have eX:X+V=R+P:=by
    have:P * (b+c.toNat)=P * y+P:=by rw [←e0,Nat.mul_add,Nat.mul_one]
    omega
   have JS:(w.set (j+i) (65535:UInt16)).length=w.length:=List.length_set
   obtain ⟨c',w',r1,r2,r3,r4,r5,r6,r7⟩:=bG.Fw v (w.set (j+i) 65535) qs i j (g - 1) hn (by omega) (by omega) i 0 0 (w.set (j+i) 65535) (by omega) (by decide) rfl rfl rfl (by simp [Nt.val])
   rw [oR,List.take_set_of_le (Nat.le_refl _),hx,WW,Uu] at r5
   have O1:=Al w' j i
   rw [Uu] at O1
   have ec:c'=1:=by
    rcases Nat.lt_or_ge c' 1 with h | h
    ·obtain rfl:c'=0:=by omega
     rw [Nat.mul_zero] at r5;omega
    ·omega
   rw [ec,Nat.mul_one] at r5
   rw [getD_set_ne _ _ _ _ eO,ec,show ((65535:UInt16).toNat+1) % 65536=0 from rfl] at r6
   refine ⟨g - 1,w',by rw [yd (by omega)];omega,by omega,by rw [r3,List.take_set_of_le (by omega)];exact ht,by rw [r4];exact sr _ hd,?_,step _ fun v20 J9=>?_⟩
   ·rw [kz w' j i (by omega),r6,Nat.mul_zero,Nat.add_zero];omega
   ·rw [ae (by omega),aF,J9,show (y:Int) - b - c.toNat=-1 by omega]
    exact r7
 | succ m ih =>
  intro i b c w hi hb hc ID ht hd hv
  have eO:j+i<w.length:=by omega
  have w1:=(w.getD (j+i) 0).toNat_lt
  have w2:=(v.getD i 0).toNat_lt
  have ew:=qT hd
  have hm:g.toNat * (v.getD i 0).toNat≤65535 * 65535:=Nat.mul_le_mul hg (by omega)
  obtain ⟨p,hp⟩:∃p,p=g.toNat * (v.getD i 0).toNat+c.toNat:=⟨_,rfl⟩
  obtain ⟨y,hy⟩:∃y,y=(w.getD (j+i) 0).toNat:=⟨_,rfl⟩
  obtain ⟨z,hz⟩:∃z:Int,z=(y:Int) - b - ((p % 65536:Nat):Int):=⟨_,rfl⟩
  obtain ⟨b',zk⟩:∃b':Nat,b'=if z<0 then 1 else 0:=⟨_,rfl⟩
  have RZ:((z % 65536).toNat:Int)=z+65536 * b':=by
   rw [zk];split <;> omega
  have Hz:b'≤1:=by rw [zk];split <;> omega
  have ec:(UInt64.ofNat (p / 65536)).toNat=p / 65536:=by rw [UInt64.toNat_ofNat'];omega
  obtain ⟨q,w',r1,r2,r3,r4,r5,r6⟩:=ih (i+1) b' (UInt64.ofNat (p / 65536)) (w.set (j+i) (UInt16.ofInt z)) (by omega) Hz (by rw [ec];omega) (by rw [List.length_set];exact ID) (by rw [List.take_set_of_le (by omega)];exact ht) (sr _ hd) (by
   rw [kz w0 j i (by omega),wz w j i _ eO,dy v i (by omega),ec,vi,←ew,←hy,Nat.pow_succ,Nat.mul_assoc]
   have e1:y+65536 * b'=(z % 65536).toNat+b+p % 65536:=by omega
   have e2:p % 65536+65536 * (p / 65536)=p:=Nat.mod_add_div p 65536
   have e3:y+65536 * (b'+p / 65536)=(z % 65536).toNat+b+p:=by omega
   rw [Nat.add_assoc,←Nat.mul_add,e3,Nat.mul_add,Nat.mul_add,hp,Nat.mul_add]
   have e4:65536 ^ i * (b+c.toNat)=65536 ^ i * b+65536 ^ i * c.toNat:=Nat.mul_add _ _ _
   have e5:g.toNat * (Nt.val (v.take i)+65536 ^ i * (v.getD i 0).toNat)=g.toNat * Nt.val (v.take i)+65536 ^ i * (g.toNat * (v.getD i 0).toNat):=by rw [Nat.mul_add,Nat.mul_left_comm]
   omega)
  refine ⟨q,w',r1,r2,r3,r4,r5,?_⟩
  rw [←r6]
  refine bG.sQ _ _ _ _ _ _ _ _ _ _ ?_
  intro v1 h1 v2 h2 v3 h3 v4 h4 v5 h5 v6 h6 v7 h7 v8 h8 v9 h9 v10 kQ v11 mY v12 lO pL Ak mD zm mE A9 Ag Mg Hn Ka Hm M3 DS M1 v20 J9
  have Gq:IntKind.i64.wrap ((i:Int)+(j:Int))=((j+i:Nat):Int):=by rw [i64_in _ (by omega)];omega
  rw [Gq,aw] at h4
  rw [h4] at h5 lO
  rw [aw] at h1
  have f2:v2.toNat=(v.getD i 0).toNat:=by rw [h2,fU,h1]
  have fp:(g * v2+c).toNat=p:=by rw [UInt64.toNat_add,UInt64.toNat_mul,f2,hp];omega
  have f3:v3=UInt64.ofNat (p / 65536):=by
   apply bt.1
   rw [h3,ec]
   exact (yr _).trans (by rw [fp])
  have f6:v6=(y:Int):=by rw [h6,h5,i64_in _ (by omega),hy]
  have f7:v7.toNat=p % 65536:=by rw [h7,Qe,fp]
  have f8:v8=((p % 65536:Nat):Int):=by rw [h8,f7,i64_in _ (by omega)]
  have f9:v9=z:=by rw [h9,f6,f8,i64_in ((y:Int) - b) (by omega),i64_in _ (by omega),hz]
  have f10:v10=-(b':Int):=by rw [kQ,f9,IW,zk];split <;> omega
  have f11:v11=(b':Int):=by rw [mY,f10,z6 _ (by omega)];omega
  have f13:pL=((i+1:Nat):Int):=by rw [Ak,i64_in _ (by omega)];omega
  rw [ae (by omega),aF,Gq,bD (cN (by omega) (by omega)),bD (cN (by omega) (by omega)),bD (ae (by omega)),bD (cN (by omega) (by omega)),bD (ae (by omega)),f11,f3,f13,lO,f9]
end Go.Eng
namespace Go.Eng
open Go.IntWalk
theorem xu {v:List UInt16} (h:v≠[]):v.getLast?.getD 0=v.getD (v.length - 1) 0:=by
 obtain ⟨b,d,rfl⟩:∃b d,v=b++[d]:=⟨v.dropLast,v.getLast h,(List.dropLast_concat_getLast _).symm⟩
 rw [aq,az,Nat.add_sub_cancel,iu];simp
theorem rr (w:List UInt16) (k:Nat):Nt.val w=Nt.val (w.take k)+65536 ^ (w.take k).length * Nt.val (w.drop k):=by
 rw [←Nt.fx,List.take_append_drop]
theorem xv {w u:List UInt16} {k i:Nat} (h:w.take k=u.take k) (hi:i<k):w.getD i 0=u.getD i 0:=by
 have:=congrArg (fun l=>l.getD i 0) h
 simpa [ak,aM,hi] using this
theorem CA {w u:List UInt16} {k j:Nat} (h:w.take k=u.take k) (hj:j≤k):w.take j=u.take j:=by
 have:=congrArg (fun l=>l.take j) h
 simpa [List.take_take,Nat.min_eq_left hj] using this
theorem bG.fo (v U:List UInt16) (n:Nat) (hn:n=v.length) (h2:2≤n) (hU:n<U.length) (hl:U.length≤1000001) (hv1:32768≤(v.getD (n - 1) 0).toNat) :
  ∀(k:Nat) (w qs:List UInt16),k+n≤U.length→w.length=U.length→qs.length=U.length - n→w.take k=U.take k→Nt.val (w.drop k)=Nt.val (U.drop k) % Nt.val v→Nt.val (qs.drop k)=Nt.val (U.drop k) / Nt.val v →
   bG.l1 v n ((k:Int) - 1) w qs=some [.sl .ws (Nt.fix (U.length - n) (Nt.val U / Nt.val v)),.sl .ws (Nt.fix n (Nt.val U % Nt.val v))]:=by
 -- the Dv two Cg digits
 have e1:=dy v (n - 1) (by omega)
 have e2:=dy v (n - 2) (by omega)
 rw [show n - 1+1=n by omega,List.take_of_length_le (by omega)] at e1
 rw [show n - 2+1=n - 1 by omega] at e2
 have qi:=Nt.gB (v.take (n - 2))
 rw [aK,Nat.min_eq_left (by omega)] at qi
 have Md:65536 ^ (n - 1)=65536 ^ (n - 2) * 65536:=by rw [←Nat.pow_succ];congr 1;omega
 have Uq:0<65536 ^ (n - 2):=Nat.pow_pos (by omega)
 rw [Md] at e1
 have Uj:Nt.val v=Nt.val (v.take (n - 2))+65536 ^ (n - 2) * ((v.getD (n - 1) 0).toNat * 65536+(v.getD (n - 2) 0).toNat):=by
  rw [e1,e2,Nat.mul_add,Nat.mul_assoc,Nat.mul_comm (v.getD (n - 1) 0).toNat 65536];omega
 have Mb:((v.getD (n - 1) 0).toNat * 65536+(v.getD (n - 2) 0).toNat) * 65536 ^ (n - 2)≤Nt.val v:=by rw [Uj,Nat.mul_comm];omega
 have QJ:Nt.val v<((v.getD (n - 1) 0).toNat * 65536+(v.getD (n - 2) 0).toNat+1) * 65536 ^ (n - 2):=by
  rw [Uj,Nat.add_mul _ 1,Nat.one_mul,Nat.mul_comm ((v.getD (n - 1) 0).toNat * 65536+(v.getD (n - 2) 0).toNat)];omega
 have Aj:0<Nt.val v:=Nat.lt_of_lt_of_le (Nat.mul_pos (by omega) Uq) Mb
 have WV:Nt.val v<65536 ^ n:=by rw [hn];exact Nt.gB v
 intro k
 induction k with
 | zero =>
  intro w qs hk ID Qz ht hw hq
  refine bG.dE _ _ _ _ _ ?_
  intro v1 h1 v2 h2 v3 h3 v4 h4 v5 h5 v6 h6 v7 h7 v8 h8 v9 h9 v10 kQ
  rw [aS,aS] at hw hq
  rw [af (by omega),ax,bD (lJ (by omega) (by omega) (by omega)),aw]
  have eq:qs=Nt.fix (U.length - n) (Nt.val U / Nt.val v):=Nt.val_inj (by rw [Nt.kf,Qz]) (by
   rw [Nt.po,hq,Nat.mod_eq_of_lt]
   rw [←hq,←Qz];exact Nt.gB qs)
  have er:w.take n=Nt.fix n (Nt.val U % Nt.val v):=Nt.val_inj (by rw [Nt.kf,aK];omega) (by
   have hm:=Nat.mod_lt (Nt.val U) Aj
   have hs:=rr w n
   have R7:(w.take n).length=n:=by rw [aK];omega
   rw [R7] at hs
   have h0:Nt.val (w.drop n)=0:=by
    rcases Nat.eq_zero_or_pos (Nt.val (w.drop n)) with e | e
    ·exact e
    ·have:=Nat.mul_le_mul_left (65536 ^ n) e
     rw [Nat.mul_one] at this
     omega
   rw [h0,Nat.mul_zero,Nat.add_zero] at hs
   rw [Nt.po,Nat.mod_eq_of_lt (by omega),←hs,hw])
  rw [eq,er]
 | succ j ih =>
  intro w qs hk ID Qz ht hw hq
  have ek:((j+1:Nat):Int) - 1=(j:Int):=by omega
  rw [ek]
  -- what is QP now
  have hm:=Nat.mod_lt (Nt.val (U.drop (j+1))) Aj
  have hs:=rr (w.drop (j+1)) n
  have R7:((w.drop (j+1)).take n).length=n:=by rw [aK,bm];omega
  rw [R7] at hs
  have h0:Nt.val ((w.drop (j+1)).drop n)=0:=by
   rcases Nat.eq_zero_or_pos (Nt.val ((w.drop (j+1)).drop n)) with e | e
   ·exact e
   ·have:=Nat.mul_le_mul_left (65536 ^ n) e
    rw [Nat.mul_one] at this
    omega
  have hs:Nt.val (w.drop (j+1))=Nt.val ((w.drop (j+1)).take n):=by rw [h0,Nat.mul_zero] at hs;exact hs
  have hd:w.drop j=w.getD j 0 :: w.drop (j+1):=drop_cons (by omega) 0
  obtain ⟨T,hT⟩:∃T,T=Nt.val ((w.drop j).take (n+1)):=⟨_,rfl⟩
  have S2:T=(w.getD j 0).toNat+65536 * Nt.val (w.drop (j+1)):=by
   rw [hT,hd,List.take_succ_cons,Nt.val,←hs]
  have wj:=(w.getD j 0).toNat_lt
  have WY:T / Nt.val v≤65535:=by
   have:T<65536 * Nt.val v:=by rw [S2,hw];omega
   have:=(Nat.div_lt_iff_lt_mul Aj).2 this
   omega
  -- its Cg digits
  have t1:=kz w j n (by omega)
  have t2:=kz w j (n - 1) (by omega)
  have t3:=kz w j (n - 2) (by omega)
  rw [show n - 1+1=n by omega,show j+(n - 1)=j+n - 1 by omega] at t2
  rw [show n - 2+1=n - 1 by omega,show j+(n - 2)=j+n - 2 by omega] at t3
  have YR:=Al w j (n - 2)
  have W0:65536 ^ n=65536 ^ (n - 2) * (65536 * 65536):=by rw [show (65536 * 65536:Nat)=65536 ^ 2 by decide,←Nat.pow_add];congr 1;omega
  obtain ⟨top,rZ⟩:∃top,top=(w.getD (j+n) 0).toNat * 65536+(w.getD (j+n - 1) 0).toNat:=⟨_,rfl⟩
  have PT:T=Nt.val ((w.drop j).take (n - 2))+65536 ^ (n - 2) * (top * 65536+(w.getD (j+n - 2) 0).toNat):=by
   rw [hT,t1,t2,t3,W0,Md,rZ]
   generalize (w.getD (j+n) 0).toNat=a
   generalize (w.getD (j+n - 1) 0).toNat=b
   generalize (w.getD (j+n - 2) 0).toNat=c
   generalize 65536 ^ (n - 2)=P
   rw [Nat.mul_add,Nat.mul_assoc,Nat.mul_assoc,Nat.add_mul,Nat.mul_add,Nat.mul_comm b 65536,show a * 65536 * 65536=65536 * 65536 * a by rw [Nat.mul_assoc,Nat.mul_comm a]]
   omega
  have IL:(top * 65536+(w.getD (j+n - 2) 0).toNat) * 65536 ^ (n - 2)≤T:=by rw [PT,Nat.mul_comm];omega
  have QK:T<(top * 65536+(w.getD (j+n - 2) 0).toNat+1) * 65536 ^ (n - 2):=by
   rw [PT,Nat.add_mul _ 1,Nat.one_mul,Nat.mul_comm (top * 65536+(w.getD (j+n - 2) 0).toNat)];omega
  have a1:=(w.getD (j+n) 0).toNat_lt
  have a2:=(w.getD (j+n - 1) 0).toNat_lt
  have a3:=(v.getD (n - 1) 0).toNat_lt
  -- the Cg digit is at VG the Dv
  have Wa:(w.getD (j+n) 0).toNat≤(v.getD (n - 1) 0).toNat:=by
   have hA:T<65536 * Nt.val v:=by rw [S2,hw];omega
   rcases Nat.lt_or_ge (v.getD (n - 1) 0).toNat (w.getD (j+n) 0).toNat with h | h
   ·have g1:65536 ^ n * ((v.getD (n - 1) 0).toNat+1)≤65536 ^ n * (w.getD (j+n) 0).toNat:=Nat.mul_le_mul_left _ h
    have g2:65536 * Nt.val v<65536 ^ n * ((v.getD (n - 1) 0).toNat+1):=by
     have g3:Nt.val v<65536 ^ (n - 1) * ((v.getD (n - 1) 0).toNat+1):=by
      have:=Nt.gB (v.take (n - 1))
      rw [aK,Nat.min_eq_left (by omega),Md] at this
      rw [e1,Md,Nat.mul_add,Nat.mul_one];omega
     have g4:=Nat.mul_lt_mul_of_pos_left g3 (show 0<65536 by omega)
     have g5:65536 * (65536 ^ (n - 1) * ((v.getD (n - 1) 0).toNat+1))=65536 ^ n * ((v.getD (n - 1) 0).toNat+1):=by
      rw [←Nat.mul_assoc,Nat.mul_comm 65536,←Nat.pow_succ];congr 2;omega
     omega
    omega
   ·exact h
  obtain ⟨d,SR⟩:∃d,d=(v.getD (n - 1) 0).toNat:=⟨_,rfl⟩
  have SJ:top / d≤65537:=by
   have:top<65538 * d:=by rw [rZ];omega
   have:=(Nat.div_lt_iff_lt_mul (show 0<d by omega)).2 this
   omega
  have L6:T / Nt.val v≤top / d:=by
   -- T<(top+1) * B^(n-1),and the QO is at least d * B^(n-1)
   have g1:T<(top+1) * 65536 ^ (n - 1):=by
    refine Nat.lt_of_lt_of_le QK ?_
    rw [Md,Nat.mul_comm (65536 ^ (n - 2)) 65536,←Nat.mul_assoc]
    refine ar _ ?_
    have:=(w.getD (j+n - 2) 0).toNat_lt
    omega
   have g2:d * 65536 ^ (n - 1)≤Nt.val v:=by
    have h9:=e1
    rw [←SR,←Md] at h9
    rw [h9,Nat.mul_comm d];exact Nat.le_add_left _ _
   have g3:T / Nt.val v≤T / (d * 65536 ^ (n - 1)):=Nat.div_le_div_left g2 (Nat.mul_pos (by omega) (Nat.pow_pos (by omega)))
   have g4:T / (d * 65536 ^ (n - 1))=T / 65536 ^ (n - 1) / d:=by rw [Nat.mul_comm,Nat.div_div_eq_div_mul]
   have g5:T / 65536 ^ (n - 1)≤top:=by
    have:=(Nat.div_lt_iff_lt_mul (show 0<65536 ^ (n - 1) from Nat.pow_pos (by omega))).2 g1
    omega
   rw [g4] at g3
   exact Nat.le_trans g3 (Nat.div_le_div_right g5)
  have Sb:top<65536 * 65536:=by rw [rZ];omega
  -- the operands
  have key:∀(g r:UInt64),g.toNat=top / d→r.toNat=top % d→bG.l2 v n j g r w qs=some [.sl .ws (Nt.fix (U.length - n) (Nt.val U / Nt.val v)),.sl .ws (Nt.fix n (Nt.val U % Nt.val v))]:=by
   intro g r hg hr
   have Dh:=Nat.div_add_mod top d
   have YX:=Nat.mod_lt top (show 0<d by omega)
   obtain ⟨g',i1,i2,i3,i4⟩:=bG.lF v w qs n j hn (by omega) (by omega) (by omega) (V:=Nt.val v) (T:=T) (P:=65536 ^ (n - 2)) (top:=top) Uq hv1 rZ Mb QJ IL QK WY (top / d) g r (by omega) (by omega) (by rw [hg,hr,←SR,Nat.mul_comm];omega) (by omega) (by rw [hg];exact L6)
   rw [i4,bG.OU]
   obtain ⟨q,w',r1,r2,r3,r4,r5,r6⟩:=bG.y0 v w qs n j g' hn (by omega) (by omega) i3 hT Aj i1 i2 n 0 0 0 w (by omega) (by omega) (by decide) rfl rfl rfl (by simp [Nt.val])
   refine r6.trans ?_
   refine bG.OS _ _ _ _ _ _ ?_
   intro u1 k1 u2 k2 u3 k3
   rw [aw] at k2
   rw [bD (cN (by omega) (by omega)),bD (ae (by omega)),k3,i64_in _ (by omega)]
   have Um:=qo U j (by omega)
   have Xf:w.getD j 0=U.getD j 0:=xv ht (by omega)
   rw [←Xf] at Um
   have Ul:Nt.val (U.drop j)=T+Nt.val v * (65536 * (Nt.val (U.drop (j+1)) / Nt.val v)):=by
    have:=Nat.div_add_mod (Nt.val (U.drop (j+1))) (Nt.val v)
    rw [Um,S2,hw]
    conv=>lhs;rw [←this]
    rw [Nat.mul_add,Nat.mul_left_comm];omega
   refine ih w' u2 (by omega) (by omega) (by rw [k2,List.length_set];exact Qz) (by rw [r3];exact CA ht (by omega)) ?_ ?_
   ·have lj:=rr (w'.drop j) (n+1)
    have R6:((w'.drop j).take (n+1)).length=n+1:=by rw [aK,bm];omega
    have e3:(w'.drop j).drop (n+1)=(w.drop (j+1)).drop n:=by
     rw [List.drop_drop,List.drop_drop,show j+(n+1)=j+n+1 by omega,r4];congr 1;omega
    rw [R6,e3,h0,Nat.mul_zero,Nat.add_zero,r5] at lj
    rw [lj,Ul,Nat.add_mul_mod_self_left]
   ·have e4:(u2.getD j 0).toNat=T / Nt.val v:=by
     rw [k2,getD_set_ne _ _ _ _ (by omega),k1,nf,Nt.dB,r1,Nat.mod_eq_of_lt (by omega)]
    rw [qo u2 j (by rw [k2,List.length_set];omega),e4,k2,List.drop_set_of_lt (by omega),hq,Ul,Nat.add_mul_div_left _ _ Aj]
  refine bG.dE _ _ _ _ _ ?_
  intro v1 h1 v2 Ck v3 h3 v4 h4 v5 h5 v6 h6 v7 h7 v8 h8 v9 h9 v10 kQ
  have Xk:IntKind.i64.wrap ((j:Int)+(n:Int))=((j+n:Nat):Int):=by rw [i64_in _ (by omega)];omega
  rw [Xk] at h1 h5 ⊢
  rw [aw] at h1
  have e5:v5=((j+n - 1:Nat):Int):=by rw [h5,i64_in _ (by omega)];omega
  have e8:v8=((n - 1:Nat):Int):=by rw [h8,i64_in _ (by omega)];omega
  rw [h1] at Ck
  rw [e5,aw] at h6
  rw [e8,aw] at h9
  have f10:v10.toNat=d:=by rw [kQ,fU,h9,SR]
  have f3:v3.toNat=(w.getD (j+n) 0).toNat:=by rw [h3,fU,Ck]
  have f7:v7.toNat=(w.getD (j+n - 1) 0).toNat:=by rw [h7,fU,h6]
  have f4:v4.toNat=(w.getD (j+n) 0).toNat * 65536:=by rw [h4,←f3];exact yt (by omega)
  have f47:(v4 ||| v7).toNat=top:=by rw [Nv f4 (by omega),f7,rZ]
  have VF:v10≠0:=fun e=>by
   have:=congrArg UInt64.toNat e
   rw [f10] at this
   have e0:(0:UInt64).toNat=0:=rfl
   omega
  rw [ae (by omega),aF,bD (cN (by omega) (by omega)),bD (ae (by omega)),bD (cN (by omega) (by omega)),bD (ae (by omega)),bD (cN (by omega) (by omega)),af VF,bq,da,bD (cN (by omega) (by omega)),da]
  exact key _ _ (by rw [UInt64.toNat_div,f47,f10]) (by rw [UInt64.toNat_mod,f47,f10])
theorem bG.goal (u v:List UInt16) (hp:decide (u.length≤1000000∧2≤v.length∧v.length≤u.length∧32768≤(v.getLast?.getD 0).toNat)=true):bG.F u v=some [.sl .ws (Nt.fix (u.length+1 - v.length) (Nt.val u / Nt.val v)),.sl .ws (Nt.fix v.length (Nt.val u % Nt.val v))]:=by
 obtain ⟨l1,l2,l3,l4⟩:=aN hp
 rw [xu (by intro e;subst e;simp at l2)] at l4
 refine bG.dZ _ _ ?_
 intro v1 h1 v2 h2 v3 h3 v4 h4
 subst h1
 have hl:(u++[(0:UInt16)]).length=u.length+1:=by simp
 have e2:v2=((u.length+1 - v.length:Nat):Int):=by rw [h2,hl,i64_in _ (by omega)];omega
 have e4:v4=((u.length+1 - v.length:Nat):Int) - 1:=by rw [h4,e2,i64_in _ (by omega)]
 have hU:Nt.val (u++[0])=Nt.val u:=Nt.rz u
 have Aj:0<Nt.val v:=by
  have:=dy v (v.length - 1) (by omega)
  rw [show v.length - 1+1=v.length by omega,List.take_length] at this
  have h5:=Nat.mul_pos (show 0<65536 ^ (v.length - 1) from Nat.pow_pos (by omega)) (show 0<(v.getD (v.length - 1) 0).toNat by omega)
  omega
 have Pr:Nt.val ((u++[(0:UInt16)]).drop (u.length+1 - v.length))<Nt.val v:=by
  rw [List.drop_append_of_le_length (by omega),Nt.rz]
  have h6:=Nt.gB (u.drop (u.length+1 - v.length))
  rw [bm,show u.length - (u.length+1 - v.length)=v.length - 1 by omega] at h6
  have:=dy v (v.length - 1) (by omega)
  rw [show v.length - 1+1=v.length by omega,List.take_length] at this
  have h5:=Nat.mul_le_mul_left (65536 ^ (v.length - 1)) (show 1≤(v.getD (v.length - 1) 0).toNat by omega)
  omega
 have:=bG.fo v (u++[0]) v.length rfl l2 (by omega) (by omega) l4 (u.length+1 - v.length) (u++[0]) v3 (by omega) rfl (by rw [h3,e2];simp) rfl (Nat.mod_eq_of_lt Pr).symm (by
  rw [Nat.div_eq_of_lt Pr,h3,e2];simp [Nt.val])
 rw [hU,hl] at this
 rw [bD (gZ (by rw [az];omega) (by rw [az];omega)),bD (jJ.2 ⟨by omega,by omega,by omega,by rw [iT];omega⟩),e4]
 exact this
end Go.Eng
namespace Go.Eng
open Go.IntWalk Ieee
namespace Fl
theorem GD {s:Bool} {X N d:Nat} (h:X=N * 2 ^ d):Toward.zero.cut s X d=N:=by
 have e:Toward.zero.cut s X d=X / (1 <<< min d (X.log2+2)):=by
  unfold Toward.cut
  simp
 rw [e,Nat.one_shiftLeft]
 rcases Nat.eq_zero_or_pos N with rfl | hN
 ·rw [h];simp
 ·have hl:X.log2=N.log2+d:=by rw [h];exact nw N d (by omega)
  rw [Nat.min_eq_left (by omega),h,Nat.mul_div_cancel _ (Nat.two_pow_pos d)]
theorem WD.integral {d:Datum} {n:Int} (h:WD d n):∃s,d.integral .zero = .number s n.natAbs 0∧(n<0→s=true)∧(0<n→s=false):=by
 obtain ⟨s,m,p,rfl,hv,h1,h2⟩:=h
 refine ⟨s,?_,h1,h2⟩
 show Datum.number s (Toward.zero.cut s (m <<< p.toNat) (-p).toNat) 0=_
 rw [Nat.shiftLeft_eq,GD hv]
theorem WD.whole {s:Bool} {n:Int} (h1:n<0→s=true) (h2:0<n→s=false):WD (.number s n.natAbs 0) n:=⟨s,_,_,rfl,by unfold pj;simp,h1,h2⟩
theorem W.num {b:Nat} {n:Int} (h:W b n):Fl.num b=true:=by
 obtain ⟨s,m,p,hr,_⟩:=h
 show (!(double.read b).isNaN)=true
 rw [hr];rfl
theorem W.iH {b:Nat} {n:Int} (h:W b n) (hn:n.natAbs≤9007199254740992):W (Fl.iH b) n:=by
 obtain ⟨s,e,h1,h2⟩:=WD.integral h
 have e':(FloatKind.f64.decode b).integral .zero = .number s n.natAbs 0:=e
 unfold Fl.iH
 rw [e']
 exact (WD.whole h1 h2).write hn
theorem W.toInt {b:Nat} {n:Int} (h:W b n) (hn:n.natAbs≤9007199254740992):Fl.lR b=true∧Fl.toInt b=n:=by
 obtain ⟨s,e,h1,h2⟩:=WD.integral h
 have e':(FloatKind.f64.decode b).integral .zero = .number s n.natAbs 0:=e
 have e2:floatToIntVal .f64 b .i64=some n:=by
  unfold floatToIntVal Datum.toInt
  rw [e']
  have e3:signed s n.natAbs 0=n:=by
   have:=lv (s:=s) (m:=n.natAbs) (i:=0) (base:=0) (x:=n) (by unfold pj;simp) h1 h2 (by omega)
   simpa using this
  simp only [e3]
  have e4:IntKind.i64.min=-9223372036854775808:=by decide
  have e5:IntKind.i64.max=9223372036854775807:=by decide
  rw [e4,e5,aH (by omega)]
 unfold Fl.lR Fl.toInt
 rw [e2]
 exact ⟨rfl,rfl⟩
theorem W.ofInt {n:Int} (hn:n.natAbs≤9007199254740992):W (Fl.ofInt n) n:=yJ n hn
theorem W.add {a b:Nat} {x y:Int} (ha:W a x) (hb:W b y) (h:(x+y).natAbs≤9007199254740992):Fl.kR a b=true∧W (Fl.add a b) (x+y):=by
 obtain ⟨r,e,hr⟩:=DD ha hb h
 unfold Fl.kR Fl.add
 rw [e];exact ⟨rfl,hr⟩
theorem W.sub {a b:Nat} {x y:Int} (ha:W a x) (hb:W b y) (h:(x - y).natAbs≤9007199254740992):Fl.sG a b=true∧W (Fl.sub a b) (x - y):=by
 obtain ⟨r,e,hr⟩:=CC ha hb h
 unfold Fl.sG Fl.sub
 rw [e];exact ⟨rfl,hr⟩
theorem W.mul {a b:Nat} {x y:Int} (ha:W a x) (hb:W b y) (h:(x * y).natAbs≤9007199254740992):Fl.oq a b=true∧W (Fl.mul a b) (x * y):=by
 obtain ⟨r,e,hr⟩:=CW ha hb h
 unfold Fl.oq Fl.mul
 rw [e];exact ⟨rfl,hr⟩
theorem W.eq {a b:Nat} {x y:Int} (ha:W a x) (hb:W b y):Fl.eq a b=decide (x=y):=by
 unfold Fl.eq
 rw [ju ha hb]
 rcases Int.lt_trichotomy x y with c | c | c
 ·rw [Int.compare_eq_lt.2 c,af (by omega)];rfl
 ·subst c;simp
 ·rw [Int.compare_eq_gt.2 c,af (by omega)];rfl
theorem W.lt {a b:Nat} {x y:Int} (ha:W a x) (hb:W b y):Fl.lt a b=decide (x<y):=by
 unfold Fl.lt
 rw [ju ha hb]
 rcases Int.lt_trichotomy x y with c | c | c
 ·rw [Int.compare_eq_lt.2 c,ae c];rfl
 ·subst c;simp
 ·rw [Int.compare_eq_gt.2 c,af (by omega)];rfl
theorem W.gt {a b:Nat} {x y:Int} (ha:W a x) (hb:W b y):Fl.gt a b=decide (y<x):=by
 unfold Fl.gt
 rw [ju ha hb]
 rcases Int.lt_trichotomy x y with c | c | c
 ·rw [Int.compare_eq_lt.2 c,af (by omega)];rfl
 ·subst c;simp
 ·rw [Int.compare_eq_gt.2 c,ae c];rfl
theorem Tx:W 4719772409484279808 33554432:=by
 have e:Fl.ofInt 33554432=4719772409484279808:=by decide +kernel
 rw [←e];exact W.ofInt (by decide)
theorem Qg:W 4841369599423283200 4503599627370496:=by
 have e:Fl.ofInt 4503599627370496=4841369599423283200:=by decide +kernel
 rw [←e];exact W.ofInt (by decide)
theorem Qh:W 4832362400168542208 1125899906842624:=by
 have e:Fl.ofInt 1125899906842624=4832362400168542208:=by decide +kernel
 rw [←e];exact W.ofInt (by decide)
theorem Km:W 14055734437023318016 (-1125899906842624):=by
 have e:Fl.ofInt (-1125899906842624)=14055734437023318016:=by decide +kernel
 rw [←e];exact W.ofInt (by decide)
theorem Kp:W 0 0:=by
 have e:Fl.ofInt 0=0:=by decide +kernel
 rw [←e];exact W.ofInt (by decide)
theorem UJ:W 4607182418800017408 1:=by
 have e:Fl.ofInt 1=4607182418800017408:=by decide +kernel
 rw [←e];exact W.ofInt (by decide)
theorem Qf:W 13830554455654793216 (-1):=by
 have e:Fl.ofInt (-1)=13830554455654793216:=by decide +kernel
 rw [←e];exact W.ofInt (by decide)
end Fl
namespace Gz
theorem kv {z:Cx} {M:Nat}:sT z M=true ↔ In z M:=by classical exact (by unfold sT;exact decide_eq_true_iff)
theorem tH {l:Qd} {M:Nat}:vc l M=true ↔ Kt l M:=by classical exact (by unfold vc;exact decide_eq_true_iff)
theorem Cb {l:Qd}:JP l=true ↔ ∀k,k<4→U2 (part l (-1) k 4):=by unfold JP;simp only [ay]
theorem A2 {z:Cx} {b M:Nat} (h:In z M) (hb:Fl.W b (M:Int)) (hM:M≤9007199254740992):LJ z b=true:=by
 classical
 unfold LJ
 obtain ⟨x,y,h1,h2,h3⟩:=h
 exact ae ⟨x,y,M,h1,hb,by omega,by omega,by omega⟩
theorem In.le {z:Cx} {M N:Nat} (h:In z M) (hn:M≤N):In z N:=by
 obtain ⟨x,y,h1,h2,h3⟩:=h
 exact ⟨x,y,h1,by omega,by omega⟩
theorem AP {z w:Cx} {x y u v:Int} (hz:Is z x y) (hw:Is w u v) (h1:(x * u).natAbs≤2251799813685248) (h2:(y * v).natAbs≤2251799813685248) (h3:(x * v).natAbs≤2251799813685248) (h4:(y * u).natAbs≤2251799813685248) :
  Fl.oZ z.1 z.2 w.1 w.2=true∧Is (mul z w) (x * u - y * v) (x * v+y * u):=by
 obtain ⟨a1,b1⟩:=Fl.W.mul hz.1 hw.1 (by omega)
 obtain ⟨a2,b2⟩:=Fl.W.mul hz.2 hw.2 (by omega)
 obtain ⟨a3,b3⟩:=Fl.W.sub b1 b2 (by omega)
 obtain ⟨a4,b4⟩:=Fl.W.mul hz.1 hw.2 (by omega)
 obtain ⟨a5,b5⟩:=Fl.W.mul hz.2 hw.1 (by omega)
 obtain ⟨a6,b6⟩:=Fl.W.add b4 b5 (by omega)
 refine ⟨?_,b3,b6⟩
 unfold Fl.oZ
 rw [a1,a2,a3,a4,a5,a6];rfl
theorem Bv {z w:Cx} {x y u v:Int} (hz:Is z x y) (hw:Is w u v) (h1:(x+u).natAbs≤9007199254740992) (h2:(y+v).natAbs≤9007199254740992):(Fl.kR z.1 w.1&&Fl.kR z.2 w.2)=true∧Is (add z w) (x+u) (y+v):=by
 obtain ⟨a1,b1⟩:=Fl.W.add hz.1 hw.1 h1
 obtain ⟨a2,b2⟩:=Fl.W.add hz.2 hw.2 h2
 rw [a1,a2]
 exact ⟨rfl,b1,b2⟩
def rA (k:Int):Int:=if k % 4=0 then 1 else if k % 4=2 then -1 else 0
def rC (k:Int):Int:=if k % 4=1 then 1 else if k % 4=3 then -1 else 0
theorem mF (k:Int):rA k=0∨rA k=1∨rA k=-1:=by
 unfold rA
 split
 ·simp
 ·split <;> simp
theorem mH (k:Int):rC k=0∨rC k=1∨rC k=-1:=by
 unfold rC
 split
 ·simp
 ·split <;> simp
theorem HB (k:Int):Is (unit k) (rA k) (rC k):=by
 have h:k % 4=0∨k % 4=1∨k % 4=2∨k % 4=3:=by omega
 unfold unit rA rC
 rcases h with h | h | h | h <;> rw [h]
 ·exact ⟨Fl.UJ,Fl.Kp⟩
 ·exact ⟨Fl.Kp,Fl.UJ⟩
 ·exact ⟨Fl.Qf,Fl.Kp⟩
 ·exact ⟨Fl.Kp,Fl.Qf⟩
theorem wD {z:Cx} {x y:Int} (k:Int) (hz:Is z x y) (hx:x.natAbs≤1125899906842624) (hy:y.natAbs≤1125899906842624) :
  Fl.oZ z.1 z.2 (unit k).1 (unit k).2=true∧Is (ta z k) (x * rA k - y * rC k) (x * rC k+y * rA k):=by
 have hu:=HB k
 have h1:rA k=0∨rA k=1∨rA k=-1:=mF k
 have h2:rC k=0∨rC k=1∨rC k=-1:=mH k
 refine AP hz hu ?_ ?_ ?_ ?_
 ·rcases h1 with e | e | e <;> rw [e] <;> omega
 ·rcases h2 with e | e | e <;> rw [e] <;> omega
 ·rcases h2 with e | e | e <;> rw [e] <;> omega
 ·rcases h1 with e | e | e <;> rw [e] <;> omega
theorem BB {z:Cx} {k:Int} (h:In z 1125899906842624):In (ta z k) 2251799813685248:=by
 obtain ⟨x,y,hz,hx,hy⟩:=h
 refine ⟨_,_,(wD k hz hx hy).2,?_,?_⟩
 all_goals
  have h1:rA k=0∨rA k=1∨rA k=-1:=mF k
  have h2:rC k=0∨rC k=1∨rC k=-1:=mH k
  rcases h1 with e | e | e <;> rcases h2 with f | f | f <;> rw [e,f] <;> omega
end Gz
theorem cM.goal (x:Nat) (hp:(Fl.num x)=true):cM.F x=some [.c (.float .f64 (Fl.iH x))]:=by
 rw [cM.jq,aF,hp];rfl
theorem dq.goal (z:Cx) (hp:(Gz.sT z 33554432)=true):dq.F z=some [.b true]:=by
 rw [dq.jq,Gz.A2 (Gz.kv.1 hp) Fl.Tx (by omega)];rfl
theorem fP.goal (x y:Int) (hp:decide (-33554432≤x∧x≤33554432∧-33554432≤y∧y≤33554432)=true):fP.F x y=some [.c (.complex .f64 ((Fl.ofInt x,Fl.ofInt y):Cx).1 ((Fl.ofInt x,Fl.ofInt y):Cx).2)]:=by
 obtain ⟨h1,h2,h3,h4⟩:=aN hp
 refine fP.dZ _ _ ?_
 intro v1 e1 v2 e2 v3 e3 v4 e4
 have d1:v1=false:=by rw [e1,af (by omega),ax];exact af (by omega)
 have d2:v2=false:=by rw [e2,d1,ax];exact af (by omega)
 have d3:v3=false:=by rw [e3,d2,ax];exact af (by omega)
 simp only [bz,bB,Bool.not_not,da]
 rw [d3,ax,e4]
theorem db.goal (z:Cx) (hp:(Gz.sT z 4503599627370496)=true):db.F z=some [.i .i64 (Fl.toInt z.1),.i .i64 (Fl.toInt z.2),.b true]:=by
 have h:=Gz.kv.1 hp
 have hm:=Gz.A2 h Fl.Qg (by omega)
 obtain ⟨x,y,hz,hx,hy⟩:=h
 rw [db.jq,hm,(hz.1.toInt (by omega)).1,(hz.2.toInt (by omega)).1];rfl
theorem Hb (k:Int) (h1 : -100≤k) (h2:k≤100):dN .and .i64 k 3=k % 4:=by
 have:∀n:Nat,n<201→dN .and .i64 ((n:Int) - 100) 3=((n:Int) - 100) % 4:=by decide +kernel
 have:=this (k+100).toNat (by omega)
 rwa [show (((k+100).toNat:Nat):Int) - 100=k by omega] at this
theorem dO.goal (z:Cx) (k:Int) (hp:(Gz.sT z 1125899906842624&&decide (-100≤k∧k≤100))=true):dO.F z k=some [.c (.complex .f64 (Gz.ta z k).1 (Gz.ta z k).2)]:=by
 simp only [aa,ay] at hp
 obtain ⟨h,k1,k2⟩:=hp
 have h:=Gz.kv.1 h
 have hm:=Gz.A2 (h.le (show 1125899906842624≤4503599627370496 by omega)) Fl.Qg (by omega)
 obtain ⟨x,y,hz,hx,hy⟩:=h
 obtain ⟨c1,_⟩:=Gz.wD k hz hx hy
 refine dO.dZ _ _ ?_
 intro v1 h1 v2 h2 v3 h3 v4 h4 v5 h5 v6 h6 v7 h7
 rw [Hb k k1 k2] at h5
 have e6:v6=Gz.unit k:=by rw [h6,h1,h2,h3,h4,h5];rfl
 rw [hm,da,a8,ax,bD (cN (by omega) (by omega)),bD (ae (by omega)),e6,c1,da,h7,e6]
 rfl
theorem dr.goal (z w:Cx) (hp:(Gz.sT z 33554432&&Gz.sT w 33554432)=true):dr.F z w=some [.c (.complex .f64 (Gz.mul z w).1 (Gz.mul z w).2)]:=by
 simp only [aa] at hp
 obtain ⟨x,y,hz,hx,hy⟩:=Gz.kv.1 hp.1
 obtain ⟨u,v,hw,hu,hv⟩:=Gz.kv.1 hp.2
 have hm:∀a b:Int,a.natAbs≤33554432→b.natAbs≤33554432→(a * b).natAbs≤2251799813685248:=fun a b h1 h2=>by
  rw [Int.natAbs_mul]
  exact Nat.le_trans (Nat.mul_le_mul h1 h2) (by omega)
 obtain ⟨c1,_⟩:=Gz.AP hz hw (hm _ _ hx hu) (hm _ _ hy hv) (hm _ _ hx hv) (hm _ _ hy hu)
 refine dr.dZ _ _ ?_
 intro v1 h1 v2 h2
 have e1:v1=false:=h1
 rw [hp.1,hp.2,c1,e1,h2]
 rfl
theorem dJ.goal (x:Nat) (hp:(Gz.Iz x)=true):dJ.F x=some [.b true]:=by
 classical
 unfold Gz.Iz at hp
 obtain ⟨n,hn,hb⟩:=aN hp
 refine dJ.dZ _ ?_
 intro v1 h1 v2 h2 v3 h3
 have e1:v1=true:=by
  rw [h1,hn.gt Fl.Km,hn.eq Fl.Km]
  rcases Int.lt_or_eq_of_le (show (-1125899906842624:Int)≤n by omega) with c | c
  ·rw [ae c];rfl
  ·rw [ae c.symm,Bool.or_true]
 have e2:v2=true:=by
  rw [h2,hn.lt Fl.Qh,hn.eq Fl.Qh]
  rcases Int.lt_or_eq_of_le (show n≤(1125899906842624:Int) by omega) with c | c
  ·rw [ae c];rfl
  ·rw [ae c,Bool.or_true]
 have e3:v3=true:=by rw [h3,e1,e2,aF,aF,hn.eq (hn.iH (by omega)),ae rfl]
 rw [e1,e2,e3,hn.num]
 rfl
theorem Gz.In.parts {z:Cx} (h:Gz.In z 1125899906842624):Gz.Iz z.1=true∧Gz.Iz z.2=true:=by
 obtain ⟨x,y,h1,h2,h3⟩:=h
 classical
 unfold Gz.Iz
 exact ⟨ae ⟨x,h1.1,h2⟩,ae ⟨y,h1.2,h3⟩⟩
theorem Gz.Kt.get {l:Qd} {M:Nat} (h:Gz.Kt l M) (i:Nat) (hi:i<4):Gz.In (l.get i) M:=by
 obtain ⟨a,b,c,d⟩:=h
 have:i=0∨i=1∨i=2∨i=3:=by omega
 rcases this with rfl | rfl | rfl | rfl
 ·exact a
 ·exact b
 ·exact c
 ·exact d
theorem df.fo (l:Qd) (h:Gz.Kt l 1125899906842624):∀(m i:Nat),i+m=4→df.l1 l i=some [.b true]:=by
 intro m
 induction m with
 | zero =>
  intro i hi
  refine df.dE _ _ ?_
  intro v1 h1 v2 h2
  rw [af (by omega),ax]
 | succ m ih =>
  intro i hi
  refine df.dE _ _ ?_
  intro v1 h1 v2 h2
  have e1:v1=false:=h1
  have e2:v2=((i+1:Nat):Int):=by rw [h2,i64_in _ (by omega)];omega
  obtain ⟨p1,p2⟩:=(h.get i (by omega)).parts
  rw [ae (by omega),aF,bD (cN (by omega) (by omega)),aw,p1,p2,e1,e2]
  exact ih (i+1) (by omega)
theorem df.goal (l:Qd) (hp:(Gz.vc l 1125899906842624)=true):df.F l=some [.b true]:=by
 rw [df.jq];exact df.fo l (Gz.tH.1 hp) 4 0 (by omega)
theorem dK.goal (l:Qd) (hp:(Gz.vc l 1125899906842624)=true):dK.F l=some [.ag (Qd.cells (Gz.me l 1))]:=by
 rw [dK.jq,hp];rfl
end Go.Eng
namespace Go.Eng
open Go.IntWalk
theorem Qd.IU (q:Qd) (k:Nat) (x:Cx) (hk:k<4):(q.set k x).get k=x:=by
 have:k=0∨k=1∨k=2∨k=3:=by omega
 rcases this with rfl | rfl | rfl | rfl <;> rfl
theorem Qd.set_set (q:Qd) (k:Nat) (x y:Cx) (hk:k<4):(q.set k x).set k y=q.set k y:=by
 have:k=0∨k=1∨k=2∨k=3:=by omega
 rcases this with rfl | rfl | rfl | rfl <;> rfl
theorem Qd.nh (q:Qd) (k:Nat) (hk:k<4):q.set k (q.get k)=q:=by
 have:k=0∨k=1∨k=2∨k=3:=by omega
 rcases this with rfl | rfl | rfl | rfl <;> rfl
theorem Gz.BS {l:Qd} (h:Gz.Kt l 1125899906842624) (w:Int) (k:Nat):∀j,j≤4→Gz.In (Gz.part l w k j) (j * 2251799813685248)
 | 0,_=>⟨0,0,⟨Fl.Kp,Fl.Kp⟩,by omega,by omega⟩
 | j+1,hj=>by
  obtain ⟨x,y,h1,h2,h3⟩:=Gz.BS h w k j (by omega)
  obtain ⟨u,v,g1,g2,g3⟩:=Gz.BB (k:=j * k * w) (h.get j (by omega))
  obtain ⟨_,e⟩:=Gz.Bv h1 g1 (by omega) (by omega)
  exact ⟨_,_,e,by omega,by omega⟩
theorem bX.lF (l:Qd) (w:Int) (h:Gz.Kt l 1125899906842624) (hw:w=1∨w=-1) (k:Nat) (hk:k<4) (Z:Qd):∀(m j:Nat) (acc:Qd),j+m=4→acc.get k=Gz.part l w k j →
  bX.l2 w k k l j l Z acc=bX.l1 w ((k+1:Nat):Int) l Z (acc.set k (Gz.part l w k 4)):=by
 intro m
 induction m with
 | zero =>
  intro j acc hj ha
  refine bX.jw _ _ _ _ _ _ _ _ ?_
  intro v1 h1 v2 h2 v3 h3 v4 h4 v5 h5
  obtain rfl:j=4:=by omega
  rw [af (by omega),ax,←ha,Qd.nh _ _ hk,h5,i64_in _ (by omega)];rfl
 | succ m ih =>
  intro j acc hj ha
  refine bX.jw _ _ _ _ _ _ _ _ ?_
  intro v1 h1 v2 h2 v3 h3 v4 h4 v5 h5
  rw [aw] at h2 h3
  have PB:((j:Int) * (k:Int))=((j * k:Nat):Int):=by rw [Int.natCast_mul]
  have Wy:j * k≤3 * 3:=Nat.mul_le_mul (by omega) (by omega)
  have e1:v1=(j:Int) * k * w:=by
   rw [h1,PB,i64_in ((j * k:Nat):Int) (by omega)]
   rcases hw with rfl | rfl <;> rw [i64_in _ (by omega)]
  have b1 : -100≤v1∧v1≤100:=by
   rw [e1,PB]
   rcases hw with rfl | rfl <;> omega
  have e2:v2=Gz.ta (l.get j) ((j:Int) * k * w):=by rw [h2,e1]
  rw [ha] at h3
  obtain ⟨x,y,p1,p2,p3⟩:=Gz.BS h w k j (by omega)
  obtain ⟨u,v,g1,g2,g3⟩:=Gz.BB (k:=(j:Int) * k * w) (h.get j (by omega))
  obtain ⟨c1,_⟩:=Gz.Bv p1 g1 (by omega) (by omega)
  have e3:v3=Gz.part l w k (j+1):=by rw [h3,e2];rfl
  have e4:v4=((j+1:Nat):Int):=by rw [h4,i64_in _ (by omega)];omega
  have x1:cq (j:Int) 4=true:=cN (by omega) (by omega)
  have x2:cq (k:Int) 4=true:=cN (by omega) (by omega)
  have x3:decide ((k:Int).toNat<4)=true:=ae (by omega)
  rw [ae (show (j:Int)<4 by omega),aF,x1,x2,x3,aw,aw,Gz.kv.2 (h.get j (by omega)),ae b1,ha,e2,c1,e3,e4]
  simp only [bw,da]
  rw [ih (j+1) (acc.set k (Gz.part l w k (j+1))) (by omega) (Qd.IU _ _ _ hk),Qd.set_set _ _ _ _ hk]
theorem bX.goal (l:Qd) (w:Int) (hp:(Gz.vc l 1125899906842624&&decide (w=1∨w=-1))=true):bX.F l w=some [.ag (Qd.cells (Gz.me l w))]:=by
 simp only [aa,ay] at hp
 obtain ⟨h,hw⟩:=hp
 have h:=Gz.tH.1 h
 have st:∀(k:Nat) (Z acc:Qd),k<4→acc.get k=(0,0)→bX.l1 w k l Z acc=bX.l1 w ((k+1:Nat):Int) l Z (acc.set k (Gz.part l w k 4)):=fun k Z acc hk ha=>by
  rw [bX.JH,ae (by omega),aF]
  exact bX.lF l w h hw k hk Z 4 0 acc (by omega) (by rw [ha];rfl)
 rw [bX.jq]
 refine (st 0 _ _ (by omega) rfl).trans ?_
 refine (st 1 _ _ (by omega) rfl).trans ?_
 refine (st 2 _ _ (by omega) rfl).trans ?_
 refine (st 3 _ _ (by omega) rfl).trans ?_
 rw [bX.JH,af (by decide),ax]
 rfl
theorem Gz.ub (l:Qd) (w:Int) (k:Nat) (hk:k<4):(Gz.me l w).get k=Gz.part l w k 4:=by
 have:k=0∨k=1∨k=2∨k=3:=by omega
 rcases this with rfl | rfl | rfl | rfl <;> rfl
theorem cQ.goal (l:Qd) (hp:(Gz.vc l 1125899906842624&&Gz.JP l)=true):cQ.F l=some [.ag (Qd.cells (Gz.back l)),.b true]:=by
 simp only [aa] at hp
 obtain ⟨h,h4⟩:=hp
 have hq:=h
 have h4:=Gz.Cb.1 h4
 rw [cQ.jq,hq,da,a8,ax,Bool.true_and,bD (ae (.inr rfl))]
 have st:∀(k:Nat) (Y acc:Qd),k<4→cQ.l1 (Gz.me l (-1)) k Y acc=cQ.l1 (Gz.me l (-1)) ((k+1:Nat):Int) Y (acc.set k (Gz.quarter (Gz.part l (-1) k 4))):=fun k Y acc hk=>by
  refine cQ.dE _ _ _ _ ?_
  intro v1 h1 v2 h2 v3 h3 v4 Uz v5 h5 v6 h6 v7 h7 v8 h8
  rw [aw,Gz.ub l _ k hk] at h1 h2
  obtain ⟨x,y,p1,p2,p3⟩:=h4 k hk
  have e1:v1=4 * x:=by rw [h1];exact (p1.1.toInt (by omega)).2
  have e2:v2=4 * y:=by rw [h2];exact (p1.2.toInt (by omega)).2
  have m1:Int.tmod v1 4=0:=by rw [e1];exact Int.mul_tmod_right _ _
  have m2:Int.tmod v2 4=0:=by rw [e2];exact Int.mul_tmod_right _ _
  have e3:v3=false:=by rw [h3,m1];rfl
  have e4:v4=false:=by rw [Uz,e3,m2];rfl
  have d1:Int.tdiv v1 4=x:=by rw [e1];exact Int.mul_tdiv_cancel_left _ (by omega)
  have d2:Int.tdiv v2 4=y:=by rw [e2];exact Int.mul_tdiv_cancel_left _ (by omega)
  have e5:v5=Int.tdiv v1 4:=by rw [h5,i64_in _ (by rw [d1];omega)]
  have e6:v6=Int.tdiv v2 4:=by rw [h6,i64_in _ (by rw [d2];omega)]
  have e8:v8=((k+1:Nat):Int):=by rw [h8,i64_in _ (by omega)];omega
  have e7:v7=Gz.quarter (Gz.part l (-1) k 4):=by rw [h7,e5,e6,h1,h2];rfl
  have x1:cq (k:Int) 4=true:=cN (by omega) (by omega)
  have x2:decide ((k:Int).toNat<4)=true:=ae (by omega)
  have b1:Gz.sT (Gz.part l (-1) k 4) 4503599627370496=true:=Gz.kv.2 ⟨_,_,p1,by omega,by omega⟩
  rw [ae (show (k:Int)<4 by omega),aF,x1,x2,aw,Gz.ub l _ k hk,b1,e3,e4,e7,e8]
  rfl
 refine (st 0 _ _ (by omega)).trans ?_
 refine (st 1 _ _ (by omega)).trans ?_
 refine (st 2 _ _ (by omega)).trans ?_
 refine (st 3 _ _ (by omega)).trans ?_
 refine cQ.dE _ _ _ _ ?_
 intro v1 h1 v2 h2 v3 h3 v4 Uz v5 h5 v6 h6 v7 h7 v8 h8
 rw [af (by decide),ax]
 rfl
theorem Gz.qX {l:List Int} (h:Gz.gY l=true) (i:Nat) (hi:i<l.length):0≤l.getD i 0∧l.getD i 0≤65535:=by
 unfold Gz.gY at h
 rw [ak,aA hi]
 simpa using aL.1 h _ (List.getElem_mem hi)
theorem bZ.fo (l:List Int) (h:Gz.gY l=true) (hl:l.length≤256):∀(m i:Nat),i+m=l.length→bZ.l1 l l l.length i=some [.b true]:=by
 intro m
 induction m with
 | zero =>
  intro i hi
  refine bZ.dE _ _ _ _ ?_
  intro v1 h1 v2 h2 v3 h3
  rw [af (by omega),ax,ae (by omega)]
 | succ m ih =>
  intro i hi
  refine bZ.dE _ _ _ _ ?_
  intro v1 h1 v2 h2 v3 h3
  rw [aw] at h1
  have hd:=Gz.qX h i (by omega)
  rw [←h1] at hd
  have e2:v2=false:=by rw [h2,af (by omega),ax];exact af (by omega)
  have e3:v3=((i+1:Nat):Int):=by rw [h3,i64_in _ (by omega)];omega
  simp only [bz,bB,Bool.not_not,da]
  rw [ae (by omega),aF,bD (cN (by omega) (by omega)),e2,ax,e3]
  exact ih (i+1) (by omega)
theorem bZ.goal (l:List Int) (hp:(decide (l.length≤256)&&Gz.gY l)=true):bZ.F l=some [.b true]:=by
 simp only [aa,ay] at hp
 rw [bZ.jq];exact bZ.fo l hp.2 hp.1 l.length 0 (by omega)
theorem Gz.AN {a:Int} (h:0≤a∧a≤65535):Gz.Is (Gz.xS a) a 0:=⟨Fl.W.ofInt (by omega),Fl.W.ofInt (n:=0) (by decide)⟩
theorem Gz.AO {a:Int} (h:0≤a∧a≤65535):Gz.In (Gz.xS a) 1125899906842624:=⟨_,_,Gz.AN h,by omega,by omega⟩
theorem Gz.tp:Gz.Is (0,0) 0 0:=⟨Fl.Kp,Fl.Kp⟩
theorem Gz.qm:Gz.In (0,0) 1125899906842624:=⟨_,_,Gz.tp,by omega,by omega⟩
theorem Gz.AK (l:List Int) (i:Nat) (h:i<l.length):Gz.gj (l.drop i)=(if i+1<l.length then Gz.me ⟨Gz.xS (l.getD i 0),Gz.xS (l.getD (i+1) 0),(0,0),(0,0)⟩ 1 else Gz.me ⟨Gz.xS (l.getD i 0),(0,0),(0,0),(0,0)⟩ 1) :: Gz.gj (l.drop (i+2)):=by
 rw [drop_cons h 0]
 by_cases c:i+1<l.length
 ·rw [drop_cons c 0,Gz.gj,aH c]
 ·rw [bc (i:=i+1) (by omega),bc (i:=i+2) (by omega),Gz.gj,aD c];rfl
theorem bP.fo (l:List Int) (h:Gz.gY l=true) (hl:l.length≤256):∀(m i:Nat) (acc:List Qd),l.length≤i+2 * m→i≤300→acc.length≤i→bP.l1 l acc i=some [.sl .qd (acc++Gz.gj (l.drop i))]:=by
 intro m
 induction m with
 | zero =>
  intro i acc hi J2 ha
  refine bP.dE _ _ _ ?_
  intro v1 h1 v2 h2 v3 h3 v4 h4 v5 h5 v6 h6
  rw [af (by omega),ax,bc (by omega),Gz.gj,aU]
 | succ m ih =>
  intro i acc hi J2 ha
  refine bP.dE _ _ _ ?_
  intro v1 h1 v2 h2 v3 h3 v4 h4 v5 h5 v6 h6
  by_cases c0:i<l.length
  ·rw [aw] at h1
   have e3:v3=((i+1:Nat):Int):=by rw [h3,i64_in _ (by omega)];omega
   rw [e3,aw] at h4
   have hd:=Gz.qX h i (by omega)
   rw [←h1] at hd
   have jn:∀q:Qd,Gz.Kt q 1125899906842624→bP.j2 l acc i q=some [.sl .qd (acc++[Gz.me q 1]++Gz.gj (l.drop (i+2)))]:=fun q hq=>by
    refine bP.vV _ _ _ _ ?_
    intro u1 g1 u2 g2
    have e2:u2=((i+2:Nat):Int):=by rw [g2,i64_in _ (by omega)];omega
    rw [Gz.tH.2 hq,da,bD (gZ (by rw [az];omega) (by rw [az];omega)),g1,e2]
    exact ih (i+2) _ (by omega) (by omega) (by rw [aq,az];omega)
   rw [ae (by omega),aF,bD (cN (by omega) (by omega)),bD (ae (by omega)),Gz.AK l i c0]
   by_cases c:i+1<l.length
   ·have hd2:=Gz.qX h (i+1) c
    rw [←h4] at hd2
    rw [e3,ae (by omega),aF,bD (cN (by omega) (by omega)),bD (ae (by omega)),bD (cN (by omega) (by omega)),bD (by decide),aH c]
    have e6:v6=⟨Gz.xS v1,Gz.xS v4,(0,0),(0,0)⟩:=by rw [h6,h5,h2];rfl
    rw [e6,jn _ ⟨Gz.AO hd,Gz.AO hd2,Gz.qm,Gz.qm⟩,←h1,←h4,aQ];rfl
   ·rw [e3,af (by omega),ax,aD c]
    have e6:(Qd.mk v2 (0,0) (0,0) (0,0))=⟨Gz.xS v1,(0,0),(0,0),(0,0)⟩:=by rw [h2];rfl
    rw [e6,jn _ ⟨Gz.AO hd,Gz.qm,Gz.qm,Gz.qm⟩,←h1,aQ];rfl
  ·rw [af (by omega),ax,bc (by omega),Gz.gj,aU]
theorem bP.goal (l:List Int) (hp:(decide (l.length≤256)&&Gz.gY l)=true):bP.F l=some [.sl .qd (Gz.gj l)]:=by
 simp only [aa,ay] at hp
 rw [bP.jq]
 have:=bP.fo l hp.2 hp.1 l.length 0 [] (by omega) (by omega) (by simp)
 rw [aS,bj] at this
 exact this
end Go.Eng
namespace Go.Eng
open Go.IntWalk
namespace Gz
def pre (X Y:Nat→Int) (w:Int) (k:Nat):Nat→Int
 | 0=>0
 | j+1=>pre X Y w k j+(X j * rA (j * k * w) - Y j * rC (j * k * w))
def H3 (X Y:Nat→Int) (w:Int) (k:Nat):Nat→Int
 | 0=>0
 | j+1=>H3 X Y w k j+(X j * rC (j * k * w)+Y j * rA (j * k * w))
theorem wV {l:Qd} {X Y:Nat→Int} {w:Int} {k:Nat} (h:∀j,j<4→Is (l.get j) (X j) (Y j)∧(X j).natAbs≤1125899906842624∧(Y j).natAbs≤1125899906842624) :
  ∀j,j≤4→Is (part l w k j) (pre X Y w k j) (H3 X Y w k j)∧(pre X Y w k j).natAbs≤j * 2251799813685248∧(H3 X Y w k j).natAbs≤j * 2251799813685248
 | 0,_=>⟨tp,by show (0:Int).natAbs≤_;omega,by show (0:Int).natAbs≤_;omega⟩
 | j+1,hj=>by
  obtain ⟨i1,i2,i3⟩:=wV (w:=w) (k:=k) h j (by omega)
  obtain ⟨g1,g2,g3⟩:=h j (by omega)
  have t:=(wD (j * k * w) g1 g2 g3).2
  have b1:(X j * rA (j * k * w) - Y j * rC (j * k * w)).natAbs≤2251799813685248:=by
   rcases mF (j * k * w) with e | e | e <;> rcases mH (j * k * w) with f | f | f <;> rw [e,f] <;> omega
  have b2:(X j * rC (j * k * w)+Y j * rA (j * k * w)).natAbs≤2251799813685248:=by
   rcases mF (j * k * w) with e | e | e <;> rcases mH (j * k * w) with f | f | f <;> rw [e,f] <;> omega
  show Is (add (part l w k j) (ta (l.get j) (j * k * w))) (pre X Y w k j+(X j * rA (j * k * w) - Y j * rC (j * k * w))) (H3 X Y w k j+(X j * rC (j * k * w)+Y j * rA (j * k * w)))∧(pre X Y w k j+(X j * rA (j * k * w) - Y j * rC (j * k * w))).natAbs≤_∧(H3 X Y w k j+(X j * rC (j * k * w)+Y j * rA (j * k * w))).natAbs≤_
  generalize X j * rA (j * k * w) - Y j * rC (j * k * w)=A at *
  generalize X j * rC (j * k * w)+Y j * rA (j * k * w)=B at *
  exact ⟨(Bv i1 t (by omega) (by omega)).2,by omega,by omega⟩
def dg (x:Int):Prop:=0≤x∧x≤65535
def two (a b:Int):Qd:=me ⟨xS a,xS b,(0,0),(0,0)⟩ 1
def rx (a b:Int) (k:Nat):Int:=a+b * rA k
def ry (b:Int) (k:Nat):Int:=b * rC k
theorem Ap {a b:Int} (ha:dg a) (hb:dg b) (k:Nat) (hk:k<4):Is ((two a b).get k) (rx a b k) (ry b k):=by
 unfold two
 rw [ub _ _ _ hk]
 have h:=(wV (l:=⟨xS a,xS b,(0,0),(0,0)⟩) (w:=1) (k:=k) (X:=fun j=>[a,b].getD j 0) (Y:=fun _=>0) (fun j hj=>by
  have:j=0∨j=1∨j=2∨j=3:=by omega
  obtain ⟨a1,a2⟩:=ha
  obtain ⟨b1,b2⟩:=hb
  rcases this with rfl | rfl | rfl | rfl
  ·exact ⟨AN ⟨a1,a2⟩,by show a.natAbs≤_;omega,by decide⟩
  ·exact ⟨AN ⟨b1,b2⟩,by show b.natAbs≤_;omega,by decide⟩
  ·exact ⟨tp,by show (0:Int).natAbs≤_;omega,by show (0:Int).natAbs≤_;omega⟩
  ·exact ⟨tp,by show (0:Int).natAbs≤_;omega,by show (0:Int).natAbs≤_;omega⟩) 4 (by omega)).1
 have e1:pre (fun j=>[a,b].getD j 0) (fun _=>0) 1 k 4=rx a b k:=by simp [pre,rx,rA]
 have e2:H3 (fun j=>[a,b].getD j 0) (fun _=>0) 1 k 4=ry b k:=by simp [H3,ry,rC]
 rw [e1,e2] at h
 exact h
theorem Et {a b:Int} (ha:dg a) (hb:dg b) (k:Nat):(rx a b k).natAbs≤131070:=by
 obtain ⟨a1,a2⟩:=ha
 obtain ⟨b1,b2⟩:=hb
 unfold rx
 rcases mF k with e | e | e <;> rw [e] <;> omega
theorem Es {b:Int} (hb:dg b) (k:Nat):(ry b k).natAbs≤65535:=by
 obtain ⟨b1,b2⟩:=hb
 unfold ry
 rcases mH k with e | e | e <;> rw [e] <;> omega
def pP (x y:Qd):Qd:=⟨mul (x.get 0) (y.get 0),mul (x.get 1) (y.get 1),mul (x.get 2) (y.get 2),mul (x.get 3) (y.get 3)⟩
def zx (a b c d:Int) (k:Nat):Int:=rx a b k * rx c d k - ry b k * ry d k
def zy (a b c d:Int) (k:Nat):Int:=rx a b k * ry d k+ry b k * rx c d k
theorem CM (x y:Qd) (k:Nat) (hk:k<4):(pP x y).get k=mul (x.get k) (y.get k):=by
 have:k=0∨k=1∨k=2∨k=3:=by omega
 rcases this with rfl | rfl | rfl | rfl <;> rfl
theorem rV {a b:Int} {m n:Nat} (h1:a.natAbs≤m) (h2:b.natAbs≤n):(a * b).natAbs≤m * n:=by
 rw [Int.natAbs_mul];exact Nat.mul_le_mul h1 h2
theorem DV {a b:Int} (ha:dg a) (hb:dg b) (k:Nat) (hk:k<4):In ((two a b).get k) 33554432 :=
 ⟨_,_,Ap ha hb k hk,by have:=Et ha hb k;omega,by have:=Es hb k;omega⟩
theorem BN {a b c d:Int} (ha:dg a) (hb:dg b) (hc:dg c) (hd:dg d) (k:Nat) (hk:k<4) :
  Is ((pP (two a b) (two c d)).get k) (zx a b c d k) (zy a b c d k)∧(zx a b c d k).natAbs≤1125899906842624∧(zy a b c d k).natAbs≤1125899906842624:=by
 have x1:=Et ha hb k
 have x2:=Es hb k
 have x3:=Et hc hd k
 have x4:=Es hd k
 have y1:=rV x1 x3
 have y2:=rV x2 x4
 have y3:=rV x1 x4
 have y4:=rV x2 x3
 rw [CM _ _ _ hk]
 refine ⟨(AP (Ap ha hb k hk) (Ap hc hd k hk) (by omega) (by omega) (by omega) (by omega)).2,?_,?_⟩
 ·unfold zx;omega
 ·unfold zy;omega
def co (a b c d:Int) (k:Nat):Int:=if k=0 then a * c else if k=1 then a * d+b * c else if k=2 then b * d else 0
theorem zY (a b c d:Int) (k:Nat) (hk:k<4):pre (zx a b c d) (zy a b c d) (-1) k 4=4 * co a b c d k∧H3 (zx a b c d) (zy a b c d) (-1) k 4=4 * 0:=by
 have:k=0∨k=1∨k=2∨k=3:=by omega
 rcases this with rfl | rfl | rfl | rfl <;> constructor <;> simp [pre,H3,co,zx,zy,rx,ry,rA,rC,Int.add_mul,Int.mul_add,Int.sub_mul,Int.mul_sub,Int.neg_mul,Int.mul_neg] <;> omega
theorem GH {a b c d:Int} (ha:dg a) (hb:dg b) (hc:dg c) (hd:dg d) (k:Nat):0≤co a b c d k∧co a b c d k≤8589672450:=by
 have m:∀{x y:Int},dg x→dg y→0≤x * y∧x * y≤4294836225:=fun {x y} h1 h2=>by
  have:=rV (a:=x) (b:=y) (m:=65535) (n:=65535) (by obtain ⟨_,_⟩:=h1;omega) (by obtain ⟨_,_⟩:=h2;omega)
  have h0:=Int.mul_nonneg h1.1 h2.1
  omega
 have m1:=m ha hc
 have m2:=m ha hd
 have m3:=m hb hc
 have m4:=m hb hd
 unfold co
 split
 ·omega
 ·split
  ·omega
  ·split <;> omega
theorem yB {a b c d:Int} (ha:dg a) (hb:dg b) (hc:dg c) (hd:dg d) (k:Nat) (hk:k<4):Is (part (pP (two a b) (two c d)) (-1) k 4) (4 * co a b c d k) (4 * 0):=by
 have h:=(wV (w:=-1) (k:=k) (fun j hj=>BN ha hb hc hd j hj) 4 (by omega)).1
 rw [(zY a b c d k hk).1,(zY a b c d k hk).2] at h
 exact h
theorem G8 (l:Qd) (k:Nat) (hk:k<4):(back l).get k=quarter (part l (-1) k 4):=by
 have:k=0∨k=1∨k=2∨k=3:=by omega
 rcases this with rfl | rfl | rfl | rfl <;> rfl
theorem AF {z:Cx} {x y:Int} (h:Is z (4 * x) (4 * y)) (hx:x.natAbs≤562949953421312) (hy:y.natAbs≤562949953421312):Is (quarter z) x y:=by
 unfold quarter
 rw [(h.1.toInt (by omega)).2,(h.2.toInt (by omega)).2,Int.mul_tdiv_cancel_left _ (by omega),Int.mul_tdiv_cancel_left _ (by omega)]
 exact ⟨Fl.W.ofInt (by omega),Fl.W.ofInt (by omega)⟩
theorem I9 {a b c d:Int} (ha:dg a) (hb:dg b) (hc:dg c) (hd:dg d) (k:Nat) (hk:k<4):Is ((back (pP (two a b) (two c d))).get k) (co a b c d k) 0:=by
 rw [G8 _ _ hk]
 have:=GH ha hb hc hd k
 exact AF (yB ha hb hc hd k hk) (by omega) (by omega)
theorem H2 {a b c d:Int} (ha:dg a) (hb:dg b) (hc:dg c) (hd:dg d):(vc (pP (two a b) (two c d)) 1125899906842624&&JP (pP (two a b) (two c d)))=true:=by
 have h:∀k,k<4→In ((pP (two a b) (two c d)).get k) 1125899906842624:=fun k hk=>by
  obtain ⟨h1,h2,h3⟩:=BN ha hb hc hd k hk
  exact ⟨_,_,h1,h2,h3⟩
 rw [tH.2 ⟨h 0 (by omega),h 1 (by omega),h 2 (by omega),h 3 (by omega)⟩,Cb.2 fun k hk=>?_]
 ·rfl
 ·have:=GH ha hb hc hd k
  exact ⟨_,_,yB ha hb hc hd k hk,by omega,by omega⟩
theorem jH:∀l:List Int,(gj l).length=(l.length+1) / 2
 | []=>rfl
 | [a]=>by simp [gj]
 | a :: b :: r=>by rw [gj,aP,jH r,aP,aP];omega
theorem N0:xS 0=(0,0):=by
 have e:Fl.ofInt 0=0:=by decide +kernel
 unfold xS;rw [e]
theorem rR (e:Qd):∀(l:List Int) (i:Nat),i<(l.length+1) / 2→(gj l).getD i e=two (l.getD (2 * i) 0) (l.getD (2 * i+1) 0)
 | [],i,h=>by simp at h
 | [a],i,h=>by
  obtain rfl:i=0:=by simp at h;omega
  show me ⟨xS a,(0,0),(0,0),(0,0)⟩ 1=two a 0
  unfold two;rw [N0]
 | a :: b :: r,0,h=>rfl
 | a :: b :: r,i+1,h=>by
  rw [aP,aP] at h
  have:=rR e r i (by omega)
  rw [show 2 * (i+1)=2 * i+2 by omega]
  exact this
theorem tM {l:List Int} (h:gY l=true) (i:Nat):dg (l.getD i 0):=by
 by_cases c:i<l.length
 ·exact qX h i c
 ·rw [ak,List.getElem?_eq_none (by omega)];exact ⟨by decide,by decide⟩
end Gz
end Go.Eng
namespace Go.Eng
open Go.IntWalk
namespace Gz
def T (f g:Nat→Int) (m:Nat):Nat→Int
 | 0=>0
 | n+1=>T f g m n+if n≤m then f n * g (m - n) else 0
def U (f g:Nat→Int) (i n m:Nat):Int:=(if i≤m∧m - i<n then f i * g (m - i) else 0)+if i+1≤m∧m - (i+1)<n then f (i+1) * g (m - (i+1)) else 0
theorem Ms {x y:Int} (h1:dg x) (h2:dg y):0≤x * y∧x * y≤4294836225:=by
 have:=rV (a:=x) (b:=y) (m:=65535) (n:=65535) (by obtain ⟨_,_⟩:=h1;omega) (by obtain ⟨_,_⟩:=h2;omega)
 have h0:=Int.mul_nonneg h1.1 h2.1
 omega
theorem MH {f g:Nat→Int} (hf:∀i,dg (f i)) (hg:∀i,dg (g i)) (m:Nat):∀n,0≤T f g m n∧T f g m n≤n * 4294836225
 | 0=>⟨Int.le_refl _,by show (0:Int)≤_;omega⟩
 | n+1=>by
  have h:=MH hf hg m n
  have h2:=Ms (hf n) (hg (m - n))
  rw [T]
  split <;> omega
theorem Ty {f g:Nat→Int} (hf:∀i,dg (f i)) (hg:∀i,dg (g i)) (i n m:Nat):0≤U f g i n m∧U f g i n m≤8589672450:=by
 have h1:=Ms (hf i) (hg (m - i))
 have h2:=Ms (hf (i+1)) (hg (m - (i+1)))
 unfold U
 split <;> split <;> omega
theorem XH (f g:Nat→Int) (i m:Nat):U f g i 0 m=0:=by
 unfold U
 rw [aD (by omega),aD (by omega)];rfl
theorem MG (f g:Nat→Int) (i n m:Nat):U f g i (n+2) m=U f g i n m+if m=i+n then co (f i) (f (i+1)) (g n) (g (n+1)) 0 else if m=i+n+1 then co (f i) (f (i+1)) (g n) (g (n+1)) 1 else if m=i+n+2 then co (f i) (f (i+1)) (g n) (g (n+1)) 2 else 0:=by
 unfold U co
 by_cases c0:m=i+n
 ·subst c0
  rw [aH (by omega),aH rfl,aH rfl,aD (show ¬(i≤i+n∧i+n - i<n) by omega),show i+n - i=n by omega]
  by_cases c:n=0
  ·rw [aD (by omega),aD (by omega)];omega
  ·rw [aH (by omega),aH (by omega)];omega
 ·rw [aD c0]
  by_cases c1:m=i+n+1
  ·subst c1
   rw [aH (by omega),aH (by omega),aH rfl,aD (show ¬(i≤i+n+1∧i+n+1 - i<n) by omega),aD (show ¬(i+1≤i+n+1∧i+n+1 - (i+1)<n) by omega),show i+n+1 - i=n+1 by omega,show i+n+1 - (i+1)=n by omega,aD (by omega),aH rfl];omega
  ·rw [aD c1]
   by_cases c2:m=i+n+2
   ·subst c2
    rw [aD (by omega),aH (by omega),aH rfl,aD (show ¬(i≤i+n+2∧i+n+2 - i<n) by omega),aD (show ¬(i+1≤i+n+2∧i+n+2 - (i+1)<n) by omega),show i+n+2 - (i+1)=n+1 by omega,aD (by omega),aD (by omega),aH rfl];omega
   ·rw [aD c2]
    have e1:(i≤m∧m - i<n+2) ↔ (i≤m∧m - i<n):=by omega
    have e2:(i+1≤m∧m - (i+1)<n+2) ↔ (i+1≤m∧m - (i+1)<n):=by omega
    simp only [e1,e2,Int.add_zero]
theorem Qj {f g:Nat→Int} {n:Nat} (hg:∀i,n≤i→g i=0) (i m:Nat):T f g m (i+2)=T f g m i+U f g i n m:=by
 rw [T,T,U]
 have e:∀k,(if k≤m then f k * g (m - k) else 0)=if k≤m∧m - k<n then f k * g (m - k) else 0:=fun k=>by
  by_cases c:k≤m
  ·by_cases d:m - k<n
   ·rw [aH c,aH ⟨c,d⟩]
   ·rw [aH c,aD (by omega),hg _ (by omega),Int.mul_zero]
  ·rw [aD c,aD (by omega)]
 rw [e,e];omega
theorem Hj {f g:Nat→Int} {m n:Nat} (h:∀i,n≤i→i≤m→f i=0):∀k,T f g m (n+k)=T f g m n
 | 0=>rfl
 | k+1=>by
  rw [←Nat.add_assoc,T,Hj h k]
  split
  ·rw [h _ (by omega) (by omega),Int.zero_mul,Int.add_zero]
  ·rw [Int.add_zero]
theorem I1 (a b:List Int) (m:Nat):Dw a b m=T (a.getD · 0) (b.getD · 0) m (m+1):=by
 unfold Dw
 have:∀n,n≤m+1→(List.range n).foldl (fun s i=>s+a.getD i 0 * b.getD (m - i) 0) 0=T (a.getD · 0) (b.getD · 0) m n:=by
  intro n
  induction n with
  | zero=>intro _;rfl
  | succ n ih =>
   intro h
   rw [List.range_succ,List.foldl_append,ih (by omega),T,aH (by omega)];rfl
 exact this _ (Nat.le_refl _)
theorem Bk (a b:List Int) (m n:Nat) (hn:a.length≤n):T (a.getD · 0) (b.getD · 0) m n=Dw a b m:=by
 rw [I1,←Hj (n:=n) (k:=m+1) (fun i h1 _=>by
  show a.getD i 0=0
  rw [ak,List.getElem?_eq_none (by omega)];rfl),Nat.add_comm n (m+1),Hj (fun i h1 h2=>by omega)]
theorem xa {l:List Int} {n:Nat} (x:Int) (m:Nat) (h:n<l.length):(l.set n x).getD m 0=if m=n then x else l.getD m 0:=by
 rw [ak,List.getElem?_set]
 by_cases c:n=m
 ·subst c;rw [aH rfl,aH h,aH rfl];rfl
 ·rw [aD c,aD (fun e=>c e.symm),ak]
def grow (o:List Int) (p:Nat) (x y z:Int):List Int :=
 let o1:=o.set p (o.getD p 0+x)
 let o2:=o1.set (p+1) (o1.getD (p+1) 0+y)
 o2.set (p+2) (o2.getD (p+2) 0+z)
theorem F9 {o:List Int} {p:Nat} (x y z:Int) (h:p+2<o.length) (m:Nat):(grow o p x y z).getD m 0=o.getD m 0+if m=p then x else if m=p+1 then y else if m=p+2 then z else 0:=by
 unfold grow
 simp only
 have hl:∀(o:List Int) (n:Nat) (x:Int),p+2<o.length→p+2<(o.set n x).length:=fun o n x h=>by rw [List.length_set];exact h
 have q1:=hl o p (o.getD p 0+x) h
 rw [xa (n:=p+2) _ m (hl _ _ _ q1),xa (n:=p+1) _ m (by omega),xa (n:=p+1) _ (p+2) (by omega),xa (n:=p) _ m (by omega),xa (n:=p) _ (p+1) (by omega),xa (n:=p) _ (p+2) (by omega)]
 by_cases c0:m=p
 ·subst c0
  rw [aD (by omega),aD (by omega),aH rfl,aH rfl]
 ·by_cases c1:m=p+1
  ·subst c1
   rw [aD (by omega),aH rfl,aD (by omega),aD (by omega),aH rfl]
  ·by_cases c2:m=p+2
   ·subst c2
    rw [aH rfl,aD (by omega),aD (by omega),aD c0,aD c1,aH rfl]
   ·rw [aD c2,aD c1,aD c0,aD c0,aD c1,aD c2,Int.add_zero]
theorem zo (o:List Int) (p:Nat) (x y z:Int):(grow o p x y z).length=o.length:=by
 unfold grow;simp
end Gz
open Gz
theorem bK.sR (x0 x1:List Int) (x2:List Qd) (x3 x4:Int) (x5:List Qd) (x6 x7:Int) (x8:List Qd) (x9 vg:Int) (o:List Int) (x y:Qd) (hx:∀k,k<4→In (x.get k) 33554432) (hy:∀k,k<4→In (y.get k) 33554432) (ho:(vc (pP x y) 1125899906842624&&JP (pP x y))=true) :
  bK.l3 x0 x1 x2 x3 x4 x5 x6 x7 x8 x9 vg 0 x y ⟨(0,0),(0,0),(0,0),(0,0)⟩ o=bK.l4 x0 x1 x2 x3 x4 x5 x6 x7 x8 x9 vg 0 x (back (pP x y)) o:=by
 have st:∀(k:Nat) (z:Qd),k<4→bK.l3 x0 x1 x2 x3 x4 x5 x6 x7 x8 x9 vg k x y z o=bK.l3 x0 x1 x2 x3 x4 x5 x6 x7 x8 x9 vg ((k+1:Nat):Int) x y (z.set k (mul (x.get k) (y.get k))) o:=fun k z hk=>by
  refine bK.ov _ _ _ _ _ _ _ _ _ _ _ _ _ _ _ _ ?_
  intro v1 h1 v2 h2 v3 h3
  have e3:v3=((k+1:Nat):Int):=by rw [h3,i64_in _ (by omega)];omega
  rw [aw] at h1 h2
  rw [ae (by omega),aF,bD (cN (by omega) (by omega)),bD (ae (by omega)),bD (cN (by omega) (by omega)),bD (ae (by omega)),aw,kv.2 (hx k hk),kv.2 (hy k hk),bw,da,bD (cN (by omega) (by omega)),bD (ae (by omega)),e3,h2,h1]
 refine (st 0 _ (by omega)).trans ?_
 refine (st 1 _ (by omega)).trans ?_
 refine (st 2 _ (by omega)).trans ?_
 refine (st 3 _ (by omega)).trans ?_
 refine bK.ov _ _ _ _ _ _ _ _ _ _ _ _ _ _ _ _ ?_
 intro v1 h1 v2 h2 v3 h3
 rw [af (by decide),ax]
 exact bD ho
theorem bK.y0 (x0 x1:List Int) (x2:List Qd) (x3:Int) (i j:Nat) (x5:List Qd) (x6 x7:Int) (x8:List Qd) (x9:Int) (o:List Int) (x y:Qd) (c:Nat→Int) (hc:∀k,k<4→Is (y.get k) (c k) 0∧0≤c k∧c k≤8589672450) (hi:i≤128) (hj:j≤128) (ho:2 * i+2 * j+2<o.length) (hb:∀m,0≤o.getD m 0∧o.getD m 0≤1125899906842624) (V2:x3=i) :
  bK.l4 x0 x1 x2 x3 j x5 x6 x7 x8 x9 j 0 x y o=bK.l2 x0 x1 x2 x3 x5 x6 x7 x8 x9 ((j+1:Nat):Int) x (grow o (2 * i+2 * j) (c 0) (c 1) (c 2)):=by
 have st:∀(k:Nat) (o:List Int),k<3→2 * i+2 * j+2<o.length→(0≤o.getD (2 * i+2 * j+k) 0∧o.getD (2 * i+2 * j+k) 0≤1125899906842624)→bK.l4 x0 x1 x2 x3 j x5 x6 x7 x8 x9 j k x y o=bK.l4 x0 x1 x2 x3 j x5 x6 x7 x8 x9 j ((k+1:Nat):Int) x y (o.set (2 * i+2 * j+k) (o.getD (2 * i+2 * j+k) 0+c k)):=fun k o hk ho hb=>by
  refine bK.sQ _ _ _ _ _ _ _ _ _ _ _ _ _ _ _ ?_
  intro v1 h1 v2 h2 v3 h3 v4 h4 v5 h5 v6 h6 v7 h7 v8 h8 v9 h9
  obtain ⟨q1,q2,q3⟩:=hc k (by omega)
  rw [aw] at h1 h2
  have e1:v1=c k:=by rw [h1];exact (q1.1.toInt (by omega)).2
  have e3:v3=2 * i:=by rw [h3,V2,i64_in _ (by omega)]
  have e4:v4=2 * j:=by rw [h4,i64_in _ (by omega)]
  have e5:v5=((2 * i+2 * j+k:Nat):Int):=by rw [h5,e3,e4,i64_in (2 * (i:Int)+2 * j) (by omega),i64_in _ (by omega)];omega
  rw [e5,aw] at h6 h7
  have e7:v7=o.set (2 * i+2 * j+k) (o.getD (2 * i+2 * j+k) 0+c k):=by rw [h7,h6,e1,i64_in _ (by omega)]
  have e8:v8=((k+1:Nat):Int):=by rw [h8,i64_in _ (by omega)];omega
  have b1:sT (y.get k) 4503599627370496=true:=kv.2 ⟨_,_,q1,by omega,by omega⟩
  rw [ae (by omega),aF,bD (cN (by omega) (by omega)),bD (ae (by omega)),aw,bD b1,e5,bD (cN (by omega) (by omega)),aw,bD (ae (by omega)),bD (cN (by omega) (by omega)),bD (ae (by omega)),e7,e8]
 refine (st 0 _ (by omega) ho (hb _)).trans ?_
 refine (st 1 _ (by omega) (by rw [List.length_set];exact ho) (by rw [xa _ _ (by omega),aD (by omega)];exact hb _)).trans ?_
 refine (st 2 _ (by omega) (by rw [List.length_set,List.length_set];exact ho) (by rw [xa _ _ (by rw [List.length_set];omega),aD (by omega),xa _ _ (by omega),aD (by omega)];exact hb _)).trans ?_
 refine bK.sQ _ _ _ _ _ _ _ _ _ _ _ _ _ _ _ ?_
 intro v1 h1 v2 h2 v3 h3 v4 h4 v5 h5 v6 h6 v7 h7 v8 h8 v9 h9
 have e9:v9=((j+1:Nat):Int):=by rw [h9,i64_in _ (by omega)];omega
 rw [af (by decide),ax,e9]
 rfl
theorem bK.lF (a b:List Int) (ha:Gz.gY a=true) (hb:Gz.gY b=true) (la:a.length≤256) (lb:b.length≤256) (i:Nat) (hi:i<(a.length+1) / 2):∀(m j:Nat) (o:List Int),j+m=(b.length+1) / 2→o.length=a.length+b.length+2→(∀q,o.getD q 0=T (a.getD · 0) (b.getD · 0) q (2 * i)+U (a.getD · 0) (b.getD · 0) (2 * i) (2 * j) q) →
  ∃o':List Int,bK.l2 a b (gj b) i (gj a) ((gj a).length:Int) i (gj b) ((gj b).length:Int) j (two (a.getD (2 * i) 0) (a.getD (2 * i+1) 0)) o=bK.l1 a b (gj b) (gj a) ((gj a).length:Int) ((i+1:Nat):Int) o'∧o'.length=a.length+b.length+2∧∀q,o'.getD q 0=T (a.getD · 0) (b.getD · 0) q (2 * (i+1)):=by
 intro m
 induction m with
 | zero =>
  intro j o hj ho hv
  refine ⟨o,?_,ho,?_⟩
  ·refine bK.jw _ _ _ _ _ _ _ _ _ _ _ _ ?_
   intro v1 h1 v2 h2
   have e2:v2=((i+1:Nat):Int):=by rw [h2,i64_in _ (by omega)];omega
   rw [jH,af (by omega),ax,e2]
  ·intro q
   rw [hv q,show 2 * (i+1)=2 * i+2 by omega,Qj (n:=2 * j) (fun k hk=>by
    show b.getD k 0=0
    rw [ak,List.getElem?_eq_none (by omega)];rfl)]
 | succ m ih =>
  intro j o hj ho hv
  have hf:=tM ha
  have hg:=tM hb
  have f0:=hf (2 * i)
  have f1:=hf (2 * i+1)
  have g0:=hg (2 * j)
  have g1:=hg (2 * j+1)
  obtain ⟨o',h1,h2,h3⟩:=ih (j+1) (grow o (2 * i+2 * j) (co (a.getD (2 * i) 0) (a.getD (2 * i+1) 0) (b.getD (2 * j) 0) (b.getD (2 * j+1) 0) 0) (co (a.getD (2 * i) 0) (a.getD (2 * i+1) 0) (b.getD (2 * j) 0) (b.getD (2 * j+1) 0) 1) (co (a.getD (2 * i) 0) (a.getD (2 * i+1) 0) (b.getD (2 * j) 0) (b.getD (2 * j+1) 0) 2)) (by omega) (by rw [zo];exact ho) (fun q=>by
   rw [F9 _ _ _ (by omega),hv q,show 2 * (j+1)=2 * j+2 by omega,MG,Int.add_assoc])
  refine ⟨o',Eq.trans ?_ h1,h2,h3⟩
  refine bK.jw _ _ _ _ _ _ _ _ _ _ _ _ ?_
  intro v1 h1 v2 h2
  rw [aw,rR _ _ _ (by omega)] at h1
  have hp:=jH b
  rw [ae (by omega),aF,bD (cN (by omega) (by omega)),h1]
  rw [bK.sR _ _ _ _ _ _ _ _ _ _ _ _ _ _ (fun k hk=>DV f0 f1 k hk) (fun k hk=>DV g0 g1 k hk) (H2 f0 f1 g0 g1)]
  exact bK.y0 _ _ _ _ i j _ _ _ _ _ _ _ _ (co (a.getD (2 * i) 0) (a.getD (2 * i+1) 0) (b.getD (2 * j) 0) (b.getD (2 * j+1) 0)) (fun k hk=>⟨I9 f0 f1 g0 g1 k hk,GH f0 f1 g0 g1 k⟩) (by omega) (by omega) (by omega) (fun q=>by
   rw [hv q]
   have t1:=MH (f:=(a.getD · 0)) (g:=(b.getD · 0)) hf hg q (2 * i)
   have t2:=Ty (f:=(a.getD · 0)) (g:=(b.getD · 0)) hf hg (2 * i) (2 * j) q
   omega) rfl
theorem B3 (o:List Int) (f:Nat→Int) (n:Nat) (hn:n≤o.length) (h:∀q,o.getD q 0=f q):o.take n=(List.range n).map f:=by
 apply List.ext_getElem
 ·rw [aK,aG,List.length_range];omega
 ·intro i h1 h2
  rw [aK] at h1
  have:=h i
  rw [ak,aA (by omega)] at this
  rw [List.getElem_take,List.getElem_map,List.getElem_range]
  exact this
theorem bK.fo (a b:List Int) (ha:Gz.gY a=true) (hb:Gz.gY b=true) (la:a.length≤256) (lb:b.length≤256) (na:a≠[]) (nb:b≠[]):∀(m i:Nat) (o:List Int),i+m=(a.length+1) / 2→o.length=a.length+b.length+2→(∀q,o.getD q 0=T (a.getD · 0) (b.getD · 0) q (2 * i)) →
  bK.l1 a b (gj b) (gj a) ((gj a).length:Int) i o=some [.sl .is (conv a b),.b true]:=by
 have pa:=List.length_pos_iff.2 na
 have pb:=List.length_pos_iff.2 nb
 intro m
 induction m with
 | zero =>
  intro i o hi ho hv
  refine bK.dE _ _ _ _ _ _ _ ?_
  intro v1 h1 v2 h2 v3 h3
  have e2:v2=a.length+b.length:=by rw [h2,i64_in _ (by omega)]
  have e3:v3=((a.length+b.length - 1:Nat):Int):=by rw [h3,e2,i64_in _ (by omega)];omega
  have e:o.take (a.length+b.length - 1)=conv a b:=by
   rw [B3 o (Dw a b) _ (by omega) (fun q=>by rw [hv q,Bk a b q _ (by omega)])]
   unfold conv
   rw [aD (by simp [na,nb])]
  rw [jH,af (by omega),ax,e3,aw,bD (lJ (by omega) (by omega) (by omega)),bD (gZ (by rw [aK];omega) (by rw [aK];omega)),e]
 | succ m ih =>
  intro i o hi ho hv
  refine bK.dE _ _ _ _ _ _ _ ?_
  intro v1 h1 v2 h2 v3 h3
  have hp:=jH a
  rw [aw,rR _ _ _ (by omega)] at h1
  obtain ⟨o',q1,q2,q3⟩:=bK.lF a b ha hb la lb i (by omega) ((b.length+1) / 2) 0 o (by omega) ho (fun q=>by rw [hv q,Nat.mul_zero,XH,Int.add_zero])
  rw [ae (by omega),aF,bD (cN (by omega) (by omega)),h1]
  exact Eq.trans q1 (ih (i+1) o' (by omega) q2 q3)
theorem bK.goal (a b:List Int) (hp:(decide (a.length≤256∧b.length≤256)&&(Gz.gY a&&Gz.gY b))=true):bK.F a b=some [.sl .is (Gz.conv a b),.b true]:=by
 simp only [aa,ay] at hp
 obtain ⟨⟨la,lb⟩,ha,hb⟩:=hp
 refine bK.dZ _ _ ?_
 intro v1 h1 v2 h2 v3 h3 v4 h4 v5 h5 v6 h6
 have e1:v1=false:=h1
 have ca:(decide (a.length≤256)&&Gz.gY a)=true:=by rw [ha,ae la];rfl
 have cb:(decide (b.length≤256)&&Gz.gY b)=true:=by rw [hb,ae lb];rfl
 simp only [bz,bB,Bool.not_not,a8,Bool.true_and,Bool.false_or,Bool.or_self,da,ca,cb,e1,ax]
 by_cases na:a=[]
 ·subst na
  have e2:v2=true:=h2
  rw [e2,aF];unfold conv;rw [aH (Or.inl rfl)];rfl
 ·by_cases nb:b=[]
  ·subst nb
   have e2:v2=true:=by
    rw [h2]
    cases decide ((a.length:Int)=0) <;> rfl
   rw [e2,aF];unfold conv;rw [aH (Or.inr rfl)];rfl
  ·have pa:=List.length_pos_iff.2 na
   have pb:=List.length_pos_iff.2 nb
   have e2:v2=false:=by rw [h2,af (by omega),ax];exact af (by omega)
   have e3:v3=a.length+b.length:=by rw [h3,i64_in _ (by omega)]
   have e4:v4=((a.length+b.length+2:Nat):Int):=by rw [h4,e3,i64_in _ (by omega)];omega
   rw [e4,aw] at h5
   rw [e2,ax,e4]
   refine Eq.trans (bD rfl) ?_
   rw [bD (jJ.2 ⟨by omega,by omega,by omega,by rw [iT];omega⟩),h6]
   exact bK.fo a b ha hb la lb na nb ((a.length+1) / 2) 0 v5 (by omega) (by rw [h5,List.length_replicate]) (fun q=>by
    rw [h5]
    show _=(0:Int)
    rw [ak,List.getElem?_replicate]
    split <;> rfl)
end Go.Eng
namespace Go.Eng
open Go.IntWalk
namespace Gz
def xB:List Int→Int
 | []=>0
 | x :: r=>x+65536 * xB r
def sn (h:Nat→Int):Nat→Int
 | 0=>0
 | n+1=>sn h n+h n * 65536 ^ n
theorem zN:∀(l:List Int) (x:Int),xB (l++[x])=xB l+x * 65536 ^ l.length
 | [],x=>by simp [xB]
 | y :: r,x=>by
  rw [List.cons_append,xB,zN r x,xB,aP,Int.pow_succ,Int.mul_add,←Int.mul_assoc x,Int.mul_comm 65536 (x * _),Int.add_assoc]
theorem so (f:Nat→Int):∀n,xB ((List.range n).map f)=sn f n
 | 0=>rfl
 | n+1=>by rw [List.range_succ,List.map_append,List.map_singleton,zN,so f n,aG,List.length_range];rfl
theorem Gk (l:List Int):xB l=sn (l.getD · 0) l.length:=by
 rw [←so,←B3 l _ l.length (Nat.le_refl _) (fun _=>rfl),List.take_length]
theorem sj {f g:Nat→Int}:∀n,(∀i,i<n→f i=g i)→sn f n=sn g n
 | 0,_=>rfl
 | n+1,h=>by rw [sn,sn,sj n (fun i hi=>h i (by omega)),h n (by omega)]
theorem Co (f g:Nat→Int):∀n,sn (fun i=>f i+g i) n=sn f n+sn g n
 | 0=>rfl
 | n+1=>by
  simp only [sn]
  rw [Co f g n,Int.add_mul];omega
theorem uR:∀n,sn (fun _=>0) n=0
 | 0=>rfl
 | n+1=>by
  simp only [sn]
  rw [uR n,Int.zero_mul];rfl
theorem Cn {g:Nat→Int} {n:Nat} (h:∀i,n≤i→g i=0):∀k,sn g (n+k)=sn g n
 | 0=>rfl
 | k+1=>by rw [←Nat.add_assoc,sn,Cn h k,h _ (by omega),Int.zero_mul,Int.add_zero]
theorem we (c:Int) (g:Nat→Int) (n:Nat):∀k,sn (fun m=>if n≤m then c * g (m - n) else 0) (n+k)=c * 65536 ^ n * sn g k
 | 0=>by
  rw [Nat.add_zero,sj (g:=fun _=>0) n (fun i hi=>aD (by omega)),uR,sn,Int.mul_zero]
 | k+1=>by
  rw [←Nat.add_assoc,sn,we c g n k,sn]
  rw [aH (by omega),show n+k - n=k by omega,Int.mul_add,Int.pow_add,Int.mul_assoc c (g k),Int.mul_assoc c (65536 ^ n) (g k * 65536 ^ k),←Int.mul_assoc (g k),Int.mul_comm (g k) (65536 ^ n),Int.mul_assoc (65536 ^ n) (g k)]
theorem Kd {f g:Nat→Int} {L:Nat} (hg:∀i,L≤i→g i=0) (N:Nat):∀n,n+L≤N+1→n≤N→sn (fun m=>T f g m n) N=sn f n * sn g L
 | 0,_,_=>by
  rw [sn,Int.zero_mul];exact uR N
 | n+1,h,h2=>by
  have e:=we (f n) g n (N - n)
  rw [show n+(N - n)=N by omega] at e
  have e2:sn g (N - n)=sn g L:=by
   rw [show N - n=L+(N - n - L) by omega];exact Cn hg _
  have:=Co (fun m=>T f g m n) (fun m=>if n≤m then f n * g (m - n) else 0) N
  rw [e,e2,Kd hg N n (by omega) (by omega),←Int.add_mul] at this
  exact this
theorem Gl (a b:List Int):xB (conv a b)=xB a * xB b:=by
 by_cases na:a=[]
 ·subst na;unfold conv;rw [aH (Or.inl rfl)];simp [xB]
 ·by_cases nb:b=[]
  ·subst nb;unfold conv;rw [aH (Or.inr rfl)];simp [xB]
  ·have pa:=List.length_pos_iff.2 na
   have pb:=List.length_pos_iff.2 nb
   unfold conv
   rw [aD (by simp [na,nb]),so,Gk a,Gk b]
   rw [sj (g:=fun m=>T (a.getD · 0) (b.getD · 0) m a.length) _ (fun i _=>(Bk a b i _ (Nat.le_refl _)).symm)]
   exact Kd (fun i hi=>by
    show b.getD i 0=0
    rw [ak,List.getElem?_eq_none (by omega)];rfl) _ _ (by omega) (by omega)
theorem xA:∀a:List UInt16,xB (a.map fun d=>(d.toNat:Int))=(Nt.val a:Int)
 | []=>rfl
 | d :: r=>by rw [ah,xB,xA r,Nt.val];omega
theorem s9 (a b:List Int):(conv a b).length=if a=[]∨b=[] then 0 else a.length+b.length - 1:=by
 unfold conv
 split
 ·rfl
 ·rw [aG,List.length_range]
theorem GG (a b:List Int) (ha:gY a=true) (hb:gY b=true) (la:a.length≤256) (i:Nat):0≤(conv a b).getD i 0∧(conv a b).getD i 0≤1099478073600:=by
 by_cases h:i<(conv a b).length
 ·have hl:=s9 a b
  by_cases c:a=[]∨b=[]
  ·rw [hl,aH c] at h;omega
  ·have e:(conv a b).getD i 0=Dw a b i:=by
    rw [ak,aA h]
    unfold conv
    simp only [aD c,List.getElem_map,List.getElem_range,Option.getD_some]
   rw [e,←Bk a b i _ (Nat.le_refl _)]
   have:=MH (f:=(a.getD · 0)) (g:=(b.getD · 0)) (tM ha) (tM hb) i a.length
   omega
 ·rw [ak,List.getElem?_eq_none (by omega)];exact ⟨by decide,by decide⟩
end Gz
open Gz
theorem xZ (acc:List UInt16) (c:Nat):Nt.val (acc++[UInt16.ofNat c])+65536 ^ (acc.length+1) * (c / 65536)=Nt.val acc+65536 ^ acc.length * c:=by
 rw [Nt.fx]
 simp only [Nt.val,Nat.mul_zero,Nat.add_zero,Nt.dB]
 rw [Nat.pow_succ,Nat.mul_assoc,Nat.add_assoc,←Nat.mul_add,Nat.mod_add_div]
theorem cI.lF (R:Nat):∀(k:Nat) (acc:List UInt16) (c:Nat),c<65536 ^ k→acc.length+k≤10000→Nt.val acc+65536 ^ acc.length * c=R→cI.l2 acc c=some [.sl .ws (Nt.of R)]:=by
 intro k
 induction k with
 | zero =>
  intro acc c hc hl hv
  obtain rfl:c=0:=by simpa using hc
  refine cI.jw _ _ ?_
  intro v1 h1 v2 h2
  rw [af (by omega),ax,bD (ae (by omega)),←hv,Nat.mul_zero,Nat.add_zero]
 | succ k ih =>
  intro acc c hc hl hv
  refine cI.jw _ _ ?_
  intro v1 h1 v2 h2
  by_cases c0:c=0
  ·subst c0
   rw [af (by omega),ax,bD (ae (by omega)),←hv,Nat.mul_zero,Nat.add_zero]
  ·rw [nY] at h1
   rw [xy] at h2
   rw [ae (by omega),aF,h1,h2,bD (gZ (by rw [az];omega) (by rw [az];omega))]
   exact ih _ _ (by rw [Nat.pow_succ] at hc;exact Nat.div_lt_of_lt_mul (by rw [Nat.mul_comm];exact hc)) (by rw [aq,az];omega) (by
    rw [aq,az,xZ];exact hv)
theorem cI.fo (l:List Int) (hl:l.length≤600) (hb:∀i,0≤l.getD i 0∧l.getD i 0≤1099478073600) (R:Nat):∀(m i:Nat) (acc:List UInt16) (c:Nat),i+m=l.length→acc.length=i→c≤1099511627776→((Nt.val acc:Nat):Int)+65536 ^ i * (c+xB (l.drop i))=R→cI.l1 acc c l l.length i=some [.sl .ws (Nt.of R)]:=by
 intro m
 induction m with
 | zero =>
  intro i acc c hi ha hc hv
  refine cI.dE _ _ _ _ _ ?_
  intro v1 h1 v2 h2 v3 h3 v4 h4
  rw [bc (by omega),xB,Int.add_zero] at hv
  rw [af (by omega),ax]
  refine cI.lF R 3 acc c (by omega) (by omega) ?_
  rw [ha]
  have e:((65536 ^ i * c:Nat):Int)=65536 ^ i * (c:Int):=by rw [Int.natCast_mul,Int.natCast_pow];rfl
  omega
 | succ m ih =>
  intro i acc c hi ha hc hv
  refine cI.dE _ _ _ _ _ ?_
  intro v1 h1 v2 h2 v3 h3 v4 h4
  rw [aw] at h1
  have hx:=hb i
  rw [←h1] at hx
  obtain ⟨x,rfl⟩:=Int.eq_ofNat_of_zero_le hx.1
  have e0:IntKind.i64.wrap ((c:Int)+(x:Int))=((c+x:Nat):Int):=by rw [i64_in _ (by omega)];omega
  rw [e0] at h2 h3
  rw [nY] at h2
  rw [xy] at h3
  have e4:v4=((i+1:Nat):Int):=by rw [h4,i64_in _ (by omega)];omega
  rw [ae (by omega),aF,bD (cN (by omega) (by omega)),bD (gZ (by rw [az];omega) (by rw [az];omega)),h2,h3,e4]
  refine ih (i+1) _ _ (by omega) (by rw [aq,az];omega) (by omega) ?_
  rw [drop_cons (show i<l.length by omega) 0,xB,←h1] at hv
  have hm:=xZ acc (c+x)
  rw [ha] at hm
  have xk:((Nt.val (acc++[UInt16.ofNat (c+x)]):Nat):Int)+65536 ^ (i+1) * (((c+x) / 65536:Nat):Int)=(Nt.val acc:Int)+65536 ^ i * ((c+x:Nat):Int):=by
   have:=congrArg (Nat.cast:Nat→Int) hm
   rw [Int.natCast_add,Int.natCast_add,Int.natCast_mul,Int.natCast_mul,Int.natCast_pow,Int.natCast_pow] at this
   exact this
  generalize xB (l.drop (i+1))=E at *
  rw [Int.mul_add,←Int.add_assoc,xk,←hv,Int.pow_succ,Int.mul_assoc,Int.add_assoc,←Int.mul_add]
  congr 2
  omega
theorem cI.goal (a b:List UInt16) (hp:(Nt.is a&&Nt.is b)=true):cI.F a b=some [.sl .ws (Nt.of (Nt.val a * Nt.val b))]:=by
 simp only [aa] at hp
 obtain ⟨ha,hb⟩:=hp
 have la:=Nt.iY ha
 have lb:=Nt.iY hb
 have hd:∀a:List UInt16,Gz.gY (a.map fun d=>(d.toNat:Int))=true:=fun a=>by
  unfold Gz.gY
  rw [aL]
  intro x hx
  obtain ⟨d,_,rfl⟩:=aO.1 hx
  have:=d.toNat_lt
  exact ae (by omega)
 refine cI.dZ _ _ ?_
 intro v1 h1 v2 h2 v3 h3 v4 h4
 have e1:v1=false:=by rw [h1,ha,hb];rfl
 have l2:v2.length=a.length:=by rw [h2,aG]
 have l3:v3.length=b.length:=by rw [h3,aG]
 have d2:Gz.gY v2=true:=by rw [h2];exact hd a
 have d3:Gz.gY v3=true:=by rw [h3];exact hd b
 have c1:(decide (v2.length≤256∧v3.length≤256)&&(Gz.gY v2&&Gz.gY v3))=true:=by rw [d2,d3,ae ⟨by omega,by omega⟩];rfl
 rw [e1,ha,h4,bD c1,ae (show a.length≤1099511627776 by omega),ae (show b.length≤1099511627776 by omega),ae (show a.length≤256 by omega),ae (show b.length≤256 by omega)]
 refine Eq.trans (b:=cI.l1 [] 0 (Gz.conv v2 v3) (Gz.conv v2 v3).length 0) rfl ?_
 have hl:(Gz.conv v2 v3).length≤600:=by
  rw [Gz.s9]
  split <;> omega
 refine cI.fo _ hl (Gz.GG _ _ d2 d3 (by omega)) _ (Gz.conv v2 v3).length 0 [] 0 (by omega) rfl (by omega) ?_
 rw [aS,Gz.Gl,h2,h3,Gz.xA,Gz.xA,Int.natCast_mul]
 simp [Nt.val]
end Go.Eng
namespace Go.Eng
open Go.IntWalk
namespace Nr
theorem tD {a:Nat} (h:0<a) (e:Int):0<iC a e:=Nat.mul_pos h (Nat.two_pow_pos _)
def pt (Q F:Nat):Nat:=if Q<4503599627370496 then Q else (F+1) * 4503599627370496+(Q - 4503599627370496)
theorem Jq {Q F:Nat} (h:4503599627370496≤Q∨F=0) (h2:Q<9007199254740992):iD (pt Q F)=Q∧sh (pt Q F)=F:=by
 unfold pt
 split
 ·rename_i c
  obtain rfl:F=0:=by omega
  unfold iD sh
  rw [aH c,show Q / 4503599627370496=0 by omega];exact ⟨rfl,rfl⟩
 ·rename_i c
  exact Hh (by omega) h2
theorem KS (Q F:Nat):pt Q F % 2=Q % 2:=by
 unfold pt
 split <;> omega
theorem He {a b Q:Nat} {E:Int} {F:Nat} (hb:0<b) (hE:E+1074=F) (hQ:Q=iR a E / iC b E) (h:4503599627370496≤Q∨F=0) (h2:Q<9007199254740992) :
  (V (pt Q F) * b≤a * 2 ^ 1074∧a * 2 ^ 1074<V (pt Q F+1) * b)∧(fC a b (pt Q F) ↔ (iC b E<2 * (iR a E % iC b E)∨(iC b E=2 * (iR a E % iC b E)∧Q % 2=1))):=by
 obtain ⟨m1,m2⟩:=Jq h h2
 have hB:=tD hb E
 have Dh:=Nat.div_add_mod (iR a E) (iC b E)
 have hr:=Nat.mod_lt (iR a E) hB
 rw [←hQ] at Dh
 generalize hR:iR a E % iC b E=R at *
 have Mc:V (pt Q F)=Q * 2 ^ F:=by unfold V;rw [m1,m2]
 have MZ:V (pt Q F+1)=(Q+1) * 2 ^ F:=by rw [xO,m1,m2]
 -- both TN times 2^(-E)
 have k1:∀n:Nat,n * 2 ^ F * b * 2 ^ (-E).toNat=n * iC b E * 2 ^ 1074:=fun n=>by
  unfold iC
  exact Ff (yz (a:=F) (b:=(-E).toNat) (c:=E.toNat) (d:=1074) (by omega))
 have k2:a * 2 ^ 1074 * 2 ^ (-E).toNat=iR a E * 2 ^ 1074:=by unfold iR;rw [Nat.mul_right_comm]
 have hp:=Nat.two_pow_pos (-E).toNat
 have qN:=Nat.two_pow_pos 1074
 refine ⟨⟨?_,?_⟩,?_⟩
 ·refine Nat.le_of_mul_le_mul_right ?_ hp
  rw [Mc,k1,k2]
  refine ar _ ?_
  rw [Nat.mul_comm];omega
 ·refine Nat.lt_of_mul_lt_mul_right (a:=2 ^ (-E).toNat) ?_
  rw [MZ,k1,k2]
  refine Nat.mul_lt_mul_of_pos_right ?_ qN
  rw [Nat.add_mul,Nat.mul_comm Q];omega
 ·unfold fC
  rw [lD,Mc,MZ,KS,←Nat.add_mul]
  have e:a * fS * 2 ^ (-E).toNat=2 * iR a E * 2 ^ 1074:=by
   rw [mul_two (a:=a) iG,Nat.mul_assoc 2,k2,←Nat.mul_assoc]
  have k3:=k1 (Q+(Q+1))
  have g1:((Q+(Q+1)) * 2 ^ F * b<a * fS) ↔ (Q+(Q+1)) * iC b E<2 * iR a E:=by
   constructor
   ·intro h
    have:=Nat.mul_lt_mul_of_pos_right h hp
    rw [k3,e] at this
    exact Nat.lt_of_mul_lt_mul_right this
   ·intro h
    refine Nat.lt_of_mul_lt_mul_right (a:=2 ^ (-E).toNat) ?_
    rw [k3,e]
    exact Nat.mul_lt_mul_of_pos_right h qN
  have g2:((Q+(Q+1)) * 2 ^ F * b=a * fS) ↔ (Q+(Q+1)) * iC b E=2 * iR a E:=by
   constructor
   ·intro h
    have this:(Q+(Q+1)) * 2 ^ F * b * 2 ^ (-E).toNat=a * fS * 2 ^ (-E).toNat:=by rw [h]
    rw [k3,e] at this
    exact Nat.eq_of_mul_eq_mul_right qN this
   ·intro h
    refine Nat.eq_of_mul_eq_mul_right hp ?_
    rw [k3,e,h]
  rw [g1,g2,Nat.add_mul,Nat.add_mul,Nat.one_mul]
  have hc:Q * iC b E=iC b E * Q:=Nat.mul_comm _ _
  omega
theorem rK (A B:Nat):(um A B=A / B+1∧(B<2 * (A % B)∨(B=2 * (A % B)∧A / B % 2=1)))∨(um A B=A / B∧¬(B<2 * (A % B)∨(B=2 * (A % B)∧A / B % 2=1))):=by
 unfold um
 split
 ·rename_i h;exact .inl ⟨rfl,h⟩
 ·rename_i h;exact .inr ⟨rfl,h⟩
theorem vR {a b:Nat} {E:Int} (hb:0<b) (hE : -1074≤E) (h:4503599627370496≤iR a E / iC b E∨E=-1074) (h2:iR a E / iC b E<9007199254740992):gf a b=join false (um (iR a E) (iC b E)) E:=by
 classical
 obtain ⟨F,hF⟩:=Int.eq_ofNat_of_zero_le (show 0≤E+1074 by omega)
 generalize hQ:iR a E / iC b E=Q at *
 have Uo:4503599627370496≤Q∨F=0:=by omega
 obtain ⟨⟨a1,a2⟩,a3⟩:=He hb hF hQ.symm Uo h2
 obtain ⟨m1,m2⟩:=Jq Uo h2
 have Mc:V (pt Q F)=Q * 2 ^ F:=by unfold V;rw [m1,m2]
 have MZ:V (pt Q F+1)=(Q+1) * 2 ^ F:=by rw [xO,m1,m2]
 have ex:(-(E+1074)).toNat=0:=by omega
 have ey:(E+1074).toNat=F:=by omega
 have hj:∀p M,V p=M * 2 ^ F→join false M E=if p≤top then some p else none:=fun p M hv=>by
  split
  ·rename_i ht
   exact join_some false ht (by rw [ex,ey,Nat.pow_zero,Nat.mul_one,hv])
  ·rename_i ht
   refine join_none false fun q hq e=>ht ?_
   rw [ex,ey,Nat.pow_zero,Nat.mul_one,←hv] at e
   exact Ks e ▸ hq
 have hr:=rK (iR a E) (iC b E)
 rw [hQ] at hr
 by_cases hp:pt Q F≤top
 ·rw [Ia hb a1 a2 hp]
  rcases hr with ⟨r1,r2⟩ | ⟨r1,r2⟩
  ·rw [aH (a3.2 r2),r1,hj _ _ MZ]
  ·rw [aD (fun h=>r2 (a3.1 h)),r1,hj _ _ Mc,aH hp]
 ·rw [Fc hb a1 (by omega)]
  rcases hr with ⟨r1,r2⟩ | ⟨r1,r2⟩
  ·rw [r1,hj _ _ MZ,aD (by omega)]
  ·rw [r1,hj _ _ Mc,aD hp]
end Nr
theorem ln (a b:Nat):(Nt.cmp a b=-1∧a<b)∨(Nt.cmp a b=0∧a=b)∨(Nt.cmp a b=1∧b<a):=by
 unfold Nt.cmp
 by_cases c:a<b
 ·rw [aH c];exact .inl ⟨rfl,c⟩
 ·rw [aD c]
  by_cases d:a=b
  ·rw [aH d];exact .inr (.inl ⟨rfl,d⟩)
  ·rw [aD d];exact .inr (.inr ⟨rfl,by omega⟩)
theorem H6 {n:Nat} (h:n<2 ^ 64):(Nt.of n).length≤4:=(Nt.jv n 4).2 (by rw [show (65536:Nat) ^ 4=2 ^ 64 by decide];exact h)
theorem bW.gG (A B:Nat) (hB:0<B) (hA:A<2 ^ 4090) (Ta:B<2 ^ 4090) (Mf:A<2 ^ 60 * B):bW.j1 (Nt.of A) (Nt.of B)=some [.u64 (UInt64.ofNat (Nr.um A B)),.b (Nr.lx A B)]:=by
 have YU:(2:Nat) ^ (6+4090)=64 * 2 ^ 4090:=Nr.KR 4090
 refine bW.kF _ _ ?_
 intro v1 h1 v2 h2 v3 h3 v4 h4 v5 h5 v6 h6 v7 h7 v8 h8 v9 h9
 rw [Nt.eG,Nt.eG] at h1 h2
 have hr:=Nat.mod_lt A hB
 have hq:A / B<2 ^ 60:=(Nat.div_lt_iff_lt_mul hB).2 Mf
 have e1:Nt.val v1=A / B:=by rw [h1,Nt.eG]
 have e2:Nt.val v2=A % B:=by rw [h2,Nt.eG]
 have e3:Nt.val v3=2 * (A % B):=by rw [h3,Nt.eG,e2];exact Nat.mul_comm ..
 rw [e3,Nt.eG] at h4
 have i1:Nt.is (Nt.of A)=true:=Nt.pS (by omega)
 have i2:Nt.is (Nt.of B)=true:=Nt.pS (by omega)
 have i3:Nt.is v1=true:=by rw [h1];exact Nt.pS (by omega)
 have i4:Nt.is v2=true:=by rw [h2];exact Nt.pS (by omega)
 have i5:Nt.is v3=true:=by rw [h3];exact Nt.pS (by rw [e2];show A % B * 2 ^ 1<_;omega)
 have nb:Nt.of B≠[]:=by rw [Nt.lC hB];simp
 have l4:v1.length≤4:=by rw [h1];exact H6 (Nat.lt_of_lt_of_le hq (Nat.pow_le_pow_right (by omega) (by omega)))
 rw [i1,i2,i3,i4,i5,ae nb]
 refine (bD (by rfl)).trans ?_
 rw [bD (ae ⟨rfl,l4⟩)]
 refine (bD (by rfl)).trans ?_
 refine (bD (by rfl)).trans ?_
 rw [e1] at h6 h9 ⊢
 have WS:(2:Nat) ^ 60=1152921504606846976:=by decide
 have e6:decide (v6=1)=decide (A / B % 2=1):=by
  have e6:v6.toNat=A / B % 2:=by
   rw [h6,UInt64.toNat_mod,ji]
   show A / B % 18446744073709551616 % 2=_
   omega
  by_cases c:A / B % 2=1
  ·rw [ae c,ae (jj (by rw [e6,c];rfl))]
  ·rw [af c,af (fun h=>c (by rw [←e6,h];rfl))]
 have e9:v9=UInt64.ofNat (A / B+1):=jj (by
  rw [h9,UInt64.toNat_add,ji,ji]
  show (A / B % 18446744073709551616+1) % 18446744073709551616=_
  omega)
 have UE:decide (v9=9007199254740992)=decide (A / B+1=9007199254740992):=by
  by_cases c:A / B+1=9007199254740992
  ·rw [ae c,e9,c];rfl
  ·rw [af c,af (fun h=>c (by
    have:=congrArg UInt64.toNat h
    rw [e9,ji] at this
    have e0:(9007199254740992:UInt64).toNat=9007199254740992:=rfl
    omega))]
 rw [e6] at h7
 rcases ln (2 * (A % B)) B with ⟨q1,q2⟩ | ⟨q1,q2⟩ | ⟨q1,q2⟩
 ·rw [q1] at h4
  subst h4
  have e7:v7=false:=h7
  have e8:v8=false:=by rw [h8,e7];rfl
  have e5:v5=false:=h5
  have hn:Nr.um A B=A / B:=by unfold Nr.um;rw [aD (by omega)]
  have hu:Nr.lx A B=false:=by unfold Nr.lx;rw [hn];exact af (by omega)
  rw [e8,e5,hn,hu];rfl
 ·rw [q1] at h4
  subst h4
  have e7:v7=decide (A / B % 2=1):=h7
  have e8:v8=decide (A / B % 2=1):=by rw [h8,e7];rfl
  have e5:v5=true:=h5
  rw [e8,e5]
  refine Eq.trans (b:=cond (decide (A / B % 2=1)) (some [.u64 v9,.b (decide (v9=9007199254740992))]) (some [.u64 (UInt64.ofNat (A / B)),.b false])) rfl ?_
  by_cases c:A / B % 2=1
  ·have hn:Nr.um A B=A / B+1:=by unfold Nr.um;rw [aH (.inr ⟨q2.symm,c⟩)]
   have hu:Nr.lx A B=decide (A / B+1=9007199254740992):=by
    unfold Nr.lx;rw [hn]
    by_cases d:A / B+1=9007199254740992
    ·rw [ae d,ae ⟨rfl,d⟩]
    ·rw [af d,af (fun h=>d h.2)]
   rw [ae c,aF,UE,e9,hn,hu]
  ·have hn:Nr.um A B=A / B:=by unfold Nr.um;rw [aD (by omega)]
   have hu:Nr.lx A B=false:=by unfold Nr.lx;rw [hn];exact af (by omega)
   rw [af c,ax,hn,hu]
 ·rw [q1] at h4
  subst h4
  have e7:v7=false:=h7
  have e8:v8=true:=by rw [h8];rfl
  have e5:v5=false:=h5
  have hn:Nr.um A B=A / B+1:=by unfold Nr.um;rw [aH (.inl q2)]
  have hu:Nr.lx A B=decide (A / B+1=9007199254740992):=by
   unfold Nr.lx;rw [hn]
   by_cases d:A / B+1=9007199254740992
   ·rw [ae d,ae ⟨rfl,d⟩]
   ·rw [af d,af (fun h=>d h.2)]
  rw [e8,e5]
  refine Eq.trans (b:=some [.u64 v9,.b (decide (v9=9007199254740992))]) rfl ?_
  rw [UE,e9,hn,hu]
theorem bW.goal (a b:List UInt16) (e:Int) (hp:(Nt.is a&&Nt.is b&&decide (-4096≤e∧e≤4096∧0<Nt.val b∧Nr.iR (Nt.val a) e<2 ^ 4090∧Nr.iC (Nt.val b) e<2 ^ 4090∧Nr.iR (Nt.val a) e<2 ^ 60 * Nr.iC (Nt.val b) e))=true) :
  bW.F a b e=some [.u64 (UInt64.ofNat (Nr.um (Nr.iR (Nt.val a) e) (Nr.iC (Nt.val b) e))),.b (Nr.lx (Nr.iR (Nt.val a) e) (Nr.iC (Nt.val b) e))]:=by
 simp only [aa,ay] at hp
 obtain ⟨⟨ha,hb⟩,p1,p2,p3,p4,p5,p6⟩:=hp
 have key:=bW.gG (Nr.iR (Nt.val a) e) (Nr.iC (Nt.val b) e) (Nr.tD p3 e) p4 p5 p6
 refine bW.dZ _ _ _ ?_
 intro v1 h1 v2 h2
 by_cases c:e<0
 ·have ew:IntKind.i64.wrap (0 - e)=-e:=by rw [i64_in _ (by omega)];omega
  rw [ew] at h1
  have eB:Nr.iC (Nt.val b) e=Nt.val b:=by unfold Nr.iC;rw [show e.toNat=0 by omega,Nat.pow_zero,Nat.mul_one]
  rw [ae c,aF,ew,ha,ae (show 0≤-e∧-e≤4096 by omega)]
  refine (bD (by rfl)).trans ?_
  rw [h1,←Nt.iM (Nt.iU hb)]
  rw [eB] at key
  rw [Nt.eG,eB]
  exact key
 ·have eA:Nr.iR (Nt.val a) e=Nt.val a:=by unfold Nr.iR;rw [show (-e).toNat=0 by omega,Nat.pow_zero,Nat.mul_one]
  rw [af c,ax,hb,ae (show 0≤e∧e≤4096 by omega)]
  refine (bD (by rfl)).trans ?_
  rw [h2,←Nt.iM (Nt.iU ha)]
  rw [eA] at key
  rw [Nt.eG,eA]
  exact key
end Go.Eng
namespace Go.Eng
open Go.IntWalk
namespace Nr
theorem Er {a b i j t:Nat} {E:Int} (ha:a<2 ^ i) (hb:2 ^ (j - 1)≤b) (hj:0<j) (h:(i:Int) - j+1 - E≤t):iR a E<2 ^ t * iC b E:=by
 unfold iR iC
 have h1:a * 2 ^ (-E).toNat<2 ^ (i+(-E).toNat):=by rw [Nat.pow_add];exact Nat.mul_lt_mul_of_pos_right ha (Nat.two_pow_pos _)
 have h2:2 ^ (t+(j - 1)+E.toNat)≤2 ^ t * (b * 2 ^ E.toNat):=by
  rw [Nat.pow_add,Nat.pow_add,Nat.mul_assoc];exact Nat.mul_le_mul_left _ (ar _ hb)
 have h3:2 ^ (i+(-E).toNat)≤2 ^ (t+(j - 1)+E.toNat):=Nat.pow_le_pow_right (by omega) (by omega)
 exact Nat.lt_of_lt_of_le h1 (Nat.le_trans h3 h2)
theorem Nj {a b i j t:Nat} {E:Int} (ha:2 ^ (i - 1)≤a) (hi:0<i) (hb:b<2 ^ j) (h:(t:Int)≤(i:Int) - 1 - j - E):2 ^ t * iC b E≤iR a E:=by
 unfold iR iC
 have h1:2 ^ (i - 1+(-E).toNat)≤a * 2 ^ (-E).toNat:=by rw [Nat.pow_add];exact ar _ ha
 have h2:2 ^ t * (b * 2 ^ E.toNat)≤2 ^ (t+j+E.toNat):=by
  rw [Nat.pow_add,Nat.pow_add,Nat.mul_assoc];exact Nat.mul_le_mul_left _ (ar _ (Nat.le_of_lt hb))
 have h3:2 ^ (t+j+E.toNat)≤2 ^ (i - 1+(-E).toNat):=Nat.pow_le_pow_right (by omega) (by omega)
 exact Nat.le_trans h2 (Nat.le_trans h3 h1)
theorem HT (a b:Nat) (E:Int):(iR a (E+1)=iR a E∧iC b (E+1)=2 * iC b E)∨(iR a E=2 * iR a (E+1)∧iC b (E+1)=iC b E):=by
 unfold iR iC
 by_cases c:0≤E
 ·left
  rw [show (-(E+1)).toNat=0 by omega,show (-E).toNat=0 by omega,show (E+1).toNat=E.toNat+1 by omega,Nat.pow_succ,←Nat.mul_assoc,Nat.mul_comm _ 2]
  exact ⟨rfl,rfl⟩
 ·right
  rw [show (-E).toNat=(-(E+1)).toNat+1 by omega,show (E+1).toNat=0 by omega,show E.toNat=0 by omega,Nat.pow_succ,←Nat.mul_assoc,Nat.mul_comm _ 2]
  exact ⟨rfl,rfl⟩
end Nr
theorem jt {a i k:Nat} (h:a<2 ^ i) (hk:i≤k):a<2 ^ k:=Nat.lt_of_lt_of_le h (Nat.pow_le_pow_right (by omega) hk)
theorem uv {a i j k:Nat} (h:a<2 ^ i) (hk:i+j≤k):a * 2 ^ j<2 ^ k:=by
 refine jt (i:=i+j) ?_ hk
 rw [Nat.pow_add];exact Nat.mul_lt_mul_of_pos_right h (Nat.two_pow_pos _)
theorem cJ.gG (E : Int) (M : Nat) (hM : M < 2 ^ 64) (hE : -1074 ≤ E ∧ E ≤ 2000) (a b : Nat) (h : Nr.gf a b = Nr.join false M E) : cJ.j1 E (UInt64.ofNat M) = some [.u64 (Nr.pat (Nr.gf a b)), .b (Nr.gf a b).isSome] := by
  refine cJ.kF _ _ ?_
  intro v1 h1 v2 h2
  have e : (UInt64.ofNat M).toNat = M := by rw [ji]; have : (2 : Nat) ^ 64 = 18446744073709551616 := by decide
                                            omega
  rw [e, ← h] at h1 h2
  rw [bD (ae (by omega)), h1, h2]
theorem cJ.goal (a b:List UInt16) (hp:(Nt.is a&&Nt.is b&&decide (0<Nt.val a∧0<Nt.val b∧Nt.val a<2 ^ 1100∧Nt.val b<2 ^ 2200))=true):cJ.F a b=some [.u64 (Nr.pat (Nr.gf (Nt.val a) (Nt.val b))),.b (Nr.gf (Nt.val a) (Nt.val b)).isSome]:=by
 simp only [aa,ay] at hp
 obtain ⟨⟨ha,hb⟩,p1,p2,p3,p4⟩:=hp
 refine cJ.dZ _ _ ?_
 intro v1 h1 v2 h2 v3 h3 v4 h4 v5 h5 v6 h6 v7 h7 v8 h8
 obtain ⟨i1,i2,i3⟩:=Nt.iO p1
 obtain ⟨j1,j2,j3⟩:=Nt.iO p2
 have i4:=Nt.kx p3
 have j4:=Nt.kx p4
 generalize Nt.bits (Nt.val a)=i at *
 generalize Nt.bits (Nt.val b)=j at *
 generalize Nt.val a=A at *
 generalize Nt.val b=B at *
 have e1:v1=(i:Int) - j:=by rw [h1,i64_in _ (by omega)]
 have e2:v2=(i:Int) - j - 53:=by rw [h2,e1,i64_in _ (by omega)]
 have em:nu v2 (-1074)=max ((i:Int) - j - 53) (-1074):=by rw [e2];unfold nu;split <;> omega
 rw [em] at h3 h4 h6 ⊢
 generalize hE:max ((i:Int) - j - 53) (-1074)=E at *
 have Za : -1074≤E∧E≤1046:=by omega
 have e6:v6=E+1:=by rw [h6,i64_in _ (by omega)]
 rw [e6] at h7 h8
 have Ux:∀E:Int,-1074≤E→E≤1047→Nr.iR A E<2 ^ 4090∧Nr.iC B E<2 ^ 4090:=fun E h1 h2=>by
  unfold Nr.iR Nr.iC
  constructor
  ·exact uv (k:=4090) i2 (by omega)
  ·exact uv (k:=4090) j2 (by omega)
 obtain ⟨a1,a2⟩:=Ux E (by omega) (by omega)
 obtain ⟨a3,a4⟩:=Ux (E+1) (by omega) (by omega)
 have t54:Nr.iR A E<2 ^ 54 * Nr.iC B E:=Nr.Er i2 j1 j3 (by omega)
 have t60:Nr.iR A E<2 ^ 60 * Nr.iC B E:=Nr.Er i2 j1 j3 (by omega)
 have Q4:Nr.iR A (E+1)<2 ^ 60 * Nr.iC B (E+1):=Nr.Er i2 j1 j3 (by omega)
 have hB:=Nr.tD p2 E
 have Uv:=Nr.tD p2 (E+1)
 have hn:=Nr.HT A B E
 have YF:Nr.iR A E / Nr.iC B E<2 ^ 54:=(Nat.div_lt_iff_lt_mul hB).2 t54
 have SU:(2:Nat) ^ 54=18014398509481984:=by decide
 have WK:(2:Nat) ^ 64=18446744073709551616:=by decide
 rw [ha,hb,bD rfl,bD rfl,e6,ae (show -4096≤E∧E≤4096∧0<B∧Nr.iR A E<2 ^ 4090∧Nr.iC B E<2 ^ 4090∧Nr.iR A E<2 ^ 60 * Nr.iC B E from ⟨by omega,by omega,p2,a1,a2,t60⟩),ae (show -4096≤E+1∧E+1≤4096∧0<B∧Nr.iR A (E+1)<2 ^ 4090∧Nr.iC B (E+1)<2 ^ 4090∧Nr.iR A (E+1)<2 ^ 60 * Nr.iC B (E+1) from ⟨by omega,by omega,p2,a3,a4,Q4⟩)]
 refine (bD (by rfl)).trans ?_
 have lH:∀b:Bool,(!b || b)=true:=by decide
 rw [bD (lH _),bD (lH _)]
 have hr:=Nr.rK (Nr.iR A E) (Nr.iC B E)
 have V7:Nr.lx (Nr.iR A E) (Nr.iC B E)=decide (Nr.um (Nr.iR A E) (Nr.iC B E)=Nr.iR A E / Nr.iC B E+1∧Nr.um (Nr.iR A E) (Nr.iC B E)=9007199254740992):=rfl
 rw [V7] at h4
 generalize hQ:Nr.iR A E / Nr.iC B E=Q at *
 generalize hM:Nr.um (Nr.iR A E) (Nr.iC B E)=M at *
 have e3:decide ((9007199254740992:UInt64)≤v3)=decide (9007199254740992≤M):=by
  have ev:v3.toNat=M:=by rw [h3,ji];omega
  by_cases c:9007199254740992≤M
  ·rw [ae c,ae (bk.2 (by rw [ev];exact c))]
  ·rw [af c,af (fun h=>c (by have:=bk.1 h;rw [ev] at this;exact this))]
 have e5:v5=decide (9007199254740992≤M∧¬(M=Q+1∧M=9007199254740992)):=by
  rw [h5,e3,h4]
  by_cases c:9007199254740992≤M
  ·rw [ae c,aF]
   by_cases d:M=Q+1∧M=9007199254740992
   ·rw [ae d,af (fun h=>h.2 d)];rfl
   ·rw [af d,ae ⟨c,d⟩];rfl
  ·rw [af c,ax,af (fun h=>c h.1)]
 by_cases c:9007199254740992≤M∧¬(M=Q+1∧M=9007199254740992)
 ·have S6:9007199254740992≤Q:=by omega
  rw [e5,ae c,aF]
  refine (bD (by rfl)).trans ?_
  have g1:9007199254740992 * Nr.iC B E≤Nr.iR A E:=(Nat.le_div_iff_mul_le hB).1 (by rw [hQ];exact S6)
  have g2:4503599627370496≤Nr.iR A (E+1) / Nr.iC B (E+1):=(Nat.le_div_iff_mul_le Uv).2 (by rcases hn with ⟨n1,n2⟩ | ⟨n1,n2⟩ <;> rw [n2] <;> omega)
  have g3:Nr.iR A (E+1) / Nr.iC B (E+1)<9007199254740992:=(Nat.div_lt_iff_lt_mul Uv).2 (by rw [SU] at t54;rcases hn with ⟨n1,n2⟩ | ⟨n1,n2⟩ <;> rw [n2] <;> omega)
  have JU:=Nr.rK (Nr.iR A (E+1)) (Nr.iC B (E+1))
  rw [h7]
  exact cJ.gG (E+1) _ (by omega) (by omega) A B (Nr.vR p2 (by omega) (.inl g2) g3)
 ·rw [e5,af c,ax,h3]
  have g3:Q<9007199254740992:=by omega
  refine cJ.gG E M (by omega) (by omega) A B ?_
  rw [←hM]
  refine Nr.vR p2 (by omega) ?_ (by rw [hQ];exact g3)
  by_cases d:E=-1074
  ·exact .inr d
  ·left
   refine (Nat.le_div_iff_mul_le hB).2 ?_
   have:=Nr.Nj (t:=52) (E:=E) i1 i3 j2 (by omega)
   rw [show (2:Nat) ^ 52=4503599627370496 by decide] at this
   exact this
end Go.Eng
namespace Go.Eng
open Go.IntWalk
namespace Nr
theorem H8 (b:bT):∀n:Nat,b.foldl (fun n c=>10 * n+(c.toNat - 48)) n=n * 10 ^ b.length+num b:=by
 induction b with
 | nil=>intro n;simp [num]
 | cons c r ih =>
  intro n
  unfold num
  rw [List.foldl_cons,List.foldl_cons,ih,ih,aP,Nat.pow_succ,Nat.mul_zero,Nat.zero_add,Nat.add_mul,Nat.mul_comm 10 n,Nat.mul_assoc,Nat.mul_comm 10 (10 ^ _)]
  omega
theorem fj (a b:bT):num (a++b)=num a * 10 ^ b.length+num b:=by
 unfold num
 rw [List.foldl_append,H8];rfl
theorem qF (c:UInt8) (r:bT):num (c :: r)=(c.toNat - 48) * 10 ^ r.length+num r:=by
 have:=fj [c] r
 rw [List.singleton_append] at this
 rw [this];simp [num]
theorem iS (t:Nat):num (List.replicate t 48)=0:=by
 induction t with
 | zero=>rfl
 | succ t ih=>rw [List.replicate_succ,qF,ih];simp
theorem ig (p:UInt8→Bool):∀d:bT,∃a,d=a++d.dropWhile p∧a.all p=true∧(d.dropWhile p=[]∨p ((d.dropWhile p).getD 0 0)=false)
 | []=>⟨[],rfl,rfl,.inl rfl⟩
 | c :: r=>by
  rw [List.dropWhile_cons]
  cases h:p c
  ·rw [aD (by simp)]
   exact ⟨[],rfl,rfl,.inr h⟩
  ·rw [aH rfl]
   obtain ⟨a,h1,h2,h3⟩:=ig p r
   exact ⟨c :: a,by rw [List.cons_append,←h1],by rw [List.all_cons,h,h2];rfl,h3⟩
theorem Bt:∀{a:bT},(a.all (· == 48))=true→a=List.replicate a.length 48
 | [],_=>rfl
 | c :: r,h=>by
  rw [List.all_cons,aa] at h
  rw [aP,List.replicate_succ,←Bt h.2]
  congr 1
  simpa using h.1
theorem w5 (d:bT):∃z,d=List.replicate z 48++uF d∧(uF d=[]∨(uF d).getD 0 0≠48):=by
 obtain ⟨a,h1,h2,h3⟩:=ig (· == 48) d
 refine ⟨a.length,?_,?_⟩
 ·rw [←Bt h2];exact h1
 ·rcases h3 with h3 | h3
  ·exact .inl h3
  ·exact .inr (by unfold uF;simpa using h3)
theorem gW (d:bT):∃t,d=cT d++List.replicate t 48∧(cT d=[]∨(cT d).getLast?≠some 48):=by
 obtain ⟨a,h1,h2,h3⟩:=ig (· == 48) d.reverse
 refine ⟨a.length,?_,?_⟩
 ·have e:d=(a++d.reverse.dropWhile (· == 48)).reverse:=by rw [←h1,List.reverse_reverse]
  rw [List.reverse_append,Bt h2,List.reverse_replicate] at e
  exact e
 ·rcases h3 with h3 | h3
  ·left;unfold cT;rw [h3];rfl
  ·right
   unfold cT
   rw [List.getLast?_reverse]
   intro h
   cases hd:d.reverse.dropWhile (· == 48) with
   | nil=>rw [hd] at h;cases h
   | cons c r =>
    rw [hd] at h h3
    have:c=48:=by simpa using h
    subst this
    simp at h3
theorem vx (b:UInt8):([48,49,50,51,52,53,54,55,56,57]:bT).contains b=eo b:=by
 have h:∀n,n<256→([48,49,50,51,52,53,54,55,56,57]:bT).contains (UInt8.ofNat n)=eo (UInt8.ofNat n):=by decide +kernel
 have:=h b.toNat b.toNat_lt
 rwa [UInt8.ofNat_toNat] at this
theorem DY (d:bT):Lib.trimLeftS d [48]=uF d:=by
 rw [Lib.trimLeftS_one];rfl
theorem yf (d:bT):Lib.trimRightS d [48]=cT d:=by
 rw [Lib.trimRightS_one];rfl
theorem dropWhile_nil {p:UInt8→Bool}:∀{l:bT},l.dropWhile p=[] ↔ l.all p=true
 | []=>by simp
 | c :: r=>by
  rw [List.dropWhile_cons,List.all_cons]
  cases h:p c
  ·simp
  ·rw [aH rfl,dropWhile_nil];simp
theorem sE (d:bT):(Lib.trimS d [48,49,50,51,52,53,54,55,56,57]=[]) ↔ d.all eo=true:=by
 have e:(fun b=>([48,49,50,51,52,53,54,55,56,57]:bT).contains b)=eo:=funext vx
 have h1:∀l:bT,Lib.trimLeftS l [48,49,50,51,52,53,54,55,56,57]=l.dropWhile eo:=fun l=>by unfold Lib.trimLeftS;rw [e]
 have h2:∀l:bT,Lib.trimRightS l [48,49,50,51,52,53,54,55,56,57]=(l.reverse.dropWhile eo).reverse:=fun l=>by unfold Lib.trimRightS;rw [e]
 unfold Lib.trimS
 rw [h1,h2,dropWhile_nil,List.all_reverse]
 constructor
 ·intro h
  obtain ⟨a,q1,q2,q3⟩:=ig eo d.reverse
  have hn:d.reverse.dropWhile eo=[]:=by
   rcases q3 with q3 | q3
   ·exact q3
   ·cases hd:d.reverse.dropWhile eo with
    | nil=>rfl
    | cons c r =>
     rw [hd] at h q3
     rw [List.all_cons,aa] at h
     have:eo c=false:=q3
     rw [this] at h;cases h.1
  rw [dropWhile_nil,List.all_reverse] at hn
  exact hn
 ·intro h
  rw [(dropWhile_nil (l:=d.reverse)).2 (by rw [List.all_reverse];exact h)];rfl
theorem qa {d:bT} (h:d.all eo=true) (h0:d≠[]) (h1:d.getD 0 0≠48):10 ^ (d.length - 1)≤num d:=by
 cases d with
 | nil=>exact (h0 rfl).elim
 | cons c r =>
  rw [List.all_cons,aa] at h
  have hc:=gg.1 h.1
  have h1:c≠48:=h1
  have IK:c.toNat≠48:=fun e=>h1 (UInt8.toNat_inj.1 e)
  rw [qF,aP,Nat.add_sub_cancel]
  have:1 * 10 ^ r.length≤(c.toNat - 48) * 10 ^ r.length:=ar _ (by omega)
  omega
theorem Aq:fS≤10 ^ 324:=by decide +kernel
theorem Ar:wC≤10 ^ 309:=by decide +kernel
theorem dC (k:Nat):0<10 ^ k:=Nat.pow_pos (by omega)
theorem jE {a b:Nat} (h:a≤b):10 ^ a≤10 ^ b:=Nat.pow_le_pow_right (by omega) h
theorem HF {a b i j k:Nat} (h1:a≤10 ^ i) (h2:b≤10 ^ j) (h:i+j≤k):a * b≤10 ^ k:=by
 refine Nat.le_trans (Nat.mul_le_mul h1 h2) ?_
 rw [←Nat.pow_add];exact jE h
theorem D6 {a b i j k l:Nat} (h1:a≤10 ^ i) (h2:10 ^ k≤b) (h:i+j≤k+l):a * 10 ^ j≤b * 10 ^ l:=by
 refine Nat.le_trans (ar _ h1) (Nat.le_trans ?_ (ar _ h2))
 rw [←Nat.pow_add,←Nat.pow_add];exact jE h
theorem ED {N L:Nat} {k:Int} (hN:N<10 ^ L) (h:k+L≤-324):rd N k=some 0:=by
 unfold rd
 refine Fb (dC _) ?_
 rw [show k.toNat=0 by omega,Nat.pow_zero,Nat.mul_one]
 exact HF (Nat.le_of_lt hN) Aq (by omega)
theorem BM {N L:Nat} {k:Int} (hN:10 ^ (L - 1)≤N) (hL:0<L) (h:310≤k+L):rd N k=none:=by
 unfold rd
 refine CV (dC _) ?_
 exact D6 Ar hN (by omega)
theorem HW (k:Int):rd 0 k=some 0:=by
 unfold rd
 rw [Nat.zero_mul];exact CU _ (dC _)
theorem oh (N t:Nat) (k:Int):rd (N * 10 ^ t) k=rd N (k+t):=by
 unfold rd
 refine uE (dC _) (dC _) ?_
 rw [Nat.mul_assoc,Nat.mul_assoc,Nat.mul_assoc,←Nat.pow_add,←Nat.pow_add,←Nat.pow_add]
 congr 2
 omega
theorem eF {p:UInt8→Bool} {d a b:bT} (h:d.all p=true) (e:d=a++b):a.all p=true∧b.all p=true:=by
 rw [e,List.all_append,aa] at h
 exact h
end Nr
theorem gX {n i:Nat} (h:n<2 ^ i) (hi:i≤4096):Nt.is (Nt.of n)=true:=Nt.pS (jt (k:=4096) h hi)
theorem cV.gG (A B:Nat) (hA:0<A) (hB:0<B) (Uy:A<2 ^ 1100) (Ta:B<2 ^ 2200):cV.j1 (Nt.of A) (Nt.of B)=some [.u64 (Nr.pat (Nr.gf A B)),.b (Nr.gf A B).isSome]:=by
 refine cV.kF _ _ ?_
 intro v1 h1 v2 h2
 rw [Nt.eG,Nt.eG] at h1 h2
 rw [Nt.eG,Nt.eG,gX Uy (by omega),gX Ta (by omega),ae ⟨hA,hB,Uy,Ta⟩]
 refine (bD (by rfl)).trans ?_
 rw [h1,h2]
theorem BD:(10:Nat) ^ 310<2 ^ 1100∧(10:Nat) ^ 631<2 ^ 2200:=by decide +kernel
theorem cV.goal (d:bT) (x:Int):cV.F d x=some [.u64 (Nr.pat (Nr.read d x)),.b (Nr.read d x).isSome]:=by
 refine cV.dZ _ _ ?_
 intro v1 h1 v2 h2 v3 h3 v4 h4 v5 h5 v6 h6 v7 h7 v8 h8 v9 h9 v10 kQ v11 mY v12 lO
 have lH:∀b:Bool,(!(!b) || !b)=true∧(b || !b)=true:=by decide
 have e1:v1=!decide (1≤d.length∧d.length≤300):=by
  rw [h1]
  by_cases c:1≤d.length∧d.length≤300
  ·rw [ae c,af (by omega),ax,af (by omega)];rfl
  ·rw [af c]
   by_cases d0:(d.length:Int)<1
   ·rw [ae d0];rfl
   ·rw [af d0,ax,ae (by omega)];rfl
 have e3:v3=!Nr.valid d:=by
  unfold Nr.valid
  rw [h3,e1,h2]
  have:decide (Lib.trimS d [48,49,50,51,52,53,54,55,56,57]=[])=d.all Nr.eo:=by
   by_cases c:d.all Nr.eo=true
   ·rw [c,ae ((Nr.sE d).2 c)]
   ·rw [af (fun h=>c ((Nr.sE d).1 h))];exact (Bool.eq_false_iff.2 c).symm
  rw [this]
  cases decide (1≤d.length∧d.length≤300) <;> cases d.all Nr.eo <;> rfl
 rw [bD (lH _).1,bD (lH _).1,bD (lH _).2]
 have c4:(!(!v1) || ((!v1)&&(decide (d.length≤1099511627776∧([48,49,50,51,52,53,54,55,56,57]:bT).length≤100)&&([48,49,50,51,52,53,54,55,56,57]:bT).all (fun b=>decide (b.toNat<128)))))=true:=by
  rw [e1]
  by_cases c:1≤d.length∧d.length≤300
  ·rw [ae c,ae (show d.length≤1099511627776∧([48,49,50,51,52,53,54,55,56,57]:bT).length≤100 from ⟨by omega,by decide⟩)];rfl
  ·rw [af c];rfl
 rw [bD c4,bD (lH _).1,bD (lH _).2,e3]
 unfold Nr.read
 cases hv:Nr.valid d
 ·rfl
 ·rw [aH rfl]
  refine Eq.trans (b:=_) (ax _ _) ?_
  unfold Nr.valid at hv
  rw [aa] at hv
  obtain ⟨hl,hd⟩:=hv
  obtain ⟨l1,l2⟩:=aN hl
  rw [Nr.DY] at h4
  rw [Nr.yf] at h7
  obtain ⟨z,z1,z2⟩:=Nr.w5 d
  rw [←h4] at z1 z2
  obtain ⟨t,t1,t2⟩:=Nr.gW v4
  rw [←h7] at t1 t2
  have hd4:=(Nr.eF hd z1).2
  have SS:=(Nr.eF hd4 t1).1
  have lz:d.length=z+v4.length:=by
   have:=congrArg List.length z1
   rw [aq,List.length_replicate] at this
   exact this
  have lt:v4.length=v7.length+t:=by
   have:=congrArg List.length t1
   rw [aq,List.length_replicate] at this
   exact this
  have nz:Nr.num d=Nr.num v4:=by
   have:=congrArg Nr.num z1
   rw [Nr.fj,Nr.iS,Nat.zero_mul,Nat.zero_add] at this
   exact this
  have nt:Nr.num v4=Nr.num v7 * 10 ^ t:=by
   have:=congrArg Nr.num t1
   rw [Nr.fj,Nr.iS,List.length_replicate,Nat.add_zero] at this
   exact this
  have Qa:∀s:bT,s.length≤300→(decide (s.length≤1099511627776∧([48]:bT).length≤100)&&([48]:bT).all (fun b=>decide (b.toNat<128)))=true:=fun s hs=>by
   rw [ae (show s.length≤1099511627776∧([48]:bT).length≤100 from ⟨by omega,by decide⟩)];rfl
  rw [bD (Qa d l2),bD (lH _).1,bD (lH _).2,nz]
  by_cases c0:v4=[]
  ·have e5:v5=true:=by rw [h5,ae c0];rfl
   rw [e5,aF,c0]
   rw [show Nr.num []=0 from rfl,Nr.HW];rfl
  ·rw [af c0,ax] at h5
   have z2:v4.getD 0 0≠48:=z2.resolve_left c0
   have p4:0<v4.length:=List.length_pos_iff.2 c0
   have b1:=Nr.nj v4 hd4
   have b2:=Nr.qa hd4 c0 z2
   by_cases c1:x < -1000
   ·rw [h5,ae c1,aF,Nr.ED b1 (by omega)];rfl
   ·rw [h5,af c1,ax]
    by_cases c2:1000<x
    ·rw [ae c2,aF,Nr.BM b2 p4 (by omega)];rfl
    ·have e6:v6=z:=by rw [h6,i64_in _ (by omega)];omega
     have ex:IntKind.i64.wrap (x - v6)=x - z:=by rw [e6,i64_in _ (by omega)]
     rw [af c2,ax,bD (Qa v4 (by omega)),ex]
     by_cases c3:x - z < -330
     ·rw [ae c3,aF,Nr.ED b1 (by omega)];rfl
     ·rw [af c3,ax]
      by_cases c4:310<x - (z:Int)
      ·rw [ae c4,aF,Nr.BM b2 p4 (by omega)];rfl
      ·rw [af c4,ax]
       have n7:v7≠[]:=by
        intro e
        rw [e] at nt
        have:=Nr.dC (v4.length - 1)
        rw [show Nr.num []=0 from rfl,Nat.zero_mul] at nt
        omega
       have p7:0<v7.length:=List.length_pos_iff.2 n7
       have g7:v7.getD 0 0=v4.getD 0 0:=by
        rw [t1,ak,ak,List.getElem?_append_left (by omega)]
       have e9:v9=x - z - v7.length:=by rw [h9,ex,i64_in _ (by omega)]
       have w7:=Nr.nj v7 SS
       have Vr:=Nr.qa SS n7 (by rw [g7];exact z2)
       have TI:0<Nr.num v7:=Nat.lt_of_lt_of_le (Nr.dC _) Vr
       have LS:Nr.rd (Nr.num v4) (x - (d.length:Int))=Nr.rd (Nr.num v7) v9:=by
        rw [nt,Nr.oh];congr 1;omega
       rw [LS,bD (by rw [ae (show 1≤v7.length∧v7.length≤300∧v7.getD 0 0≠48 from ⟨by omega,by omega,by rw [g7];exact z2⟩),SS];rfl)]
       have hB:∀k:Nat,k≤631→(10:Nat) ^ k<2 ^ 2200:=fun k hk=>Nat.lt_of_le_of_lt (Nr.jE hk) BD.2
       have hA:∀k:Nat,k≤310→(10:Nat) ^ k<2 ^ 1100:=fun k hk=>Nat.lt_of_le_of_lt (Nr.jE hk) BD.1
       by_cases c5:0≤v9
       ·have ep:Nr.num v7 * 10 ^ v9.toNat<10 ^ (v7.length+v9.toNat):=by
         rw [Nat.pow_add];exact Nat.mul_lt_mul_of_pos_right w7 (Nr.dC _)
        have xX:v10=Nt.of (10 ^ v9.toNat):=kQ
        have P6:v11=Nt.of (Nr.num v7 * 10 ^ v9.toNat):=by rw [mY,xX,Nt.eG,Nt.eG]
        have e8:v8=Nt.of 1:=h8
        rw [ae c5,aF,bD (ae ⟨by omega,by omega,by omega,by omega,jt (k:=4096) (hB v9.toNat (by omega)) (by omega)⟩),xX,gX (hB v9.toNat (by omega)) (by omega),gX (Nat.lt_trans w7 (hB v7.length (by omega))) (by omega)]
        refine (bD (by rfl)).trans ?_
        rw [P6,e8,cV.gG _ 1 (Nat.mul_pos TI (Nr.dC _)) (by omega) (Nat.lt_trans ep (hA _ (by omega))) (hB 0 (by omega))]
        unfold Nr.rd
        rw [show (-v9).toNat=0 by omega,Nat.pow_zero]
       ·have ew:IntKind.i64.wrap (0 - v9)=-v9:=by rw [i64_in _ (by omega)];omega
        rw [ew] at lO
        have Mq:v12=Nt.of (10 ^ (-v9).toNat):=lO
        rw [af c5,ax,ew,bD (ae ⟨by omega,by omega,by omega,by omega,jt (k:=4096) (hB (-v9).toNat (by omega)) (by omega)⟩),Mq]
        rw [cV.gG _ _ TI (Nr.dC _) (Nat.lt_trans w7 (hA v7.length (by omega))) (hB _ (by omega))]
        unfold Nr.rd
        rw [show v9.toNat=0 by omega,Nat.pow_zero,Nat.mul_one]
end Go.Eng
namespace Go.Eng
open Go.IntWalk
namespace Nr
def nd:List UInt64→Nat
 | []=>0
 | a :: r=>a.toNat+100000000 * nd r
def Ho (a:List UInt64):Bool:=a.all fun x=>decide (x.toNat<100000000)
end Nr
namespace Nr
theorem iK (s:bT) (c:UInt8):cT (s++[c])=if c=48 then cT s else s++[c]:=by
 unfold cT
 rw [List.reverse_append,List.reverse_singleton,List.singleton_append,List.dropWhile_cons]
 by_cases h:c=48
 ·rw [aH (by simp [h]),aH h]
 ·rw [aD (by simp [h]),aD h];simp
theorem gD (s:bT):s=[]∨∃a c,s=a++[c]:=by
 cases h:s.reverse with
 | nil=>left;simpa using h
 | cons c r=>right;exact ⟨r.reverse,c,by have:=congrArg List.reverse h;simpa using this⟩
theorem qK {c:UInt8} (h:eo c=true):c=UInt8.ofNat (48+(c.toNat - 48)):=by
 have:=gg.1 h
 rw [show 48+(c.toNat - 48)=c.toNat by omega,UInt8.ofNat_toNat]
theorem lI:∀(n:Nat) (s:bT),s.length=n→s.all eo=true→s≠[]→s.getD 0 0≠48→s=dec (num s):=by
 intro n
 induction n with
 | zero=>intro s hs _ h0 _;exact (h0 (List.length_eq_zero_iff.1 hs)).elim
 | succ n ih =>
  intro s hs hd h0 h1
  rcases gD s with h | ⟨a,c,rfl⟩
  ·exact (h0 h).elim
  ·obtain ⟨d1,d2⟩:=eF hd rfl
   rw [List.all_cons,aa] at d2
   have hc:=gg.1 d2.1
   rw [jI]
   by_cases ha:a=[]
   ·subst ha
    rw [show num []=0 from rfl,mV (by omega)]
    rw [Nat.mul_zero,Nat.zero_add,←qK d2.1];rfl
   ·have Ui:a.getD 0 0≠48:=by
     have hl:=List.length_pos_iff.2 ha
     rw [ak,List.getElem?_append_left hl,←ak] at h1
     exact h1
    have hg:=qa d1 ha Ui
    have:=dC (a.length - 1)
    rw [qY (by omega),show (10 * num a+(c.toNat - 48)) / 10=num a by omega,show (10 * num a+(c.toNat - 48)) % 10=c.toNat - 48 by omega,←qK d2.1]
    rw [aq,az] at hs
    rw [←ih a (by omega) d1 ha Ui]
theorem oU (n:Nat):(dec n).all eo=true∧num (dec n)=n∧(dec n≠[])∧(0<n→(dec n).getD 0 0≠48):=by
 induction n using Nat.strongRecOn with
 | _ n ih =>
  have PK:∀k,k<10→eo (UInt8.ofNat (48+k))=true∧(UInt8.ofNat (48+k)).toNat=48+k:=fun k hk=>by
   have:(UInt8.ofNat (48+k)).toNat=48+k:=by simp;omega
   exact ⟨gg.2 (by omega),this⟩
  by_cases c:n<10
  ·rw [mV c]
   obtain ⟨h1,h2⟩:=PK n c
   refine ⟨by rw [List.all_cons,h1];rfl,by simp only [num,List.foldl_cons,List.foldl_nil,h2];omega,by simp,fun h e=>?_⟩
   have:=congrArg UInt8.toNat e
   have e2:([UInt8.ofNat (48+n)].getD 0 0).toNat=48+n:=h2
   rw [e2] at this
   have e3:(48:UInt8).toNat=48:=rfl
   omega
  ·obtain ⟨i1,i2,i3,i4⟩:=ih (n / 10) (by omega)
   obtain ⟨h1,h2⟩:=PK (n % 10) (by omega)
   rw [qY c]
   refine ⟨by rw [List.all_append,i1,List.all_cons,h1];rfl,by rw [jI,i2,h2];omega,by simp,fun _=>?_⟩
   rw [ak,List.getElem?_append_left (List.length_pos_iff.2 i3),←ak]
   exact i4 (by omega)
theorem Bi (n:Nat):1≤(dec n).length:=List.length_pos_iff.2 (oU n).2.2.1
end Nr
end Go.Eng
namespace Go.Eng
open Go.IntWalk
open Nr (nd Ho)
structure mC (a:List UInt64) (N b:Nat):Prop where
 v:nd a=N
 s:Ho a=true
 l:a.length+b≤999
 n:a≠[]
theorem mC.pre {a:List UInt64} {N b:Nat} (h:mC a N b) (m:UInt64) (hm:m.toNat≤100000000):(decide (a.length≤1000∧m.toNat≤100000000)&&a.all (fun x=>decide (x.toNat<100000000)))=true:=by
 have hs:a.all (fun x=>decide (x.toNat<100000000))=true:=h.s
 rw [hs,ae ⟨by have:=h.l;omega,hm⟩];rfl
theorem mC.le {a:List UInt64} {N b c:Nat} (h:mC a N b) (hc:c≤b):mC a N c:=⟨h.v,h.s,by have:=h.l;omega,h.n⟩
end Go.Eng
namespace Go.Eng
open Go.IntWalk
namespace Nr
def Ae (d:bT):Prop:=d.all eo=true∧(d=[]∨d.getLast?≠some 48)
theorem Ae.tail {c:UInt8} {r:bT} (h:Ae (c :: r)):eo c=true∧Ae r:=by
 obtain ⟨h1,h2⟩:=h
 rw [List.all_cons,aa] at h1
 refine ⟨h1.1,h1.2,?_⟩
 cases r with
 | nil=>exact .inl rfl
 | cons d r =>
  refine .inr ?_
  have:=h2.resolve_left (by simp)
  rw [List.getLast?_cons_cons] at this
  exact this
structure nS (d:bT):Prop where
 f:Ae d
 n:d≠[]
 h:d.getD 0 0≠48
theorem Cm {m:Nat} (h:0<m) (e:Int):0<Dt m e:=Nat.mul_pos (Nat.mul_pos h (Nat.two_pow_pos _)) (Nat.pow_pos (by omega))
end Nr
end Go.Eng
namespace Go.Eng
namespace Sh
open Nr (V iD sh top gf rd ns fC)
theorem om {a b p:Nat} (hb:0<b):gf a b=some p ↔ p≤top∧¬fC a b p∧(p=0∨fC a b (p - 1)):=by
 constructor
 ·intro h
  classical
  have s1:p≤top∧¬fC a b p∧∀r,r<p→fC a b r:=by
   unfold gf at h
   split at h
   ·rename_i hx
    cases h
    exact hx.choose_spec
   ·cases h
  refine ⟨s1.1,s1.2.1,?_⟩
  by_cases c:p=0
  ·exact .inl c
  ·exact .inr (s1.2.2 _ (by omega))
 ·rintro ⟨h1,h2,h3⟩
  exact Nr.lh hb h1 h2 h3
theorem wT {p N:Nat} {k:Int} (hp:0<p):rd N k=some p ↔ p≤top ∧
  (2 * (N * 10 ^ k.toNat * 2 ^ 1074)<ns p * 10 ^ (-k).toNat∨(2 * (N * 10 ^ k.toNat * 2 ^ 1074)=ns p * 10 ^ (-k).toNat∧p % 2=0)) ∧
  (ns (p - 1) * 10 ^ (-k).toNat<2 * (N * 10 ^ k.toNat * 2 ^ 1074)∨(ns (p - 1) * 10 ^ (-k).toNat=2 * (N * 10 ^ k.toNat * 2 ^ 1074)∧p % 2=0)):=by
 unfold rd
 rw [om (Nr.dC _)]
 unfold fC
 have e:=Nr.mul_two (a:=N * 10 ^ k.toNat) Nr.iG
 rw [e]
 generalize 2 * (N * 10 ^ k.toNat * 2 ^ 1074)=X
 generalize ns p * 10 ^ (-k).toNat=Y
 generalize ns (p - 1) * 10 ^ (-k).toNat=Z
 constructor
 ·rintro ⟨h1,h2,h3⟩
  refine ⟨h1,?_,?_⟩ <;> omega
 ·rintro ⟨h1,h2,h3⟩
  refine ⟨h1,?_,.inr ?_⟩ <;> omega
theorem pB {p:Nat} (hp:0<p):0<iD p:=by unfold iD;split <;> omega
theorem Ep {m s:Nat} (K:Nat):m * 2 ^ ((s:Int) - K).toNat * 2 ^ K=m * 2 ^ s * 2 ^ (-((s:Int) - K)).toNat:=by
 rw [Nat.mul_assoc,Nat.mul_assoc,←Nat.pow_add,←Nat.pow_add]
 congr 2
 omega
theorem Hg (p:Nat):gI p * 2 ^ 1074=V p * ff p:=Ep 1074
theorem iA (p:Nat):0<ff p:=Nat.two_pow_pos _
theorem Cp {p:Nat} (hp:0<p):10 ^ (dx p - 1).toNat * ff p≤gI p * 10 ^ (-(dx p - 1)).toNat∧gI p * 10 ^ (-(dx p)).toNat<10 ^ (dx p).toNat * ff p:=by
 have hm:=pB hp
 generalize he:(sh p:Int) - 1074=e
 obtain ⟨d1,d2,d3,d4⟩:=Nr.oU (Nr.Dt (iD p) e)
 have hN:=Nr.Cm hm e
 have g1:=Nr.qa d1 d3 (d4 hN)
 have g2:=Nr.nj _ d1
 rw [d2] at g1 g2
 have hl:=List.length_pos_iff.2 d3
 have hx:dx p=(Nr.dec (Nr.Dt (iD p) e)).length+min e 0:=by unfold dx;rw [he];rfl
 have ea:gI p=iD p * 2 ^ e.toNat:=by unfold gI;rw [he]
 have eb:ff p=2 ^ (-e).toNat:=by unfold ff;rw [he]
 have eN:Nr.Dt (iD p) e=iD p * 2 ^ e.toNat * 5 ^ (-e).toNat:=rfl
 generalize Nr.Dt (iD p) e=N at *
 generalize (Nr.dec N).length=L at *
 rw [ea,eb,hx]
 have t25:∀k:Nat,(10:Nat) ^ k=2 ^ k * 5 ^ k:=fun k=>by rw [←Nat.mul_pow]
 by_cases c:0≤e
 ·have h0:(-e).toNat=0:=by omega
  rw [h0,Nat.pow_zero,Nat.mul_one] at eN ⊢
  rw [Nat.mul_one]
  rw [←eN,show ((L:Int)+min e 0 - 1).toNat=L - 1 by omega,show (-((L:Int)+min e 0 - 1)).toNat=0 by omega,show (-((L:Int)+min e 0)).toNat=0 by omega,show ((L:Int)+min e 0).toNat=L by omega,Nat.pow_zero,Nat.mul_one]
  exact ⟨g1,g2⟩
 ·have h0:e.toNat=0:=by omega
  rw [h0,Nat.pow_zero,Nat.mul_one] at eN ⊢
  have Sz:min e 0=e:=by omega
  rw [Sz]
  generalize hj:(-e).toNat=j at *
  have Sn:0<(5:Nat) ^ j:=Nat.pow_pos (by omega)
  have key:∀a b:Nat,a+j=L - 1+b→10 ^ a * 2 ^ j≤iD p * 10 ^ b:=fun a b DM=>by
   refine Nat.le_of_mul_le_mul_right (c:=5 ^ j) ?_ Sn
   rw [Nat.mul_assoc,←t25,←Nat.pow_add,DM,Nat.pow_add,Nat.mul_right_comm,←eN]
   exact ar _ g1
  have Rf:∀a b:Nat,a+j=L+b→iD p * 10 ^ b<10 ^ a * 2 ^ j:=fun a b DM=>by
   refine Nat.lt_of_mul_lt_mul_right (a:=5 ^ j) ?_
   rw [Nat.mul_assoc (10 ^ a),←t25,←Nat.pow_add,DM,Nat.pow_add,Nat.mul_right_comm,←eN]
   exact Nat.mul_lt_mul_of_pos_right g2 (Nr.dC _)
  exact ⟨key _ _ (by omega),Rf _ _ (by omega)⟩
theorem iL {p N:Nat} {k:Int} (h:rd N k=some p):reads p N k=some (Nr.cT (Nr.dec N),(Nr.dec N).length+k):=aH h
theorem j8 {p N:Nat} {k:Int} (h:¬rd N k=some p):reads p N k=none:=aD h
theorem Gd {p:Nat} (hp:0<p):V p≤9007199254740992 * 2 ^ sh (p - 1)∧V p=V (p - 1)+2 ^ sh (p - 1):=by
 have h1:=Nr.xO (p - 1)
 have h2:=Nr.u0 (p - 1)
 rw [show p - 1+1=p by omega] at h1 h2
 refine ⟨?_,h2⟩
 rw [h1]
 exact ar _ (by have:=Nr.qc (p - 1);omega)
theorem Mj (p:Nat):V p<9007199254740992 * 2 ^ sh p∧V (p+1)=V p+2 ^ sh p :=
 ⟨Nat.mul_lt_mul_of_pos_right (Nr.qc p) (Nat.two_pow_pos _),Nr.u0 p⟩
theorem unit_eq {a b V' K P Q:Nat} {S T:Nat} (h:a * K=V' * b) (hP:P=a * T) (hQ:Q=b * S) (N:Nat):N * S * K * b=N * Q * K∧P * K=V' * T * b:=by
 constructor
 ·rw [hQ];simp only [Nat.mul_assoc,Nat.mul_comm,Nat.mul_left_comm]
 ·rw [hP,Nat.mul_right_comm,h,Nat.mul_right_comm]
end Sh
end Go.Eng
namespace Go.Eng
namespace Sh
open Nr (V iD sh top gf rd ns fC)
theorem pY {b:Nat} (h:0<b) (k:Int):0<tB b k:=Nat.mul_pos h (Nr.dC _)
theorem HX {p:Nat} (hp:0<p) (ht:p≤top) (x n:Int) (K:Nat) (hK:gI p * K=V p * ff p) (W6:K=2 ^ 1074) (N:Nat):rd N (x - n)=some p ↔
  (2 * (N * tB (ff p) (n - x) * K)<2 * (tA (gI p) (n - x) * K)+2 ^ sh p * 10 ^ (n - x).toNat * ff p∨(2 * (N * tB (ff p) (n - x) * K)=2 * (tA (gI p) (n - x) * K)+2 ^ sh p * 10 ^ (n - x).toNat * ff p∧p % 2=0)) ∧
  (2 * (tA (gI p) (n - x) * K)<2 * (N * tB (ff p) (n - x) * K)+2 ^ sh (p - 1) * 10 ^ (n - x).toNat * ff p∨(2 * (tA (gI p) (n - x) * K)=2 * (N * tB (ff p) (n - x) * K)+2 ^ sh (p - 1) * 10 ^ (n - x).toNat * ff p∧p % 2=0)):=by
 rw [wT hp,←W6]
 have hb:=iA p
 rw [show (-(x - n))=n - x by omega]
 obtain ⟨u1,u2⟩:=unit_eq (S:=10 ^ (x - n).toNat) (T:=10 ^ (n - x).toNat) (Q:=tB (ff p) (n - x)) (P:=tA (gI p) (n - x)) hK rfl (by unfold tB;rw [show (-(n - x))=x - n by omega]) N
 rw [u2,←u1]
 have m1:ns p=2 * V p+2 ^ sh p:=by rw [Nr.lD,Nr.u0];omega
 have m2:2 * V p=ns (p - 1)+2 ^ sh (p - 1):=by
  have:=(Gd hp).2
  rw [Nr.lD,show p - 1+1=p by omega];omega
 generalize 10 ^ (n - x).toNat=T
 generalize hX:N * 10 ^ (x - n).toNat * K=X
 have c1:ns p * T * ff p=2 * (V p * T * ff p)+2 ^ sh p * T * ff p:=by rw [m1];simp only [Nat.add_mul,Nat.mul_assoc]
 have c2:2 * (V p * T * ff p)=ns (p - 1) * T * ff p+2 ^ sh (p - 1) * T * ff p:=by
  have:2 * (V p * T * ff p)=2 * V p * T * ff p:=by simp only [Nat.mul_assoc]
  rw [this,m2];simp only [Nat.add_mul]
 have c3:2 * (X * ff p)=2 * X * ff p:=by rw [Nat.mul_assoc]
 rw [c3,c2,Nat.add_lt_add_iff_right,Nat.add_right_cancel_iff,←c2,←c1]
 rw [Nat.mul_lt_mul_right hb,Nat.mul_lt_mul_right hb]
 have e1:2 * X * ff p=ns p * T * ff p ↔ 2 * X=ns p * T:=⟨Nat.eq_of_mul_eq_mul_right hb,fun h=>by rw [h]⟩
 have e2:ns (p - 1) * T * ff p=2 * X * ff p ↔ ns (p - 1) * T=2 * X:=⟨Nat.eq_of_mul_eq_mul_right hb,fun h=>by rw [h]⟩
 rw [e1,e2]
 exact ⟨fun h=>h.2,fun h=>⟨ht,h⟩⟩
theorem yi {a b:Nat} {y k m:Int} (hm:0≤m) (h:m=y+k):(10 ^ y.toNat * b≤a * 10 ^ (-y).toNat→10 ^ m.toNat * tB b k≤tA a k)∧(a * 10 ^ (-y).toNat<10 ^ y.toNat * b→tA a k<10 ^ m.toNat * tB b k):=by
 have he:m.toNat+(-k).toNat+(-y).toNat=y.toNat+k.toNat:=by omega
 have l:10 ^ m.toNat * tB b k * 10 ^ (-y).toNat=10 ^ y.toNat * b * 10 ^ k.toNat:=by
  unfold tB
  rw [←Nat.mul_assoc,Nat.mul_right_comm (10 ^ m.toNat),←Nat.pow_add,Nat.mul_right_comm,←Nat.pow_add,he,Nat.pow_add,Nat.mul_right_comm]
 have r:tA a k * 10 ^ (-y).toNat=a * 10 ^ (-y).toNat * 10 ^ k.toNat:=by unfold tA;rw [Nat.mul_right_comm]
 have h1:=Nr.dC (-y).toNat
 have h2:=Nr.dC k.toNat
 constructor
 ·intro h
  refine Nat.le_of_mul_le_mul_right ?_ h1
  rw [l,r];exact ar _ h
 ·intro h
  refine Nat.lt_of_mul_lt_mul_right (a:=10 ^ (-y).toNat) ?_
  rw [l,r];exact Nat.mul_lt_mul_of_pos_right h h2
theorem qp {p:Nat} (hp:0<p) {n:Int} (hn:1≤n):10 ^ (n - 1).toNat * tB (ff p) (n - dx p)≤tA (gI p) (n - dx p)∧tA (gI p) (n - dx p)<10 ^ n.toNat * tB (ff p) (n - dx p):=by
 obtain ⟨h1,h2⟩:=Cp hp
 exact ⟨(yi (y:=dx p - 1) (k:=n - dx p) (m:=n - 1) (by omega) (by omega)).1 h1,(yi (y:=dx p) (k:=n - dx p) (m:=n) (by omega) (by omega)).2 h2⟩
theorem sH {p a b:Nat} {x n:Int} (h:rd (tA a (n - x) / tB b (n - x)) (x - n)=some p∨rd (tA a (n - x) / tB b (n - x)+1) (x - n)=some p):(some_ p a b x n).isSome=true:=by
 unfold some_
 simp only
 split
 ·rename_i c;exact c.1
 ·rename_i c
  rcases h with h | h
  ·by_cases h2:rd (tA a (n - x) / tB b (n - x)+1) (x - n)=some p
   ·rw [iL h2];rfl
   ·exact (c ⟨by rw [iL h];rfl,.inl (by rw [j8 h2];rfl)⟩).elim
  ·rw [iL h];rfl
theorem KE {p:Nat} (hp:0<p) (ht:p≤top):(some_ p (gI p) (ff p) (dx p) 17).isSome=true:=by
 obtain ⟨r1,r2⟩:=qp hp (n:=17) (by omega)
 have hQ:=pY (iA p) (17 - dx p)
 obtain ⟨K,hK⟩:∃K,K=2 ^ 1074:=⟨_,rfl⟩
 have Us:0<K:=by rw [hK];exact Nat.two_pow_pos 1074
 have DM:=Hg p
 rw [←hK] at DM
 have gd:=(Gd hp).1
 have gu:=(Mj p).1
 have ru:=HX hp ht (dx p) 17 K DM hK
 have W2:tA (gI p) (17 - dx p) * K=V p * 10 ^ (17 - dx p).toNat * ff p:=by
  unfold tA;rw [Nat.mul_right_comm,DM,Nat.mul_right_comm]
 refine sH ?_
 have hT:0<10 ^ (17 - dx p).toNat * ff p:=Nat.mul_pos (Nr.dC _) (iA p)
 have bd:V p * 10 ^ (17 - dx p).toNat * ff p≤9007199254740992 * (2 ^ sh (p - 1) * 10 ^ (17 - dx p).toNat * ff p):=by
  rw [Nat.mul_assoc (V p),Nat.mul_assoc (2 ^ sh (p - 1)),←Nat.mul_assoc 9007199254740992]
  exact ar _ gd
 have bu:V p * 10 ^ (17 - dx p).toNat * ff p<9007199254740992 * (2 ^ sh p * 10 ^ (17 - dx p).toNat * ff p):=by
  rw [Nat.mul_assoc (V p),Nat.mul_assoc (2 ^ sh p),←Nat.mul_assoc 9007199254740992]
  exact Nat.mul_lt_mul_of_pos_right gu hT
 rw [←W2] at bd bu
 generalize tA (gI p) (17 - dx p)=P at *
 generalize tB (ff p) (17 - dx p)=Q at *
 generalize 2 ^ sh (p - 1) * 10 ^ (17 - dx p).toNat * ff p=D at *
 generalize 2 ^ sh p * 10 ^ (17 - dx p).toNat * ff p=G at *
 have Xq:(10:Nat) ^ ((17:Int) - 1).toNat=10000000000000000:=by decide
 rw [Xq] at r1
 have hr:=Nat.mod_lt P hQ
 have Dh:=Nat.div_add_mod P Q
 have q1:10000000000000000 * (Q * K)≤P * K:=by rw [←Nat.mul_assoc];exact ar K r1
 have Y8:0<Q * K:=Nat.mul_pos hQ Us
 have W1:P * K=P / Q * Q * K+P % Q * K:=by rw [←Nat.add_mul,Nat.mul_comm (P / Q)];rw [Dh]
 have YT:P % Q * K<Q * K:=Nat.mul_lt_mul_of_pos_right hr Us
 by_cases c:2 * (P % Q)≤Q
 ·left
  have c':2 * (P % Q * K)≤Q * K:=by rw [←Nat.mul_assoc];exact ar K c
  rw [ru]
  exact ⟨.inl (by omega),.inl (by omega)⟩
 ·right
  have c':Q * K≤2 * (P % Q * K):=by rw [←Nat.mul_assoc];exact ar K (by omega)
  have hN:(P / Q+1) * Q * K=P / Q * Q * K+Q * K:=by rw [Nat.add_mul,Nat.add_mul,Nat.one_mul]
  rw [ru,hN]
  exact ⟨.inl (by omega),.inl (by omega)⟩
theorem uX {a b c d p:Nat} (hb:0<b) (hd:0<d) (h:a * d≤c * b) (h1:fC a b p):fC c d p:=by
 unfold fC at h1 ⊢
 have h2:ns p * b * d≤a * Nr.fS * d:=ar _ (by omega)
 have h3:a * Nr.fS * d≤c * Nr.fS * b:=by
  rw [Nat.mul_right_comm,Nat.mul_right_comm c];exact ar _ h
 have h4:ns p * d * b=ns p * b * d:=Nat.mul_right_comm ..
 have h5:ns p * d * b≤c * Nr.fS * b:=by omega
 have h6:=Nat.le_of_mul_le_mul_right h5 hb
 rcases h1 with h1 | ⟨h1,h7⟩
 ·left
  refine Nat.lt_of_mul_lt_mul_right (a:=b) ?_
  have:=Nat.mul_lt_mul_of_pos_right h1 hd
  omega
 ·rcases Nat.lt_or_eq_of_le h6 with h8 | h8
  ·exact .inl h8
  ·exact .inr ⟨h8,h7⟩
theorem qI {a b c d e f p:Nat} (hb:0<b) (hd:0<d) (hf:0<f) (h1:gf a b=some p) (h2:gf c d=some p) (g1:a * f≤e * b) (g2:e * d≤c * f):gf e f=some p:=by
 obtain ⟨a1,a2,a3⟩:=(om hb).1 h1
 obtain ⟨b1,b2,b3⟩:=(om hd).1 h2
 refine (om hf).2 ⟨a1,fun h=>b2 (uX hf hd g2 h),?_⟩
 rcases a3 with h | h
 ·exact .inl h
 ·exact .inr (uX hb hf g1 h)
theorem uD {p:Nat} (ht:p≤top):gf (gI p) (ff p)=some p:=by
 classical
 have h:=Hg p
 have hb:=iA p
 have e:=Nr.mul_two (a:=gI p) Nr.iG
 have hv:=Nat.mul_lt_mul_of_pos_right (Nr.lp p) hb
 refine (om hb).2 ⟨ht,?_,?_⟩
 ·unfold fC
  rw [e,h,Nr.lD,Nat.add_mul]
  omega
 ·by_cases c:p=0
  ·exact .inl c
  ·right
   left
   have hv:=Nat.mul_lt_mul_of_pos_right (Nr.lp (p - 1)) hb
   rw [show p - 1+1=p by omega] at hv
   rw [e,h,Nr.lD,Nat.add_mul,show p - 1+1=p by omega]
   omega
end Sh
end Go.Eng
namespace Go.Eng
namespace Sh
open Nr (V iD sh top gf rd ns fC)
theorem go_hit {p f i:Nat} {r:bT × Int} (h:some_ p (gI p) (ff p) (dx p) i=some r):go p (f+1) i=r:=by rw [go_succ,h];rfl
theorem go_miss {p f i:Nat} (h:some_ p (gI p) (ff p) (dx p) i=none):go p (f+1) i=go p f (i+1):=by rw [go_succ,h];rfl
theorem go_some {p:Nat} {r:bT × Int} {n:Nat} (h4:some_ p (gI p) (ff p) (dx p) n=some r):∀(m i f:Nat),i+m=n→m<f→(∀j:Nat,i≤j→j<n→some_ p (gI p) (ff p) (dx p) j=none)→go p f i=r:=by
 intro m
 induction m with
 | zero =>
  intro i f h1 h2 h3
  have h1:i=n:=h1
  obtain ⟨f,rfl⟩:∃g,f=g+1:=⟨f - 1,by omega⟩
  rw [h1];exact go_hit h4
 | succ m ih =>
  intro i f h1 h2 h3
  obtain ⟨f,rfl⟩:∃g,f=g+1:=⟨f - 1,by omega⟩
  rw [go_miss (h3 i (Nat.le_refl _) (by omega))]
  exact ih (i+1) f (by omega) (by omega) (fun j a b=>h3 j (by omega) b)
theorem first {p:Nat} (hp:0<p) (ht:p≤top):∃n:Nat,1≤n∧n≤17∧(∀j:Nat,1≤j→j<n→some_ p (gI p) (ff p) (dx p) j=none)∧some_ p (gI p) (ff p) (dx p) n=some (digits p):=by
 have Ka:=KE hp ht
 have key:∀m i:Nat,i+m=17→1≤i→(∀j:Nat,1≤j→j<i→some_ p (gI p) (ff p) (dx p) j=none)→∃n:Nat,1≤n∧n≤17∧(∀j:Nat,1≤j→j<n→some_ p (gI p) (ff p) (dx p) j=none)∧(some_ p (gI p) (ff p) (dx p) n).isSome=true:=by
  intro m
  induction m with
  | zero =>
   intro i hi h1 hn
   have hi:i=17:=hi
   exact ⟨17,by omega,by omega,by rw [←hi];exact hn,Ka⟩
  | succ m ih =>
   intro i hi h1 hn
   cases hs:some_ p (gI p) (ff p) (dx p) i with
   | some r=>exact ⟨i,h1,by omega,hn,by rw [hs];rfl⟩
   | none =>
    refine ih (i+1) (by omega) (by omega) fun j a b=>?_
    by_cases c:j=i
    ·rw [c];exact hs
    ·exact hn j a (by omega)
 obtain ⟨n,n1,n2,n3,n4⟩:=key 16 1 rfl (by omega) (fun j a b=>by omega)
 obtain ⟨r,hr⟩:=Option.isSome_iff_exists.1 n4
 refine ⟨n,n1,n2,n3,?_⟩
 have hg:digits p=r:=go_some hr (n - 1) 1 17 (by omega) (by omega) n3
 rw [hr,hg]
theorem rY {a b:Nat} (h:10 ^ a<10 ^ b):a<b:=by
 rcases Nat.lt_or_ge a b with c | c
 ·exact c
 ·have:=Nr.jE c;omega
theorem HM {p:Nat} (hp:0<p) {D:bT} (hD:Nr.nS D) {kd:Int} (h:rd (Nr.num D) kd=some p):(some_ p (gI p) (ff p) (dx p) (D.length:Int)).isSome=true:=by
 have Sw:=List.length_pos_iff.2 hD.n
 have ht:=((wT hp).1 h).1
 have lo:=Nr.qa hD.f.1 hD.n hD.h
 have hi:=Nr.nj D hD.f.1
 obtain ⟨r1,r2⟩:=qp hp (n:=D.length) (by omega)
 have hQ:=pY (iA p) (D.length - dx p)
 have hx:=uD ht
 have hb:=iA p
 generalize hM:Nr.num D=M at *
 generalize hL:D.length=n at *
 have eA:tA (gI p) ((n:Int) - dx p)=gI p * 10 ^ ((n:Int) - dx p).toNat:=rfl
 have eB:tB (ff p) ((n:Int) - dx p)=ff p * 10 ^ (dx p - n).toNat:=by unfold tB;rw [show -((n:Int) - dx p)=dx p - n by omega]
 rw [show ((n:Int) - 1).toNat=n - 1 by omega] at r1
 rw [aw] at r2
 have nk : -(dx p - (n:Int))=n - dx p:=by omega
 refine sH ?_
 generalize hP:tA (gI p) ((n:Int) - dx p)=P at *
 generalize Y9:tB (ff p) ((n:Int) - dx p)=Q at *
 generalize hk:dx p - (n:Int)=k at *
 rw [←nk] at eA
 have Dh:=Nat.div_add_mod P Q
 have hr:=Nat.mod_lt P hQ
 have N1:10 ^ (n - 1)≤P / Q:=(Nat.le_div_iff_mul_le hQ).2 r1
 have N2:P / Q<10 ^ n:=(Nat.div_lt_iff_lt_mul hQ).2 r2
 have hw:=h
 unfold rd at hw ⊢
 have pk:=Nr.dC (-k).toNat
 have pd:=Nr.dC (-kd).toNat
 have YG:=Nr.dC k.toNat
 have YH:=Nr.dC kd.toNat
 by_cases c:M * 10 ^ kd.toNat * ff p≤gI p * 10 ^ (-kd).toNat
 ·left
  have RX:kd≤k:=by
   have s1:M * 10 ^ kd.toNat * ff p * 10 ^ (-k).toNat≤P * 10 ^ (-kd).toNat:=by
    rw [eA,Nat.mul_right_comm (gI p)];exact ar _ c
   have s2:P * 10 ^ (-kd).toNat<10 ^ n * Q * 10 ^ (-kd).toNat:=Nat.mul_lt_mul_of_pos_right r2 pd
   have s3:10 ^ (n - 1) * 10 ^ kd.toNat * ff p * 10 ^ (-k).toNat≤M * 10 ^ kd.toNat * ff p * 10 ^ (-k).toNat:=ar _ (ar _ (ar _ lo))
   have s4:10 ^ (n - 1+kd.toNat+(-k).toNat) * ff p<10 ^ (n+k.toNat+(-kd).toNat) * ff p:=by
    rw [Nat.pow_add,Nat.pow_add,Nat.pow_add,Nat.pow_add]
    rw [eB] at s2
    have e1:10 ^ (n - 1) * 10 ^ kd.toNat * 10 ^ (-k).toNat * ff p=10 ^ (n - 1) * 10 ^ kd.toNat * ff p * 10 ^ (-k).toNat:=Nat.mul_right_comm ..
    have e2:10 ^ n * 10 ^ k.toNat * 10 ^ (-kd).toNat * ff p=10 ^ n * (ff p * 10 ^ k.toNat) * 10 ^ (-kd).toNat:=by
     simp only [Nat.mul_assoc,Nat.mul_comm,Nat.mul_left_comm]
    rw [e1,e2]
    exact Nat.lt_of_le_of_lt s3 (Nat.lt_of_le_of_lt s1 s2)
   have:=rY (Nat.lt_of_mul_lt_mul_right s4)
   omega
  refine qI pd hb pk hw hx ?_ ?_
  ·rcases Int.lt_or_eq_of_le RX with d | d
   ·have g1:M * 10 ^ kd.toNat * 10 ^ (-k).toNat≤10 ^ n * 10 ^ kd.toNat * 10 ^ (-k).toNat:=ar _ (ar _ (Nat.le_of_lt hi))
    have g2:10 ^ (n - 1) * 10 ^ k.toNat * 10 ^ (-kd).toNat≤P / Q * 10 ^ k.toNat * 10 ^ (-kd).toNat:=ar _ (ar _ N1)
    refine Nat.le_trans g1 (Nat.le_trans ?_ g2)
    rw [←Nat.pow_add,←Nat.pow_add,←Nat.pow_add,←Nat.pow_add]
    exact Nr.jE (by omega)
   ·subst d
    refine ar _ (ar _ ?_)
    rw [Nat.le_div_iff_mul_le hQ,eA,eB,←Nat.mul_assoc,Nat.mul_right_comm];exact c
  ·rw [←eA,Nat.mul_assoc,Nat.mul_comm (10 ^ k.toNat),←eB,Nat.mul_comm]
   omega
 ·right
  have c:=Nat.lt_of_not_le c
  have RX:k≤kd:=by
   have s1:P * 10 ^ (-kd).toNat<M * 10 ^ kd.toNat * ff p * 10 ^ (-k).toNat:=by
    rw [eA,Nat.mul_right_comm (gI p)];exact Nat.mul_lt_mul_of_pos_right c pk
   have s2:10 ^ (n - 1) * Q * 10 ^ (-kd).toNat≤P * 10 ^ (-kd).toNat:=ar _ r1
   have s3:M * 10 ^ kd.toNat * ff p * 10 ^ (-k).toNat≤10 ^ n * 10 ^ kd.toNat * ff p * 10 ^ (-k).toNat:=ar _ (ar _ (ar _ (Nat.le_of_lt hi)))
   have s4:10 ^ (n - 1+k.toNat+(-kd).toNat) * ff p<10 ^ (n+kd.toNat+(-k).toNat) * ff p:=by
    rw [Nat.pow_add,Nat.pow_add,Nat.pow_add,Nat.pow_add]
    rw [eB] at s2
    have e1:10 ^ n * 10 ^ kd.toNat * 10 ^ (-k).toNat * ff p=10 ^ n * 10 ^ kd.toNat * ff p * 10 ^ (-k).toNat:=Nat.mul_right_comm ..
    have e2:10 ^ (n - 1) * 10 ^ k.toNat * 10 ^ (-kd).toNat * ff p=10 ^ (n - 1) * (ff p * 10 ^ k.toNat) * 10 ^ (-kd).toNat:=by
     simp only [Nat.mul_assoc,Nat.mul_comm,Nat.mul_left_comm]
    rw [e1,e2]
    exact Nat.lt_of_le_of_lt s2 (Nat.lt_of_lt_of_le s1 s3)
   have:=rY (Nat.lt_of_mul_lt_mul_right s4)
   omega
  refine qI hb pd pk hx hw ?_ ?_
  ·rw [←eA,Nat.mul_assoc,Nat.mul_comm (10 ^ k.toNat),←eB,Nat.add_mul,Nat.one_mul,Nat.mul_comm (P / Q)]
   omega
  ·rcases Int.lt_or_eq_of_le RX with d | d
   ·have g1:(P / Q+1) * 10 ^ k.toNat * 10 ^ (-kd).toNat≤10 ^ n * 10 ^ k.toNat * 10 ^ (-kd).toNat:=ar _ (ar _ N2)
    have g2:10 ^ (n - 1) * 10 ^ kd.toNat * 10 ^ (-k).toNat≤M * 10 ^ kd.toNat * 10 ^ (-k).toNat:=ar _ (ar _ lo)
    refine Nat.le_trans g1 (Nat.le_trans ?_ g2)
    rw [←Nat.pow_add,←Nat.pow_add,←Nat.pow_add,←Nat.pow_add]
    exact Nr.jE (by omega)
   ·subst d
    refine ar _ (ar _ ?_)
    refine (Nat.div_lt_iff_lt_mul hQ).2 ?_
    rw [eA,eB,←Nat.mul_assoc,Nat.mul_right_comm];exact c
theorem Az {M:Nat} (h:0<M):Nr.cT (Nr.dec (10 * M))=Nr.cT (Nr.dec M):=by
 rw [Nr.qY (show ¬10 * M<10 by omega),Nr.iK,show 10 * M % 10=0 by omega,aH (by rfl),show 10 * M / 10=M by omega]
theorem uk:∀n:Nat,Nr.cT (Nr.dec (10 ^ n))=[49]
 | 0=>by decide +kernel
 | n+1=>by rw [Nat.pow_succ,Nat.mul_comm,Az (Nr.dC n),uk n]
theorem CG (d:bT):(Nr.cT d).length≤d.length:=by
 obtain ⟨t,h,_⟩:=Nr.gW d
 have:=congrArg List.length h
 rw [aq] at this;omega
theorem zW {N n:Nat} (hn:1≤n) (h:N≤10 ^ n):(Nr.cT (Nr.dec N)).length≤n:=by
 rcases Nat.lt_or_eq_of_le h with c | c
 ·exact Nat.le_trans (CG _) (Nr.nG n N c hn)
 ·rw [c,uk];exact hn
theorem vN {N:Nat} {k:Int} (h:0<N) (hl:(Nr.dec N).length≤300):Nr.read (Nr.cT (Nr.dec N)) ((Nr.dec N).length+k)=rd N k:=by
 obtain ⟨d1,d2,d3,d4⟩:=Nr.oU N
 obtain ⟨t,t1,t2⟩:=Nr.gW (Nr.dec N)
 have hn:=congrArg Nr.num t1
 rw [Nr.fj,Nr.iS,List.length_replicate,Nat.add_zero,d2] at hn
 have hL:=congrArg List.length t1
 rw [aq,List.length_replicate] at hL
 have ne:Nr.cT (Nr.dec N)≠[]:=by
  intro e0;rw [e0,show Nr.num []=0 from rfl,Nat.zero_mul] at hn;omega
 have:=List.length_pos_iff.2 ne
 unfold Nr.read Nr.valid
 rw [(Nr.eF d1 t1).1,ae (show 1≤(Nr.cT (Nr.dec N)).length∧(Nr.cT (Nr.dec N)).length≤300 by omega),aH (by rfl)]
 have e:rd N k=rd (Nr.num (Nr.cT (Nr.dec N)) * 10 ^ t) k:=by rw [←hn]
 rw [e,Nr.oh,show ((Nr.dec N).length:Int)+k - (Nr.cT (Nr.dec N)).length=k+t by omega]
theorem CE {p a b:Nat} {x n:Int} {r:bT × Int} (h:some_ p a b x n=some r):∃N,(N=tA a (n - x) / tB b (n - x)∨N=tA a (n - x) / tB b (n - x)+1)∧rd N (x - n)=some p∧r=(Nr.cT (Nr.dec N),(Nr.dec N).length+(x - n)):=by
 unfold some_ at h
 simp only at h
 have key:∀N,reads p N (x - n)=some r→rd N (x - n)=some p∧r=(Nr.cT (Nr.dec N),(Nr.dec N).length+(x - n)):=fun N hN=>by
  unfold reads at hN
  split at hN
  ·rename_i c;cases hN;exact ⟨c,rfl⟩
  ·cases hN
 split at h
 ·exact ⟨_,.inl rfl,key _ h⟩
 ·exact ⟨_,.inr rfl,key _ h⟩
theorem su {p:Nat} (hp:0<p) (ht:p≤top):∃n N:Nat,1≤n∧n≤17∧0<N∧N≤10 ^ n∧rd N (dx p - n)=some p∧digits p=(Nr.cT (Nr.dec N),(Nr.dec N).length+(dx p - n)) ∧
  (∀j:Nat,1≤j→j<n→some_ p (gI p) (ff p) (dx p) j=none):=by
 obtain ⟨n,n1,n2,n3,n4⟩:=first hp ht
 obtain ⟨N,N1,N2,N3⟩:=CE n4
 obtain ⟨r1,r2⟩:=qp hp (n:=n) (by omega)
 have hQ:=pY (iA p) (n - dx p)
 rw [aw] at r2
 have lo:=(Nat.le_div_iff_mul_le hQ).2 r1
 have hi:=(Nat.div_lt_iff_lt_mul hQ).2 r2
 have:=Nr.dC ((n:Int) - 1).toNat
 refine ⟨n,N,n1,n2,?_,?_,N2,N3,n3⟩ <;> rcases N1 with h | h <;> omega
theorem least {p:Nat} (hp:0<p) {D:bT} (hD:Nr.nS D) {kd:Int} (h:rd (Nr.num D) kd=some p):(digits p).1.length≤D.length:=by
 have ht:=((wT hp).1 h).1
 have hs:=HM hp hD h
 obtain ⟨n,N,n1,n2,n3,n4,n5,n6,n7⟩:=su hp ht
 have hn:n≤D.length:=by
  rcases Nat.lt_or_ge D.length n with c | c
  ·rw [n7 D.length (List.length_pos_iff.2 hD.n) c] at hs;cases hs
  ·exact c
 rw [n6]
 exact Nat.le_trans (zW n1 n4) hn
theorem zO {p:Nat} (hp:0<p) (ht:p≤top):Nr.read (digits p).1 (digits p).2=some p:=by
 obtain ⟨n,N,n1,n2,n3,n4,n5,n6,n7⟩:=su hp ht
 rw [n6,vN n3 ?_,n5]
 refine Nat.le_trans (Nr.nG (n+1) N ?_ (by omega)) (by omega)
 exact Nat.lt_of_le_of_lt n4 (Nat.pow_lt_pow_right (by omega) (by omega))
end Sh
end Go.Eng
namespace Go.Eng
namespace Sh
open Nr (V iD sh top gf rd ns fC)
structure tm (d:bT):Prop where
 dg:d.all Nr.eo=true
 n:d≠[]
 h:d.getD 0 0≠48
theorem tm.fF {c:bT} (h:tm c) (j:Nat):tm (c++List.replicate j 48):=by
 refine ⟨?_,by simp [h.n],?_⟩
 ·rw [List.all_append,h.dg,Bool.true_and]
  rw [aL];intro x hx;rw [List.eq_of_mem_replicate hx];rfl
 ·rw [ak,List.getElem?_append_left (List.length_pos_iff.2 h.n),←ak]
  exact h.h
theorem p9 (c:bT) (j:Nat):Nr.num (c++List.replicate j 48)=Nr.num c * 10 ^ j:=by
 rw [Nr.fj,Nr.iS,List.length_replicate,Nat.add_zero]
theorem rX {d:bT} (h:tm d) {n:Nat} (h1:1≤n) (h2:n≤d.length):tm (d.take n):=by
 refine ⟨(Nr.eF h.dg (List.take_append_drop n d).symm).1,?_,?_⟩
 ·intro e
  have:=congrArg List.length e
  rw [aK,aZ] at this;omega
 ·rw [ak,List.getElem?_take_of_lt (by omega),←ak];exact h.h
end Sh
end Go.Eng
namespace Go.Eng
open Go.IntWalk
namespace Nr
structure Shape (t a b fr ex e:bT):Prop where
 eq:t=a++fr++ex
 a0:a≠[]
 ad:a.all eo=true
 fr:(fr=[]∧b=[])∨(fr=46 :: b∧b≠[])
 bd:b.all eo=true
 ex:(ex=[]∧e=[])∨(∃c,JO c=true∧ex=c :: e∧signed e≠[])
 ed:(signed e).all eo=true
theorem xE {c:UInt8} (h:eo c=true):JO c=false∧c≠46∧c.toNat<128∧([101,69]:bT).contains c=false:=by
 have h1:=gg.1 h
 have fI:∀d:UInt8,d.toNat<48∨57<d.toNat→c≠d:=fun d hd e=>by subst e;omega
 have n1:=fI 101 (by decide)
 have n2:=fI 69 (by decide)
 have n3:=fI 46 (by decide)
 refine ⟨af (by simp [n1,n2]),n3,by omega,by simp [n1,n2]⟩
theorem pN {p:UInt8→Bool} {a b:bT} (ha:a.all p=true) (hb:b=[]∨p (b.getD 0 0)=false):(a++b).takeWhile p=a∧(a++b).dropWhile p=b:=by
 induction a with
 | nil =>
  cases b with
  | nil=>exact ⟨rfl,rfl⟩
  | cons c r =>
   have hc:p c=false:=hb.resolve_left (by simp)
   rw [bj,List.takeWhile_cons,List.dropWhile_cons,aD (by rw [hc];simp),aD (by rw [hc];simp)]
   exact ⟨rfl,rfl⟩
 | cons c r ih =>
  rw [List.all_cons,aa] at ha
  obtain ⟨i1,i2⟩:=ih ha.2
  rw [List.cons_append,List.takeWhile_cons,List.dropWhile_cons,aH ha.1,aH ha.1,i1,i2]
  exact ⟨rfl,rfl⟩
section
variable {s a b fr ex e:bT} (h:Shape (body s) a b fr ex e)
include h
theorem Shape.TP:(a++fr).all (fun c=>!JO c)=true:=by
 rw [List.all_append,aa]
 constructor
 ·exact aL.2 fun x hx=>by rw [(xE (aL.1 h.ad x hx)).1];rfl
 ·rcases h.fr with ⟨h1,_⟩ | ⟨h1,_⟩
  ·rw [h1];rfl
  ·rw [h1,List.all_cons,aa]
   exact ⟨by decide,aL.2 fun x hx=>by rw [(xE (aL.1 h.bd x hx)).1];rfl⟩
theorem Shape.parts:Ie s=a++fr∧tail s=e∧ahead s=a∧behind s=b:=by
 have hx:ex=[]∨(!JO (ex.getD 0 0))=false:=by
  rcases h.ex with ⟨h1,_⟩ | ⟨c,h1,h2,_⟩
  ·exact .inl h1
  ·right;rw [h2];show (!JO c)=false;rw [h1];rfl
 obtain ⟨t1,t2⟩:=pN h.TP hx
 rw [←h.eq] at t1 t2
 have hm:Ie s=a++fr:=t1
 have ht:tail s=ex.drop 1:=by unfold tail;rw [t2]
 have hf:fr=[]∨(fr.getD 0 0 != 46)=false:=by
  rcases h.fr with ⟨h1,_⟩ | ⟨h1,_⟩
  ·exact .inl h1
  ·right;rw [h1];rfl
 have WU:a.all (· != 46)=true:=aL.2 fun x hx=>by
  have:=(xE (aL.1 h.ad x hx)).2.1
  simpa using this
 obtain ⟨u1,u2⟩:=pN WU hf
 refine ⟨hm,?_,?_,?_⟩
 ·rw [ht]
  rcases h.ex with ⟨h1,h2⟩ | ⟨c,h1,h2,_⟩
  ·rw [h1,h2];rfl
  ·rw [h2];rfl
 ·unfold ahead;rw [hm];exact u1
 ·unfold behind;rw [hm,u2]
  rcases h.fr with ⟨h1,h2⟩ | ⟨h1,_⟩
  ·rw [h1,h2];rfl
  ·rw [h1];rfl
theorem Shape.index:Lib.indexAny (body s) [101,69]=if ex=[] then -1 else ((a++fr).length:Int):=by
 have jP:∀(j:Nat) x,j<(a++fr).length→(body s)[j]?=some x→([101,69]:bT).contains x=false:=fun j x hj hx=>by
  rw [h.eq,List.getElem?_append_left hj] at hx
  have:=aL.1 h.TP x (aT hx)
  simp only [Bool.not_eq_true'] at this
  have h2:¬(x=101∨x=69):=of_decide_eq_false this
  simp only [not_or] at h2
  simp [h2.1,h2.2]
 rcases h.ex with ⟨h1,_⟩ | ⟨c,h1,h2,_⟩
 ·rw [aH h1]
  refine Lib.indexAny_none fun j x hj hx=>jP j x ?_ (by assumption)
  rw [h.eq,h1,aU] at *
  first | exact hj | exact hx
 ·rw [aD (by rw [h2];simp)]
  refine Lib.indexAny_hit (i:=(a++fr).length) (x:=c) (fun j x hj hx=>?_) ?_ ?_
  ·first | exact jP j x hj hx | exact jP j x hx hj
  ·rw [h.eq,h2,aJ (Nat.le_refl _),Nat.sub_self];rfl
  ·have hc:c=101∨c=69:=aN h1
   rcases hc with rfl | rfl <;> rfl
end
end Nr
end Go.Eng
namespace Go.Eng
namespace Sh
open Nr (V iD sh top gf rd ns fC eo JO signed run B5 AX body Lv)
theorem vA (n:Int):(fF n).all eo=true:=by
 unfold fF
 rw [aL];intro x hx;rw [List.eq_of_mem_replicate hx];rfl
theorem uW {d:bT} (h:d.all eo=true) (n:Nat):(d.drop n).all eo=true∧(d.take n).all eo=true:=by
 have:=Nr.eF h (List.take_append_drop n d).symm
 exact ⟨this.2,this.1⟩
theorem nx {v:Int} (h:0≤v):Nr.itoa v=Nr.dec v.toNat∧(Nr.itoa v).all eo=true∧Nr.num (Nr.itoa v)=v.toNat∧Nr.itoa v≠[]:=by
 have e:Nr.itoa v=Nr.dec v.toNat:=by rw [Nr.B9,aD (by omega),show v.natAbs=v.toNat by omega]
 obtain ⟨d1,d2,d3,d4⟩:=Nr.oU v.toNat
 rw [e];exact ⟨rfl,d1,d2,d3⟩
theorem Gi {v:Int} (h:0≤v):Nr.zM (45 :: Nr.itoa v)=-v∧signed (45 :: Nr.itoa v)=Nr.itoa v:=by
 obtain ⟨_,d1,d2,d3⟩:=nx h
 have e:signed (45 :: Nr.itoa v)=Nr.itoa v:=by rw [Nr.sI,aH (.inr rfl)]
 refine ⟨?_,e⟩
 unfold Nr.zM
 simp only
 rw [e,d2,aH (by rfl)];omega
theorem Gg {v:Int} (h:0≤v):Nr.zM (43 :: Nr.itoa v)=v∧signed (43 :: Nr.itoa v)=Nr.itoa v:=by
 obtain ⟨_,d1,d2,d3⟩:=nx h
 have e:signed (43 :: Nr.itoa v)=Nr.itoa v:=by rw [Nr.sI,aH (.inl rfl)]
 refine ⟨?_,e⟩
 unfold Nr.zM
 simp only
 rw [e,d2,aD (by show ¬((43:UInt8)=45);decide)];omega
theorem BL {D E:bT} {x y:Int} {j:Nat} (h1:Nr.valid D=true) (h2:Nr.valid E=true) (hn:Nr.num D=Nr.num E * 10 ^ j) (hx:x - D.length+j=y - E.length):Nr.read D x=Nr.read E y:=by
 unfold Nr.read
 rw [aH h1,aH h2,hn,Nr.oh,hx]
theorem tT {D:bT} (h:D.all eo=true) (h1:1≤D.length) (h2:D.length≤300):Nr.valid D=true:=by
 unfold Nr.valid
 rw [h,ae ⟨h1,h2⟩];rfl
theorem tL {v:Int} (h:0≤v) (h2:v<1000):(Nr.itoa v).length≤3:=by
 rw [(nx h).1]
 exact Nr.nG 3 v.toNat (by show v.toNat<1000;omega) (by omega)
theorem A0 {d:bT} (hd:tm d) (hl:d.length≤17) {x:Int} (hx : -900≤x∧x≤900):∃a b fr ex e,Nr.Shape (laid d x) a b fr ex e∧(a=[48]∨a.getD 0 0≠48)∧(laid d x).length≤24∧Nr.read (a++b) ((a.length:Int)+Nr.zM e)=Nr.read d x:=by
 have hn:=List.length_pos_iff.2 hd.n
 have hv:=tT hd.dg hn (by omega)
 unfold laid
 by_cases c1:1≤x∧x≤21∧(d.length:Int)≤x
 ·rw [aH c1]
  have hz:=hd.fF (x - d.length).toNat
  have Ht:(d++fF (x - d.length)).length=x.toNat:=by
   unfold fF;rw [aq,List.length_replicate];omega
  refine ⟨d++fF (x - d.length),[],[],[],[],⟨by simp,hz.n,hz.dg,.inl ⟨rfl,rfl⟩,rfl,.inl ⟨rfl,rfl⟩,rfl⟩,.inr hz.h,by omega,?_⟩
  rw [aU]
  refine BL (j:=(x - d.length).toNat) (tT hz.dg (by omega) (by omega)) hv (p9 d _) ?_
  rw [Ht,show Nr.zM []=0 from rfl];omega
 ·rw [aD c1]
  by_cases c2:1≤x∧x≤21
  ·rw [aH c2]
   have ht:=rX hd (n:=x.toNat) (by omega) (by omega)
   have sW:(d.take x.toNat).length=x.toNat:=by rw [aK];omega
   have F2:(d.drop x.toNat).length=d.length - x.toNat:=bm ..
   refine ⟨d.take x.toNat,d.drop x.toNat,46 :: d.drop x.toNat,[],[],⟨by simp,ht.n,ht.dg,.inr ⟨rfl,?_⟩,(uW hd.dg _).1,.inl ⟨rfl,rfl⟩,rfl⟩,.inr ht.h,?_,?_⟩
   ·intro e;rw [e,aZ] at F2;omega
   ·rw [aq,aq,az,sW,F2];omega
   ·rw [List.take_append_drop,sW,show Nr.zM []=0 from rfl,show ((x.toNat:Nat):Int)+0=x by omega]
  ·rw [aD c2]
   by_cases c3 : -5≤x∧x≤0
   ·rw [aH c3]
    have Ht:(fF (-x)++d).length=(-x).toNat+d.length:=by
     unfold fF;rw [aq,List.length_replicate]
    have RZ:(fF (-x)++d).all eo=true:=by rw [List.all_append,vA,hd.dg];rfl
    refine ⟨[48],fF (-x)++d,46 :: (fF (-x)++d),[],[],⟨by simp,by simp,by rfl,.inr ⟨rfl,?_⟩,RZ,.inl ⟨rfl,rfl⟩,rfl⟩,.inl rfl,?_,?_⟩
    ·intro e;rw [e,aZ] at Ht;omega
    ·rw [aq,Ht];show 2+_≤24;omega
    ·have hd1:([48]++(fF (-x)++d)).all eo=true:=by rw [List.all_append,RZ];rfl
     have T6:([48]++(fF (-x)++d)).length=1+((-x).toNat+d.length):=by rw [aq,Ht];rfl
     refine BL (j:=0) (tT hd1 (by omega) (by omega)) hv ?_ ?_
     ·rw [Nr.fj,Nr.fj]
      have:Nr.num (fF (-x))=0:=Nr.iS _
      rw [this,show Nr.num [48]=0 by decide];omega
     ·rw [T6,show Nr.zM []=0 from rfl,az];omega
   ·rw [aD c3]
    have ht:=rX hd (n:=1) (by omega) hn
    have sW:(d.take 1).length=1:=by rw [aK];omega
    have F2:(d.drop 1).length=d.length - 1:=bm ..
    have IJ:((if 1<d.length then 46 :: d.drop 1 else []:bT)=[]∧d.drop 1=[])∨((if 1<d.length then 46 :: d.drop 1 else []:bT)=46 :: d.drop 1∧d.drop 1≠[]):=by
     by_cases k:1<d.length
     ·right;rw [aH k];refine ⟨rfl,fun e=>?_⟩;rw [e,aZ] at F2;omega
     ·left;rw [aD k];exact ⟨rfl,List.length_eq_zero_iff.1 (by omega)⟩
    have MV:(if 1<d.length then 46 :: d.drop 1 else []:bT).length≤17:=by
     split
     ·rw [aP,F2];omega
     ·simp
    generalize hF:(if 1<d.length then 46 :: d.drop 1 else []:bT)=F at *
    by_cases c4:x<1
    ·rw [aH c4]
     obtain ⟨i1,i2,i3,i4⟩:=nx (v:=1 - x) (by omega)
     obtain ⟨e1,e2⟩:=Gi (v:=1 - x) (by omega)
     have il:=tL (v:=1 - x) (by omega) (by omega)
     refine ⟨d.take 1,d.drop 1,F,101 :: 45 :: Nr.itoa (1 - x),45 :: Nr.itoa (1 - x),⟨by simp,ht.n,ht.dg,IJ,(uW hd.dg _).1,.inr ⟨101,by decide,rfl,by rw [e2];exact i4⟩,by rw [e2];exact i2⟩,.inr ht.h,?_,?_⟩
     ·rw [aq,aq,sW,aq];show 1+F.length+(2+_)≤24;omega
     ·rw [List.take_append_drop,sW,e1,show ((1:Nat):Int) + -(1 - x)=x by omega]
    ·rw [aD c4]
     obtain ⟨i1,i2,i3,i4⟩:=nx (v:=x - 1) (by omega)
     obtain ⟨e1,e2⟩:=Gg (v:=x - 1) (by omega)
     have il:=tL (v:=x - 1) (by omega) (by omega)
     refine ⟨d.take 1,d.drop 1,F,101 :: 43 :: Nr.itoa (x - 1),43 :: Nr.itoa (x - 1),⟨by simp,ht.n,ht.dg,IJ,(uW hd.dg _).1,.inr ⟨101,by decide,rfl,by rw [e2];exact i4⟩,by rw [e2];exact i2⟩,.inr ht.h,?_,?_⟩
     ·rw [aq,aq,sW,aq];show 1+F.length+(2+_)≤24;omega
     ·rw [List.take_append_drop,sW,e1,show ((1:Nat):Int)+(x - 1)=x by omega]
end Sh
end Go.Eng
namespace Go.Eng
open Go.IntWalk
theorem Nu (x:UInt64) (h:x.toNat<4503599627370496):((4503599627370496:UInt64) ||| x)=UInt64.ofNat (4503599627370496+x.toNat):=by
 apply jj
 rw [UInt64.toNat_or,ji]
 have:=oi (a:=1) (k:=52) (b:=x.toNat) h
 show 4503599627370496 ||| x.toNat=_
 rw [show (4503599627370496:Nat)=1 * 2 ^ 52 by decide,this]
 have:(1:Nat) * 2 ^ 52=4503599627370496:=by decide
 omega
theorem dc.goal (b:UInt64):dc.F b=some [.i .i64 (Nr.split b).1,.b (Nr.split b).2.1,.u64 (Nr.split b).2.2.1,.i .i64 (Nr.split b).2.2.2]:=by
 refine dc.dZ _ ?_
 intro v1 h1 v2 h2 v3 h3 v4 h4 v5 h5 v6 h6 v7 h7 v8 h8
 have hb:=b.toNat_lt
 have hv4:v4.toNat=b.toNat / 9223372036854775808:=by rw [h4,gr];rfl
 have hv1:v1.toNat=b.toNat / 4503599627370496:=by rw [h1,gr];rfl
 have e2:v2=((b.toNat / 4503599627370496 % 2048:Nat):Int):=by rw [h2,Fg,hv1,i64_in _ (by omega)]
 have e3:v3.toNat=b.toNat % 4503599627370496:=by rw [h3,AU]
 have en:decide (v4=1)=decide (9223372036854775808≤b.toNat):=by
  by_cases c:9223372036854775808≤b.toNat
  ·rw [ae c,ae (jj (by rw [hv4];show _=1;omega))]
  ·rw [af c,af (fun h=>by have:=congrArg UInt64.toNat h;rw [hv4] at this;have e1:(1:UInt64).toNat=1:=rfl;omega)]
 have ef:decide (v3=0)=decide (b.toNat % 4503599627370496=0):=by
  by_cases c:b.toNat % 4503599627370496=0
  ·rw [ae c,ae (jj (by rw [e3];exact c))]
  ·rw [af c,af (fun h=>by have:=congrArg UInt64.toNat h;rw [e3] at this;exact c this)]
 have QN:v3=UInt64.ofNat (b.toNat % 4503599627370496):=jj (by rw [e3,ji];omega)
 have e7:v7=UInt64.ofNat (4503599627370496+b.toNat % 4503599627370496):=by rw [h7,Nu _ (by omega),e3]
 have e8:v8=((b.toNat / 4503599627370496 % 2048:Nat):Int) - 1075:=by rw [h8,e2,i64_in _ (by omega)]
 have lH:∀b:Bool,(!b || b)=true:=by decide
 rw [bD (lH _),bD (lH _),bD (lH _),bD (lH _),en]
 unfold Nr.split
 simp only
 rw [ef] at h5 h6
 generalize b.toNat / 4503599627370496 % 2048=x at *
 by_cases c1:x=2047
 ·rw [aH c1]
  have Gr:decide (v2=2047)=true:=ae (by omega)
  rw [Gr,aF] at h5
  rw [h5,Gr]
  by_cases c2:b.toNat % 4503599627370496=0
  ·rw [ae c2,aH c2];rfl
  ·rw [af c2,aD c2];rfl
 ·rw [aD c1]
  have Gr:decide (v2=2047)=false:=af (by omega)
  rw [Gr,ax] at h5
  rw [h5,Gr,ax,ax]
  by_cases c2:x=0
  ·have Gs:decide (v2=0)=true:=ae (by omega)
   rw [Gs,aF] at h6
   rw [h6,Gs,aH c2]
   by_cases c3:b.toNat % 4503599627370496=0
   ·rw [ae c3,aH c3];rfl
   ·rw [af c3,aD c3,QN];rfl
  ·have Gs:decide (v2=0)=false:=af (by omega)
   rw [Gs,ax] at h6
   rw [h6,Gs,aD c2,ax,ax,e7,e8]
theorem dL.goal (v:Int) (hp:Nr.i64 v=true):dL.F v=some [.s (Nr.itoa v)]:=by
 rw [dL.jq,hp];rfl
theorem wH (k:Nat) (h:k≤400):10 ^ k<2 ^ 1400:=by
 have hk:∀n:Nat,n=400→10 ^ k≤10 ^ n:=fun n hn=>Nat.pow_le_pow_right (by omega) (by omega)
 exact Nat.lt_of_le_of_lt (hk 400 rfl) (by decide +kernel)
theorem nq {a b i j k:Nat} (h1:a<2 ^ i) (h2:b<2 ^ j) (h:i+j≤k):a * b<2 ^ k:=by
 refine jt (i:=i+j) ?_ h
 rw [Nat.pow_add]
 exact Nat.mul_lt_mul'' h1 h2
theorem Jk {a:Nat} {k:Int} (ha:a<2 ^ 1100) (hk : -400≤k∧k≤400):Sh.tA a k<2 ^ 2500:=nq (i:=1100) (j:=1400) (k:=2500) ha (wH _ (by omega)) (by omega)
theorem Jj {a:Nat} {k:Int} (ha:a<2 ^ 1100) (hk : -400≤k∧k≤400):Sh.tB a k<2 ^ 2500:=nq (i:=1100) (j:=1400) (k:=2500) ha (wH _ (by omega)) (by omega)
theorem dD.goal (a b:List UInt16) (k:Int) (hp:(Nt.is a&&Nt.is b&&decide (-400≤k∧k≤400∧Nt.val a<2 ^ 1100∧Nt.val b<2 ^ 1100))=true):dD.F a b k=some [.sl .ws (Nt.of (Sh.tA (Nt.val a) k)),.sl .ws (Nt.of (Sh.tB (Nt.val b) k))]:=by
 rw [aa,aa] at hp
 obtain ⟨⟨ha,hb⟩,hp⟩:=hp
 obtain ⟨k1,k2,k3,k4⟩:=aN hp
 refine dD.dZ _ _ _ ?_
 intro v1 h1 v2 h2 v3 h3 v4 h4
 by_cases c:0≤k
 ·have h1:v1=Nt.of (10 ^ k.toNat):=h1
  have e:=wH k.toNat (by omega)
  have VR:Nt.is v1=true:=by rw [h1];exact gX (i:=1400) e (by omega)
  rw [ae c,aF,bD (ae ⟨by omega,by omega,c,by omega,jt (i:=1400) (k:=4096) e (by omega)⟩),ha,VR]
  refine (bD (by rfl)).trans ?_
  rw [h2,h1,Nt.eG]
  unfold Sh.tA Sh.tB
  rw [show (-k).toNat=0 by omega,Nat.pow_zero,Nat.mul_one,Nt.iM (Nt.iU hb)]
 ·have ew:IntKind.i64.wrap (0 - k)=-k:=by rw [i64_in _ (by omega)];omega
  rw [ew] at h3
  have h3:v3=Nt.of (10 ^ (-k).toNat):=h3
  have e:=wH (-k).toNat (by omega)
  have VQ:Nt.is v3=true:=by rw [h3];exact gX (i:=1400) e (by omega)
  rw [af c,ax,ew,bD (ae ⟨by omega,by omega,by omega,by omega,jt (i:=1400) (k:=4096) e (by omega)⟩),hb,VQ]
  refine (bD (by rfl)).trans ?_
  rw [h4,h3,Nt.eG]
  unfold Sh.tA Sh.tB
  rw [show k.toNat=0 by omega,Nat.pow_zero,Nat.mul_one,Nt.iM (Nt.iU ha)]
theorem dm.goal (a b:List UInt16) (x:Int) (hp:(Nt.is a&&Nt.is b&&decide (-400≤x∧x≤400∧Nt.val a<2 ^ 1100∧Nt.val b<2 ^ 1100))=true):dm.F a b x=some [.b (decide (Sh.tB (Nt.val b) (-x)≤Sh.tA (Nt.val a) (-x)))]:=by
 have T1:=hp
 rw [aa,aa] at hp
 obtain ⟨⟨ha,hb⟩,hp⟩:=hp
 obtain ⟨k1,k2,k3,k4⟩:=aN hp
 refine dm.dZ _ _ _ ?_
 intro v1 h1 v2 h2 v3 h3
 have ew:IntKind.i64.wrap (0 - x)=-x:=by rw [i64_in _ (by omega)];omega
 rw [ew] at h1 h2 ⊢
 have i1:Nt.is v1=true:=by rw [h1];exact gX (i:=2500) (Jk k3 (by omega)) (by omega)
 have i2:Nt.is v2=true:=by rw [h2];exact gX (i:=2500) (Jj k4 (by omega)) (by omega)
 rw [ha,hb,ae (⟨by omega,by omega,k3,k4⟩ : -400≤-x∧-x≤400∧Nt.val a<2 ^ 1100∧Nt.val b<2 ^ 1100),i1,i2]
 refine (bD (by rfl)).trans ((bD (by rfl)).trans ?_)
 rw [h3,h1,h2,Nt.eG,Nt.eG]
 rcases ln (Sh.tA (Nt.val a) (-x)) (Sh.tB (Nt.val b) (-x)) with ⟨k,l⟩ | ⟨k,l⟩ | ⟨k,l⟩
 ·rw [k,af (by omega),af (by omega)]
 ·rw [k,ae (by omega),ae (by omega)]
 ·rw [k,ae (by omega),ae (by omega)]
theorem KB:(10:Nat) ^ 200<2 ^ 665:=by decide +kernel
theorem dj.goal (b:UInt64) (a:List UInt16) (p:Int) (hp:(Nt.is a&&decide (-1000≤p∧p≤1000∧0<Nt.val a∧Nt.val a<10 ^ 200))=true):dj.F b a p=some [.s ((Sh.iX b.toNat (Nt.val a) p).getD ([],0)).1,.i .i64 ((Sh.iX b.toNat (Nt.val a) p).getD ([],0)).2,.b (Sh.iX b.toNat (Nt.val a) p).isSome]:=by
 rw [aa] at hp
 obtain ⟨ha,hp⟩:=hp
 obtain ⟨k1,k2,k3,k4⟩:=aN hp
 refine dj.dZ _ _ _ ?_
 intro v1 h1 v2 h2 v3 h3 v4 h4 v5 h5
 rw [Sh.vD] at h1 h2 ⊢
 rw [Sh.vM]
 have hl:=Nr.nG 200 (Nt.val a) k4 (by omega)
 rw [Nr.yf] at h2
 have e1:IntKind.i64.wrap (v1+p)=(Nr.dec (Nt.val a)).length+p:=by rw [h1,i64_in _ (by omega)]
 rw [e1,h2,Sh.vN k3 (by omega)] at h3 h4
 have lH:∀b:Bool,(!(!b) || ((!b)&&(!b)))=true∧(b || !b)=true:=by decide
 have PN:∀b:Bool,(!(!(!b)) || ((!(!b))&&(!(!b))))=true∧((!b) || (!(!b)))=true:=by decide
 rw [ha,da,ae (show (Nr.dec (Nt.val a)).length≤1099511627776∧([48]:bT).length≤100 from ⟨by omega,by decide⟩)]
 refine (bD (by rfl)).trans ?_
 rw [bD (PN _).1,bD (PN _).2,e1]
 cases hq:Nr.rd (Nt.val a) p with
 | none =>
  rw [hq] at h4
  have e4:v4=false:=h4
  rw [e4] at h5
  have e5:v5=true:=h5
  rw [e5,Sh.j8 (by rw [hq];simp)];rfl
 | some q =>
  have hle:q≤9218868437227405311:=by
   unfold Nr.rd at hq
   exact Nr.Ib hq
  rw [hq] at h3 h4
  have e4:v4=true:=h4
  have e3:v3=UInt64.ofNat q:=h3
  have QN:v3.toNat=q:=by rw [e3,ji];omega
  rw [e4,a8,ax] at h5
  by_cases c:q=b.toNat
  ·have e5:v5=false:=by rw [h5,ae (jj (by rw [QN,c]))];rfl
   rw [e5,Sh.iL (by rw [hq,c]),h2];rfl
  ·have e5:v5=true:=by rw [h5,af (fun e=>c (by rw [←QN,e]))];rfl
   rw [e5,Sh.j8 (by rw [hq];simp [c])];rfl
end Go.Eng
namespace Go.Eng
open Go.IntWalk
theorem BZ {d:List UInt16} {n:Nat} (hv:Nt.val d=n) (hl:d=[]∨65536 ^ (d.length - 1)≤n):d=Nt.of n:=by
 rw [←hv,Nt.iM]
 rcases hl with h | h
 ·rw [h];rfl
 ·by_cases h0:d=[]
  ·rw [h0];rfl
  ·have JZ:=List.length_pos_iff.2 h0
   rw [mR h0]
   simp only [Bool.not_eq_true',decide_eq_false_iff_not]
   intro e0
   have Hw:=dy d (d.length - 1) (by omega)
   rw [show d.length - 1+1=d.length by omega,List.take_length,e0] at Hw
   have eO:=Nt.gB (d.take (d.length - 1))
   rw [aK,Nat.min_eq_left (by omega)] at eO
   have P7:(0:UInt16).toNat=0:=rfl
   rw [P7,Nat.mul_zero] at Hw
   omega
theorem Kv {a:List UInt16} (hn:Nt.norm a=true) (h0:a≠[]):65536 ^ (a.length - 1)≤Nt.val a:=by
 obtain ⟨h1,h2⟩:=mQ hn h0
 have:65536 ^ (a.length - 1) * 1≤65536 ^ (a.length - 1) * (a.getD (a.length - 1) 0).toNat:=Nat.mul_le_mul_left _ h1
 omega
theorem bY.lF (a b:List UInt16) (ha:a.length≤1000000) (DM:b.length≤a.length) (hn:Nt.norm a=true):∀(m i:Nat) (d:List UInt16) (k:Nat),i+m=a.length→d.length=i→k≤1→Nt.val d+65536 ^ i * k=Nt.val (a.take i)+Nt.val (b.take i) →
  bY.l2 b k a.length i (d++a.drop i)=some [.sl .ws (Nt.of (Nt.val a+Nt.val b))]:=by
 intro m
 induction m with
 | zero =>
  intro i d k hi hl hk hv
  have hi:i=a.length:=hi
  subst hi
  refine bY.jw _ _ _ _ _ ?_
  intro v1 h1 v2 h2 v3 h3 v4 h4 v5 h5 v6 h6
  rw [List.take_of_length_le (Nat.le_refl _),List.take_of_length_le DM] at hv
  rw [af (by omega),ax,List.drop_length,aU]
  by_cases c0:k=0
  ·subst c0
   rw [Nat.mul_zero,Nat.add_zero] at hv
   have:d=Nt.of (Nt.val a+Nt.val b):=BZ hv (by
    by_cases h0:a=[]
    ·left;rw [h0] at hl;exact List.length_eq_zero_iff.1 hl
    ·right;rw [hl];have:=Kv hn h0;omega)
   rw [af (by omega),ax,bY.JJ,←this]
  ·have eE:k=1:=by omega
   subst eE
   have e6:v6=[(1:UInt16)]:=h6
   rw [ae (by omega),aF,e6,bD (gZ (by rw [az];omega) (by rw [az];omega)),bY.JJ]
   have hv2:Nt.val (d++[1])=Nt.val a+Nt.val b:=by
    rw [Nt.fx,hl,←hv];rfl
   have:d++[1]=Nt.of (Nt.val a+Nt.val b):=BZ hv2 (.inr (by
    rw [aq,az,Nat.add_sub_cancel,hl];omega))
   rw [this]
 | succ m ih =>
  intro i d k hi hl hk hv
  refine bY.jw _ _ _ _ _ ?_
  intro v1 h1 v2 h2 v3 h3 v4 h4 v5 h5 v6 h6
  rw [aw] at h1 h3
  have Ua:a.drop i=a.getD i 0 :: a.drop (i+1):=drop_cons (by omega) 0
  have hL:(d++a.drop i).length=a.length:=by rw [aq,bm];omega
  have e1:v1=a.getD i 0:=by
   rw [h1,ak,aJ (by omega),hl,Nat.sub_self,Ua];rfl
  have hd:=v1.toNat_lt
  have hd3:=v3.toNat_lt
  rw [i64_in _ (by omega)] at h2 h4
  have hx:cq (i:Int) (d++a.drop i).length=true:=cN (by omega) (by omega)
  have Hv:decide ((i:Int).toNat<(d++a.drop i).length)=true:=ae (by omega)
  have qL:∀y:UInt16,(d++a.drop i).set i y=(d++[y])++a.drop (i+1):=fun y=>by
   rw [List.set_append_right _ _ (by omega),hl,Nat.sub_self,Ua,aQ];rfl
  have next:∀q:Nat,q≤131071→q=k+v1.toNat+(if i<b.length then (b.getD i 0).toNat else 0)→bY.j3 b q i a.length i (d++a.drop i)=some [.sl .ws (Nt.of (Nt.val a+Nt.val b))]:=by
   intro q T0 hq
   refine bY.FA _ _ _ _ _ _ ?_
   intro w1 g1 w2 g2 w3 g3
   rw [aw,nY,qL] at g1
   have e2:w2=((q / 65536:Nat):Int):=by rw [g2];exact xy q
   have e3:w3=((i+1:Nat):Int):=by rw [g3,i64_in _ (by omega)];omega
   rw [hx,Hv,da,da,g1,e2,e3]
   refine ih (i+1) _ _ (by omega) (by rw [aq,hl];rfl) (by omega) ?_
   have hb:Nt.val (b.take (i+1))=Nt.val (b.take i)+65536 ^ i * (if i<b.length then (b.getD i 0).toNat else 0):=by
    by_cases c:i<b.length
    ·rw [aH c,dy b i c]
    ·rw [aD c,List.take_of_length_le (by omega),List.take_of_length_le (by omega)];omega
   rw [hb,dy a i (by omega),←e1,Nt.fx,hl]
   simp only [Nt.val,Nat.mul_zero,Nat.add_zero,Nt.dB]
   rw [Nat.pow_succ,Nat.mul_assoc,Nat.add_assoc,←Nat.mul_add]
   have:q % 65536+65536 * (q / 65536)=q:=Nat.mod_add_div q 65536
   rw [this,hq,Nat.mul_add,Nat.mul_add]
   omega
  rw [ae (by omega),aF,hx,Hv,da,da]
  by_cases c:i<b.length
  ·have e5:v5=((k+v1.toNat+v3.toNat:Nat):Int):=by
    rw [h5,h2,h4,i64_in ((k:Int)+v1.toNat) (by omega),i64_in _ (by omega)];omega
   rw [ae (by omega),aF,bD (cN (by omega) (by omega)),e5]
   exact next _ (by omega) (by rw [aH c,h3])
  ·have e5:IntKind.i64.wrap ((k:Int)+v2)=((k+v1.toNat:Nat):Int):=by rw [h2,i64_in _ (by omega)];omega
   rw [af (by omega),ax,e5]
   exact next _ (by omega) (by rw [aD c,Nat.add_zero])
theorem bY.goal (a b:List UInt16) (hp:(Nt.is a&&Nt.is b)=true):bY.F a b=some [.sl .ws (Nt.of (Nt.val a+Nt.val b))]:=by
 rw [aa] at hp
 obtain ⟨ha,hb⟩:=hp
 have la:=Nt.iY ha
 have lb:=Nt.iY hb
 refine bY.dZ _ _ ?_
 intro v1 h1
 have e1:v1=false:=by rw [h1,ha,hb];rfl
 have key:∀a b:List UInt16,Nt.is a=true→Nt.is b=true→b.length≤a.length→bY.j1 a b=some [.sl .ws (Nt.of (Nt.val a+Nt.val b))]∧True:=fun a b ha hb h=>⟨by
  have la:=Nt.iY ha
  have:=bY.lF a b (by omega) h (Nt.iU ha) a.length 0 [] 0 (by omega) rfl (by omega) (by simp [Nt.val])
  rw [aS,bj] at this
  rw [bY.FB]
  first
  | (rw [bD (gZ (by omega) (by omega))];exact this)
  ,trivial⟩
 rw [bD (ae (by omega)),ha,bD (by rw [ae (show b.length≤1099511627776 by omega)];rfl),bD (by rfl),bD (by rfl),e1,ax]
 by_cases c:(a.length:Int)<b.length
 ·rw [ae c,aF]
  first
  | exact ((key b a hb ha (by omega)).1).trans (by rw [Nat.add_comm])
  | exact (key a b ha hb (by omega)).1
 ·rw [af c,ax]
  first
  | exact (key a b ha hb (by omega)).1
  | exact ((key b a hb ha (by omega)).1).trans (by rw [Nat.add_comm])
theorem Gx {n:Nat} (h:10000≤n):Nr.dec n=Nr.dec (n / 10000)++(Sh.fF (4 - ((Nr.dec (n % 10000)).length:Int))++Nr.dec (n % 10000)):=by
 obtain ⟨q1,q2,q3,q4⟩:=Nr.oU (n / 10000)
 obtain ⟨r1,r2,r3,r4⟩:=Nr.oU (n % 10000)
 have rl:=Nr.nG 4 (n % 10000) (by show n % 10000<10000;omega) (by omega)
 have hz:=Sh.vA (4 - ((Nr.dec (n % 10000)).length:Int))
 have Ht:(Sh.fF (4 - ((Nr.dec (n % 10000)).length:Int))++Nr.dec (n % 10000)).length=4:=by
  unfold Sh.fF;rw [aq,List.length_replicate];omega
 have VW:Nr.num (Sh.fF (4 - ((Nr.dec (n % 10000)).length:Int)))=0:=Nr.iS _
 have Ss:Nr.num (Nr.dec (n / 10000)++(Sh.fF (4 - ((Nr.dec (n % 10000)).length:Int))++Nr.dec (n % 10000)))=n:=by
  rw [Nr.fj,Ht,Nr.fj,VW,q2,r2,Nat.zero_mul,Nat.zero_add]
  show n / 10000 * 10000+_=n
  omega
 have hu:=Nr.lI _ (Nr.dec (n / 10000)++(Sh.fF (4 - ((Nr.dec (n % 10000)).length:Int))++Nr.dec (n % 10000))) rfl (by rw [List.all_append,List.all_append,q1,hz,r1];rfl) (by simp [q3]) (by
  rw [ak,List.getElem?_append_left (List.length_pos_iff.2 q3),←ak];exact q4 (by omega))
 rw [Ss] at hu
 exact hu.symm
theorem E3 {n K:Nat} (h:n<10000 ^ K):(Nt.of n).length≤K:=(Nt.jv n K).2 (Nat.lt_of_lt_of_le h (Nat.pow_le_pow_left (by omega) K))
theorem cm.fo:∀(K n:Nat) (ps:List bT),n<10000 ^ K→(n=0→ps≠[])→ps.length+K≤5000→(ps.map List.length).sum≤4 * ps.length →
  cm.l1 (Nt.of n) ps=some [.s ((if n=0 then [] else Nr.dec n)++ps.reverse.flatten)]:=by
 intro K
 induction K with
 | zero =>
  intro n ps hn h0 hl hs
  have QC:n=0:=by rw [Nat.pow_zero] at hn;omega
  exact fin n ps QC (h0 QC) (by omega) hs
 | succ K ih =>
  intro n ps hn h0 hl hs
  by_cases c:n=0
  ·exact fin n ps c (h0 c) (by omega) hs
  ·refine cm.dE _ _ ?_
   intro v1 h1 v2 h2 v3 h3 v4 h4 v5 h5 v6 h6
   rw [Nt.eG] at h1 h2
   have h1:v1=Nt.of (n / 10000):=h1
   have e2:v2.toNat=n % 10000:=by
    rw [h2,Nt.dB];show n % 10000 % 65536=_;omega
   have e3:v3=((n % 10000:Nat):Int):=by rw [h3,e2,i64_in _ (by omega)]
   have ei:Nr.itoa v3=Nr.dec (n % 10000):=by rw [(Sh.nx (by omega)).1,e3,aw]
   have i3:Nr.i64 v3=true:=ae (by omega)
   have rl:=Nr.nG 4 (n % 10000) (by show n % 10000<10000;omega) (by omega)
   have e5:v5=4 - ((Nr.dec (n % 10000)).length:Int):=by rw [h5,h4,ei,i64_in _ (by omega)]
   have hL:=E3 hn
   have nO:0<(Nt.of n).length:=by rw [Nt.lC (by omega)];simp
   have hq:n / 10000<10000 ^ K:=by
    rw [Nat.div_lt_iff_lt_mul (by omega),←Nat.pow_succ];exact hn
   have kQ:((10000:UInt16)≠0):=by decide
   rw [ae (show (0:Int)<((Nt.of n).length:Int) by omega),aF,bD (ae ⟨by omega,kQ⟩),i3,da,h1]
   by_cases c1:n / 10000=0
   ·rw [c1,Nt.gJ]
    rw [af (by simp),ax,cm.ow,bD (gZ (by rw [az];omega) (by rw [az];omega)),ei]
    have:=ih 0 (ps++[Nr.dec (n % 10000)]) (by exact Nat.pow_pos (by omega)) (fun _=>by simp) (by rw [aq,az];omega) (by
     rw [List.map_append,List.sum_append,aq,az]
     simp only [ah,ao,List.sum_cons,List.sum_nil];omega)
    rw [Nt.gJ] at this
    rw [this,aH rfl,aD c,List.reverse_append,List.reverse_singleton,List.singleton_append,List.flatten_cons,show n % 10000=n by omega];rfl
   ·have JW:0<(Nt.of (n / 10000)).length:=by rw [Nt.lC (by omega)];simp
    have Ht:(Sh.fF v5).length≤4:=by unfold Sh.fF;rw [List.length_replicate];omega
    have e6:v6.length=4:=by
     rw [h6,ei,e5];unfold Sh.fF;rw [aq,List.length_replicate];omega
    rw [ae (by omega),aF,bD (ae ⟨rfl,by omega,by omega⟩),bD (ae (by rw [ei];omega)),cm.ow,bD (gZ (by rw [az];omega) (by rw [az];omega))]
    rw [ih (n / 10000) (ps++[v6]) hq (fun h=>(c1 h).elim) (by rw [aq,az];omega) (by
     rw [List.map_append,List.sum_append,aq,az]
     simp only [ah,ao,List.sum_cons,List.sum_nil];omega)]
    rw [aD c1,aD c,List.reverse_append,List.reverse_singleton,List.singleton_append,List.flatten_cons,Gx (show 10000≤n by omega),h6,ei,e5]
    simp only [aQ]
where
 fin (n:Nat) (ps:List bT) (h:n=0) (h0:ps≠[]) (hl:ps.length≤5000) (hs:(ps.map List.length).sum≤4 * ps.length):cm.l1 (Nt.of n) ps=some [.s ((if n=0 then [] else Nr.dec n)++ps.reverse.flatten)]:=by
  subst h
  rw [Nt.gJ]
  refine cm.dE _ _ ?_
  intro v1 h1 v2 h2 v3 h3 v4 h4 v5 h5 v6 h6
  have he:ps.isEmpty=false:=by cases ps <;> simp at h0 ⊢
  have hf:ps.reverse.flatten.length≤20000:=by
   rw [List.length_flatten,List.map_reverse,List.sum_reverse];omega
  rw [af (by simp),ax,he,ae (show ps.length≤100000 by omega)]
  refine (bD (by rfl)).trans ?_
  rw [bD (ae ⟨rfl,by rw [List.length_reverse];omega,by omega⟩),aH rfl];rfl
theorem HE:(2:Nat) ^ 4096≤10000 ^ 2000:=by decide +kernel
theorem cm.goal (a:List UInt16) (hp:Nt.is a=true):cm.F a=some [.s (Sh.pX (Nt.val a))]:=by
 have hl:=Nt.iY hp
 rw [cm.jq,bD (ae (by omega)),hp,Sh.vD]
 refine Eq.trans (b:=_) (ax _ _) ?_
 by_cases c:a=[]
 ·subst c
  show _=some [TV.s (Nr.dec 0)]
  rw [Nr.mV (by omega)];rfl
 ·have h0:=List.length_pos_iff.2 c
  have nO:=Nt.qG (Nt.iU hp) c
  rw [af (by omega),ax]
  have:=cm.fo 2000 (Nt.val a) [] (Nat.lt_of_lt_of_le (Nt.is_lt hp) HE) (fun h=>by omega) (by simp) (by simp)
  rw [Nt.iM (Nt.iU hp),aD (by omega)] at this
  rw [this];simp
end Go.Eng
namespace Go.Eng
open Go.IntWalk
open Nr (V iD sh top gf rd)
theorem DU (N:Nat):(UInt16.ofNat N % 2=0) ↔ N % 2=0:=by
 constructor
 ·intro h
  have:=congrArg UInt16.toNat h
  rw [UInt16.toNat_mod,Nt.dB] at this
  have e:N % 65536 % 2=0:=this
  omega
 ·intro h
  apply UInt16.toNat_inj.1
  rw [UInt16.toNat_mod,Nt.dB]
  show N % 65536 % 2=0
  omega
theorem Ji:(10:Nat) ^ 17<10 ^ 200:=by decide +kernel
theorem dM.goal (b:UInt64) (p q:List UInt16) (x n:Int) (hp:(Nt.is p&&Nt.is q&&Sh.ng (Nt.val p) (Nt.val q) x n)=true):dM.F b p q x n=some [.s ((Sh.mJ b.toNat (Nt.val p) (Nt.val q) x n).getD ([],0)).1,.i .i64 ((Sh.mJ b.toNat (Nt.val p) (Nt.val q) x n).getD ([],0)).2,.b (Sh.mJ b.toNat (Nt.val p) (Nt.val q) x n).isSome]:=by
 rw [aa,aa] at hp
 obtain ⟨⟨ha,hb⟩,hp⟩:=hp
 unfold Sh.ng at hp
 obtain ⟨n1,n2,x1,x2,a0,a1,b0,b1,r1,r2⟩:=aN hp
 rw [Sh.ud]
 refine dM.dZ _ _ _ _ _ ?_
 intro v1 h1 v2 h2 v3 h3 v4 h4 v5 h5 v6 h6 v7 h7 v8 h8 v9 h9 v10 kQ v11 mY v12 lO pL Ak mD zm mE A9 Ag Mg Hn Ka Hm M3 DS M1
 have ew:IntKind.i64.wrap (n - x)=n - x:=i64_in _ (by omega)
 have Xg:IntKind.i64.wrap (x - n)=x - n:=i64_in _ (by omega)
 have hP:=Jk (k:=n - x) a1 (by omega)
 have hQ:=Jj (k:=n - x) b1 (by omega)
 have S7:0<Sh.tB (Nt.val q) (n - x):=Sh.pY b0 _
 rw [ew] at h1 h2 ⊢
 rw [Xg] at h5 h6 h7 kQ mY lO ⊢
 unfold Sh.some_
 simp only
 generalize Md:Sh.tA (Nt.val p) (n - x)=P at *
 generalize Y7:Sh.tB (Nt.val q) (n - x)=Q at *
 have w1:Nt.val v1=P:=by rw [h1,Nt.eG]
 have w2:Nt.val v2=Q:=by rw [h2,Nt.eG]
 rw [w1,w2] at h3 h4
 have w3:Nt.val v3=P / Q:=by rw [h3,Nt.eG]
 have w4:Nt.val v4=P % Q:=by rw [h4,Nt.eG]
 have w8:Nt.val v8=1:=by rw [h8,Nt.eG];rfl
 rw [w3,w8] at h9
 have w9:Nt.val v9=P / Q+1:=by rw [h9,Nt.eG]
 rw [w3] at h5 h6 h7 ⊢
 rw [w9] at kQ mY lO ⊢
 rw [w4] at Ak
 have Vu:Nt.val pL=P % Q * 2:=by rw [Ak,Nt.eG];rfl
 rw [Vu,w2] at zm
 have N1:1≤P / Q:=(Nat.le_div_iff_mul_le S7).2 (by omega)
 have N2:P / Q<10 ^ 17:=(Nat.div_lt_iff_lt_mul S7).2 r2
 have N3:P / Q<2 ^ 2500:=Nat.lt_of_le_of_lt (Nat.div_le_self _ _) hP
 have N4:P / Q+1<10 ^ 200:=Nat.lt_of_le_of_lt (Nat.succ_le_of_lt N2) Ji
 have R1:P % Q<2 ^ 2500:=Nat.lt_trans (Nat.mod_lt _ S7) hQ
 have i1:Nt.is v1=true:=by rw [h1];exact gX (i:=2500) hP (by omega)
 have i2:Nt.is v2=true:=by rw [h2];exact gX (i:=2500) hQ (by omega)
 have i3:Nt.is v3=true:=by rw [h3];exact gX (i:=2500) N3 (by omega)
 have i4:Nt.is v4=true:=by rw [h4];exact gX (i:=2500) R1 (by omega)
 have i8:Nt.is v8=true:=by rw [h8];exact gX (i:=1) (by decide) (by omega)
 have i9:Nt.is v9=true:=by rw [h9];exact gX (i:=665) (Nat.lt_trans N4 KB) (by omega)
 have i13:Nt.is pL=true:=by
  rw [Ak]
  exact gX (i:=2502) (nq (i:=2500) (j:=2) (k:=2502) R1 (by decide) (by omega)) (by omega)
 have VE:v2≠[]:=by intro e;rw [e] at w2;simp [Nt.val] at w2;omega
 have VD:v3≠[]:=by intro e;rw [e] at w3;simp [Nt.val] at w3;omega
 have l3:=List.length_pos_iff.2 VD
 have Tk:Hn=UInt16.ofNat (P / Q):=by rw [Ka,h3,Nt.lC (by omega)];rfl
 have c1:(decide (-400≤n - x∧n - x≤400∧Nt.val p<2 ^ 1100∧Nt.val q<2 ^ 1100))=true:=ae ⟨by omega,by omega,a1,b1⟩
 have c3:(decide (-1000≤x - n∧x - n≤1000∧0<P / Q∧P / Q<10 ^ 200))=true:=ae ⟨by omega,by omega,by omega,Nat.lt_trans N2 Ji⟩
 have c9:(decide (-1000≤x - n∧x - n≤1000∧0<P / Q+1∧P / Q+1<10 ^ 200))=true:=ae ⟨by omega,by omega,by omega,N4⟩
 have hx:cq (0:Int) v3.length=true:=cN (by omega) (by omega)
 rw [ha,hb,c1,i1,i2,ae VE,i3,c3,i8,i9,c9,i4,i13,hx]
 refine (bD (by rfl)).trans ((bD (by rfl)).trans ((bD (by rfl)).trans ((bD (by rfl)).trans ((bD (by rfl)).trans ((bD (by rfl)).trans ((bD (by rfl)).trans ?_))))))
 have Tj:Hm=decide (P % Q * 2=Q∧P / Q % 2=0):=by
  have e0:decide (UInt16.ofNat (P / Q) % 2=0)=decide (P / Q % 2=0):=bA.2 (DU _)
  rw [M3,Tk,e0,zm]
  rcases ln (P % Q * 2) Q with ⟨k,l⟩ | ⟨k,l⟩ | ⟨k,l⟩
  ·rw [k,af (by decide),ax,af (by omega)]
  ·rw [k,ae (by decide),aF,bA];omega
  ·rw [k,af (by decide),ax,af (by omega)]
 have Mo:decide (mD<0)=decide (P % Q * 2<Q):=by
  rw [zm,bA]
  rcases ln (P % Q * 2) Q with ⟨k,l⟩ | ⟨k,l⟩ | ⟨k,l⟩ <;> rw [k] <;> omega
 rw [Mo] at A9
 have hB:∀v7 v12 mE c:Bool,(!v7 || v7)=true∧(!(v7&&(!(!v12))) || (v7&&(!(!v12))))=true∧(!v7 || (v7&&((!v12) || (v7&&(!(!v12))))))=true∧(!(v7&&(!mE)) || (v7&&(!mE)))=true∧(!((v7&&(!mE))&&c) || (((v7&&(!mE))&&c)&&true))=true∧(!((v7&&(!mE))&&c) || ((v7&&(!mE))&&c))=true ∧
   (!(v7&&(!mE)) || ((v7&&(!mE))&&(!c || ((v7&&(!mE))&&c))))=true∧(!v7 || (v7&&(mE || (v7&&(!mE)))))=true:=by decide
 obtain ⟨t1,t2,t3,t4,t5,t6,t7,t8⟩:=hB v7 v12 mE (decide (mD=0))
 rw [←Mg] at t5 t6 t7
 have hz:(!decide ((2:UInt16)=0))=true:=rfl
 rw [hz,bD t1,bD t1,bD t2,bD t3,bD t1,bD t4,bD t4,bD t5,bD t6,bD t5,bD t6,bD t7,bD t8,bD t1]
 rw [Sh.vM] at h5 h6 h7 kQ mY lO
 generalize Sh.reads b.toNat (P / Q) (x - n)=u at *
 generalize Sh.reads b.toNat (P / Q+1) (x - n)=o at *
 have P5:DS=decide (u.isSome=true∧(o.isSome=false∨2 * (P % Q)<Q∨(2 * (P % Q)=Q∧P / Q % 2=0))):=by
  rw [M1,A9,Tj,h7,lO]
  have q1:decide (P % Q * 2<Q)=decide (2 * (P % Q)<Q):=bA.2 (by omega)
  have q2:decide (P % Q * 2=Q∧P / Q % 2=0)=decide (2 * (P % Q)=Q∧P / Q % 2=0):=bA.2 (by omega)
  rw [q1,q2]
  by_cases k1:2 * (P % Q)<Q <;> by_cases k2:(2 * (P % Q)=Q∧P / Q % 2=0) <;> cases u.isSome <;> cases o.isSome <;> simp [k1,k2]
 by_cases hc:u.isSome=true∧(o.isSome=false∨2 * (P % Q)<Q∨(2 * (P % Q)=Q∧P / Q % 2=0))
 ·rw [P5,ae hc,aF,aH hc,h5,h6,hc.1]
 ·rw [P5,af hc,ax,aD hc,kQ,mY,lO]
theorem Ha (b:UInt64):(b &&& ~~~(9223372036854775808:UInt64)).toNat=Sh.iE b:=by
 have e:(~~~(9223372036854775808:UInt64))=9223372036854775807:=by decide
 rw [e,UInt64.toNat_and]
 exact Nat.and_two_pow_sub_one_eq_mod b.toNat 63
theorem pr {b:UInt64} (h:(Nr.split b).1=2):0<Sh.iE b∧Sh.iE b≤top∧(Nr.split b).2.2.1.toNat=iD (Sh.iE b)∧(Nr.split b).2.2.2=(sh (Sh.iE b):Int) - 1074:=by
 have hb:=b.toNat_lt
 have hx:b.toNat / 4503599627370496 % 2048=Sh.iE b / 4503599627370496:=by unfold Sh.iE;omega
 have hf:b.toNat % 4503599627370496=Sh.iE b % 4503599627370496:=by unfold Sh.iE;omega
 have hm:Sh.iE b<9223372036854775808:=Nat.mod_lt _ (by omega)
 unfold Nr.split at h ⊢
 simp only [hx,hf] at h ⊢
 generalize Sh.iE b=p at *
 unfold iD sh top
 by_cases c1:p / 4503599627370496=2047
 ·rw [aH c1] at h
  by_cases c2:p % 4503599627370496=0
  ·rw [aH c2] at h;simp at h
  ·rw [aD c2] at h;simp at h
 ·rw [aD c1] at h ⊢
  by_cases c2:p / 4503599627370496=0
  ·rw [aH c2] at h ⊢
   by_cases c3:p % 4503599627370496=0
   ·rw [aH c3] at h;simp at h
   ·rw [aD c3,aH (show p<4503599627370496 by omega)]
    refine ⟨by omega,by omega,?_,?_⟩
    ·show (UInt64.ofNat _).toNat=_;rw [ji];omega
    ·show (-1074:Int)=_;omega
  ·rw [aD c2,aD (show ¬p<4503599627370496 by omega)]
   refine ⟨by omega,by omega,?_,?_⟩
   ·show (UInt64.ofNat _).toNat=_;rw [ji];omega
   ·show ((p / 4503599627370496:Nat):Int) - 1075=_;omega
def xr (i:Nat):Bool :=
 let k:Int:=(i:Int) - 1100
 let x:=Int.tdiv (k * 30103) 100000 - 2
 decide (10 ^ (x - 1).toNat * 2 ^ (-(k - 1)).toNat≤2 ^ (k - 1).toNat * 10 ^ (-(x - 1)).toNat)&&decide (-390≤x)
theorem Dk:∀i,i<2201→xr i=true:=by
 have h:(List.range 2201).all xr=true:=by decide +kernel
 intro i hi
 exact aL.1 h i (List.mem_range.2 hi)
end Go.Eng
namespace Go.Eng
open Go.IntWalk
open Nr (V iD sh top gf rd)
theorem nv (a b:Int):a<b∨b≤a:=by omega
theorem zX (n:Nat) (h:0<n):2 ^ (Nt.bits n - 1)≤n∧n<2 ^ Nt.bits n∧0<Nt.bits n:=Nt.iO h
theorem BR {a b:Nat} (h:a<b):2 ^ a<2 ^ b:=Nat.pow_lt_pow_right (by omega) h
theorem uZ (p:Nat) (ht:p≤top):Sh.gI p<2 ^ 1100∧Sh.ff p<2 ^ 1100∧Nt.bits (Sh.gI p)≤1100∧Nt.bits (Sh.ff p)≤1080:=by
 have h1:=Nr.qc p
 have h2:=Nr.uf ht
 have hm:iD p<2 ^ 53:=h1
 have ha:Sh.gI p<2 ^ 1100:=nq (i:=53) (j:=972) (k:=1100) hm (BR (b:=972) (by omega)) (by omega)
 have hb:Sh.ff p<2 ^ 1080:=BR (b:=1080) (by omega)
 refine ⟨ha,jt (i:=1080) (k:=1100) hb (by omega),?_,?_⟩
 ·exact Nt.kx (k:=1100) ha
 ·exact Nt.kx (k:=1080) hb
theorem Kz:(2:Nat) ^ 1024<10 ^ 310:=by decide +kernel
theorem Ky:(2:Nat) ^ 1074<10 ^ 330:=by decide +kernel
theorem Hi {p:Nat} (h:p≤top):V p<2 ^ 1024 * 2 ^ 1074:=by
 have h1:=Nr.Qi h
 have h2:=Nr.lp top
 have h3:V (top+1)=2 ^ 1024 * 2 ^ 1074:=by decide +kernel
 rw [←h3]
 exact Nat.lt_of_le_of_lt h1 h2
theorem P9 {a b A K T V':Nat} (hb:0<b) (h:a * K=V' * b) (hV:V'<T * K) (hA:T<A):a<A * b:=by
 by_cases c:K=0
 ·subst c;rw [Nat.mul_zero] at hV;omega
 ·have hK:0<K:=by omega
  refine Nat.lt_of_mul_lt_mul_right (a:=K) ?_
  rw [h]
  have:V' * b<T * K * b:=Nat.mul_lt_mul_of_pos_right hV hb
  refine Nat.lt_trans this ?_
  rw [Nat.mul_right_comm]
  exact Nat.mul_lt_mul_of_pos_right (Nat.mul_lt_mul_of_pos_right hA hb) hK
theorem P8 {a b A K V':Nat} (ha:0<a) (h:a * K=V' * b) (hV:0<V') (hA:K<A):b<a * A:=by
 have h1:1 * b≤V' * b:=ar _ hV
 have h2:a * K<a * A:=Nat.mul_lt_mul_of_pos_left hA ha
 omega
theorem Mr {a b n d:Nat} (hn:n≤d) (h:10 ^ d * b≤a) (g:a<10 ^ n * b):False:=by
 have:=ar b (Nr.jE hn)
 omega
theorem uS {p:Nat} (hp:0<p) (ht:p≤top) : -330≤Sh.dx p∧Sh.dx p≤311:=by
 obtain ⟨h1,h2⟩:=Sh.Cp hp
 have DM:=Sh.Hg p
 have hb:=Sh.iA p
 have hV:0<V p:=by have:=Nr.z8 hp;omega
 have ha:0<Sh.gI p:=Nat.mul_pos (Sh.pB hp) (Nat.two_pow_pos _)
 constructor
 ·rcases nv (Sh.dx p) (-330) with c | c
  ·exfalso
   have g:=P8 ha DM hV Ky
   have e0:(Sh.dx p).toNat=0:=by omega
   rw [e0,Nat.pow_zero,Nat.one_mul] at h2
   have e1:Sh.gI p * 10 ^ 330≤Sh.gI p * 10 ^ (-(Sh.dx p)).toNat:=Nat.mul_le_mul_left _ (Nr.jE (a:=330) (by omega))
   exact Nat.lt_irrefl _ (Nat.lt_trans g (Nat.lt_of_le_of_lt e1 h2))
  ·exact c
 ·rcases nv 311 (Sh.dx p) with c | c
  ·exfalso
   have g:=P9 hb DM (Hi ht) Kz
   have e0:(-(Sh.dx p - 1)).toNat=0:=by omega
   rw [e0,Nat.pow_zero,Nat.mul_one] at h1
   exact Mr (n:=310) (by omega) h1 g
  ·exact c
theorem pG {p:Nat} (hp:0<p) (x:Int):Sh.tB (Sh.ff p) (-x)≤Sh.tA (Sh.gI p) (-x) ↔ x<Sh.dx p:=by
 obtain ⟨h1,h2⟩:=Sh.Cp hp
 have hb:=Sh.pY (Sh.iA p) (-x)
 constructor
 ·intro h
  rcases nv x (Sh.dx p) with c | c
  ·exact c
  ·exfalso
   have key:Sh.tA (Sh.gI p) (-x)<Sh.tB (Sh.ff p) (-x):=by
    unfold Sh.tA Sh.tB
    refine Nat.lt_of_mul_lt_mul_right (a:=10 ^ (-(Sh.dx p)).toNat) ?_
    rw [Nat.mul_right_comm]
    refine Nat.lt_of_lt_of_le (Nat.mul_lt_mul_of_pos_right h2 (Nr.dC _)) ?_
    rw [Nat.mul_comm (10 ^ (Sh.dx p).toNat),Nat.mul_assoc,Nat.mul_assoc,←Nat.pow_add,←Nat.pow_add]
    exact Nat.mul_le_mul_left _ (Nr.jE (by omega))
   omega
 ·intro h
  have h3:10 ^ (Sh.dx p - 1).toNat * Sh.ff p * 10 ^ (-x).toNat≤Sh.gI p * 10 ^ (-(Sh.dx p - 1)).toNat * 10 ^ (-x).toNat:=ar _ h1
  unfold Sh.tA Sh.tB
  refine Nat.le_of_mul_le_mul_right (c:=10 ^ (-(Sh.dx p - 1)).toNat) ?_ (Nr.dC _)
  rw [Nat.mul_right_comm (Sh.gI p)]
  refine Nat.le_trans ?_ h3
  rw [Nat.mul_assoc,←Nat.pow_add,Nat.mul_comm (10 ^ (Sh.dx p - 1).toNat),Nat.mul_assoc,←Nat.pow_add]
  exact Nat.mul_le_mul_left _ (Nr.jE (by omega))
theorem F8 {p:Nat} (hp:0<p) (ht:p≤top):Int.tdiv ((((Nt.bits (Sh.gI p):Nat):Int) - (Nt.bits (Sh.ff p):Nat)) * 30103) 100000 - 2≤Sh.dx p∧-390≤Int.tdiv ((((Nt.bits (Sh.gI p):Nat):Int) - (Nt.bits (Sh.ff p):Nat)) * 30103) 100000 - 2:=by
 have ha:0<Sh.gI p:=Nat.mul_pos (Sh.pB hp) (Nat.two_pow_pos _)
 obtain ⟨a1,a2,a3⟩:=zX _ ha
 obtain ⟨b1,b2,b3⟩:=zX _ (Sh.iA p)
 obtain ⟨_,_,ba,bb⟩:=uZ p ht
 obtain ⟨h1,h2⟩:=Sh.Cp hp
 generalize hi:(Nt.bits (Sh.gI p)+1100 - Nt.bits (Sh.ff p))=i
 have g:=Dk i (by omega)
 unfold xr at g
 have ek:(i:Int) - 1100=((Nt.bits (Sh.gI p):Nat):Int) - (Nt.bits (Sh.ff p):Nat):=by omega
 simp only [ek,aa,ay] at g
 obtain ⟨g1,g2⟩:=g
 refine ⟨?_,g2⟩
 generalize Int.tdiv ((((Nt.bits (Sh.gI p):Nat):Int) - (Nt.bits (Sh.ff p):Nat)) * 30103) 100000 - 2=x at *
 rcases nv (Sh.dx p) x with c | c
 ·exfalso
  generalize Nt.bits (Sh.gI p)=u at *
  generalize Nt.bits (Sh.ff p)=v at *
  generalize Sh.gI p=a at *
  generalize Sh.ff p=b at *
  generalize Sh.dx p=d at *
  -- 2^(u-1) * 10^(-d)<10^d * 2^v
  have s1:2 ^ (u - 1) * 10 ^ (-d).toNat<10 ^ d.toNat * 2 ^ v:=by
   refine Nat.lt_of_le_of_lt (ar _ a1) (Nat.lt_trans h2 ?_)
   exact Nat.mul_lt_mul_of_pos_left b2 (Nr.dC _)
  -- 10^(x-1) * 2^(-(k-1)) <= 2^(k-1) * 10^(-(x-1)),2^(k-1)<10^d * ..,d <= x - 1
  have s5:10 ^ (x - 1).toNat * 2 ^ (-(((u:Nat):Int) - (v:Nat) - 1)).toNat * (2 ^ v * 10 ^ (-d).toNat)≤2 ^ (((u:Nat):Int) - (v:Nat) - 1).toNat * 10 ^ (-(x - 1)).toNat * (2 ^ v * 10 ^ (-d).toNat):=ar _ g1
  have e4:2 ^ (((u:Nat):Int) - (v:Nat) - 1).toNat * 10 ^ (-(x - 1)).toNat * (2 ^ v * 10 ^ (-d).toNat)=(2 ^ (u - 1) * 10 ^ (-d).toNat) * (2 ^ (-(((u:Nat):Int) - (v:Nat) - 1)).toNat * 10 ^ (-(x - 1)).toNat):=by
   have:2 ^ (((u:Nat):Int) - (v:Nat) - 1).toNat * 2 ^ v=2 ^ (u - 1) * 2 ^ (-(((u:Nat):Int) - (v:Nat) - 1)).toNat:=Nr.yz (by omega)
   rw [show 2 ^ (((u:Nat):Int) - (v:Nat) - 1).toNat * 10 ^ (-(x - 1)).toNat * (2 ^ v * 10 ^ (-d).toNat)=(2 ^ (((u:Nat):Int) - (v:Nat) - 1).toNat * 2 ^ v) * (10 ^ (-(x - 1)).toNat * 10 ^ (-d).toNat) by simp only [Nat.mul_assoc,Nat.mul_comm,Nat.mul_left_comm],this]
   simp only [Nat.mul_assoc,Nat.mul_comm,Nat.mul_left_comm]
  rw [e4] at s5
  have s6:(2 ^ (u - 1) * 10 ^ (-d).toNat) * (2 ^ (-(((u:Nat):Int) - (v:Nat) - 1)).toNat * 10 ^ (-(x - 1)).toNat)<(10 ^ d.toNat * 2 ^ v) * (2 ^ (-(((u:Nat):Int) - (v:Nat) - 1)).toNat * 10 ^ (-(x - 1)).toNat):=Nat.mul_lt_mul_of_pos_right s1 (Nat.mul_pos (Nat.two_pow_pos _) (Nr.dC _))
  have s7:=Nat.lt_of_le_of_lt s5 s6
  have e5:10 ^ (x - 1).toNat * 2 ^ (-(((u:Nat):Int) - (v:Nat) - 1)).toNat * (2 ^ v * 10 ^ (-d).toNat)=10 ^ ((x - 1).toNat+(-d).toNat) * (2 ^ (-(((u:Nat):Int) - (v:Nat) - 1)).toNat * 2 ^ v):=by
   rw [Nat.pow_add 10];simp only [Nat.mul_assoc,Nat.mul_comm,Nat.mul_left_comm]
  have e6:10 ^ d.toNat * 2 ^ v * (2 ^ (-(((u:Nat):Int) - (v:Nat) - 1)).toNat * 10 ^ (-(x - 1)).toNat)=10 ^ (d.toNat+(-(x - 1)).toNat) * (2 ^ (-(((u:Nat):Int) - (v:Nat) - 1)).toNat * 2 ^ v):=by
   rw [Nat.pow_add 10];simp only [Nat.mul_assoc,Nat.mul_comm,Nat.mul_left_comm]
  rw [e5,e6] at s7
  have s8:=Sh.rY (Nat.lt_of_mul_lt_mul_right s7)
  omega
 ·exact c
theorem bJ.sR (u:UInt64) (p:Nat) (hu:u.toNat=p) (hp:0<p) (ht:p≤top) (x2 x3:List UInt16) (i2:Nt.is x2=true) (i3:Nt.is x3=true) (w2:Nt.val x2=Sh.gI p) (w3:Nt.val x3=Sh.ff p) (n0:Nat) (hn:n0≤17) (h0:∀j:Nat,1≤j→j<n0→Sh.some_ p (Sh.gI p) (Sh.ff p) (Sh.dx p) j=none) (h1:Sh.some_ p (Sh.gI p) (Sh.ff p) (Sh.dx p) n0=some (Sh.digits p)) :
  ∀m i:Nat,i+m=n0→1≤i→bJ.l3 u (Sh.dx p) x2 x3 i=some [.s (Sh.digits p).1,.i .i64 (Sh.digits p).2,.b true]:=by
 obtain ⟨d1,d2⟩:=uS hp ht
 obtain ⟨al,bl,_,_⟩:=uZ p ht
 have ha:0<Sh.gI p:=Nat.mul_pos (Sh.pB hp) (Nat.two_pow_pos _)
 have pre:∀i:Nat,1≤i→i≤17→Sh.ng (Sh.gI p) (Sh.ff p) (Sh.dx p) i=true:=fun i h1 h2=>by
  obtain ⟨r1,r2⟩:=Sh.qp hp (n:=i) (by omega)
  have t1:1 * Sh.tB (Sh.ff p) (i - Sh.dx p)≤10 ^ ((i:Int) - 1).toNat * Sh.tB (Sh.ff p) (i - Sh.dx p):=ar _ (Nr.dC _)
  have t2:10 ^ (i:Int).toNat * Sh.tB (Sh.ff p) (i - Sh.dx p)≤10 ^ 17 * Sh.tB (Sh.ff p) (i - Sh.dx p):=ar _ (Nr.jE (by omega))
  unfold Sh.ng
  exact ae ⟨by omega,by omega,by omega,by omega,ha,al,Sh.iA p,bl,by omega,Nat.lt_of_lt_of_le r2 t2⟩
 intro m
 induction m with
 | zero =>
  intro i hi QM
  have hi:i=n0:=hi
  subst hi
  refine bJ.ov _ _ _ _ _ ?_
  intro v1 g1 v2 g2 v3 g3 v4 g4
  rw [w2,w3,hu,Sh.ud,h1] at g1 g2 g3
  have e3:v3=true:=g3
  rw [i2,i3,w2,w3,pre i QM hn,e3]
  refine (bD (by rfl)).trans ?_
  rw [Option.getD_some] at g1 g2
  rw [aF,g1,g2]
 | succ m ih =>
  intro i hi QM
  refine bJ.ov _ _ _ _ _ ?_
  intro v1 g1 v2 g2 v3 g3 v4 g4
  rw [w2,w3,hu,Sh.ud,h0 i QM (by omega)] at g3
  have e3:v3=false:=g3
  have e4:v4=((i+1:Nat):Int):=by rw [g4,i64_in _ (by omega)];omega
  rw [i2,i3,w2,w3,pre i QM (by omega),e3]
  refine (bD (by rfl)).trans ?_
  rw [ax,e4]
  exact ih (i+1) (by omega) (by omega)
theorem bJ.lF (u:UInt64) (p:Nat) (hu:u.toNat=p) (hp:0<p) (ht:p≤top) (x2 x3:List UInt16) (i2:Nt.is x2=true) (i3:Nt.is x3=true) (w2:Nt.val x2=Sh.gI p) (w3:Nt.val x3=Sh.ff p) :
  ∀(m:Nat) (x:Int),x+m=Sh.dx p→-390≤x→bJ.l2 u x x2 x3=some [.s (Sh.digits p).1,.i .i64 (Sh.digits p).2,.b true]:=by
 obtain ⟨d1,d2⟩:=uS hp ht
 obtain ⟨al,bl,_,_⟩:=uZ p ht
 intro m
 induction m with
 | zero =>
  intro x hx Hv
  have hx:x=Sh.dx p:=by omega
  subst hx
  refine bJ.jw _ _ _ _ ?_
  intro v1 g1
  have jP:¬(Sh.tB (Sh.ff p) (-(Sh.dx p))≤Sh.tA (Sh.gI p) (-(Sh.dx p))):=fun h=>by have:=(pG hp _).1 h;omega
  rw [i2,i3,w2,w3,ae (⟨by omega,by omega,al,bl⟩ : -400≤Sh.dx p∧Sh.dx p≤400∧Sh.gI p<2 ^ 1100∧Sh.ff p<2 ^ 1100)]
  refine (bD (by rfl)).trans ?_
  rw [af jP,ax]
  obtain ⟨n,n1,n2,n3,n4⟩:=Sh.first hp ht
  exact bJ.sR u p hu hp ht x2 x3 i2 i3 w2 w3 n n2 n3 n4 (n - 1) 1 (by omega) (by omega)
 | succ m ih =>
  intro x hx Hv
  refine bJ.jw _ _ _ _ ?_
  intro v1 g1
  have e1:v1=x+1:=by rw [g1,i64_in _ (by omega)]
  rw [i2,i3,w2,w3,ae (⟨by omega,by omega,al,bl⟩ : -400≤x∧x≤400∧Sh.gI p<2 ^ 1100∧Sh.ff p<2 ^ 1100)]
  refine (bD (by rfl)).trans ?_
  rw [ae ((pG hp x).2 (by omega)),aF,e1]
  exact ih (x+1) (by omega) (by omega)
theorem Q2 {α β γ:Type} (a:α) (b:β) (c:γ) (x:α × β × γ) (h:x=(a,b,c)):x.1=a∧x.2.1=b∧x.2.2=c:=by subst h;exact ⟨rfl,rfl,rfl⟩
theorem xG {b:UInt64} (h:(Nr.split b).1=2):(Sh.dg b).1=(Sh.digits (Sh.iE b)).1∧(Sh.dg b).2.1=(Sh.digits (Sh.iE b)).2∧(Sh.dg b).2.2=true :=
 Q2 _ _ _ _ ((Sh.Kf b).trans (aH h))
theorem Gv {b:UInt64} (h:¬(Nr.split b).1=2):(Sh.dg b).1=[]∧(Sh.dg b).2.1=0∧(Sh.dg b).2.2=false:=by
 rw [Sh.Kf]
 unfold Sh.QQ
 rw [aD h]
 exact ⟨rfl,rfl,rfl⟩
theorem bJ.gG (u:UInt64) (p:Nat) (hu:u.toNat=p) (hp:0<p) (ht:p≤top) (x1 x2:List UInt16) (j1:Nt.is x1=true) (j2:Nt.is x2=true) (k1:Nt.val x1=Sh.gI p) (k2:Nt.val x2=Sh.ff p):bJ.j1 u x1 x2=some [.s (Sh.digits p).1,.i .i64 (Sh.digits p).2,.b true]:=by
 obtain ⟨al,bl,ba,bb⟩:=uZ _ ht
 refine bJ.kF _ _ _ ?_
 intro u1 g1 u2 g2 u3 g3 u4 g4 u5 g5
 rw [k1] at g1
 rw [k2] at g2
 obtain ⟨q1,q2⟩:=F8 hp ht
 obtain ⟨r1,r2⟩:=uS hp ht
 generalize hA:Nt.bits (Sh.gI p)=A at *
 generalize hB:Nt.bits (Sh.ff p)=B at *
 have e3:u3=((A:Int) - (B:Int)) * 30103:=by
  rw [g3,g1,g2,i64_in ((A:Int) - (B:Int)) (by omega),i64_in _ (by omega)]
 have e4:u4=Int.tdiv (((A:Int) - (B:Int)) * 30103) 100000:=by rw [g4,e3,i64_in _ (by omega)]
 have e5:u5=Int.tdiv (((A:Int) - (B:Int)) * 30103) 100000 - 2:=by rw [g5,e4,i64_in _ (by omega)]
 have hz:(!decide ((100000:Int)=0))=true:=by decide
 rw [j1,j2,da,da,hz,da]
 rw [←e5] at q1 q2
 exact bJ.lF u p hu hp ht x1 x2 j1 j2 k1 k2 (Sh.dx p - u5).toNat u5 (by omega) (by omega)
theorem bJ.goal (b:UInt64):bJ.F b=some [.s (Sh.dg b).1,.i .i64 (Sh.dg b).2.1,.b (Sh.dg b).2.2]:=by
 refine bJ.dZ _ ?_
 intro v1 h1 v2 h2 v3 h3 v4 h4 v5 h5 v6 h6
 by_cases c:(Nr.split b).1=2
 ·obtain ⟨z1,z2,z3⟩:=xG c
  rw [z1,z2,z3,ae c,a8,ax]
  clear z1 z2 z3
  obtain ⟨hp,ht,hm,he⟩:=pr c
  have hu:v1.toNat=Sh.iE b:=by rw [h1];exact Ha b
  obtain ⟨al,bl,ba,bb⟩:=uZ _ ht
  have FK:=Nr.uf ht
  have Po:=Nr.qc (Sh.iE b)
  rw [hm] at h2
  have w2:Nt.val v2=iD (Sh.iE b):=by rw [h2,Nt.eG]
  have w3:Nt.val v3=1:=by rw [h3,Nt.eG];rfl
  have i2:Nt.is v2=true:=by rw [h2];exact gX (i:=53) Po (by omega)
  have i3:Nt.is v3=true:=by rw [h3];exact gX (i:=1) (by decide) (by omega)
  have key:∀x1 x2:List UInt16,Nt.is x1=true→Nt.is x2=true→Nt.val x1=Sh.gI (Sh.iE b)→Nt.val x2=Sh.ff (Sh.iE b)→bJ.j1 v1 x1 x2=some [.s (Sh.digits (Sh.iE b)).1,.i .i64 (Sh.digits (Sh.iE b)).2,.b true]:=bJ.gG v1 _ hu hp ht
  rw [he] at h4 h5 ⊢
  by_cases c2:0≤(sh (Sh.iE b):Int) - 1074
  ·have w4:Nt.val v4=Sh.gI (Sh.iE b):=by rw [h4,Nt.eG,w2];rfl
   have i4:Nt.is v4=true:=by rw [h4,w2];exact gX (i:=1100) al (by omega)
   have Vs:Nt.val v3=Sh.ff (Sh.iE b):=by rw [w3];unfold Sh.ff;rw [show (-((sh (Sh.iE b):Int) - 1074)).toNat=0 by omega,Nat.pow_zero]
   rw [ae c2,aF,i2,ae (show 0≤(sh (Sh.iE b):Int) - 1074∧(sh (Sh.iE b):Int) - 1074≤4096 by omega)]
   refine (bD (by rfl)).trans ?_
   exact key v4 v3 i4 i3 w4 Vs
  ·have e5:v5=-((sh (Sh.iE b):Int) - 1074):=by rw [h5,i64_in _ (by omega)];omega
   have w6:Nt.val v6=Sh.ff (Sh.iE b):=by rw [h6,Nt.eG,w3,e5,Nat.one_mul];rfl
   have i6:Nt.is v6=true:=by
    rw [h6,w3,e5,Nat.one_mul];exact gX (i:=1100) bl (by omega)
   have Vt:Nt.val v2=Sh.gI (Sh.iE b):=by rw [w2];unfold Sh.gI;rw [show ((sh (Sh.iE b):Int) - 1074).toNat=0 by omega,Nat.pow_zero,Nat.mul_one]
   rw [af c2,ax,i3,e5,ae (show 0≤-((sh (Sh.iE b):Int) - 1074)∧-((sh (Sh.iE b):Int) - 1074)≤4096 by omega)]
   refine (bD (by rfl)).trans ?_
   exact key v2 v6 i2 i6 Vt w6
 ·obtain ⟨z1,z2,z3⟩:=Gv c
  rw [z1,z2,z3,af c];rfl
end Go.Eng
namespace Go.Eng
open Go.IntWalk
open Nr (V iD sh top gf rd)
theorem rq (n:Int):(Sh.fF n).length=n.toNat:=by unfold Sh.fF;rw [List.length_replicate]
theorem y5 {v:Int} (h : -1000000≤v∧v≤1000000):Nr.i64 v=true:=ae (by omega)
theorem cU.gG (x:Int) (t:bT) (hx : -900≤x∧x≤900) (ht:t.length≤1000):cU.j1 x t=some [.s (t++(if x<1 then [101,45]++Nr.itoa (1 - x) else [101,43]++Nr.itoa (x - 1)))]:=by
 refine cU.kF _ _ ?_
 intro v1 h1 v2 h2 v3 h3 v4 h4
 have e1:v1=1 - x:=by rw [h1,i64_in _ (by omega)]
 have e3:v3=x - 1:=by rw [h3,i64_in _ (by omega)]
 by_cases c:x<1
 ·have il:=Sh.tL (v:=1 - x) (by omega) (by omega)
  have i1:Nr.i64 v1=true:=by rw [e1];exact y5 (by omega)
  rw [ae c,aF,aH c,i1,bD (ae (by show t.length+2≤_;omega)),da,bD (ae (by rw [aq,e1];show t.length+2+_≤_;omega)),h2,e1,aQ]
 ·have il:=Sh.tL (v:=x - 1) (by omega) (by omega)
  have i3:Nr.i64 v3=true:=by rw [e3];exact y5 (by omega)
  rw [af c,ax,aD c,i3,bD (ae (by show t.length+2≤_;omega)),da,bD (ae (by rw [aq,e3];show t.length+2+_≤_;omega)),h4,e3,aQ]
theorem cU.goal (d:bT) (x:Int) (hp:decide (1≤d.length∧d.length≤17∧-900≤x∧x≤900)=true):cU.F d x=some [.s (Sh.yY d x)]:=by
 obtain ⟨p1,p2,p3,p4⟩:=aN hp
 rw [Sh.yX]
 unfold Sh.laid
 refine cU.dZ _ _ ?_
 intro v1 h1 v2 h2 v3 h3 v4 h4 v5 h5 v6 h6 v7 h7 v8 h8 v9 h9 v10 kQ v11 mY
 have lH:∀b:Bool,(!b || b)=true∧(!b || (b&&b))=true:=by decide
 have e1:v1=decide (1≤x∧x≤21):=by rw [h1];by_cases c:1≤x <;> simp [c]
 have e2:v2=decide (1≤x∧x≤21∧(d.length:Int)≤x):=by
  rw [h2,e1]
  by_cases c:1≤x∧x≤21
  ·rw [ae c,aF,bA];omega
  ·rw [af c,ax,af (by omega)]
 have e6:v6=decide (-5≤x∧x≤0):=by rw [h6];by_cases c : -5≤x <;> simp [c]
 have e3:v3=x - d.length:=by rw [h3,i64_in _ (by omega)]
 have ew:IntKind.i64.wrap (0 - x)=-x:=by rw [i64_in _ (by omega)];omega
 rw [ew] at h7 ⊢
 rw [bD (lH _).1,bD (lH _).1,bD (lH _).2,bD (lH _).1,e2]
 by_cases c1:1≤x∧x≤21∧(d.length:Int)≤x
 ·rw [ae c1,aF,aH c1,bD (ae ⟨rfl,by omega,by omega⟩),bD (ae (by rw [rq];omega)),e3]
 ·rw [af c1,ax,aD c1,bD (lH _).1,bD (lH _).1,e1]
  by_cases c2:1≤x∧x≤21
  ·have l4:v4.length≤18:=by rw [h4,aq,aK];show min _ _+1≤18;omega
   rw [ae c2,aF,aH c2,bD (lJ (by omega) (by omega) (by omega)),bD (ae (by rw [aK];show min _ _+1≤_;omega)),bD (lJ (by omega) (by omega) (by omega)),bD (ae (by rw [bm];omega)),h5,h4,aQ]
  ·rw [af c2,ax,aD c2,bD (lH _).1,bD (lH _).1,e6]
   by_cases c3 : -5≤x∧x≤0
   ·rw [ae c3,aF,aH c3,bD (ae ⟨rfl,by omega,by omega⟩),bD (ae (by rw [h7,rq];show 2+_≤_;omega)),bD (ae (by rw [aq,h7,rq];show 2+_+_≤_;omega)),h8,h7,aQ]
   ·have l9:v9.length≤1:=by rw [h9,aK];show min 1 _≤1;omega
    have l10:v10.length≤17:=by rw [kQ,bm];omega
    have g9:v9=d.take 1:=h9
    have g10:v10=d.drop 1:=kQ
    rw [af c3,ax,aD c3,bD (lJ (by omega) (by omega) (by omega))]
    by_cases c4:1<d.length
    ·rw [ae (by omega),aF,bD (lJ (by omega) (by omega) (by omega)),bD (ae (by show 1+v10.length≤_;omega)),bD (ae (by rw [aq];show v9.length+(1+v10.length)≤_;omega)),cU.gG x v11 ⟨p3,p4⟩ (by rw [mY,aq,aq];show v9.length+(1+v10.length)≤_;omega),aH c4,mY,g9,g10];rfl
    ·rw [af (by omega),ax,cU.gG x v9 ⟨p3,p4⟩ (by omega),aD c4,aU,g9]
theorem Gt {b:UInt64} (h:(Nr.split b).1=2):(1≤(Sh.dg b).1.length∧(Sh.dg b).1.length≤17∧-900≤(Sh.dg b).2.1∧(Sh.dg b).2.1≤900)∧Sh.tm (Sh.dg b).1∧Nr.read (Sh.dg b).1 (Sh.dg b).2.1=some (Sh.iE b):=by
 obtain ⟨hp,ht,hm,he⟩:=pr h
 obtain ⟨z1,z2,z3⟩:=xG h
 obtain ⟨n,N,n1,n2,n3,n4,n5,n6,n7⟩:=Sh.su hp ht
 obtain ⟨d1,d2⟩:=uS hp ht
 have hl:=Sh.zW n1 n4
 have hN:N<10 ^ (n+1):=Nat.lt_of_le_of_lt n4 (Nat.pow_lt_pow_right (by omega) (by omega))
 have hL:=Nr.nG (n+1) N hN (by omega)
 have hr:=Sh.zO hp ht
 obtain ⟨q1,q2,q3,q4⟩:=Nr.oU N
 obtain ⟨t,t1,t2⟩:=Nr.gW (Nr.dec N)
 have ne:Nr.cT (Nr.dec N)≠[]:=by
  intro e0
  have hn:=congrArg Nr.num t1
  rw [Nr.fj,Nr.iS,List.length_replicate,Nat.add_zero,q2,e0,show Nr.num []=0 from rfl,Nat.zero_mul] at hn
  omega
 have W5:=Nr.Bi N
 have fI:=List.length_pos_iff.2 ne
 rw [z1,z2]
 refine ⟨?_,?_,hr⟩
 ·rw [n6]
  refine ⟨fI,Nat.le_trans hl n2,?_,?_⟩
  ·show -900≤((Nr.dec N).length:Int)+(Sh.dx (Sh.iE b) - n);omega
  ·show ((Nr.dec N).length:Int)+(Sh.dx (Sh.iE b) - n)≤900;omega
 ·rw [n6]
  refine ⟨(Nr.eF q1 t1).1,ne,?_⟩
  have:=q4 n3
  rw [t1,ak,List.getElem?_append_left fI,←ak] at this
  exact this
theorem Aw (b:UInt64):(Nr.split b).1=1∨(Nr.split b).1=2∨(Nr.split b).1=3∨(Nr.split b).1=4:=by
 unfold Nr.split
 simp only
 by_cases c1:b.toNat / 4503599627370496 % 2048=2047
 ·rw [aH c1]
  by_cases c2:b.toNat % 4503599627370496=0
  ·rw [aH c2];exact .inr (.inr (.inl rfl))
  ·rw [aD c2];exact .inr (.inr (.inr rfl))
 ·rw [aD c1]
  by_cases c2:b.toNat / 4503599627370496 % 2048=0
  ·rw [aH c2]
   by_cases c3:b.toNat % 4503599627370496=0
   ·rw [aH c3];exact .inl rfl
   ·rw [aD c3];exact .inr (.inl rfl)
  ·rw [aD c2];exact .inr (.inl rfl)
theorem Fu {b:UInt64} (h:(Nr.split b).1=2):(Sh.laid (Sh.dg b).1 (Sh.dg b).2.1).length≤24:=by
 obtain ⟨⟨_,r2,r3,r4⟩,hL,_⟩:=Gt h
 obtain ⟨_,_,_,_,_,_,_,hlen,_⟩:=Sh.A0 hL r2 ⟨r3,r4⟩
 exact hlen
theorem cR.gG (b:UInt64) (t:bT) (ht:t.length≤1000):cR.j1 (Nr.split b).2.1 t=some [.s (Sh.sign b++t)]:=by
 rw [cR.FB]
 unfold Sh.sign
 cases (Nr.split b).2.1 with
 | true=>rw [aF,bD (ae (by show 1+t.length≤_;omega)),aH rfl]
 | false=>rw [ax,aD (by decide)];rfl
theorem cR.goal (b:UInt64):cR.F b=some [.s (Sh.text b)]:=by
 refine cR.dZ _ ?_
 intro v1 h1
 rw [Sh.yX] at h1
 rw [Sh.wF]
 unfold Sh.vE
 by_cases c4:(Nr.split b).1=4
 ·rw [ae c4,aF,aH c4]
 ·rw [af c4,ax,aD c4]
  by_cases c3:(Nr.split b).1=3
  ·rw [ae c3,aF,aH c3,cR.gG b _ (by decide)]
  ·rw [af c3,ax,aD c3]
   by_cases c1:(Nr.split b).1=1
   ·rw [ae c1,aF,aH c1,cR.gG b _ (by decide)]
   ·have c2:(Nr.split b).1=2:=by have:=Aw b;omega
    have hl:=Fu c2
    rw [af c1,ax,aD c1,bD (ae (Gt c2).1),h1,cR.gG b _ (by omega)]
end Go.Eng
namespace Go.Eng
open Nr (iD sh top)
open Go.IntWalk
theorem kg {a b:Int} {l:Nat} (h1:0≤a) (h2:a≤b) (h3:b≤l):gN a b l=true:=by unfold gN;rw [ae h1,ae h2,ae h3];rfl
theorem GM (b:Bool) {α:Type} (x:Option α):ck (!b || b) x=x:=by cases b <;> rfl
theorem ym {b:UInt64} (h:0<Sh.iE b) (ht:Sh.iE b≤top):(Nr.split b).1=2:=by
 have hb:=b.toNat_lt
 have hx:b.toNat / 4503599627370496 % 2048=Sh.iE b / 4503599627370496:=by unfold Sh.iE;omega
 have hf:b.toNat % 4503599627370496=Sh.iE b % 4503599627370496:=by unfold Sh.iE;omega
 unfold Nr.split
 simp only [hx,hf]
 generalize Sh.iE b=p at *
 unfold top at ht
 rw [aD (by omega)]
 by_cases c2:p / 4503599627370496=0
 ·rw [aH c2,aD (by omega)]
 ·rw [aD c2]
end Go.Eng
namespace Go.Proofs
open Go.Shelf
def Tryz.AY:Go.Shelf.Ren:=⟨fun | 29=>96 | n=>n,fun | 22=>22 | 3=>3 | 4=>4 | 25=>44 | 54=>148 | 0=>0 | 5=>5 | n=>n,fun | 1=>0 | n=>n⟩
theorem Tryz.Lx:Go.Proofs.Lays7.n29 Tryz.prog Tryz.AY:={
 mixed:=by kernel_rfl
 f29:=Tryz.func96.trans (congrArg some (by kernel_rfl))
 t0:=Tryz.underlying0
 a0:=Tryz.isAgg0
 z0:=Tryz.sizeOf0
 v0:=Tryz.zeroValue0
 i0:=by kernel_rfl
 t3:=Tryz.underlying3
 a3:=Tryz.isAgg3
 z3:=Tryz.sizeOf3
 v3:=Tryz.zeroValue3
 i3:=by kernel_rfl
 t4:=Tryz.underlying4
 a4:=Tryz.isAgg4
 z4:=Tryz.sizeOf4
 v4:=Tryz.zeroValue4
 i4:=by kernel_rfl
 t5:=Tryz.underlying5
 a5:=Tryz.isAgg5
 z5:=Tryz.sizeOf5
 v5:=Tryz.zeroValue5
 i5:=by kernel_rfl
 t22:=Tryz.underlying22
 a22:=Tryz.isAgg22
 z22:=Tryz.sizeOf22
 v22:=Tryz.zeroValue22
 i22:=by kernel_rfl
 t25:=Tryz.underlying44
 a25:=Tryz.isAgg44
 z25:=Tryz.sizeOf44
 v25:=Tryz.zeroValue44
 i25:=by kernel_rfl
 t54:=Tryz.underlying148
 a54:=Tryz.isAgg148
 z54:=Tryz.sizeOf148
 g1:=by kernel_rfl }
def Tryz.AZ:Go.Shelf.Ren:=⟨fun | 17=>105 | n=>n,fun | 24=>132 | 9=>9 | 3=>3 | 4=>4 | 0=>0 | n=>n,fun | n=>n⟩
theorem Tryz.Ly:Go.Proofs.Lays2.n17 Tryz.prog Tryz.AZ:={
 mixed:=by kernel_rfl
 f17:=Tryz.func105.trans (congrArg some (by kernel_rfl))
 t0:=Tryz.underlying0
 a0:=Tryz.isAgg0
 z0:=Tryz.sizeOf0
 v0:=Tryz.zeroValue0
 t3:=Tryz.underlying3
 a3:=Tryz.isAgg3
 z3:=Tryz.sizeOf3
 v3:=Tryz.zeroValue3
 t4:=Tryz.underlying4
 a4:=Tryz.isAgg4
 z4:=Tryz.sizeOf4
 v4:=Tryz.zeroValue4
 t9:=Tryz.underlying9
 a9:=Tryz.isAgg9
 z9:=Tryz.sizeOf9
 v9:=Tryz.zeroValue9
 t24:=Tryz.underlying132
 a24:=Tryz.isAgg132
 z24:=Tryz.sizeOf132
 v24:=Tryz.zeroValue132 }
def Tryz.yW:Go.Shelf.Ren:=⟨fun | 160=>29 | 232=>55 | 231=>54 | 227=>56 | 234=>58 | 233=>57 | 236=>60 | 235=>59 | 228=>72 | 271=>89 | 151=>88 | 197=>87 | 120=>113 | 152=>70 | 260=>112 | 137=>99 | 119=>100 | 224=>101 | 225=>102 | 217=>120 | 266=>133 | n=>n,fun | 9=>9 | 4=>4 | 3=>3 | 5=>5 | 117=>78 | 116=>77 | 0=>0 | 124=>81 | 21=>21 | 105=>114 | 46=>44 | 119=>156 | 139=>159 | 138=>158 | n=>n,fun | 3=>2 | 4=>3 | n=>n⟩
theorem Tryz.Ij:Go.Proofs.Lays.n160 Tryz.prog Tryz.yW:={
 mixed:=by kernel_rfl
 f119:=Tryz.func100.trans (congrArg some (by kernel_rfl))
 f120:=Tryz.func113.trans (congrArg some (by kernel_rfl))
 f137:=Tryz.func99.trans (congrArg some (by kernel_rfl))
 f151:=Tryz.func88.trans (congrArg some (by kernel_rfl))
 f152:=Tryz.func70.trans (congrArg some (by kernel_rfl))
 f160:=Tryz.func29.trans (congrArg some (by kernel_rfl))
 f197:=Tryz.func87.trans (congrArg some (by kernel_rfl))
 f217:=Tryz.func120.trans (congrArg some (by kernel_rfl))
 f224:=Tryz.func101.trans (congrArg some (by kernel_rfl))
 f225:=Tryz.func102.trans (congrArg some (by kernel_rfl))
 f227:=Tryz.func56.trans (congrArg some (by kernel_rfl))
 f228:=Tryz.func72.trans (congrArg some (by kernel_rfl))
 f231:=Tryz.func54.trans (congrArg some (by kernel_rfl))
 f232:=Tryz.func55.trans (congrArg some (by kernel_rfl))
 f233:=Tryz.func57.trans (congrArg some (by kernel_rfl))
 f234:=Tryz.func58.trans (congrArg some (by kernel_rfl))
 f235:=Tryz.func59.trans (congrArg some (by kernel_rfl))
 f236:=Tryz.func60.trans (congrArg some (by kernel_rfl))
 f260:=Tryz.func112.trans (congrArg some (by kernel_rfl))
 f266:=Tryz.func133.trans (congrArg some (by kernel_rfl))
 f271:=Tryz.func89.trans (congrArg some (by kernel_rfl))
 t0:=Tryz.underlying0
 a0:=Tryz.isAgg0
 z0:=Tryz.sizeOf0
 v0:=Tryz.zeroValue0
 t3:=Tryz.underlying3
 a3:=Tryz.isAgg3
 z3:=Tryz.sizeOf3
 v3:=Tryz.zeroValue3
 t4:=Tryz.underlying4
 a4:=Tryz.isAgg4
 z4:=Tryz.sizeOf4
 v4:=Tryz.zeroValue4
 t5:=Tryz.underlying5
 a5:=Tryz.isAgg5
 z5:=Tryz.sizeOf5
 v5:=Tryz.zeroValue5
 t9:=Tryz.underlying9
 a9:=Tryz.isAgg9
 z9:=Tryz.sizeOf9
 v9:=Tryz.zeroValue9
 t21:=Tryz.underlying21
 a21:=Tryz.isAgg21
 z21:=Tryz.sizeOf21
 v21:=Tryz.zeroValue21
 t46:=Tryz.underlying44
 a46:=Tryz.isAgg44
 z46:=Tryz.sizeOf44
 v46:=Tryz.zeroValue44
 t105:=Tryz.underlying114
 a105:=Tryz.isAgg114
 z105:=Tryz.sizeOf114
 v105:=Tryz.zeroValue114
 t116:=Tryz.underlying77
 a116:=Tryz.isAgg77
 z116:=Tryz.sizeOf77
 t117:=Tryz.underlying78
 a117:=Tryz.isAgg78
 z117:=Tryz.sizeOf78
 v117:=Tryz.zeroValue78
 t119:=Tryz.underlying156
 a119:=Tryz.isAgg156
 z119:=Tryz.sizeOf156
 t124:=Tryz.underlying81
 a124:=Tryz.isAgg81
 z124:=Tryz.sizeOf81
 v124:=Tryz.zeroValue81
 t138:=Tryz.underlying158
 a138:=Tryz.isAgg158
 z138:=Tryz.sizeOf158
 v138:=Tryz.zeroValue158
 t139:=Tryz.underlying159
 a139:=Tryz.isAgg159
 z139:=Tryz.sizeOf159
 v139:=Tryz.zeroValue159
 g3:=by kernel_rfl
 g4:=by kernel_rfl }
def Tryz.yV:Go.Shelf.Ren:=⟨fun | 161=>30 | 231=>54 | 227=>56 | 233=>57 | 235=>59 | 228=>72 | 197=>87 | 151=>88 | 260=>112 | 152=>70 | 137=>99 | 119=>100 | 224=>101 | 225=>102 | 217=>120 | 266=>133 | n=>n,fun | 9=>9 | 4=>4 | 3=>3 | 5=>5 | 117=>78 | 116=>77 | 0=>0 | 124=>81 | 105=>114 | 21=>21 | 119=>156 | 46=>44 | 139=>159 | 138=>158 | n=>n,fun | 3=>2 | 4=>3 | n=>n⟩
theorem Tryz.Ii:Go.Proofs.Lays.n161 Tryz.prog Tryz.yV:={
 mixed:=by kernel_rfl
 f119:=Tryz.func100.trans (congrArg some (by kernel_rfl))
 f137:=Tryz.func99.trans (congrArg some (by kernel_rfl))
 f151:=Tryz.func88.trans (congrArg some (by kernel_rfl))
 f152:=Tryz.func70.trans (congrArg some (by kernel_rfl))
 f161:=Tryz.func30.trans (congrArg some (by kernel_rfl))
 f197:=Tryz.func87.trans (congrArg some (by kernel_rfl))
 f217:=Tryz.func120.trans (congrArg some (by kernel_rfl))
 f224:=Tryz.func101.trans (congrArg some (by kernel_rfl))
 f225:=Tryz.func102.trans (congrArg some (by kernel_rfl))
 f227:=Tryz.func56.trans (congrArg some (by kernel_rfl))
 f228:=Tryz.func72.trans (congrArg some (by kernel_rfl))
 f231:=Tryz.func54.trans (congrArg some (by kernel_rfl))
 f233:=Tryz.func57.trans (congrArg some (by kernel_rfl))
 f235:=Tryz.func59.trans (congrArg some (by kernel_rfl))
 f260:=Tryz.func112.trans (congrArg some (by kernel_rfl))
 f266:=Tryz.func133.trans (congrArg some (by kernel_rfl))
 t0:=Tryz.underlying0
 a0:=Tryz.isAgg0
 z0:=Tryz.sizeOf0
 v0:=Tryz.zeroValue0
 t3:=Tryz.underlying3
 a3:=Tryz.isAgg3
 z3:=Tryz.sizeOf3
 v3:=Tryz.zeroValue3
 t4:=Tryz.underlying4
 a4:=Tryz.isAgg4
 z4:=Tryz.sizeOf4
 v4:=Tryz.zeroValue4
 t5:=Tryz.underlying5
 a5:=Tryz.isAgg5
 z5:=Tryz.sizeOf5
 v5:=Tryz.zeroValue5
 t9:=Tryz.underlying9
 a9:=Tryz.isAgg9
 z9:=Tryz.sizeOf9
 v9:=Tryz.zeroValue9
 t21:=Tryz.underlying21
 a21:=Tryz.isAgg21
 z21:=Tryz.sizeOf21
 v21:=Tryz.zeroValue21
 t46:=Tryz.underlying44
 a46:=Tryz.isAgg44
 z46:=Tryz.sizeOf44
 v46:=Tryz.zeroValue44
 t105:=Tryz.underlying114
 a105:=Tryz.isAgg114
 z105:=Tryz.sizeOf114
 v105:=Tryz.zeroValue114
 t116:=Tryz.underlying77
 a116:=Tryz.isAgg77
 z116:=Tryz.sizeOf77
 t117:=Tryz.underlying78
 a117:=Tryz.isAgg78
 z117:=Tryz.sizeOf78
 v117:=Tryz.zeroValue78
 t119:=Tryz.underlying156
 a119:=Tryz.isAgg156
 z119:=Tryz.sizeOf156
 t124:=Tryz.underlying81
 a124:=Tryz.isAgg81
 z124:=Tryz.sizeOf81
 v124:=Tryz.zeroValue81
 t138:=Tryz.underlying158
 a138:=Tryz.isAgg158
 z138:=Tryz.sizeOf158
 v138:=Tryz.zeroValue158
 t139:=Tryz.underlying159
 a139:=Tryz.isAgg159
 z139:=Tryz.sizeOf159
 v139:=Tryz.zeroValue159
 g3:=by kernel_rfl
 g4:=by kernel_rfl }
def Tryz.yU:Go.Shelf.Ren:=⟨fun | 162=>31 | 232=>55 | 227=>56 | 234=>58 | 236=>60 | 228=>72 | 271=>89 | 151=>88 | 120=>113 | 197=>87 | 152=>70 | 260=>112 | 137=>99 | 119=>100 | 224=>101 | 225=>102 | 217=>120 | 266=>133 | n=>n,fun | 9=>9 | 4=>4 | 3=>3 | 5=>5 | 117=>78 | 116=>77 | 0=>0 | 124=>81 | 21=>21 | 105=>114 | 46=>44 | 119=>156 | 139=>159 | 138=>158 | n=>n,fun | 3=>2 | 4=>3 | n=>n⟩
theorem Tryz.Ih:Go.Proofs.Lays.n162 Tryz.prog Tryz.yU:={
 mixed:=by kernel_rfl
 f119:=Tryz.func100.trans (congrArg some (by kernel_rfl))
 f120:=Tryz.func113.trans (congrArg some (by kernel_rfl))
 f137:=Tryz.func99.trans (congrArg some (by kernel_rfl))
 f151:=Tryz.func88.trans (congrArg some (by kernel_rfl))
 f152:=Tryz.func70.trans (congrArg some (by kernel_rfl))
 f162:=Tryz.func31.trans (congrArg some (by kernel_rfl))
 f197:=Tryz.func87.trans (congrArg some (by kernel_rfl))
 f217:=Tryz.func120.trans (congrArg some (by kernel_rfl))
 f224:=Tryz.func101.trans (congrArg some (by kernel_rfl))
 f225:=Tryz.func102.trans (congrArg some (by kernel_rfl))
 f227:=Tryz.func56.trans (congrArg some (by kernel_rfl))
 f228:=Tryz.func72.trans (congrArg some (by kernel_rfl))
 f232:=Tryz.func55.trans (congrArg some (by kernel_rfl))
 f234:=Tryz.func58.trans (congrArg some (by kernel_rfl))
 f236:=Tryz.func60.trans (congrArg some (by kernel_rfl))
 f260:=Tryz.func112.trans (congrArg some (by kernel_rfl))
 f266:=Tryz.func133.trans (congrArg some (by kernel_rfl))
 f271:=Tryz.func89.trans (congrArg some (by kernel_rfl))
 t0:=Tryz.underlying0
 a0:=Tryz.isAgg0
 z0:=Tryz.sizeOf0
 v0:=Tryz.zeroValue0
 t3:=Tryz.underlying3
 a3:=Tryz.isAgg3
 z3:=Tryz.sizeOf3
 v3:=Tryz.zeroValue3
 t4:=Tryz.underlying4
 a4:=Tryz.isAgg4
 z4:=Tryz.sizeOf4
 v4:=Tryz.zeroValue4
 t5:=Tryz.underlying5
 a5:=Tryz.isAgg5
 z5:=Tryz.sizeOf5
 v5:=Tryz.zeroValue5
 t9:=Tryz.underlying9
 a9:=Tryz.isAgg9
 z9:=Tryz.sizeOf9
 v9:=Tryz.zeroValue9
 t21:=Tryz.underlying21
 a21:=Tryz.isAgg21
 z21:=Tryz.sizeOf21
 v21:=Tryz.zeroValue21
 t46:=Tryz.underlying44
 a46:=Tryz.isAgg44
 z46:=Tryz.sizeOf44
 v46:=Tryz.zeroValue44
 t105:=Tryz.underlying114
 a105:=Tryz.isAgg114
 z105:=Tryz.sizeOf114
 v105:=Tryz.zeroValue114
 t116:=Tryz.underlying77
 a116:=Tryz.isAgg77
 z116:=Tryz.sizeOf77
 t117:=Tryz.underlying78
 a117:=Tryz.isAgg78
 z117:=Tryz.sizeOf78
 v117:=Tryz.zeroValue78
 t119:=Tryz.underlying156
 a119:=Tryz.isAgg156
 z119:=Tryz.sizeOf156
 t124:=Tryz.underlying81
 a124:=Tryz.isAgg81
 z124:=Tryz.sizeOf81
 v124:=Tryz.zeroValue81
 t138:=Tryz.underlying158
 a138:=Tryz.isAgg158
 z138:=Tryz.sizeOf158
 v138:=Tryz.zeroValue158
 t139:=Tryz.underlying159
 a139:=Tryz.isAgg159
 z139:=Tryz.sizeOf159
 v139:=Tryz.zeroValue159
 g3:=by kernel_rfl
 g4:=by kernel_rfl }
def Tryz.sP:Go.Shelf.Ren:=⟨fun | 105=>51 | 212=>80 | 99=>81 | 165=>82 | 166=>83 | 170=>84 | 169=>85 | 263=>107 | 264=>108 | 206=>98 | 240=>109 | 241=>110 | 276=>123 | 277=>124 | n=>n,fun | 9=>9 | 3=>3 | 4=>4 | 20=>20 | 0=>0 | 46=>44 | 109=>100 | 5=>5 | 72=>105 | 76=>109 | 51=>95 | 146=>136 | 53=>22 | 148=>138 | 70=>103 | 37=>74 | 75=>108 | 127=>140 | 164=>149 | 80=>112 | n=>n,fun | n=>n⟩
theorem Tryz.Ik:Go.Proofs.Lays.n105 Tryz.prog Tryz.sP:={
 mixed:=by kernel_rfl
 f99:=Tryz.func81.trans (congrArg some (by kernel_rfl))
 f105:=Tryz.func51.trans (congrArg some (by kernel_rfl))
 f165:=Tryz.func82.trans (congrArg some (by kernel_rfl))
 f166:=Tryz.func83.trans (congrArg some (by kernel_rfl))
 f169:=Tryz.func85.trans (congrArg some (by kernel_rfl))
 f170:=Tryz.func84.trans (congrArg some (by kernel_rfl))
 f206:=Tryz.func98.trans (congrArg some (by kernel_rfl))
 f212:=Tryz.func80.trans (congrArg some (by kernel_rfl))
 f240:=Tryz.func109.trans (congrArg some (by kernel_rfl))
 f241:=Tryz.func110.trans (congrArg some (by kernel_rfl))
 f263:=Tryz.func107.trans (congrArg some (by kernel_rfl))
 f264:=Tryz.func108.trans (congrArg some (by kernel_rfl))
 f276:=Tryz.func123.trans (congrArg some (by kernel_rfl))
 f277:=Tryz.func124.trans (congrArg some (by kernel_rfl))
 t0:=Tryz.underlying0
 a0:=Tryz.isAgg0
 z0:=Tryz.sizeOf0
 v0:=Tryz.zeroValue0
 t3:=Tryz.underlying3
 a3:=Tryz.isAgg3
 z3:=Tryz.sizeOf3
 v3:=Tryz.zeroValue3
 t4:=Tryz.underlying4
 a4:=Tryz.isAgg4
 z4:=Tryz.sizeOf4
 v4:=Tryz.zeroValue4
 t5:=Tryz.underlying5
 a5:=Tryz.isAgg5
 z5:=Tryz.sizeOf5
 v5:=Tryz.zeroValue5
 t9:=Tryz.underlying9
 a9:=Tryz.isAgg9
 z9:=Tryz.sizeOf9
 v9:=Tryz.zeroValue9
 t20:=Tryz.underlying20
 a20:=Tryz.isAgg20
 z20:=Tryz.sizeOf20
 v20:=Tryz.zeroValue20
 t37:=Tryz.underlying74
 a37:=Tryz.isAgg74
 z37:=Tryz.sizeOf74
 v37:=Tryz.zeroValue74
 t46:=Tryz.underlying44
 a46:=Tryz.isAgg44
 z46:=Tryz.sizeOf44
 v46:=Tryz.zeroValue44
 t51:=Tryz.underlying95
 a51:=Tryz.isAgg95
 z51:=Tryz.sizeOf95
 v51:=Tryz.zeroValue95
 t53:=Tryz.underlying22
 a53:=Tryz.isAgg22
 z53:=Tryz.sizeOf22
 v53:=Tryz.zeroValue22
 t70:=Tryz.underlying103
 a70:=Tryz.isAgg103
 z70:=Tryz.sizeOf103
 v70:=Tryz.zeroValue103
 t72:=Tryz.underlying105
 a72:=Tryz.isAgg105
 z72:=Tryz.sizeOf105
 v72:=Tryz.zeroValue105
 t75:=Tryz.underlying108
 a75:=Tryz.isAgg108
 z75:=Tryz.sizeOf108
 v75:=Tryz.zeroValue108
 t76:=Tryz.underlying109
 a76:=Tryz.isAgg109
 z76:=Tryz.sizeOf109
 v76:=Tryz.zeroValue109
 t109:=Tryz.underlying100
 a109:=Tryz.isAgg100
 z109:=Tryz.sizeOf100
 v109:=Tryz.zeroValue100
 t127:=Tryz.underlying140
 a127:=Tryz.isAgg140
 z127:=Tryz.sizeOf140
 v127:=Tryz.zeroValue140
 t146:=Tryz.underlying136
 a146:=Tryz.isAgg136
 z146:=Tryz.sizeOf136
 v146:=Tryz.zeroValue136
 t148:=Tryz.underlying138
 a148:=Tryz.isAgg138
 z148:=Tryz.sizeOf138
 v148:=Tryz.zeroValue138
 t164:=Tryz.underlying149
 a164:=Tryz.isAgg149
 z164:=Tryz.sizeOf149
 v164:=Tryz.zeroValue149 }
theorem Tryz.HA:Builder.Extra Tryz.prog Tryz.sP:={
 sizeBuilder:=by kernel_rfl
 liesBuilder:=by kernel_rfl
 t5:=Tryz.underlying5
 a5:=Tryz.isAgg5
 z5:=Tryz.sizeOf5
 v5:=Tryz.zeroValue5
 infoByte:=by kernel_rfl
 cellsByte:=by kernel_rfl
 sizeByte:=by kernel_rfl
 neB5:=by decide }
def Tryz.sO:Go.Shelf.Ren:=⟨fun | 156=>106 | 165=>82 | 166=>83 | 169=>85 | 240=>109 | 241=>110 | 276=>123 | 277=>124 | n=>n,fun | 31=>132 | 9=>9 | 3=>3 | 4=>4 | 0=>0 | 20=>20 | 72=>105 | 76=>109 | 70=>103 | 37=>74 | 75=>108 | 127=>140 | 164=>149 | 5=>5 | 80=>112 | n=>n,fun | n=>n⟩
theorem Tryz.B7:Go.Proofs.Lays.n156 Tryz.prog Tryz.sO:={
 mixed:=by kernel_rfl
 f156:=Tryz.func106.trans (congrArg some (by kernel_rfl))
 f165:=Tryz.func82.trans (congrArg some (by kernel_rfl))
 f166:=Tryz.func83.trans (congrArg some (by kernel_rfl))
 f169:=Tryz.func85.trans (congrArg some (by kernel_rfl))
 f240:=Tryz.func109.trans (congrArg some (by kernel_rfl))
 f241:=Tryz.func110.trans (congrArg some (by kernel_rfl))
 f276:=Tryz.func123.trans (congrArg some (by kernel_rfl))
 f277:=Tryz.func124.trans (congrArg some (by kernel_rfl))
 t0:=Tryz.underlying0
 a0:=Tryz.isAgg0
 z0:=Tryz.sizeOf0
 v0:=Tryz.zeroValue0
 t3:=Tryz.underlying3
 a3:=Tryz.isAgg3
 z3:=Tryz.sizeOf3
 v3:=Tryz.zeroValue3
 t4:=Tryz.underlying4
 a4:=Tryz.isAgg4
 z4:=Tryz.sizeOf4
 v4:=Tryz.zeroValue4
 t9:=Tryz.underlying9
 a9:=Tryz.isAgg9
 z9:=Tryz.sizeOf9
 v9:=Tryz.zeroValue9
 t20:=Tryz.underlying20
 a20:=Tryz.isAgg20
 z20:=Tryz.sizeOf20
 v20:=Tryz.zeroValue20
 t31:=Tryz.underlying132
 a31:=Tryz.isAgg132
 z31:=Tryz.sizeOf132
 v31:=Tryz.zeroValue132
 t37:=Tryz.underlying74
 a37:=Tryz.isAgg74
 z37:=Tryz.sizeOf74
 v37:=Tryz.zeroValue74
 t70:=Tryz.underlying103
 a70:=Tryz.isAgg103
 z70:=Tryz.sizeOf103
 v70:=Tryz.zeroValue103
 t72:=Tryz.underlying105
 a72:=Tryz.isAgg105
 z72:=Tryz.sizeOf105
 v72:=Tryz.zeroValue105
 t75:=Tryz.underlying108
 a75:=Tryz.isAgg108
 z75:=Tryz.sizeOf108
 v75:=Tryz.zeroValue108
 t76:=Tryz.underlying109
 a76:=Tryz.isAgg109
 z76:=Tryz.sizeOf109
 v76:=Tryz.zeroValue109
 t127:=Tryz.underlying140
 a127:=Tryz.isAgg140
 z127:=Tryz.sizeOf140
 v127:=Tryz.zeroValue140
 t164:=Tryz.underlying149
 a164:=Tryz.isAgg149
 z164:=Tryz.sizeOf149
 v164:=Tryz.zeroValue149 }
theorem Tryz.Je:Builder.Extra Tryz.prog Tryz.sO:={
 sizeBuilder:=by kernel_rfl
 liesBuilder:=by kernel_rfl
 t5:=Tryz.underlying5
 a5:=Tryz.isAgg5
 z5:=Tryz.sizeOf5
 v5:=Tryz.zeroValue5
 infoByte:=by kernel_rfl
 cellsByte:=by kernel_rfl
 sizeByte:=by kernel_rfl
 neB5:=by decide }
def Tryz.xd:Go.Shelf.Ren:=⟨fun | 171=>104 | 243=>122 | 246=>111 | 283=>125 | 284=>126 | 285=>127 | 286=>128 | 129=>97 | 317=>135 | 318=>136 | 319=>137 | 320=>138 | 337=>141 | 338=>96 | n=>n,fun | 3=>3 | 9=>9 | 2=>2 | 4=>4 | 171=>152 | 0=>0 | 53=>22 | 37=>74 | 5=>5 | 173=>154 | 212=>165 | 51=>95 | 20=>20 | 213=>166 | 46=>44 | 232=>172 | 233=>148 | n=>n,fun | 17=>4 | 18=>6 | 19=>0 | n=>n⟩
theorem Tryz.Ft:Go.Proofs.LaysM.n171 Tryz.prog Tryz.xd:={
 mixed:=by kernel_rfl
 f129:=Tryz.func97.trans (congrArg some (by kernel_rfl))
 f171:=Tryz.func104.trans (congrArg some (by kernel_rfl))
 f243:=Tryz.func122.trans (congrArg some (by kernel_rfl))
 f246:=Tryz.func111.trans (congrArg some (by kernel_rfl))
 f283:=Tryz.func125.trans (congrArg some (by kernel_rfl))
 f284:=Tryz.func126.trans (congrArg some (by kernel_rfl))
 f285:=Tryz.func127.trans (congrArg some (by kernel_rfl))
 f286:=Tryz.func128.trans (congrArg some (by kernel_rfl))
 f317:=Tryz.func135.trans (congrArg some (by kernel_rfl))
 f318:=Tryz.func136.trans (congrArg some (by kernel_rfl))
 f319:=Tryz.func137.trans (congrArg some (by kernel_rfl))
 f320:=Tryz.func138.trans (congrArg some (by kernel_rfl))
 f337:=Tryz.func141.trans (congrArg some (by kernel_rfl))
 f338:=Tryz.func96.trans (congrArg some (by kernel_rfl))
 t0:=Tryz.underlying0
 a0:=Tryz.isAgg0
 z0:=Tryz.sizeOf0
 v0:=Tryz.zeroValue0
 t2:=Tryz.underlying2
 a2:=Tryz.isAgg2
 z2:=Tryz.sizeOf2
 v2:=Tryz.zeroValue2
 t3:=Tryz.underlying3
 a3:=Tryz.isAgg3
 z3:=Tryz.sizeOf3
 v3:=Tryz.zeroValue3
 t4:=Tryz.underlying4
 a4:=Tryz.isAgg4
 z4:=Tryz.sizeOf4
 v4:=Tryz.zeroValue4
 t5:=Tryz.underlying5
 a5:=Tryz.isAgg5
 z5:=Tryz.sizeOf5
 v5:=Tryz.zeroValue5
 t9:=Tryz.underlying9
 a9:=Tryz.isAgg9
 z9:=Tryz.sizeOf9
 v9:=Tryz.zeroValue9
 t20:=Tryz.underlying20
 a20:=Tryz.isAgg20
 z20:=Tryz.sizeOf20
 v20:=Tryz.zeroValue20
 t37:=Tryz.underlying74
 a37:=Tryz.isAgg74
 z37:=Tryz.sizeOf74
 v37:=Tryz.zeroValue74
 t46:=Tryz.underlying44
 a46:=Tryz.isAgg44
 z46:=Tryz.sizeOf44
 v46:=Tryz.zeroValue44
 t51:=Tryz.underlying95
 a51:=Tryz.isAgg95
 z51:=Tryz.sizeOf95
 v51:=Tryz.zeroValue95
 t53:=Tryz.underlying22
 a53:=Tryz.isAgg22
 z53:=Tryz.sizeOf22
 v53:=Tryz.zeroValue22
 t171:=Tryz.underlying152
 a171:=Tryz.isAgg152
 z171:=Tryz.sizeOf152
 v171:=Tryz.zeroValue152
 t173:=Tryz.underlying154
 a173:=Tryz.isAgg154
 z173:=Tryz.sizeOf154
 v173:=Tryz.zeroValue154
 t212:=Tryz.underlying165
 a212:=Tryz.isAgg165
 z212:=Tryz.sizeOf165
 v212:=Tryz.zeroValue165
 t213:=Tryz.underlying166
 a213:=Tryz.isAgg166
 z213:=Tryz.sizeOf166
 t232:=Tryz.underlying172
 a232:=Tryz.isAgg172
 z232:=Tryz.sizeOf172
 v232:=Tryz.zeroValue172
 t233:=Tryz.underlying148
 a233:=Tryz.isAgg148
 z233:=Tryz.sizeOf148
 v233:=Tryz.zeroValue148
 g17:=by kernel_rfl
 g18:=by kernel_rfl
 g19:=by kernel_rfl
 i0:=by kernel_rfl
 i2:=by kernel_rfl
 i3:=by kernel_rfl
 i4:=by kernel_rfl
 i5:=by kernel_rfl
 i9:=by kernel_rfl
 i20:=by kernel_rfl
 i37:=by kernel_rfl
 i46:=by kernel_rfl
 i51:=by kernel_rfl
 i53:=by kernel_rfl
 i171:=by kernel_rfl
 i173:=by kernel_rfl
 i212:=by kernel_rfl
 i232:=by kernel_rfl
 i233:=by kernel_rfl
 m17:=by kernel_rfl
 m18:=by kernel_rfl
 m19:=by kernel_rfl }
def Tryz.xc:Go.Shelf.Ren:=⟨fun | 173=>86 | 246=>111 | 283=>125 | 284=>126 | 285=>127 | 286=>128 | 129=>97 | 317=>135 | 318=>136 | 319=>137 | 320=>138 | 337=>141 | 338=>96 | n=>n,fun | 2=>2 | 3=>3 | 9=>9 | 4=>4 | 171=>152 | 0=>0 | 53=>22 | 37=>74 | 5=>5 | 173=>154 | 212=>165 | 51=>95 | 20=>20 | 213=>166 | 46=>44 | 232=>172 | 233=>148 | n=>n,fun | 17=>4 | 18=>6 | 19=>0 | n=>n⟩
theorem Tryz.Fs:Go.Proofs.LaysM.n173 Tryz.prog Tryz.xc:={
 mixed:=by kernel_rfl
 f129:=Tryz.func97.trans (congrArg some (by kernel_rfl))
 f173:=Tryz.func86.trans (congrArg some (by kernel_rfl))
 f246:=Tryz.func111.trans (congrArg some (by kernel_rfl))
 f283:=Tryz.func125.trans (congrArg some (by kernel_rfl))
 f284:=Tryz.func126.trans (congrArg some (by kernel_rfl))
 f285:=Tryz.func127.trans (congrArg some (by kernel_rfl))
 f286:=Tryz.func128.trans (congrArg some (by kernel_rfl))
 f317:=Tryz.func135.trans (congrArg some (by kernel_rfl))
 f318:=Tryz.func136.trans (congrArg some (by kernel_rfl))
 f319:=Tryz.func137.trans (congrArg some (by kernel_rfl))
 f320:=Tryz.func138.trans (congrArg some (by kernel_rfl))
 f337:=Tryz.func141.trans (congrArg some (by kernel_rfl))
 f338:=Tryz.func96.trans (congrArg some (by kernel_rfl))
 t0:=Tryz.underlying0
 a0:=Tryz.isAgg0
 z0:=Tryz.sizeOf0
 v0:=Tryz.zeroValue0
 t2:=Tryz.underlying2
 a2:=Tryz.isAgg2
 z2:=Tryz.sizeOf2
 v2:=Tryz.zeroValue2
 t3:=Tryz.underlying3
 a3:=Tryz.isAgg3
 z3:=Tryz.sizeOf3
 v3:=Tryz.zeroValue3
 t4:=Tryz.underlying4
 a4:=Tryz.isAgg4
 z4:=Tryz.sizeOf4
 v4:=Tryz.zeroValue4
 t5:=Tryz.underlying5
 a5:=Tryz.isAgg5
 z5:=Tryz.sizeOf5
 v5:=Tryz.zeroValue5
 t9:=Tryz.underlying9
 a9:=Tryz.isAgg9
 z9:=Tryz.sizeOf9
 v9:=Tryz.zeroValue9
 t20:=Tryz.underlying20
 a20:=Tryz.isAgg20
 z20:=Tryz.sizeOf20
 v20:=Tryz.zeroValue20
 t37:=Tryz.underlying74
 a37:=Tryz.isAgg74
 z37:=Tryz.sizeOf74
 v37:=Tryz.zeroValue74
 t46:=Tryz.underlying44
 a46:=Tryz.isAgg44
 z46:=Tryz.sizeOf44
 v46:=Tryz.zeroValue44
 t51:=Tryz.underlying95
 a51:=Tryz.isAgg95
 z51:=Tryz.sizeOf95
 v51:=Tryz.zeroValue95
 t53:=Tryz.underlying22
 a53:=Tryz.isAgg22
 z53:=Tryz.sizeOf22
 v53:=Tryz.zeroValue22
 t171:=Tryz.underlying152
 a171:=Tryz.isAgg152
 z171:=Tryz.sizeOf152
 v171:=Tryz.zeroValue152
 t173:=Tryz.underlying154
 a173:=Tryz.isAgg154
 z173:=Tryz.sizeOf154
 v173:=Tryz.zeroValue154
 t212:=Tryz.underlying165
 a212:=Tryz.isAgg165
 z212:=Tryz.sizeOf165
 v212:=Tryz.zeroValue165
 t213:=Tryz.underlying166
 a213:=Tryz.isAgg166
 z213:=Tryz.sizeOf166
 t232:=Tryz.underlying172
 a232:=Tryz.isAgg172
 z232:=Tryz.sizeOf172
 v232:=Tryz.zeroValue172
 t233:=Tryz.underlying148
 a233:=Tryz.isAgg148
 z233:=Tryz.sizeOf148
 v233:=Tryz.zeroValue148
 g17:=by kernel_rfl
 g18:=by kernel_rfl
 g19:=by kernel_rfl
 i0:=by kernel_rfl
 i2:=by kernel_rfl
 i3:=by kernel_rfl
 i4:=by kernel_rfl
 i5:=by kernel_rfl
 i9:=by kernel_rfl
 i20:=by kernel_rfl
 i37:=by kernel_rfl
 i46:=by kernel_rfl
 i51:=by kernel_rfl
 i53:=by kernel_rfl
 i171:=by kernel_rfl
 i173:=by kernel_rfl
 i212:=by kernel_rfl
 i232:=by kernel_rfl
 i233:=by kernel_rfl
 m17:=by kernel_rfl
 m18:=by kernel_rfl
 m19:=by kernel_rfl }
end Go.Proofs
namespace Go.Eng
open Go.RowKit Go.Proofs
theorem pw {P:Program} {gl:Nat→AV} {f n:Nat} {c:eW} (h:∀(ti fZ:List TV) (w:World) (R:Reach) (xs:List Value),(c ti).holds fZ→eY R w (ti.map TV.av) xs→(∀n,Rep R w (gl n) (.pointer (some ⟨n,0,none⟩))) →
  fZ.length=n∧Calls P f ⟨xs⟩ w fun e w'=>∃rvs:List Value,e = .returned (if n=1 then rvs.headD undef else .tuple ⟨rvs⟩)∧Below w.heap.size w w'∧∀R w',eY R w' (fZ.map TV.av) rvs):dH P gl f (eW.fs (c,{ bO:=n })):=by
 refine ⟨fun _ w R ins outs xs hG hR xm ha=>?_,fun _ _ h=>by cases h⟩
 obtain ⟨ti,fZ,rfl,rfl,hc⟩:=hG
 obtain ⟨hl,h⟩:=h ti fZ w R xs hc ha xm
 refine h.mono ?_
 rintro e w' ⟨rvs,rfl,hb,hx⟩
 refine ⟨_,R,rfl,sA hR hb,fun b o hr=>Nat.lt_of_lt_of_le (hR b o hr) hb.size,?_⟩
 have Hy:rvs.length=n:=by
  have:=(hx R w').length
  simpa [hl] using this.symm
 refine ⟨rvs,[],[],[],0,0,[],[],Hy,rfl,by simp [hl,eW.fs],?_,fun j hj=>by simp [eW.fs] at hj,fun j hj=>by simp [eW.fs] at hj,rfl,rfl,rfl,?_,?_,?_,?_,?_,?_⟩
 ·have e:(List.mapIdx (fun i y=>if (eW.fs (c,{ bO:=n })).sg.new=some i then AV.pt else y) ((fZ.map TV.av).take (eW.fs (c,{ bO:=n })).sg.bO))=fZ.map TV.av:=by
   have e1:(fZ.map TV.av).take (eW.fs (c,{ bO:=n })).sg.bO=fZ.map TV.av:=List.take_of_length_le (by rw [aG,hl];exact Nat.le_refl _)
   rw [e1]
   show List.mapIdx (fun _ y=>y) (fZ.map TV.av)=fZ.map TV.av
   exact List.ext_getElem? fun i=>by rw [List.getElem?_mapIdx];cases (fZ.map TV.av)[i]? <;> rfl
  rw [e];exact hx R w'
 all_goals intros
 all_goals simp_all [eW.fs,j9]
theorem AD {R:Reach} {w:World} {a b:bT} {xs:List Value} (h:eY R w (([.s a,.s b]:List TV).map TV.av) xs):xs=[.string ⟨a.toArray⟩,.string ⟨b.toArray⟩]:=by
 have h:eY R w [.v (.string ⟨⟨a⟩⟩),.v (.string ⟨⟨b⟩⟩)] xs:=h
 cases h with
 | cons x y =>
  cases x
  cases y with
  | cons x y=>cases x;cases y;rfl
theorem og {R:Reach} {w:World} {a:bT}:Rep R w (TV.s a).av (.string ⟨a.toArray⟩):=by
 have:Rep R w (.v (.string ⟨⟨a⟩⟩)) (.string ⟨a.toArray⟩) := .v _
 exact this
theorem Nl {R:Reach} {w:World} {n:Int}:Rep R w (TV.i .i64 n).av (.int .i64 n):=by
 have:Rep R w (.v (.int .i64 n)) (.int .i64 n) := .v _
 exact this
theorem Nn {R:Reach} {w:World} {b:Bool}:Rep R w (TV.b b).av (.bool b):=by
 have:Rep R w (.v (.bool b)) (.bool b) := .v _
 exact this
theorem sB {c:bT} (h:c.all (fun b=>decide (b.toNat<128))=true):∀(j:Nat) b,(⟨c.toArray⟩:ByteArray).data.toList[j]?=some b→b.toNat<128:=fun j b hb=>aN (aL.1 h b (aT (by simpa using hb)))
theorem tV {s c:bT} (h:(decide (s.length≤1099511627776∧c.length≤100)&&c.all (fun b=>decide (b.toNat<128)))=true):(⟨s.toArray⟩:ByteArray).size≤9223372036854775807∧(⟨c.toArray⟩:ByteArray).size<4294967281∧c.all (fun b=>decide (b.toNat<128))=true:=by
 simp only [aa,ay] at h
 refine ⟨?_,?_,by simpa using h.2⟩
 ·show s.toArray.size≤_
  rw [List.size_toArray];omega
 ·show c.toArray.size<_
  rw [List.size_toArray];omega
theorem lT.ok:KO 29 (lT.c) lT.sg:=by
 refine pw fun ti fZ w R xs hc ha hG=>?_
 unfold lT.c at hc
 split at hc
 ·rename_i s c
  obtain ⟨hp,rfl⟩:=hc
  rw [AD ha]
  obtain ⟨p1,p2,p3⟩:=tV hp
  refine ⟨rfl,(Go.Proofs.Any.strings_Trim_laid Tryz.Ij (by kernel_rfl) _ _ w p1 p2 (sB p3)).mono ?_⟩
  rintro e w' ⟨rfl,hb⟩
  exact ⟨[_],rfl,hb,fun R w' => .cons og .nil⟩
 ·exact hc.elim
theorem gT.ok:KO 30 (gT.c) gT.sg:=by
 refine pw fun ti fZ w R xs hc ha hG=>?_
 unfold gT.c at hc
 split at hc
 ·rename_i s c
  obtain ⟨hp,rfl⟩:=hc
  rw [AD ha]
  obtain ⟨p1,p2,p3⟩:=tV hp
  refine ⟨rfl,(Go.Proofs.Any.strings_TrimLeft_laid Tryz.Ii (by kernel_rfl) _ _ w p2 (sB p3)).mono ?_⟩
  rintro e w' ⟨rfl,hb⟩
  exact ⟨[_],rfl,hb,fun R w' => .cons og .nil⟩
 ·exact hc.elim
theorem fy.ok:KO 31 (fy.c) fy.sg:=by
 refine pw fun ti fZ w R xs hc ha hG=>?_
 unfold fy.c at hc
 split at hc
 ·rename_i s c
  obtain ⟨hp,rfl⟩:=hc
  rw [AD ha]
  obtain ⟨p1,p2,p3⟩:=tV hp
  refine ⟨rfl,(Go.Proofs.Any.strings_TrimRight_laid Tryz.Ih (by kernel_rfl) _ _ w p1 p2 (sB p3)).mono ?_⟩
  rintro e w' ⟨rfl,hb⟩
  exact ⟨[_],rfl,hb,fun R w' => .cons og .nil⟩
 ·exact hc.elim
theorem mb.ok:KO 96 (mb.c) mb.sg:=by
 refine pw fun ti fZ w R xs hc ha hG=>?_
 unfold mb.c at hc
 split at hc
 ·rename_i x
  cases hc
  have e:xs=[.int .u64 x.toNat]:=by
   have ha:eY R w [.v (.int .u64 x.toNat)] xs:=ha
   cases ha with
   | cons a b=>cases a;cases b;rfl
  rw [e]
  have h0:Rep R w (.gv ((Lib.deBruijn64tab.map Int.ofNat).map fun z=>Value.int .u8 z)) (.pointer (some ⟨0,0,none⟩)):=hG 0
  refine ⟨rfl,(Go.Proofs.Any7.bits_TrailingZeros64 Tryz.Lx x.toNat x.toNat_lt w fun _ j hj=>?_).mono ?_⟩
  ·cases h0 with
   | gv h1 h2 =>
    have:=h2 j
    rw [aW,aI,aA hj] at this
    rw [ak,aA hj]
    exact this
  ·rintro e w' ⟨rfl,rfl⟩
   exact ⟨[_],rfl,Below.refl _ _,fun R w' => .cons Nl .nil⟩
 ·exact hc.elim
end Go.Eng
namespace Go.Eng
open Go.RowKit Go.Proofs
theorem Fp (n:Nat):Lib.decDigits n=Nr.dec n:=by
 induction n using Nat.strongRecOn with
 | _ n ih =>
  rw [Lib.decDigits]
  by_cases h:n<10
  ·rw [dif_pos h,Nr.mV h]
  ·rw [dif_neg h,Nr.qY h,ih (n / 10) (by omega)]
theorem B4 (v:Int):Lib.itoa v=Nr.itoa v:=by
 rw [Nr.B9]
 unfold Lib.itoa
 by_cases h:v<0
 ·rw [aH h,aH h,Fp]
 ·rw [aD h,aD h,Fp,show v.toNat=v.natAbs by omega]
theorem KP {R:Reach} {w:World} {n:Int} {xs:List Value} (h:eY R w (([.i .i64 n]:List TV).map TV.av) xs):xs=[.int .i64 n]:=by
 have h:eY R w [.v (.int .i64 n)] xs:=h
 cases h with
 | cons a b=>cases a;cases b;rfl
theorem KN {R:Reach} {w:World} {n m:Int} {xs:List Value} (h:eY R w (([.i .i64 n,.i .i64 m]:List TV).map TV.av) xs):xs=[.int .i64 n,.int .i64 m]:=by
 have h:eY R w [.v (.int .i64 n),.v (.int .i64 m)] xs:=h
 cases h with
 | cons a b=>cases a;cases b with
  | cons a b=>cases a;cases b;rfl
theorem KM {R:Reach} {w:World} {s:bT} {m:Int} {xs:List Value} (h:eY R w (([.s s,.i .i64 m]:List TV).map TV.av) xs):xs=[.string ⟨s.toArray⟩,.int .i64 m]:=by
 have h:eY R w [.v (.string ⟨⟨s⟩⟩),.v (.int .i64 m)] xs:=h
 cases h with
 | cons a b=>cases a;cases b with
  | cons a b=>cases a;cases b;rfl
theorem BQ {w:World} {R:Reach} (hG:∀n,Rep R w ((nrGl n).av) (.pointer (some ⟨n,0,none⟩))):Lib.TabIs Tryz.prog w "internal/strconv.uint64pow10" .u64 Lib.pow10Tab:=by
 have kb:=hG 4
 have e:nrGl 4=vk .u64 (Lib.pow10Tab.headD 0 :: Lib.pow10Tab.tail):=rfl
 rw [e] at kb
 exact vG kb (by kernel_rfl)
theorem lX.ok:KO 104 (lX.c) lX.sg:=by
 refine j7 fun ti fZ w R xs hc ha hR hG=>?_
 unfold lX.c at hc
 split at hc
 ·rename_i n
  obtain ⟨hp,rfl⟩:=hc
  have hp:=aN (Nr.FG hp)
  obtain rfl:=KP ha
  refine (Any.strconv_Itoa Tryz.Ft n hp.1 hp.2 w (BQ hG)).mono ?_
  rintro e w' ⟨rfl,q,os,rfl⟩
  refine ⟨_,rfl,qg _ _ _,fun R w'=>?_⟩
  rw [B4]
  exact .cons og .nil
 ·exact hc.elim
theorem gx.ok:KO 86 (gx.c) gx.sg:=by
 refine j7 fun ti fZ w R xs hc ha hR hG=>?_
 unfold gx.c at hc
 split at hc
 ·rename_i n b
  obtain ⟨hp,rfl⟩:=hc
  rw [aa] at hp
  obtain ⟨hp,hb⟩:=hp
  have hp:=aN (Nr.FG hp)
  obtain rfl:=aN hb
  obtain rfl:=KN ha
  refine (Any.strconv_FormatInt_10 Tryz.Fs n hp.1 hp.2 w (BQ hG)).mono ?_
  rintro e w' ⟨rfl,q,os,rfl⟩
  refine ⟨_,rfl,qg _ _ _,fun R w'=>?_⟩
  rw [B4]
  exact .cons og .nil
 ·exact hc.elim
theorem qz:∀c:Nat,Lib.repeatL [48] c=Sh.fF c
 | 0=>rfl
 | c+1=>by
  rw [Lib.repeatL,qz c]
  unfold Sh.fF
  rw [aw,aw,List.replicate_succ];rfl
theorem gM.ok:KO 51 (gM.c) gM.sg:=by
 refine j7 fun ti fZ w R xs hc ha hR hG=>?_
 unfold gM.c at hc
 split at hc
 ·rename_i s n
  obtain ⟨hp,rfl⟩:=hc
  obtain ⟨rfl,h1,h2⟩:=aN hp
  obtain rfl:=KM ha
  obtain ⟨c,rfl⟩:=Int.eq_ofNat_of_zero_le h1
  refine (Any.strings_Repeat Tryz.Ik Tryz.HA ⟨#[48]⟩ c w (by omega) (by show 1 * c≤_;omega)).mono ?_
  rintro e w' ⟨rfl,hb⟩
  refine ⟨_,rfl,hb,fun R w'=>?_⟩
  have e:Lib.repeatL (⟨#[48]⟩:ByteArray).data.toList c=Sh.fF c:=qz c
  rw [e]
  exact .cons og .nil
 ·exact hc.elim
theorem ur {R:Reach} {w:World} {b:Nat}:∀{l:List bT} {off:Nat},ij R w 1 (l.map fun s=>AV.v (.string ⟨⟨s⟩⟩)) b off→∀j x,l[j]?=some x→R b (off+j)∧w.cell? ⟨b,off+j,none⟩=some (.string ⟨⟨x⟩⟩)
 | [],_,_,j,x,h=>by simp at h
 | s :: r,off,h,j,x,hx=>by
  rw [ah] at h
  cases h with
  | cons h1 h2 =>
   cases h1 with
   | one a b c d e =>
    cases e
    cases j with
    | zero=>simp at hx;subst hx;exact ⟨b,c⟩
    | succ j =>
     have:=ur h2 j x (by simpa using hx)
     rw [show off+1+j=off+(j+1) by omega] at this
     exact this
theorem C2 (xs:List ByteArray):Lib.join (xs.map (·.data.toList)) []=(xs.map (·.data.toList)).flatten:=by
 unfold Lib.join
 induction xs with
 | nil=>rfl
 | cons x r ih =>
  cases r with
  | nil=>simp [List.intercalate]
  | cons y r=>simp [List.intercalate,List.intersperse] at ih ⊢;exact ih
theorem lU.ok:KO 106 (lU.c) lU.sg:=by
 refine j7 fun ti fZ w R xs hc ha hR hG=>?_
 unfold lU.c at hc
 split at hc
 ·rename_i l s
  obtain ⟨hp,rfl⟩:=hc
  obtain ⟨rfl,h1,h2⟩:=aN hp
  have ha:eY R w [.sl 1 (l.map fun s=>AV.v (.string ⟨⟨s⟩⟩)),.v (.string ⟨⟨[]⟩⟩)] xs:=ha
  cases ha with
  | cons hs ht =>
   cases ht with
   | cons hq ht =>
    cases hq
    cases ht
    have none_:∀(a:Option Addr) (c:Nat),l=[]→Calls Tryz.prog 106 ⟨[.slice a 0 c,.string ⟨⟨[]⟩⟩]⟩ w fun e w'=>∃x,e = .returned x∧Below w.heap.size w w'∧∀R w',eY R w' (([.s l.flatten]:List TV).map TV.av) [x]:=fun a c h0=>by
     refine (Any.strings_Join_none Tryz.B7 Tryz.Je a c ⟨#[]⟩ w).mono ?_
     rintro e w' ⟨rfl,rfl⟩
     refine ⟨_,rfl,Below.refl _ _,fun R w'=>?_⟩
     rw [h0];exact .cons og .nil
    generalize qk:(l.map fun s=>AV.v (.string ⟨⟨s⟩⟩))=es at hs
    cases hs with
    | nil=>exact none_ _ _ (List.map_eq_nil_iff.1 qk)
    | em _ hc=>exact none_ _ _ (List.map_eq_nil_iff.1 qk)
    | @sl _ _ b off n cap e1 e2 e3 hE =>
     rw [←qk] at hE e1
     rw [aG] at e1
     subst e1
     by_cases h0:l=[]
     ·rw [h0];rw [h0] at none_;exact none_ _ _ rfl
     ·have qe:=ur hE
      have hb:b<w.heap.size:=by
       obtain ⟨x,hx⟩:∃x,l[0]?=some x:=⟨l[0]'(List.length_pos_iff.2 h0),aA _⟩
       exact hR _ _ (qe 0 x hx).1
      have ed:(l.map fun s=>(⟨⟨s⟩⟩:ByteArray)).map (·.data.toList)=l:=by rw [aW];exact List.map_id l
      have hj:=C2 (l.map fun s=>(⟨⟨s⟩⟩:ByteArray))
      rw [ed] at hj
      have:=Any.strings_Join Tryz.B7 Tryz.Je b off cap (l.map fun s=>(⟨⟨s⟩⟩:ByteArray)) ⟨#[]⟩ w (fun j x hx=>by
       rw [aI] at hx
       cases hl:l[j]? with
       | none=>rw [hl] at hx;cases hx
       | some y=>rw [hl] at hx;cases hx;exact (qe j y hl).2) hb (by rw [aG];omega) (by rw [aG];exact e2) (by rw [ed];show (Lib.join l []).length≤_;rw [hj];omega)
      rw [aG] at this
      refine this.mono ?_
      rintro e w' ⟨rfl,J7⟩
      refine ⟨_,rfl,J7,fun R w'=>?_⟩
      rw [ed]
      have e9:Lib.join l (⟨#[]⟩:ByteArray).data.toList=l.flatten:=hj
      rw [e9]
      exact .cons og .nil
 ·exact hc.elim
end Go.Eng
namespace Go.Eng
open Go.RowKit Go.Proofs Go.Sort
theorem vL {R:Reach} {w:World}:∀{l:List bT} {ys:List Value},dw R w (l.map fun s=>AV.v (.string ⟨⟨s⟩⟩)) ys→ys=l.map encStr
 | [],_,h=>by cases h;rfl
 | s :: r,_,h=>by
  rw [ah] at h
  cases h with
  | cons a b c=>cases b;rw [vL c];rfl
theorem vH {R:Reach} {w:World}:∀l:List bT,dw R w (l.map fun s=>AV.v (.string ⟨⟨s⟩⟩)) (l.map encStr)
 | [] => .nil
 | s :: r => .cons rfl (.v _) (vH r)
theorem wb (l:List bT):(l.map fun s=>AV.v (.string ⟨⟨s⟩⟩)).flatMap AV.cells=l.map fun s=>AV.v (.string ⟨⟨s⟩⟩):=by
 induction l with
 | nil=>rfl
 | cons s r ih=>rw [ah,List.flatMap_cons,ih];rfl
theorem gV.ok:KO 105 (gV.c) gV.sg:=by
 refine ⟨fun h=>(by cases h),fun i s iZ=>?_⟩
 have iZ:some (2000,1)=some (i,s):=iZ
 cases iZ
 refine ⟨fun h=>absurd h (by decide),fun _=>⟨fun h=>absurd h (by decide),fun _=>?_⟩⟩
 intro w R ins fs xs v es hG hR xm hx hi fI ht hp hT
 obtain ⟨ti,fZ,rfl,ho,hc⟩:=hG
 replace hc:(gV.c ti).holds fZ:=hc
 unfold gV.c at hc
 split at hc
 ·rename_i l
  obtain ⟨hl,rfl⟩:=hc
  have hl:=aN hl
  have hi:some (AV.sl 1 (l.map fun s=>AV.v (.string ⟨⟨s⟩⟩)))=some (.sl 1 es):=hi
  injection hi with hi
  injection hi with _ hi
  subst hi
  have ho:[AV.sl 1 fs]=[AV.sl 1 (l.reverse.map fun s=>AV.v (.string ⟨⟨s⟩⟩))]:=ho
  injection ho with ho _
  injection ho with _ ho
  subst ho
  have vd:xs=[v]:=by
   have hT:eY R w [.pt] xs:=hT
   cases hT with
   | cons a b=>cases b;have:some _=some v:=hx;cases this;rfl
  subst vd
  obtain ⟨JW,qN⟩:=hp
  rcases qN with e | ⟨Ke,e,qk,qN⟩
  ·cases e
  cases e
  rcases qN with ⟨e1,_⟩ | ⟨g,cap,cur,el,fz,rfl,hh,hL⟩
  ·exact (fI e1).elim
  rw [wb,Nat.mul_one,aG] at hL
  have A8:=vL hL
  rcases ht with e | ⟨g',n',sz,mA,Xj,M4,e,Ch,hfz,kZ,Pm,vu,Su⟩
  ·cases e
  rw [aG] at e
  cases e
  rw [hh] at Ch
  cases Ch
  rw [Nat.mul_one] at kZ
  have ja:∀j,j<l.length→cur[j]?=some (encStr (l.toArray[j]!)):=fun j hj=>by
   have h1:(cur.toList.take l.length)[j]?=(l.map encStr)[j]?:=by rw [A8]
   rw [List.getElem?_take_of_lt hj,aI,aA hj] at h1
   rw [←Array.getElem?_toList,h1,getElem!_pos l.toArray j (by simpa using hj)];simp
  have hH:Holds encStr w g 0 l.toArray:=fun j hj=>by
   have hj:j<l.length:=by simpa using hj
   rw [Nat.zero_add]
   refine ⟨?_,?_⟩
   ·simp only [World.cell?,hh];exact ja j hj
   ·simp only [World.frozen?,hh]
    exact Bool.eq_false_iff.2 fun e=>hfz j (by omega) (by simpa using e)
  have:=Any.slices_Reverse_string_arr Tryz.Ly g 0 cap l.toArray w hH (by rw [List.size_toArray];omega)
  rw [List.size_toArray] at this
  have eL:(l.map fun s=>AV.v (.string ⟨⟨s⟩⟩)).length=l.length:=aG _
  rw [eL]
  refine this.mono ?_
  rintro e w' ⟨rfl,n,rfl⟩
  have F1:∀b,(putRow encStr (Sort.ahead w n) g 0 l.toArray.reverse).heap[b]?=if b=g then some (.cells (putCells encStr 0 l.toArray.reverse cur) el fz) else w.heap[b]?:=fun b=>by
   show (w.heap.modify g (onCells (putCells encStr 0 l.toArray.reverse)))[b]?=_
   rw [Array.getElem?_modify]
   by_cases c:g=b
   ·subst c;rw [aH rfl,aH rfl,hh];rfl
   ·rw [aD c,aD (fun e=>c e.symm)]
  have Sd:(putCells encStr 0 l.toArray.reverse cur).size=cur.size:=Array.size_mapIdx ..
  have gR:(putCells encStr 0 l.toArray.reverse cur).toList.take l.length=l.reverse.map encStr:=by
   apply List.ext_getElem?
   intro j
   by_cases c:j<l.length
   ·rw [List.getElem?_take_of_lt c,Array.getElem?_toList]
    simp only [putCells,Array.getElem?_mapIdx]
    rw [ja j c]
    have hs:j<l.toArray.reverse.size:=by simpa using c
    simp only [Option.map_some]
    rw [aH ⟨by omega,by simpa using c⟩,Nat.sub_zero,getElem!_pos _ j hs,aI,aA (by simpa using c)]
    simp
   ·rw [List.getElem?_eq_none (by rw [aK];omega),List.getElem?_eq_none (by rw [aG,List.length_reverse];omega)]
  refine ⟨rfl,rfl,rfl,rfl,?_,?_,?_,?_⟩
  ·show (w.heap.modify g _).size=_;exact Array.size_modify ..
  ·intro b hb
   rw [F1,aD (fun e=>hb (by rw [e];rfl))]
  ·exact .inr ⟨g,l.length,cap,_,el,fz,rfl,by rw [F1,aH rfl],fun o ho=>hfz o (by omega),by rw [Sd,Nat.mul_one];exact kZ,Pm,vu,Su⟩
  ·refine ⟨JW,.inr ⟨_,rfl,fun e he=>?_,.inr ⟨g,cap,_,el,fz,by rw [aG,List.length_reverse],by rw [F1,aH rfl],?_⟩⟩⟩
   ·obtain ⟨s,_,rfl⟩:=aO.1 he;rfl
   ·rw [wb,Nat.mul_one,aG,List.length_reverse,gR]
    exact vH _
 ·exact hc.elim
end Go.Eng
namespace Go.Eng
open Go.Proofs
theorem cM.fit (x:Nat) (hp:(Fl.num x)=true):([.c (.float .f64 x)]:List TV).length=cM.d.np∧cM.d.run (cZ nrGl cM.env) [.c (.float .f64 x)]=some (([(.c (.float .f64 (Fl.iH x)))]:List TV)++cM.d.eu.map fun qq=>([.c (.float .f64 x)]:List TV).getD qq.1 .dead) :=
 ⟨by kernel_rfl,Eq.trans (b:=cM.F x) (by kernel_rfl) (Eq.trans (cM.goal x hp) (by kernel_rfl))⟩
theorem cM.ok:KO 130 (cM.c) cM.sg :=
 meets (l:=cM.env) all_nil cM.eJ (by
   intro ins outs h
   unfold cM.c at h
   split at h
   ·obtain ⟨hp,rfl⟩:=h;exact cM.fit _ hp
   ·exact h.elim)
end Go.Eng
namespace Go.Eng
open Go.RowKit Go.Proofs
set_option maxRecDepth 100000
set_option maxHeartbeats 1000000
theorem Fl.EC (a:Nat):Ieee.double.read (Fl.neg a)=(Ieee.double.read a).opposite:=by
 have e1:Fl.neg a % 2 ^ 63=a % 2 ^ 63:=by
  unfold Fl.neg
  rw [show 9223372036854775808=2 ^ 63 by decide,Nat.xor_mod_two_pow,Nat.mod_self,Nat.xor_zero]
 have e2:(Fl.neg a / 2 ^ 63 % 2 == 1)=!(a / 2 ^ 63 % 2 == 1):=by
  unfold Fl.neg
  rw [show 9223372036854775808=2 ^ 63 by decide,Nat.xor_div_two_pow,Nat.div_self (by decide)]
  have:=Nat.xor_mod_two_pow (a:=a / 2 ^ 63) (b:=1) (n:=1)
  rw [Nat.pow_one] at this
  rw [this]
  rcases Nat.mod_two_eq_zero_or_one (a / 2 ^ 63) with e | e <;> rw [e] <;> rfl
 have h:Ieee.double.signWeight=2 ^ 63:=rfl
 unfold Ieee.Format.read
 rw [h]
 simp only [e1,e2]
 split
 ·rfl
 ·split
  ·rfl
  ·split <;> rfl
theorem Fl.W.neg {a:Nat} {x:Int} (h:Fl.W a x):Fl.W (Fl.neg a) (-x):=by
 show Fl.WD (Ieee.double.read (Fl.neg a)) (-x)
 rw [Fl.EC]
 exact Fl.WD.opposite h
theorem DQ {R:Reach} {w:World} {x:Nat} (hx:Fl.num x=true) (hR:∀b o,R b o→b<w.heap.size) (hG:∀n,Rep R w ((nrGl n).av) (.pointer (some ⟨n,0,none⟩))) :
  Calls Tryz.prog 130 #[.float .f64 x] w fun e w'=>e = .returned (.float .f64 (Fl.iH x))∧Below w.heap.size w w':=by
 refine (cM.ok.1 rfl w R [.v (.float .f64 x)] [.v (.float .f64 (Fl.iH x))] [.float .f64 x] ⟨[.c (.float .f64 x)],[.c (.float .f64 (Fl.iH x))],rfl,rfl,?_⟩ hR hG (.cons (.v _) .nil)).mono ?_
 ·exact ⟨hx,rfl⟩
 ·rintro e w' ⟨y,R',rfl,hx,hr,ho⟩
  obtain ⟨rvs,tr,fZ,tn,bn,br,cn,cr,h1,h2,h3,h4,_⟩:=ho
  refine ⟨?_,hx.os,hx.tape,hx.output,hx.size,fun k hk=>hx.heap k hk id⟩
  congr 1
  have h1:rvs.length=1:=h1
  match rvs,h1 with
  | [y],_ =>
   have h4:eY R' w' [.v (.float .f64 (Fl.iH x))] [y]:=h4
   cases h4 with
   | cons a b=>cases a;exact h2
theorem TH {R:Reach} (b:Nat) (x m:Nat) (X M:Int) (w:World) (hc:w.cell? ⟨b,0,none⟩=some (.float .f64 m)) (hX:Fl.W x X) (hM:Fl.W m M) (Y5:(X.natAbs:Int)≤M) (hB:M≤9007199254740992) (hR:∀b o,R b o→b<w.heap.size) (hG:∀n,Rep R w ((nrGl n).av) (.pointer (some ⟨n,0,none⟩))) :
  Calls Tryz.prog 132 #[.float .f64 x,.pointer (some ⟨b,0,none⟩)] w fun e w'=>e = .returned (.bool true)∧Below w.heap.size w w':=by
 have hn:∀w:World,(Op.unary .neg (.float .f64 m)).run Tryz.prog w = .ok (.float .f64 (Fl.neg m)) w:=fun w=>rfl
 have h1:FloatKind.f64.format.order x (Fl.neg m)=some .gt∨FloatKind.f64.format.order x (Fl.neg m)=some .eq:=by
  have e:FloatKind.f64.format.order x (Fl.neg m)=some (compare X (-M)):=Fl.ju hX hM.neg
  rw [e]
  rcases Int.lt_or_eq_of_le (show -M≤X by omega) with c | c
  ·rw [Int.compare_eq_gt.2 c];exact .inl rfl
  ·rw [←c,Int.compare_eq_eq.2 rfl];exact .inr rfl
 have h2:FloatKind.f64.format.order x m=some .lt∨FloatKind.f64.format.order x m=some .eq:=by
  have e:FloatKind.f64.format.order x m=some (compare X M):=Fl.ju hX hM
  rw [e]
  rcases Int.lt_or_eq_of_le (show X≤M by omega) with c | c
  ·rw [Int.compare_eq_lt.2 c];exact .inl rfl
  ·rw [←c,Int.compare_eq_eq.2 rfl];exact .inr rfl
 have h3:FloatKind.f64.format.order x (Fl.iH x)=some .eq:=by
  have e:FloatKind.f64.format.order x (Fl.iH x)=some (compare X X):=Fl.ju hX (hX.iH (by omega))
  rw [e,Int.compare_eq_eq.2 rfl]
 go_enter Tryz.func132,Tryz.ntmps132
 rcases h1 with h1 | h1 <;> rcases h2 with h2 | h2
 all_goals
  go_wp2_with (go_at_call 130;refine (DQ hX.num hR hG).mono ?_;rintro e w' ⟨rfl,hb⟩)
  go_ret
  exact ⟨rfl,hb⟩
theorem zq {R:Reach} {w w':World} (hR:∀b o,R b o→b<w.heap.size) (h:Below w.heap.size w w') (hG:∀n,Rep R w ((nrGl n).av) (.pointer (some ⟨n,0,none⟩))):∀n,Rep R w' ((nrGl n).av) (.pointer (some ⟨n,0,none⟩)) :=
 fun n=>Rep.mono (sA hR h).bL (hG n)
theorem Vq {R:Reach} (z:Cx) (m:Nat) (X Y M:Int) (w:World) (hZ:Gz.Is z X Y) (hM:Fl.W m M) (hX:(X.natAbs:Int)≤M) (hY:(Y.natAbs:Int)≤M) (hB:M≤9007199254740992) (hR:∀b o,R b o→b<w.heap.size) (hG:∀n,Rep R w ((nrGl n).av) (.pointer (some ⟨n,0,none⟩))) :
  Calls Tryz.prog 119 #[.complex .f64 z.1 z.2,.float .f64 m] w fun e w'=>e = .returned (.bool true)∧Below w.heap.size w w':=by
 have YW:∀(fn:Fn) (first cap:Array Value) (w:World),(Instr.makeFunc fn first cap).run Tryz.prog w = .ok (.func fn first cap) w:=fun _ _ _ _=>rfl
 have Hz:Below w.heap.size w (w.alloc (.cells #[.float .f64 m] 146)):=(Below.refl _ _).alloc (Nat.le_refl _) _
 have xp:(w.alloc (.cells #[.float .f64 m] 146)).cell? ⟨w.heap.size,0,none⟩=some (.float .f64 m):=by
  rw [World.cell?_alloc_at _ _ _ _ rfl];rfl
 have fq:(w.alloc (.cells #[.float .f64 m] 146)).heap.size=w.heap.size+1:=Array.size_push ..
 have LR:∀(a:Array TypeId) (b:TypeId) (p q:Nat) (w:World),(Builtin.real_ a b #[.complex .f64 p q]).run Tryz.prog w = .ok (.float .f64 p) w:=fun _ _ _ _ _=>rfl
 have Y0:∀(a:Array TypeId) (b:TypeId) (p q:Nat) (w:World),(Builtin.imag_ a b #[.complex .f64 p q]).run Tryz.prog w = .ok (.float .f64 q) w:=fun _ _ _ _ _=>rfl
 have S5:∀b o,R b o→b<(w.alloc (.cells #[.float .f64 m] 146)).heap.size:=fun b o h=>by have:=hR b o h;omega
 go_enter Tryz.func119,Tryz.ntmps119
 have Ut:=zq hR Hz hG
 go_wp2_with (go_at_call 132;refine (TH (R:=R) w.heap.size z.1 m X M (w.alloc (.cells #[.float .f64 m] 146)) xp hZ.1 hM hX hB S5 Ut).mono ?eE;rintro e w2 ⟨rfl,xW⟩)
 have IK:w2.cell? ⟨w.heap.size,0,none⟩=some (.float .f64 m):=by
  simp only [World.cell?,xW.block w.heap.size (by omega)]
  exact xp
 have PV:∀b o,R b o→b<w2.heap.size:=fun b o h=>Nat.lt_of_lt_of_le (S5 b o h) xW.size
 refine (TH (R:=R) w.heap.size z.2 m Y M w2 IK hZ.2 hM hY hB PV (zq S5 xW Ut)).mono ?_
 rintro e w3 ⟨rfl,PR⟩
 go_wp2
 go_ret
 refine ⟨rfl,?_⟩
 exact ⟨PR.os.trans (xW.os.trans Hz.os),PR.tape.trans (xW.tape.trans Hz.tape),PR.output.trans (xW.output.trans Hz.output),by have:=PR.size;have:=xW.size;omega,fun k hk=>(PR.block k (by have:=xW.size;omega)).trans ((xW.block k (by omega)).trans (Hz.block k hk))⟩
theorem gz.ok:KO 119 (gz.c) gz.sg:=by
 refine j7 fun ti fZ w R xs hc ha hR hG=>?_
 unfold gz.c at hc
 split at hc
 ·rename_i p q m
  obtain ⟨hp,rfl⟩:=hc
  have e:xs=[.complex .f64 p q,.float .f64 m]:=by
   have ha:eY R w [.v (.complex .f64 p q),.v (.float .f64 m)] xs:=ha
   cases ha with
   | cons a b =>
    cases a
    cases b with
    | cons a b=>cases a;cases b;rfl
  subst e
  unfold Gz.LJ at hp
  classical
  obtain ⟨X,Y,M,h1,h2,h3,h4,h5⟩:=aN hp
  refine (Vq (p,q) m X Y M w h1 h2 h3 h4 h5 hR hG).mono ?_
  rintro e w' ⟨rfl,hb⟩
  exact ⟨_,rfl,hb,fun R w' => .cons Nn .nil⟩
 ·exact hc.elim
end Go.Eng
