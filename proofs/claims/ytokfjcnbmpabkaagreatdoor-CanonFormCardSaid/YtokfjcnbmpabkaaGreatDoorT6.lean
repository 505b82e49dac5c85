/- Texts of my own, one behind the other: CnJp1, CnRp1, CnRp2, CnRp3, CnRp4, CnRp5, CnJp2, CnJp3, CnJp4, CnRp6, CnRp7, CnOKT, CnWhole, CnTreeP1, CnTreeP2, CnTreeP3, CnTreeP4, CnRegP, CnBookP, CnS6, CnOK, CnOKA, CnLForm, CnBk, CnJd1, CnJd2, CnJd3, CnJd4, CnJd5, CnJd6, CnSame, CnQForm, CnOKForm. -/
import Derived.Test.YtokfjcnbmpabkaaGreatDoorT5
import Derived.WalkKit
import Derived.WalkSpells
set_option linter.unusedVariables false
set_option linter.unusedSimpArgs false
set_option maxRecDepth 20000
namespace Go.Eng
open Go.IntWalk
theorem fy.Xd:∀(k r:Nat) (l l':bz),l.take k=l'.take k→fy.cont r k l=fy.cont r k l'
 | 0,_,_,_,_=>by simp [fy.cont]
 | k+1,r,[],l',h=>by
  cases l' with
  | nil=>rfl
  | cons c l'=>simp at h
 | k+1,r,c :: l,l',h=>by
  cases l' with
  | nil=>simp at h
  | cons c' l' =>
   simp only [List.take_succ_cons,bt] at h
   obtain ⟨rfl,h⟩:=h
   simp only [fy.cont,fy.Xd k _ l l' h]
theorem fy.Xk:∀(k r:Nat) (l:bz) (q:Nat),fy.cont r k l=some q→k≤l.length∧∀x∈l.take k,128≤x.toNat
 | 0,_,_,_,_=>by simp
 | k+1,_,[],_,h=>by simp [fy.cont] at h
 | k+1,r,c :: l,q,h=>by
  rw [fy.cont] at h
  split at h
  ·rename_i hc
   have ⟨h1,h2⟩:=fy.Xk k _ l q h
   refine ⟨by simp;omega,fun x hx=>?_⟩
   simp only [List.take_succ_cons,aO] at hx
   rcases hx with rfl | hx
   ·exact hc.1
   ·exact h2 x hx
  ·cases h
theorem fy.Ws {r more least:Nat} {l:bz} (h:(fy.nj r more least l).2≠0):(fy.nj r more least l).2=(more:Int)+1∧more≤l.length∧(∀x∈l.take more,128≤x.toNat)∧∀l':bz,l'.take more=l.take more→fy.nj r more least l'=fy.nj r more least l:=by
 have e:∀l':bz,l'.take more=l.take more→fy.nj r more least l'=fy.nj r more least l:=fun l' hl=>by
  unfold fy.nj;rw [fy.Xd more r l' l hl]
 refine ⟨?_,?_,?_,e⟩ <;> unfold fy.nj at h <;> cases hc:fy.cont r more l with
  | none=>rw [hc] at h;exact (h rfl).elim
  | some q=>?_
 ·rw [hc] at h
  unfold fy.nj
  rw [hc]
  simp only at h ⊢
  split
  ·rename_i c;rw [aw c] at h;exact (h rfl).elim
  ·rfl
 ·exact (fy.Xk more r l q hc).1
 ·exact (fy.Xk more r l q hc).2
theorem fy.Yj {c:UInt8} {l:bz} (h:(fy.rune (c :: l)).2≠0):(c.toNat<128∧∀l',(fy.rune (c :: l')).2=1) ∨
  (128≤c.toNat∧∃k:Nat,1≤k∧k≤3∧(fy.rune (c :: l)).2=(k:Int)+1∧k≤l.length∧(∀x∈l.take k,128≤x.toNat)∧∀l':bz,l'.take k=l.take k→fy.rune (c :: l')=fy.rune (c :: l)):=by
 by_cases c1:c.toNat<128
 ·exact .inl ⟨c1,fun l'=>by simp [fy.rune,c1]⟩
 ·refine .inr ⟨by omega,?_⟩
  by_cases c2:192≤c.toNat∧c.toNat<224
  ·have e:∀l',fy.rune (c :: l')=fy.nj (c.toNat - 192) 1 128 l':=fun l'=>by rw [fy.rune,au c1,aw c2]
   rw [e] at h
   obtain ⟨h1,h2,h3,h4⟩:=fy.Ws h
   exact ⟨1,by omega,by omega,by rw [e,h1],h2,h3,fun l' hl=>by rw [e,e,h4 l' hl]⟩
  by_cases c3:224≤c.toNat∧c.toNat<240
  ·have e:∀l',fy.rune (c :: l')=fy.nj (c.toNat - 224) 2 2048 l':=fun l'=>by rw [fy.rune,au c1,au c2,aw c3]
   rw [e] at h
   obtain ⟨h1,h2,h3,h4⟩:=fy.Ws h
   exact ⟨2,by omega,by omega,by rw [e,h1],h2,h3,fun l' hl=>by rw [e,e,h4 l' hl]⟩
  by_cases c4:240≤c.toNat∧c.toNat<248
  ·have e:∀l',fy.rune (c :: l')=fy.nj (c.toNat - 240) 3 65536 l':=fun l'=>by rw [fy.rune,au c1,au c2,au c3,aw c4]
   rw [e] at h
   obtain ⟨h1,h2,h3,h4⟩:=fy.Ws h
   exact ⟨3,by omega,by omega,by rw [e,h1],h2,h3,fun l' hl=>by rw [e,e,h4 l' hl]⟩
  ·rw [fy.rune,au c1,au c2,au c3,au c4] at h;exact (h rfl).elim
theorem fy.Xx {l:bz} (h:fy.whole l=true) (hl:l≠[]):(fy.rune l).2≠0∧fy.whole (l.drop (fy.rune l).2.toNat)=true:=by
 have h:=ar h
 have hp:=List.length_pos_iff.2 hl
 by_cases c:(fy.rune l).2=0
 ·rw [fy.BH l c] at h;simp only at h;omega
 ·rw [fy.BG l c] at h
  have hs:=fy.pP l
  refine ⟨c,aa ?_⟩
  simp only [aU] at h ⊢
  omega
theorem X5 (c:UInt8):UInt8.ofInt (c.toNat:Int)=c:=by
 have h:=rO (c.toNat:Int)
 rw [wrap_u8'] at h
 have:=Ip c
 exact UInt8.toNat_inj.1 (by omega)
namespace Jp
def YV (c:UInt8):Bool :=
 decide (128≤c) || (decide (Cn.FA c=[c])&&decide (c≠34)&&decide (c≠92)&&!decide (c<32)) ||
 (decide (Cn.FA c=[92,(Cn.FA c).getD 1 0])&&decide ((Cn.FA c).getD 1 0≠117)&&decide (escape ((Cn.FA c).getD 1 0)=c)&&decide (c≠0)) ||
 (decide (Cn.FA c=[92,117,(Cn.FA c).getD 2 0,(Cn.FA c).getD 3 0,(Cn.FA c).getD 4 0,(Cn.FA c).getD 5 0])&&decide (four 4 0 ((Cn.FA c).drop 2)=(c.toNat:Int))&&decide (c<32))
theorem Y9:∀n,n<256→YV (UInt8.ofNat n)=true:=by decide +kernel
theorem ZD (c:UInt8):YV c=true:=by
 have:=Y9 c.toNat (Ip c)
 rwa [UInt8.ofNat_toNat] at this
theorem YU:∀n,n<256→(128≤n→Cn.FA (UInt8.ofNat n)=[UInt8.ofNat n]):=by decide +kernel
theorem Yc:∀l:bz,(∀x∈l,128≤x.toNat)→l.flatMap Cn.FA=l
 | [],_=>rfl
 | c :: l,h=>by
  have e:=YU c.toNat (Ip c) (h c (List.mem_cons_self ..))
  rw [UInt8.ofNat_toNat] at e
  rw [List.flatMap_cons,e,Yc l fun x hx=>h x (List.mem_cons_of_mem _ hx)];rfl
theorem Xu:∀(n:Nat) (v:Int) (l l':bz),n≤l.length→four n v (l++l')=four n v l
 | 0,_,_,_,_=>by simp [four]
 | n+1,v,[],_,h=>by simp at h
 | n+1,v,c :: l,l',h=>by
  rw [List.cons_append,four,four,Xu n _ l l' (by simpa using h)]
theorem Xg (fr:Int) (rest:bz):∀(m:Nat) (s:bz),s.length≤m→fy.whole s=true→∀(n:Nat) (a:Int) (acc:bz),s.length+1≤n →
  V0 fr n a (s.flatMap Cn.FA++34 :: rest) acc=(⟨8,fr,a+((s.flatMap Cn.FA).length:Int)+1,acc++s⟩,0,0)
 | m,[],_,_,n+1,a,acc,_=>by
  simp [V0]
 | 0,c :: s,h,_,_,_,_,_=>by simp at h
 | m+1,c :: s,h,hw,n+1,a,acc,hn=>by
  obtain ⟨w1,w2⟩:=fy.Xx hw (by simp)
  simp only [ay] at h hn
  rcases fy.Yj w1 with ⟨c1,c2⟩ | ⟨c1,k,k1,k3,k2,k4,k5,k6⟩
  ·rw [c2,show ((1:Int)).toNat=1 from rfl,List.drop_one,List.tail_cons] at w2
   have ih:=fun (a:Int) (acc:bz)=>Xg fr rest m s (by omega) w2 n a acc (by omega)
   have ho:=ZD c
   have h128:¬(128:UInt8)≤c:=by rw [UInt8.le_iff_toNat_le];simp;omega
   simp only [YV,ab h128,Bool.false_or,Bool.or_eq_true,ah,aA,Bool.not_eq_true',decide_eq_false_iff_not] at ho
   rw [List.flatMap_cons]
   rcases ho with (⟨⟨⟨e1,e2⟩,e3⟩,e4⟩ | ⟨⟨⟨e1,e2⟩,e3⟩,e4⟩) | ⟨⟨e1,e2⟩,e3⟩
   ·rw [e1,List.singleton_append,List.cons_append,V0,au e2,au e4,aw (by simpa using e3)]
    rw [show (c :: (s.flatMap Cn.FA++34 :: rest)).take 4=c :: (s.flatMap Cn.FA++34 :: rest).take 3 from rfl,c2,au (by decide),show ((1:Int)).toNat=1 from rfl,List.drop_one,List.tail_cons,ih]
    simp [ay];omega
   ·obtain ⟨x,hx⟩:∃x,x=(Cn.FA c).getD 1 0:=⟨_,rfl⟩
    rw [←hx] at e1 e2 e3
    have e0:Cn.FA c++s.flatMap Cn.FA++34 :: rest=92 :: x :: (s.flatMap Cn.FA++34 :: rest):=by rw [e1];rfl
    rw [e0,V0,au (by decide),au (by decide),au (by decide),au (by simp)]
    rw [List.headD_cons,au e2,e3,au e4,List.drop_one,List.tail_cons,ih,e1]
    simp [ay];omega
   ·have hlen:(Cn.FA c).length=6:=by rw [e1];rfl
    have hf:four 4 0 (((Cn.FA c).drop 2)++(s.flatMap Cn.FA++34 :: rest))=(c.toNat:Int):=by rw [Xu _ _ _ _ (by simp;omega),e2]
    obtain ⟨x,hx⟩:∃x,x=(Cn.FA c).getD 2 0:=⟨_,rfl⟩
    obtain ⟨y,hy⟩:∃x,x=(Cn.FA c).getD 3 0:=⟨_,rfl⟩
    obtain ⟨z,hz⟩:∃x,x=(Cn.FA c).getD 4 0:=⟨_,rfl⟩
    obtain ⟨q,hq⟩:∃x,x=(Cn.FA c).getD 5 0:=⟨_,rfl⟩
    rw [←hx,←hy,←hz,←hq] at e1
    rw [e1,show ([92,117,x,y,z,q]:bz).drop 2=[x,y,z,q] from rfl] at hf
    have hc32:c.toNat<32:=by rw [UInt8.lt_iff_toNat_lt] at e3;simpa using e3
    have e0:Cn.FA c++s.flatMap Cn.FA++34 :: rest=92 :: 117 :: ([x,y,z,q]++(s.flatMap Cn.FA++34 :: rest)):=by rw [e1];rfl
    rw [e0,V0,au (by decide),au (by decide),au (by decide),au (by simp),List.headD_cons,aw rfl,List.drop_one,List.tail_cons,hf,au (by omega),au (by omega)]
    have hu:Yy (92 :: 117 :: ([x,y,z,q]++(s.flatMap Cn.FA++34 :: rest)))=some ((c.toNat:Int),6):=by
     unfold Yy
     simp only [List.drop_succ_cons,bh]
     rw [hf,au (by omega)]
    rw [hu]
    simp only
    have hp:put (c.toNat:Int)=[c]:=by
     unfold put;rw [aw (by omega)]
     rw [X5]
    rw [hp,show (92 :: 117 :: ([x,y,z,q]++(s.flatMap Cn.FA++34 :: rest))).drop 6=s.flatMap Cn.FA++34 :: rest from rfl,ih,e1]
    simp [ay];omega
  ·have hk:(fy.rune (c :: s)).2.toNat=k+1:=by omega
   rw [hk,List.drop_succ_cons] at w2
   have ih:=fun (a:Int) (acc:bz)=>Xg fr rest m (s.drop k) (by simp;omega) w2 n a acc (by simp;omega)
   have ec:Cn.FA c=[c]:=by
    have:=YU c.toNat (Ip c) c1
    rwa [UInt8.ofNat_toNat] at this
   have es:s.flatMap Cn.FA=s.take k++(s.drop k).flatMap Cn.FA:=by
    have:s.flatMap Cn.FA=(s.take k++s.drop k).flatMap Cn.FA:=by rw [List.take_append_drop]
    rw [this,List.flatMap_append,Yc _ k5]
   have ht:(s.take k).length=k:=by rw [aF];omega
   have n34:c≠34:=fun e=>by rw [e] at c1;exact absurd c1 (by decide)
   have n92:c≠92:=fun e=>by rw [e] at c1;exact absurd c1 (by decide)
   have n32:¬c<32:=fun e=>by rw [UInt8.lt_iff_toNat_lt] at e;simp at e;omega
   have er:fy.rune ((c :: (s.flatMap Cn.FA++34 :: rest)).take 4)=fy.rune (c :: s):=by
    rw [List.take_succ_cons]
    refine k6 _ ?_
    rw [List.take_take,Nat.min_eq_left k3,es,aG,List.take_append_of_le_length (by omega),List.take_take,Nat.min_self]
   rw [List.flatMap_cons,ec,List.singleton_append,List.cons_append,V0,au n34,au n32,aw n92,er,au w1,hk,List.drop_succ_cons,List.take_succ_cons]
   have e1:(s.flatMap Cn.FA++34 :: rest).drop k=(s.drop k).flatMap Cn.FA++34 :: rest:=by
    rw [es,aG,List.drop_append_of_le_length (by omega),aE (by omega)];rfl
   have e2:(s.flatMap Cn.FA++34 :: rest).take k=s.take k:=by
    rw [es,aG,List.take_append_of_le_length (by omega),List.take_of_length_le (by omega)]
   rw [e1,e2,ih,k2]
   have e3:(s.flatMap Cn.FA).length=k+((s.drop k).flatMap Cn.FA).length:=by rw [es,ao,ht]
   simp only [ay,e3,aG,List.cons_append,List.take_append_drop]
   congr 2
   omega
end Jp
end Go.Eng
set_option maxRecDepth 20000
namespace Go.Eng
open Go.IntWalk
theorem VF.goal (c:UInt8):VF.F c=some [.b (Jp.blank c)]:=by
 refine VF.bZ c ?_
 intro v1 h1 v2 h2 v3 h3
 simp only [aR,bm,bQ]
 have e:v3=Jp.blank c:=by
  rw [h3,h2,h1]
  unfold Jp.blank
  simp only [Bool.decide_or]
  cases decide (c=9) <;> cases decide (c=10) <;> cases decide (c=13) <;> cases decide (c=32) <;> rfl
 rw [e]
theorem YQ:∀n,n<256→(cond (cond (cond (cond (cond (cond (decide ((48:UInt8)≤UInt8.ofNat n)) (decide (UInt8.ofNat n≤(57:UInt8))) false) true (decide (UInt8.ofNat n=(43:UInt8)))) true (decide (UInt8.ofNat n=(45:UInt8)))) true (decide (UInt8.ofNat n=(46:UInt8)))) true (decide (UInt8.ofNat n=(101:UInt8)))) true (decide (UInt8.ofNat n=(69:UInt8))))=Jp.VX (UInt8.ofNat n):=by decide +kernel
theorem VD.goal (c:UInt8):VD.F c=some [.b (Jp.VX c)]:=by
 refine VD.bZ c ?_
 intro v1 h1 v2 h2 v3 h3 v4 h4 v5 h5 v6 h6
 simp only [aR,bm,bQ]
 have e:v6=Jp.VX c:=by
  rw [h6,h5,h4,h3,h2,h1]
  have:=YQ c.toNat (Ip c)
  rwa [UInt8.ofNat_toNat] at this
 rw [e]
theorem VM.goal (r:Int):VM.F r=some [.b (fy.mA r)]:=by
 refine VM.bZ r ?_
 intro v1 h1 v2 h2 v3 h3
 have c:(!v1 || (v1&&(decide (r<(55296:Int)) || v2)))=true:=by rw [h2];cases v1 <;> cases decide (r<55296) <;> rfl
 rw [bw (iJ _),bw (iJ _),bw (iJ _),bw (iJ _),bw (iJ _),bw c,bw (iJ _)]
 have e:cond v1 v3 false=fy.mA r:=by
  rw [h3,h1]
  unfold fy.mA
  simp only [Bool.decide_and,Bool.decide_or]
  cases decide (0≤r) <;> cases decide (r≤1114111) <;> cases decide (r<55296) <;> cases decide (57343<r) <;> rfl
 rw [e]
theorem VK.goal (r:Int):VK.F r=some [.sl .bs (cond (fy.mA r) (Jp.put r) []),.b (fy.mA r)]:=by
 refine VK.bZ r ?_
 intro v1 h1 v2 h2 v3 h3 v4 h4 v5 h5 v6 h6 v7 h7 v8 h8 v9 h9 v10 iA v11 ki v12 jE kW nY
 have z64:(!decide ((64:Int)=0))=true:=by decide
 have ZQ:(!decide ((4096:Int)=0))=true:=by decide
 have zb:(!decide ((262144:Int)=0))=true:=by decide
 rw [z64,ZQ,zb]
 simp only [bQ]
 cases e:fy.mA r with
 | false=>rfl
 | true =>
  have h:=ar e
  have e2:v2=r / 64:=by rw [h2,Int.tdiv_eq_ediv_of_nonneg h.1,i64_in _ (by omega)]
  have e6:v6=r / 4096:=by rw [h6,Int.tdiv_eq_ediv_of_nonneg h.1,i64_in _ (by omega)]
  have xX:v10=r / 262144:=by rw [iA,Int.tdiv_eq_ediv_of_nonneg h.1,i64_in _ (by omega)]
  have e4:v4=128+r % 64:=by rw [h4,Int.tmod_eq_emod_of_nonneg h.1,i64_in _ (by omega)]
  have e3:v3=192+r / 64∨¬r<2048:=by
   by_cases c:r<2048
   ·left;rw [h3,e2,i64_in _ (by omega)]
   ·exact .inr c
  have e7:v7=224+r / 4096:=by rw [h7,e6,i64_in _ (by omega)]
  have e8:v8=128+r / 64 % 64:=by rw [h8,e2,Int.tmod_eq_emod_of_nonneg (by omega),i64_in _ (by omega)]
  have KY:v11=240+r / 262144:=by rw [ki,xX,i64_in _ (by omega)]
  have GZ:v12=128+r / 4096 % 64:=by rw [jE,e6,Int.tmod_eq_emod_of_nonneg (by omega),i64_in _ (by omega)]
  rw [aH,ae,ai]
  unfold Jp.put
  by_cases c1:r<128
  ·rw [aa c1,ai,aw c1,h1]
  rw [ab c1,ae,au c1]
  by_cases c2:r<2048
  ·rw [aa c2,ai,aw c2,h5,e3.resolve_right (fun w=>w c2),e4]
  rw [ab c2,ae,au c2]
  by_cases c3:r<65536
  ·rw [aa c3,ai,aw c3,h9,e7,e8,e4]
  rw [ab c3,ae,au c3,nY,KY,GZ,e8,e4]
theorem V6 (c:UInt8) (i:Nat) (hi:i<8):Vl.l1 c [34,92,47,98,102,110,114,116] (i:Int) [34,92,47,8,12,10,13,9]=cond (decide (([34,92,47,98,102,110,114,116]:bz).getD i 0=c)) (some [.i .i64 (([34,92,47,8,12,10,13,9]:List Int).getD i 0)]) (Vl.l1 c [34,92,47,98,102,110,114,116] ((i+1:Nat):Int) [34,92,47,8,12,10,13,9]):=by
 refine Vl.bV _ _ _ _ ?_
 intro v1 h1 v2 h2 v3 h3
 rw [aj] at h1 h2
 have e3:v3=((i+1:Nat):Int):=by rw [h3,i64_in _ (by omega)];omega
 rw [aa (show (i:Int)<(([34,92,47,98,102,110,114,116]:bz).length:Int) by simp only [ay,aB];omega),ai,bw (bK (by omega) (by simp only [ay,aB];omega)),
  bw (bK (by omega) (by simp only [ay,aB];omega)),bw (aa (by simp only [ay,aB];omega)),e3,h1,h2]
theorem Vl.goal (c:UInt8):Vl.F c=some [.i .i64 (Jp.Xj c)]:=by
 refine Vl.bZ c ?_
 intro v1 h1
 rw [h1]
 show Vl.l1 c _ ((0:Nat):Int) _=_
 rw [V6 c 0 (by omega),V6 c 1 (by omega),V6 c 2 (by omega),V6 c 3 (by omega),V6 c 4 (by omega),V6 c 5 (by omega),V6 c 6 (by omega),V6 c 7 (by omega)]
 have last:Vl.l1 c [34,92,47,98,102,110,114,116] ((7+1:Nat):Int) [34,92,47,8,12,10,13,9]=some [.i .i64 (-1)]:=by
  refine Vl.bV _ _ _ _ ?_
  intro v1 h1 v2 h2 v3 h3
  rfl
 rw [last]
 by_cases c1:c=34
 ·subst c1;rfl
 by_cases c2:c=92
 ·subst c2;rfl
 by_cases c3:c=47
 ·subst c3;rfl
 by_cases c4:c=98
 ·subst c4;rfl
 by_cases c5:c=102
 ·subst c5;rfl
 by_cases c6:c=110
 ·subst c6;rfl
 by_cases c7:c=114
 ·subst c7;rfl
 by_cases c8:c=116
 ·subst c8;rfl
 have e:Jp.Xj c=-1:=by
  unfold Jp.Xj Jp.escape
  rw [au c1,au c2,au c3,au c4,au c5,au c6,au c7,au c8,aw rfl]
 rw [e]
 simp only [List.getD_cons_zero,List.getD_cons_succ]
 rw [ab (Ne.symm c1),ab (Ne.symm c2),ab (Ne.symm c3),ab (Ne.symm c4),ab (Ne.symm c5),ab (Ne.symm c6),ab (Ne.symm c7),ab (Ne.symm c8)]
 rfl
theorem ZA (c:UInt8):lE.bytes [48,c]=if lE.digit c<0 then none else some [UInt8.ofNat (lE.digit c).toNat]:=by
 have Pt:lE.digit 48=0:=by decide
 simp only [lE.bytes,Pt]
 by_cases h:lE.digit c<0
 ·rw [aw (.inr h),aw h]
 ·rw [au (by omega),au h];simp
theorem Vy.cW (s:bz) (a:Nat) (hs:s.length≤1000000000000) (ha:a≤2000000000000):∀(k i:Nat) (v:Int),i+k=4→0≤v→v.toNat<16 ^ i→Vy.l1 s (a:Int) v (i:Int)=some [.i .i64 (Jp.four k v (s.drop (a+i)))]
 | 0,i,v,hi,_,_=>by
  refine Vy.bV _ _ _ _ ?_
  intro v1 h1 v2 h2 v3 h3 v4 h4 v5 h5 v6 h6 v7 h7 v8 h8
  rw [ab (by omega),ae];rfl
 | k+1,i,v,hi,h0,hv=>by
  refine Vy.bV _ _ _ _ ?_
  intro v1 h1 v2 h2 v3 h3 v4 h4 v5 h5 v6 h6 v7 h7 v8 h8
  have ea:IntKind.i64.wrap ((a:Int)+(i:Int))=((a+i:Nat):Int):=by rw [i64_in _ (by omega)];omega
  rw [ea] at h1 h2 ⊢
  have e1:v1=((a+i+1:Nat):Int):=by rw [h1,i64_in _ (by omega)];omega
  rw [aa (by omega),ai]
  by_cases hl:s.length≤a+i
  ·rw [aa (by omega),ai,aE hl];rfl
  ·have hd:=drop_cons (l:=s) (i:=a+i) (by omega) 0
   generalize s.getD (a+i) 0=c at hd
   have e2:v2=[c]:=by
    rw [h2,e1,aj,aj,List.drop_take,hd,show a+i+1 - (a+i)=1 by omega];rfl
   have hx:=ZA c
   have dr:=Wo c
   rw [e2] at h3 h4 ⊢
   have e34:([48]++[c]:bz)=[48,c]:=rfl
   rw [e34,hx] at h3 h4
   rw [ab (by omega),ae,e1,bw (show gA ((a+i:Nat):Int) ((a+i+1:Nat):Int) s.length=true from B9.2 ⟨by omega,by omega,by omega⟩),bw (aa (by simp only [ay,aB];omega)),bw (aa (by simp only [ay,aB,ao];omega)),hd,Jp.four]
   by_cases hn:lE.digit c<0
   ·rw [aw hn] at h4
    rw [aw hn,h4];rfl
   ·rw [au hn] at h3 h4
    have e7:v7=lE.digit c:=by
     rw [h7,h6,h3]
     simp only [Option.getD_some]
     show IntKind.i64.wrap (((UInt8.ofNat (lE.digit c).toNat).toNat:Int))=_
     rw [UInt8.toNat_ofNat',i64_in _ (by omega)];omega
    have pk:16 ^ i≤16 ^ 3:=Nat.pow_le_pow_right (by omega) (by omega)
    rw [show (16:Nat) ^ 3=4096 from rfl] at pk
    have ps:16 ^ (i+1)=16 ^ i * 16:=Nat.pow_succ ..
    have e5:v5=v * 16:=by rw [h5,i64_in _ (by omega)]
    have e8:v8=((i+1:Nat):Int):=by rw [h8,i64_in _ (by omega)];omega
    have ew:IntKind.i64.wrap (v5+v7)=v * 16+lE.digit c:=by rw [e5,e7,i64_in _ (by omega)]
    have hi3:bB (0:Int) v3.length=true:=by rw [h3];rfl
    rw [au hn,h4]
    rw [show (!(some [UInt8.ofNat (lE.digit c).toNat]).isSome)=false from rfl,ae,bw hi3,ew,e8]
    exact Vy.cW s a hs ha k (i+1) _ (by omega) (by omega) (by omega)
theorem Vy.goal (s:bz) (a:Int) (hp:(decide (s.length≤1000000000000∧0≤a∧a≤2000000000000))=true):Vy.F s a=some [.i .i64 (Jp.four 4 0 (List.drop a.toNat s))]:=by
 obtain ⟨h1,h2,h3⟩:=ar hp
 obtain ⟨k,rfl⟩:=Int.eq_ofNat_of_zero_le h2
 rw [Vy.eJ]
 have:=Vy.cW s k h1 (by omega) 4 0 0 (by omega) (by omega) (by decide)
 rw [aj];exact this
end Go.Eng
set_option maxRecDepth 20000
namespace Go.Eng
open Go.IntWalk
def rT (x:Jp.R):OT:=some [.ag (Tok.cells x.1),.ag [.i .i64 x.2.1,.i .i64 x.2.2,.sl .is []]]
theorem Wd:∀(n:Nat) (v:Int) (s:bz),0≤v→(Jp.four n v s=-1∨Jp.four n v s=-2∨(0≤Jp.four n v s∧Jp.four n v s<(v+1) * 16 ^ n∧n≤s.length))
 | 0,v,s,h=>by simp [Jp.four];omega
 | n+1,v,[],h=>by simp [Jp.four]
 | n+1,v,c :: r,h=>by
  have dr:=Wo c
  rw [Jp.four]
  by_cases d:lE.digit c<0
  ·rw [aw d];exact .inl rfl
  ·rw [au d]
   rcases Wd n (v * 16+lE.digit c) r (by omega) with e | e | ⟨e1,e2,e3⟩
   ·exact .inl e
   ·exact .inr (.inl e)
   ·refine .inr (.inr ⟨e1,Int.lt_of_lt_of_le e2 ?_,by simp;omega⟩)
    rw [Int.pow_succ,Int.mul_comm (16 ^ n) 16,←Int.mul_assoc]
    exact Int.mul_le_mul_of_nonneg_right (by omega) (Int.le_of_lt (Int.pow_pos (by omega)))
theorem Y7 (v:Int):(Jp.put v).length≤4:=by
 unfold Jp.put
 split
 ·simp
 split
 ·simp
 split <;> simp
theorem Za (c:UInt8):(Jp.Xj c<0)=(Jp.escape c=0)∧(Jp.escape c≠0→UInt8.ofInt (Jp.Xj c)=Jp.escape c):=by
 unfold Jp.Xj
 by_cases h:Jp.escape c=0
 ·rw [aw h];exact ⟨by simp [h],fun w=>(w h).elim⟩
 ·rw [au h]
  exact ⟨by simp [h],fun _=>X5 _⟩
theorem Vr.cW (s:bz) (fr:Int) (hs:s.length≤1000000000000):∀(m a:Nat) (acc:bz) (n:Nat),s.length - a≤m→a≤s.length→acc.length≤a→s.length - a+1≤n →
  Vr.l1 s fr (a:Int) ⟨0,0,0,[]⟩ ⟨0,0,[]⟩ ⟨2,fr,[]⟩ acc=rT (Jp.V0 fr n a (s.drop a) acc):=by
 intro m
 induction m with
 | zero =>
  intro a acc n hm ha ZB hn
  refine Vr.bV _ _ _ _ _ _ _ ?_
  intros
  obtain ⟨n,rfl⟩:∃k,n=k+1:=⟨n - 1,by omega⟩
  rw [ab (by omega),ae,aE (by omega)];rfl
 | succ m ih =>
  intro a acc n hm ha ZB hn
  obtain ⟨n,rfl⟩:∃k,n=k+1:=⟨n - 1,by omega⟩
  refine Vr.bV _ _ _ _ _ _ _ ?_
  intro v1 h1 v2 h2 v3 h3 v4 h4 v5 h5 v6 h6 v7 h7 v8 h8 v9 h9 v10 iA v11 ki v12 jE kW nY jP pA iD o8 mS tO nT xI lO wi qJ BU v20 zF v21 KS v22 KR Yg ZP v24 Tq v25 ZO Wq ZN v27 ZS v28 ZM Yx ZC
  by_cases hl:s.length≤a
  ·rw [ab (by omega),ae,aE hl];rfl
  have hd:=drop_cons (l:=s) (i:=a) (by omega) 0
  rw [aj] at h1
  rw [←h1] at hd
  have e2:v2=((a+1:Nat):Int):=by rw [h2,i64_in _ (by omega)];omega
  rw [aa (by omega),ai,bw (bK (by omega) (by omega)),hd,Jp.V0]
  by_cases Yw:v1=34
  ·rw [aa Yw,ai,aw Yw,e2];rfl
  rw [ab Yw,ae,au Yw]
  by_cases ZF:v1<32
  ·rw [aa ZF,ai,aw ZF];rfl
  rw [ab ZF,ae,au ZF]
  by_cases Zc:v1≠92
  ·rw [ab Zc,aM,ai,aw Zc]
   have e4:v4=min ((a:Int)+4) s.length:=by rw [h4,h3,i64_in _ (by omega)];unfold Gk;split <;> omega
   have e5:v5=(v1 :: s.drop (a+1)).take 4:=by
    rw [h5,aj,List.drop_take,hd]
    by_cases q:a+4≤s.length
    ·rw [show v4.toNat - a=4 by omega]
    ·rw [List.take_of_length_le (by rw [ay,aU];omega),List.take_of_length_le (by rw [ay,aU];omega)]
   have l5:v5.length≤4:=by rw [e5,aF];omega
   have er:fy.mi v5 0=fy.rune v5:=by
    have hp:0<v5.length:=by rw [e5,aF,ay];omega
    exact (fy.runeAt_nat v5 0 hp).trans (by rw [bh])
   rw [er] at h6 h7
   have hz:=fy.pP v5
   rw [←h7] at hz
   rw [←e5,bw (show gA (a:Int) v4 s.length=true from B9.2 ⟨by omega,by omega,by omega⟩),bw (BJ.2 (by rw [show maxLen=9223372036854775807 from rfl];omega)),bw (aa (by omega)),←h7]
   by_cases c0:v7=0
   ·rw [aa c0,ai,aw c0];rfl
   have l5':v5.length≤s.length - a:=by rw [e5,aF,ay,aU];omega
   have e7:IntKind.i64.wrap ((a:Int)+v7)=((a+v7.toNat:Nat):Int):=by rw [i64_in _ (by omega)];omega
   have e8:v8=(v1 :: s.drop (a+1)).take v7.toNat:=by
    rw [h8,e7,aj,aj,List.drop_take,hd,show a+v7.toNat - a=v7.toNat by omega]
   have l8:v8.length≤4:=by rw [e8,aF];omega
   have l8':v8.length≤v7.toNat:=by rw [e8,aF];omega
   rw [ab c0,ae,au c0,e7,bw (B9.2 ⟨by omega,by omega,by omega⟩),bw (dW (by omega) (by omega)),ih (a+v7.toNat) (acc++v8) n (by omega) (by omega) (by rw [ao];omega) (by omega),←e8,←hd,List.drop_drop,
    show (a:Int)+v7=((a+v7.toNat:Nat):Int) by omega]
  have Zc:v1=92:=Decidable.not_not.1 Zc
  rw [aa Zc,aH,ae,au (by simp [Zc])]
  by_cases cE:s.length≤a+1
  ·rw [aa (by omega),ai,aw (aE cE)];rfl
  have hd2:=drop_cons (l:=s) (i:=a+1) (by omega) 0
  rw [e2,aj] at h9
  rw [←h9] at hd2
  have xX:v10=((a+2:Nat):Int):=by rw [iA,i64_in _ (by omega)];omega
  have ne:s.drop (a+1)≠[]:=by rw [hd2];simp
  have hh:(s.drop (a+1)).headD 0=v9:=by rw [hd2];rfl
  have Pa:(s.drop (a+1)).drop 1=s.drop (a+2):=by rw [List.drop_drop]
  rw [ab (by omega),ae,au ne,hh,Pa,e2,bw (bK (by omega) (by omega))]
  by_cases X3:v9=117
  ·rw [xX,aj] at ki
   rw [aa X3,ai,aw X3,xX,bw (aa ⟨hs,by omega,by omega⟩),←ki]
   by_cases f2:v11=-2
   ·rw [aa f2,ai,aw f2];rfl
   rw [ab f2,ae,au f2]
   by_cases f1:v11=-1
   ·rw [aa f1,ai,aw f1];rfl
   rw [ab f1,ae,au f1]
   obtain ⟨f0,fm,fl⟩:=((Wd 4 0 (s.drop (a+2)) (by omega)).resolve_left (by rw [←ki];exact f1)).resolve_left (by rw [←ki];exact f2)
   rw [←ki] at f0 fm
   have fm:v11<65536:=by simpa using fm
   rw [aU] at fl
   -- how it goes on
   have next:∀(v:Int) (k:Nat),6≤k→a+k≤s.length→Vr.j2 s fr (a:Int) v (k:Int) ⟨0,0,0,[]⟩ ⟨0,0,[]⟩ ⟨2,fr,[]⟩ acc=rT (if fy.mA v then Jp.V0 fr n ((a+k:Nat):Int) (s.drop (a+k)) (acc++Jp.put v) else Jp.no 4 a):=by
    intro v k k6 ka
    refine Vr.jg _ _ _ _ _ _ _ _ _ ?_
    intro w1 g1
    have BQ:=Y7 v
    cases e:fy.mA v with
    | false=>rfl
    | true =>
     rw [e,ai] at g1
     have ek:IntKind.i64.wrap ((a:Int)+(k:Int))=((a+k:Nat):Int):=by rw [i64_in _ (by omega)];omega
     rw [aH,ae,ek,bw (dW (by rw [g1];omega) (by rw [g1];omega)),g1,aw rfl]
     exact ih (a+k) (acc++Jp.put v) n (by omega) (by omega) (by rw [ao];omega) (by omega)
   have Mu:kW=((s.length - a:Nat):Int):=by rw [nY,i64_in _ (by omega)];omega
   have NC:iD=((a+6:Nat):Int):=by rw [o8,i64_in _ (by omega)];omega
   have KX:lO=((a+7:Nat):Int):=by rw [wi,i64_in _ (by omega)];omega
   have Tz:v21=((a+8:Nat):Int):=by rw [KS,i64_in _ (by omega)];omega
   have Z1:jP=true→(55296≤v11∧v11≤56319)∧a+12≤s.length:=by
    intro y
    rw [pA,jE] at y
    by_cases p:55296≤v11
    ·by_cases q:v11≤56319
     ·rw [aa p,ai,aa q,ai] at y
      have:=ar y
      exact ⟨⟨p,q⟩,by omega⟩
     ·rw [aa p,ai,ab q] at y;exact absurd y (by simp)
    ·rw [ab p] at y;exact absurd y (by simp)
   have x1:(!jP || ((jP&&jP)&&bB iD s.length))=true:=by
    cases y:jP with
    | false=>rfl
    | true=>have:=Z1 y;rw [NC,bK (by omega) (by omega)];rfl
   have y17:nT=true→jP=true∧mS=92:=by
    intro y
    rw [xI] at y
    cases z:jP with
    | false=>rw [z] at y;exact absurd y (by simp)
    | true=>rw [z,ai] at y;exact ⟨rfl,ar y⟩
   have x2:(!nT || ((nT&&nT)&&bB lO s.length))=true:=by
    cases y:nT with
    | false=>rfl
    | true=>have:=Z1 (y17 y).1;rw [KX,bK (by omega) (by omega)];rfl
   have cc:∀x:Bool,(!x || (x&&x))=true:=by decide
   simp only [aR,bQ,x1,x2,cc]
   have hr8:(v1 :: s.drop (a+1)).drop 8=s.drop (a+8):=by rw [←hd,List.drop_drop]
   have Z4:(v1 :: s.drop (a+1)).drop 6=s.drop (a+6):=by rw [←hd,List.drop_drop]
   have Sy:(v1 :: s.drop (a+1)).drop 2=s.drop (a+2):=by rw [←hd,List.drop_drop]
   have Z5:(v1 :: s.drop (a+1)).drop 12=s.drop (a+12):=by rw [←hd,List.drop_drop]
   rw [Tz,aj] at KR
   -- a character by Z3
   have lone:∀(h:¬(55296≤v11∧v11≤57343)),Jp.Yy (v1 :: s.drop (a+1))=some (v11,6):=fun h=>by
    unfold Jp.Yy
    simp only
    rw [Sy,←ki,au h]
   have isr:fy.mA v11=true ↔ ¬(55296≤v11∧v11≤57343):=by
    unfold fy.mA;rw [aA];omega
   have six:rT (if fy.mA v11 then Jp.V0 fr n ((a+6:Nat):Int) (s.drop (a+6)) (acc++Jp.put v11) else Jp.no 4 a)=rT (match (if 55296≤v11∧v11≤57343 then none else some (v11,6):Option (Int × Nat)) with
     | none=>Jp.no 4 a
     | some (v,k)=>Jp.V0 fr n ((a:Int)+k) ((v1 :: s.drop (a+1)).drop k) (acc++Jp.put v)):=by
    by_cases q:55296≤v11∧v11≤57343
    ·rw [aw q,au (fun w=>(isr.1 w) q)]
    ·rw [au q,aw (isr.2 q)]
     simp only
     rw [Z4];rfl
   by_cases Zn:v20=true
   ·have ZG:=Zn
    rw [zF] at Zn
    cases z:nT with
    | false=>rw [z] at Zn;exact absurd Zn (by simp)
    | true =>
     rw [z,ai] at Zn
     have Cs:=ar Zn
     obtain ⟨z14,NB⟩:=y17 z
     obtain ⟨r1,r2⟩:=Z1 z14
     have t6:(s.drop (a+6)).take 2=[92,117]:=by
      have k1:=drop_cons (l:=s) (i:=a+6) (by omega) 0
      have k2:=drop_cons (l:=s) (i:=a+7) (by omega) 0
      rw [NC,aj] at tO
      rw [KX,aj] at BU
      rw [←tO,NB] at k1
      rw [←BU,Cs] at k2
      rw [k1,k2];rfl
     rw [ZG,ai,Tz,bw (aa ⟨hs,by omega,by omega⟩)]
     have eu:Jp.Yy (v1 :: s.drop (a+1))=if v22<56320∨57343<v22 then none else some (65536+(v11 - 55296) * 1024+v22 - 56320,12):=by
      unfold Jp.Yy
      simp only
      rw [Sy,←ki,aw (by omega),hr8,←KR,Z4,t6]
      by_cases q:v22<56320∨57343<v22
      ·rw [aw q,aw (.inr (.inr q))]
      ·rw [au q,au (by rintro (w | w | w);omega;exact w rfl;exact q w)]
     rw [eu]
     by_cases q:v22<56320∨57343<v22
     ·have e23:Yg=false:=by
       rw [ZP]
       by_cases q1:56320≤v22
       ·rw [aa q1,ab (show ¬v22≤57343 by omega)];rfl
       ·rw [ab q1];rfl
      rw [e23,ae,aw q]
      refine (next v11 6 (by omega) (by omega)).trans ?_
      rw [six,aw (by omega)]
     ·have e23:Yg=true:=by rw [ZP,aa (show 56320≤v22 by omega),aa (show v22≤57343 by omega)];rfl
      have e28:v28=65536+(v11 - 55296) * 1024+v22 - 56320:=by
       have e24:v24=v11 - 55296:=by rw [Tq,i64_in _ (by omega)]
       have e25:v25=(v11 - 55296) * 1024:=by rw [ZO,e24,i64_in _ (by omega)]
       have e26:Wq=65536+(v11 - 55296) * 1024:=by rw [ZN,e25,i64_in _ (by omega)]
       have e27:v27=65536+(v11 - 55296) * 1024+v22:=by rw [ZS,e26,i64_in _ (by omega)]
       rw [ZM,e27,i64_in _ (by omega)]
      rw [e23,ai,au q,e28]
      refine (next _ 12 (by omega) (by omega)).trans ?_
      have hi:fy.mA (65536+(v11 - 55296) * 1024+v22 - 56320)=true:=by
       unfold fy.mA;rw [aA];omega
      rw [aw hi]
      simp only
      rw [Z5];rfl
   ·have ZG:=Bool.eq_false_iff.2 Zn
    rw [ZG,ae]
    refine (next v11 6 (by omega) (by omega)).trans ?_
    rw [six]
    by_cases q:55296≤v11∧v11≤57343
    ·have eu:Jp.Yy (v1 :: s.drop (a+1))=none:=by
      unfold Jp.Yy
      simp only
      rw [Sy,←ki,aw q,hr8,←KR,Z4,aw]
      by_cases q1:56320≤v11
      ·exact .inl q1
      by_cases q2:(s.drop (a+6)).take 2=[92,117]
      ·right;right
       by_cases q3:s.length<a+12
       ·left
        rcases Wd 4 0 (s.drop (a+8)) (by omega) with e | e | ⟨_,_,e⟩
        ·rw [KR,e];decide
        ·rw [KR,e];decide
        ·rw [aU] at e;omega
       ·exfalso
        apply Zn
        have k1:=drop_cons (l:=s) (i:=a+6) (by omega) 0
        have k2:=drop_cons (l:=s) (i:=a+7) (by omega) 0
        rw [k1,k2] at q2
        have q2:[s.getD (a+6) 0,s.getD (a+7) 0]=[92,117]:=q2
        simp only [bt,and_true] at q2
        rw [NC,aj] at tO
        rw [KX,aj] at BU
        rw [zF,xI,pA,jE,tO,BU,q2.1,q2.2,aa q.1,aa (show v11≤56319 by omega),aa (show 12≤kW by omega)];rfl
      ·exact .inr (.inl q2)
     rw [eu,aw q]
    ·rw [lone q,au q]
  ·obtain ⟨g1,g2⟩:=Za v9
   rw [ab X3,ae,au X3,bw (bK (by omega) (by omega))]
   by_cases cz:Jp.escape v9=0
   ·rw [aa (by rw [g1];exact cz),ai,aw cz];rfl
   ·rw [ab (by rw [g1];exact cz),ae,au cz,ZC,g2 cz,xX,bw (dW (by simp;omega) (by simp;omega)),ih (a+2) _ n (by omega) (by omega) (by rw [ao];simp;omega) (by omega)];rfl
theorem Vr.goal (s:bz) (a:Int) (hp:(decide (s.length≤1000000000000∧0≤a∧a<s.length))=true):Vr.F s a=rT (Jp.W5 s a):=by
 obtain ⟨hs,h0,hl⟩:=ar hp
 obtain ⟨k,rfl⟩:=Int.eq_ofNat_of_zero_le h0
 refine Vr.bZ _ _ ?_
 intro v1 h1
 have e1:v1=((k+1:Nat):Int):=by rw [h1,i64_in _ (by omega)];omega
 rw [e1,Jp.X8,aj,List.drop_drop]
 exact Vr.cW s k hs s.length (k+1) [] _ (by omega) (by omega) (by simp) (by rw [aU];omega)
end Go.Eng
set_option maxRecDepth 20000
namespace Go.Eng
open Go.IntWalk
def z0:Tok:=⟨0,0,0,[]⟩
def y0:Rp:=⟨0,0,[]⟩
theorem nk.DF (s:bz) (a:Nat) (hs:s.length≤1000000000000) (ha:a≤s.length):∀(m b:Nat),s.length - b≤m→a≤b→b≤s.length→(s.drop a).takeWhile Jp.VX=(s.drop a).take (b - a)++(s.drop b).takeWhile Jp.VX →
  nk.l4 s (a:Int) (b:Int) z0 y0=rT (if Nr.iX ((s.drop a).takeWhile Jp.VX)=0 then Jp.no 3 a else if 300<((s.drop a).takeWhile Jp.VX).length then Jp.no 10 a else (⟨9,a,(a:Int)+((s.drop a).takeWhile Jp.VX).length,(s.drop a).takeWhile Jp.VX⟩,0,0)):=by
 -- where they end
 have stop:∀b:Nat,a≤b→b≤s.length→(s.drop a).takeWhile Jp.VX=(s.drop a).take (b - a)→∀(v2:Bool) (v3:Int) (v4:bz),v2=false→v4=List.drop ((a:Int)).toNat (List.take ((b:Int)).toNat s) →
   (cond v2 (nk.l4 s (a:Int) v3 z0 y0)
    (ck (gA (a:Int) (b:Int) s.length) (ck (decide (v4.length≤1099511627776)) (cond (decide (Nr.iX v4=0)) (some [(.ag [(.i .i64 (0:Int)),(.i .i64 (0:Int)),(.i .i64 (0:Int)),(.s ([]:bz))]),(.ag [(.i .i64 (3:Int)),(.i .i64 (a:Int)),(.sl .is ([]:List Int))])])
     (cond (decide ((300:Int)<(IntKind.i64.wrap ((b:Int) - (a:Int))))) (some [(.ag [(.i .i64 (0:Int)),(.i .i64 (0:Int)),(.i .i64 (0:Int)),(.s ([]:bz))]),(.ag [(.i .i64 (10:Int)),(.i .i64 (a:Int)),(.sl .is ([]:List Int))])])
      (ck (gA (a:Int) (b:Int) s.length) (some [(.ag [(.i .i64 (9:Int)),(.i .i64 (a:Int)),(.i .i64 (b:Int)),(.s v4)]),(.ag [(.i .i64 (0:Int)),(.i .i64 (0:Int)),(.sl .is ([]:List Int))])])))))):OT) =
   rT (if Nr.iX ((s.drop a).takeWhile Jp.VX)=0 then Jp.no 3 a else if 300<((s.drop a).takeWhile Jp.VX).length then Jp.no 10 a else (⟨9,a,(a:Int)+((s.drop a).takeWhile Jp.VX).length,(s.drop a).takeWhile Jp.VX⟩,0,0)):=by
  intro b Cq hb e v2 v3 v4 k2 k4
  have e4:v4=(s.drop a).take (b - a):=by rw [k4,aj,aj,List.drop_take]
  have l4:v4.length=b - a:=by rw [e4,aF,aU];omega
  have hc:gA (a:Int) (b:Int) s.length=true:=B9.2 ⟨by omega,by omega,by omega⟩
  rw [k2,ae,hc,bQ,bw (aa (by omega)),bQ,e,←e4,i64_in _ (by omega),l4]
  by_cases c1:Nr.iX v4=0
  ·rw [aa c1,aw c1];rfl
  rw [ab c1,au c1,ae]
  by_cases c2:300<b - a
  ·rw [aa (by omega),aw c2];rfl
  ·rw [ab (by omega),au c2,ae,show (a:Int)+((b - a:Nat):Int)=b by omega];rfl
 intro m
 induction m with
 | zero =>
  intro b hm Cq hb e
  refine nk.xv _ _ _ _ _ ?_
  intro v1 h1 v2 h2 v3 h3 v4 h4
  have hz:(s.drop b).takeWhile Jp.VX=[]:=by rw [aE (by omega)];rfl
  rw [hz,bj] at e
  have d:decide ((b:Int)<s.length)=false:=ab (by omega)
  rw [d] at h2 ⊢
  simp only [aM,Bool.true_or,bQ]
  exact stop b Cq hb e v2 v3 v4 h2 h4
 | succ m ih =>
  intro b hm Cq hb e
  refine nk.xv _ _ _ _ _ ?_
  intro v1 h1 v2 h2 v3 h3 v4 h4
  by_cases hl:s.length≤b
  ·have hz:(s.drop b).takeWhile Jp.VX=[]:=by rw [aE (by omega)];rfl
   rw [hz,bj] at e
   have d:decide ((b:Int)<s.length)=false:=ab (by omega)
   rw [d] at h2 ⊢
   simp only [aM,Bool.true_or,bQ]
   exact stop b Cq hb e v2 v3 v4 h2 h4
  ·have hd:=drop_cons (l:=s) (i:=b) (by omega) 0
   rw [aj] at h1
   rw [←h1] at hd
   have d:decide ((b:Int)<s.length)=true:=aa (by omega)
   rw [d,ai] at h2
   rw [d,bK (by omega) (by omega)]
   simp only [aH,Bool.false_or,aY,bQ]
   cases hn:Jp.VX v1 with
   | false =>
    rw [hd,List.takeWhile_cons,hn] at e
    rw [hn] at h2
    simp only [bp,if_false,bj] at e
    exact stop b Cq hb e v2 v3 v4 h2 h4
   | true =>
    have e3:v3=((b+1:Nat):Int):=by rw [h3,i64_in _ (by omega)];omega
    rw [h2,hn,ai,e3]
    refine ih (b+1) (by omega) (by omega) (by omega) ?_
    rw [e,hd,List.takeWhile_cons,hn,aw rfl]
    have:(s.drop a).take (b+1 - a)=(s.drop a).take (b - a)++[v1]:=by
     rw [show b+1 - a=(b - a)+1 by omega,List.take_add_one,List.getElem?_drop,show a+(b - a)=b by omega,h1,af,aq (show b<s.length by omega)];rfl
    rw [this,aG];rfl
theorem Zu (w r:bz):(decide (r.take w.length=w))=List.isPrefixOf w r:=by
 rw [aQ,aA,List.isPrefixOf_iff_prefix]
 constructor
 ·intro h;rw [←h];exact List.take_prefix ..
 ·intro h;exact (List.prefix_iff_eq_take.1 h).symm
theorem nk.Xi (s:bz) (a i:Nat) (hs:s.length≤1000000000000) (ha:a<s.length) (hi:i<3):nk.l3 s (a:Int) (i:Int) z0 y0 [[116,114,117,101],[102,97,108,115,101],[110,117,108,108]] =
  cond (List.isPrefixOf (([[116,114,117,101],[102,97,108,115,101],[110,117,108,108]]:List bz).getD i []) (s.drop a)) (rT (⟨10+i,a,(a:Int)+(([[116,114,117,101],[102,97,108,115,101],[110,117,108,108]]:List bz).getD i []).length,[]⟩,0,0))
   (nk.l3 s (a:Int) ((i+1:Nat):Int) z0 y0 [[116,114,117,101],[102,97,108,115,101],[110,117,108,108]]):=by
 refine nk.sJ _ _ _ _ _ _ ?_
 intro v1 h1 v2 h2 v3 h3 v4 h4 v5 h5 v6 h6 v7 h7 v8 h8 v9 h9 v10 iA v11 ki
 rw [aj] at h1
 have hlen:∀i,i<3→(([[116,114,117,101],[102,97,108,115,101],[110,117,108,108]]:List bz).getD i []).length≤5:=by decide
 have hv:=hlen i hi
 have e2:v2=((s.length - a:Nat):Int):=by rw [h2,i64_in _ (by omega)];omega
 rw [←h1] at hv ⊢
 have e3:v3=((a+v1.length:Nat):Int):=by rw [h3,i64_in _ (by omega)];omega
 have e6:v6=10+(i:Int):=by rw [h6,i64_in _ (by omega)]
 have e7:v7=((i+1:Nat):Int):=by rw [h7,i64_in _ (by omega)];omega
 have e4:v4=(s.drop a).take v1.length:=by rw [h4,e3,aj,aj,List.drop_take,show a+v1.length - a=v1.length by omega]
 have il:bB (i:Int) ([[116,114,117,101],[102,97,108,115,101],[110,117,108,108]]:List bz).length=true:=bK (by omega) (by simp only [ay,aB];omega)
 have dl:decide (((i:Int)).toNat<([[116,114,117,101],[102,97,108,115,101],[110,117,108,108]]:List bz).length)=true:=aa (by simp only [ay,aB];omega)
 have d0:decide ((i:Int)<(([[116,114,117,101],[102,97,108,115,101],[110,117,108,108]]:List bz).length:Int))=true:=aa (by simp only [ay,aB];omega)
 have e5:v5=List.isPrefixOf v1 (s.drop a):=by
  rw [h5,e4,Zu]
  by_cases q:(v1.length:Int)≤v2
  ·rw [aa q];rfl
  ·rw [ab q,ae]
   symm
   rw [←Bool.not_eq_true,List.isPrefixOf_iff_prefix]
   intro w
   have:=w.length_le
   rw [aU] at this
   omega
 have x1:(!decide ((v1.length:Int)≤v2) || ((decide ((v1.length:Int)≤v2)&&(decide ((v1.length:Int)≤v2)&&decide ((v1.length:Int)≤v2)))&&gA (a:Int) v3 s.length))=true:=by
  by_cases q:(v1.length:Int)≤v2
  ·rw [aa q,e3,B9.2 ⟨by omega,by omega,by omega⟩];rfl
  ·rw [ab q];rfl
 rw [d0,ai,il,bQ,dl,bQ,x1]
 simp only [Bool.and_true,aY,aR,bQ]
 rw [e5,e6,e3,e7]
 rw [show ((a+v1.length:Nat):Int)=(a:Int)+v1.length by omega]
 rfl
theorem nk.Zv (s:bz) (a:Nat) (hs:s.length≤1000000000000) (ha:a<s.length):nk.l3 s (a:Int) ((3:Nat):Int) z0 y0 [[116,114,117,101],[102,97,108,115,101],[110,117,108,108]] =
  rT (if (s.drop a).headD 0=34 then Jp.W5 s a else if (s.drop a).headD 0=45∨Nr.dV ((s.drop a).headD 0)=true then (if Nr.iX ((s.drop a).takeWhile Jp.VX)=0 then Jp.no 3 a else if 300<((s.drop a).takeWhile Jp.VX).length then Jp.no 10 a else (⟨9,a,(a:Int)+((s.drop a).takeWhile Jp.VX).length,(s.drop a).takeWhile Jp.VX⟩,0,0)) else Jp.no 3 a):=by
 refine nk.sJ _ _ _ _ _ _ ?_
 intro v1 h1 v2 h2 v3 h3 v4 h4 v5 h5 v6 h6 v7 h7 v8 h8 v9 h9 v10 iA v11 ki
 have hd:=drop_cons (l:=s) (i:=a) (by omega) 0
 rw [aj] at h8
 rw [←h8] at hd
 have hh:(s.drop a).headD 0=v8:=by rw [hd];rfl
 rw [hh,ab (by simp),ae,bK (show (0:Int)≤(a:Int) by omega) (by omega)]
 have k9:(!decide (v8=(45:UInt8))&&!decide (v8<(48:UInt8)))=v9:=h9.symm
 have cA:(!(!decide (v8=(45:UInt8))) || ((!decide (v8=(45:UInt8)))&&(decide (v8<(48:UInt8)) || v9)))=true:=by rw [h9];cases decide (v8=45) <;> cases decide (v8<48) <;> rfl
 simp only [Bool.and_true,aY,aR,bQ,cA]
 by_cases Yw:v8=34
 ·rw [aa Yw,ai,aw Yw,bw (aa ⟨hs,by omega,by omega⟩)];rfl
 rw [ab Yw,ae,au Yw]
 have KY:v11=!decide (v8=45∨Nr.dV v8=true):=by
  rw [ki,iA]
  have:Nr.dV v8=(decide (48≤v8)&&decide (v8≤57)):=by unfold Nr.dV;rw [Bool.decide_and]
  rw [this]
  have n1:decide (v8<(48:UInt8))=!decide (48≤v8):=by rw [←decide_not,aZ,UInt8.not_le]
  have n2:decide ((57:UInt8)<v8)=!decide (v8≤57):=by rw [←decide_not,aZ,UInt8.not_le]
  rw [n1,n2,Bool.decide_or,Bool.decide_eq_true]
  cases decide (v8=45) <;> cases decide (48≤v8) <;> cases decide (v8≤57) <;> rfl
 rw [KY]
 by_cases cn:v8=45∨Nr.dV v8=true
 ·rw [aa cn,aH,ae,aw cn]
  exact nk.DF s a hs (by omega) s.length a (by omega) (Nat.le_refl _) (by omega) (by rw [Nat.sub_self,List.take_zero,bq])
 ·rw [ab cn,aM,ai,au cn];rfl
theorem nk.Wn (s:bz) (a i:Nat) (hs:s.length≤1000000000000) (ha:a<s.length) (hi:i<6):nk.l2 s (a:Int) [123,125,91,93,58,44] (i:Int) z0 y0 =
  cond (decide ((s.drop a).headD 0=([123,125,91,93,58,44]:bz).getD i 0)) (rT (⟨2+i,a,(a:Int)+1,[]⟩,0,0)) (nk.l2 s (a:Int) [123,125,91,93,58,44] ((i+1:Nat):Int) z0 y0):=by
 refine nk.iw _ _ _ _ _ _ ?_
 intro v1 h1 v2 h2 v3 h3 v4 h4 v5 h5 v6 h6
 have hd:=drop_cons (l:=s) (i:=a) (by omega) 0
 rw [aj] at h1 h2
 rw [←h1] at hd
 have hh:(s.drop a).headD 0=v1:=by rw [hd];rfl
 have e3:v3=2+(i:Int):=by rw [h3,i64_in _ (by omega)]
 have e4:v4=(a:Int)+1:=by rw [h4,i64_in _ (by omega)]
 have e5:v5=((i+1:Nat):Int):=by rw [h5,i64_in _ (by omega)];omega
 rw [hh,←h2,aa (show (i:Int)<(([123,125,91,93,58,44]:bz).length:Int) by simp only [ay,aB];omega),ai,bw (bK (by omega) (by omega)),bw (bK (by omega) (by simp only [ay,aB];omega)),e3,e4,e5]
 rfl
theorem nk.Zw (s:bz) (a:Nat):nk.l2 s (a:Int) [123,125,91,93,58,44] ((6:Nat):Int) z0 y0=nk.l3 s (a:Int) ((0:Nat):Int) z0 y0 [[116,114,117,101],[102,97,108,115,101],[110,117,108,108]]:=by
 refine nk.iw _ _ _ _ _ _ ?_
 intro v1 h1 v2 h2 v3 h3 v4 h4 v5 h5 v6 h6
 rw [h6];rfl
theorem Zo (s:bz) (a:Nat) (hs:s.length≤1000000000000) (ha:a<s.length):nk.l2 s (a:Int) [123,125,91,93,58,44] ((0:Nat):Int) z0 y0=rT (Jp.Wb s a):=by
 rw [nk.Wn s a 0 hs ha (by omega),nk.Wn s a 1 hs ha (by omega),nk.Wn s a 2 hs ha (by omega),nk.Wn s a 3 hs ha (by omega),nk.Wn s a 4 hs ha (by omega),nk.Wn s a 5 hs ha (by omega),nk.Zw,
  nk.Xi s a 0 hs ha (by omega),nk.Xi s a 1 hs ha (by omega),nk.Xi s a 2 hs ha (by omega),nk.Zv s a hs ha]
 have lB:s.drop a≠[]:=fun e=>by have:=congrArg List.length e;rw [aU,aB] at this;omega
 unfold Jp.Wb
 simp only
 rw [au lB]
 have hx:Jp.W5 s (a:Int)=Jp.V0 a (s.drop a).length ((a:Int)+1) ((s.drop a).drop 1) []:=by rw [Jp.X8,aj]
 rw [hx]
 generalize s.drop a=r
 simp only [List.getD_cons_zero,List.getD_cons_succ]
 have key:∀(c:UInt8) (k:Int),Lib.indexByte [123,125,91,93,58,44] c=k→0≤k→r.headD 0=c→Jp.plain r=some (2+k,1):=fun c k h h0 e=>by
  unfold Jp.plain;rw [e,h,aw h0]
 by_cases c1:r.headD 0=123
 ·rw [aa c1,key 123 0 (by decide) (by omega) c1];rfl
 rw [ab c1,ae]
 by_cases c2:r.headD 0=125
 ·rw [aa c2,key 125 1 (by decide) (by omega) c2];rfl
 rw [ab c2,ae]
 by_cases c3:r.headD 0=91
 ·rw [aa c3,key 91 2 (by decide) (by omega) c3];rfl
 rw [ab c3,ae]
 by_cases c4:r.headD 0=93
 ·rw [aa c4,key 93 3 (by decide) (by omega) c4];rfl
 rw [ab c4,ae]
 by_cases c5:r.headD 0=58
 ·rw [aa c5,key 58 4 (by decide) (by omega) c5];rfl
 rw [ab c5,ae]
 by_cases c6:r.headD 0=44
 ·rw [aa c6,key 44 5 (by decide) (by omega) c6];rfl
 rw [ab c6,ae]
 have GF:¬0≤Lib.indexByte [123,125,91,93,58,44] (r.headD 0):=by
  have:Lib.indexByte [123,125,91,93,58,44] (r.headD 0)=-1:=by
   simp only [sO,beq_iff_eq,Ne.symm c1,Ne.symm c2,Ne.symm c3,Ne.symm c4,Ne.symm c5,Ne.symm c6,if_false,Lib.indexByte];rfl
  rw [this];decide
 unfold Jp.plain
 rw [au GF]
 cases p1:List.isPrefixOf [116,114,117,101] r with
 | true=>rw [aw rfl];rfl
 | false =>
  rw [au Bool.false_ne_true,ae]
  cases p2:List.isPrefixOf [102,97,108,115,101] r with
  | true=>rw [aw rfl];rfl
  | false =>
   rw [au Bool.false_ne_true,ae]
   cases p3:List.isPrefixOf [110,117,108,108] r with
   | true=>rw [aw rfl];rfl
   | false=>rw [ae,au Bool.false_ne_true]
theorem nk.cW (s:bz) (hs:s.length≤1000000000000):∀(m a:Nat),s.length - a≤m→a≤s.length→nk.l1 s (a:Int) z0 y0=rT (Jp.Wb s (a+((s.drop a).takeWhile Jp.blank).length)):=by
 intro m
 have fin:∀a:Nat,s.length≤a→a≤s.length→nk.l1 s (a:Int) z0 y0=rT (Jp.Wb s (a+((s.drop a).takeWhile Jp.blank).length)):=by
  intro a h1 h2
  refine nk.bV _ _ _ _ ?_
  intro v1 g1 v2 g2 v3 g3
  have d:decide ((a:Int)<s.length)=false:=ab (by omega)
  rw [d,ae] at g2
  rw [d,g2]
  simp only [aM,Bool.true_or,bQ,ae]
  rw [aa (by omega),ai,aE h1]
  show _=rT (Jp.Wb s a)
  unfold Jp.Wb
  simp only
  rw [aw (aE h1)];rfl
 induction m with
 | zero=>intro a hm ha;exact fin a (by omega) ha
 | succ m ih =>
  intro a hm ha
  by_cases hl:s.length≤a
  ·exact fin a hl ha
  refine nk.bV _ _ _ _ ?_
  intro v1 h1 v2 h2 v3 h3
  have hd:=drop_cons (l:=s) (i:=a) (by omega) 0
  rw [aj] at h1
  rw [←h1] at hd
  have d:decide ((a:Int)<s.length)=true:=aa (by omega)
  rw [d,ai] at h2
  rw [d,bK (show (0:Int)≤(a:Int) by omega) (by omega),h2]
  simp only [aY,aR,bQ]
  rw [hd,List.takeWhile_cons]
  cases hb:Jp.blank v1 with
  | true =>
   rw [ai,aw rfl,h3,i64_in _ (by omega),ay]
   have:=ih (a+1) (by omega) (by omega)
   rw [show a+(((s.drop (a+1)).takeWhile Jp.blank).length+1)=a+1+((s.drop (a+1)).takeWhile Jp.blank).length by omega,←this];rfl
  | false =>
   rw [ae,au (by simp),ab (by omega),ae]
   exact Zo s a hs (by omega)
theorem nk.goal (s:bz) (a:Int) (hp:(decide (s.length≤1000000000000))=true):nk.F s a=rT (Jp.next s a):=by
 have hs:=ar hp
 refine nk.bZ _ _ ?_
 intro v1 h1
 simp only [aR,bm,aY,bQ]
 have e1:v1=decide (a<0∨(s.length:Int)<a):=by
  rw [h1,Bool.decide_or];cases decide (a<0) <;> cases decide ((s.length:Int)<a) <;> rfl
 rw [e1,Jp.Xh]
 unfold Jp.Xa
 by_cases c:a<0∨(s.length:Int)<a
 ·rw [aa c,ai,aw c];rfl
 ·rw [ab c,ae,au c]
  obtain ⟨k,rfl⟩:=Int.eq_ofNat_of_zero_le (show 0≤a by omega)
  rw [aj]
  exact nk.cW s hs s.length k (by omega) (by omega)
end Go.Eng
set_option maxRecDepth 20000
namespace Go.Eng
open Go.IntWalk
namespace Jp
def Good (s:bz) (a:Int) (x:R):Prop:=(x.2.1≠0∧x.1=⟨0,0,0,[]⟩)∨(x.2.1=0∧x.2.2=0∧a≤x.1.at_∧x.1.at_≤x.1.end_∧x.1.end_≤s.length∧(x.1.kind≠1→x.1.at_<x.1.end_))
theorem Xo (fr:Int):∀(n:Nat) (a:Int) (r acc:bz),((V0 fr n a r acc).2.1≠0∧(V0 fr n a r acc).1=⟨0,0,0,[]⟩)∨((V0 fr n a r acc).2=(0,0)∧(V0 fr n a r acc).1.kind=8∧(V0 fr n a r acc).1.at_=fr∧a+1≤(V0 fr n a r acc).1.end_∧(V0 fr n a r acc).1.end_≤a+r.length)
 | 0,a,r,acc=>by rw [V0];exact .inl ⟨by simp [no],rfl⟩
 | n+1,a,[],acc=>by rw [V0];exact .inl ⟨by simp [no],rfl⟩
 | n+1,a,c :: r,acc=>by
  have bad:∀e x:Int,e≠0→(no e x).2.1≠0∧(no e x).1=⟨0,0,0,[]⟩:=fun e x h=>⟨h,rfl⟩
  rw [V0]
  by_cases Yw:c=34
  ·rw [aw Yw];exact .inr ⟨rfl,rfl,rfl,by simp only;omega,by simp only [ay];omega⟩
  rw [au Yw]
  by_cases ZF:c<32
  ·rw [aw ZF];exact .inl (bad 3 a (by decide))
  rw [au ZF]
  have go:∀(k:Nat) (ZI:bz),1≤k→k≤(c :: r).length→∀x,x=V0 fr n (a+k) ((c :: r).drop k) ZI→(x.2.1≠0∧x.1=⟨0,0,0,[]⟩)∨(x.2=(0,0)∧x.1.kind=8∧x.1.at_=fr∧a+1≤x.1.end_∧x.1.end_≤a+((c :: r).length:Int)):=by
   intro k ZI k1 k2 x hx
   subst hx
   rcases Xo fr n (a+k) ((c :: r).drop k) ZI with h | ⟨h1,h2,h3,h4,h5⟩
   ·exact .inl h
   ·refine .inr ⟨h1,h2,h3,by omega,?_⟩
    rw [aU] at h5;omega
  by_cases Zc:c≠92
  ·rw [aw Zc]
   have hz:=fy.pP ((c :: r).take 4)
   by_cases c0:(fy.rune ((c :: r).take 4)).2=0
   ·rw [aw c0];exact .inl (bad 4 a (by decide))
   ·rw [au c0]
    have hl:((c :: r).take 4).length≤(c :: r).length:=by rw [aF];omega
    have e:(fy.rune ((c :: r).take 4)).2=((fy.rune ((c :: r).take 4)).2.toNat:Int):=by omega
    exact go (fy.rune ((c :: r).take 4)).2.toNat _ (by omega) (by omega) _ (by rw [←e])
  rw [au Zc]
  by_cases cr:r=[]
  ·rw [aw cr];exact .inl (bad 2 fr (by decide))
  rw [au cr]
  have hr:=List.length_pos_iff.2 cr
  by_cases X3:r.headD 0=117
  ·rw [aw X3]
   by_cases f2:four 4 0 (r.drop 1)=-2
   ·rw [aw f2];exact .inl (bad 2 fr (by decide))
   rw [au f2]
   by_cases f1:four 4 0 (r.drop 1)=-1
   ·rw [aw f1];exact .inl (bad 3 a (by decide))
   rw [au f1]
   obtain ⟨_,_,fl⟩:=((Wd 4 0 (r.drop 1) (by omega)).resolve_left f1).resolve_left f2
   rw [aU] at fl
   cases hu:Yy (c :: r) with
   | none=>exact .inl (bad 4 a (by decide))
   | some p =>
    obtain ⟨v,k⟩:=p
    simp only
    have hk:1≤k∧k≤(c :: r).length:=by
     unfold Yy at hu
     simp only at hu
     split at hu
     ·split at hu
      ·cases hu
      ·rename_i h2
       cases hu
       have w1:¬four 4 0 ((c :: r).drop 8)<56320:=fun w=>h2 (.inr (.inr (.inl w)))
       rcases Wd 4 0 ((c :: r).drop 8) (by omega) with e | e | ⟨_,_,e⟩
       ·omega
       ·omega
       ·rw [aU] at e;omega
     ·cases hu;rw [ay];omega
    exact go k _ hk.1 hk.2 _ rfl
  rw [au X3]
  by_cases ce:escape (r.headD 0)=0
  ·rw [aw ce];exact .inl (bad 3 a (by decide))
  ·rw [au ce]
   exact go 2 _ (by omega) (by rw [ay];omega) _ rfl
theorem Yz (s:bz) (a:Nat) (ha:a≤s.length):Good s a (Wb s a):=by
 unfold Wb
 simp only
 by_cases h0:s.drop a=[]
 ·rw [aw h0];exact .inr ⟨rfl,rfl,Int.le_refl _,Int.le_refl _,by simp only;omega,fun h=>(h rfl).elim⟩
 rw [au h0]
 have hl:=congrArg List.length (List.take_append_drop a s)
 have hp:=List.length_pos_iff.2 h0
 rw [aU] at hp
 cases BQ:plain (s.drop a) with
 | some p =>
  obtain ⟨k,n⟩:=p
  simp only
  have hn:1≤n∧n≤(s.drop a).length∧k≠0:=by
   unfold plain at BQ
   have pre:∀w:bz,List.isPrefixOf w (s.drop a)=true→w.length≤(s.drop a).length:=fun w h=>(List.isPrefixOf_iff_prefix.1 h).length_le
   split at BQ
   ·rename_i h1
    have e:=Option.some.inj BQ
    rw [←(Prod.mk.inj e).2,←(Prod.mk.inj e).1,aU];exact ⟨by omega,by omega,by omega⟩
   split at BQ
   ·rename_i h1
    have e:=Option.some.inj BQ
    rw [←(Prod.mk.inj e).2,←(Prod.mk.inj e).1];exact ⟨by omega,pre _ h1,by omega⟩
   split at BQ
   ·rename_i h1
    have e:=Option.some.inj BQ
    rw [←(Prod.mk.inj e).2,←(Prod.mk.inj e).1];exact ⟨by omega,pre _ h1,by omega⟩
   split at BQ
   ·rename_i h1
    have e:=Option.some.inj BQ
    rw [←(Prod.mk.inj e).2,←(Prod.mk.inj e).1];exact ⟨by omega,pre _ h1,by omega⟩
   ·cases BQ
  rw [aU] at hn
  exact .inr ⟨rfl,rfl,Int.le_refl _,by simp only;omega,by simp only;omega,fun _=>by simp only;omega⟩
 | none =>
  simp only
  split
  ·rcases Xo a (s.drop a).length (a+1) ((s.drop a).drop 1) [] with h | ⟨h1,h2,h3,h4,h5⟩
   ·exact .inl h
   ·have Jv:((s.drop a).drop 1).length=s.length - a - 1:=by rw [aU,aU]
    rw [Jv] at h5
    exact .inr ⟨by rw [h1],by rw [h1],by omega,by omega,by omega,fun _=>by omega⟩
  split
  ·rename_i hn
   split
   ·exact .inl ⟨by simp [no],rfl⟩
   ·rename_i hx
    split
    ·exact .inl ⟨by simp [no],rfl⟩
    ·have lB:(s.drop a).takeWhile VX≠[]:=fun w=>hx (by rw [w];decide)
     have h1:=List.length_pos_iff.2 lB
     have h2:((s.drop a).takeWhile VX).length≤(s.drop a).length:=(List.takeWhile_sublist _).length_le
     rw [aU] at h2
     exact .inr ⟨rfl,rfl,Int.le_refl _,by simp only;omega,by simp only;omega,fun _=>by simp only;omega⟩
  ·exact .inl ⟨by simp [no],rfl⟩
theorem WG (s:bz) (a:Int) (ha:0≤a):Good s a (next s a):=by
 rw [Xh]
 unfold Xa
 by_cases h:a<0∨(s.length:Int)<a
 ·rw [aw h];exact .inl ⟨by simp [no],rfl⟩
 ·rw [au h]
  have h2:((s.drop a.toNat).takeWhile blank).length≤(s.drop a.toNat).length:=(List.takeWhile_sublist _).length_le
  rw [aU] at h2
  rcases Yz s (a.toNat+((s.drop a.toNat).takeWhile blank).length) (by omega) with k | ⟨k1,k2,k3,k4,k5,k6⟩
  ·exact .inl k
  ·exact .inr ⟨k1,k2,by omega,k4,k5,k6⟩
def GS (s:bz) (a:Int) (σ:R):Prop:=σ.2.1≠0∨(σ.2.1=0∧σ.2.2=0∧a≤σ.1.at_∧0≤σ.1.at_∧σ.1.at_≤σ.1.end_∧σ.1.end_≤s.length∧(σ.1.kind≠1→σ.1.at_<σ.1.end_))
theorem GS.le {s:bz} {a b:Int} {σ:R} (h:GS s a σ) (hb:b≤a):GS s b σ:=by
 rcases h with h | ⟨h1,h2,h3,h4⟩
 ·exact .inl h
 ·exact .inr ⟨h1,h2,by omega,h4⟩
theorem WT {s:bz} {σ:R} (h:σ.2.1≠0):step s σ=σ:=by unfold step;rw [au h]
theorem Xm {e:Int} {σ:R} (h:σ.2.1≠0):V5 e σ=σ:=by unfold V5;rw [au h]
theorem VP {s:bz} {a:Int} {σ:R} (h:GS s a σ):GS s a (step s σ):=by
 rcases h with h | ⟨h1,h2,h3,h4,h5,h6⟩
 ·rw [WT h];exact .inl h
 ·unfold step
  rw [aw h1]
  rcases WG s σ.1.end_ (by omega) with k | ⟨k1,k2,k3,k4⟩
  ·exact .inl k.1
  ·exact .inr ⟨k1,k2,by omega,by omega,k4⟩
theorem Wc {s:bz} {a:Int} {σ:R} (h:GS s a σ) (hk:σ.1.kind≠1):GS s (a+1) (step s σ):=by
 rcases h with h | ⟨h1,h2,h3,h4,h5,h6,h7⟩
 ·rw [WT h];exact .inl h
 ·have:=h7 hk
  unfold step
  rw [aw h1]
  rcases WG s σ.1.end_ (by omega) with k | ⟨k1,k2,k3,k4⟩
  ·exact .inl k.1
  ·exact .inr ⟨k1,k2,by omega,by omega,k4⟩
theorem W4 {s:bz} {a e:Int} {σ:R} (he:e≠0):GS s a (V5 e σ):=by
 unfold V5
 by_cases h:σ.2.1=0
 ·rw [aw h]
  refine .inl ?_
  simp only
  split
  ·decide
  ·exact he
 ·rw [au h];exact .inl h
mutual
theorem WN (s:bz) (d:Int):∀(n:Nat) (σ:R) (w:Int) (a:Int),GS s a σ→GS s a (VY s d n σ w).2
 | 0,σ,w,a,h=>by rw [VY];exact h
 | n+1,σ,w,a,h=>by
  rw [VY]
  split
  ·exact VP h
  split
  ·exact VP h
  split
  ·exact VP h
  split
  ·exact VP h
  split
  ·exact VP h
  split
  ·split
   ·exact W4 (by decide)
   ·split
    ·exact VP (VP h)
    ·exact Ya s d n _ _ w _ a (VP h)
  ·exact W4 (by decide)
theorem Ya (s:bz) (d:Int):∀(n:Nat) (k:Int) (σ:R) (w:Int) (acc:List Mem) (a:Int),GS s a σ→GS s a (VW s d n k σ w acc).2
 | 0,k,σ,w,acc,a,h=>by rw [VW];exact h
 | n+1,k,σ,w,acc,a,h=>by
  rw [VW]
  split
  ·exact h
  split
  ·exact W4 (by decide)
  split
  ·exact W4 (by decide)
  split
  ·exact VP (VP h)
  ·have h1:GS s a (if k=2 then step s (step s σ) else σ):=by
    split
    ·exact VP (VP h)
    ·exact h
   have h2:=WN s d n _ (w+1) a h1
   simp only
   generalize VY s d n (if k=2 then step s (step s σ) else σ) (w+1)=v at h2
   generalize (if k=2 then σ.1.text else [])=nm
   split
   ·exact VP h2
   split
   ·exact W4 (by decide)
   ·exact Ya s d n k _ w _ a (VP h2)
end
theorem GS.self {s:bz} {a:Int} {σ:R} (h:GS s a σ):GS s σ.1.at_ σ:=by
 rcases h with h | ⟨h1,h2,h3,h4⟩
 ·exact .inl h
 ·exact .inr ⟨h1,h2,Int.le_refl _,h4⟩
theorem GS.VV {s:bz} {a:Int} {σ:R} (h:GS s a σ) (h0:σ.2.1=0):a≤σ.1.at_∧0≤σ.1.at_∧σ.1.at_≤s.length:=by
 rcases h with h | ⟨h1,h2,h3,h4,h5,h6,_⟩
 ·exact (h h0).elim
 ·exact ⟨h3,h4,by omega⟩
mutual
theorem WC (s:bz) (d:Int):∀(n m:Nat) (σ:R) (w:Int),GS s 0 σ→σ.2.1=0→2 * (s.length - σ.1.at_.toNat)+2≤n→2 * (s.length - σ.1.at_.toNat)+2≤m→VY s d n σ w=VY s d m σ w
 | 0,_,_,_,_,_,h,_=>by omega
 | _+1,0,_,_,_,_,_,h=>by omega
 | n+1,m+1,σ,w,hG,h0,hn,hm=>by
  rw [VY,VY]
  by_cases hk:σ.1.kind=2∨σ.1.kind=4
  ·obtain ⟨a1,a2,a3⟩:=hG.VV h0
   have h1:=Wc hG.self (by omega)
   have key:VW s d n σ.1.kind (step s σ) w []=VW s d m σ.1.kind (step s σ) w []:=by
    by_cases he:(step s σ).2.1=0
    ·have:=h1.VV he
     exact WE s d n m _ _ w [] (h1.le (by omega)) he (by omega) (by omega)
    ·obtain ⟨n,rfl⟩:∃k,n=k+1:=⟨n - 1,by omega⟩
     obtain ⟨m,rfl⟩:∃k,m=k+1:=⟨m - 1,by omega⟩
     rw [VW,VW,aw he,aw he]
   rw [key]
  ·rw [au hk,au hk]
theorem WE (s:bz) (d:Int):∀(n m:Nat) (k:Int) (σ:R) (w:Int) (acc:List Mem),GS s 0 σ→σ.2.1=0→2 * (s.length - σ.1.at_.toNat)+3≤n→2 * (s.length - σ.1.at_.toNat)+3≤m→VW s d n k σ w acc=VW s d m k σ w acc
 | 0,_,_,_,_,_,_,_,h,_=>by omega
 | _+1,0,_,_,_,_,_,_,_,h=>by omega
 | n+1,m+1,k,σ,w,acc,hG,h0,hn,hm=>by
  rw [VW,VW]
  obtain ⟨a1,a2,a3⟩:=hG.VV h0
  by_cases c1:σ.2.1≠0
  ·rw [aw c1,aw c1]
  rw [au c1,au c1]
  by_cases c2:k=2∧σ.1.kind≠8
  ·rw [aw c2,aw c2]
  rw [au c2,au c2]
  by_cases c3:k=2∧(step s σ).1.kind≠6
  ·rw [aw c3,aw c3]
  rw [au c3,au c3]
  by_cases c4:k=2∧(step s (step s σ)).2.1≠0
  ·rw [aw c4,aw c4]
  rw [au c4,au c4]
  have hT:GS s σ.1.at_ (if k=2 then step s (step s σ) else σ)∧(if k=2 then step s (step s σ) else σ).2.1=0:=by
   by_cases k2:k=2
   ·rw [aw k2]
    refine ⟨VP (VP hG.self),?_⟩
    by_cases e:(step s (step s σ)).2.1=0
    ·exact e
    ·exact (c4 ⟨k2,e⟩).elim
   ·rw [au k2];exact ⟨hG.self,h0⟩
  generalize (if k=2 then step s (step s σ) else σ)=τ at hT
  obtain ⟨t1,t2⟩:=hT
  have ta:=t1.VV t2
  have eV:=WC s d n m τ (w+1) (t1.le a2) t2 (by omega) (by omega)
  rw [eV]
  simp only
  have hV:=WN s d m τ (w+1) _ t1
  generalize VY s d m τ (w+1)=v at hV
  by_cases c5:v.2.2.1=0∧v.2.1.kind=k+1
  ·rw [aw c5,aw c5]
  rw [au c5,au c5]
  by_cases c6:v.2.1.kind≠7
  ·rw [aw c6,aw c6]
  rw [au c6,au c6]
  have c6:=Decidable.not_not.1 c6
  have h1:=Wc hV (by omega)
  by_cases he:(step s v.2).2.1=0
  ·have:=h1.VV he
   exact WE s d n m k _ w _ (h1.le (by omega)) he (by omega) (by omega)
  ·obtain ⟨n,rfl⟩:∃k,n=k+1:=⟨n - 1,by omega⟩
   obtain ⟨m,rfl⟩:∃k,m=k+1:=⟨m - 1,by omega⟩
   rw [VW,VW,aw he,aw he]
end
end Jp
end Go.Eng
set_option maxRecDepth 20000
namespace Go.Eng
open Go.IntWalk
theorem Wi (p:Rj) (σ:Jp.R):Rj.st (Rj.put p σ)=σ:=rfl
theorem Wg (p:Rj) (σ τ:Jp.R):Rj.put (Rj.put p σ) τ=Rj.put p τ:=rfl
theorem VI.goal (p:Rj) (hp:(decide (p.s.length≤1000000000000∧p.path=[]))=true):VI.F p=some [.ag (Rj.cells (Rj.put p (Jp.step p.s (Rj.st p))))]:=by
 obtain ⟨h1,h2⟩:=ar hp
 refine VI.bZ p ?_
 intro v1 g1 v2 g2 v3 g3
 rw [bw (aa h1)]
 unfold Jp.step
 have e:(Rj.st p).2.1=p.err:=rfl
 rw [e]
 by_cases c:p.err=0
 ·rw [aa c,ai,aw c,g1,g2,g3]
  show _=some [TV.ag [TV.s p.s,TV.i .i64 p.depth,_,_,_,_,_,_,TV.sl .is p.path]]
  rw [h2];rfl
 ·rw [ab c,ae,au c];rfl
theorem VG.goal (p:Rj) (e:Int) (hp:(decide (p.path=[]))=true):VG.F p e=some [.ag (Rj.cells (Rj.put p (Jp.V5 e (Rj.st p))))]:=by
 have h2:=ar hp
 rw [VG.eJ,VG.lp,VG.lp]
 unfold Jp.V5
 have e1:(Rj.st p).2.1=p.err:=rfl
 have e2:(Rj.st p).1.kind=p.kind:=rfl
 rw [e1,e2]
 by_cases c:p.err=0
 ·rw [aa c,ai,aw c]
  by_cases d:p.kind=1
  ·rw [aa d,ai,aw d]
   show _=some [TV.ag [TV.s p.s,TV.i .i64 p.depth,_,_,_,_,_,_,TV.sl .is p.path]]
   rw [h2];rfl
  ·rw [ab d,ae,au d]
   show _=some [TV.ag [TV.s p.s,TV.i .i64 p.depth,_,_,_,_,_,_,TV.sl .is p.path]]
   rw [h2];rfl
 ·rw [ab c,ae,au c];rfl
namespace Jp
theorem YL {s:bz} {σ:R} (h:Wf s σ.1=true) (h1:σ.2.1=0) (h2:σ.2.2=0):GS s σ.1.at_ σ:=by
 obtain ⟨a,b,c,d⟩:=ar h
 exact .inr ⟨h1,h2,Int.le_refl _,a,b,c,d⟩
theorem Y4 {s:bz} {a:Int} {σ:R} (h:GS s a σ) (h1:σ.2.1=0):Wf s σ.1=true∧σ.2.2=0:=by
 rcases h with h | ⟨_,h2,_,h3,h4,h5,h6⟩
 ·exact (h h1).elim
 ·exact ⟨aa ⟨h3,h4,h5,h6⟩,h2⟩
theorem Wj (s:bz) (d:Int) {n:Nat} (hn:1≤n) (k:Int) {σ:R} (w:Int) (acc:List Mem) (h:σ.2.1≠0):VW s d n k σ w acc=(acc,σ):=by
 obtain ⟨n,rfl⟩:∃m,n=m+1:=⟨n - 1,by omega⟩
 rw [VW,aw h]
theorem Xq (s:bz) (d:Int) {n m:Nat} (k:Int) {σ:R} (w:Int) (acc:List Mem) (hG:GS s 0 σ) (hn:(σ.2.1=0→2 * (s.length - σ.1.at_.toNat)+3≤n)∧1≤n) (hm:(σ.2.1=0→2 * (s.length - σ.1.at_.toNat)+3≤m)∧1≤m):VW s d n k σ w acc=VW s d m k σ w acc:=by
 by_cases h:σ.2.1=0
 ·exact WE s d n m k σ w acc hG h (hn.1 h) (hm.1 h)
 ·rw [Wj s d hn.2 k w acc h,Wj s d hm.2 k w acc h]
theorem Zp {s:bz} {d:Int} {σ:R} {w:Int} (hG:GS s σ.1.at_ σ) (h0:σ.2.1=0) (hk:σ.1.kind=2∨σ.1.kind=4) (hw:¬d≤w):rv s d σ w=rr s d σ.1.kind σ w:=by
 rw [X9,Zh]
 unfold fg
 rw [VY,au (by omega),au (by omega),au (by omega),au (by omega),au (by omega),aw hk,au hw]
 unfold YN
 have h1:=Wc hG (by omega)
 have a0:=hG.VV h0
 have:VW s d (2 * (s.length - σ.1.at_.toNat)+2) σ.1.kind (step s σ) w []=VW s d (2 * (s.length - σ.1.at_.toNat)+3) σ.1.kind (step s σ) w [] :=
  Xq s d _ w [] (h1.le (by omega)) ⟨fun e=>by have:=h1.VV e;omega,by omega⟩ ⟨fun e=>by have:=h1.VV e;omega,by omega⟩
 rw [this]
end Jp
theorem Vq.goal (n:Nat) (p:Rj) (w:Int) (hp:((decide (p.s.length≤1000000000000∧p.path=[]∧p.err=0∧p.Pw=0∧p.depth≤1000∧0≤w∧w≤1000)&&Jp.Wf p.s (Rj.st p).1)&&decide ((2 * (p.s.length - p.at_.toNat)+2)<n+1))=true) :
  Vq.F n p w=some [.ag (bM.cells (Jp.rv p.s p.depth (Rj.st p) w).1),.ag (Rj.cells (Rj.put p (Jp.rv p.s p.depth (Rj.st p) w).2))]:=by
 rw [ah,ah] at hp
 obtain ⟨⟨OO,ht⟩,hn⟩:=hp
 obtain ⟨h1,h2,h3,ZY,h4,h5,h6⟩:=ar OO
 have hn:=ar hn
 have hG:Jp.GS p.s (Rj.st p).1.at_ (Rj.st p):=Jp.YL ht h3 ZY
 refine Vq.bZ n p w ?_
 intro v1 g1
 have cs:decide (p.s.length≤1000000000000∧p.path=[])=true:=aa ⟨h1,h2⟩
 have cp:decide (p.path=[])=true:=aa h2
 rw [cs]
 simp only [bQ]
 have ek:(Rj.st p).1.kind=p.kind:=rfl
 have et:(Rj.st p).1.text=p.text:=rfl
 by_cases r:(p.kind=2∨p.kind=4)∧¬p.depth≤w
 ·obtain ⟨rk,rw'⟩:=r
  rw [ab (show ¬p.kind=8 by omega),ab (show ¬p.kind=9 by omega),ab (show ¬p.kind=10 by omega),ab (show ¬p.kind=11 by omega),ab (show ¬p.kind=12 by omega)]
  simp only [ae]
  rw [Jp.Zp hG h3 (by rw [ek];exact rk) rw',ek]
  have J:Vq.j1 n w true ⟨0,[],[]⟩ ⟨p.kind,p.at_,p.end_,p.text⟩ p=some [.ag (bM.cells (Jp.rr p.s p.depth p.kind (Rj.st p) w).1),.ag (Rj.cells (Rj.put p (Jp.rr p.s p.depth p.kind (Rj.st p) w).2))]:=by
   refine Vq.iI _ _ _ _ _ _ ?_
   intro v1 k1 v2 k2 v3 k3 v4 k4
   have cc:((decide (p.s.length≤1000000000000∧p.path=[]∧p.err=0∧p.Pw=0∧p.depth≤1000∧0≤w∧w<1000∧(p.kind=2∨p.kind=4)∧p.kind=p.kind)&&Jp.Wf p.s (Rj.st p).1)&&decide ((2 * (p.s.length - p.at_.toNat)+1)<n))=true:=by
    rw [ah,ah]
    exact ⟨⟨aa ⟨h1,h2,h3,ZY,h4,h5,by omega,rk,rfl⟩,ht⟩,aa (by omega)⟩
   rw [ai,ab rw',ae,bw cc,k2,k3]
  rcases rk with rk | rk
  ·rw [aa rk,ai];exact J
  ·rw [ab (show ¬p.kind=2 by omega),ae,aa rk];exact J
 ·rw [Jp.X9]
  unfold Jp.fg
  rw [Jp.VY,ek,et]
  by_cases k8:p.kind=8
  ·rw [aa k8,ai,aw k8,g1];rfl
  rw [ab k8,ae,au k8]
  by_cases k9:p.kind=9
  ·rw [aa k9,ai,aw k9,g1];rfl
  rw [ab k9,ae,au k9]
  by_cases Zz:p.kind=10
  ·rw [aa Zz,ai,aw Zz,g1];rfl
  rw [ab Zz,ae,au Zz]
  by_cases Zy:p.kind=11
  ·rw [aa Zy,ai,aw Zy,g1];rfl
  rw [ab Zy,ae,au Zy]
  by_cases Zx:p.kind=12
  ·rw [aa Zx,ai,aw Zx,g1];rfl
  rw [ab Zx,ae,au Zx]
  have J:∀b:Bool,(b=true→p.depth≤w)→Vq.j1 n w b ⟨0,[],[]⟩ ⟨p.kind,p.at_,p.end_,p.text⟩ p=some [.ag (bM.cells ⟨0,[],[]⟩),.ag (Rj.cells (Rj.put p (Jp.V5 (cond b 8 3) (Rj.st p))))]:=by
   intro b hb
   refine Vq.iI _ _ _ _ _ _ ?_
   intro v1 k1 v2 k2 v3 k3 v4 k4
   cases b with
   | true=>rw [ai,aa (hb rfl),ai,cp,bQ,k1];rfl
   | false=>rw [ae,cp,bQ,k4];rfl
  by_cases rk:p.kind=2∨p.kind=4
  ·have rd:p.depth≤w:=by
    by_cases x:p.depth≤w
    ·exact x
    ·exact (r ⟨rk,x⟩).elim
   rw [aw rk,aw rd]
   rcases rk with rk | rk
   ·rw [aa rk,ai];exact J true fun _=>rd
   ·rw [ab (show ¬p.kind=2 by omega),ae,aa rk];exact J true fun _=>rd
  ·rw [au rk,ab (show ¬p.kind=2 by omega),ae,ab (show ¬p.kind=4 by omega)]
   exact J false fun h=>absurd h (by decide)
theorem Vm.ju (s:bz) (d k w K:Int) (n:Nat) (hs:s.length≤1000000000000) (hd:d≤1000) (hw:0≤w∧w<1000) (hk:k=2∨k=4):∀(M:Nat) (q:Rj) (x7 acc:List Mem) (F:Nat),q.s=s→q.depth=d→q.path=[]→Jp.GS s 0 (Rj.st q)→(q.err=0→s.length - q.at_.toNat+2≤M∧2 * (s.length - q.at_.toNat)+2<n)→1≤M→acc.length+(if q.err=0 then s.length - q.at_.toNat+1 else 0)≤1000000000001 →
  (q.err=0→2 * (s.length - q.at_.toNat)+3≤F)→1≤F →
  Vm.l2 n k w 0 [] K [] q x7 acc=some [.ag [.i .i64 K,.s [],.sl .ml (Jp.VW s d F k (Rj.st q) w acc).1],.ag (Rj.cells (Rj.put q (Jp.VW s d F k (Rj.st q) w acc).2))]:=by
 intro M
 induction M with
 | zero=>intro _ _ _ _ _ _ _ _ _ h;omega
 | succ M ih =>
  intro q x7 acc F es ed ep hG hM _ ZB hF hF1
  obtain ⟨F,rfl⟩:∃m,F=m+1:=⟨F - 1,by omega⟩
  subst es ed
  have ek:(Rj.st q).1.kind=q.kind:=rfl
  have et:(Rj.st q).1.text=q.text:=rfl
  have ee:(Rj.st q).2.1=q.err:=rfl
  have cs:∀σ:Jp.R,decide ((Rj.put q σ).s.length≤1000000000000∧(Rj.put q σ).path=[])=true:=fun σ=>aa ⟨hs,ep⟩
  have cs0:decide (q.s.length≤1000000000000∧q.path=[])=true:=aa ⟨hs,ep⟩
  have cp:∀σ:Jp.R,decide ((Rj.put q σ).path=[])=true:=fun σ=>aa ep
  have cp0:decide (q.path=[])=true:=aa ep
  refine Vm.iw _ _ _ _ _ _ _ _ _ _ ?_
  intro v1 g1 v2 g2 v3 g3 v4 g4
  subst g2
  simp only [Wi,Wg] at g3 g4
  have ZL:(Rj.put q (Jp.step q.s (Rj.st q))).s=q.s:=rfl
  rw [ZL] at g4
  rw [Jp.VW,ee,ek,et]
  by_cases c0:q.err=0
  ·have a0:=hG.VV (show (Rj.st q).2.1=0 from c0)
   have ea:(Rj.st q).1.at_=q.at_:=rfl
   rw [ea] at a0
   obtain ⟨hM1,hM2⟩:=hM c0
   rw [aw c0] at ZB
   have hF:=hF c0
   -- behind the name
   have tail:∀(nm:bz) (τ:Jp.R),Jp.GS q.s q.at_ τ→τ.2.1=0→Vm.j4 n k w 0 [] K [] (Mem.mk nm 0 [] []) (Rj.put q τ) x7 acc =
     (let v:=Jp.VY q.s q.depth F τ (w+1)
     let m:=acc++[Mem.of nm v.1]
     let r:List Mem × Jp.R:=if v.2.2.1=0∧v.2.1.kind=k+1 then (m,Jp.step q.s v.2) else if v.2.1.kind≠7 then (m,Jp.V5 3 v.2) else Jp.VW q.s q.depth F k (Jp.step q.s v.2) w m
     some [.ag [.i .i64 K,.s [],.sl .ml r.1],.ag (Rj.cells (Rj.put q r.2))]):=by
    intro nm τ tG t0
    have ta:=tG.VV t0
    obtain ⟨tt,tz⟩:=Jp.Y4 tG t0
    refine Vm.DO _ _ _ _ _ _ _ _ _ _ _ ?_
    intro y1 u1 y2 u2 y3 u3 y4 u4 y5 u5 y6 u6 y7 u7 y8 u8
    have ew:y1=w+1:=by rw [u1,i64_in _ (by omega)]
    have e5:y5=k+1:=by rw [u5,i64_in _ (by omega)]
    have ZL:(Rj.put q τ).s=q.s:=rfl
    have hpd:(Rj.put q τ).depth=q.depth:=rfl
    rw [Wi,ZL,hpd,ew] at u2 u3
    have eV:Jp.rv q.s q.depth τ (w+1)=Jp.VY q.s q.depth F τ (w+1):=by
     rw [Jp.X9]
     exact Jp.WC _ _ _ _ _ _ (tG.le a0.2.1) t0 (by unfold Jp.fg;omega) (by omega)
    have hV:=Jp.WN q.s q.depth F τ (w+1) q.at_ tG
    rw [eV] at u2 u3
    simp only
    generalize Jp.VY q.s q.depth F τ (w+1)=v at u2 u3 hV
    rw [Wg] at u2
    have cc:((decide ((Rj.put q τ).s.length≤1000000000000∧(Rj.put q τ).path=[]∧(Rj.put q τ).err=0∧(Rj.put q τ).Pw=0∧(Rj.put q τ).depth≤1000∧0≤y1∧y1≤1000)&&Jp.Wf (Rj.put q τ).s (Rj.st (Rj.put q τ)).1)&&decide ((2 * ((Rj.put q τ).s.length - (Rj.put q τ).at_.toNat)+2)<n))=true:=by
     rw [ah,ah]
     have hat:(Rj.put q τ).at_=τ.1.at_:=rfl
     exact ⟨⟨aa ⟨hs,ep,t0,tz,hd,by omega,by omega⟩,tt⟩,aa (by rw [hat,ZL];omega)⟩
    have e4:y4=[Mem.of nm v.1]:=by rw [u4,u3];rfl
    subst u2
    have z1:(Rj.put q v.2).err=v.2.2.1:=rfl
    have z2:(Rj.put q v.2).kind=v.2.1.kind:=rfl
    rw [z1,z2,e5] at u6
    rw [Wi,Wg] at u7 u8
    have Z6:(Rj.put q v.2).s=q.s:=rfl
    rw [Z6] at u7
    rw [bw cc,e4,bw (dW (by simp;omega) (by simp;omega)),z1,z2,cs,cp]
    simp only [aR,aY,bQ]
    have e6:y6=decide (v.2.2.1=0∧v.2.1.kind=k+1):=by
     rw [u6,Bool.decide_and];cases decide (v.2.2.1=0) <;> rfl
    rw [e6]
    by_cases p1:v.2.2.1=0∧v.2.1.kind=k+1
    ·rw [aa p1,ai,aw p1,u7]
    rw [ab p1,ae,au p1]
    by_cases p2:v.2.1.kind≠7
    ·rw [ab p2,aM,ai,aw p2,Vm.LC,u8]
    have p2:=Decidable.not_not.1 p2
    rw [aa p2,aH,ae,au (by simp [p2]),u7]
    have JF:=Jp.Wc hV (by omega)
    have k1:∀e:(Jp.step q.s v.2).2.1=0,q.at_+1≤(Jp.step q.s v.2).1.at_∧(Jp.step q.s v.2).1.at_≤q.s.length:=fun e=>⟨(JF.VV e).1,(JF.VV e).2.2⟩
    have zz:(Rj.put q (Jp.step q.s v.2)).err=(Jp.step q.s v.2).2.1:=rfl
    have za:(Rj.put q (Jp.step q.s v.2)).at_=(Jp.step q.s v.2).1.at_:=rfl
    have:=ih (Rj.put q (Jp.step q.s v.2)) x7 (acc++[Mem.of nm v.1]) F rfl rfl ep (JF.le (by omega)) (fun e=>by rw [za];have:=k1 e;omega) (by omega) (by
      rw [zz,za,ao,az]
      split
      ·rename_i e;have:=k1 e;omega
      ·omega) (fun e=>by rw [za];have:=k1 e;omega) (by omega)
    rw [this,Wi,Wg]
   rw [aa c0,ai,au (by simp [c0])]
   rcases hk with hk | hk
   ·subst hk
    rw [aa rfl,ai]
    by_cases k8:q.kind≠8
    ·rw [ab k8,aM,ai,cp0,bQ,aw ⟨rfl,k8⟩,Vm.LC,g1]
    have k8:=Decidable.not_not.1 k8
    rw [aa k8,aH,ae,au (by rintro ⟨_,w⟩;exact w k8),cs0,bQ]
    have z6:(Rj.put q (Jp.step q.s (Rj.st q))).kind=(Jp.step q.s (Rj.st q)).1.kind:=rfl
    rw [z6]
    by_cases k6:(Jp.step q.s (Rj.st q)).1.kind≠6
    ·rw [ab k6,aM,ai,cp,bQ,aw ⟨rfl,k6⟩,Vm.LC,g3]
    have k6:=Decidable.not_not.1 k6
    rw [aa k6,aH,ae,au (by rintro ⟨_,w⟩;exact w k6),cs,bQ]
    have z4:v4.err=(Jp.step q.s (Jp.step q.s (Rj.st q))).2.1:=by rw [g4];rfl
    rw [z4]
    by_cases kE:(Jp.step q.s (Jp.step q.s (Rj.st q))).2.1≠0
    ·rw [ab kE,aM,ai,aw ⟨rfl,kE⟩,Vm.LC,g4]
    have kE:=Decidable.not_not.1 kE
    rw [aa kE,aH,ae,au (by rintro ⟨_,w⟩;exact w kE),g4,aw rfl,aw rfl]
    exact tail q.text _ (Jp.VP (Jp.VP hG.self)) kE
   ·subst hk
    rw [ab (by decide),ae,au (by rintro ⟨w,_⟩;exact absurd w (by decide)),au (by rintro ⟨w,_⟩;exact absurd w (by decide)),au (by rintro ⟨w,_⟩;exact absurd w (by decide)),au (show ¬(4:Int)=2 by decide),au (show ¬(4:Int)=2 by decide)]
    exact tail [] (Rj.st q) hG.self c0
  ·rw [ab c0,ae,aw c0,Vm.LC];rfl
theorem Vm.goal (n:Nat) (p:Rj) (k w:Int) (hp:((decide (p.s.length≤1000000000000∧p.path=[]∧p.err=0∧p.Pw=0∧p.depth≤1000∧0≤w∧w<1000∧(k=2∨k=4)∧p.kind=k)&&Jp.Wf p.s (Rj.st p).1)&&decide ((2 * (p.s.length - p.at_.toNat)+1)<n+1))=true) :
  Vm.F n p k w=some [.ag (bM.cells (Jp.rr p.s p.depth k (Rj.st p) w).1),.ag (Rj.cells (Rj.put p (Jp.rr p.s p.depth k (Rj.st p) w).2))]:=by
 rw [ah,ah] at hp
 obtain ⟨⟨OO,ht⟩,hn⟩:=hp
 obtain ⟨h1,h2,h3,ZY,h4,h5,h6,hk,hkk⟩:=ar OO
 have hn:=ar hn
 have hG:Jp.GS p.s p.at_ (Rj.st p):=Jp.YL ht h3 ZY
 have a0:=hG.VV (show (Rj.st p).2.1=0 from h3)
 have ea:(Rj.st p).1.at_=p.at_:=rfl
 rw [ea] at a0
 have hS:=Jp.Wc hG (show p.kind≠1 by omega)
 have J:∀K:Int,Vm.j1 n k w 0 [] K [] p [] []=some [.ag [.i .i64 K,.s [],.sl .ml (if (Jp.step p.s (Rj.st p)).2.1=0∧(Jp.step p.s (Rj.st p)).1.kind=k+1 then [] else (Jp.VW p.s p.depth (Jp.fg p.s p.at_) k (Jp.step p.s (Rj.st p)) w []).1)],.ag (Rj.cells (Rj.put p (if (Jp.step p.s (Rj.st p)).2.1=0∧(Jp.step p.s (Rj.st p)).1.kind=k+1 then Jp.step p.s (Jp.step p.s (Rj.st p)) else (Jp.VW p.s p.depth (Jp.fg p.s p.at_) k (Jp.step p.s (Rj.st p)) w []).2)))]:=by
  intro K
  refine Vm.iI _ _ _ _ _ _ _ _ _ _ ?_
  intro v1 g1 v2 g2 v3 g3 v4 g4
  subst g1
  have e2:v2=k+1:=by rw [g2,i64_in _ (by omega)]
  rw [Wi,Wg] at g4
  have ZL:(Rj.put p (Jp.step p.s (Rj.st p))).s=p.s:=rfl
  have z1:(Rj.put p (Jp.step p.s (Rj.st p))).err=(Jp.step p.s (Rj.st p)).2.1:=rfl
  have z2:(Rj.put p (Jp.step p.s (Rj.st p))).kind=(Jp.step p.s (Rj.st p)).1.kind:=rfl
  rw [ZL] at g4
  rw [z1,z2,e2] at g3
  have e3:v3=decide ((Jp.step p.s (Rj.st p)).2.1=0∧(Jp.step p.s (Rj.st p)).1.kind=k+1):=by
   rw [g3,Bool.decide_and];cases decide ((Jp.step p.s (Rj.st p)).2.1=0) <;> rfl
  have cs:decide (p.s.length≤1000000000000∧p.path=[])=true:=aa ⟨h1,h2⟩
  have G2:decide ((Rj.put p (Jp.step p.s (Rj.st p))).s.length≤1000000000000∧(Rj.put p (Jp.step p.s (Rj.st p))).path=[])=true:=aa ⟨h1,h2⟩
  rw [cs,G2,e3]
  simp only [aR,aY,bQ]
  by_cases c:(Jp.step p.s (Rj.st p)).2.1=0∧(Jp.step p.s (Rj.st p)).1.kind=k+1
  ·rw [aa c,ai,aw c,aw c,g4]
  ·rw [ab c,ae,au c,au c]
   have za:(Rj.put p (Jp.step p.s (Rj.st p))).at_=(Jp.step p.s (Rj.st p)).1.at_:=rfl
   have:=Vm.ju p.s p.depth k w K n h1 h4 ⟨h5,h6⟩ hk (p.s.length+2) (Rj.put p (Jp.step p.s (Rj.st p))) [] [] (Jp.fg p.s p.at_) rfl rfl h2 (hS.le (by omega)) (fun e=>by rw [za];have:=hS.VV e;omega) (by omega) (by
     rw [z1,za,aB]
     split
     ·rename_i e;have:=hS.VV e;omega
     ·omega) (fun e=>by rw [za];have:=hS.VV e;unfold Jp.fg;omega) (by unfold Jp.fg;omega)
   rw [this,Wi,Wg]
 rw [Vm.eJ,Jp.Zh]
 unfold Jp.YN
 rw [ea]
 rcases hk with hk | hk
 ·subst hk
  rw [ab (by decide),ae,J]
  split <;> rfl
 ·subst hk
  rw [aa rfl,ai,J]
  split <;> rfl
end Go.Eng
set_option maxRecDepth 20000
namespace Go.Eng
open Go.IntWalk
namespace Jp
theorem YP {c:UInt8} (h:Nr.dV c=true):VX c=true:=by unfold VX;rw [h];rfl
theorem WQ {l:bz} (h:l.all Nr.dV=true):l.all VX=true:=aC.2 fun c hc=>YP (aC.1 h c hc)
theorem X4 {e:bz} (h:(Nr.signed e).all Nr.dV=true):e.all VX=true:=by
 cases e with
 | nil=>rfl
 | cons c r =>
  unfold Nr.signed at h
  simp only at h
  split at h
  ·rename_i hc
   rw [List.all_cons,WQ h,Bool.and_true]
   rcases hc with rfl | rfl <;> decide
  ·exact WQ h
theorem Yf {t:bz} (h:Nr.iX t≠0):t.all VX=true∧t≠[]∧(t.headD 0=45∨Nr.dV (t.headD 0)=true):=by
 obtain ⟨a,b,fr,ex,e,s⟩:=Nr.Yo h
 have hb:(Nr.body t).all VX=true:=by
  rw [s.eq,List.all_append,List.all_append,WQ s.ad,Bool.true_and,ah]
  constructor
  ·rcases s.fr with ⟨h1,_⟩ | ⟨h1,_⟩
   ·rw [h1];rfl
   ·rw [h1,List.all_cons,WQ s.bd];decide
  ·rcases s.ex with ⟨h1,_⟩ | ⟨c,h1,h2,_⟩
   ·rw [h1];rfl
   ·rw [h2,List.all_cons,X4 s.ed,Bool.and_true]
    rcases ar h1 with rfl | rfl <;> decide
 cases t with
 | nil=>exact (h (by decide)).elim
 | cons c r =>
  by_cases hc:c=45
  ·subst hc
   refine ⟨?_,by simp,.inl rfl⟩
   have:Nr.body (45 :: r)=r:=rfl
   rw [this] at hb
   rw [List.all_cons,hb];decide
  ·have e0:Nr.body (c :: r)=c :: r:=by unfold Nr.body;split;rename_i w;simp at w;exact (hc w.1).elim;rfl
   rw [e0] at hb
   refine ⟨hb,by simp,.inr ?_⟩
   have h2:=s.eq
   rw [e0] at h2
   cases ha:a with
   | nil=>exact (s.a0 ha).elim
   | cons x y =>
    rw [ha] at h2
    simp only [List.cons_append,bt] at h2
    have:=s.ad
    rw [ha,List.all_cons,ah] at this
    rw [List.headD_cons,h2.1];exact this.1
def Zf (r:bz):Prop:=r=[]∨r.headD 0=44∨r.headD 0=93∨r.headD 0=125
theorem Wv {s r:bz} {a:Nat} (h:s.drop a=r) (ha:a≤s.length) (hb:r=[]∨blank (r.headD 0)=false):next s (a:Int)=Wb s a:=by
 rw [Xh]
 unfold Xa
 rw [au (by omega),aj,h]
 have:r.takeWhile blank=[]:=by
  cases r with
  | nil=>rfl
  | cons c r =>
   rcases hb with hb | hb
   ·simp at hb
   ·rw [List.takeWhile_cons,List.headD_cons] at *;rw [hb];rfl
 rw [this];rfl
theorem W7 {s r:bz} {a:Nat} {k:Int} {n:Nat} (h:s.drop a=r) (hr:r≠[]) (hp:plain r=some (k,n)):Wb s a=(⟨k,a,(a:Int)+n,[]⟩,0,0):=by
 unfold Wb
 simp only
 rw [h,au hr,hp]
theorem Yk {c:UInt8} {r:bz} (k:Int) (h:Lib.indexByte [123,125,91,93,58,44] c=k) (h0:0≤k):plain (c :: r)=some (2+k,1):=by
 unfold plain
 rw [List.headD_cons,h,aw h0]
theorem X6 {s q rest:bz} {a:Nat} (hq:fy.whole q=true) (h:s.drop a=Cn.quote q++rest) (ha:a≤s.length):next s (a:Int)=(⟨8,a,((a+(Cn.quote q).length:Nat):Int),q⟩,0,0):=by
 have e:Cn.quote q++rest=34 :: (q.flatMap Cn.FA++34 :: rest):=by simp [Cn.quote]
 rw [e] at h
 rw [Wv h ha (.inr (by rw [List.headD_cons];decide))]
 unfold Wb
 simp only
 have hp:plain (34 :: (q.flatMap Cn.FA++34 :: rest))=none:=by
  unfold plain
  rw [List.headD_cons,au (by decide)]
  simp [List.isPrefixOf]
 rw [h,au (by simp),hp]
 simp only
 rw [List.headD_cons,aw rfl,List.drop_one,List.tail_cons]
 have hl:q.length≤(q.flatMap Cn.FA).length:=by
  have:∀l:bz,l.length≤(l.flatMap Cn.FA).length:=by
   intro l
   induction l with
   | nil=>simp
   | cons c l ih =>
    have hc:1≤(Cn.FA c).length:=by unfold Cn.FA;split;simp;split <;> simp
    rw [List.flatMap_cons,ao,ay];omega
  exact this q
 rw [Xg _ rest q.length q (Nat.le_refl _) hq _ _ _ (by simp only [ao,ay];omega)]
 simp only [Cn.quote,ao,ay,aB,bq]
 rw [show (a:Int)+1+((q.flatMap Cn.FA).length:Int)+1=((a+((q.flatMap Cn.FA).length+1+1):Nat):Int) by omega]
theorem Y6 {s t rest:bz} {a:Nat} (ht:Nr.iX t≠0) (hl:t.length≤300) (hd:Zf rest) (h:s.drop a=t++rest) (ha:a≤s.length):next s (a:Int)=(⟨9,a,((a+t.length:Nat):Int),t⟩,0,0):=by
 obtain ⟨h1,h2,h3⟩:=Yf ht
 have hh:(t++rest).headD 0=t.headD 0:=by cases t with | nil=>exact (h2 rfl).elim | cons c r=>rfl
 have key:∀n,n<256→((UInt8.ofNat n=45∨Nr.dV (UInt8.ofNat n)=true)→blank (UInt8.ofNat n)=false∧Lib.indexByte [123,125,91,93,58,44] (UInt8.ofNat n)<0∧UInt8.ofNat n≠116∧UInt8.ofNat n≠102∧UInt8.ofNat n≠110∧UInt8.ofNat n≠34):=by decide +kernel
 have k:=key (t.headD 0).toNat (Ip _)
 rw [UInt8.ofNat_toNat] at k
 obtain ⟨k1,k2,k3,k4,k5,k6⟩:=k h3
 rw [Wv h ha (.inr (by rw [hh];exact k1))]
 unfold Wb
 simp only
 have hp:plain (t++rest)=none:=by
  unfold plain
  rw [hh,au (by omega)]
  cases t with
  | nil=>exact (h2 rfl).elim
  | cons c r =>
   rw [List.headD_cons] at k3 k4 k5
   simp [List.isPrefixOf,Ne.symm k3,Ne.symm k4,Ne.symm k5]
 have ht2:(t++rest).takeWhile VX=t:=(Nr.oa h1 (by
  rcases hd with hd | hd
  ·exact .inl hd
  ·right
   have e:rest.getD 0 0=rest.headD 0:=by cases rest <;> rfl
   rw [e]
   rcases hd with hd | hd | hd <;> rw [hd] <;> decide)).1
 rw [h,au (by simp [h2]),hp]
 simp only
 rw [hh,au k6,aw h3,ht2,au ht,au (by omega)]
 rfl
end Jp
end Go.Eng
set_option maxRecDepth 20000
namespace Go.Eng
open Go.IntWalk
namespace Jp
mutual
def V8:Mem→Nat
 | .mk _ k _ ks=>if k=6∨k=7 then VZ ks+1 else 0
def VZ:List Mem→Nat
 | []=>0
 | m :: r=>max (V8 m) (VZ r)
end
mutual
def ZJ:Mem→Nat
 | .mk _ _ _ ks=>1+Xf ks
def Xf:List Mem→Nat
 | []=>0
 | m :: r=>1+ZJ m+Xf r
end
theorem adv {s p q:bz} {a:Nat} (h:s.drop a=p++q) (ha:a≤s.length):s.drop (a+p.length)=q∧a+p.length≤s.length:=by
 have e:=congrArg List.length h
 simp only [aU,ao] at e
 exact ⟨by rw [←List.drop_drop,h,List.drop_left],by omega⟩
theorem ZH {s q:bz} {c:UInt8} {a:Nat} (h:s.drop a=c :: q) (ha:a≤s.length):s.drop (a+1)=q∧a+1≤s.length:=adv (p:=[c]) h ha
theorem V2 {s:bz} {a:Int} {t:Tok} (h:next s a=(t,0,0)):V7 s a = .ok t:=by unfold V7;rw [h,aw rfl]
theorem Wh {s r:bz} {a:Nat} {c:UInt8} (k:Int) (hb:blank c=false) (hk:Lib.indexByte [123,125,91,93,58,44] c=k) (h0:0≤k) (h:s.drop a=c :: r) (ha:a≤s.length):next s (a:Int)=(⟨2+k,a,((a+1:Nat):Int),[]⟩,0,0):=by
 rw [Wv h ha (.inr (by rw [List.headD_cons];exact hb)),W7 h (by simp) (Yk k hk h0)];rfl
theorem WS {s w r:bz} {a:Nat} (k:Int) (hb:blank (w.headD 0)=false) (hw:w≠[]) (hp:plain (w++r)=some (k,w.length)) (h:s.drop a=w++r) (ha:a≤s.length):next s (a:Int)=(⟨k,a,((a+w.length:Nat):Int),[]⟩,0,0):=by
 have hh:(w++r).headD 0=w.headD 0:=by cases w with | nil=>exact (hw rfl).elim | cons c q=>rfl
 rw [Wv h ha (.inr (by rw [hh];exact hb)),W7 h (by simp [hw]) hp];rfl
theorem V9 {t:bz} (h:fy.whole t=true):Cn.jx t=Cn.quote t:=by unfold Cn.jx;rw [h];rfl
theorem VL {A B:Type} (x:A) (f:A→Except E B):(Except.ok x:Except E A) >>= f=f x:=rfl
theorem Yd {nm t:bz} {k:Int} {ks:List Mem} (h:Cn.zO (.mk nm k t ks)=0):1≤k∧k≤7∧(k≠6→k≠7→ks=[])∧(k≠4→k≠5→t=[])∧(k=6→∀m∈ks,m.name=[])∧(k=4→Nr.iX t≠0∧t.length≤300)∧(k=5→fy.whole t=true)∧Cn.sY ks=0:=by
 rw [Cn.zO] at h
 by_cases c1:k<1∨7<k
 ·rw [aw c1] at h;simp at h
 rw [au c1] at h
 by_cases c2:ks≠[]∧k≠6∧k≠7
 ·rw [aw c2] at h;simp at h
 rw [au c2] at h
 by_cases c3:t≠[]∧k≠4∧k≠5
 ·rw [aw c3] at h;simp at h
 rw [au c3] at h
 by_cases c4:k=6∧(ks.any fun m=>!decide (m.name=[]))=true
 ·rw [aw c4] at h;simp at h
 rw [au c4] at h
 by_cases c5:k=4∧(Nr.iX t=0∨300<t.length)
 ·rw [aw c5] at h;simp at h
 rw [au c5] at h
 by_cases c6:k=5∧fy.whole t=false
 ·rw [aw c6] at h;simp at h
 rw [au c6] at h
 refine ⟨by omega,by omega,fun a b=>?_,fun a b=>?_,fun a m hm=>?_,fun a=>?_,fun a=>?_,h⟩
 ·by_cases e:ks=[]
  ·exact e
  ·exact (c2 ⟨e,a,b⟩).elim
 ·by_cases e:t=[]
  ·exact e
  ·exact (c3 ⟨e,a,b⟩).elim
 ·by_cases e:m.name=[]
  ·exact e
  ·exact (c4 ⟨a,List.any_eq_true.2 ⟨m,hm,by simp [e]⟩⟩).elim
 ·exact ⟨fun e=>c5 ⟨a,.inl e⟩,by by_cases e:t.length≤300;exact e;exact (c5 ⟨a,.inr (by omega)⟩).elim⟩
 ·cases e:fy.whole t with
  | true=>rfl
  | false=>exact (c6 ⟨a,e⟩).elim
theorem WY {m:Mem} {r:List Mem} (h:Cn.sY (m :: r)=0):fy.whole m.name=true∧Cn.zO m=0∧Cn.sY r=0:=by
 rw [Cn.sY] at h
 cases e:fy.whole m.name with
 | false=>rw [aw e] at h;simp at h
 | true =>
  rw [au (by simp [e])] at h
  by_cases c:Cn.zO m≠0
  ·rw [aw c] at h;exact (c h).elim
  ·rw [au c] at h;exact ⟨rfl,Decidable.not_not.1 c,h⟩
def opn (o:Bool):UInt8:=cond o 123 91
def cls (o:Bool):UInt8:=cond o 125 93
def kd (o:Bool):Int:=cond o 2 4
theorem Wm (m:Mem):Mem.of m.name m.val=m:=by cases m;rfl
theorem Yr (o:Bool) (r:List Mem) (rest:bz):Zf (Cn.nu o false r++cls o :: rest):=by
 cases r with
 | nil=>cases o <;> simp [Cn.nu,Zf,cls]
 | cons m r=>exact .inr (.inl (by simp [Cn.nu]))
mutual
theorem W6 (s:bz) (d:Int):∀(m:Mem) (w:Int) (a:Nat) (rest:bz) (n:Nat),Cn.zO m=0→s.drop a=Cn.vw m++rest→a≤s.length→Zf rest→(V8 m:Int)+w≤d→ZJ m≤n →
  ∃t,next s (a:Int)=(t,0,0)∧t.kind≠3∧t.kind≠5∧value s d n t w = .ok (m.val,((a+(Cn.vw m).length:Nat):Int))
 | .mk nm k t ks,w,a,rest,0,_,_,_,_,_,hn=>by simp [ZJ] at hn
 | .mk nm k t ks,w,a,rest,n+1,hc,h,ha,hd,hw,hn=>by
  obtain ⟨k1,k7,O2,ht,Qe,h4,h5,xF⟩:=Yd hc
  have ev:(Mem.mk nm k t ks).val=⟨k,t,ks⟩:=rfl
  rw [ev]
  by_cases e6:k=6∨k=7
  ·obtain ⟨o,ho⟩:∃o:Bool,o=decide (k=7):=⟨_,rfl⟩
   have hk:k=if kd o=2 then 7 else 6:=by
    rcases e6 with e | e <;> subst e <;> subst ho <;> rfl
   have et:t=[]:=ht (by omega) (by omega)
   have eL:Cn.vw (.mk nm k t ks)=opn o :: (Cn.nu o true ks++[cls o]):=by
    rw [Cn.vw,au (by omega),au (by omega),au (by omega),au (by omega),au (by omega),←ho];rfl
   rw [eL] at h ⊢
   rw [List.cons_append] at h
   have q1:next s (a:Int)=(⟨kd o,a,((a+1:Nat):Int),[]⟩,0,0):=by
    cases o with
    | true=>exact Wh 0 (by decide) (by decide) (by decide) h ha
    | false=>exact Wh 2 (by decide) (by decide) (by decide) h ha
   obtain ⟨h',Z8⟩:=ZH h ha
   rw [V8,aw e6] at hw
   refine ⟨_,q1,show kd o≠3 by cases o <;> decide,show kd o≠5 by cases o <;> decide,?_⟩
   have hz:(kd o=2∨kd o=4)∧kd o≠12∧kd o≠11∧kd o≠10∧kd o≠9∧kd o≠8:=by cases o <;> decide
   obtain ⟨z1,z2,z3,z4,z5,z6⟩:=hz
   rw [value]
   simp only
   rw [au z2,au z3,au z4,au z5,au z6,aw z1,au (by omega),et,←hk]
   cases ks with
   | nil =>
    rw [Cn.nu,bq,List.singleton_append] at h'
    have q2:next s ((a+1:Nat):Int)=(⟨kd o+1,((a+1:Nat):Int),((a+1+1:Nat):Int),[]⟩,0,0):=by
     cases o with
     | true=>exact Wh 1 (by decide) (by decide) (by decide) h' Z8
     | false=>exact Wh 3 (by decide) (by decide) (by decide) h' Z8
    rw [V2 q2,VL,aw rfl]
    rfl
   | cons m r =>
    rw [aG,List.singleton_append] at h'
    simp only [ZJ] at hn
    obtain ⟨u,q2,q3,q4⟩:=Xt s d (m :: r) o (w+1) (a+1) rest n [] (by simp) xF (fun e=>Qe (by subst e;simpa [kd] using hk)) h' Z8 (by omega) (by omega)
    rw [V2 q2,VL]
    have q3':u.kind≠kd o+1:=by cases o <;> exact q3
    rw [au q3',q4,VL]
    simp only [bq,ay,ao,aB]
    rw [show a+1+(Cn.nu o true (m :: r)).length+1=a+((Cn.nu o true (m :: r)).length+(0+1)+1) by omega]
  ·have ZT:=O2 (by omega) (by omega)
   by_cases e4:k=4
   ·obtain ⟨l1,l2⟩:=h4 e4
    have eL:Cn.vw (.mk nm k t ks)=t:=by rw [Cn.vw,au (by omega),au (by omega),au (by omega),aw e4]
    rw [eL] at h ⊢
    refine ⟨_,Y6 l1 l2 hd h ha,by simp,by simp,?_⟩
    rw [value,au (by simp),au (by simp),au (by simp),aw rfl,ZT,e4]
   by_cases e5:k=5
   ·have hq:=h5 e5
    have eL:Cn.vw (.mk nm k t ks)=Cn.quote t:=by rw [Cn.vw,au (by omega),au (by omega),au (by omega),au e4,aw e5,V9 hq]
    rw [eL] at h ⊢
    refine ⟨_,X6 hq h ha,by simp,by simp,?_⟩
    rw [value,au (by simp),au (by simp),au (by simp),au (by simp),aw rfl,ZT,e5]
   have et:=ht e4 e5
   by_cases e1:k=1
   ·have eL:Cn.vw (.mk nm k t ks)=[110,117,108,108]:=by rw [Cn.vw,aw e1]
    rw [eL] at h ⊢
    refine ⟨_,WS 12 (by decide) (by simp) rfl h ha,by simp,by simp,?_⟩
    rw [value,aw rfl,ZT,et,e1]
   by_cases e2:k=2
   ·have eL:Cn.vw (.mk nm k t ks)=[102,97,108,115,101]:=by rw [Cn.vw,au e1,aw e2]
    rw [eL] at h ⊢
    refine ⟨_,WS 11 (by decide) (by simp) rfl h ha,by simp,by simp,?_⟩
    rw [value,au (by simp),aw rfl,ZT,et,e2]
   ·have e3:k=3:=by omega
    have eL:Cn.vw (.mk nm k t ks)=[116,114,117,101]:=by rw [Cn.vw,au e1,au e2,aw e3]
    rw [eL] at h ⊢
    refine ⟨_,WS 10 (by decide) (by simp) rfl h ha,by simp,by simp,?_⟩
    rw [value,au (by simp),au (by simp),aw rfl,ZT,et,e3]
theorem Xt (s:bz) (d:Int):∀(l:List Mem) (o:Bool) (w:Int) (a:Nat) (rest:bz) (n:Nat) (acc:List Mem),l≠[]→Cn.sY l=0→(o=false→∀m∈l,m.name=[])→s.drop a=Cn.nu o true l++cls o :: rest→a≤s.length→(VZ l:Int)+w≤d→Xf l≤n →
  ∃t,next s (a:Int)=(t,0,0)∧t.kind≠cond o 3 5∧loop s d n (kd o) t w acc = .ok (acc++l,((a+(Cn.nu o true l).length+1:Nat):Int))
 | [],_,_,_,_,_,_,h,_,_,_,_,_,_=>(h rfl).elim
 | m :: r,o,w,a,rest,0,acc,_,_,_,_,_,_,hn=>by simp [Xf] at hn
 | m :: r,o,w,a,rest,n+1,acc,_,hc,Qe,h,ha,hw,hn=>by
  obtain ⟨c1,c2,c3⟩:=WY hc
  simp only [Xf] at hn
  simp only [VZ] at hw
  have eL:∀f:Bool,Cn.nu o f (m :: r)=cond f [] [44]++(cond o (Cn.jx m.name++[58]) []++(Cn.vw m++Cn.nu o false r)):=fun f=>by rw [Cn.nu]
  have e0:Mem.of (if kd o=2 then m.name else []) m.val=m:=by
   cases o with
   | true=>exact Wm m
   | false=>rw [au (by decide)];rw [←Qe rfl m (List.mem_cons_self ..)];exact Wm m
  rw [eL,ai,bq] at h
  -- behind the name
  have tail:∀(b:Nat) (nt:Tok),nt.text=m.name∨o=false→s.drop b=Cn.vw m++(Cn.nu o false r++cls o :: rest)→b≤s.length →
    ∃u,next s (b:Int)=(u,0,0)∧u.kind≠3∧u.kind≠5∧(do
     let v ←value s d n u w
     let x ←V7 s v.2
     if x.kind=kd o+1 then .ok (acc++[Mem.of (if kd o=2 then nt.text else []) v.1],x.end_)
     else if x.kind≠7 then .error (Wr x)
     else do
      let y ←V7 s x.end_
      loop s d n (kd o) y w (acc++[Mem.of (if kd o=2 then nt.text else []) v.1]):Except E (List Mem × Int)) = .ok (acc++m :: r,((b+(Cn.vw m).length+(Cn.nu o false r).length+1:Nat):Int)):=by
   intro b nt OQ hb Fy
   have Mv:Mem.of (if kd o=2 then nt.text else []) m.val=m:=by
    rcases OQ with e | e
    ·rw [e];exact e0
    ·subst e;exact e0
   obtain ⟨u,u1,u2,u3,u4⟩:=W6 s d m w b _ n c2 hb Fy (Yr o r rest) (by omega) (by omega)
   refine ⟨u,u1,u2,u3,?_⟩
   rw [u4,VL]
   simp only [Mv]
   obtain ⟨kg,Y8⟩:=adv hb Fy
   cases r with
   | nil =>
    rw [Cn.nu,bq] at kg
    have q2:next s ((b+(Cn.vw m).length:Nat):Int)=(⟨kd o+1,((b+(Cn.vw m).length:Nat):Int),((b+(Cn.vw m).length+1:Nat):Int),[]⟩,0,0):=by
     cases o with
     | true=>exact Wh 1 (by decide) (by decide) (by decide) kg Y8
     | false=>exact Wh 3 (by decide) (by decide) (by decide) kg Y8
    rw [V2 q2,VL,aw rfl]
    rfl
   | cons m2 r2 =>
    have e2:Cn.nu o false (m2 :: r2)=44 :: Cn.nu o true (m2 :: r2):=by rw [Cn.nu,Cn.nu];rfl
    rw [e2,List.cons_append] at kg
    have q2:next s ((b+(Cn.vw m).length:Nat):Int)=(⟨7,((b+(Cn.vw m).length:Nat):Int),((b+(Cn.vw m).length+1:Nat):Int),[]⟩,0,0):=Wh 5 (by decide) (by decide) (by decide) kg Y8
    rw [V2 q2,VL,au (show ¬(7:Int)=kd o+1 by cases o <;> decide),au (by simp)]
    obtain ⟨GJ,Z7⟩:=ZH kg Y8
    obtain ⟨y,y1,_,y3⟩:=Xt s d (m2 :: r2) o w (b+(Cn.vw m).length+1) rest n (acc++[m]) (by simp) c3 (fun e x hx=>Qe e x (List.mem_cons_of_mem _ hx)) GJ Z7 (by omega) (by omega)
    simp only
    rw [V2 y1,VL,y3,e2,aG,ay]
    simp only [List.singleton_append]
    rw [show b+(Cn.vw m).length+1+(Cn.nu o true (m2 :: r2)).length+1=b+(Cn.vw m).length+((Cn.nu o true (m2 :: r2)).length+1)+1 by omega]
  cases o with
  | false =>
   rw [ae,bq,aG] at h
   obtain ⟨u,u1,u2,u3,u4⟩:=tail a ⟨0,0,0,[]⟩ (.inr rfl) h ha
   refine ⟨u,u1,u3,?_⟩
   rw [loop,au (by decide),VL]
   refine Eq.trans ?_ (u4.trans ?_)
   ·rfl
   ·rw [eL];simp only [ai,ae,bq,ao,Nat.add_assoc]
  | true =>
   rw [ai,V9 c1,aG,aG] at h
   have q1:=X6 c1 h ha
   obtain ⟨h2,ha2⟩:=adv h ha
   rw [aG,List.singleton_append] at h2
   have q2:next s ((a+(Cn.quote m.name).length:Nat):Int)=(⟨6,((a+(Cn.quote m.name).length:Nat):Int),((a+(Cn.quote m.name).length+1:Nat):Int),[]⟩,0,0):=Wh 4 (by decide) (by decide) (by decide) h2 ha2
   obtain ⟨h3,ha3⟩:=ZH h2 ha2
   obtain ⟨u,u1,u2,u3,u4⟩:=tail (a+(Cn.quote m.name).length+1) ⟨8,a,((a+(Cn.quote m.name).length:Nat):Int),m.name⟩ (.inl rfl) h3 ha3
   refine ⟨_,q1,by simp,?_⟩
   rw [loop,aw (by rfl),au (by simp),V2 q2,VL,au (by simp),V2 u1,VL]
   refine Eq.trans ?_ (u4.trans ?_)
   ·rfl
   ·rw [eL,V9 c1];simp only [ai,bq,ao,az,Nat.add_assoc]
end
end Jp
end Go.Eng
set_option maxRecDepth 20000
namespace Go.Eng
open Go.IntWalk
namespace Jp
mutual
theorem YM:∀m:Mem,Cn.zO m=0→ZJ m≤2 * (Cn.vw m).length
 | .mk nm k t ks,hc=>by
  obtain ⟨k1,k7,O2,ht,Qe,h4,h5,xF⟩:=Yd hc
  rw [ZJ]
  by_cases e6:k=6∨k=7
  ·have h:=X7 ks (decide (k=7)) true xF
   rw [Cn.vw,au (by omega),au (by omega),au (by omega),au (by omega),au (by omega)]
   simp only [ay,ao,aB];simp only [ai] at h;omega
  ·rw [O2 (by omega) (by omega),Xf,Cn.vw]
   split;simp
   split;simp
   split;simp
   split
   ·rename_i e
    have:=List.length_pos_iff.2 (Yf (h4 e).1).2.1
    omega
   split
   ·rename_i e
    rw [V9 (h5 e),Cn.quote,ay];omega
   ·rw [ay];omega
theorem X7:∀(l:List Mem) (o f:Bool),Cn.sY l=0→Xf l≤2 * (Cn.nu o f l).length+cond f 1 0
 | [],_,_,_=>by simp [Xf]
 | m :: r,o,f,hc=>by
  obtain ⟨c1,c2,c3⟩:=WY hc
  have h1:=YM m c2
  have h2:=X7 r o false c3
  rw [Xf,Cn.nu]
  simp only [ao,ae] at h2 ⊢
  cases f <;> simp only [ai,ae,aB,ay] <;> omega
end
theorem Yl (j:bM) (d:Int) (h:Cn.mE j=0) (h0:0≤d∧d≤1000) (hd:(V8 (Mem.of [] j):Int)≤d):parse (Cn.tJ j) d=(j,0,0):=by
 have hz:=YM (Mem.of [] j) h
 have e:(Cn.tJ j).drop 0=Cn.vw (Mem.of [] j)++[]:=by simp [Cn.tJ]
 have hl:(Cn.vw (Mem.of [] j)).length=(Cn.tJ j).length:=rfl
 obtain ⟨t,a1,_,_,a2⟩:=W6 (Cn.tJ j) d (Mem.of [] j) 0 0 [] (fuel (Cn.tJ j)) h e (by omega) (.inl rfl) (by omega) (by unfold fuel;omega)
 rw [Xr]
 unfold WV
 have a1:next (Cn.tJ j) 0=(t,0,0):=a1
 rw [au (by omega),V2 a1,VL,a2,VL,hl,Nat.zero_add]
 have q:next (Cn.tJ j) ((Cn.tJ j).length:Int)=(⟨1,((Cn.tJ j).length:Int),((Cn.tJ j).length:Int),[]⟩,0,0):=by
  rw [Wv (List.drop_length) (Nat.le_refl _) (.inl rfl)]
  unfold Wb
  simp only
  rw [aw List.drop_length]
 rw [V2 q,VL]
 rfl
end Jp
end Go.Eng
set_option maxRecDepth 20000
namespace Go.Eng
open Go.IntWalk
namespace Jp
def Xn (s:bz) (x:Except E (bM × Int)) (y:bM × R):Prop:=match x with
 | .ok (j,e)=>y=(j,next s e)∧0≤e
 | .error (e,a,t)=>e≠0∧y.2=(t,e,a)
def Ze (s:bz) (x:Except E (List Mem × Int)) (y:List Mem × R):Prop:=match x with
 | .ok (l,e)=>y=(l,next s e)∧0≤e
 | .error (e,a,t)=>e≠0∧y.2=(t,e,a)
theorem VU (s:bz) (a:Int) (h:0≤a):(∃t,next s a=(t,0,0)∧V7 s a = .ok t∧GS s a (t,0,0))∨(∃e x,e≠0∧next s a=(⟨0,0,0,[]⟩,e,x)∧V7 s a = .error (e,x,⟨0,0,0,[]⟩)):=by
 unfold V7
 rcases WG s a h with ⟨k1,k2⟩ | ⟨k1,k2,k3,k4,k5,k6⟩
 ·right
  refine ⟨(next s a).2.1,(next s a).2.2,k1,?_,?_⟩
  ·rw [←k2]
  ·rw [au k1,k2]
 ·left
  refine ⟨(next s a).1,?_,by rw [aw k1],.inr ⟨rfl,rfl,k3,(show (0:Int)≤(next s a).1.at_ by omega),k4,k5,k6⟩⟩
  exact Prod.ext rfl (Prod.ext k1 k2)
theorem VS {A B:Type} (e:E) (f:A→Except E B):(Except.error e:Except E A) >>= f = .error e:=rfl
theorem V1 (s:bz) (t:Tok):step s (t,0,0)=next s t.end_:=by unfold step;rw [aw rfl]
theorem Xl (t:Tok):V5 3 (t,0,0)=(t,(if t.kind=1 then 2 else 3),t.at_):=by unfold V5;rw [aw rfl]
theorem Zd (t:Tok):V5 8 (t,0,0)=(t,(if t.kind=1 then 2 else 8),t.at_):=by unfold V5;rw [aw rfl]
theorem Wu (t:Tok):(Wr t).1≠0:=by unfold Wr;simp only;split <;> decide
mutual
theorem Zi (s:bz) (d:Int):∀(n:Nat) (t:Tok) (w:Int),GS s 0 (t,0,0)→2 * (s.length - t.at_.toNat)+2≤n→Xn s (value s d n t w) (VY s d n (t,0,0) w)
 | 0,_,_,_,h=>by omega
 | n+1,t,w,hG,hn=>by
  have a0:=hG.VV rfl
  have he:0≤t.end_:=by rcases hG with h | ⟨_,_,_,h4,h5,_⟩;exact (h rfl).elim;exact Int.le_trans h4 h5
  rw [value,VY,V1]
  simp only
  by_cases k8:t.kind=8
  ·simp [k8,Xn,he]
  by_cases k9:t.kind=9
  ·simp [k9,Xn,he]
  by_cases Zz:t.kind=10
  ·simp [Zz,Xn,he]
  by_cases Zy:t.kind=11
  ·simp [Zy,Xn,he]
  by_cases Zx:t.kind=12
  ·simp [Zx,Xn,he]
  simp only [k8,k9,Zz,Zy,Zx,if_false]
  by_cases k2:t.kind=2∨t.kind=4
  ·rw [aw k2,aw k2]
   by_cases kd:d≤w
   ·rw [aw kd,aw kd]
    refine ⟨by decide,?_⟩
    show V5 8 (t,0,0)=_
    rw [Zd,au (by omega)]
   rw [au kd,au kd]
   have h1:=Wc hG.self (show t.kind≠1 by omega)
   rw [V1] at h1
   have eK:(if t.kind=4 then (6:Int) else 7)=if t.kind=2 then 7 else 6:=by
    rcases k2 with e | e <;> rw [e] <;> rfl
   rcases VU s t.end_ he with ⟨u,u1,u2,u3⟩ | ⟨e,x,e0,u1,u2⟩
   ·rw [u2,VL,u1]
    simp only [true_and]
    rw [u1] at h1
    have b1:=h1.VV rfl
    have b2:=u3.VV rfl
    simp only at b1 b2
    by_cases ku:u.kind=t.kind+1
    ·rw [aw ku,aw ku,V1,eK]
     exact ⟨rfl,by rcases h1 with h | ⟨_,_,_,h4,h5,_⟩;exact (h rfl).elim;exact Int.le_trans h4 h5⟩
    ·rw [au ku,au ku]
     have ih:=Zj s d n t.kind u (w+1) [] k2 (h1.le (by omega)) (by simp only at *;omega)
     rw [show w+1 - 1=w by omega] at ih
     unfold Ze at ih
     unfold Xn
     split at ih
     ·rename_i l e hl
      rw [hl,VL]
      simp only
      rw [ih.1,eK]
      exact ⟨rfl,ih.2⟩
     ·rename_i e a tt hl
      rw [hl,VS]
      exact ih
   ·rw [u2,VS,u1,au (by simp [e0])]
    have hnn:1≤n:=by omega
    rw [Wj s d hnn _ _ _ (show ((⟨0,0,0,[]⟩,e,x):R).2.1≠0 from e0)]
    exact ⟨e0,rfl⟩
  ·rw [au k2,au k2,Xl]
   exact ⟨Wu t,rfl⟩
theorem Zj (s:bz) (d:Int):∀(n:Nat) (k:Int) (t:Tok) (w:Int) (acc:List Mem),(k=2∨k=4)→GS s 0 (t,0,0)→2 * (s.length - t.at_.toNat)+3≤n→Ze s (loop s d n k t w acc) (VW s d n k (t,0,0) (w - 1) acc)
 | 0,_,_,_,_,_,_,h=>by omega
 | n+1,k,t,w,acc,hk,hG,hn=>by
  have a0:=hG.VV rfl
  have he:0≤t.end_:=by rcases hG with h | ⟨_,_,_,h4,h5,_⟩;exact (h rfl).elim;exact Int.le_trans h4 h5
  rw [loop,VW,V1]
  simp only
  rw [au (show ¬((0:Int)≠0) by decide),show w - 1+1=w by omega]
  -- behind the name
  have tail:∀(u:Tok) (nm:bz),GS s t.at_ (u,0,0)→Ze s (do
     let v ←value s d n u w
     let x ←V7 s v.2
     if x.kind=k+1 then .ok (acc++[Mem.of nm v.1],x.end_)
     else if x.kind≠7 then .error (Wr x)
     else do
      let y ←V7 s x.end_
      loop s d n k y w (acc++[Mem.of nm v.1]))
    (if (VY s d n (u,0,0) w).2.2.1=0∧(VY s d n (u,0,0) w).2.1.kind=k+1 then (acc++[Mem.of nm (VY s d n (u,0,0) w).1],step s (VY s d n (u,0,0) w).2)
     else if (VY s d n (u,0,0) w).2.1.kind≠7 then (acc++[Mem.of nm (VY s d n (u,0,0) w).1],V5 3 (VY s d n (u,0,0) w).2)
     else VW s d n k (step s (VY s d n (u,0,0) w).2) (w - 1) (acc++[Mem.of nm (VY s d n (u,0,0) w).1])):=by
   intro u nm uG
   have ua:=uG.VV rfl
   simp only at ua a0
   have ih:=Zi s d n u w (uG.le (by omega)) (by omega)
   have hV:=WN s d n (u,0,0) w _ uG
   generalize VY s d n (u,0,0) w=v at ih hV
   unfold Xn at ih
   split at ih
   ·rename_i j e hl
    obtain ⟨ih,ihe⟩:=ih
    rw [hl,VL]
    simp only
    subst ih
    simp only at hV ⊢
    rcases VU s e ihe with ⟨x,x1,x2,x3⟩ | ⟨er,y,e0,x1,x2⟩
    ·rw [x2,VL,x1]
     rw [x1] at hV
     have hx:0≤x.end_:=by rcases x3 with h | ⟨_,_,_,h4,h5,_⟩;exact (h rfl).elim;exact Int.le_trans h4 h5
     simp only [true_and]
     by_cases kx:x.kind=k+1
     ·rw [aw kx,aw kx,V1];exact ⟨rfl,hx⟩
     rw [au kx,au kx]
     by_cases k7:x.kind≠7
     ·rw [aw k7,aw k7,Xl];exact ⟨Wu x,rfl⟩
     have k7:=Decidable.not_not.1 k7
     rw [au (by simp [k7]),au (by simp [k7]),V1]
     have JF:=Wc hV (show x.kind≠1 by omega)
     rw [V1] at JF
     rcases VU s x.end_ hx with ⟨z,z1,z2,z3⟩ | ⟨er,y,e0,z1,z2⟩
     ·rw [z2,VL,z1]
      rw [z1] at JF
      have b:=JF.VV rfl
      simp only at b
      exact Zj s d n k z w _ hk (JF.le (by omega)) (by omega)
     ·rw [z2,VS,z1,Wj s d (by omega) _ _ _ (show ((⟨0,0,0,[]⟩,er,y):R).2.1≠0 from e0)]
      exact ⟨e0,rfl⟩
    ·rw [x2,VS,x1]
     simp only
     rw [au (by rintro ⟨w,_⟩;exact e0 w),aw (by decide),Xm (show ((⟨0,0,0,[]⟩,er,y):R).2.1≠0 from e0)]
     exact ⟨e0,rfl⟩
   ·rename_i er a tt hl
    obtain ⟨e0,e1⟩:=ih
    rw [hl,VS]
    have ne:v.2.2.1≠0:=by rw [e1];exact e0
    rw [au (by rintro ⟨w,_⟩;exact ne w)]
    unfold Ze
    split
    ·rename_i hq;cases hq
    ·rename_i e' a' t' hq
     cases hq
     refine ⟨e0,?_⟩
     split
     ·rw [Xm ne];exact e1
     ·rw [WT ne,Wj s d (by omega) _ _ _ ne];exact e1
  rcases hk with hk | hk
  ·subst hk
   simp only [if_true,true_and]
   by_cases k8:t.kind≠8
   ·rw [aw k8,aw k8,VS,Xl];exact ⟨Wu t,rfl⟩
   rw [au k8,au k8]
   have k8:=Decidable.not_not.1 k8
   rcases VU s t.end_ he with ⟨c,c1,c2,c3⟩ | ⟨er,y,e0,c1,c2⟩
   ·have hc:0≤c.end_:=by rcases c3 with h | ⟨_,_,_,h4,h5,_⟩;exact (h rfl).elim;exact Int.le_trans h4 h5
    have hS:=VP hG.self
    rw [V1,c1] at hS
    rw [c2,VL,c1,V1]
    simp only
    by_cases k6:c.kind≠6
    ·rw [aw k6,aw k6,VS,Xl];exact ⟨Wu c,rfl⟩
    rw [au k6,au k6]
    have Z9:=VP hS
    rw [V1] at Z9
    rcases VU s c.end_ hc with ⟨u,u1,u2,u3⟩ | ⟨er,y,e0,u1,u2⟩
    ·rw [u2,VL,u1]
     rw [u1] at Z9
     simp only
     rw [au (show ¬((0:Int)≠0) by decide)]
     exact tail u t.text Z9
    ·rw [u2,VS,u1,aw e0];exact ⟨e0,rfl⟩
   ·rw [c2,VS,VS,c1]
    simp only
    rw [aw (by decide),Xm (show ((⟨0,0,0,[]⟩,er,y):R).2.1≠0 from e0)]
    exact ⟨e0,rfl⟩
  ·subst hk
   simp only [show ¬((4:Int)=2) by decide,false_and,if_false]
   rw [VL]
   exact tail t [] hG.self
end
end Jp
theorem Vw.goal (s:bz) (d:Int) (hp:(decide (s.length≤1000000000000))=true):Vw.F s d=some [.ag (bM.cells (Jp.parse s d).1),.ag [.i .i64 (Jp.parse s d).2.1,.i .i64 (Jp.parse s d).2.2,.sl .is []]]:=by
 have hs:=ar hp
 refine Vw.bZ s d ?_
 intro v1 h1 v2 h2 v3 h3 v4 h4 v5 h5 v6 h6
 rw [bw (show (!(!decide (d<0)) || !decide (d<0))=true by cases decide (d<0) <;> rfl),bw (show (decide (d<0) || !decide (d<0))=true by cases decide (d<0) <;> rfl)]
 have e1:v1=decide (d<0∨1000<d):=by rw [h1,Bool.decide_or];cases decide (d<0) <;> rfl
 rw [e1,Jp.Xr]
 unfold Jp.WV
 by_cases c:d<0∨1000<d
 ·rw [aa c,ai,aw c];rfl
 rw [ab c,ae,au c]
 have es:Jp.step s (Rj.st ⟨s,d,0,0,0,[],0,0,[]⟩)=Jp.next s 0:=Jp.V1 s ⟨0,0,0,[]⟩
 have q2:v2=Rj.put ⟨s,d,0,0,0,[],0,0,[]⟩ (Jp.next s 0):=by rw [h2,es]
 subst q2
 have z1:∀σ,(Rj.put ⟨s,d,0,0,0,[],0,0,[]⟩ σ).err=σ.2.1:=fun _=>rfl
 have z2:∀σ,(Rj.put ⟨s,d,0,0,0,[],0,0,[]⟩ σ).Pw=σ.2.2:=fun _=>rfl
 have z3:∀σ,(Rj.put ⟨s,d,0,0,0,[],0,0,[]⟩ σ).path=[]:=fun _=>rfl
 have z4:∀σ,(Rj.put ⟨s,d,0,0,0,[],0,0,[]⟩ σ).s=s:=fun _=>rfl
 have z5:∀σ,(Rj.put ⟨s,d,0,0,0,[],0,0,[]⟩ σ).depth=d:=fun _=>rfl
 have z6:∀σ,(Rj.put ⟨s,d,0,0,0,[],0,0,[]⟩ σ).kind=σ.1.kind:=fun _=>rfl
 rw [bw (aa ⟨hs,rfl⟩),z1,z2,z3]
 rcases Jp.VU s 0 (by omega) with ⟨t,t1,t2,t3⟩ | ⟨er,y,e0,t1,t2⟩
 ·rw [t1] at h3 h4 ⊢
  rw [t2,Jp.VL,Wi,Wg,z4,z5] at *
  have ta:=t3.VV rfl
  simp only at ta
  have eV:Jp.rv s d (t,0,0) 0=Jp.VY s d (Jp.fuel s) (t,0,0) 0:=by
   rw [Jp.X9]
   exact Jp.WC s d _ _ _ _ t3 rfl (by unfold Jp.fg;simp only;omega) (by unfold Jp.fuel;simp only;omega)
  have rel:=Jp.Zi s d (Jp.fuel s) t 0 t3 (by unfold Jp.fuel;omega)
  rw [eV] at h3 h4
  obtain ⟨tt,_⟩:=Jp.Y4 t3 rfl
  have cc:(decide (s.length≤1000000000000∧([]:List Int)=[]∧(0:Int)=0∧(0:Int)=0∧d≤1000∧(0:Int)≤0∧(0:Int)≤1000)&&Jp.Wf s t)=true:=by
   rw [ah];exact ⟨aa ⟨hs,rfl,rfl,rfl,by omega,by omega,by omega⟩,tt⟩
  rw [aa rfl,aH,ae,bw cc]
  simp only [aR,bQ]
  generalize Jp.VY s d (Jp.fuel s) (t,0,0) 0=v at h3 h4 rel
  subst h3;subst h4
  rw [z1,z6] at h5
  rw [Wi,Wg] at h6
  rw [bw (aa (z3 _)),Vw.lp,Vw.lp,h6]
  unfold Jp.Xn at rel
  split at rel
  ·rename_i j e hl
   obtain ⟨rel,re⟩:=rel
   subst rel
   rw [hl,Jp.VL]
   simp only at h5 ⊢
   rcases Jp.VU s e re with ⟨x,x1,x2,x3⟩ | ⟨er,y,e0,x1,x2⟩
   ·rw [x2,Jp.VL,x1]
    rw [x1] at h5
    simp only [decide_true,ai] at h5
    by_cases k1:x.kind=1
    ·rw [h5,aa k1,aH,ae,z1,au (by simp [k1])];rfl
    ·have eb:Jp.V5 7 (x,0,0)=(x,7,x.at_):=by unfold Jp.V5;rw [aw rfl];simp only;rw [au k1]
     rw [h5,ab k1,aM,ai,eb,z1,z2,z3,aw k1];rfl
   ·rw [x2,Jp.VS,x1]
    rw [x1] at h5
    simp only [ab e0,ae] at h5
    rw [h5,ae,z1,z2,z3]
    simp only
    rw [ab e0];rfl
  ·rename_i er a tt hl
   obtain ⟨e0,e1⟩:=rel
   rw [hl,Jp.VS,e1]
   rw [e1] at h5
   simp only [ab e0,ae] at h5
   rw [h5,ae,z1,z2,z3]
   simp only
   rw [ab e0];rfl
 ·rw [t1,t2,Jp.VS]
  simp only
  rw [ab e0];rfl
end Go.Eng
set_option maxRecDepth 20000
namespace Go.Eng
open Go.IntWalk
theorem s4.ju (n:Nat) (j:bM) (hb:bM.bO j≤1099511627776) (hn:bM.bO j<n+1):∀(m i:Nat),i+m=j.kids.length→s4.l2 n (i:Int) j=some [.i .i64 (Cn.sY (j.kids.drop i))]
 | 0,i,hi=>by
  refine s4.iw _ _ _ ?_
  intro v1 h1 v2 h2 v3 h3 v4 h4
  rw [ab (by omega),ae,aE (by omega)]
  simp [Cn.sY]
 | m+1,i,hi=>by
  have hk:=nv j
  have hlen:=np j.kids
  refine s4.iw _ _ _ ?_
  intro v1 h1 v2 h2 v3 h3 v4 h4
  rw [aj] at h2
  have hf:=zo (l:=j.kids) (i:=i) (by omega) (fe.gk .ml)
  rw [←h2] at hf
  have hv:=vn v2
  have Qe:=xc v2
  have e4:v4=((i+1:Nat):Int):=by rw [h4,i64_in _ (by omega)];omega
  have cc:((decide (bM.bO (Mem.val v2)≤1099511627776))&&decide ((bM.bO (Mem.val v2))<n))=true:=by
   rw [ah];exact ⟨aa (by omega),aa (by omega)⟩
  have hi':bB (i:Int) j.kids.length=true:=bK (by omega) (by omega)
  rw [aa (by omega),ai,hi',bQ,bw (aa (by omega)),bQ,cc,bQ,e4,s4.ju n j hb hn m (i+1) (by omega),drop_cons (l:=j.kids) (i:=i) (by omega) (fe.gk .ml),←h2,h3]
  simp only [Cn.sY]
  rw [EO]
  cases hw:fy.whole v2.name with
  | false=>rw [aw rfl];rfl
  | true =>
   rw [au (by simp),aH,ae]
   by_cases c:Cn.mE v2.val=0
   ·rw [aa c,aH,ae,au (by simp [c])]
   ·rw [ab c,aM,ai,aw c]
theorem s4.cW (n:Nat) (j:bM) (hb:bM.bO j≤1099511627776) (hn:bM.bO j<n+1):∀(m i:Nat),i+m=j.kids.length →
  s4.l1 n (i:Int) j=some [.i .i64 (if j.kind=6∧((j.kids.drop i).any fun m=>!decide (m.name=[]))=true then 1
   else if j.kind=4∧(Nr.iX j.text=0∨300<j.text.length) then 10
   else if j.kind=5∧fy.whole j.text=false then 4
   else Cn.sY j.kids)]:=by
 have hk:=nv j
 have hlen:=np j.kids
 -- where the names end
 have fin:∀(i:Nat),(j.kind=6→j.kids.length≤i)→s4.l1 n (i:Int) j=some [.i .i64 (if j.kind=4∧(Nr.iX j.text=0∨300<j.text.length) then 10
   else if j.kind=5∧fy.whole j.text=false then 4
   else Cn.sY j.kids)]:=by
  intro i hi
  refine s4.bV _ _ _ ?_
  intro v1 h1 v2 h2 v3 h3 v4 h4 v5 h5 v6 h6 v7 h7 v8 h8 v9 h9 v10 iA
  have e2:v2=false:=by
   rw [h2]
   by_cases k:j.kind=6
   ·rw [ab (by have:=hi k;omega)];rfl
   ·rw [ab k];cases decide ((i:Int)<v1) <;> rfl
  have ct:decide (j.text.length≤1099511627776)=true:=aa (by omega)
  have ca:∀a:Bool,(!a || (a&&true))=true:=by decide
  have c8:(!(decide (j.kind=4)) || ((decide (j.kind=4))&&((decide (Nr.iX j.text=0)) || v5)))=true:=by
   rw [h5];cases decide (j.kind=4) <;> cases decide (Nr.iX j.text=0) <;> rfl
  have e8:v8=decide (j.kind=4∧(Nr.iX j.text=0∨300<j.text.length)):=by
   have e6:decide ((300:Int)<v6)=decide (300<j.text.length):=aZ.2 (by omega)
   rw [h8,h7,e6,Bool.decide_and,Bool.decide_or]
   cases decide (j.kind=4) <;> cases decide (Nr.iX j.text=0) <;> rfl
  have xX:v10=decide (j.kind=5∧fy.whole j.text=false):=by
   rw [iA,h9,Bool.decide_and];cases decide (j.kind=5) <;> cases fy.whole j.text <;> rfl
  rw [ct,e2,bw (iJ _),bw (iJ _),bw (iJ _),ae,bw (iJ _),bw (ca _),bw (iJ _),bw (iJ _),bw (iJ _),bw (iJ _),bw (iJ _),bw c8,bw (iJ _),e8]
  by_cases k1:j.kind=4∧(Nr.iX j.text=0∨300<j.text.length)
  ·rw [aa k1,ai,aw k1]
  rw [ab k1,ae,au k1,bw (iJ _),bw (ca _),bw (iJ _),bw (iJ _),xX]
  by_cases k2:j.kind=5∧fy.whole j.text=false
  ·rw [aa k2,ai,aw k2]
  rw [ab k2,ae,au k2]
  exact s4.ju n j hb hn j.kids.length 0 (by omega)
 intro m
 induction m with
 | zero =>
  intro i hi
  refine (fin i (fun _=>by omega)).trans ?_
  rw [au (show ¬(j.kind=6∧((j.kids.drop i).any fun m=>!decide (m.name=[]))=true) by rw [aE (by omega)];simp)]
 | succ m ih =>
  intro i hi
  by_cases k:j.kind=6
  ·have ih:=ih (i+1) (by omega)
   refine s4.bV _ _ _ ?_
   intro v1 h1 v2 h2 v3 h3 v4 h4 v5 h5 v6 h6 v7 h7 v8 h8 v9 h9 v10 iA
   rw [aj] at h3
   have e4:v4=((i+1:Nat):Int):=by rw [h4,i64_in _ (by omega)];omega
   have e2:v2=true:=by rw [h2,aa (by omega),aa k];rfl
   rw [bw (iJ _),bw (iJ _),bw (iJ _),e2,ai,bw (bK (by omega) (by omega)),e4,ih,drop_cons (l:=j.kids) (i:=i) (by omega) (fe.gk .ml),←h3,List.any_cons]
   by_cases k2:v3.name=[]
   ·rw [aa k2,aH,ae,Bool.false_or]
   ·rw [ab k2,aM,ai,Bool.true_or,aw ⟨k,rfl⟩]
  ·refine (fin i (fun e=>(k e).elim)).trans ?_
   rw [au (show ¬(j.kind=6∧((j.kids.drop i).any fun m=>!decide (m.name=[]))=true) by rintro ⟨e,_⟩;exact k e)]
theorem s4.goal (n:Nat) (j:bM) (hp:((decide (bM.bO j≤1099511627776))&&decide ((bM.bO j)<n+1))=true):s4.F n j=some [.i .i64 (Cn.mE j)]:=by
 rw [ah] at hp
 have hb:=ar hp.1
 have hn:=ar hp.2
 refine s4.bZ _ _ ?_
 intro v1 h1 v2 h2 v3 h3 v4 h4 v5 h5 v6 h6 v7 h7 v8 h8
 have e3:v3=decide (j.kind<1∨7<j.kind):=by rw [h3,Bool.decide_or];cases decide (j.kind<1) <;> rfl
 have e5:v5=decide (j.kids≠[]∧j.kind≠6∧j.kind≠7):=by
  have:decide ((0:Int)<v4)=decide (j.kids≠[]):=aZ.2 (by rw [h4];exact ⟨fun h e=>by rw [e] at h;exact absurd h (by simp),fun h=>by have:=List.length_pos_iff.2 h;omega⟩)
  rw [h5,h2,this,Bool.decide_and,Bool.decide_and]
  simp only [ne_eq,decide_not]
  cases decide (j.kids=[]) <;> cases decide (j.kind=6) <;> cases decide (j.kind=7) <;> rfl
 have e7:v7=decide (j.text≠[]∧j.kind≠4∧j.kind≠5):=by
  rw [h7,h1,Bool.decide_and,Bool.decide_and]
  simp only [ne_eq,decide_not]
  cases decide (j.text=[]) <;> cases decide (j.kind=4) <;> cases decide (j.kind=5) <;> rfl
 have key:=s4.cW n j hb hn j.kids.length 0 (by omega)
 have d1':(!(!v3) || (!v3&&(!(!v2) || (!v3&&!v2))))=true:=by cases v3 <;> cases v2 <;> rfl
 have d2:∀a:Bool,(!(!a) || !a)=true:=by decide
 have d3:(!(!(cond v3 true v5)) || (!(cond v3 true v5)&&(!(!v1) || v6)))=true:=by rw [h6];cases (cond v3 true v5) <;> cases v1 <;> rfl
 simp only [aR,bm,aY,bQ,d1',d3,iJ,H4,d2]
 have e8:v8=(decide (j.kind<1∨7<j.kind) || (decide (j.kids≠[]∧j.kind≠6∧j.kind≠7) || decide (j.text≠[]∧j.kind≠4∧j.kind≠5))):=by
  rw [h8,e3,e5,e7]
  cases decide (j.kind<1∨7<j.kind) <;> cases decide (j.kids≠[]∧j.kind≠6∧j.kind≠7) <;> rfl
 simp only [Cn.mE,Mem.of,Cn.zO]
 rw [e8]
 by_cases k1:j.kind<1∨7<j.kind
 ·rw [aa k1,Bool.true_or,ai,aw k1]
 rw [ab k1,Bool.false_or,au k1]
 by_cases k2:j.kids≠[]∧j.kind≠6∧j.kind≠7
 ·rw [aa k2,Bool.true_or,ai,aw k2]
 rw [ab k2,Bool.false_or,au k2]
 by_cases k3:j.text≠[]∧j.kind≠4∧j.kind≠5
 ·rw [aa k3,ai,aw k3]
 rw [ab k3,ae,au k3]
 exact key
end Go.Eng
set_option maxRecDepth 20000
namespace Go.Eng
open Go.Proofs
theorem dt.ok:bA PG cnGl 253 (dt.c,dt.sg):=meets bG all_nil dt.h (fits fun ins=>by unfold dt.c;split;exact dt.goal _;trivial)
end Go.Eng
namespace Go.Eng
open Go.RowKit Go.Proofs
set_option maxRecDepth 100000
set_option maxHeartbeats 1000000
theorem Fl.C6 (a:Nat):Ieee.double.read (Fl.neg a)=(Ieee.double.read a).opposite:=by
 have e1:Fl.neg a % 2 ^ 63=a % 2 ^ 63:=by
  unfold Fl.neg
  rw [show 9223372036854775808=2 ^ 63 by decide,Nat.xor_mod_two_pow,Nat.mod_self,Nat.xor_zero]
 have e2:(Fl.neg a / 2 ^ 63 % 2 == 1)=!(a / 2 ^ 63 % 2 == 1):=by
  unfold Fl.neg
  rw [show 9223372036854775808=2 ^ 63 by decide,Nat.xor_div_two_pow,Nat.div_self (by decide)]
  have:=Nat.xor_mod_two_pow (a:=a / 2 ^ 63) (b:=1) (n:=1)
  rw [Nat.pow_one] at this
  rw [this]
  rcases Nat.mod_two_eq_zero_or_one (a / 2 ^ 63) with e | e <;> rw [e] <;> rfl
 have h:Ieee.double.signWeight=2 ^ 63:=rfl
 unfold Ieee.Format.read
 rw [h]
 simp only [e1,e2]
 split
 ·rfl
 ·split
  ·rfl
  ·split <;> rfl
theorem Fl.W.neg {a:Nat} {x:Int} (h:Fl.W a x):Fl.W (Fl.neg a) (-x):=by
 show Fl.WD (Ieee.double.read (Fl.neg a)) (-x)
 rw [Fl.C6]
 exact Fl.WD.opposite h
theorem Cu {R:Reach} {w:World} {x:Nat} (hx:Fl.num x=true) (hR:∀b o,R b o→b<w.heap.size) (hG:GlOK cnGl R w) :
  Calls Tryz.prog 253 #[.float .f64 x] w fun e w'=>e = .returned (.float .f64 (Fl.jW x))∧Below w.heap.size w w':=by
 refine ((dt.ok [.c (.float .f64 x)] [.c (.float .f64 (Fl.jW x))] ⟨hx,rfl⟩).2 w R [.float .f64 x] hR hG ⟨rfl,fun i y v hy hv=>?_⟩ fun i j v v' b hi=>(hi (by simp [dt.sg])).elim).mono ?_
 ·cases i with
  | zero=>cases hy;cases hv;exact .sc rfl
  | succ i=>simp at hy
 ·rintro e w' ⟨y,R',kY,ys,rfl,hx,hr,ho⟩
  refine ⟨?_,hx.os,hx.tape,hx.output,hx.size,fun k hk=>hx.heap k hk (by rintro ⟨i,v,hm,_⟩;exact hm (by simp [dt.sg]))⟩
  congr 1
  have hl:kY.length=1:=ho.len
  have jl:=ho.rep
  rw [ho.val]
  match kY,hl with
  | [y],_ =>
   have jl:iB R' w' [.c (.float .f64 (Fl.jW x))] [y]:=jl
   cases jl with
   | cons a _=>exact a.of_val rfl
theorem PT {R:Reach} (b:Nat) (x m:Nat) (X M:Int) (w:World) (hc:w.cell? ⟨b,0,none⟩=some (.float .f64 m)) (hX:Fl.W x X) (hM:Fl.W m M) (UX:(X.natAbs:Int)≤M) (hB:M≤9007199254740992) (hR:∀b o,R b o→b<w.heap.size) (hG:GlOK cnGl R w) :
  Calls Tryz.prog 255 #[.float .f64 x,.pointer (some ⟨b,0,none⟩)] w fun e w'=>e = .returned (.bool true)∧Below w.heap.size w w':=by
 have hn:∀w:World,(Op.unary .neg (.float .f64 m)).run Tryz.prog w = .ok (.float .f64 (Fl.neg m)) w:=fun w=>rfl
 have h1:FloatKind.f64.format.order x (Fl.neg m)=some .gt∨FloatKind.f64.format.order x (Fl.neg m)=some .eq:=by
  have e:FloatKind.f64.format.order x (Fl.neg m)=some (compare X (-M)):=Fl.jr hX hM.neg
  rw [e]
  rcases Int.lt_or_eq_of_le (show -M≤X by omega) with c | c
  ·rw [Int.compare_eq_gt.2 c];exact .inl rfl
  ·rw [←c,Int.compare_eq_eq.2 rfl];exact .inr rfl
 have h2:FloatKind.f64.format.order x m=some .lt∨FloatKind.f64.format.order x m=some .eq:=by
  have e:FloatKind.f64.format.order x m=some (compare X M):=Fl.jr hX hM
  rw [e]
  rcases Int.lt_or_eq_of_le (show X≤M by omega) with c | c
  ·rw [Int.compare_eq_lt.2 c];exact .inl rfl
  ·rw [←c,Int.compare_eq_eq.2 rfl];exact .inr rfl
 have h3:FloatKind.f64.format.order x (Fl.jW x)=some .eq:=by
  have e:FloatKind.f64.format.order x (Fl.jW x)=some (compare X X):=Fl.jr hX (hX.jW (by omega))
  rw [e,Int.compare_eq_eq.2 rfl]
 go_enter Tryz.func255,Tryz.ntmps255
 rcases h1 with h1 | h1 <;> rcases h2 with h2 | h2
 all_goals
  go_wp2_with (go_at_call 253;refine (Cu hX.num hR hG).mono ?_;rintro e w' ⟨rfl,hb⟩)
  go_ret
  exact ⟨rfl,hb⟩
theorem xL {R:Reach} {w w':World} (hR:∀b o,R b o→b<w.heap.size) (h:Below w.heap.size w w') (hG:GlOK cnGl R w):GlOK cnGl R w':=hG.dB (uR (io:=fun _=>False) hR h).dB
theorem RM {R:Reach} (z:Cx) (m:Nat) (X Y M:Int) (w:World) (hZ:Gz.Is z X Y) (hM:Fl.W m M) (hX:(X.natAbs:Int)≤M) (hY:(Y.natAbs:Int)≤M) (hB:M≤9007199254740992) (hR:∀b o,R b o→b<w.heap.size) (hG:GlOK cnGl R w) :
  Calls Tryz.prog 249 #[.complex .f64 z.1 z.2,.float .f64 m] w fun e w'=>e = .returned (.bool true)∧Below w.heap.size w w':=by
 have UQ:∀(fn:Fn) (first cap:Array Value) (w:World),(Instr.makeFunc fn first cap).run Tryz.prog w = .ok (.func fn first cap) w:=fun _ _ _ _=>rfl
 have HS:Below w.heap.size w (w.alloc (.cells #[.float .f64 m] 269)):=(Below.refl _ _).alloc (Nat.le_refl _) _
 have HR:(w.alloc (.cells #[.float .f64 m] 269)).cell? ⟨w.heap.size,0,none⟩=some (.float .f64 m):=by
  rw [World.cell?_alloc_at _ _ _ _ rfl];rfl
 have Jh:(w.alloc (.cells #[.float .f64 m] 269)).heap.size=w.heap.size+1:=Array.size_push ..
 have UL:∀(a:Array TypeId) (b:TypeId) (p q:Nat) (w:World),(Builtin.real_ a b #[.complex .f64 p q]).run Tryz.prog w = .ok (.float .f64 p) w:=fun _ _ _ _ _=>rfl
 have US:∀(a:Array TypeId) (b:TypeId) (p q:Nat) (w:World),(Builtin.imag_ a b #[.complex .f64 p q]).run Tryz.prog w = .ok (.float .f64 q) w:=fun _ _ _ _ _=>rfl
 have Pk:∀b o,R b o→b<(w.alloc (.cells #[.float .f64 m] 269)).heap.size:=fun b o h=>by have:=hR b o h;omega
 go_enter Tryz.func249,Tryz.ntmps249
 have QM:=xL hR HS hG
 go_wp2_with (go_at_call 255;refine (PT (R:=R) w.heap.size z.1 m X M (w.alloc (.cells #[.float .f64 m] 269)) HR hZ.1 hM hX hB Pk QM).mono ?O3;rintro e w2 ⟨rfl,GJ⟩)
 have Fx:w2.cell? ⟨w.heap.size,0,none⟩=some (.float .f64 m):=by
  simp only [World.cell?,GJ.block w.heap.size (by omega)]
  exact HR
 have Td:∀b o,R b o→b<w2.heap.size:=fun b o h=>Nat.lt_of_lt_of_le (Pk b o h) GJ.size
 refine (PT (R:=R) w.heap.size z.2 m Y M w2 Fx hZ.2 hM hY hB Td (xL Pk GJ QM)).mono ?_
 rintro e w3 ⟨rfl,KN⟩
 go_wp2
 go_ret
 refine ⟨rfl,?_⟩
 exact ⟨KN.os.trans (GJ.os.trans HS.os),KN.tape.trans (GJ.tape.trans HS.tape),KN.output.trans (GJ.output.trans HS.output),by have:=KN.size;have:=GJ.size;omega,fun k hk=>(KN.block k (by have:=GJ.size;omega)).trans ((GJ.block k (by omega)).trans (HS.block k hk))⟩
theorem gT.ok:bA PG cnGl 249 (gT.c,gT.sg):=gY (by kernel_rfl) fun ti nI w R xs hc ha hR hG=>by
 unfold gT.c at hc
 split at hc
 ·rename_i p q m
  obtain ⟨hp,rfl⟩:=hc
  obtain rfl:=jd ha rfl
  unfold Gz.I7 at hp
  classical
  obtain ⟨X,Y,M,h1,h2,h3,h4,h5⟩:=ar hp
  refine (RM (p,q) m X Y M w h1 h2 h3 h4 h5 hR hG).mono ?_
  rintro e w' ⟨rfl,hb⟩
  exact ⟨_,rfl,hb,fun R w'=>mZ (.sc rfl)⟩
 ·exact hc.elim
end Go.Eng
set_option maxRecDepth 20000
namespace Go.Eng
open Go.IntWalk
theorem cH.goal (s:bz) (c:UInt8):cH.F s c=some [.i .i64 (Lib.indexByte s c)]:=cH.eJ s c
theorem fi.goal (s t:bz) (hp:decide (t.length=1)=true):fi.F s t=some [.i .i64 (Lib.indexByte s (t.getD 0 0))]:=by
 have hl:t.length=1:=ar hp
 refine fi.bZ s t ?_
 intro v1 h1 v2 h2
 have e0:decide ((t.length:Int)=0)=false:=ab (by omega)
 have e1:decide ((t.length:Int)=1)=true:=aa (by omega)
 rw [e0] at h1 ⊢
 simp only [aM,aH,Bool.false_or,aY,bQ,ae] at h1 ⊢
 by_cases hs:t=s
 ·subst hs
  rw [h1,aa rfl,ai]
  obtain ⟨c,rfl⟩:∃c,t=[c]:=by
   match t,hl with
   | [c],_=>exact ⟨c,rfl⟩
  simp [Lib.indexByte]
 ·rw [h1,ab hs,ae,e1,ai,bw (bK (by omega) (by omega)),h2];rfl
theorem fh.goal (s t:bz) (hp:decide (t.length=1)=true):fh.F s t=some [.i .i64 (Lib.indexByte s (t.getD 0 0))]:=by
 refine fh.bZ s t ?_
 intro v1 h1
 rw [bw hp,h1]
theorem dv.goal (s t:bz) (hp:decide (t.length=1)=true):dv.F s t=some [.b (decide (0≤Lib.indexByte s (t.getD 0 0)))]:=by
 refine dv.bZ s t ?_
 intro v1 h1
 rw [bw hp,h1]
theorem dY.goal (k:Int):dY.F k=some [.s (Tree.name k)]:=by
 refine dY.bZ k ?_
 intro v1 h1 v2 h2
 unfold Tree.name
 by_cases a:k=127
 ·rw [aw a,aa a];rfl
 ·rw [au a,ab a,ae]
  by_cases b:k=255
  ·rw [aw b,aa b];rfl
  ·rw [au b,ab b,ae]
   simp only [aR,bm,bQ]
   by_cases c:k<0∨20≤k
   ·rw [aw c,show v1=true by rw [h1];by_cases d:k<0 <;> simp [d];omega];rfl
   ·rw [au c,show v1=false by rw [h1];by_cases d:k<0 <;> simp [d] <;> omega,ae,bw (bK (by omega) (by omega)),bw (by simp;omega),h2];rfl
theorem Vz.goal:Vz.F=some [.sl .is Tree.kinds]:=by
 refine Vz.bZ ?_
 intro v1 h1
 rw [h1];rfl
def W8 (k:Int):List Int→List bz→bz
 | a :: ks,s :: ss=>if a=k then s else W8 k ks ss
 | _,_=>[]
theorem Vo.cW (k:Int) (ss:List bz) (ks:List Int) (hl:ss.length=ks.length) (hb:ks.length≤1000):∀(m i:Nat),i+m=ks.length→Vo.l1 k ss ks i=some [.s (W8 k (ks.drop i) (ss.drop i))]:=by
 intro m
 induction m with
 | zero =>
  intro i hi
  refine Vo.bV _ _ _ _ ?_
  intro v1 h1 v2 h2 v3 h3
  rw [ab (by omega),ae,aE (by omega)];rfl
 | succ m ih =>
  intro i hi
  refine Vo.bV _ _ _ _ ?_
  intro v1 h1 v2 h2 v3 h3
  rw [aj] at h1 h2
  rw [aa (by omega),ai,bw (bK (by omega) (by omega)),drop_cons (l:=ks) (i:=i) (by omega) 0,drop_cons (l:=ss) (i:=i) (by omega) [],W8,←h1,←h2]
  by_cases h:v1=k
  ·rw [aw h,aa h,ai,bw (bK (by omega) (by omega)),bw (aa (by omega))]
  ·rw [au h,ab h,ae,show v3=((i+1:Nat):Int) by rw [h3,i64_in _ (by omega)];omega,ih _ (by omega)]
theorem Tree.Yn (k:Int) (h:k ∉ Tree.kinds):Tree.name k=[]:=by
 simp only [Tree.kinds,aO,List.not_mem_nil,not_or] at h
 unfold Tree.name
 rw [au (by omega),au (by omega)]
 by_cases c:k<0∨20≤k
 ·rw [aw c]
 ·have:k=0:=by omega
  subst this
  rfl
theorem WU (k:Int):∀(ks:List Int) (ss:List bz),k ∉ ks→W8 k ks ss=[]
 | [],_,_=>rfl
 | _ :: _,[],_=>rfl
 | a :: ks,s :: ss,h=>by
  rw [W8,au (fun e=>h (by rw [e];exact List.mem_cons_self ..))]
  exact WU k ks ss fun hm=>h (List.mem_cons_of_mem _ hm)
theorem Vo.goal (k:Int):Vo.F k=some [.s (Tree.name k)]:=by
 refine Vo.bZ k ?_
 intro v1 h1
 rw [show (0:Int)=((0:Nat):Int) from rfl,Vo.cW k v1 Tree.kinds (by rw [h1];rfl) (by decide) 21 0 (by decide)]
 by_cases h:k∈Tree.kinds
 ·have key:∀k∈Tree.kinds,W8 k (Tree.kinds.drop 0) (v1.drop 0)=Tree.name k:=by rw [h1];decide +kernel
  rw [key k h]
 ·rw [Tree.Yn k h,WU _ _ _ (by simpa using h)]
theorem pd.goal (k:Int):pd.F k=some [.b (Tree.xH 0 k),.b (Tree.xH 1 k),.b (Tree.xH 2 k),.b (Tree.xH 3 k),.b (Tree.xH 4 k),.b (Tree.xH 5 k),.b (Tree.xH 6 k)]:=by
 have key:∀k,k∈Tree.kinds∨k ∉ Tree.kinds:=fun k=>Decidable.em _
 simp only [pd.eJ,pd.lp,pd.jZ,pd.LC,pd.uy,Tree.xH]
 by_cases a1:k=1
 ·subst a1;rfl
 by_cases a2:k=2
 ·subst a2;rfl
 by_cases a3:k=3
 ·subst a3;rfl
 by_cases a4:k=4
 ·subst a4;rfl
 by_cases a5:k=5
 ·subst a5;rfl
 by_cases a7:k=7
 ·subst a7;rfl
 by_cases a8:k=8
 ·subst a8;rfl
 by_cases a9:k=9
 ·subst a9;rfl
 by_cases Rg:k=11
 ·subst Rg;rfl
 by_cases a12:k=12
 ·subst a12;rfl
 by_cases Rf:k=13
 ·subst Rf;rfl
 by_cases Re:k=14
 ·subst Re;rfl
 by_cases Rd:k=15
 ·subst Rd;rfl
 by_cases Rc:k=16
 ·subst Rc;rfl
 by_cases Rb:k=17
 ·subst Rb;rfl
 by_cases Ra:k=18
 ·subst Ra;rfl
 by_cases Q9:k=19
 ·subst Q9;rfl
 simp [a1,a2,a3,a4,a5,a7,a8,a9,Rg,a12,Rf,Re,Rd,Rc,Rb,Ra,Q9]
end Go.Eng
set_option maxRecDepth 20000
namespace Go.Eng
open Go.IntWalk
theorem kQ (c:UInt8):∀s:bz,decide (0≤Lib.indexByte s c)=s.contains c
 | []=>by simp [Lib.indexByte]
 | b :: l=>by
  have ih:=kQ c l
  have D0:=Lib.indexByte_ge l c
  rw [List.contains_cons,←ih]
  rw [Lib.indexByte]
  by_cases h:b=c
  ·subst h;simp
  ·rw [au (by simpa using h),show (c == b)=false by rw [beq_eq_false_iff_ne];exact fun e=>h e.symm,Bool.false_or]
   by_cases h1:Lib.indexByte l c=-1
   ·rw [h1];rfl
   ·rw [au (by simpa using h1),aa (by omega),aa (by omega)]
theorem dG.goal (s:bz) (plain:Bool) (hp:decide (s.length≤1099511627776)=true):dG.F s plain=some [.b (Tree.gH s plain)]:=by
 have e:decide (0≤Lib.indexByte s (([0]:bz).getD 0 0))=fy.zero s:=kQ 0 s
 refine dG.bZ s plain ?_
 intro v1 h1 v2 h2
 rw [bw (AY (ar hp)),bw hp]
 rw [e] at h1
 subst h1 h2
 unfold Tree.gH
 cases fy.whole s <;> cases plain <;> cases fy.zero s <;> rfl
theorem bx.goal (v:Val):bx.F v=some [.b (Tree.j7 v)]:=by
 have J2:∀(x:Bool) (v:Val),bx.j2 x v=some [.b (x&&decide (v.bits=0)&&decide (v.high=0)&&decide (v.low=0)&&decide (v.text=[])&&decide (v.more=[])&&decide (v.sub=0)&&decide (v.bytes=[])&&decide (v.kids=[]))]:=by
  intro x v
  refine bx.jg x v ?_
  intro v1 h1 v2 h2 v3 h3 v4 h4 v5 h5 v6 h6 v7 h7 v8 h8 v9 h9 v10 iA
  simp only [aR,bQ]
  have e1:decide (v7=0)=decide (v.bytes=[]):=by rw [h7,aQ];simp
  have e2:decide (v9=0)=decide (v.kids=[]):=by rw [h9,aQ];simp
  rw [e1] at h8
  rw [e2] at iA
  subst h1 h2 h3 h4 h5 h6 h8 iA
  simp only [Bool.cond_false_right]
 have J3:∀(x0:Bool) (x1:Int) (x2:Bool) (x3:Val),bx.j3 x0 x1 x2 x3=cond x2
  (bx.j2 x0 (Val.mk (Val.kind x3) (Val.bits x3) (Val.high x3) (Val.low x3) ([]:bz) (Val.more x3) (Val.sub x3) (Val.bytes x3) (Val.kids x3)))
  (cond (decide (x1=(11:Int)))
  (bx.j2 x0 (Val.mk (Val.kind x3) (Val.bits x3) (Val.high x3) (Val.low x3) ([]:bz) ([]:bz) (Val.sub x3) (Val.bytes x3) (Val.kids x3)))
  (cond (decide (x1=(5:Int)))
  (bx.j2 (decide (0≤x3.sub)&&decide (x3.sub≤255)) (Val.mk (Val.kind x3) (Val.bits x3) (Val.high x3) (Val.low x3) (Val.text x3) (Val.more x3) (0:Int) ([]:List UInt8) (Val.kids x3)))
  (cond (decide (x1=(7:Int)))
  (bx.j2 (decide (x3.bytes.length=12)) (Val.mk (Val.kind x3) (Val.bits x3) (Val.high x3) (Val.low x3) (Val.text x3) (Val.more x3) (Val.sub x3) ([]:List UInt8) (Val.kids x3)))
  (cond (decide (x1=(12:Int)))
  (bx.j2 (decide (x3.bytes.length=12)) (Val.mk (Val.kind x3) (Val.bits x3) (Val.high x3) (Val.low x3) ([]:bz) (Val.more x3) (Val.sub x3) ([]:List UInt8) (Val.kids x3)))
  (cond (decide (x1=(3:Int)))
  (bx.j4 x0 x1 (decide (x1=(3:Int))) x3)
  (bx.j4 x0 x1 (decide (x1=(4:Int))) x3)))))):=by
  intro x0 x1 x2 x3
  refine bx.oY x0 x1 x2 x3 ?_
  intro v1 h1 v2 h2
  have e:decide (v2=12)=decide (x3.bytes.length=12):=by rw [h2,aQ];simp;omega
  simp only [aR,bQ,e,h1,Bool.cond_false_right]
 obtain ⟨k,b,hi,lo,t,m,s,y,ks⟩:=v
 simp only [bx.eJ,bx.lp,J3,bx.uy,J2,Tree.j7,Tree.xH]
 by_cases a1:k=1
 ·subst a1;simp;grind
 by_cases a2:k=2
 ·subst a2;simp;grind
 by_cases a3:k=3
 ·subst a3;simp;grind
 by_cases a4:k=4
 ·subst a4;simp;grind
 by_cases a5:k=5
 ·subst a5;simp;grind
 by_cases a7:k=7
 ·subst a7;simp;grind
 by_cases a8:k=8
 ·subst a8;simp;grind
 by_cases a9:k=9
 ·subst a9;simp;grind
 by_cases Rg:k=11
 ·subst Rg;simp;grind
 by_cases a12:k=12
 ·subst a12;simp;grind
 by_cases Rf:k=13
 ·subst Rf;simp;grind
 by_cases Re:k=14
 ·subst Re;simp;grind
 by_cases Rd:k=15
 ·subst Rd;simp;grind
 by_cases Rc:k=16
 ·subst Rc;simp;grind
 by_cases Rb:k=17
 ·subst Rb;simp;grind
 by_cases Ra:k=18
 ·subst Ra;simp;grind
 by_cases Q9:k=19
 ·subst Q9;simp;grind
 simp [a1,a2,a3,a4,a5,a7,a8,a9,Rg,a12,Rf,Re,Rd,Rc,Rb,Ra,Q9];grind
end Go.Eng
set_option maxRecDepth 20000
namespace Go.Eng
open Go.IntWalk
theorem VA.goal (s:bz) (hp:decide (s.length≤1099511627776)=true):VA.F s=some [.b (Tree.gH s true)]:=by
 refine VA.bZ s ?_
 intro v1 h1
 rw [bw hp,hp]
 subst h1
 unfold Tree.gH
 cases fy.whole s <;> cases fy.zero s <;> rfl
theorem Vx.goal (p:List Int) (k:Int) (hp:decide (p.length≤1099511627776)=true):Vx.F p k=some [.sl .is (p++[k])]:=by
 have hp:=ar hp
 refine Vx.bZ p k ?_
 intro v1 h1
 rw [bw (dW (by simp;omega) (by simp;omega)),bw (dW (by simp;omega) (by simp;omega)),h1];rfl
theorem VE.goal (v:Val) (hp:decide (bJ.bO (bJ.of [] v)≤1099511627776)=true):VE.F v=some [.i .i64 (Tree.own v)]:=by
 have hp:=ar hp
 have HS:v.text.length≤1099511627776:=by simp only [bJ.of,bJ.bO] at hp;omega
 have GJ:v.more.length≤1099511627776:=by simp only [bJ.of,bJ.bO] at hp;omega
 refine VE.bZ v ?_
 intro v1 h1 v2 h2 v3 h3 v4 h4 v5 h5 v6 h6 v7 h7 v8 h8 v9 h9 v10 iA v11 ki v12 jE kW nY jP pA iD o8 mS tO nT xI lO wi qJ BU v20 zF v21 KS v22 KR Yg ZP v24 Tq v25 ZO Wq ZN v27 ZS v28 ZM Yx ZC v30 h30 v31 h31 Yv h32 v33 h33 Z2 h34 v35 h35 v36 h36
 unfold Tree.own
 by_cases hn:Tree.name v.kind=[]
 ·rw [aw hn,aa hn];rfl
 ·rw [au hn,ab hn,ae]
  subst h4 o8 ZP ZS h32 h33
  simp only [aR,bm,aY,bQ,ck4,ck5,aa HS,aa GJ,Bool.and_true]
  have u1:decide ((4294967296:UInt64)≤v.bits)=!decide (v.bits<4294967296):=by rw [aQ];simp [aI,aV]
  have u2:decide ((1:UInt64)<v.bits)=!decide (v.bits<2):=by rw [aQ];simp [aI,aV];omega
  have l1:decide ((0:Int)<mS)=!decide (v.bytes=[]):=by rw [tO,aQ];simp [List.length_pos_iff]
  have l2:decide ((0:Int)<v20)=!decide (v.kids=[]):=by rw [zF,aQ];simp [List.length_pos_iff]
  have l3:decide (mS=(12:Int))=decide (v.bytes.length=12):=by rw [tO,aQ];simp;omega
  rw [u1] at KR
  rw [u2] at Tq
  rw [l1] at xI
  rw [l2] at KS
  rw [l3] at ZC
  have e1:Tree.j7 v=!(cond (cond (cond lO true v21) true Wq) true Yx):=by
   subst h1 h2 h3 h5 h6 h7 h8 h9 iA ki jE nY pA xI wi BU KS KR Tq ZO ZN ZM ZC
   unfold Tree.j7
   have s1:decide (v.sub<0)=!decide (0≤v.sub):=by rw [aQ];simp
   have s2:decide (255<v.sub)=!decide (v.sub≤255):=by rw [aQ];simp
   rw [s1,s2]
   simp only [Bool.cond_true_left,Bool.cond_false_right,Bool.not_or,Bool.not_and,Bool.not_not,Bool.and_assoc]
  have e2:v36=decide (Tree.gH v.text (decide (v.kind=11))=false∨Tree.gH v.more (decide (v.kind=11))=false):=by
   subst h30 h31 h34 h35 h36
   unfold Tree.gH
   cases fy.whole v.text <;> cases fy.whole v.more <;> cases fy.zero v.text <;> cases fy.zero v.more <;> by_cases k:v.kind=11 <;> simp [k]
  rw [e1,e2]
  clear h1 h2 h3 h5 h6 h7 h8 h9 iA ki jE nY pA xI wi BU KS KR Tq ZO ZN ZM ZC h30 h31 h34 h35 h36 e1 e2
  by_cases c:Tree.gH v.text (decide (v.kind=11))=false∨Tree.gH v.more (decide (v.kind=11))=false
  ·rw [aa c,aw c]
   cases lO <;> cases v21 <;> cases Wq <;> cases Yx <;> rfl
  ·rw [ab c,au c]
   cases lO <;> cases v21 <;> cases Wq <;> cases Yx <;> rfl
theorem Kt.lens (v:Val) (n:bz) (m:Nat) (h:bJ.bO (bJ.of n v)≤m):v.text.length≤m∧v.more.length≤m∧n.length≤m∧v.bytes.length≤m∧bJ.cM v.kids+1≤m:=by
 simp only [bJ.of,bJ.bO] at h;omega
theorem bJ.ET (f:bJ):1≤f.bO:=by cases f;simp only [bJ.bO];omega
theorem bJ.qE:∀(l:List bJ) (i:Nat) (d:bJ),i<l.length→(l.getD i d).bO≤bJ.cM l
 | f :: l,0,d,_=>by simp [bJ.cM]
 | f :: l,i+1,d,h=>by
  have:=bJ.qE l i d (by simpa using h)
  simp only [List.getD_cons_succ,bJ.cM];omega
theorem bJ.uQ:∀(l:List bJ),l.length≤bJ.cM l
 | []=>by simp
 | f :: l=>by have:=bJ.uQ l;have:=bJ.ET f;simp only [ay,bJ.cM];omega
theorem bJ.IP (f:bJ):bJ.of f.name f.val=f:=by cases f;rfl
theorem bJ.ES (f:bJ):bJ.bO (bJ.of [] f.val)≤f.bO:=by cases f;simp only [bJ.of,bJ.val,bJ.bO,bJ.kind,bJ.bits,bJ.high,bJ.low,bJ.text,bJ.more,bJ.sub,bJ.bytes,bJ.kids];simp
theorem CF (v:Val) (n:bz):Tree.tH v n=(if Tree.name v.kind=[] then 5 else if Tree.j7 v=false then 1 else if Tree.gH v.text (decide (v.kind=11))=false∨Tree.gH v.more (decide (v.kind=11))=false∨Tree.gH n true=false then 4 else 0):=by
 unfold Tree.tH Tree.own
 grind
theorem Tree.G5 (n:bz) (v:Val) (p:List Int):Tree.iT (bJ.of n v) p=if Tree.tH v n≠0 then (p,Tree.tH v n) else Tree.sZ v.kids 0 p:=by
 cases v;simp only [bJ.of,Tree.iT]
theorem bR.cW (n:Nat) (ks:List bJ) (p:List Int) (hb:bJ.cM ks+p.length<1099511627776) (hn:bJ.cM ks<n):∀(m i:Nat),i+m=ks.length →
  bR.l1 n ks (ks.length:Int) i p=some [.sl .is (Tree.sZ (ks.drop i) i p).1,.i .i64 (Tree.sZ (ks.drop i) i p).2,.sl .is p]:=by
 have hlen:=bJ.uQ ks
 intro m
 induction m with
 | zero =>
  intro i hi
  refine bR.bV _ _ _ _ _ ?_
  intro v1 h1 v2 h2 v3 h3 v4 h4
  rw [ab (by omega),ae,aE (by omega)];rfl
 | succ m ih =>
  intro i hi
  refine bR.bV _ _ _ _ _ ?_
  intro v1 h1 v2 h2 v3 h3 v4 h4
  rw [aj] at h1
  have hg:=bJ.qE ks i (fe.gk .fl) (by omega)
  rw [←h1] at hg
  rw [bJ.IP] at h2 h3 ⊢
  rw [aa (by omega),ai,bw (bK (by omega) (by omega)),bw (dW (by simp;omega) (by simp;omega)),aa (by simp;omega),aa (by omega),aY,bQ,drop_cons (l:=ks) (i:=i) (by omega) (fe.gk .fl),←h1,Tree.sZ]
  by_cases h:v3=0
  ·rw [aa h,au (by rw [h3] at h;simpa using h)]
   simp only [aH,ae]
   rw [show v4=((i+1:Nat):Int) by rw [h4,i64_in _ (by omega)];omega,ih _ (by omega)]
  ·rw [ab h,aw (by rw [h3] at h;simpa using h)]
   simp only [aM,ai]
   rw [h2,h3]
theorem bR.goal (n:Nat) (v:Val) (name:bz) (path:List Int) (hp:((decide (bJ.bO (bJ.of name v)+path.length≤1099511627776))&&decide ((bJ.bO (bJ.of name v))<n+1))=true) :
  bR.F n v name path=some [.sl .is (Tree.iT (bJ.of name v) path).1,.i .i64 (Tree.iT (bJ.of name v) path).2,.sl .is path]:=by
 simp only [ah,aA] at hp
 obtain ⟨hp,hn⟩:=hp
 obtain ⟨b1,b2,b3,_,_⟩:=Kt.lens v name 1099511627776 (by omega)
 have O2:bJ.cM v.kids<bJ.bO (bJ.of name v):=by simp only [bJ.of,bJ.bO];omega
 refine bR.bZ n v name path ?_
 intro v1 h1 v2 h2 v3 h3 v4 h4
 rw [Tree.G5,CF]
 simp only [aR,bm,aY,bQ,aa b1,aa b2,aa b3,Bool.and_true]
 have S7:fC path.length 8=true:=dW (by omega) (by omega)
 simp only [S7,bQ]
 by_cases a:Tree.name v.kind=[]
 ·rw [aa a];simp [a]
 ·rw [ab a,ae]
  by_cases b:Tree.j7 v=false
  ·rw [b];simp [a]
  ·have b':Tree.j7 v=true:=by simpa using b
   rw [b']
   have e3:v3=decide (Tree.gH v.text (decide (v.kind=11))=false∨Tree.gH v.more (decide (v.kind=11))=false∨Tree.gH name true=false):=by
    subst h1 h2 h3
    cases Tree.gH v.text (decide (v.kind=11)) <;> cases Tree.gH v.more (decide (v.kind=11)) <;> cases Tree.gH name true <;> rfl
   rw [e3,h4]
   by_cases c:Tree.gH v.text (decide (v.kind=11))=false∨Tree.gH v.more (decide (v.kind=11))=false∨Tree.gH name true=false
   ·rw [aa c];simp [a,c]
   ·rw [ab c]
    simp only [aH,ae,au a,au c]
    have:=bR.cW n v.kids path (by omega) (by omega) v.kids.length 0 (by omega)
    rw [bh] at this
    simpa using this
theorem dH.goal (v:Val) (hp:decide (bJ.bO (bJ.of [] v)≤1099511627776)=true):dH.F v=some [.sl .is (Tree.iT (bJ.of [] v) []).1,.i .i64 (Tree.iT (bJ.of [] v) []).2]:=by
 refine dH.bZ v ?_
 intro v1 h1 v2 h2
 rw [bw (by simpa using hp),h1,h2]
theorem zn.ju (n:Nat) (v:Val) (p:List Int) (hb:bJ.cM v.kids+p.length<1099511627776) (hn:bJ.cM v.kids<n):∀(m i:Nat),i+m=v.kids.length →
  zn.l2 n p i v=some [.sl .is (Tree.sZ (v.kids.drop i) i p).1,.i .i64 (Tree.sZ (v.kids.drop i) i p).2]:=by
 have hlen:=bJ.uQ v.kids
 intro m
 induction m with
 | zero =>
  intro i hi
  refine zn.iw _ _ _ _ ?_
  intro v1 h1 v2 h2 v3 h3 v4 h4 v5 h5
  rw [ab (by omega),ae,aE (by omega)];rfl
 | succ m ih =>
  intro i hi
  refine zn.iw _ _ _ _ ?_
  intro v1 h1 v2 h2 v3 h3 v4 h4 v5 h5
  rw [aj] at h2
  have hg:=bJ.qE v.kids i (fe.gk .fl) (by omega)
  rw [←h2] at hg
  rw [bJ.IP] at h3 h4 ⊢
  rw [aa (by omega),ai,bw (bK (by omega) (by omega)),bw (bK (by omega) (by omega)),bw (aa (by omega)),aa (by simp;omega),aa (by omega),aY,bQ,drop_cons (l:=v.kids) (i:=i) (by omega) (fe.gk .fl),←h2,Tree.sZ]
  by_cases h:v4=0
  ·rw [aa h,au (by rw [h4] at h;simpa using h)]
   simp only [aH,ae]
   rw [show v5=((i+1:Nat):Int) by rw [h5,i64_in _ (by omega)];omega,ih _ (by omega)]
  ·rw [ab h,aw (by rw [h4] at h;simpa using h)]
   simp only [aM,ai]
   rw [h3,h4]
theorem zn.goal (n:Nat) (v:Val) (name:bz) (p:List Int) (hp:((decide (bJ.bO (bJ.of name v)+p.length≤1099511627776))&&decide ((bJ.bO (bJ.of name v))<n+1))=true) :
  zn.F n v name p=some [.sl .is (Tree.iT (bJ.of name v) p).1,.i .i64 (Tree.iT (bJ.of name v) p).2]:=by
 simp only [ah,aA] at hp
 obtain ⟨hp,hn⟩:=hp
 obtain ⟨b1,b2,b3,_,_⟩:=Kt.lens v name 1099511627776 (by omega)
 have O2:bJ.cM v.kids<bJ.bO (bJ.of name v):=by simp only [bJ.of,bJ.bO];omega
 have hbv:bJ.bO (bJ.of [] v)≤bJ.bO (bJ.of name v):=by simp only [bJ.of,bJ.bO,aB];omega
 refine zn.bZ n v name p ?_
 intro v1 h1
 rw [bw (aa (by omega)),aa b3]
 simp only [Bool.and_true,aR,bQ,zn.lp]
 rw [Tree.G5]
 unfold Tree.tH
 have key:=zn.ju n v p (by omega) (by omega) v.kids.length 0 (by omega)
 rw [bh] at key
 have key:zn.l2 n p 0 v=_:=key
 rw [key]
 by_cases a:Tree.own v=0
 ·rw [aa a] at h1
  cases b:Tree.gH name true
  ·rw [b] at h1;rw [h1];simp [a]
  ·rw [b] at h1;rw [h1];simp [a]
 ·rw [ab a] at h1
  rw [h1];simp [a]
end Go.Eng
set_option maxRecDepth 20000
namespace Go.Eng
open Go.IntWalk
theorem Tree.Yq (f:bJ):Tree.depth (bJ.of [] f.val)=Tree.depth f:=by cases f;rfl
theorem Tree.YW (n:bz) (v:Val):Tree.depth (bJ.of n v)=if v.kind=3∨v.kind=4∨v.kind=15 then Tree.EB v.kids+1 else 0:=by cases v;rfl
theorem Tree.WH:∀l:List bJ,Tree.EB l≤bJ.cM l∧∀f∈l,Tree.depth f≤bJ.bO f
 | []=>by simp [Tree.EB]
 | f :: l=>by
  obtain ⟨h1,h2⟩:=Tree.WH l
  have hf:Tree.depth f≤bJ.bO f:=by
   obtain ⟨n,k,b,h,lo,t,m,s,y,ks⟩:=f
   have:=(Tree.WH ks).1
   unfold Tree.depth bJ.bO
   split <;> omega
  refine ⟨by simp only [Tree.EB,bJ.cM];omega,fun g hg=>?_⟩
  rcases aO.1 hg with rfl | hg
  ·exact hf
  ·exact h2 g hg
theorem Tree.YX (f:bJ):Tree.depth f≤bJ.bO f:=(Tree.WH [f]).2 f (List.mem_cons_self ..)
end Go.Eng
set_option maxRecDepth 20000
namespace Go.Eng
open Go.IntWalk
theorem bN.cW (l:List bJ) (hb:l.length≤1099511627776):∀(m i:Nat),i+m=l.length→bN.l1 l (l.length:Int) i=some [.b (Tree.lh i (l.drop i))]:=by
 intro m
 induction m with
 | zero =>
  intro i hi
  refine bN.bV _ _ _ ?_
  intro v1 h1 v2 h2
  rw [ab (by omega),ae,aE (by omega)];rfl
 | succ m ih =>
  intro i hi
  refine bN.bV _ _ _ ?_
  intro v1 h1 v2 h2
  rw [aj] at h1
  rw [aa (by omega),ai,bw (bK (by omega) (by omega)),bw (show Nr.i64 (i:Int)=true from aa (by omega)),←vq,show v2=((i+1:Nat):Int) by rw [h2,i64_in _ (by omega)];omega,ih _ (by omega),drop_cons (l:=l) (i:=i) (by omega) (fe.gk .fl),←h1,Tree.lh,DP]
  by_cases a:v1.name=ie i
  ·rw [aa a];rfl
  ·rw [ab a];rfl
theorem bN.goal (l:List bJ) (hp:decide (l.length≤1099511627776)=true):bN.F l=some [.b (Tree.regular l)]:=by
 rw [bN.eJ]
 exact bN.cW l (ar hp) l.length 0 (by omega)
theorem VC.goal (k:Int):VC.F k=some [.b (decide (k=3∨k=4∨k=15))]:=by
 refine VC.bZ _ ?_
 intro v1 h1 v2 h2
 simp only [aR,bm,bQ]
 congr 3
 rw [h2,h1]
 by_cases a:k=3 <;> by_cases b:k=4 <;> by_cases c:k=15 <;> simp [a,b,c]
theorem Ve.cW (n:Nat) (v:Val) (hb:bJ.cM v.kids<1099511627776) (hn:bJ.cM v.kids<n):∀(m i d:Nat),i+m=v.kids.length→d≤1099511627776 →
  Ve.l1 n d i v=some [.i .i64 ((max d (Tree.EB (v.kids.drop i))+1:Nat):Int)]:=by
 have hlen:=bJ.uQ v.kids
 intro m
 induction m with
 | zero =>
  intro i d hi hd
  refine Ve.bV _ _ _ _ ?_
  intro v1 h1 v2 h2 v3 h3 v4 h4 v5 h5
  rw [ab (by omega),ae,aE (by omega),h5,i64_in _ (by omega)]
  simp [Tree.EB]
 | succ m ih =>
  intro i d hi hd
  refine Ve.bV _ _ _ _ ?_
  intro v1 h1 v2 h2 v3 h3 v4 h4 v5 h5
  rw [aj] at h2
  have hg:=bJ.qE v.kids i (fe.gk .fl) (by omega)
  rw [←h2] at hg
  have hv:=bJ.ES v2
  have hdv:=Tree.YX v2
  rw [aa (by omega),ai,bw (bK (by omega) (by omega)),aa (show bJ.bO (bJ.of [] v2.val)<n by omega),aa (show bJ.bO (bJ.of [] v2.val)≤1099511627776 by omega),aY,bQ,
   show v4=((i+1:Nat):Int) by rw [h4,i64_in _ (by omega)];omega,h3,Tree.Yq,show mL (d:Int) (Tree.depth v2:Int)=((max d (Tree.depth v2):Nat):Int) by unfold mL;split <;> omega,ih _ _ (by omega) (by omega),drop_cons (l:=v.kids) (i:=i) (by omega) (fe.gk .fl),←h2,Tree.EB,Nat.max_assoc]
theorem Ve.goal (n:Nat) (v:Val) (hp:((decide (bJ.bO (bJ.of [] v)≤1099511627776))&&decide ((bJ.bO (bJ.of [] v))<n+1))=true):Ve.F n v=some [.i .i64 (Tree.depth (bJ.of [] v):Int)]:=by
 simp only [ah,aA] at hp
 obtain ⟨hbig,hn⟩:=hp
 have O2:bJ.cM v.kids<bJ.bO (bJ.of [] v):=by simp only [bJ.of,bJ.bO];omega
 have key:=Ve.cW n v (by omega) (by omega) v.kids.length 0 0 (by omega) (by omega)
 rw [bh,Nat.zero_max] at key
 rw [Ve.eJ,Tree.YW]
 by_cases h:v.kind=3∨v.kind=4∨v.kind=15
 ·rw [aw h,aa h,aH,ae];exact key
 ·rw [au h,ab h,aM,ai];rfl
end Go.Eng
set_option maxRecDepth 20000
namespace Go.Eng
open Go.IntWalk
theorem cL.cW (iF:List Int) (hl:iF.length≤10) (hs:∀s∈iF,0≤s):∀(m i:Nat) (left:Int),i+m=iF.length→left≤1200→cL.l1 left iF i=some [.i .i64 (eU.room left (iF.drop i))]:=by
 intro m
 induction m with
 | zero =>
  intro i left hi hle
  refine cL.bV _ _ _ ?_
  intro v1 h1 v2 h2 v3 h3
  rw [ab (by omega),ae,aE (by omega)];rfl
 | succ m ih =>
  intro i left hi hle
  refine cL.bV _ _ _ ?_
  intro v1 h1 v2 h2 v3 h3
  rw [aj] at h1
  have h0:0≤v1:=hs v1 (by rw [h1,af,aq (show i<iF.length by omega)];simp)
  rw [aa (by omega),ai,show bB (i:Int) iF.length=true from bK (by omega) (by omega),drop_cons (l:=iF) (i:=i) (by omega) 0,←h1,eU.room]
  simp only [aY,Bool.and_true,aR,bm,bQ]
  by_cases a:left<0∨left<v1
  ·rw [aw a,show v2=true by rw [h2];by_cases b:left<0 <;> simp [b];omega];rfl
  ·rw [au a,show v2=false by rw [h2];by_cases b:left<0 <;> simp [b] <;> omega,ae,show v3=((i+1:Nat):Int) by rw [h3,i64_in _ (by omega)];omega,i64_in _ (by omega),ih _ _ (by omega) (by omega)]
theorem cL.goal (left:Int) (iF:List Int) (hp:(decide (left≤1200∧iF.length≤10)&&iF.all (fun s=>decide (0≤s)))=true):cL.F left iF=some [.i .i64 (eU.room left iF)]:=by
 simp only [ah,aA,aC] at hp
 rw [cL.eJ]
 exact cL.cW iF hp.1.2 hp.2 iF.length 0 left (by omega) hp.1.1
theorem eU.Hq (left a:Int) (ha:0≤a) (hl:left≤1200):eU.room left [a]≤1200∧(eU.room left [a]=-1∨(eU.room left [a]=left - a∧0≤left - a)):=by
 simp only [eU.room];split <;> omega
theorem eU.Hp (left a b c d:Int) (ha:0≤a) (hb:0≤b) (hc:0≤c) (hd:0≤d) (hl:left≤1200) :
  eU.room left [a,b,c,d]≤1200∧(eU.room left [a,b,c,d]=-1∨(eU.room left [a,b,c,d]=left - a - b - c - d∧0≤left - a - b - c - d)):=by
 simp only [eU.room]
 split
 ·omega
 ·split
  ·omega
  ·split
   ·omega
   ·split <;> omega
mutual
theorem eU.rM:∀(f:bJ) (left:Int),left≤1200→eU.value left f≤1200∧(0≤eU.value left f→(bJ.bO f:Int) - f.name.length≤left - eU.value left f)
 | .mk n k b h l t m s y ks,left,hl=>by
  have h1:=eU.Hp left 2 t.length m.length y.length (by omega) (by omega) (by omega) (by omega) hl
  have h2:=eU.tS ks (eU.room left [2,(t.length:Int),(m.length:Int),(y.length:Int)]) h1.1
  simp only [eU.value,bJ.bO,bJ.name]
  refine ⟨h2.1,fun h0=>?_⟩
  rcases h1.2 with e | ⟨e,e0⟩
  ·have:=h2.2.2 (by omega);omega
  ·have:=h2.2.1 h0;omega
theorem eU.tS:∀(ks:List bJ) (left:Int),left≤1200→eU.values left ks≤1200∧(0≤eU.values left ks→(bJ.cM ks:Int)≤left - eU.values left ks)∧(left<0→eU.values left ks<0)
 | [],left,hl=>by simp only [eU.values,bJ.cM];omega
 | f :: r,left,hl=>by
  simp only [eU.values,bJ.cM]
  by_cases h:left<0
  ·rw [aw h];omega
  ·rw [au h]
   have h1:=eU.Hq left f.name.length (by omega) hl
   have h2:=eU.rM f (eU.room left [(f.name.length:Int)]) h1.1
   have h3:=eU.tS r (eU.value (eU.room left [(f.name.length:Int)]) f) h2.1
   refine ⟨h3.1,fun h0=>?_,fun h0=>by omega⟩
   have h4:=h3.2.1 h0
   have h5:0≤eU.value (eU.room left [(f.name.length:Int)]) f:=by
    by_cases h6:eU.value (eU.room left [(f.name.length:Int)]) f<0
    ·have:=h3.2.2 h6;omega
    ·omega
   have h7:=h2.2 h5
   have hb:(f.name.length:Int)≤bJ.bO f:=by cases f;simp only [bJ.name,bJ.bO];omega
   rcases h1.2 with e | ⟨e,e0⟩
   ·omega
   ·omega
end
theorem eU.yT (v:Val) (h:0≤eU.value 1200 (bJ.of [] v)):bJ.bO (bJ.of [] v)≤1200:=by
 have:=(eU.rM (bJ.of [] v) 1200 (by omega)).2 h
 have hn:(bJ.of [] v).name=[]:=rfl
 rw [hn] at this
 simp at this;omega
theorem eU.A5 (left:Int) (f:bJ):eU.value left (bJ.of [] f.val)=eU.value left f:=by cases f;rfl
theorem eU.Cv (f:bJ) (left:Int) (hl:left≤1200) (h0:0≤eU.value left f):eU.value left f+1≤left:=by
 have:=(eU.rM f left hl).2 h0
 have hb:(f.name.length:Int)+1≤bJ.bO f:=by cases f;simp only [bJ.name,bJ.bO];omega
 omega
theorem bS.cW (n:Nat) (v:Val) (hn:bJ.cM v.kids<n):∀(m i:Nat) (left:Int),i+m=v.kids.length→(i:Int)+left≤1200 →
  bS.l1 n left i v=some [.i .i64 (eU.values left (v.kids.drop i))]:=by
 intro m
 induction m with
 | zero =>
  intro i left hi hle
  refine bS.bV _ _ _ _ ?_
  intro v1 h1 v2 h2 v3 h3 v4 h4 v5 h5 v6 h6 v7 h7
  simp only [aR,bQ]
  rw [show v2=false by rw [h2,ab (by omega)];rfl,ae,aE (by omega)];rfl
 | succ m ih =>
  intro i left hi hle
  refine bS.bV _ _ _ _ ?_
  intro v1 h1 v2 h2 v3 h3 v4 h4 v5 h5 v6 h6 v7 h7
  rw [aj] at h3
  have hg:=bJ.qE v.kids i (fe.gk .fl) (by omega)
  rw [←h3] at hg
  have hv:=bJ.ES v3
  have r1:=eU.Hq left v4 (by omega) (by omega)
  rw [←h5] at r1
  have r2:=eU.Cv v3 v5 r1.1
  rw [eU.A5] at h6
  simp only [aR,bQ]
  rw [drop_cons (l:=v.kids) (i:=i) (by omega) (fe.gk .fl),←h3,eU.values]
  by_cases h:left<0
  ·rw [aw h,show v2=false by rw [h2,ab (show ¬0≤left by omega)];simp];rfl
  ·have r3:(i:Int)+1+v6≤1200:=by
    rw [h6]
    by_cases hx:0≤eU.value v5 v3
    ·have:=r2 hx;omega
    ·omega
   rw [au h,show v2=true by rw [h2,aa (by omega),aa (by omega)];rfl,ai,bw (bK (by omega) (by omega)),bw (by simp;omega),bw (bK (by omega) (by omega)),aa r1.1,aa (by omega),aY,bQ,
    show v7=((i+1:Nat):Int) by rw [h7,i64_in _ (by omega)];omega,ih _ _ (by omega) (by omega),h6,h5,h4]
theorem bS.goal (n:Nat) (left:Int) (v:Val) (hp:((decide (left≤1200))&&decide ((bJ.bO (bJ.of [] v))<n+1))=true):bS.F n left v=some [.i .i64 (eU.value left (bJ.of [] v))]:=by
 simp only [ah,aA] at hp
 obtain ⟨hl,hn⟩:=hp
 have O2:bJ.cM v.kids<bJ.bO (bJ.of [] v):=by simp only [bJ.of,bJ.bO];omega
 refine bS.bZ n left v ?_
 intro v1 h1 v2 h2 v3 h3 v4 h4
 have r:=eU.Hp left 2 v1 v2 v3 (by omega) (by omega) (by omega) (by omega) hl
 rw [←h4] at r
 rw [bw (by rw [h4];simp;omega)]
 have key:=bS.cW n v (by omega) v.kids.length 0 (eU.room left v4) (by omega) (by omega)
 rw [bh] at key
 refine key.trans ?_
 rw [h4,h1,h2,h3]
 rfl
theorem dI.goal (v:Val):dI.F v=some [.b (decide (0≤eU.value 1200 (bJ.of [] v)))]:=by
 refine dI.bZ v ?_
 intro v1 h1
 rw [bw (by decide),h1]
end Go.Eng
set_option maxRecDepth 20000
namespace Go.Eng
open Go.Proofs
theorem VB.ok:bA PG cnGl 157 (VB.c,VB.sg):=meets bG all_nil VB.h (fits fun ins=>by unfold VB.c;split;exact VB.goal _;trivial)
theorem cd.ok:bA PG cnGl 91 (cd.c,cd.sg):=meets bG all_nil cd.h (fits fun ins=>by unfold cd.c;split;exact cd.goal _;trivial)
theorem Vk.ok:bA PG cnGl 135 (Vk.c,Vk.sg):=meets bG (all_cons VB.ok all_nil) Vk.h (fits fun ins=>by unfold Vk.c;split;exact Vk.goal _;trivial)
theorem gX.ok:bA PG cnGl 158 (gX.c,gX.sg):=meets bG all_nil gX.h (fits fun ins=>by unfold gX.c;split;exact gX.goal _;trivial)
theorem bH.ok:bA PG cnGl 137 (bH.c,bH.sg):=meets bG (all_cons gX.ok all_nil) bH.h (fits fun ins=>by unfold bH.c;split;exact bH.goal _ _;trivial)
theorem cj.ok:bA PG cnGl 110 (cj.c,cj.sg):=meets bG (all_cons bH.ok all_nil) cj.h (fits fun ins=>by unfold cj.c;split;exact cj.goal _;trivial)
theorem dJ.ok:bA PG cnGl 81 (dJ.c,dJ.sg):=meets bG (all_cons cj.ok all_nil) dJ.h (fits fun ins=>by unfold dJ.c;split;exact dJ.goal _;trivial)
theorem Vg.ok:bA PG cnGl 80 (Vg.c,Vg.sg):=meets bG all_nil Vg.h (fits fun ins=>by unfold Vg.c;split;exact Vg.goal _ _;trivial)
theorem Vn.ok:bA PG cnGl 45 (Vn.c,Vn.sg):=meets bG (all_cons Vg.ok all_nil) Vn.h (fits fun ins=>by unfold Vn.c;split;exact Vn.goal _;trivial)
theorem Vv.ok:bA PG cnGl 33 (Vv.c,Vv.sg):=meets bG (all_cons Vn.ok all_nil) Vv.h (fits fun ins=>by unfold Vv.c;split;exact Vv.goal _;trivial)
theorem Vp.ok:bA PG cnGl 94 (Vp.c,Vp.sg):=meets bG all_nil Vp.h (fits fun ins=>by unfold Vp.c;split;exact Vp.goal _;trivial)
theorem cH.ok:bA PG cnGl 156 (cH.c,cH.sg):=meets bG all_nil cH.h (fits fun ins=>by unfold cH.c;split;exact cH.goal _ _;trivial)
theorem fi.ok:bA PG cnGl 138 (fi.c,fi.sg):=meets bG (all_cons cH.ok all_nil) fi.h (fits fun ins=>by unfold fi.c;split;exact fi.goal _ _;trivial)
theorem fh.ok:bA PG cnGl 111 (fh.c,fh.sg):=meets bG (all_cons fi.ok all_nil) fh.h (fits fun ins=>by unfold fh.c;split;exact fh.goal _ _;trivial)
theorem dv.ok:bA PG cnGl 82 (dv.c,dv.sg):=meets bG (all_cons fh.ok all_nil) dv.h (fits fun ins=>by unfold dv.c;split;exact dv.goal _ _;trivial)
theorem fx.ok:bA PG cnGl 47 (fx.c,fx.sg):=meets bG all_nil fx.h (fits fun ins=>by unfold fx.c;split;exact fx.goal _;trivial)
theorem dY.ok:bA PG cnGl 46 (dY.c,dY.sg):=meets bG all_nil dY.h (fits fun ins=>by unfold dY.c;split;exact dY.goal _;trivial)
theorem bx.ok:bA PG cnGl 48 (bx.c,bx.sg):=meets bG all_nil bx.h (fits fun ins=>by unfold bx.c;split;exact bx.goal (.mk _ _ _ _ _ _ _ _ _);trivial)
theorem dG.ok:bA PG cnGl 49 (dG.c,dG.sg):=meets bG (all_cons dJ.ok (all_cons dv.ok all_nil)) dG.h (fits fun ins=>by unfold dG.c;split;exact dG.goal _ _;trivial)
theorem Ix.Dg:∀n:Nat,(bA PG cnGl 35 (bR.cn n,bR.sg)):=by
 intro n
 induction n with
 | zero=>exact jK (by intro ti nI h;unfold bR.cn at h;split at h;exact absurd (aW.1 h.1).2 (by simp);exact h.elim)
 | succ n ih =>
  have DR:=ih
  exact meets bG (all_cons DR (all_cons dY.ok (all_cons fx.ok (all_cons bx.ok (all_cons dG.ok all_nil))))) bR.h (fits fun ins=>by unfold bR.cn;split;exact bR.goal _ (.mk _ _ _ _ _ _ _ _ _) _ _;trivial)
theorem bR.ok:bA PG cnGl 35 (bR.c,bR.sg):=lS fun ti nI h=>by
 unfold bR.c at h
 split at h
 ·obtain ⟨hp,rfl⟩:=h;exact ⟨bR.cn (_+1),(Ix.Dg _),aW.2 ⟨hp,aa (Nat.lt_succ_self _)⟩,rfl⟩
 ·exact h.elim
theorem dH.ok:bA PG cnGl 20 (dH.c,dH.sg):=meets bG (all_cons bR.ok all_nil) dH.h (fits fun ins=>by unfold dH.c;split;exact dH.goal (.mk _ _ _ _ _ _ _ _ _);trivial)
theorem Vz.ok:bA PG cnGl 121 (Vz.c,Vz.sg):=meets bG all_nil Vz.h (fits fun ins=>by unfold Vz.c;split;exact Vz.goal;trivial)
theorem Vo.ok:bA PG cnGl 92 (Vo.c,Vo.sg):=meets bG (all_cons Vz.ok all_nil) Vo.h (fits fun ins=>by unfold Vo.c;split;exact Vo.goal _;trivial)
theorem pd.ok:bA PG cnGl 93 (pd.c,pd.sg):=meets bG all_nil pd.h (fits fun ins=>by unfold pd.c;split;exact pd.goal _;trivial)
theorem VE.ok:bA PG cnGl 58 (VE.c,VE.sg):=meets bG (all_cons Vv.ok (all_cons Vo.ok (all_cons pd.ok (all_cons Vp.ok all_nil)))) VE.h (fits fun ins=>by unfold VE.c;split;exact VE.goal (.mk _ _ _ _ _ _ _ _ _);trivial)
theorem VA.ok:bA PG cnGl 59 (VA.c,VA.sg):=meets bG (all_cons Vv.ok (all_cons Vp.ok all_nil)) VA.h (fits fun ins=>by unfold VA.c;split;exact VA.goal _;trivial)
theorem Vx.ok:bA PG cnGl 60 (Vx.c,Vx.sg):=meets bG all_nil Vx.h (fits fun ins=>by unfold Vx.c;split;exact Vx.goal _ _;trivial)
theorem VJ.ok:bA PG cnGl 44 (VJ.c,VJ.sg):=meets bG all_nil VJ.h (fits fun ins=>by unfold VJ.c;split;exact VJ.goal _;trivial)
theorem eF.ok:bA PG cnGl 32 (eF.c,eF.sg):=meets bG (all_cons VJ.ok all_nil) eF.h (fits fun ins=>by unfold eF.c;split;exact eF.goal _;trivial)
theorem Zt.Dg:∀n:Nat,(bA PG cnGl 37 (zn.cn n,zn.sg))∧(bA PG cnGl 18 (s4.cn n,s4.sg)):=by
 intro n
 induction n with
 | zero=>exact ⟨jK (by intro ti nI h;unfold zn.cn at h;split at h;exact absurd (aW.1 h.1).2 (by simp);exact h.elim),jK (by intro ti nI h;unfold s4.cn at h;split at h;exact absurd (aW.1 h.1).2 (by simp);exact h.elim)⟩
 | succ n ih =>
  obtain ⟨DR,Sf⟩:=ih
  exact ⟨meets bG (all_cons DR (all_cons VE.ok (all_cons VA.ok (all_cons Vx.ok all_nil)))) zn.h (fits fun ins=>by unfold zn.cn;split;exact zn.goal _ (.mk _ _ _ _ _ _ _ _ _) _ _;trivial),meets bG (all_cons Sf (all_cons eF.ok (all_cons Vv.ok all_nil))) s4.h (fits fun ins=>by unfold s4.cn;split;exact s4.goal _ (.mk _ _ _);trivial)⟩
theorem s4.ok:bA PG cnGl 18 (s4.c,s4.sg):=lS fun ti nI h=>by
 unfold s4.c at h
 split at h
 ·obtain ⟨hp,rfl⟩:=h;exact ⟨s4.cn (_+1),(Zt.Dg _).2,aW.2 ⟨hp,aa (Nat.lt_succ_self _)⟩,rfl⟩
 ·exact h.elim
theorem cL.ok:bA PG cnGl 34 (cL.c,cL.sg):=meets bG all_nil cL.h (fits fun ins=>by unfold cL.c;split;exact cL.goal _ _;trivial)
theorem Kd.Dg:∀n:Nat,(bA PG cnGl 19 (bS.cn n,bS.sg)):=by
 intro n
 induction n with
 | zero=>exact jK (by intro ti nI h;unfold bS.cn at h;split at h;exact absurd (aW.1 h.1).2 (by simp);exact h.elim)
 | succ n ih =>
  have DR:=ih
  exact meets bG (all_cons DR (all_cons cL.ok all_nil)) bS.h (fits fun ins=>by unfold bS.cn;split;exact bS.goal _ _ (.mk _ _ _ _ _ _ _ _ _);trivial)
theorem bS.ok:bA PG cnGl 19 (bS.c,bS.sg):=lS fun ti nI h=>by
 unfold bS.c at h
 split at h
 ·obtain ⟨hp,rfl⟩:=h;exact ⟨bS.cn (_+1),(Kd.Dg _),aW.2 ⟨hp,aa (Nat.lt_succ_self _)⟩,rfl⟩
 ·exact h.elim
theorem dI.ok:bA PG cnGl 8 (dI.c,dI.sg):=meets bG (all_cons bS.ok all_nil) dI.h (fits fun ins=>by unfold dI.c;split;exact dI.goal (.mk _ _ _ _ _ _ _ _ _);trivial)
theorem VC.ok:bA PG cnGl 28 (VC.c,VC.sg):=meets bG all_nil VC.h (fits fun ins=>by unfold VC.c;split;exact VC.goal _;trivial)
theorem Zr.Dg:∀n:Nat,(bA PG cnGl 16 (Ve.cn n,Ve.sg)):=by
 intro n
 induction n with
 | zero=>exact jK (by intro ti nI h;unfold Ve.cn at h;split at h;exact absurd (aW.1 h.1).2 (by simp);exact h.elim)
 | succ n ih =>
  have DR:=ih
  exact meets bG (all_cons DR (all_cons VC.ok all_nil)) Ve.h (fits fun ins=>by unfold Ve.cn;split;exact Ve.goal _ (.mk _ _ _ _ _ _ _ _ _);trivial)
theorem Ve.ok:bA PG cnGl 16 (Ve.c,Ve.sg):=lS fun ti nI h=>by
 unfold Ve.c at h
 split at h
 ·obtain ⟨hp,rfl⟩:=h;exact ⟨Ve.cn (_+1),(Zr.Dg _),aW.2 ⟨hp,aa (Nat.lt_succ_self _)⟩,rfl⟩
 ·exact h.elim
theorem bN.ok:bA PG cnGl 52 (bN.c,bN.sg):=meets bG (all_cons iG.ok all_nil) bN.h (fits fun ins=>by unfold bN.c;split;exact bN.goal _;trivial)
theorem bX.ok:bA PG cnGl 168 (bX.c,bX.sg):=meets bG all_nil bX.h (fits fun ins=>by unfold bX.c;split;exact bX.goal _;trivial)
theorem bits_Len64.ok:bA PG cnGl 191 (bits_Len64.c,bits_Len64.sg):=meets bG all_nil bits_Len64.h (fits fun ins=>by unfold bits_Len64.c;split;exact bits_Len64.goal _;trivial)
theorem eI.ok:bA PG cnGl 198 (eI.c,eI.sg):=meets bG all_nil eI.h (fits fun ins=>by unfold eI.c;split;exact eI.goal _;trivial)
theorem fu.ok:bA PG cnGl 246 (fu.c,fu.sg):=meets bG (all_cons gT.ok all_nil) fu.h (fits fun ins=>by unfold fu.c;split;exact fu.goal (_,_);trivial)
theorem jh.ok:bA PG cnGl 244 (jh.c,jh.sg):=meets bG all_nil jh.h (fits fun ins=>by unfold jh.c;split;exact jh.goal _ _;trivial)
theorem eG.ok:bA PG cnGl 239 (eG.c,eG.sg):=meets bG (all_cons gT.ok all_nil) eG.h (fits fun ins=>by unfold eG.c;split;exact eG.goal (_,_);trivial)
theorem gj.ok:bA PG cnGl 254 (gj.c,gj.sg):=meets bG (all_cons gT.ok all_nil) gj.h (fits fun ins=>by unfold gj.c;split;exact gj.goal (_,_) _;trivial)
theorem fv.ok:bA PG cnGl 237 (fv.c,fv.sg):=meets bG (all_cons fu.ok all_nil) fv.h (fits fun ins=>by unfold fv.c;split;exact fv.goal (_,_) (_,_);trivial)
theorem gf.ok:bA PG cnGl 252 (gf.c,gf.sg):=meets bG (all_cons dt.ok all_nil) gf.h (fits fun ins=>by unfold gf.c;split;exact gf.goal _;trivial)
theorem wv_fit.ok:bA PG cnGl 247 (wv_fit.c,wv_fit.sg):=meets bG (all_cons gf.ok all_nil) wv_fit.h (fits fun ins=>by unfold wv_fit.c;split;exact wv_fit.goal (.mk (_,_) (_,_) (_,_) (_,_));trivial)
theorem cF.ok:bA PG cnGl 248 (cF.c,cF.sg):=meets bG (all_cons gj.ok all_nil) cF.h (fits fun ins=>by unfold cF.c;split;exact cF.goal (.mk (_,_) (_,_) (_,_) (_,_)) _;trivial)
theorem gg.ok:bA PG cnGl 245 (gg.c,gg.sg):=meets bG (all_cons wv_fit.ok (all_cons cF.ok all_nil)) gg.h (fits fun ins=>by unfold gg.c;split;exact gg.goal (.mk (_,_) (_,_) (_,_) (_,_));trivial)
theorem dN.ok:bA PG cnGl 238 (dN.c,dN.sg):=meets bG (all_cons eG.ok (all_cons wv_fit.ok (all_cons cF.ok all_nil))) dN.h (fits fun ins=>by unfold dN.c;split;exact dN.goal (.mk (_,_) (_,_) (_,_) (_,_));trivial)
theorem cJ.ok:bA PG cnGl 235 (cJ.c,cJ.sg):=meets bG all_nil cJ.h (fits fun ins=>by unfold cJ.c;split;exact cJ.goal _;trivial)
theorem cw.ok:bA PG cnGl 236 (cw.c,cw.sg):=meets bG (all_cons jh.ok (all_cons gg.ok all_nil)) cw.h (fits fun ins=>by unfold cw.c;split;exact cw.goal _;trivial)
theorem bL.ok:bA PG cnGl 219 (bL.c,bL.sg):=meets bG (all_cons cJ.ok (all_cons cw.ok (all_cons fv.ok (all_cons dN.ok (all_cons eG.ok all_nil))))) bL.h (fits fun ins=>by unfold bL.c;split;exact bL.goal _ _;trivial)
theorem da.ok:bA PG cnGl 201 (da.c,da.sg):=meets bG all_nil da.h (fits fun ins=>by unfold da.c;split;exact da.goal _;trivial)
theorem bg_Is.ok:bA PG cnGl 166 (bg_Is.c,bg_Is.sg):=meets bG all_nil bg_Is.h (fits fun ins=>by unfold bg_Is.c;split;exact bg_Is.goal _;trivial)
theorem eW.ok:bA PG cnGl 140 (eW.c,eW.sg):=meets bG all_nil eW.h (fits fun ins=>by unfold eW.c;split;exact eW.goal _;trivial)
theorem dj.ok:bA PG cnGl 251 (dj.c,dj.sg):=meets bG (all_cons bg_Is.ok all_nil) dj.h (fits fun ins=>by unfold dj.c;split;exact dj.goal _;trivial)
theorem fH.ok:bA PG cnGl 142 (fH.c,fH.sg):=meets bG (all_cons bg_Is.ok (all_cons bX.ok all_nil)) fH.h (fits fun ins=>by unfold fH.c;split;exact fH.goal _;trivial)
theorem eC.ok:bA PG cnGl 197 (eC.c,eC.sg):=meets bG all_nil eC.h (fits fun ins=>by unfold eC.c;split;exact eC.goal _ _;trivial)
theorem fW.ok:bA PG cnGl 170 (fW.c,fW.sg):=meets bG (all_cons bg_Is.ok (all_cons eC.ok all_nil)) fW.h (fits fun ins=>by unfold fW.c;split;exact fW.goal _ _;trivial)
theorem cq.ok:bA PG cnGl 220 (cq.c,cq.sg):=meets bG all_nil cq.h (fits fun ins=>by unfold cq.c;split;exact cq.goal _;trivial)
theorem dp.ok:bA PG cnGl 196 (dp.c,dp.sg):=meets bG (all_cons bg_Is.ok (all_cons da.ok (all_cons bL.ok (all_cons cq.ok all_nil)))) dp.h (fits fun ins=>by unfold dp.c;split;exact dp.goal _ _;trivial)
theorem ez.ok:bA PG cnGl 199 (ez.c,ez.sg):=meets bG (all_cons da.ok all_nil) ez.h (fits fun ins=>by unfold ez.c;split;exact ez.goal _ _;trivial)
theorem eO.ok:bA PG cnGl 167 (eO.c,eO.sg):=meets bG all_nil eO.h (fits fun ins=>by unfold eO.c;split;exact eO.goal _ _;trivial)
theorem cV.ok:bA PG cnGl 202 (cV.c,cV.sg):=meets bG (all_cons da.ok all_nil) cV.h (fits fun ins=>by unfold cV.c;split;exact cV.goal _ _;trivial)
theorem bE.ok:bA PG cnGl 200 (bE.c,bE.sg):=meets bG all_nil bE.h (fits fun ins=>by unfold bE.c;split;exact bE.goal _ _;trivial)
theorem gK.ok:bA PG cnGl 171 (gK.c,gK.sg):=meets bG (all_cons eW.ok (all_cons bg_Is.ok (all_cons eO.ok (all_cons bX.ok (all_cons eC.ok (all_cons eI.ok (all_cons ez.ok (all_cons bE.ok (all_cons da.ok (all_cons cV.ok all_nil)))))))))) gK.h (fits fun ins=>by unfold gK.c;split;exact gK.goal _ _;trivial)
theorem ir.ok:bA PG cnGl 141 (ir.c,ir.sg):=meets bG (all_cons bg_Is.ok (all_cons eO.ok all_nil)) ir.h (fits fun ins=>by unfold ir.c;split;exact ir.goal _ _;trivial)
theorem cP.ok:bA PG cnGl 218 (cP.c,cP.sg):=meets bG all_nil cP.h (fits fun ins=>by unfold cP.c;split;exact cP.goal _ _ _;trivial)
theorem cU.ok:bA PG cnGl 195 (cU.c,cU.sg):=meets bG (all_cons eW.ok (all_cons bg_Is.ok (all_cons cP.ok all_nil))) cU.h (fits fun ins=>by unfold cU.c;split;exact cU.goal _ _;trivial)
theorem dm.ok:bA PG cnGl 227 (dm.c,dm.sg):=meets bG (all_cons bg_Is.ok (all_cons cP.ok all_nil)) dm.h (fits fun ins=>by unfold dm.c;split;exact dm.goal _;trivial)
theorem dM.ok:bA PG cnGl 242 (dM.c,dM.sg):=meets bG (all_cons bits_Len64.ok (all_cons lx.ok all_nil)) dM.h (fits fun ins=>by unfold dM.c;split;exact dM.goal _ _ _;trivial)
theorem nr_rounded.ok:bA PG cnGl 241 (nr_rounded.c,nr_rounded.sg):=meets bG (all_cons ir.ok (all_cons fW.ok (all_cons gK.ok (all_cons dj.ok all_nil)))) nr_rounded.h (fits fun ins=>by unfold nr_rounded.c;split;exact nr_rounded.goal _ _ _;trivial)
theorem de.ok:bA PG cnGl 228 (de.c,de.sg):=meets bG (all_cons fH.ok (all_cons nr_rounded.ok (all_cons dM.ok all_nil))) de.h (fits fun ins=>by unfold de.c;split;exact de.goal _ _;trivial)
theorem dL.ok:bA PG cnGl 205 (dL.c,dL.sg):=meets bG (all_cons eW.ok (all_cons gq.ok (all_cons cU.ok (all_cons dp.ok (all_cons fK.ok (all_cons kZ.ok (all_cons dm.ok (all_cons de.ok all_nil)))))))) dL.h (fits fun ins=>by unfold dL.c;split;exact dL.goal _ _;trivial)
theorem ja.ok:bA PG cnGl 104 (ja.c,ja.sg):=meets bG all_nil ja.h (fits fun ins=>by unfold ja.c;split;exact ja.goal _ _ _ _;trivial)
theorem cK.ok:bA PG cnGl 105 (cK.c,cK.sg):=meets bG all_nil cK.h (fits fun ins=>by unfold cK.c;split;exact cK.goal _ _;trivial)
theorem bD.ok:bA PG cnGl 73 (bD.c,bD.sg):=meets bG (all_cons ja.ok (all_cons cK.ok all_nil)) bD.h (fits fun ins=>by unfold bD.c;split;exact bD.goal _;trivial)
theorem eH.ok:bA PG cnGl 114 (eH.c,eH.sg):=meets bG all_nil eH.h (fits fun ins=>by unfold eH.c;split;exact eH.goal _;trivial)
theorem bg_Add.ok:bA PG cnGl 173 (bg_Add.c,bg_Add.sg):=meets bG (all_cons bg_Is.ok (all_cons eI.ok all_nil)) bg_Add.h (fits fun ins=>by unfold bg_Add.c;split;exact bg_Add.goal _ _;trivial)
theorem sl_Reverse.ok:bA PG cnGl 221 (sl_Reverse.c,sl_Reverse.sg):=meets bG all_nil sl_Reverse.h (fits fun ins=>by unfold sl_Reverse.c;split;exact sl_Reverse.goal _;trivial)
theorem cS.ok:bA PG cnGl 203 (cS.c,cS.sg):=meets bG (all_cons iG.ok (all_cons fB.ok (all_cons bg_Is.ok (all_cons ez.ok (all_cons sl_Reverse.ok (all_cons st_Join.ok all_nil)))))) cS.h (fits fun ins=>by unfold cS.c;split;exact cS.goal _;trivial)
theorem eY.ok:bA PG cnGl 85 (eY.c,eY.sg):=meets bG (all_cons gR.ok all_nil) eY.h (fits fun ins=>by unfold eY.c;split;exact eY.goal _;trivial)
theorem fD.ok:bA PG cnGl 169 (fD.c,fD.sg):=meets bG (all_cons cU.ok (all_cons dp.ok all_nil)) fD.h (fits fun ins=>by unfold fD.c;split;exact fD.goal _ _ _;trivial)
theorem fk.ok:bA PG cnGl 143 (fk.c,fk.sg):=meets bG (all_cons fD.ok (all_cons fW.ok all_nil)) fk.h (fits fun ins=>by unfold fk.c;split;exact fk.goal _ _ _;trivial)
theorem fj.ok:bA PG cnGl 172 (fj.c,fj.sg):=meets bG (all_cons cS.ok (all_cons fK.ok (all_cons dL.ok all_nil))) fj.h (fits fun ins=>by unfold fj.c;split;exact fj.goal _ _ _;trivial)
theorem gi.ok:bA PG cnGl 144 (gi.c,gi.sg):=meets bG (all_cons eW.ok (all_cons ir.ok (all_cons fD.ok (all_cons fW.ok (all_cons gK.ok (all_cons fj.ok (all_cons bg_Add.ok all_nil))))))) gi.h (fits fun ins=>by unfold gi.c;split;exact gi.goal _ _ _ _ _;trivial)
theorem bI.ok:bA PG cnGl 115 (bI.c,bI.sg):=meets bG (all_cons eH.ok (all_cons eW.ok (all_cons ir.ok (all_cons fH.ok (all_cons fk.ok (all_cons gi.ok all_nil)))))) bI.h (fits fun ins=>by unfold bI.c;split;exact bI.goal _;trivial)
theorem dK.ok:bA PG cnGl 116 (dK.c,dK.sg):=meets bG (all_cons eY.ok (all_cons fB.ok all_nil)) dK.h (fits fun ins=>by unfold dK.c;split;exact dK.goal _ _;trivial)
theorem dC.ok:bA PG cnGl 86 (dC.c,dC.sg):=meets bG (all_cons eH.ok (all_cons bI.ok (all_cons dK.ok all_nil))) dC.h (fits fun ins=>by unfold dC.c;split;exact dC.goal _;trivial)
theorem cN.ok:bA PG cnGl 149 (cN.c,cN.sg):=meets bG (all_cons lf.ok all_nil) cN.h (fits fun ins=>by unfold cN.c;split;exact cN.goal _ _;trivial)
theorem cZ.ok:bA PG cnGl 83 (cZ.c,cZ.sg):=meets bG all_nil cZ.h (fits fun ins=>by unfold cZ.c;split;exact cZ.goal _ _;trivial)
theorem cY.ok:bA PG cnGl 50 (cY.c,cY.sg):=meets bG (all_cons cZ.ok all_nil) cY.h (fits fun ins=>by unfold cY.c;split;exact cY.goal _ _;trivial)
theorem cX.ok:bA PG cnGl 134 (cX.c,cX.sg):=meets bG (all_cons cH.ok all_nil) cX.h (fits fun ins=>by unfold cX.c;split;exact cX.goal _ _;trivial)
theorem fq.ok:bA PG cnGl 207 (fq.c,fq.sg):=meets bG all_nil fq.h (fits fun ins=>by unfold fq.c;split;exact fq.goal _ _;trivial)
theorem dZ.ok:bA PG cnGl 210 (dZ.c,dZ.sg):=meets bG (all_cons bits_Len64.ok all_nil) dZ.h (fits fun ins=>by unfold dZ.c;split;exact dZ.goal _;trivial)
theorem bF.ok:bA PG cnGl 180 (bF.c,bF.sg):=meets bG (all_cons dZ.ok all_nil) bF.h (fits fun ins=>by unfold bF.c;split;exact bF.goal _ _ _;trivial)
theorem gI.ok:bA PG cnGl 146 (gI.c,gI.sg):=meets bG all_nil gI.h (fits fun ins=>by unfold gI.c;split;exact gI.goal (.mk _ _) (.mk _ _);trivial)
theorem gU.ok:bA PG cnGl 179 (gU.c,gU.sg):=meets bG (all_cons fq.ok all_nil) gU.h (fits fun ins=>by unfold gU.c;split;exact gU.goal _ _;trivial)
theorem gV.ok:bA PG cnGl 148 (gV.c,gV.sg):=meets bG (all_cons bF.ok all_nil) gV.h (fits fun ins=>by unfold gV.c;split;exact gV.goal (.mk _ _) _;trivial)
theorem cO.ok:bA PG cnGl 120 (cO.c,cO.sg):=meets bG (all_cons fB.ok (all_cons gV.ok (all_cons cN.ok (all_cons gq.ok all_nil)))) cO.h (fits fun ins=>by unfold cO.c;split;exact cO.goal (.mk _ _);trivial)
theorem fE.ok:bA PG cnGl 147 (fE.c,fE.sg):=meets bG (all_cons gU.ok all_nil) fE.h (fits fun ins=>by unfold fE.c;split;exact fE.goal;trivial)
theorem dh.ok:bA PG cnGl 117 (dh.c,dh.sg):=meets bG (all_cons gI.ok (all_cons fE.ok all_nil)) dh.h (fits fun ins=>by unfold dh.c;split;exact dh.goal _ _;trivial)
theorem dS.ok:bA PG cnGl 118 (dS.c,dS.sg):=meets bG (all_cons gI.ok (all_cons fE.ok all_nil)) dS.h (fits fun ins=>by unfold dS.c;split;exact dS.goal _ (.mk _ _) _;trivial)
theorem fw.ok:bA PG cnGl 88 (fw.c,fw.sg):=meets bG (all_cons dh.ok (all_cons dS.ok all_nil)) fw.h (fits fun ins=>by unfold fw.c;split;exact fw.goal _ _;trivial)
theorem df.ok:bA PG cnGl 119 (df.c,df.sg):=meets bG (all_cons iG.ok (all_cons fB.ok all_nil)) df.h (fits fun ins=>by unfold df.c;split;exact df.goal _ _;trivial)
theorem dR.ok:bA PG cnGl 89 (dR.c,dR.sg):=meets bG (all_cons dh.ok (all_cons df.ok (all_cons cO.ok all_nil))) dR.h (fits fun ins=>by unfold dR.c;split;exact dR.goal _ _;trivial)
theorem cQ.ok:bA PG cnGl 90 (cQ.c,cQ.sg):=meets bG all_nil cQ.h (fits fun ins=>by unfold cQ.c;split;exact cQ.goal _;trivial)
theorem fU.ok:bA PG cnGl 54 (fU.c,fU.sg):=meets bG all_nil fU.h (fits fun ins=>by unfold fU.c;split;exact fU.goal _;trivial)
theorem gJ.ok:bA PG cnGl 55 (gJ.c,gJ.sg):=meets bG (all_cons eY.ok all_nil) gJ.h (fits fun ins=>by unfold gJ.c;split;exact gJ.goal _;trivial)
theorem fV.ok:bA PG cnGl 51 (fV.c,fV.sg):=meets bG all_nil fV.h (fits fun ins=>by unfold fV.c;split;exact fV.goal _ (.mk _ _ _);trivial)
theorem fT.ok:bA PG cnGl 53 (fT.c,fT.sg):=meets bG all_nil fT.h (fits fun ins=>by unfold fT.c;split;exact fT.goal _ (.mk _ _ _) _ (.mk _ _ _);trivial)
theorem dE.ok:bA PG cnGl 87 (dE.c,dE.sg):=meets bG (all_cons cd.ok all_nil) dE.h (fits fun ins=>by unfold dE.c;split;exact dE.goal _;trivial)
theorem eh.ok:bA PG cnGl 56 (eh.c,eh.sg):=meets bG (all_cons fV.ok (all_cons fT.ok (all_cons fU.ok (all_cons gJ.ok (all_cons eY.ok (all_cons dC.ok (all_cons dE.ok (all_cons fw.ok (all_cons dR.ok all_nil))))))))) eh.h (fits fun ins=>by unfold eh.c;split;exact eh.goal (.mk _ _ _ _ _ _ _ _ _);trivial)
theorem gm.ok:bA PG cnGl 57 (gm.c,gm.sg):=meets bG (all_cons fV.ok (all_cons fT.ok (all_cons fU.ok (all_cons cQ.ok (all_cons cd.ok all_nil))))) gm.h (fits fun ins=>by unfold gm.c;split;exact gm.goal (.mk _ _ _ _ _ _ _ _ _);trivial)
theorem PE.Dg:∀n:Nat,(bA PG cnGl 21 (cD.cn n,cD.sg))∧(bA PG cnGl 36 (di.cn n,di.sg)):=by
 intro n
 induction n with
 | zero=>exact ⟨jK (by intro ti nI h;unfold cD.cn at h;split at h;exact absurd (aW.1 h.1).2 (by simp);exact h.elim),jK (by intro ti nI h;unfold di.cn at h;split at h;exact absurd (aW.1 h.1).2 (by simp);exact h.elim)⟩
 | succ n ih =>
  obtain ⟨DR,Sf⟩:=ih
  exact ⟨meets bG (all_cons Sf all_nil) cD.h (fits fun ins=>by unfold cD.cn;split;exact cD.goal _ _;trivial),meets bG (all_cons DR (all_cons cY.ok (all_cons fV.ok (all_cons bN.ok (all_cons fT.ok (all_cons fU.ok (all_cons gJ.ok (all_cons eh.ok (all_cons gm.ok all_nil))))))))) di.h (fits fun ins=>by unfold di.cn;split;exact di.goal _ (.mk _ _ _ _ _ _ _ _ _);trivial)⟩
theorem cD.ok:bA PG cnGl 21 (cD.c,cD.sg):=lS fun ti nI h=>by
 unfold cD.c at h
 split at h
 ·obtain ⟨hp,rfl⟩:=h;exact ⟨cD.cn (_+1),(PE.Dg _).1,aW.2 ⟨hp,aa (Nat.lt_succ_self _)⟩,rfl⟩
 ·exact h.elim
theorem fF.ok:bA PG cnGl 9 (fF.c,fF.sg):=meets bG (all_cons dH.ok (all_cons cD.ok all_nil)) fF.h (fits fun ins=>by unfold fF.c;split;exact fF.goal (.mk _ _ _ _ _ _ _ _ _);trivial)
theorem iH.ok:bA PG cnGl 74 (iH.c,iH.sg):=meets bG (all_cons dJ.ok all_nil) iH.h (fits fun ins=>by unfold iH.c;split;exact iH.goal _;trivial)
theorem I3.Dg:∀n:Nat,(bA PG cnGl 39 (bP.cn n,bP.sg)):=by
 intro n
 induction n with
 | zero=>exact jK (by intro ti nI h;unfold bP.cn at h;split at h;exact absurd (aW.1 h.1).2 (by simp);exact h.elim)
 | succ n ih =>
  have DR:=ih
  exact meets bG (all_cons DR (all_cons bD.ok (all_cons iH.ok all_nil))) bP.h (fits fun ins=>by unfold bP.cn;split;exact bP.goal _ (.mk _ _ _);trivial)
theorem bP.ok:bA PG cnGl 39 (bP.c,bP.sg):=lS fun ti nI h=>by
 unfold bP.c at h
 split at h
 ·obtain ⟨hp,rfl⟩:=h;exact ⟨bP.cn (_+1),(I3.Dg _),aW.2 ⟨hp,aa (Nat.lt_succ_self _)⟩,rfl⟩
 ·exact h.elim
theorem cm.ok:bA PG cnGl 106 (cm.c,cm.sg):=meets bG (all_cons iH.ok (all_cons cd.ok (all_cons cX.ok all_nil))) cm.h (fits fun ins=>by unfold cm.c;split;exact cm.goal _;trivial)
theorem jo_quoted.ok:bA PG cnGl 75 (jo_quoted.c,jo_quoted.sg):=meets bG (all_cons cm.ok all_nil) jo_quoted.h (fits fun ins=>by unfold jo_quoted.c;split;exact jo_quoted.goal _ _;trivial)
theorem Oo.Dg:∀n:Nat,(bA PG cnGl 40 (bY.cn n,bY.sg)):=by
 intro n
 induction n with
 | zero=>exact jK (by intro ti nI h;unfold bY.cn at h;split at h;exact absurd (aW.1 h.1).2 (by simp);exact h.elim)
 | succ n ih =>
  have DR:=ih
  exact meets bG (all_cons DR (all_cons jo_quoted.ok all_nil)) bY.h (fits fun ins=>by unfold bY.cn;split;exact bY.goal _ _ (.mk _ _ _);trivial)
theorem bY.ok:bA PG cnGl 40 (bY.c,bY.sg):=lS fun ti nI h=>by
 unfold bY.c at h
 split at h
 ·obtain ⟨hp,rfl⟩:=h;exact ⟨bY.cn (_+1),(Oo.Dg _),aW.2 ⟨hp,aa (Nat.lt_succ_self _)⟩,rfl⟩
 ·exact h.elim
theorem ft.ok:bA PG cnGl 24 (ft.c,ft.sg):=meets bG (all_cons bP.ok (all_cons bY.ok all_nil)) ft.h (fits fun ins=>by unfold ft.c;split;exact ft.goal (.mk _ _ _);trivial)
theorem gn.ok:bA PG cnGl 11 (gn.c,gn.sg):=meets bG (all_cons fF.ok (all_cons ft.ok all_nil)) gn.h (fits fun ins=>by unfold gn.c;split;exact gn.goal (.mk _ _ _ _ _ _ _ _ _);trivial)
theorem LB.Dg:∀n:Nat,(bA PG cnGl 14 (r22_Same.cn n,r22_Same.sg)):=by
 intro n
 induction n with
 | zero=>exact jK (by intro ti nI h;unfold r22_Same.cn at h;split at h;exact absurd (aW.1 h.1).2 (by simp);exact h.elim)
 | succ n ih =>
  have DR:=ih
  exact meets bG (all_cons DR all_nil) r22_Same.h (fits fun ins=>by unfold r22_Same.cn;split;exact r22_Same.goal _ (.mk _ _ _) (.mk _ _ _);trivial)
theorem r22_Same.ok:bA PG cnGl 14 (r22_Same.c,r22_Same.sg):=lS fun ti nI h=>by
 unfold r22_Same.c at h
 split at h
 ·obtain ⟨hp,rfl⟩:=h;exact ⟨r22_Same.cn (_+1),(LB.Dg _),aW.2 ⟨hp,aa (Nat.lt_succ_self _)⟩,rfl⟩
 ·exact h.elim
theorem VF.ok:bA PG cnGl 77 (VF.c,VF.sg):=meets bG all_nil VF.h (fits fun ins=>by unfold VF.c;split;exact VF.goal _;trivial)
theorem VD.ok:bA PG cnGl 79 (VD.c,VD.sg):=meets bG all_nil VD.h (fits fun ins=>by unfold VD.c;split;exact VD.goal _;trivial)
theorem Vl.ok:bA PG cnGl 109 (Vl.c,Vl.sg):=meets bG all_nil Vl.h (fits fun ins=>by unfold Vl.c;split;exact Vl.goal _;trivial)
theorem Vy.ok:bA PG cnGl 107 (Vy.c,Vy.sg):=meets bG (all_cons Vk.ok all_nil) Vy.h (fits fun ins=>by unfold Vy.c;split;exact Vy.goal _ _;trivial)
theorem VM.ok:bA PG cnGl 136 (VM.c,VM.sg):=meets bG all_nil VM.h (fits fun ins=>by unfold VM.c;split;exact VM.goal _;trivial)
theorem VK.ok:bA PG cnGl 108 (VK.c,VK.sg):=meets bG (all_cons VM.ok all_nil) VK.h (fits fun ins=>by unfold VK.c;split;exact VK.goal _;trivial)
theorem Vr.ok:bA PG cnGl 78 (Vr.c,Vr.sg):=meets bG (all_cons Vg.ok (all_cons Vy.ok (all_cons VK.ok (all_cons Vl.ok all_nil)))) Vr.h (fits fun ins=>by unfold Vr.c;split;exact Vr.goal _ _;trivial)
theorem nk.ok:bA PG cnGl 42 (nk.c,nk.sg):=meets bG (all_cons eF.ok (all_cons VF.ok (all_cons Vr.ok (all_cons VD.ok all_nil)))) nk.h (fits fun ins=>by unfold nk.c;split;exact nk.goal _ _;trivial)
theorem VI.ok:bA PG cnGl 29 (VI.c,VI.sg):=meets bG (all_cons nk.ok all_nil) VI.h (fits fun ins=>by unfold VI.c;split;exact VI.goal (.mk _ _ _ _ _ _ _ _ _);trivial)
theorem VG.ok:bA PG cnGl 31 (VG.c,VG.sg):=meets bG all_nil VG.h (fits fun ins=>by unfold VG.c;split;exact VG.goal (.mk _ _ _ _ _ _ _ _ _) _;trivial)
theorem Zq.Dg:∀n:Nat,(bA PG cnGl 30 (Vq.cn n,Vq.sg))∧(bA PG cnGl 43 (Vm.cn n,Vm.sg)):=by
 intro n
 induction n with
 | zero=>exact ⟨jK (by intro ti nI h;unfold Vq.cn at h;split at h;exact absurd (aW.1 h.1).2 (by simp);exact h.elim),jK (by intro ti nI h;unfold Vm.cn at h;split at h;exact absurd (aW.1 h.1).2 (by simp);exact h.elim)⟩
 | succ n ih =>
  obtain ⟨DR,Sf⟩:=ih
  exact ⟨meets bG (all_cons VI.ok (all_cons VG.ok (all_cons Sf all_nil))) Vq.h (fits fun ins=>by unfold Vq.cn;split;exact Vq.goal _ (.mk _ _ _ _ _ _ _ _ _) _;trivial),meets bG (all_cons VI.ok (all_cons DR (all_cons VG.ok all_nil))) Vm.h (fits fun ins=>by unfold Vm.cn;split;exact Vm.goal _ (.mk _ _ _ _ _ _ _ _ _) _ _;trivial)⟩
theorem Vq.ok:bA PG cnGl 30 (Vq.c,Vq.sg):=lS fun ti nI h=>by
 unfold Vq.c at h
 split at h
 ·obtain ⟨hp,rfl⟩:=h;exact ⟨Vq.cn (_+1),(Zq.Dg _).1,aW.2 ⟨hp,aa (Nat.lt_succ_self _)⟩,rfl⟩
 ·exact h.elim
theorem Vw.ok:bA PG cnGl 17 (Vw.c,Vw.sg):=meets bG (all_cons VI.ok (all_cons Vq.ok (all_cons VG.ok all_nil))) Vw.h (fits fun ins=>by unfold Vw.c;split;exact Vw.goal _ _;trivial)
end Go.Eng
set_option maxRecDepth 20000
namespace Go.Eng
open Go.Proofs
theorem dw.ok:bA PG cnGl 7 (dw.c,dw.sg):=meets bG (all_cons gn.ok all_nil) dw.h (fits fun ins=>by unfold dw.c;split;exact dw.goal;trivial)
end Go.Eng
set_option maxRecDepth 100000
namespace Go.Eng
open Go.Proofs
noncomputable section
def CanonForm.sg:bW:={}
def CanonForm.c:eS:=fun l=>match l with
 | [.ag [.i .i64 lK,.u64 lN,.u64 lL,.u64 lJ,.s lG,.s lI,.i .i64 lH,.sl .bs lF,.sl .fl lM]] => .ok [(.b (true))]
 | _ => .err
def CanonForm.E:cC:=cT fQ zs [(7,(dw.c,dw.sg)),(8,(dI.c,dI.sg)),(9,(fF.c,fF.sg)),(11,(gn.c,gn.sg)),(14,(r22_Same.c,r22_Same.sg)),(16,(Ve.c,Ve.sg)),(17,(Vw.c,Vw.sg)),(18,(s4.c,s4.sg))]
def CanonForm.h:Hint := .o
def CanonForm.F (v:Val):OT:=cR PG CanonForm.E 5 CanonForm.sg CanonForm.h [(.ag (Val.cells v))]
theorem CanonForm.bZ (v:Val) {ρ:OT} (K:∀(v1:Bool) (h1:v1=(!(!(decide (0≤eU.value 1200 (bJ.of [] v)))))) (v2:Int) (h2:v2=((Tree.depth (bJ.of [] v):Int))) (v3:Bool) (h3:v3=(cond (!(decide (0≤eU.value 1200 (bJ.of [] v)))) true (decide ((200:Int)<v2)))) (v4:Int) (h4:v4=(IntKind.i64.wrap ((2:Int) * v2))) (v5:Int) (h5:v5=(IntKind.i64.wrap (v4+(2:Int)))) (v6:bM) (h6:v6=((Jp.parse ((Cn.tV v)) v5).1)) (v7:Int) (h7:v7=((Jp.parse ((Cn.tV v)) v5).2.1)) (v8:Int) (h8:v8=((Jp.parse ((Cn.tV v)) v5).2.2)) (v9:Bool) (h9:v9=(cond (decide ((Cn.mE (Cn.jf v))=(0:Int))) (decide ((bM.kind (Cn.jf v))=(7:Int))) false)) (v10:Bool) (iA:v10=(cond v9 (decide (v7=(0:Int))) false)) (v11:Bool) (ki:v11=(cond v10 (Cn.mW v6 (Cn.jf v)) false)),cond (!(true))
  (some [(.b false)])
  (ck (!v1 || (v1&&(decide (bJ.bO (bJ.of [] v)≤1099511627776)))) (ck (!v1 || v1) (ck ((!(decide (0≤eU.value 1200 (bJ.of [] v)))) || v1) (cond v3
  (some [(.b true)])
  (ck (decide (bJ.bO (bJ.of [] v)≤1099511627776)) (ck (decide (bJ.bO (bJ.of [] v)≤100000)) (cond (!decide ((Cn.jv v).2=(0:Int)))
  (some [(.b (decide ((Cn.tV v)=([]:bz))))])
  (ck (decide (bJ.bO (bJ.of [] v)≤1099511627776)) (ck (decide ((((Cn.tV v))).length≤1000000000000)) (ck (decide (bM.bO (Cn.jf v)≤1099511627776)) (ck (!(decide ((Cn.mE (Cn.jf v))=(0:Int))) || (decide ((Cn.mE (Cn.jf v))=(0:Int)))) (ck (!(decide ((Cn.mE (Cn.jf v))=(0:Int))) || (decide ((Cn.mE (Cn.jf v))=(0:Int)))) (ck (!(decide ((Cn.mE (Cn.jf v))=(0:Int))) || (decide ((Cn.mE (Cn.jf v))=(0:Int)))) (ck (!v9 || v9) (ck (!v9 || v9) (ck (!v9 || v9) (ck (!v10 || ((v10&&v10)&&(decide (bM.bO v6≤1099511627776)))) (ck (!v10 || v10) (some [(.b v11)])))))))))))))))))))=ρ):CanonForm.F v=ρ:=Eq.trans (by kernel_rfl) (K _ rfl _ rfl _ rfl _ rfl _ rfl _ rfl _ rfl _ rfl _ rfl _ rfl _ rfl)
end
end Go.Eng
set_option maxRecDepth 20000
namespace Go.Eng
open Go.IntWalk
open Nr (Shape)
theorem Y0 (n:Nat):(Nr.dec n).headD 0≠45∧Nr.dV ((Nr.dec n).headD 0)=true:=by
 obtain ⟨d1,_,d3,_⟩:=Nr.lC n
 cases e:Nr.dec n with
 | nil=>exact (d3 e).elim
 | cons c r =>
  rw [e,List.all_cons,ah] at d1
  refine ⟨fun w=>?_,d1.1⟩
  rw [List.headD_cons] at w
  rw [w] at d1;exact absurd d1.1 (by decide)
theorem UT (x:UInt8):(mJ (x &&& 3) 4).toNat=x.toNat % 4 * 16:=by
 have h:(x &&& (3:UInt8)).toNat=x.toNat % 4:=by rw [UInt8.toNat_and,show (3:UInt8).toNat=2 ^ 2 - 1 from rfl,Nat.and_two_pow_sub_one_eq_mod]
 unfold mJ
 rw [h,UInt8.toNat_ofNat'];omega
theorem Np (x:UInt8):(mJ (x &&& 15) 2).toNat=x.toNat % 16 * 4:=by
 have h:(x &&& (15:UInt8)).toNat=x.toNat % 16:=by rw [UInt8.toNat_and,show (15:UInt8).toNat=2 ^ 4 - 1 from rfl,Nat.and_two_pow_sub_one_eq_mod]
 unfold mJ
 rw [h,UInt8.toNat_ofNat'];omega
theorem q0 (a:UInt8):(kX a 2).toNat=a.toNat / 4:=Lj a 2
end Go.Eng
set_option maxRecDepth 20000
namespace Go.Eng
open Go.IntWalk
open Nr (Shape)
theorem Xw (c:Nat) (x:Int):∃a b fr ex e,Shape (Cn.laid (Nr.dec c) x) a b fr ex e∧Nr.num (a++b)=c∧Nr.xU e - (b.length:Int)=x:=by
 obtain ⟨d1,d2,d3,_⟩:=Nr.lC c
 generalize Nr.dec c=d at d1 d2 d3
 have hl:=List.length_pos_iff.2 d3
 unfold Cn.laid
 simp only
 by_cases c1:x=0
 ·rw [aw c1]
  exact ⟨d,[],[],[],[],⟨by simp,d3,d1,.inl ⟨rfl,rfl⟩,rfl,.inl ⟨rfl,rfl⟩,rfl⟩,by rw [bj];exact d2,by rw [c1];rfl⟩
 rw [au c1]
 by_cases c2:x<0∧-6≤x+(d.length:Int) - 1
 ·rw [aw c2]
  obtain ⟨z,hz,z1,z2,z3⟩:∃z:bz,(if (d.length:Int)≤-x then List.replicate (1 - x - (d.length:Int)).toNat 48++d else d)=z∧z.all Nr.dV=true∧Nr.num z=c∧0<(z.length:Int)+x:=by
   refine ⟨_,rfl,?_⟩
   by_cases k:(d.length:Int)≤-x
   ·rw [aw k]
    refine ⟨?_,?_,?_⟩
    ·rw [List.all_append,d1,Bool.and_true,aC]
     intro y hy;rw [List.eq_of_mem_replicate hy];rfl
    ·rw [Nr.gC,Nr.jt,d2];omega
    ·rw [ao,List.length_replicate];omega
   ·rw [au k];exact ⟨d1,d2,by omega⟩
  rw [hz]
  obtain ⟨k1,k2⟩:=Sh.te z1 ((z.length:Int)+x).toNat
  have l1:(z.take ((z.length:Int)+x).toNat).length=((z.length:Int)+x).toNat:=by rw [aF];omega
  have l2:(z.drop ((z.length:Int)+x).toNat).length=(-x).toNat:=by rw [aU];omega
  refine ⟨z.take ((z.length:Int)+x).toNat,z.drop ((z.length:Int)+x).toNat,46 :: z.drop ((z.length:Int)+x).toNat,[],[],⟨by simp,?_,k2,.inr ⟨rfl,?_⟩,k1,.inl ⟨rfl,rfl⟩,rfl⟩,?_,?_⟩
  ·intro e;rw [e,aB] at l1;omega
  ·intro e;rw [e,aB] at l2;omega
  ·rw [List.take_append_drop];exact z2
  ·rw [l2,show Nr.xU []=0 from rfl];omega
 ·rw [au c2]
  have t1:(d.take 1).all Nr.dV=true:=(Sh.te d1 1).2
  have t2:(d.drop 1).all Nr.dV=true:=(Sh.te d1 1).1
  have t3:d.take 1≠[]:=by intro e;have:=congrArg List.length e;rw [aF,aB] at this;omega
  have tl:(d.drop 1).length=d.length - 1:=aU
  -- the exponent
  obtain ⟨ch,e,ee,e1,e2,e3,e5,e6,e7⟩:∃(ch:UInt8) (e s:bz),s=ch :: e∧Nr.HC ch=true∧Nr.signed e≠[]∧(Nr.signed e).all Nr.dV=true∧Nr.xU e=x+d.length - 1 ∧
    (∀t:bz,(if x+(d.length:Int) - 1<0 then t++[69,45]++Nr.itoa (-(x+(d.length:Int) - 1)) else t++[69,43]++Nr.itoa (x+(d.length:Int) - 1))=t++s):=by
   by_cases k:x+(d.length:Int) - 1<0
   ·obtain ⟨f1,f2⟩:=Sh.Ei (v:=-(x+(d.length:Int) - 1)) (by omega)
    obtain ⟨_,g1,_,g2⟩:=Sh.nM (v:=-(x+(d.length:Int) - 1)) (by omega)
    exact ⟨69,45 :: Nr.itoa (-(x+(d.length:Int) - 1)),_,rfl,rfl,by rw [f2];exact g2,by rw [f2];exact g1,by rw [f1];omega,fun t=>by rw [aw k,aG];rfl⟩
   ·obtain ⟨f1,f2⟩:=Sh.Eh (v:=x+(d.length:Int) - 1) (by omega)
    obtain ⟨_,g1,_,g2⟩:=Sh.nM (v:=x+(d.length:Int) - 1) (by omega)
    exact ⟨69,43 :: Nr.itoa (x+(d.length:Int) - 1),_,rfl,rfl,by rw [f2];exact g2,by rw [f2];exact g1,by rw [f1],fun t=>by rw [au k,aG];rfl⟩
  rw [e7]
  by_cases k:1<(d.length:Int)
  ·rw [aw k]
   refine ⟨d.take 1,d.drop 1,46 :: d.drop 1,ee,e,⟨rfl,t3,t1,.inr ⟨rfl,?_⟩,t2,.inr ⟨ch,e2,e1,e3⟩,e5⟩,?_,?_⟩
   ·intro w;rw [w,aB] at tl;omega
   ·rw [List.take_append_drop];exact d2
   ·rw [e6,tl];omega
  ·rw [au k]
   refine ⟨d.take 1,[],[],ee,e,⟨by rw [bj],t3,t1,.inl ⟨rfl,rfl⟩,rfl,.inr ⟨ch,e2,e1,e3⟩,e5⟩,?_,?_⟩
   ·rw [bj,List.take_of_length_le (by omega)];exact d2
   ·rw [e6,aB];omega
end Go.Eng
set_option maxRecDepth 20000
namespace Go.Eng
open Go.IntWalk
theorem W9 {v:Val} (h:Tree.own v=0):Tree.name v.kind≠[]∧Tree.j7 v=true:=by
 unfold Tree.own at h
 by_cases c:Tree.name v.kind=[]
 ·rw [aw c] at h;exact absurd h (by decide)
 ·rw [au c] at h
  refine ⟨c,?_⟩
  cases d:Tree.j7 v with
  | true=>rfl
  | false=>rw [aw d] at h;exact absurd h (by decide)
theorem Yp {v:Val} (h:Tree.j7 v=true):(Tree.xH 0 v.kind=true∨v.bits=0)∧(Tree.xH 1 v.kind=true∨(v.high=0∧v.low=0))∧(Tree.xH 2 v.kind=true∨v.text=[])∧(Tree.xH 3 v.kind=true∨v.more=[])∧(Tree.xH 4 v.kind=true∨v.sub=0)∧(Tree.xH 5 v.kind=true∨v.bytes=[])∧(Tree.xH 6 v.kind=true∨v.kids=[])∧(v.kind=16→v.bits<4294967296)∧(v.kind=8→v.bits<2)∧0≤v.sub∧v.sub≤255:=by
 unfold Tree.j7 at h
 simp only [ah,Bool.or_eq_true,aA,Bool.not_eq_true',decide_eq_false_iff_not] at h
 obtain ⟨⟨⟨⟨⟨⟨⟨⟨⟨⟨h0,h1⟩,h2⟩,h3⟩,h4⟩,h5⟩,h6⟩,h7⟩,h8⟩,h9⟩,_⟩:=h
 exact ⟨h0,h1,h2,h3,h4,h5,h6,fun e=>h7.resolve_left (fun w=>w e),fun e=>h8.resolve_left (fun w=>w e),h9.1,h9.2⟩
end Go.Eng
set_option maxRecDepth 20000
namespace Go.Eng
open Go.IntWalk
theorem Xz {v:Val} {n:bz} (h:Tree.tH v n=0):Tree.own v=0:=by
 unfold Tree.tH at h
 by_cases c:Tree.own v=0
 ·exact c
 ·rw [aw c] at h;exact (c h).elim
theorem W2 {n:bz} {k:Int} {b h l:UInt64} {t m:bz} {s:Int} {y:bz} {ks:List bJ} {p:List Int} (c:(Tree.iT (.mk n k b h l t m s y ks) p).2=0):Tree.own ⟨k,b,h,l,t,m,s,y,ks⟩=0∧(Tree.sZ ks 0 p).2=0:=by
 rw [Tree.iT] at c
 by_cases d:Tree.tH ⟨k,b,h,l,t,m,s,y,ks⟩ n=0
 ·rw [au (by simp [d])] at c
  exact ⟨Xz d,c⟩
 ·rw [aw d] at c;exact (d c).elim
theorem X2 {f:bJ} {r:List bJ} {i:Nat} {p:List Int} (c:(Tree.sZ (f :: r) i p).2=0):(Tree.iT f (p++[(i:Int)])).2=0∧(Tree.sZ r (i+1) p).2=0:=by
 rw [Tree.sZ] at c
 by_cases d:(Tree.iT f (p++[(i:Int)])).2=0
 ·rw [au (by simp [d])] at c;exact ⟨d,c⟩
 ·rw [aw d] at c;exact (d c).elim
end Go.Eng
set_option maxRecDepth 20000
namespace Go.Eng
open Go.IntWalk
theorem WJ:∀(m:Nat) (l:bz),l.length≤m→(∀x∈l,x.toNat<128)→fy.look l=(l.length,l.length)
 | m,[],_,_=>by
  have:=fy.BH [] (by decide)
  rw [this];rfl
 | 0,_ :: _,h,_=>by simp at h
 | m+1,c :: r,h,ha=>by
  have hc:=ha c (List.mem_cons_self ..)
  have e:(fy.rune (c :: r)).2=1:=by simp [fy.rune,hc]
  rw [fy.BG _ (by rw [e];decide),e]
  have ih:=WJ m r (by simpa using h) fun x hx=>ha x (List.mem_cons_of_mem _ hx)
  show ((fy.look r).1+1,(fy.look r).2+1)=_
  rw [ih,ay]
theorem WL {l:bz} (h:∀x∈l,x.toNat<128):fy.whole l=true:=by
 unfold fy.whole
 rw [WJ l.length l (Nat.le_refl _) h]
 exact aa rfl
theorem Xc (n:Nat):∀x∈Nr.dec n,x.toNat<128:=fun x hx=>(Nr.vQ (aC.1 (Nr.lC n).1 x hx)).2.2.1
theorem Wt (v:Int):∀x∈Nr.itoa v,x.toNat<128:=by
 rw [Nr.nN]
 split
 ·intro x hx
  rcases aO.1 hx with rfl | hx
  ·decide
  ·exact Xc _ x hx
 ·exact Xc _
theorem Xp:∀n,n<16→(lE.sign n).toNat<128:=by decide
theorem Wa:∀l:bz,∀x∈lE.text l,x.toNat<128
 | [],x,hx=>by simp [lE.text] at hx
 | c :: r,x,hx=>by
  have hc:=Ip c
  rw [lE.text,List.mem_append] at hx
  rcases hx with hx | hx
  ·simp only [lE.two,aO,List.not_mem_nil,or_false] at hx
   rcases hx with rfl | rfl
   ·exact Xp _ (by omega)
   ·exact Xp _ (by omega)
  ·exact Wa r x hx
theorem ZE:∀n,n<256→(Cn.sign (UInt8.ofNat n)).toNat<128:=by decide +kernel
theorem V4 (c:UInt8):(Cn.sign c).toNat<128:=by
 have:=ZE c.toNat (Ip c)
 rwa [UInt8.ofNat_toNat] at this
theorem W3:∀l:bz,∀x∈Cn.base l,x.toNat<128
 | [],x,hx=>by simp [Cn.base] at hx
 | [a],x,hx=>by
  simp only [Cn.base,aO,List.not_mem_nil,or_false] at hx
  rcases hx with rfl | rfl | rfl | rfl
  ·exact V4 _
  ·exact V4 _
  ·decide
  ·decide
 | [a,b],x,hx=>by
  simp only [Cn.base,aO,List.not_mem_nil,or_false] at hx
  rcases hx with rfl | rfl | rfl | rfl
  ·exact V4 _
  ·exact V4 _
  ·exact V4 _
  ·decide
 | a :: b :: c :: r,x,hx=>by
  simp only [Cn.base,aO] at hx
  rcases hx with rfl | rfl | rfl | rfl | hx
  ·exact V4 _
  ·exact V4 _
  ·exact V4 _
  ·exact V4 _
  ·exact W3 r x hx
theorem WK {t a b fr ex e:bz} (h:Nr.Shape t a b fr ex e):∀x∈t,x.toNat<128:=by
 have hb:Nr.body t=t:=by
  have:=Sh.Yi h
  unfold Nr.body
  split
  ·rw [List.getD_cons_zero] at this;exact absurd this (by decide)
  ·rfl
 have:=Nr.Shape.ZU (s:=t) (by rw [hb];exact h)
 rw [hb] at this
 exact fun x hx=>ar (aC.1 this x hx)
theorem Xv (h l:UInt64):∀x∈Cn.sW h l,x.toNat<128:=by
 unfold Cn.sW
 simp only
 split
 ·decide
 ·have ht:∀x∈(if (Cn.split h l).1=2 then ([73,110,102,105,110,105,116,121]:bz) else Cn.laid (Nr.dec (Cn.split h l).2.2.1.val) (Cn.split h l).2.2.2),x.toNat<128:=by
   split
   ·decide
   ·obtain ⟨a,b,fr,ex,e,s,_⟩:=Xw (Cn.split h l).2.2.1.val (Cn.split h l).2.2.2
    exact WK s
  cases (Cn.split h l).2.1 with
  | false=>exact ht
  | true =>
   intro x hx
   rcases aO.1 hx with rfl | hx
   ·decide
   ·exact ht x hx
theorem Xy (b:UInt64):∀x∈Sh.text b,x.toNat<128:=by
 by_cases c:(Nr.split b).1=4
 ·rw [Sh.CH c];decide
 ·rw [Sh.FL c]
  have hs:∀x∈Sh.sign b,x.toNat<128:=by unfold Sh.sign;split <;> decide
  have ht:∀x∈Sh.tb b,x.toNat<128:=by
   unfold Sh.tb
   split
   ·decide
   split
   ·decide
   ·rename_i c3 c1
    have sk:=rS b
    obtain ⟨⟨_,r2,r3,r4⟩,hL,hr⟩:=Ez (b:=b) (by omega)
    obtain ⟨a,b,fr,ex,e,s,_⟩:=Sh.zw hL r2 ⟨by omega,by omega⟩
    exact WK s
  intro x hx
  rcases List.mem_append.1 hx with hx | hx
  ·exact hs x hx
  ·exact ht x hx
theorem VQ {s:bz} (h:fy.whole s=true):Cn.mE (Cn.str s)=0:=by
 simp [Cn.mE,Cn.str,Mem.of,Cn.zO,Cn.sY,h]
theorem YR (v:Int):Nr.iX (Nr.itoa v)≠0:=by
 obtain ⟨d1,d2,d3,d4⟩:=Nr.lC v.natAbs
 have hb:Nr.body (Nr.itoa v)=Nr.dec v.natAbs:=by
  rw [Nr.nN]
  split
  ·rfl
  ·have:=(Y0 v.natAbs).1
   unfold Nr.body
   split
   ·rename_i e;rw [e] at this;exact (this rfl).elim
   ·rfl
 have s:Nr.Shape (Nr.body (Nr.itoa v)) (Nr.dec v.natAbs) [] [] [] []:=⟨by rw [hb];simp,d3,d1,.inl ⟨rfl,rfl⟩,rfl,.inl ⟨rfl,rfl⟩,rfl⟩
 refine Sh.Yh s ?_
 by_cases c:v.natAbs=0
 ·rw [c,Nr.kB (by omega)];exact .inl rfl
 ·exact .inr (d4 (by omega))
theorem WO (v:Int) (h:Nr.i64 v=true):Cn.mE (Cn.num v)=0:=by
 have h1:=YR v
 have h2:(Nr.itoa v).length≤21:=by
  have h:=ar h
  rw [Nr.nN]
  have:=Nr.ik 20 v.natAbs (by rw [t20];omega) (by omega)
  split
  ·simp only [ay];omega
  ·omega
 have h3:¬300<(Nr.itoa v).length:=by omega
 simp [Cn.mE,Cn.num,Mem.of,Cn.zO,Cn.sY,h1,h3]
theorem Ye (n:bz) (j:bM):Cn.zO (Mem.of n j)=Cn.mE j:=by
 cases j;simp only [Cn.mE,Mem.of,Cn.zO]
theorem We {l:List Mem} (h:Cn.sY l=0):Cn.mE ⟨7,[],l⟩=0:=by
 simp [Cn.mE,Mem.of,Cn.zO,h]
theorem Wl {n:bz} {j:bM} {r:List Mem} (hn:fy.whole n=true) (hj:Cn.mE j=0) (hr:Cn.sY r=0):Cn.sY (Mem.of n j :: r)=0:=by
 rw [Cn.sY,Ye,au (by rw [show (Mem.of n j).name=n from rfl,hn];simp),au (by simp [hj]),hr]
theorem VN {n:bz} {j:bM} (hn:fy.whole n=true) (hj:Cn.mE j=0):Cn.mE (Cn.one n j)=0:=We (Wl hn hj rfl)
theorem Wz {n m:bz} {j k:bM} (hn:fy.whole n=true) (hj:Cn.mE j=0) (hm:fy.whole m=true) (hk:Cn.mE k=0):Cn.mE (Cn.two n j m k)=0:=We (Wl hn hj (Wl hm hk rfl))
theorem W1 {k:Int} (h:k=1∨k=2∨k=3):Cn.mE ⟨k,[],[]⟩=0:=by
 rcases h with rfl | rfl | rfl <;> simp [Cn.mE,Mem.of,Cn.zO,Cn.sY]
theorem Xs {v:Val} (h:Tree.own v=0):fy.whole v.text=true∧fy.whole v.more=true:=by
 obtain ⟨n,f⟩:=W9 h
 unfold Tree.own at h
 rw [au n,au (by simp [f])] at h
 by_cases c:Tree.gH v.text (decide (v.kind=11))=false∨Tree.gH v.more (decide (v.kind=11))=false
 ·rw [aw c] at h;exact absurd h (by decide)
 ·have c1:Tree.gH v.text (decide (v.kind=11))=true:=by
   cases e:Tree.gH v.text (decide (v.kind=11)) with
   | true=>rfl
   | false=>exact (c (.inl e)).elim
  have c2:Tree.gH v.more (decide (v.kind=11))=true:=by
   cases e:Tree.gH v.more (decide (v.kind=11)) with
   | true=>rfl
   | false=>exact (c (.inr e)).elim
  unfold Tree.gH at c1 c2
  rw [ah] at c1 c2
  exact ⟨c1.1,c2.1⟩
theorem Y1 {v:Val} (o:Tree.own v=0):Cn.mE (Cn.xl v)=0:=by
 obtain ⟨n1,f1⟩:=W9 o
 obtain ⟨t1,t2⟩:=Xs o
 obtain ⟨_,_,_,_,_,_,_,_,b8,_⟩:=Yp f1
 have w:∀{l:bz},(∀x∈l,x.toNat<128)→fy.whole l=true:=fun h=>WL h
 unfold Cn.xl
 split
 ·exact VN (w (by decide)) (W1 (.inr (.inr rfl)))
 split
 ·rename_i c8
  have q:=b8 c8
  rw [aV] at q
  have q:v.bits.toNat<2:=q
  apply W1
  unfold Cn.i64
  rcases (show v.bits.toNat=0∨v.bits.toNat=1 by omega) with e | e <;> rw [e]
  ·exact .inr (.inl (by decide))
  ·exact .inr (.inr (by decide))
 split
 ·exact W1 (.inl rfl)
 split
 ·exact VN (w (by decide)) (WO 1 (aa (by decide)))
 split
 ·exact VN (w (by decide)) (WO 1 (aa (by decide)))
 split
 ·unfold Cn.nW
  split
  ·split
   ·exact VN (w (by decide)) (VQ (w (Wa _)))
   ·exact VN (w (by decide)) (VQ (w (Xy _)))
  split
  ·exact VN (w (by decide)) (VN (w (by decide)) (VQ (w (Wt _))))
  split
  ·exact VN (w (by decide)) (VQ (w (Wt _)))
  split
  ·exact VN (w (by decide)) (VQ (w (Wt _)))
  split
  ·exact VN (w (by decide)) (Wz (w (by decide)) (WO _ (sR _)) (w (by decide)) (WO _ (sR _)))
  split
  ·split
   ·exact VN (w (by decide)) (VQ (w (Xv _ _)))
   ·refine VN (w (by decide)) (VQ (w fun x hx=>?_))
    rcases List.mem_append.1 hx with hx | hx <;> exact Wa _ x hx
  ·rename_i c1 c9 c16 c18 c17 c19 _ _
   rename_i hn _
   unfold Cn.nW at *
   simp_all
 ·unfold Cn.qM
  split
  ·exact VN (w (by decide)) (Wz (w (by decide)) (VQ (w (W3 _))) (w (by decide)) (VQ (w (Wa _))))
  split
  ·exact VN (w (by decide)) (VQ (w (Wa _)))
  split
  ·exact VN (w (by decide)) (Wz (w (by decide)) (VQ t1) (w (by decide)) (VQ t2))
  split
  ·exact VN (w (by decide)) (Wz (w (by decide)) (VQ t1) (w (by decide)) (VN (w (by decide)) (VQ (w (Wa _)))))
  split
  ·exact VN (w (by decide)) (VQ t1)
  split
  ·exact VN (w (by decide)) (VQ t1)
  ·exact VQ t1
end Go.Eng
set_option maxRecDepth 20000
namespace Go.Eng
theorem rZ:(m:Mem)→Cn.qP m m=true
 | .mk n k t ks=>by
  have:∀l:List Mem,(∀x∈l,Cn.qP x x=true)→Cn.jw l l=true:=by
   intro l
   induction l with
   | nil=>intro _;simp [Cn.jw]
   | cons x r ih=>intro h;simp [Cn.jw,h x (List.mem_cons_self ..),ih fun y hy=>h y (List.mem_cons_of_mem _ hy)]
  have h:=this ks fun x _=>rZ x
  simp [Cn.qP,h]
theorem sameJ_refl (j:bM):Cn.mW j j=true:=rZ _
end Go.Eng
set_option maxRecDepth 20000
namespace Go.Eng
open Go.IntWalk
theorem Ym {v:Val} {n:bz} (h:Tree.tH v n=0):fy.whole n=true:=by
 unfold Tree.tH at h
 by_cases c:Tree.own v=0
 ·rw [au (by simp [c])] at h
  cases e:Tree.gH n true with
  | false=>rw [aw e] at h;exact absurd h (by decide)
  | true=>unfold Tree.gH at e;rw [ah] at e;exact e.1
 ·rw [aw c] at h;exact (c h).elim
theorem Yu {f:bJ} {p:List Int} (c:(Tree.iT f p).2=0):fy.whole f.name=true:=by
 cases f with
 | mk n k b h l t m s y ks =>
  rw [Tree.iT] at c
  by_cases d:Tree.tH ⟨k,b,h,l,t,m,s,y,ks⟩ n=0
  ·exact Ym d
  ·rw [aw d] at c;exact (d c).elim
theorem WZ:∀l:List Mem,Cn.sY l=0→Cn.sY (l.map Cn.sz)=0∧((l.map Cn.sz).any fun m=>!decide (m.name=[]))=false
 | [],_=>⟨rfl,rfl⟩
 | m :: r,h=>by
  obtain ⟨_,h2,h3⟩:=Jp.WY h
  obtain ⟨i1,i2⟩:=WZ r h3
  have hj:Cn.mE m.val=0:=by rw [←Ye m.name m.val,Jp.Wm];exact h2
  refine ⟨Wl (by decide) hj i1,?_⟩
  rw [aX,List.any_cons,i2];rfl
mutual
theorem Zb:∀(f:bJ) (p:List Int),(Tree.iT f p).2=0→Cn.mE (Cn.nZ f)=0
 | .mk n k b h l t m s y ks,p,c=>by
  obtain ⟨o,cl⟩:=W2 c
  obtain ⟨t1,t2⟩:=Xs o
  have hm:=W0 ks 0 p cl
  have w:∀{l:bz},(∀x∈l,x.toNat<128)→fy.whole l=true:=fun h=>WL h
  rw [Cn.nZ]
  split
  ·cases Cn.mD ks with
   | true=>exact VN (w (by decide)) (We hm)
   | false=>exact We hm
  split
  ·cases Tree.regular ks with
   | true =>
    obtain ⟨i1,i2⟩:=WZ _ hm
    rw [ai]
    simp only [Cn.mE,Mem.of,Cn.zO]
    rw [au (by decide),au (by simp),au (by simp),au (by simp [i2]),au (by simp),au (by simp),i1]
   | false=>exact VN (w (by decide)) (We hm)
  split
  ·exact Wz (w (by decide)) (VQ t1) (w (by decide)) (We hm)
  ·exact Y1 o
theorem W0:∀(l:List bJ) (i:Nat) (p:List Int),(Tree.sZ l i p).2=0→Cn.sY (Cn.fM l)=0
 | [],_,_,_=>by simp [Cn.fM,Cn.sY]
 | f :: r,i,p,c=>by
  obtain ⟨c1,c2⟩:=X2 c
  rw [Cn.fM]
  exact Wl (Yu c1) (Zb f _ c1) (W0 r _ p c2)
end
theorem WW {v:Val} (h:(Cn.jv v).2=0):v.kind=3∧(Tree.iT (bJ.of [] v) []).2=0:=by
 unfold Cn.jv at h
 by_cases c:(Tree.iT (bJ.of [] v) []).2=0
 ·rw [au (by simp [c])] at h
  by_cases d:v.kind=3
  ·exact ⟨d,c⟩
  ·rw [au d] at h;exact absurd h (by decide)
 ·rw [aw c] at h;exact (c h).elim
theorem Y2 {v:Val} (h:(Cn.jv v).2=0):Cn.mE (Cn.jf v)=0:=by
 obtain ⟨_,c⟩:=WW h
 unfold Cn.jf
 rw [aw h]
 simp only [bJ.of] at c
 exact We (W0 _ _ _ (W2 c).2)
def V3 (j:bM):Nat:=Jp.V8 (Mem.of [] j)
theorem Wp (n:bz) (j:bM):Jp.V8 (Mem.of n j)=V3 j:=by cases j;simp only [V3,Mem.of,Jp.V8]
theorem YY (m:Mem):Jp.V8 m=V3 m.val:=by rw [←Wp m.name m.val,Jp.Wm]
theorem VR (s:bz):V3 (Cn.str s)=0:=by simp [V3,Cn.str,Mem.of,Jp.V8]
theorem WX (v:Int):V3 (Cn.num v)=0:=by simp [V3,Cn.num,Mem.of,Jp.V8]
theorem Wy {k:Int} {l:List Mem}:V3 ⟨k,[],l⟩≤Jp.VZ l+1:=by
 simp only [V3,Mem.of,Jp.V8];split <;> omega
theorem VO (n:bz) (j:bM):V3 (Cn.one n j)=V3 j+1:=by
 simp only [Cn.one,V3,Jp.VZ,Wp,Jp.V8,Mem.of]
 simp
theorem Wk (n m:bz) (j k:bM):V3 (Cn.two n j m k)=max (V3 j) (V3 k)+1:=by
 simp only [Cn.two,V3,Jp.VZ,Wp,Jp.V8,Mem.of]
 simp
theorem Ys (v:Val):V3 (Cn.xl v)≤3:=by
 have f:∀k:Int,V3 ⟨k,[],[]⟩≤1:=fun k=>by have:=@Wy k [];simp [Jp.VZ] at this;exact this
 unfold Cn.xl
 split
 ·rw [VO];have:=f 3;omega
 split
 ·exact Nat.le_trans (f _) (by omega)
 split
 ·exact Nat.le_trans (f _) (by omega)
 split
 ·rw [VO,WX];omega
 split
 ·rw [VO,WX];omega
 split
 ·unfold Cn.nW
  split
  ·split <;> (simp only [VO,VR];omega)
  split
  ·simp only [VO,VR];omega
  split
  ·simp only [VO,VR];omega
  split
  ·simp only [VO,VR];omega
  split
  ·simp only [VO,Wk,WX];omega
  split
  ·split <;> (simp only [VO,VR];omega)
  ·exact Nat.le_trans (f _) (by omega)
 ·unfold Cn.qM
  split
  ·simp only [VO,Wk,VR];omega
  split
  ·simp only [VO,VR];omega
  split
  ·simp only [VO,Wk,VR];omega
  split
  ·simp only [VO,Wk,VR];omega
  split
  ·simp only [VO,VR];omega
  split
  ·simp only [VO,VR];omega
  ·rw [VR];omega
theorem WM:∀l:List Mem,Jp.VZ (l.map Cn.sz)=Jp.VZ l
 | []=>rfl
 | m :: r=>by
  have e:Jp.V8 (Cn.sz m)=Jp.V8 m:=by rw [YY m];exact Wp [] m.val
  rw [aX,Jp.VZ,Jp.VZ,WM r,e]
mutual
theorem YZ:∀f:bJ,V3 (Cn.nZ f)≤2 * Tree.depth f+3
 | .mk n k b h l t m s y ks=>by
  have hm:=WI ks
  have hl:=Ys ⟨k,b,h,l,t,m,s,y,ks⟩
  rw [Cn.nZ,Tree.depth]
  have r7:=@Wy 7 (Cn.fM ks)
  by_cases c3:k=3
  ·rw [aw c3,aw (.inl c3)]
   cases Cn.mD ks with
   | true=>rw [ai,VO];omega
   | false=>rw [ae];omega
  rw [au c3]
  by_cases c4:k=4
  ·rw [aw c4,aw (.inr (.inl c4))]
   cases Tree.regular ks with
   | true =>
    have:=@Wy 6 ((Cn.fM ks).map Cn.sz)
    rw [WM] at this
    rw [ai];omega
   | false=>rw [ae,VO];omega
  rw [au c4]
  by_cases c15:k=15
  ·rw [aw c15,aw (.inr (.inr c15)),Wk,VR];omega
  ·rw [au c15];omega
theorem WI:∀l:List bJ,Jp.VZ (Cn.fM l)≤2 * Tree.EB l+3
 | []=>by simp [Cn.fM,Jp.VZ]
 | f :: r=>by
  have h1:=YZ f
  have h2:=WI r
  rw [Cn.fM,Jp.VZ,Wp,Tree.EB];omega
end
theorem Yt {v:Val} (h:(Cn.jv v).2=0):Jp.V8 (Mem.of [] (Cn.jf v))≤2 * Tree.depth (bJ.of [] v)+2:=by
 obtain ⟨k,_⟩:=WW h
 have e:Cn.jf v=⟨7,[],Cn.fM v.kids⟩:=by unfold Cn.jf;rw [aw h];rfl
 rw [e,Wp]
 have h1:=@Wy 7 (Cn.fM v.kids)
 have h2:=WI v.kids
 simp only [bJ.of]
 rw [Tree.depth,aw (.inl k)];omega
theorem CanonForm.goal (v:Val):CanonForm.F v=some [.b true]:=by
 refine CanonForm.bZ v ?_
 intro v1 h1 v2 h2 v3 h3 v4 h4 v5 h5 v6 h6 v7 h7 v8 h8 v9 h9 v10 iA v11 ki
 rw [aH,ae]
 by_cases a:0≤eU.value 1200 (bJ.of [] v)
 ·have hb:=eU.yT v a
  have hj:=zB v
  rw [aa a] at h1 h3 ⊢
  rw [bw (show (!v1 || (v1&&decide (bJ.bO (bJ.of [] v)≤1099511627776)))=true by rw [aa (show bJ.bO (bJ.of [] v)≤1099511627776 by omega)];cases v1 <;> rfl),bw (iJ _),bw (by rw [h1];rfl)]
  have e3:v3=decide ((200:Int)<v2):=h3
  by_cases hd:(200:Int)<v2
  ·rw [e3,aa hd];rfl
  rw [e3,ab hd,ae,bw (aa (by omega)),bw (aa (by omega))]
  by_cases he:(Cn.jv v).2=0
  ·have hc:=Y2 he
   have ht:Cn.tV v=Cn.tJ (Cn.jf v):=by
    unfold Cn.tV Cn.pW;rw [au (by simp [he]),aa hc];rfl
   have hl:=xr (Mem.of [] (Cn.jf v))
   have Jv:(Cn.tV v).length=(Cn.vw (Mem.of [] (Cn.jf v))).length:=by rw [ht];rfl
   have hl3:Mem.bO (Mem.of [] (Cn.jf v))=bM.bO (Cn.jf v):=rfl
   have e5:v5=2 * (Tree.depth (bJ.of [] v):Int)+2:=by
    have e4:v4=2 * v2:=by rw [h4,i64_in _ (by omega)]
    rw [h5,e4,h2,i64_in _ (by omega)]
   have hp:=Jp.Yl (Cn.jf v) v5 hc ⟨by omega,by omega⟩ (by have:=Yt he;omega)
   rw [←ht] at hp
   have e6:v6=Cn.jf v:=by rw [h6,hp]
   have e7:v7=0:=by rw [h7,hp]
   have hk:(Cn.jf v).kind=7:=by unfold Cn.jf;rw [aw he];rfl
   have e9:v9=true:=by rw [h9,aa hc,aa hk];rfl
   have xX:v10=true:=by rw [iA,e9,e7];rfl
   have hs:Cn.mW (Cn.jf v) (Cn.jf v)=true:=sameJ_refl _
   have KY:v11=true:=by rw [ki,xX,e6,hs];rfl
   rw [aa he,aH,ae,bw (aa (by omega)),bw (aa (by omega)),bw (aa (by omega)),bw (iJ _),bw (iJ _),bw (iJ _),bw (iJ _),bw (iJ _),bw (iJ _),
    bw (show (!v10 || ((v10&&v10)&&decide (bM.bO v6≤1099511627776)))=true by rw [e6,aa (show bM.bO (Cn.jf v)≤1099511627776 by omega)];cases v10 <;> rfl),bw (iJ _),KY]
  ·have ht:Cn.tV v=[]:=by unfold Cn.tV;rw [aw he]
   rw [ab he,ht];rfl
 ·rw [ab a] at h1 h3 ⊢
  rw [h1,h3];rfl
end Go.Eng
set_option maxRecDepth 20000
namespace Go.Eng
open Go.Proofs
theorem CanonForm.ok:bA PG cnGl 5 (CanonForm.c,CanonForm.sg):=meets bG (all_cons dw.ok (all_cons dI.ok (all_cons fF.ok (all_cons gn.ok (all_cons r22_Same.ok (all_cons Ve.ok (all_cons Vw.ok (all_cons s4.ok all_nil)))))))) CanonForm.h (fits fun ins=>by unfold CanonForm.c;split;exact CanonForm.goal (.mk _ _ _ _ _ _ _ _ _);trivial)
end Go.Eng
