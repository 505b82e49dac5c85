/- Texts of my own, one behind the other: CnJp1, CnJp2, CnJp3, CnJp4, CnQApart, CnOKApart. -/
import Derived.Test.YtokfjcnbmpabkaaGreatDoorT5
set_option linter.unusedVariables false
set_option linter.unusedSimpArgs false
set_option maxRecDepth 20000
namespace Go.Eng
open Go.IntWalk
theorem fy.V9:∀(k r:Nat) (l l':bz),l.take k=l'.take k→fy.cont r k l=fy.cont r k l'
 | 0,_,_,_,_=>by simp [fy.cont]
 | k+1,r,[],l',h=>by
  cases l' with
  | nil=>rfl
  | cons c l'=>simp at h
 | k+1,r,c :: l,l',h=>by
  cases l' with
  | nil=>simp at h
  | cons c' l' =>
   simp only [List.take_succ_cons,bt] at h
   obtain ⟨rfl,h⟩:=h
   simp only [fy.cont,fy.V9 k _ l l' h]
theorem fy.Wg:∀(k r:Nat) (l:bz) (q:Nat),fy.cont r k l=some q→k≤l.length∧∀x∈l.take k,128≤x.toNat
 | 0,_,_,_,_=>by simp
 | k+1,_,[],_,h=>by simp [fy.cont] at h
 | k+1,r,c :: l,q,h=>by
  rw [fy.cont] at h
  split at h
  ·rename_i hc
   have ⟨h1,h2⟩:=fy.Wg k _ l q h
   refine ⟨by simp;omega,fun x hx=>?_⟩
   simp only [List.take_succ_cons,aO] at hx
   rcases hx with rfl | hx
   ·exact hc.1
   ·exact h2 x hx
  ·cases h
theorem fy.Vv {r more least:Nat} {l:bz} (h:(fy.nj r more least l).2≠0):(fy.nj r more least l).2=(more:Int)+1∧more≤l.length∧(∀x∈l.take more,128≤x.toNat)∧∀l':bz,l'.take more=l.take more→fy.nj r more least l'=fy.nj r more least l:=by
 have e:∀l':bz,l'.take more=l.take more→fy.nj r more least l'=fy.nj r more least l:=fun l' hl=>by
  unfold fy.nj;rw [fy.V9 more r l' l hl]
 refine ⟨?_,?_,?_,e⟩ <;> unfold fy.nj at h <;> cases hc:fy.cont r more l with
  | none=>rw [hc] at h;exact (h rfl).elim
  | some q=>?_
 ·rw [hc] at h
  unfold fy.nj
  rw [hc]
  simp only at h ⊢
  split
  ·rename_i c;rw [aw c] at h;exact (h rfl).elim
  ·rfl
 ·exact (fy.Wg more r l q hc).1
 ·exact (fy.Wg more r l q hc).2
theorem fy.WS {c:UInt8} {l:bz} (h:(fy.rune (c :: l)).2≠0):(c.toNat<128∧∀l',(fy.rune (c :: l')).2=1) ∨
  (128≤c.toNat∧∃k:Nat,1≤k∧k≤3∧(fy.rune (c :: l)).2=(k:Int)+1∧k≤l.length∧(∀x∈l.take k,128≤x.toNat)∧∀l':bz,l'.take k=l.take k→fy.rune (c :: l')=fy.rune (c :: l)):=by
 by_cases c1:c.toNat<128
 ·exact .inl ⟨c1,fun l'=>by simp [fy.rune,c1]⟩
 ·refine .inr ⟨by omega,?_⟩
  by_cases c2:192≤c.toNat∧c.toNat<224
  ·have e:∀l',fy.rune (c :: l')=fy.nj (c.toNat - 192) 1 128 l':=fun l'=>by rw [fy.rune,au c1,aw c2]
   rw [e] at h
   obtain ⟨h1,h2,h3,h4⟩:=fy.Vv h
   exact ⟨1,by omega,by omega,by rw [e,h1],h2,h3,fun l' hl=>by rw [e,e,h4 l' hl]⟩
  by_cases c3:224≤c.toNat∧c.toNat<240
  ·have e:∀l',fy.rune (c :: l')=fy.nj (c.toNat - 224) 2 2048 l':=fun l'=>by rw [fy.rune,au c1,au c2,aw c3]
   rw [e] at h
   obtain ⟨h1,h2,h3,h4⟩:=fy.Vv h
   exact ⟨2,by omega,by omega,by rw [e,h1],h2,h3,fun l' hl=>by rw [e,e,h4 l' hl]⟩
  by_cases c4:240≤c.toNat∧c.toNat<248
  ·have e:∀l',fy.rune (c :: l')=fy.nj (c.toNat - 240) 3 65536 l':=fun l'=>by rw [fy.rune,au c1,au c2,au c3,aw c4]
   rw [e] at h
   obtain ⟨h1,h2,h3,h4⟩:=fy.Vv h
   exact ⟨3,by omega,by omega,by rw [e,h1],h2,h3,fun l' hl=>by rw [e,e,h4 l' hl]⟩
  ·rw [fy.rune,au c1,au c2,au c3,au c4] at h;exact (h rfl).elim
theorem fy.Wt {l:bz} (h:fy.whole l=true) (hl:l≠[]):(fy.rune l).2≠0∧fy.whole (l.drop (fy.rune l).2.toNat)=true:=by
 have h:=ar h
 have hp:=List.length_pos_iff.2 hl
 by_cases c:(fy.rune l).2=0
 ·rw [fy.BH l c] at h;simp only at h;omega
 ·rw [fy.BG l c] at h
  have hs:=fy.pP l
  refine ⟨c,aa ?_⟩
  simp only [aU] at h ⊢
  omega
theorem Xg (c:UInt8):UInt8.ofInt (c.toNat:Int)=c:=by
 have h:=rO (c.toNat:Int)
 rw [wrap_u8'] at h
 have:=Ip c
 exact UInt8.toNat_inj.1 (by omega)
namespace Jp
def Xb (c:UInt8):Bool :=
 decide (128≤c) || (decide (Cn.FA c=[c])&&decide (c≠34)&&decide (c≠92)&&!decide (c<32)) ||
 (decide (Cn.FA c=[92,(Cn.FA c).getD 1 0])&&decide ((Cn.FA c).getD 1 0≠117)&&decide (escape ((Cn.FA c).getD 1 0)=c)&&decide (c≠0)) ||
 (decide (Cn.FA c=[92,117,(Cn.FA c).getD 2 0,(Cn.FA c).getD 3 0,(Cn.FA c).getD 4 0,(Cn.FA c).getD 5 0])&&decide (four 4 0 ((Cn.FA c).drop 2)=(c.toNat:Int))&&decide (c<32))
theorem Xp:∀n,n<256→Xb (UInt8.ofNat n)=true:=by decide +kernel
theorem X3 (c:UInt8):Xb c=true:=by
 have:=Xp c.toNat (Ip c)
 rwa [UInt8.ofNat_toNat] at this
theorem Xa:∀n,n<256→(128≤n→Cn.FA (UInt8.ofNat n)=[UInt8.ofNat n]):=by decide +kernel
theorem WI:∀l:bz,(∀x∈l,128≤x.toNat)→l.flatMap Cn.FA=l
 | [],_=>rfl
 | c :: l,h=>by
  have e:=Xa c.toNat (Ip c) (h c (List.mem_cons_self ..))
  rw [UInt8.ofNat_toNat] at e
  rw [List.flatMap_cons,e,WI l fun x hx=>h x (List.mem_cons_of_mem _ hx)];rfl
theorem Wo:∀(n:Nat) (v:Int) (l l':bz),n≤l.length→four n v (l++l')=four n v l
 | 0,_,_,_,_=>by simp [four]
 | n+1,v,[],_,h=>by simp at h
 | n+1,v,c :: l,l',h=>by
  rw [List.cons_append,four,four,Wo n _ l l' (by simpa using h)]
theorem Wb (fr:Int) (rest:bz):∀(m:Nat) (s:bz),s.length≤m→fy.whole s=true→∀(n:Nat) (a:Int) (acc:bz),s.length+1≤n →
  V2 fr n a (s.flatMap Cn.FA++34 :: rest) acc=(⟨8,fr,a+((s.flatMap Cn.FA).length:Int)+1,acc++s⟩,0,0)
 | m,[],_,_,n+1,a,acc,_=>by
  simp [V2]
 | 0,c :: s,h,_,_,_,_,_=>by simp at h
 | m+1,c :: s,h,hw,n+1,a,acc,hn=>by
  obtain ⟨w1,w2⟩:=fy.Wt hw (by simp)
  simp only [ay] at h hn
  rcases fy.WS w1 with ⟨c1,c2⟩ | ⟨c1,k,k1,k3,k2,k4,k5,k6⟩
  ·rw [c2,show ((1:Int)).toNat=1 from rfl,List.drop_one,List.tail_cons] at w2
   have ih:=fun (a:Int) (acc:bz)=>Wb fr rest m s (by omega) w2 n a acc (by omega)
   have ho:=X3 c
   have Yn:¬(128:UInt8)≤c:=by rw [UInt8.le_iff_toNat_le];simp;omega
   simp only [Xb,ab Yn,Bool.false_or,Bool.or_eq_true,ah,aA,Bool.not_eq_true',decide_eq_false_iff_not] at ho
   rw [List.flatMap_cons]
   rcases ho with (⟨⟨⟨e1,e2⟩,e3⟩,e4⟩ | ⟨⟨⟨e1,e2⟩,e3⟩,e4⟩) | ⟨⟨e1,e2⟩,e3⟩
   ·rw [e1,List.singleton_append,List.cons_append,V2,au e2,au e4,aw (by simpa using e3)]
    rw [show (c :: (s.flatMap Cn.FA++34 :: rest)).take 4=c :: (s.flatMap Cn.FA++34 :: rest).take 3 from rfl,c2,au (by decide),show ((1:Int)).toNat=1 from rfl,List.drop_one,List.tail_cons,ih]
    simp [ay];omega
   ·obtain ⟨x,hx⟩:∃x,x=(Cn.FA c).getD 1 0:=⟨_,rfl⟩
    rw [←hx] at e1 e2 e3
    have e0:Cn.FA c++s.flatMap Cn.FA++34 :: rest=92 :: x :: (s.flatMap Cn.FA++34 :: rest):=by rw [e1];rfl
    rw [e0,V2,au (by decide),au (by decide),au (by decide),au (by simp)]
    rw [List.headD_cons,au e2,e3,au e4,List.drop_one,List.tail_cons,ih,e1]
    simp [ay];omega
   ·have hlen:(Cn.FA c).length=6:=by rw [e1];rfl
    have hf:four 4 0 (((Cn.FA c).drop 2)++(s.flatMap Cn.FA++34 :: rest))=(c.toNat:Int):=by rw [Wo _ _ _ _ (by simp;omega),e2]
    obtain ⟨x,hx⟩:∃x,x=(Cn.FA c).getD 2 0:=⟨_,rfl⟩
    obtain ⟨y,hy⟩:∃x,x=(Cn.FA c).getD 3 0:=⟨_,rfl⟩
    obtain ⟨z,hz⟩:∃x,x=(Cn.FA c).getD 4 0:=⟨_,rfl⟩
    obtain ⟨q,hq⟩:∃x,x=(Cn.FA c).getD 5 0:=⟨_,rfl⟩
    rw [←hx,←hy,←hz,←hq] at e1
    rw [e1,show ([92,117,x,y,z,q]:bz).drop 2=[x,y,z,q] from rfl] at hf
    have YW:c.toNat<32:=by rw [UInt8.lt_iff_toNat_lt] at e3;simpa using e3
    have e0:Cn.FA c++s.flatMap Cn.FA++34 :: rest=92 :: 117 :: ([x,y,z,q]++(s.flatMap Cn.FA++34 :: rest)):=by rw [e1];rfl
    rw [e0,V2,au (by decide),au (by decide),au (by decide),au (by simp),List.headD_cons,aw rfl,List.drop_one,List.tail_cons,hf,au (by omega),au (by omega)]
    have hu:Yj (92 :: 117 :: ([x,y,z,q]++(s.flatMap Cn.FA++34 :: rest)))=some ((c.toNat:Int),6):=by
     unfold Yj
     simp only [List.drop_succ_cons,bh]
     rw [hf,au (by omega)]
    rw [hu]
    simp only
    have hp:put (c.toNat:Int)=[c]:=by
     unfold put;rw [aw (by omega)]
     rw [Xg]
    rw [hp,show (92 :: 117 :: ([x,y,z,q]++(s.flatMap Cn.FA++34 :: rest))).drop 6=s.flatMap Cn.FA++34 :: rest from rfl,ih,e1]
    simp [ay];omega
  ·have hk:(fy.rune (c :: s)).2.toNat=k+1:=by omega
   rw [hk,List.drop_succ_cons] at w2
   have ih:=fun (a:Int) (acc:bz)=>Wb fr rest m (s.drop k) (by simp;omega) w2 n a acc (by simp;omega)
   have ec:Cn.FA c=[c]:=by
    have:=Xa c.toNat (Ip c) c1
    rwa [UInt8.ofNat_toNat] at this
   have es:s.flatMap Cn.FA=s.take k++(s.drop k).flatMap Cn.FA:=by
    have:s.flatMap Cn.FA=(s.take k++s.drop k).flatMap Cn.FA:=by rw [List.take_append_drop]
    rw [this,List.flatMap_append,WI _ k5]
   have ht:(s.take k).length=k:=by rw [aF];omega
   have n34:c≠34:=fun e=>by rw [e] at c1;exact absurd c1 (by decide)
   have YS:c≠92:=fun e=>by rw [e] at c1;exact absurd c1 (by decide)
   have n32:¬c<32:=fun e=>by rw [UInt8.lt_iff_toNat_lt] at e;simp at e;omega
   have er:fy.rune ((c :: (s.flatMap Cn.FA++34 :: rest)).take 4)=fy.rune (c :: s):=by
    rw [List.take_succ_cons]
    refine k6 _ ?_
    rw [List.take_take,Nat.min_eq_left k3,es,aG,List.take_append_of_le_length (by omega),List.take_take,Nat.min_self]
   rw [List.flatMap_cons,ec,List.singleton_append,List.cons_append,V2,au n34,au n32,aw YS,er,au w1,hk,List.drop_succ_cons,List.take_succ_cons]
   have e1:(s.flatMap Cn.FA++34 :: rest).drop k=(s.drop k).flatMap Cn.FA++34 :: rest:=by
    rw [es,aG,List.drop_append_of_le_length (by omega),aE (by omega)];rfl
   have e2:(s.flatMap Cn.FA++34 :: rest).take k=s.take k:=by
    rw [es,aG,List.take_append_of_le_length (by omega),List.take_of_length_le (by omega)]
   rw [e1,e2,ih,k2]
   have e3:(s.flatMap Cn.FA).length=k+((s.drop k).flatMap Cn.FA).length:=by rw [es,ao,ht]
   simp only [ay,e3,aG,List.cons_append,List.take_append_drop]
   congr 2
   omega
end Jp
end Go.Eng
set_option maxRecDepth 20000
namespace Go.Eng
open Go.IntWalk
namespace Jp
theorem W7 {c:UInt8} (h:Nr.dV c=true):Wj c=true:=by unfold Wj;rw [h];rfl
theorem VR {l:bz} (h:l.all Nr.dV=true):l.all Wj=true:=aC.2 fun c hc=>W7 (aC.1 h c hc)
theorem Wy {e:bz} (h:(Nr.signed e).all Nr.dV=true):e.all Wj=true:=by
 cases e with
 | nil=>rfl
 | cons c r =>
  unfold Nr.signed at h
  simp only at h
  split at h
  ·rename_i hc
   rw [List.all_cons,VR h,Bool.and_true]
   rcases hc with rfl | rfl <;> decide
  ·exact VR h
theorem Xs {t:bz} (h:Nr.iX t≠0):t.all Wj=true∧t≠[]∧(t.headD 0=45∨Nr.dV (t.headD 0)=true):=by
 obtain ⟨a,b,fr,ex,e,s⟩:=Nr.WU h
 have hb:(Nr.body t).all Wj=true:=by
  rw [s.eq,List.all_append,List.all_append,VR s.ad,Bool.true_and,ah]
  constructor
  ·rcases s.fr with ⟨h1,_⟩ | ⟨h1,_⟩
   ·rw [h1];rfl
   ·rw [h1,List.all_cons,VR s.bd];decide
  ·rcases s.ex with ⟨h1,_⟩ | ⟨c,h1,h2,_⟩
   ·rw [h1];rfl
   ·rw [h2,List.all_cons,Wy s.ed,Bool.and_true]
    rcases ar h1 with rfl | rfl <;> decide
 cases t with
 | nil=>exact (h (by decide)).elim
 | cons c r =>
  by_cases hc:c=45
  ·subst hc
   refine ⟨?_,by simp,.inl rfl⟩
   have:Nr.body (45 :: r)=r:=rfl
   rw [this] at hb
   rw [List.all_cons,hb];decide
  ·have e0:Nr.body (c :: r)=c :: r:=by unfold Nr.body;split;rename_i w;simp at w;exact (hc w.1).elim;rfl
   rw [e0] at hb
   refine ⟨hb,by simp,.inr ?_⟩
   have h2:=s.eq
   rw [e0] at h2
   cases ha:a with
   | nil=>exact (s.a0 ha).elim
   | cons x y =>
    rw [ha] at h2
    simp only [List.cons_append,bt] at h2
    have:=s.ad
    rw [ha,List.all_cons,ah] at this
    rw [List.headD_cons,h2.1];exact this.1
def Xx (r:bz):Prop:=r=[]∨r.headD 0=44∨r.headD 0=93∨r.headD 0=125
theorem VP {s r:bz} {a:Nat} (h:s.drop a=r) (ha:a≤s.length) (hb:r=[]∨blank (r.headD 0)=false):next s (a:Int)=V4 s a:=by
 rw [Xk]
 unfold WE
 rw [au (by omega),aj,h]
 have:r.takeWhile blank=[]:=by
  cases r with
  | nil=>rfl
  | cons c r =>
   rcases hb with hb | hb
   ·simp at hb
   ·rw [List.takeWhile_cons,List.headD_cons] at *;rw [hb];rfl
 rw [this];rfl
theorem V3 {s r:bz} {a:Nat} {k:Int} {n:Nat} (h:s.drop a=r) (hr:r≠[]) (hp:plain r=some (k,n)):V4 s a=(⟨k,a,(a:Int)+n,[]⟩,0,0):=by
 unfold V4
 simp only
 rw [h,au hr,hp]
theorem WT {c:UInt8} {r:bz} (k:Int) (h:Lib.indexByte [123,125,91,93,58,44] c=k) (h0:0≤k):plain (c :: r)=some (2+k,1):=by
 unfold plain
 rw [List.headD_cons,h,aw h0]
theorem Wz {s q rest:bz} {a:Nat} (hq:fy.whole q=true) (h:s.drop a=Cn.quote q++rest) (ha:a≤s.length):next s (a:Int)=(⟨8,a,((a+(Cn.quote q).length:Nat):Int),q⟩,0,0):=by
 have e:Cn.quote q++rest=34 :: (q.flatMap Cn.FA++34 :: rest):=by simp [Cn.quote]
 rw [e] at h
 rw [VP h ha (.inr (by rw [List.headD_cons];decide))]
 unfold V4
 simp only
 have hp:plain (34 :: (q.flatMap Cn.FA++34 :: rest))=none:=by
  unfold plain
  rw [List.headD_cons,au (by decide)]
  simp [List.isPrefixOf]
 rw [h,au (by simp),hp]
 simp only
 rw [List.headD_cons,aw rfl,List.drop_one,List.tail_cons]
 have hl:q.length≤(q.flatMap Cn.FA).length:=by
  have:∀l:bz,l.length≤(l.flatMap Cn.FA).length:=by
   intro l
   induction l with
   | nil=>simp
   | cons c l ih =>
    have hc:1≤(Cn.FA c).length:=by unfold Cn.FA;split;simp;split <;> simp
    rw [List.flatMap_cons,ao,ay];omega
  exact this q
 rw [Wb _ rest q.length q (Nat.le_refl _) hq _ _ _ (by simp only [ao,ay];omega)]
 simp only [Cn.quote,ao,ay,aB,bq]
 rw [show (a:Int)+1+((q.flatMap Cn.FA).length:Int)+1=((a+((q.flatMap Cn.FA).length+1+1):Nat):Int) by omega]
theorem Xh {s t rest:bz} {a:Nat} (ht:Nr.iX t≠0) (hl:t.length≤300) (hd:Xx rest) (h:s.drop a=t++rest) (ha:a≤s.length):next s (a:Int)=(⟨9,a,((a+t.length:Nat):Int),t⟩,0,0):=by
 obtain ⟨h1,h2,h3⟩:=Xs ht
 have hh:(t++rest).headD 0=t.headD 0:=by cases t with | nil=>exact (h2 rfl).elim | cons c r=>rfl
 have key:∀n,n<256→((UInt8.ofNat n=45∨Nr.dV (UInt8.ofNat n)=true)→blank (UInt8.ofNat n)=false∧Lib.indexByte [123,125,91,93,58,44] (UInt8.ofNat n)<0∧UInt8.ofNat n≠116∧UInt8.ofNat n≠102∧UInt8.ofNat n≠110∧UInt8.ofNat n≠34):=by decide +kernel
 have k:=key (t.headD 0).toNat (Ip _)
 rw [UInt8.ofNat_toNat] at k
 obtain ⟨k1,k2,k3,k4,k5,k6⟩:=k h3
 rw [VP h ha (.inr (by rw [hh];exact k1))]
 unfold V4
 simp only
 have hp:plain (t++rest)=none:=by
  unfold plain
  rw [hh,au (by omega)]
  cases t with
  | nil=>exact (h2 rfl).elim
  | cons c r =>
   rw [List.headD_cons] at k3 k4 k5
   simp [List.isPrefixOf,Ne.symm k3,Ne.symm k4,Ne.symm k5]
 have ht2:(t++rest).takeWhile Wj=t:=(Nr.oa h1 (by
  rcases hd with hd | hd
  ·exact .inl hd
  ·right
   have e:rest.getD 0 0=rest.headD 0:=by cases rest <;> rfl
   rw [e]
   rcases hd with hd | hd | hd <;> rw [hd] <;> decide)).1
 rw [h,au (by simp [h2]),hp]
 simp only
 rw [hh,au k6,aw h3,ht2,au ht,au (by omega)]
 rfl
end Jp
end Go.Eng
set_option maxRecDepth 20000
namespace Go.Eng
open Go.IntWalk
namespace Jp
mutual
def V0:Mem→Nat
 | .mk _ k _ ks=>if k=6∨k=7 then Wf ks+1 else 0
def Wf:List Mem→Nat
 | []=>0
 | m :: r=>max (V0 m) (Wf r)
end
mutual
def Xz:Mem→Nat
 | .mk _ _ _ ks=>1+W4 ks
def W4:List Mem→Nat
 | []=>0
 | m :: r=>1+Xz m+W4 r
end
theorem Yo {s p q:bz} {a:Nat} (h:s.drop a=p++q) (ha:a≤s.length):s.drop (a+p.length)=q∧a+p.length≤s.length:=by
 have e:=congrArg List.length h
 simp only [aU,ao] at e
 exact ⟨by rw [←List.drop_drop,h,List.drop_left],by omega⟩
theorem X5 {s q:bz} {c:UInt8} {a:Nat} (h:s.drop a=c :: q) (ha:a≤s.length):s.drop (a+1)=q∧a+1≤s.length:=Yo (p:=[c]) h ha
theorem Vk {s:bz} {a:Int} {t:Tok} (h:next s a=(t,0,0)):Vs s a = .ok t:=by unfold Vs;rw [h,aw rfl]
theorem Vm {s r:bz} {a:Nat} {c:UInt8} (k:Int) (hb:blank c=false) (hk:Lib.indexByte [123,125,91,93,58,44] c=k) (h0:0≤k) (h:s.drop a=c :: r) (ha:a≤s.length):next s (a:Int)=(⟨2+k,a,((a+1:Nat):Int),[]⟩,0,0):=by
 rw [VP h ha (.inr (by rw [List.headD_cons];exact hb)),V3 h (by simp) (WT k hk h0)];rfl
theorem VU {s w r:bz} {a:Nat} (k:Int) (hb:blank (w.headD 0)=false) (hw:w≠[]) (hp:plain (w++r)=some (k,w.length)) (h:s.drop a=w++r) (ha:a≤s.length):next s (a:Int)=(⟨k,a,((a+w.length:Nat):Int),[]⟩,0,0):=by
 have hh:(w++r).headD 0=w.headD 0:=by cases w with | nil=>exact (hw rfl).elim | cons c q=>rfl
 rw [VP h ha (.inr (by rw [hh];exact hb)),V3 h (by simp [hw]) hp];rfl
theorem Vq {t:bz} (h:fy.whole t=true):Cn.jx t=Cn.quote t:=by unfold Cn.jx;rw [h];rfl
theorem Vh {A B:Type} (x:A) (f:A→Except E B):(Except.ok x:Except E A) >>= f=f x:=rfl
theorem Xr {nm t:bz} {k:Int} {ks:List Mem} (h:Cn.zO (.mk nm k t ks)=0):1≤k∧k≤7∧(k≠6→k≠7→ks=[])∧(k≠4→k≠5→t=[])∧(k=6→∀m∈ks,m.name=[])∧(k=4→Nr.iX t≠0∧t.length≤300)∧(k=5→fy.whole t=true)∧Cn.sY ks=0:=by
 rw [Cn.zO] at h
 by_cases c1:k<1∨7<k
 ·rw [aw c1] at h;simp at h
 rw [au c1] at h
 by_cases c2:ks≠[]∧k≠6∧k≠7
 ·rw [aw c2] at h;simp at h
 rw [au c2] at h
 by_cases c3:t≠[]∧k≠4∧k≠5
 ·rw [aw c3] at h;simp at h
 rw [au c3] at h
 by_cases c4:k=6∧(ks.any fun m=>!decide (m.name=[]))=true
 ·rw [aw c4] at h;simp at h
 rw [au c4] at h
 by_cases c5:k=4∧(Nr.iX t=0∨300<t.length)
 ·rw [aw c5] at h;simp at h
 rw [au c5] at h
 by_cases c6:k=5∧fy.whole t=false
 ·rw [aw c6] at h;simp at h
 rw [au c6] at h
 refine ⟨by omega,by omega,fun a b=>?_,fun a b=>?_,fun a m hm=>?_,fun a=>?_,fun a=>?_,h⟩
 ·by_cases e:ks=[]
  ·exact e
  ·exact (c2 ⟨e,a,b⟩).elim
 ·by_cases e:t=[]
  ·exact e
  ·exact (c3 ⟨e,a,b⟩).elim
 ·by_cases e:m.name=[]
  ·exact e
  ·exact (c4 ⟨a,List.any_eq_true.2 ⟨m,hm,by simp [e]⟩⟩).elim
 ·exact ⟨fun e=>c5 ⟨a,.inl e⟩,by by_cases e:t.length≤300;exact e;exact (c5 ⟨a,.inr (by omega)⟩).elim⟩
 ·cases e:fy.whole t with
  | true=>rfl
  | false=>exact (c6 ⟨a,e⟩).elim
theorem Xc {m:Mem} {r:List Mem} (h:Cn.sY (m :: r)=0):fy.whole m.name=true∧Cn.zO m=0∧Cn.sY r=0:=by
 rw [Cn.sY] at h
 cases e:fy.whole m.name with
 | false=>rw [aw e] at h;simp at h
 | true =>
  rw [au (by simp [e])] at h
  by_cases c:Cn.zO m≠0
  ·rw [aw c] at h;exact (c h).elim
  ·rw [au c] at h;exact ⟨rfl,Decidable.not_not.1 c,h⟩
def YR (o:Bool):UInt8:=cond o 123 91
def cls (o:Bool):UInt8:=cond o 125 93
def kd (o:Bool):Int:=cond o 2 4
theorem V6 (m:Mem):Mem.of m.name m.val=m:=by cases m;rfl
theorem WZ (o:Bool) (r:List Mem) (rest:bz):Xx (Cn.nu o false r++cls o :: rest):=by
 cases r with
 | nil=>cases o <;> simp [Cn.nu,Xx,cls]
 | cons m r=>exact .inr (.inl (by simp [Cn.nu]))
mutual
theorem VE (s:bz) (d:Int):∀(m:Mem) (w:Int) (a:Nat) (rest:bz) (n:Nat),Cn.zO m=0→s.drop a=Cn.vw m++rest→a≤s.length→Xx rest→(V0 m:Int)+w≤d→Xz m≤n →
  ∃t,next s (a:Int)=(t,0,0)∧t.kind≠3∧t.kind≠5∧value s d n t w = .ok (m.val,((a+(Cn.vw m).length:Nat):Int))
 | .mk nm k t ks,w,a,rest,0,_,_,_,_,_,hn=>by simp [Xz] at hn
 | .mk nm k t ks,w,a,rest,n+1,hc,h,ha,hd,hw,hn=>by
  obtain ⟨k1,k7,O2,ht,Qe,h4,h5,xF⟩:=Xr hc
  have ev:(Mem.mk nm k t ks).val=⟨k,t,ks⟩:=rfl
  rw [ev]
  by_cases e6:k=6∨k=7
  ·obtain ⟨o,ho⟩:∃o:Bool,o=decide (k=7):=⟨_,rfl⟩
   have hk:k=if kd o=2 then 7 else 6:=by
    rcases e6 with e | e <;> subst e <;> subst ho <;> rfl
   have et:t=[]:=ht (by omega) (by omega)
   have eL:Cn.vw (.mk nm k t ks)=YR o :: (Cn.nu o true ks++[cls o]):=by
    rw [Cn.vw,au (by omega),au (by omega),au (by omega),au (by omega),au (by omega),←ho];rfl
   rw [eL] at h ⊢
   rw [List.cons_append] at h
   have q1:next s (a:Int)=(⟨kd o,a,((a+1:Nat):Int),[]⟩,0,0):=by
    cases o with
    | true=>exact Vm 0 (by decide) (by decide) (by decide) h ha
    | false=>exact Vm 2 (by decide) (by decide) (by decide) h ha
   obtain ⟨h',Ym⟩:=X5 h ha
   rw [V0,aw e6] at hw
   refine ⟨_,q1,show kd o≠3 by cases o <;> decide,show kd o≠5 by cases o <;> decide,?_⟩
   have hz:(kd o=2∨kd o=4)∧kd o≠12∧kd o≠11∧kd o≠10∧kd o≠9∧kd o≠8:=by cases o <;> decide
   obtain ⟨z1,z2,z3,z4,z5,z6⟩:=hz
   rw [value]
   simp only
   rw [au z2,au z3,au z4,au z5,au z6,aw z1,au (by omega),et,←hk]
   cases ks with
   | nil =>
    rw [Cn.nu,bq,List.singleton_append] at h'
    have q2:next s ((a+1:Nat):Int)=(⟨kd o+1,((a+1:Nat):Int),((a+1+1:Nat):Int),[]⟩,0,0):=by
     cases o with
     | true=>exact Vm 1 (by decide) (by decide) (by decide) h' Ym
     | false=>exact Vm 3 (by decide) (by decide) (by decide) h' Ym
    rw [Vk q2,Vh,aw rfl]
    rfl
   | cons m r =>
    rw [aG,List.singleton_append] at h'
    simp only [Xz] at hn
    obtain ⟨u,q2,q3,q4⟩:=Wk s d (m :: r) o (w+1) (a+1) rest n [] (by simp) xF (fun e=>Qe (by subst e;simpa [kd] using hk)) h' Ym (by omega) (by omega)
    rw [Vk q2,Vh]
    have YQ:u.kind≠kd o+1:=by cases o <;> exact q3
    rw [au YQ,q4,Vh]
    simp only [bq,ay,ao,aB]
    rw [show a+1+(Cn.nu o true (m :: r)).length+1=a+((Cn.nu o true (m :: r)).length+(0+1)+1) by omega]
  ·have Yd:=O2 (by omega) (by omega)
   by_cases e4:k=4
   ·obtain ⟨l1,l2⟩:=h4 e4
    have eL:Cn.vw (.mk nm k t ks)=t:=by rw [Cn.vw,au (by omega),au (by omega),au (by omega),aw e4]
    rw [eL] at h ⊢
    refine ⟨_,Xh l1 l2 hd h ha,by simp,by simp,?_⟩
    rw [value,au (by simp),au (by simp),au (by simp),aw rfl,Yd,e4]
   by_cases e5:k=5
   ·have hq:=h5 e5
    have eL:Cn.vw (.mk nm k t ks)=Cn.quote t:=by rw [Cn.vw,au (by omega),au (by omega),au (by omega),au e4,aw e5,Vq hq]
    rw [eL] at h ⊢
    refine ⟨_,Wz hq h ha,by simp,by simp,?_⟩
    rw [value,au (by simp),au (by simp),au (by simp),au (by simp),aw rfl,Yd,e5]
   have et:=ht e4 e5
   by_cases e1:k=1
   ·have eL:Cn.vw (.mk nm k t ks)=[110,117,108,108]:=by rw [Cn.vw,aw e1]
    rw [eL] at h ⊢
    refine ⟨_,VU 12 (by decide) (by simp) rfl h ha,by simp,by simp,?_⟩
    rw [value,aw rfl,Yd,et,e1]
   by_cases e2:k=2
   ·have eL:Cn.vw (.mk nm k t ks)=[102,97,108,115,101]:=by rw [Cn.vw,au e1,aw e2]
    rw [eL] at h ⊢
    refine ⟨_,VU 11 (by decide) (by simp) rfl h ha,by simp,by simp,?_⟩
    rw [value,au (by simp),aw rfl,Yd,et,e2]
   ·have e3:k=3:=by omega
    have eL:Cn.vw (.mk nm k t ks)=[116,114,117,101]:=by rw [Cn.vw,au e1,au e2,aw e3]
    rw [eL] at h ⊢
    refine ⟨_,VU 10 (by decide) (by simp) rfl h ha,by simp,by simp,?_⟩
    rw [value,au (by simp),au (by simp),aw rfl,Yd,et,e3]
theorem Wk (s:bz) (d:Int):∀(l:List Mem) (o:Bool) (w:Int) (a:Nat) (rest:bz) (n:Nat) (acc:List Mem),l≠[]→Cn.sY l=0→(o=false→∀m∈l,m.name=[])→s.drop a=Cn.nu o true l++cls o :: rest→a≤s.length→(Wf l:Int)+w≤d→W4 l≤n →
  ∃t,next s (a:Int)=(t,0,0)∧t.kind≠cond o 3 5∧loop s d n (kd o) t w acc = .ok (acc++l,((a+(Cn.nu o true l).length+1:Nat):Int))
 | [],_,_,_,_,_,_,h,_,_,_,_,_,_=>(h rfl).elim
 | m :: r,o,w,a,rest,0,acc,_,_,_,_,_,_,hn=>by simp [W4] at hn
 | m :: r,o,w,a,rest,n+1,acc,_,hc,Qe,h,ha,hw,hn=>by
  obtain ⟨c1,c2,c3⟩:=Xc hc
  simp only [W4] at hn
  simp only [Wf] at hw
  have eL:∀f:Bool,Cn.nu o f (m :: r)=cond f [] [44]++(cond o (Cn.jx m.name++[58]) []++(Cn.vw m++Cn.nu o false r)):=fun f=>by rw [Cn.nu]
  have e0:Mem.of (if kd o=2 then m.name else []) m.val=m:=by
   cases o with
   | true=>exact V6 m
   | false=>rw [au (by decide)];rw [←Qe rfl m (List.mem_cons_self ..)];exact V6 m
  rw [eL,ai,bq] at h
  -- behind the name
  have tail:∀(b:Nat) (nt:Tok),nt.text=m.name∨o=false→s.drop b=Cn.vw m++(Cn.nu o false r++cls o :: rest)→b≤s.length →
    ∃u,next s (b:Int)=(u,0,0)∧u.kind≠3∧u.kind≠5∧(do
     let v ←value s d n u w
     let x ←Vs s v.2
     if x.kind=kd o+1 then .ok (acc++[Mem.of (if kd o=2 then nt.text else []) v.1],x.end_)
     else if x.kind≠7 then .error (VT x)
     else do
      let y ←Vs s x.end_
      loop s d n (kd o) y w (acc++[Mem.of (if kd o=2 then nt.text else []) v.1]):Except E (List Mem × Int)) = .ok (acc++m :: r,((b+(Cn.vw m).length+(Cn.nu o false r).length+1:Nat):Int)):=by
   intro b nt OQ hb Fy
   have Mv:Mem.of (if kd o=2 then nt.text else []) m.val=m:=by
    rcases OQ with e | e
    ·rw [e];exact e0
    ·subst e;exact e0
   obtain ⟨u,u1,u2,u3,u4⟩:=VE s d m w b _ n c2 hb Fy (WZ o r rest) (by omega) (by omega)
   refine ⟨u,u1,u2,u3,?_⟩
   rw [u4,Vh]
   simp only [Mv]
   obtain ⟨kg,Xo⟩:=Yo hb Fy
   cases r with
   | nil =>
    rw [Cn.nu,bq] at kg
    have q2:next s ((b+(Cn.vw m).length:Nat):Int)=(⟨kd o+1,((b+(Cn.vw m).length:Nat):Int),((b+(Cn.vw m).length+1:Nat):Int),[]⟩,0,0):=by
     cases o with
     | true=>exact Vm 1 (by decide) (by decide) (by decide) kg Xo
     | false=>exact Vm 3 (by decide) (by decide) (by decide) kg Xo
    rw [Vk q2,Vh,aw rfl]
    rfl
   | cons m2 r2 =>
    have e2:Cn.nu o false (m2 :: r2)=44 :: Cn.nu o true (m2 :: r2):=by rw [Cn.nu,Cn.nu];rfl
    rw [e2,List.cons_append] at kg
    have q2:next s ((b+(Cn.vw m).length:Nat):Int)=(⟨7,((b+(Cn.vw m).length:Nat):Int),((b+(Cn.vw m).length+1:Nat):Int),[]⟩,0,0):=Vm 5 (by decide) (by decide) (by decide) kg Xo
    rw [Vk q2,Vh,au (show ¬(7:Int)=kd o+1 by cases o <;> decide),au (by simp)]
    obtain ⟨GJ,Yl⟩:=X5 kg Xo
    obtain ⟨y,y1,_,y3⟩:=Wk s d (m2 :: r2) o w (b+(Cn.vw m).length+1) rest n (acc++[m]) (by simp) c3 (fun e x hx=>Qe e x (List.mem_cons_of_mem _ hx)) GJ Yl (by omega) (by omega)
    simp only
    rw [Vk y1,Vh,y3,e2,aG,ay]
    simp only [List.singleton_append]
    rw [show b+(Cn.vw m).length+1+(Cn.nu o true (m2 :: r2)).length+1=b+(Cn.vw m).length+((Cn.nu o true (m2 :: r2)).length+1)+1 by omega]
  cases o with
  | false =>
   rw [ae,bq,aG] at h
   obtain ⟨u,u1,u2,u3,u4⟩:=tail a ⟨0,0,0,[]⟩ (.inr rfl) h ha
   refine ⟨u,u1,u3,?_⟩
   rw [loop,au (by decide),Vh]
   refine Eq.trans ?_ (u4.trans ?_)
   ·rfl
   ·rw [eL];simp only [ai,ae,bq,ao,Nat.add_assoc]
  | true =>
   rw [ai,Vq c1,aG,aG] at h
   have q1:=Wz c1 h ha
   obtain ⟨h2,Ys⟩:=Yo h ha
   rw [aG,List.singleton_append] at h2
   have q2:next s ((a+(Cn.quote m.name).length:Nat):Int)=(⟨6,((a+(Cn.quote m.name).length:Nat):Int),((a+(Cn.quote m.name).length+1:Nat):Int),[]⟩,0,0):=Vm 4 (by decide) (by decide) (by decide) h2 Ys
   obtain ⟨h3,YY⟩:=X5 h2 Ys
   obtain ⟨u,u1,u2,u3,u4⟩:=tail (a+(Cn.quote m.name).length+1) ⟨8,a,((a+(Cn.quote m.name).length:Nat):Int),m.name⟩ (.inl rfl) h3 YY
   refine ⟨_,q1,by simp,?_⟩
   rw [loop,aw (by rfl),au (by simp),Vk q2,Vh,au (by simp),Vk u1,Vh]
   refine Eq.trans ?_ (u4.trans ?_)
   ·rfl
   ·rw [eL,Vq c1];simp only [ai,bq,ao,az,Nat.add_assoc]
end
end Jp
end Go.Eng
set_option maxRecDepth 20000
namespace Go.Eng
open Go.IntWalk
namespace Jp
theorem Xl {j j':bM} (h:Cn.mE j=0) (h':Cn.mE j'=0) (e:Cn.tJ j=Cn.tJ j'):j=j':=by
 have hd:∀(m:Mem) (x:bz),x=Cn.vw m→x.drop 0=Cn.vw m++[]:=fun m x e=>by rw [e];simp
 obtain ⟨t,a1,_,_,a2⟩:=VE (Cn.tJ j) (max (V0 (Mem.of [] j)) (V0 (Mem.of [] j')):Nat) (Mem.of [] j) 0 0 [] (max (Xz (Mem.of [] j)) (Xz (Mem.of [] j'))) h (hd _ _ rfl) (by omega) (.inl rfl) (by omega) (by omega)
 obtain ⟨t',b1,_,_,b2⟩:=VE (Cn.tJ j) (max (V0 (Mem.of [] j)) (V0 (Mem.of [] j')):Nat) (Mem.of [] j') 0 0 [] (max (Xz (Mem.of [] j)) (Xz (Mem.of [] j'))) h' (hd _ _ e) (by omega) (.inl rfl) (by omega) (by omega)
 rw [a1] at b1
 cases b1
 rw [a2] at b2
 have:=Except.ok.inj b2
 exact (Prod.mk.inj this).1
end Jp
end Go.Eng
set_option maxRecDepth 20000
namespace Go.Eng
open Go.IntWalk
theorem Wi {v:Val} (h:(Cn.oG v).2=0):(Cn.jv v).2=0∧Cn.mE (Cn.jf v)=0∧Cn.tV v=Cn.tJ (Cn.jf v):=by
 unfold Cn.oG at h
 by_cases c:(Cn.jv v).2=0
 ·rw [au (by simp [c])] at h
  refine ⟨c,h,?_⟩
  unfold Cn.tV Cn.pW
  rw [au (by simp [c]),aa h];rfl
 ·rw [aw c] at h;exact (c h).elim
theorem WR {a b:Val} (ha:(Cn.oG a).2=0) (hb:(Cn.oG b).2=0) (h:Cn.tV a=Cn.tV b):a=b:=by
 obtain ⟨a1,a2,a3⟩:=Wi ha
 obtain ⟨b1,b2,b3⟩:=Wi hb
 rw [a3,b3] at h
 exact WW a1 b1 (Jp.Xl a2 b2 h)
theorem CanonApart.goal (a b:Val):CanonApart.F a b=some [.b true]:=by
 refine CanonApart.bZ a b ?_
 intro v1 h1 v2 h2 v3 h3 v4 h4
 have c1:(!(decide (0≤eU.value 1200 (bJ.of [] a))) || v1)=true:=by rw [h1];cases decide (0≤eU.value 1200 (bJ.of [] a)) <;> rfl
 have c3:(!decide ((Cn.oG a).2=(0:Int)) || v3)=true:=by rw [h3];cases decide ((Cn.oG a).2=0) <;> rfl
 rw [aH,ae,bw (iJ _),bw (iJ _),bw c1]
 by_cases c:v2=true
 ·rw [c];rfl
 have sa:0≤eU.value 1200 (bJ.of [] a):=by
  by_cases d:0≤eU.value 1200 (bJ.of [] a)
  ·exact d
  ·exact absurd (by rw [h2,ab d];rfl) c
 have sb:0≤eU.value 1200 (bJ.of [] b):=by
  by_cases d:0≤eU.value 1200 (bJ.of [] b)
  ·exact d
  ·exact absurd (by rw [h2,aa sa,ab d];rfl) c
 have ba:=eU.yT a sa
 have bb:=eU.yT b sb
 rw [Bool.eq_false_iff.2 c,ae,bw (aa (by omega)),bw (aa (by omega)),bw (iJ _),bw (iJ _),bw c3]
 by_cases d:v4=true
 ·rw [d];rfl
 have ea:(Cn.oG a).2=0:=by
  by_cases x:(Cn.oG a).2=0
  ·exact x
  ·exact absurd (by rw [h4,ab x];rfl) d
 have eb:(Cn.oG b).2=0:=by
  by_cases x:(Cn.oG b).2=0
  ·exact x
  ·exact absurd (by rw [h4,aa ea,ab x];rfl) d
 rw [Bool.eq_false_iff.2 d,ae,bw (aa (by omega))]
 have e:(decide (Cn.tV a=Cn.tV b) == Tree.same a b)=true:=by
  have key:(Cn.tV a=Cn.tV b) ↔ a=b:=⟨WR ea eb,fun h=>by rw [h]⟩
  unfold Tree.same
  by_cases x:a=b
  ·rw [aa (key.2 x),@aa _ (Classical.propDecidable _) x];rfl
  ·rw [ab (fun w=>x (key.1 w)),@ab _ (Classical.propDecidable _) x];rfl
 rw [e]
end Go.Eng
set_option maxRecDepth 20000
namespace Go.Eng
open Go.Proofs
theorem CanonApart.ok:bA Go.Proofs.Tryz.prog cnGl 4 (CanonApart.c,CanonApart.sg):=meets bG (all_cons dw.ok (all_cons dI.ok (all_cons gn.ok (all_cons eF.ok all_nil)))) CanonApart.h (fits fun ins=>by unfold CanonApart.c;split;exact CanonApart.goal (.mk _ _ _ _ _ _ _ _ _) (.mk _ _ _ _ _ _ _ _ _);trivial)
end Go.Eng
