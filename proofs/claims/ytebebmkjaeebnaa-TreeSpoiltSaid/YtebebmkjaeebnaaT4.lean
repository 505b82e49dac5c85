/- Texts of my own, one behind the other: UtfP, TreeP1, TreeP2, TreeP3, TreeP4, BookP, TreeP, SpP1, SpQ, TreeOK. -/
import Derived.Test.YtebebmkjaeebnaaT3
set_option linter.unusedVariables false
set_option linter.unusedSimpArgs false
namespace Go.Eng
open Go.IntWalk
theorem utf_is.goal (r:Int):utf_is.F r=some [.b (Utf.isRune r)]:=by
 refine utf_is.F_in r ?_
 intro v1 h1 v2 h2 v3 h3
 subst h1 h2 h3
 by_cases a:0≤r <;> by_cases b:r≤1114111 <;> by_cases c:r<55296 <;> simp [ck,a,b,c,Utf.isRune]
theorem and192:∀n,n<256→((n &&& 192=128) ↔ (128≤n∧n<192)):=by decide +kernel
theorem and63:∀n,n<256→(128≤n∧n<192)→n &&& 63=n - 128:=by decide +kernel
theorem and31:∀n,n<256→(192≤n∧n<224)→n &&& 31=n - 192:=by decide +kernel
theorem and15:∀n,n<256→(224≤n∧n<240)→n &&& 15=n - 224:=by decide +kernel
theorem and7:∀n,n<256→(240≤n∧n<248)→n &&& 7=n - 240:=by decide +kernel
theorem u8lt (c:UInt8):c.toNat<256:=by have:=c.toNat_lt;simpa using this
theorem cont_byte (c:UInt8):decide ((c &&& (192:UInt8))=(128:UInt8))=decide (128≤c.toNat∧c.toNat<192):=by
 have h:=and192 c.toNat (u8lt c)
 rw [Bool.eq_iff_iff]
 simp only [decide_eq_true_eq]
 rw [←h,←UInt8.toNat_inj,UInt8.toNat_and]
 exact Iff.rfl
theorem low6 (c:UInt8) (h:128≤c.toNat∧c.toNat<192):((c &&& (63:UInt8)).toNat:Int)=((c.toNat - 128:Nat):Int):=by
 rw [UInt8.toNat_and]
 exact congrArg _ (and63 c.toNat (u8lt c) h)
def mres (r:Option Nat) (more least:Nat):Option (List TV):=match r with
 | some r=>if r<least∨Utf.isRune r=false then some [.i .i64 0,.i .i64 0] else some [.i .i64 r,.i .i64 (more+1:Int)]
 | none=>some [.i .i64 0,.i .i64 0]
theorem mres_eq (c:Nat) (more least:Nat) (l:Str):mres (Utf.cont c more l) more least=some [.i .i64 (Utf.multi c more least l).1,.i .i64 (Utf.multi c more least l).2]:=by
 unfold mres Utf.multi
 cases Utf.cont c more l with
 | none=>rfl
 | some r=>simp only;split <;> rfl
theorem utf_Rune.end_ (r:Nat) (more least:Nat) (hm:more<8) :
  (ck (!(!(decide ((r:Int)<(least:Int)))) || (!(decide ((r:Int)<(least:Int))))) (ck (!(!(decide ((r:Int)<(least:Int)))) || (!(decide ((r:Int)<(least:Int))))) (ck ((decide ((r:Int)<(least:Int))) || (!(decide ((r:Int)<(least:Int))))) (cond (cond (decide ((r:Int)<(least:Int))) true (!(Utf.isRune r)))
  (utf_Rune.l1)
  (some [(.i .i64 (r:Int)),(.i .i64 (IntKind.i64.wrap ((more:Int)+(1:Int))))])))))=mres (some r) more least:=by
 simp only [Bool.not_or_self,Bool.or_not_self,ck_true]
 rw [i64_in _ (by omega),utf_Rune.l1_eq]
 unfold mres
 by_cases h:r<least
 ·simp [h]
 ·simp only [show ¬((r:Int)<(least:Int)) by omega,decide_false,cond_false,h,false_or]
  cases Utf.isRune r <;> simp
theorem utf_Rune.l3_ok (b:Str) (at_:Nat) (more least:Nat) (hm:more<8) (hb:b.length≤1099511627776) (hlt:at_+more<b.length):∀(k i r:Nat),i+k=more+1→r<2 ^ (10+6 * i) →
  utf_Rune.l3 b at_ r more least i=mres (Utf.cont r k (b.drop (at_+i))) more least:=by
 intro k
 induction k with
 | zero =>
  intro i r hi hr
  refine utf_Rune.l3_in _ _ _ _ _ _ ?_
  intro v1 h1 v2 h2 v3 h3 v4 h4 v5 h5 v6 h6 v7 h7
  rw [show decide ((i:Int)≤(more:Int))=false by simp;omega,cond_false]
  subst h6 h7
  rw [Utf.cont]
  exact utf_Rune.end_ r more least hm
 | succ k ih =>
  intro i r hi hr
  refine utf_Rune.l3_in _ _ _ _ _ _ ?_
  intro v1 h1 v2 h2 v3 h3 v4 h4 v5 h5 v6 h6 v7 h7
  have hw:IntKind.i64.wrap ((at_:Int)+(i:Int))=((at_+i:Nat):Int):=by rw [i64_in _ (by omega)];omega
  have hdr:=drop_cons (l:=b) (i:=at_+i) (by omega) 0
  rw [show decide ((i:Int)≤(more:Int))=true by simp;omega,cond_true,hw]
  rw [hw,Int.toNat_natCast] at h1
  rw [ck_of (idx_ok (by omega) (by omega)),hdr,←h1,Utf.cont,h2,cont_byte]
  by_cases hc:128≤v1.toNat∧v1.toNat<192
  ·rw [if_pos hc,decide_eq_true hc]
   simp only [Bool.not_true,cond_false]
   rw [ck_of (idx_ok (by omega) (by omega))]
   have hp:2 ^ (10+6 * i) * 64=2 ^ (10+6 * (i+1)):=by rw [show 10+6 * (i+1)=(10+6 * i)+6 by omega,Nat.pow_add 2 (10+6 * i) 6]
   have hp2:2 ^ (10+6 * (i+1))≤2 ^ 58:=Nat.pow_le_pow_right (by omega) (by omega)
   have hr64:r * 64+64≤2 ^ (10+6 * (i+1)):=by
    rw [←hp];have:=Nat.mul_le_mul_right 64 (Nat.succ_le_of_lt hr);omega
   have e3:v3=((r * 64:Nat):Int):=by
    rw [h3]
    have:(min (((6:UInt64)).toNat) (IntKind.i64.bits))=6:=by decide
    rw [this,i64_in _ (by simp at hp2;omega)];simp
   have e4:v4=((v1.toNat - 128:Nat):Int):=by
    rw [h4,low6 v1 hc];exact i64_in _ (by omega)
   have e5:v5=((i+1:Nat):Int):=by rw [h5,i64_in _ (by omega)];omega
   have e6:intBitsV .or .i64 v3 v4=((r * 64+(v1.toNat - 128):Nat):Int):=by
    rw [e3,e4,or_i64 _ _ (by simp at hp2;omega) (by omega)]
    have:=or_add (a:=r) (b:=v1.toNat - 128) (k:=6) (by simp;omega)
    simp at this
    rw [this]
   rw [e6,e5,ih (i+1) _ (by omega) (by omega),Nat.add_assoc]
  ·rw [if_neg hc,decide_eq_false hc]
   simp only [Bool.not_false,cond_true]
   rw [utf_Rune.l1_eq];rfl
theorem utf_Rune.j2_ok (b : Str) (at_ : Nat) (r more least : Nat) (hm : 1 ≤ more ∧ more < 8) (hb : b.length ≤ 1099511627776) (hlt : at_ < b.length) (hr : r < 1024) :
    utf_Rune.j2 b at_ r more least = mres (Utf.cont r more (b.drop (at_ + 1))) more least := by
  have hcn : ∀ (k r : Nat) (l : Str), l.length < k → Utf.cont r k l = none := by
    intro k
    induction k with
    | zero => intro r l h; omega
    | succ k ih =>
      intro r l h
      cases l with
      | nil => rfl
      | cons c l => rw [Utf.cont]; split
                    · exact ih _ _ (by simp at h; omega)
                    · rfl
  have key := fun (h : at_ + more < b.length) => utf_Rune.l3_ok b at_ more least hm.2 hb h more 1 r (by omega) (by simp; omega)
  by_cases hx : at_ + more < b.length
  · rw [← key hx]
    refine utf_Rune.j2_in _ _ _ _ _ ?_
    intro v1 h1 v2 h2 v3 h3 v4 h4 v5 h5 v6 h6 v7 h7 v8 h8 v9 h9 v10 h10
    symm
    refine utf_Rune.l3_in _ _ _ _ _ _ ?_
    intro w1 k1 w2 k2 w3 k3 w4 k4 w5 k5 w6 k6 w7 k7
    have e1 : v1 = (b.length : Int) - at_ := by rw [h1]; exact i64_in _ (by omega)
    have e2 : v2 = (b.length : Int) - at_ - 1 := by rw [h2, e1]; exact i64_in _ (by omega)
    rw [show decide (v2 < (more : Int)) = false by simp; omega, cond_false]
    have a1 : ((1 : Nat) : Int) = 1 := rfl
    simp only [a1] at k1 k2 k3 k4 k5 k6 k7 ⊢
    subst h3; subst h4; subst h5; subst h6; subst h7; subst h8; subst h9; subst h10; subst k1; subst k2; subst k3; subst k4; subst k5; subst k6; subst k7
    rfl
  · refine utf_Rune.j2_in _ _ _ _ _ ?_
    intro v1 h1 v2 h2 v3 h3 v4 h4 v5 h5 v6 h6 v7 h7 v8 h8 v9 h9 v10 h10
    have e1 : v1 = (b.length : Int) - at_ := by rw [h1]; exact i64_in _ (by omega)
    have e2 : v2 = (b.length : Int) - at_ - 1 := by rw [h2, e1]; exact i64_in _ (by omega)
    rw [show decide (v2 < (more : Int)) = true by simp; omega, cond_true, utf_Rune.l1_eq, hcn _ _ _ (by simp; omega)]
    rfl
theorem rng (lo hi n:Nat):(cond (decide ((lo:Int)≤(n:Int))) (decide ((n:Int)<(hi:Int))) false)=decide (lo≤n∧n<hi):=by
 by_cases a:lo≤n
 ·rw [show decide ((lo:Int)≤(n:Int))=true by simp;omega,cond_true,Bool.eq_iff_iff];simp;omega
 ·rw [show decide ((lo:Int)≤(n:Int))=false by simp;omega,cond_false,decide_eq_false (by omega)]
theorem utf_Rune.goal (b:Str) (at_:Int) (hp:decide (b.length≤1099511627776)=true):utf_Rune.F b at_=some [.i .i64 (Utf.runeAt b at_).1,.i .i64 (Utf.runeAt b at_).2]:=by
 have hb:b.length≤1099511627776:=of_decide_eq_true hp
 refine utf_Rune.F_in b at_ ?_
 intro v1 h1 v2 h2 v3 h3 v4 h4 v5 h5 v6 h6 v7 h7 v8 h8 v9 h9
 unfold Utf.runeAt
 by_cases h0:at_<0
 ·subst h1
  simp [h0,ck,utf_Rune.l1_eq]
 ·have hd0:decide (at_<0)=false:=decide_eq_false h0
  obtain ⟨i,rfl⟩:=Int.eq_ofNat_of_zero_le (show 0≤at_ by omega)
  rw [hd0] at h1 ⊢
  subst h1
  simp only [Bool.not_false,Bool.not_true,Bool.false_or,Bool.or_true,ck_true,cond_false,Int.toNat_natCast] at h2 ⊢
  by_cases hl:b.length≤i
  ·rw [show decide ((b.length:Int)≤(i:Int))=true by simp;omega,if_pos (.inr (by omega)),cond_true,utf_Rune.l1_eq];rfl
  ·rw [show decide ((b.length:Int)≤(i:Int))=false by simp;omega,if_neg (by omega),cond_false,ck_of (idx_ok (by omega) (by omega)),drop_cons (l:=b) (i:=i) (by omega) 0,←h2,Utf.rune]
   have hc:=u8lt v2
   have e3:v3=(v2.toNat:Int):=by rw [h3];exact i64_in _ (by omega)
   have an:∀(m:Nat),m<256→intBitsV .and .i64 v3 m=((v2.toNat &&& m:Nat):Int):=fun m h=>by rw [e3,and_i64 _ _ (by omega) (by omega)]
   have an1:v5=((v2.toNat &&& 31:Nat):Int):=h5.trans (an 31 (by omega))
   have an2:v7=((v2.toNat &&& 15:Nat):Int):=h7.trans (an 15 (by omega))
   have an3:v9=((v2.toNat &&& 7:Nat):Int):=h9.trans (an 7 (by omega))
   have e4:v4=decide (192≤v2.toNat∧v2.toNat<224):=by rw [h4,e3];exact rng 192 224 _
   have e6:v6=decide (224≤v2.toNat∧v2.toNat<240):=by rw [h6,e3];exact rng 224 240 _
   have e8:v8=decide (240≤v2.toNat∧v2.toNat<248):=by rw [h8,e3];exact rng 240 248 _
   have J:∀(r more least:Nat),1≤more∧more<8→r<1024→utf_Rune.j2 b i r more least=some [.i .i64 (Utf.multi r more least (b.drop (i+1))).1,.i .i64 (Utf.multi r more least (b.drop (i+1))).2]:=fun r more least h1 h2 =>
    (utf_Rune.j2_ok b i r more least h1 hb (by omega) h2).trans (mres_eq _ _ _ _)
   simp only [Bool.not_or_self,ck_true]
   by_cases c1:v2.toNat<128
   ·rw [if_pos c1,e3,show decide ((v2.toNat:Int)<128)=true by simp;omega,cond_true];rfl
   ·rw [if_neg c1,show decide (v3<(128:Int))=false by rw [e3];simp;omega,cond_false,e4]
    by_cases c2:192≤v2.toNat∧v2.toNat<224
    ·rw [if_pos c2,decide_eq_true c2,cond_true,an1,and31 _ hc c2];exact J _ 1 128 (by omega) (by omega)
    ·rw [if_neg c2,decide_eq_false c2,cond_false,e6]
     by_cases c3:224≤v2.toNat∧v2.toNat<240
     ·rw [if_pos c3,decide_eq_true c3,cond_true,an2,and15 _ hc c3];exact J _ 2 2048 (by omega) (by omega)
     ·rw [if_neg c3,decide_eq_false c3,cond_false,e8]
      by_cases c4:240≤v2.toNat∧v2.toNat<248
      ·rw [if_pos c4,decide_eq_true c4,cond_true,an3,and7 _ hc c4];exact J _ 3 65536 (by omega) (by omega)
      ·rw [if_neg c4,decide_eq_false c4,cond_false,utf_Rune.l1_eq];rfl
theorem Utf.rune_size (l:Str):0≤(Utf.rune l).2∧(Utf.rune l).2≤l.length:=by
 have hcl:∀(k r q:Nat) (l:Str),Utf.cont r k l=some q→k≤l.length:=by
  intro k
  induction k with
  | zero=>intro r q l _;omega
  | succ k ih =>
   intro r q l h
   cases l with
   | nil=>cases h
   | cons c l =>
    rw [Utf.cont] at h
    split at h
    ·have:=ih _ _ _ h;simp;omega
    ·cases h
 have hmu:∀(r more least:Nat) (l:Str),0≤(Utf.multi r more least l).2∧(Utf.multi r more least l).2≤l.length+1:=by
  intro r more least l
  unfold Utf.multi
  cases h:Utf.cont r more l with
  | none=>simp;omega
  | some q =>
   have:=hcl _ _ _ _ h
   simp only
   split <;> simp <;> omega
 cases l with
 | nil=>exact ⟨by decide,by decide⟩
 | cons c l =>
  unfold Utf.rune
  simp only [List.length_cons]
  split
  ·simp;omega
  ·split
   ·have:=hmu (c.toNat - 192) 1 128 l;omega
   ·split
    ·have:=hmu (c.toNat - 224) 2 2048 l;omega
    ·split
     ·have:=hmu (c.toNat - 240) 3 65536 l;omega
     ·simp;omega
theorem Utf.lookN_ge (l:Str):∀n,l.length≤n→Utf.lookN n l=Utf.lookN l.length l:=by
 have key:∀(m:Nat) (l:Str),l.length≤m→∀n,l.length≤n→Utf.lookN n l=Utf.lookN l.length l:=by
  intro m
  induction m with
  | zero =>
   intro l hl n hn
   have:l=[]:=List.length_eq_zero_iff.1 (by omega)
   subst this
   cases n with
   | zero=>rfl
   | succ n=>rfl
  | succ m ih =>
   intro l hl n hn
   cases h:l.length with
   | zero =>
    have:l=[]:=List.length_eq_zero_iff.1 h
    subst this
    cases n <;> rfl
   | succ k =>
    cases n with
    | zero=>omega
    | succ n =>
     unfold Utf.lookN
     have hs:=Utf.rune_size l
     by_cases h0:(Utf.rune l).2=0
     ·rw [if_pos h0,if_pos h0]
     ·rw [if_neg h0,if_neg h0]
      have hd:(l.drop (Utf.rune l).2.toNat).length≤k:=by simp;omega
      rw [ih _ (by simp;omega) n (by simp;omega),ih _ (by simp;omega) k hd]
 exact fun n hn=>key _ l (Nat.le_refl _) n hn
theorem Utf.look_step (l:Str) (h:(Utf.rune l).2≠0):Utf.look l=((Utf.look (l.drop (Utf.rune l).2.toNat)).1+(Utf.rune l).2.toNat,(Utf.look (l.drop (Utf.rune l).2.toNat)).2+1):=by
 have hs:=Utf.rune_size l
 unfold Utf.look
 cases hl:l.length with
 | zero=>omega
 | succ k =>
  rw [Utf.lookN,if_neg h]
  simp only
  rw [Utf.lookN_ge _ k (by simp;omega)]
theorem Utf.look_none (l:Str) (h:(Utf.rune l).2=0):Utf.look l=(0,0):=by
 unfold Utf.look
 cases l.length with
 | zero=>rfl
 | succ k=>rw [Utf.lookN,if_pos h]
theorem Utf.runeAt_nat (b:Str) (i:Nat) (h:i<b.length):Utf.runeAt b i=Utf.rune (b.drop i):=by
 unfold Utf.runeAt;rw [if_neg (by omega),Int.toNat_natCast]
theorem utf_look.l1_ok (b:Str) (hb:b.length≤1099511627776):∀(m i k:Nat),b.length - i≤m→i≤b.length→k≤i →
  utf_look.l1 b i k=some [.i .i64 ((i+(Utf.look (b.drop i)).1:Nat):Int),.i .i64 ((k+(Utf.look (b.drop i)).2:Nat):Int)]:=by
 intro m
 induction m with
 | zero =>
  intro i k hm hi hk
  refine utf_look.l1_in _ _ _ ?_
  intro v1 h1 v2 h2
  rw [show decide ((i:Int)<(b.length:Int))=false by simp;omega,cond_false,utf_look.j2_eq,List.drop_of_length_le (by omega)]
  rfl
 | succ m ih =>
  intro i k hm hi hk
  by_cases hlt:i<b.length
  ·refine utf_look.l1_in _ _ _ ?_
   intro v1 h1 v2 h2
   rw [Utf.runeAt_nat b i hlt] at h1 ⊢
   have hs:=Utf.rune_size (b.drop i)
   rw [List.length_drop] at hs
   rw [show decide ((i:Int)<(b.length:Int))=true by simp;omega,cond_true,ck_of (decide_eq_true hb)]
   by_cases h0:(Utf.rune (b.drop i)).2=0
   ·rw [decide_eq_true h0,cond_true,utf_look.j2_eq,Utf.look_none _ h0];rfl
   ·rw [decide_eq_false h0,cond_false,Utf.look_step _ h0]
    have e1:v1=((i+(Utf.rune (b.drop i)).2.toNat:Nat):Int):=by rw [h1,i64_in _ (by omega)];omega
    have e2:v2=((k+1:Nat):Int):=by rw [h2,i64_in _ (by omega)];omega
    rw [e1,e2,ih _ _ (by omega) (by omega) (by omega),List.drop_drop]
    simp only [Option.some.injEq,List.cons.injEq,TV.i.injEq,true_and,and_true]
    exact ⟨by omega,by omega⟩
  ·refine utf_look.l1_in _ _ _ ?_
   intro v1 h1 v2 h2
   rw [show decide ((i:Int)<(b.length:Int))=false by simp;omega,cond_false,utf_look.j2_eq,List.drop_of_length_le (by omega)]
   rfl
theorem utf_look.goal (b:Str) (hp:decide (b.length≤1099511627776)=true):utf_look.F b=some [.i .i64 ((Utf.look b).1:Int),.i .i64 ((Utf.look b).2:Int)]:=by
 rw [utf_look.F_eq]
 have:=utf_look.l1_ok b (of_decide_eq_true hp) b.length 0 0 (by omega) (by omega) (by omega)
 simpa using this
theorem utf_Check.goal (b:Str) (hp:decide (b.length≤1099511627776)=true):utf_Check.F b=some [.i .i64 ((Utf.look b).1:Int),.b (Utf.whole b)]:=by
 have e:decide (((Utf.look b).1:Int)=(b.length:Int))=Utf.whole b:=by unfold Utf.whole;rw [Bool.eq_iff_iff];simp;omega
 rw [utf_Check.F_eq,ck_of hp,e]
theorem ref2_Rune.end_ (r:Nat) (more least:Nat) {v7 v9:Bool} (h7:v7=(cond (decide ((r:Int)<(least:Int))) true (decide ((1114111:Int)<(r:Int))))) (h9:v9=(cond (decide ((55296:Int)≤(r:Int))) (decide ((r:Int)≤(57343:Int))) false)) :
  cond (cond v7 true v9)
  (some [(.i .i64 (0:Int)),(.i .i64 (0:Int))])
  (some [(.i .i64 (r:Int)),(.i .i64 ((more+1:Nat):Int))])=mres (some r) more least:=by
 have e:cond v7 true v9=decide (r<least∨Utf.isRune r=false):=by
  subst h7 h9
  unfold Utf.isRune
  rw [Bool.eq_iff_iff]
  by_cases a:r<least
  ·simp [a]
  ·by_cases b:1114111<r
   ·simp [a,show (1114111:Int)<(r:Int) by omega] <;> omega
   ·by_cases c:55296≤r
    ·simp [a,show ¬(1114111:Int)<(r:Int) by omega,show (55296:Int)≤(r:Int) by omega] <;> omega
    ·simp [a,show ¬(1114111:Int)<(r:Int) by omega,show ¬(55296:Int)≤(r:Int) by omega] <;> omega
 rw [e]
 unfold mres
 by_cases h:r<least∨Utf.isRune r=false
 ·rw [decide_eq_true h];simp only [h,if_true,cond_true]
 ·rw [decide_eq_false h];simp only [h,if_false,cond_false];rfl
theorem ck6 (a b c:Bool) (hc:c=(!a&&b)):(!(!a) || ((!a)&&(!b || c)))=true:=by subst hc;cases a <;> cases b <;> rfl
theorem ref2_Rune.l2_ok (b:Str) (at_:Nat) (more least:Nat) (hm:more<8) (hb:b.length≤1099511627776) (hlt:at_+more<b.length):∀(k i r:Nat),i+k=more+1→r<2 ^ (10+6 * i) →
  ref2_Rune.l2 b at_ ((more+1:Nat):Int) r least i=mres (Utf.cont r k (b.drop (at_+i))) more least:=by
 intro k
 induction k with
 | zero =>
  intro i r hi hr
  refine ref2_Rune.l2_in _ _ _ _ _ _ ?_
  intro v1 h1 v2 h2 v3 h3 v4 h4 v5 h5 v6 h6 v7 h7 v8 h8 v9 h9
  rw [show decide ((i:Int)<((more+1:Nat):Int))=false by simp;omega,cond_false]
  simp only [Bool.not_or_self,Bool.or_not_self,ck_true]
  rw [ck_of (ck6 _ _ _ h8),Utf.cont]
  exact ref2_Rune.end_ r more least h7 h9
 | succ k ih =>
  intro i r hi hr
  refine ref2_Rune.l2_in _ _ _ _ _ _ ?_
  intro v1 h1 v2 h2 v3 h3 v4 h4 v5 h5 v6 h6 v7 h7 v8 h8 v9 h9
  have hw:IntKind.i64.wrap ((at_:Int)+(i:Int))=((at_+i:Nat):Int):=by rw [i64_in _ (by omega)];omega
  have hdr:=drop_cons (l:=b) (i:=at_+i) (by omega) 0
  have hu:=u8lt v1
  rw [show decide ((i:Int)<((more+1:Nat):Int))=true by simp;omega,cond_true,hw]
  rw [hw,Int.toNat_natCast] at h1
  have e2:v2=(v1.toNat:Int):=by rw [h2];exact i64_in _ (by omega)
  have e3:v3=!decide (128≤v1.toNat∧v1.toNat<192):=by
   rw [h3,e2,Bool.eq_iff_iff]
   by_cases a:v1.toNat<128
   ·simp [a];omega
   ·simp [show ¬(v1.toNat:Int)<128 by omega];omega
  simp only [Bool.not_or_self,Bool.or_not_self,ck_true]
  rw [ck_of (idx_ok (by omega) (by omega)),hdr,←h1,Utf.cont,e3]
  by_cases hc:128≤v1.toNat∧v1.toNat<192
  ·rw [if_pos hc,decide_eq_true hc]
   simp only [Bool.not_true,cond_false]
   have hp:2 ^ (10+6 * i) * 64=2 ^ (10+6 * (i+1)):=by rw [show 10+6 * (i+1)=(10+6 * i)+6 by omega,Nat.pow_add 2 (10+6 * i) 6]
   have hp2:2 ^ (10+6 * (i+1))≤2 ^ 58:=Nat.pow_le_pow_right (by omega) (by omega)
   have hr64:r * 64+64≤2 ^ (10+6 * (i+1)):=by
    rw [←hp];have:=Nat.mul_le_mul_right 64 (Nat.succ_le_of_lt hr);omega
   simp at hp2
   have e4:v4=((r * 64:Nat):Int):=by rw [h4,i64_in _ (by omega)];simp
   have e5:v5=((r * 64+(v1.toNat - 128):Nat):Int):=by
    rw [h5,e4,e2,i64_in (((r * 64:Nat):Int)+(v1.toNat:Int)) (by omega),i64_in _ (by omega)];omega
   have e6:v6=((i+1:Nat):Int):=by rw [h6,i64_in _ (by omega)];omega
   rw [e5,e6,ih (i+1) _ (by omega) (by omega),Nat.add_assoc]
  ·rw [if_neg hc,decide_eq_false hc]
   simp only [Bool.not_false,cond_true]
   rfl
theorem Utf.cont_short:∀(k r:Nat) (l:Str),l.length<k→Utf.cont r k l=none:=by
 intro k
 induction k with
 | zero=>intro r l h;omega
 | succ k ih =>
  intro r l h
  cases l with
  | nil=>rfl
  | cons c l =>
   rw [Utf.cont]
   split
   ·exact ih _ _ (by simp at h;omega)
   ·rfl
theorem ref2_Rune.j1_ok (b:Str) (at_:Nat) (r more least:Nat) (hm:1≤more∧more<8) (hb:b.length≤1099511627776) (hlt:at_<b.length) (hr:r<1024) :
  ref2_Rune.j1 b at_ ((more+1:Nat):Int) r least=mres (Utf.cont r more (b.drop (at_+1))) more least:=by
 refine ref2_Rune.j1_in _ _ _ _ _ ?_
 intro v1 h1
 have e1:v1=(b.length:Int) - at_:=by rw [h1];exact i64_in _ (by omega)
 by_cases hx:at_+more<b.length
 ·rw [show decide (v1<((more+1:Nat):Int))=false by rw [e1];simp;omega,cond_false]
  exact ref2_Rune.l2_ok b at_ more least hm.2 hb hx more 1 r (by omega) (by simp;omega)
 ·rw [show decide (v1<((more+1:Nat):Int))=true by rw [e1];simp;omega,cond_true,Utf.cont_short _ _ _ (by simp;omega)]
  rfl
theorem ref2_Rune.goal (b:Str) (at_:Int) (hp:decide (b.length≤1099511627776)=true):ref2_Rune.F b at_=some [.i .i64 (Utf.runeAt b at_).1,.i .i64 (Utf.runeAt b at_).2]:=by
 have hb:b.length≤1099511627776:=of_decide_eq_true hp
 refine ref2_Rune.F_in b at_ ?_
 intro v1 h1 v2 h2 v3 h3 v4 h4 v5 h5 v6 h6 v7 h7 v8 h8 v9 h9
 unfold Utf.runeAt
 simp only [Bool.not_or_self,Bool.or_not_self,Bool.and_self,ck_true]
 by_cases h0:at_<0
 ·rw [h1,decide_eq_true h0,cond_true,cond_true,if_pos (.inl h0)]
 ·rw [h1,decide_eq_false h0,cond_false]
  obtain ⟨i,rfl⟩:=Int.eq_ofNat_of_zero_le (show 0≤at_ by omega)
  rw [Int.toNat_natCast] at h2
  by_cases hl:b.length≤i
  ·rw [show decide ((b.length:Int)≤(i:Int))=true by simp;omega,if_pos (.inr (by omega)),cond_true]
  ·rw [show decide ((b.length:Int)≤(i:Int))=false by simp;omega,if_neg (by omega),cond_false,ck_of (idx_ok (by omega) (by omega)),Int.toNat_natCast,drop_cons (l:=b) (i:=i) (by omega) 0,←h2,Utf.rune]
   have hc:=u8lt v2
   have e3:v3=(v2.toNat:Int):=by rw [h3];exact i64_in _ (by omega)
   have e4:v4=decide (192≤v2.toNat∧v2.toNat<224):=by rw [h4,e3];exact rng 192 224 _
   have e6:v6=decide (224≤v2.toNat∧v2.toNat<240):=by rw [h6,e3];exact rng 224 240 _
   have e8:v8=decide (240≤v2.toNat∧v2.toNat<248):=by rw [h8,e3];exact rng 240 248 _
   have J:∀(r more least:Nat),1≤more∧more<8→r<1024→ref2_Rune.j1 b i ((more+1:Nat):Int) r least=some [.i .i64 (Utf.multi r more least (b.drop (i+1))).1,.i .i64 (Utf.multi r more least (b.drop (i+1))).2]:=fun r more least h1 h2 =>
    (ref2_Rune.j1_ok b i r more least h1 hb (by omega) h2).trans (mres_eq _ _ _ _)
   by_cases c1:v2.toNat<128
   ·rw [if_pos c1,e3,show decide ((v2.toNat:Int)<128)=true by simp;omega,cond_true]
   ·rw [if_neg c1,show decide (v3<(128:Int))=false by rw [e3];simp;omega,cond_false,e4]
    by_cases c2:192≤v2.toNat∧v2.toNat<224
    ·rw [if_pos c2,decide_eq_true c2,cond_true,show v5=((v2.toNat - 192:Nat):Int) by rw [h5,e3,i64_in _ (by omega)];omega];exact J _ 1 128 (by omega) (by omega)
    ·rw [if_neg c2,decide_eq_false c2,cond_false,e6]
     by_cases c3:224≤v2.toNat∧v2.toNat<240
     ·rw [if_pos c3,decide_eq_true c3,cond_true,show v7=((v2.toNat - 224:Nat):Int) by rw [h7,e3,i64_in _ (by omega)];omega];exact J _ 2 2048 (by omega) (by omega)
     ·rw [if_neg c3,decide_eq_false c3,cond_false,e8]
      by_cases c4:240≤v2.toNat∧v2.toNat<248
      ·rw [if_pos c4,decide_eq_true c4,cond_true,show v9=((v2.toNat - 240:Nat):Int) by rw [h9,e3,i64_in _ (by omega)];omega];exact J _ 3 65536 (by omega) (by omega)
      ·rw [if_neg c4,decide_eq_false c4,cond_false]
theorem ref2_Check.l1_ok (b:Str) (hb:b.length≤1099511627776):∀(m i:Nat),b.length - i≤m→i≤b.length →
  ref2_Check.l1 b i=some [.i .i64 ((i+(Utf.look (b.drop i)).1:Nat):Int),.b (decide (i+(Utf.look (b.drop i)).1=b.length))]:=by
 intro m
 induction m with
 | zero =>
  intro i hm hi
  refine ref2_Check.l1_in _ _ ?_
  intro v1 h1
  rw [show decide ((i:Int)<(b.length:Int))=false by simp;omega,cond_false,List.drop_of_length_le (by omega)]
  have:(Utf.look []).1=0:=by decide
  rw [this,decide_eq_true (show i+0=b.length by omega),show i+0=b.length by omega]
 | succ m ih =>
  intro i hm hi
  refine ref2_Check.l1_in _ _ ?_
  intro v1 h1
  by_cases hlt:i<b.length
  ·rw [Utf.runeAt_nat b i hlt] at h1 ⊢
   have hs:=Utf.rune_size (b.drop i)
   rw [List.length_drop] at hs
   rw [show decide ((i:Int)<(b.length:Int))=true by simp;omega,cond_true,ck_of (decide_eq_true hb)]
   by_cases h0:(Utf.rune (b.drop i)).2=0
   ·rw [decide_eq_true h0,cond_true,Utf.look_none _ h0,decide_eq_false (show ¬i+(0,0).1=b.length by simp;omega)];rfl
   ·rw [decide_eq_false h0,cond_false,Utf.look_step _ h0]
    have e1:v1=((i+(Utf.rune (b.drop i)).2.toNat:Nat):Int):=by rw [h1,i64_in _ (by omega)];omega
    rw [e1,ih _ (by omega) (by omega),List.drop_drop]
    simp only [Option.some.injEq,List.cons.injEq,TV.i.injEq,TV.b.injEq,true_and,and_true]
    refine ⟨by omega,?_⟩
    rw [Bool.eq_iff_iff];simp;omega
  ·rw [show decide ((i:Int)<(b.length:Int))=false by simp;omega,cond_false,List.drop_of_length_le (by omega)]
   have:(Utf.look []).1=0:=by decide
   rw [this,decide_eq_true (show i+0=b.length by omega),show i+0=b.length by omega]
theorem ref2_Check.goal (b:Str) (hp:decide (b.length≤1099511627776)=true):ref2_Check.F b=some [.i .i64 ((Utf.look b).1:Int),.b (Utf.whole b)]:=by
 rw [ref2_Check.F_eq]
 have:=ref2_Check.l1_ok b (of_decide_eq_true hp) b.length 0 (by omega) (by omega)
 simpa [Utf.whole] using this
theorem ref2_Whole.goal (s:Str) (hp:decide (s.length≤1099511627776)=true):ref2_Whole.F s=some [.b (Utf.whole s)]:=by
 rw [ref2_Whole.F_eq,ck_of (big_len (of_decide_eq_true hp)),ck_of hp]
theorem ref2_Zero.l1_ok (s:Str) (hb:s.length≤1099511627776):∀(m i:Nat),s.length - i≤m→i≤s.length→ref2_Zero.l1 s i=some [.b ((s.drop i).contains 0)]:=by
 intro m
 induction m with
 | zero =>
  intro i hm hi
  refine ref2_Zero.l1_in _ _ ?_
  intro v1 h1 v2 h2
  rw [show decide ((i:Int)<(s.length:Int))=false by simp;omega,cond_false,List.drop_of_length_le (by omega)];rfl
 | succ m ih =>
  intro i hm hi
  refine ref2_Zero.l1_in _ _ ?_
  intro v1 h1 v2 h2
  rw [Int.toNat_natCast] at h1
  by_cases hlt:i<s.length
  ·rw [show decide ((i:Int)<(s.length:Int))=true by simp;omega,cond_true,ck_of (idx_ok (by omega) (by omega)),drop_cons (l:=s) hlt 0,←h1]
   have e2:v2=((i+1:Nat):Int):=by rw [h2,i64_in _ (by omega)];omega
   by_cases h0:v1=0
   ·rw [h0];rfl
   ·rw [decide_eq_false h0,cond_false,e2,ih _ (by omega) (by omega),List.contains_cons]
    have:((0:UInt8) == v1)=false:=by rw [beq_eq_false_iff_ne];exact fun e=>h0 e.symm
    rw [this,Bool.false_or]
  ·rw [show decide ((i:Int)<(s.length:Int))=false by simp;omega,cond_false,List.drop_of_length_le (by omega)];rfl
theorem ref2_Zero.goal (s:Str) (hp:decide (s.length≤1099511627776)=true):ref2_Zero.F s=some [.b (Utf.zero s)]:=by
 rw [ref2_Zero.F_eq]
 have:=ref2_Zero.l1_ok s (of_decide_eq_true hp) s.length 0 (by omega) (by omega)
 simpa [Utf.zero] using this
end Go.Eng
namespace Go.Eng
open Go.IntWalk
theorem sl_IndexByte.goal (s:Str) (c:UInt8):sl_IndexByte.F s c=some [.i .i64 (Lib.indexByte s c)]:=sl_IndexByte.F_eq s c
theorem sl_Index.goal (s t:Str) (hp:decide (t.length=1)=true):sl_Index.F s t=some [.i .i64 (Lib.indexByte s (t.getD 0 0))]:=by
 have hl:t.length=1:=of_decide_eq_true hp
 refine sl_Index.F_in s t ?_
 intro v1 h1 v2 h2
 have e0:decide ((t.length:Int)=0)=false:=decide_eq_false (by omega)
 have e1:decide ((t.length:Int)=1)=true:=decide_eq_true (by omega)
 rw [e0] at h1 ⊢
 simp only [Bool.not_false,Bool.not_true,Bool.false_or,Bool.and_self,ck_true,cond_false] at h1 ⊢
 by_cases hs:t=s
 ·subst hs
  rw [h1,decide_eq_true rfl,cond_true]
  obtain ⟨c,rfl⟩:∃c,t=[c]:=by
   match t,hl with
   | [c],_=>exact ⟨c,rfl⟩
  simp [Lib.indexByte]
 ·rw [h1,decide_eq_false hs,cond_false,e1,cond_true,ck_of (idx_ok (by omega) (by omega)),h2];rfl
theorem st_Index.goal (s t:Str) (hp:decide (t.length=1)=true):st_Index.F s t=some [.i .i64 (Lib.indexByte s (t.getD 0 0))]:=by
 refine st_Index.F_in s t ?_
 intro v1 h1
 rw [ck_of hp,h1]
theorem st_Contains.goal (s t:Str) (hp:decide (t.length=1)=true):st_Contains.F s t=some [.b (decide (0≤Lib.indexByte s (t.getD 0 0)))]:=by
 refine st_Contains.F_in s t ?_
 intro v1 h1
 rw [ck_of hp,h1]
theorem tree_Name.goal (k:Int):tree_Name.F k=some [.s (Tree.name k)]:=by
 refine tree_Name.F_in k ?_
 intro v1 h1 v2 h2
 unfold Tree.name
 by_cases a:k=127
 ·rw [if_pos a,decide_eq_true a];rfl
 ·rw [if_neg a,decide_eq_false a,cond_false]
  by_cases b:k=255
  ·rw [if_pos b,decide_eq_true b];rfl
  ·rw [if_neg b,decide_eq_false b,cond_false]
   simp only [Bool.not_or_self,Bool.or_not_self,ck_true]
   by_cases c:k<0∨20≤k
   ·rw [if_pos c,show v1=true by rw [h1];by_cases d:k<0 <;> simp [d];omega];rfl
   ·rw [if_neg c,show v1=false by rw [h1];by_cases d:k<0 <;> simp [d] <;> omega,cond_false,ck_of (idx_ok (by omega) (by omega)),ck_of (by simp;omega),h2];rfl
theorem ref17_kinds.goal:ref17_kinds.F=some [.sl .is Tree.kinds]:=by
 refine ref17_kinds.F_in ?_
 intro v1 h1
 rw [h1];rfl
def pickS (k:Int):List Int→List Str→Str
 | a :: ks,s :: ss=>if a=k then s else pickS k ks ss
 | _,_=>[]
theorem ref17_Name.l1_ok (k:Int) (ss:List Str) (ks:List Int) (hl:ss.length=ks.length) (hb:ks.length≤1000):∀(m i:Nat),i+m=ks.length→ref17_Name.l1 k ss ks i=some [.s (pickS k (ks.drop i) (ss.drop i))]:=by
 intro m
 induction m with
 | zero =>
  intro i hi
  refine ref17_Name.l1_in _ _ _ _ ?_
  intro v1 h1 v2 h2 v3 h3
  rw [decide_eq_false (by omega),cond_false,List.drop_of_length_le (by omega)];rfl
 | succ m ih =>
  intro i hi
  refine ref17_Name.l1_in _ _ _ _ ?_
  intro v1 h1 v2 h2 v3 h3
  rw [Int.toNat_natCast] at h1 h2
  rw [decide_eq_true (by omega),cond_true,ck_of (idx_ok (by omega) (by omega)),drop_cons (l:=ks) (i:=i) (by omega) 0,drop_cons (l:=ss) (i:=i) (by omega) [],pickS,←h1,←h2]
  by_cases h:v1=k
  ·rw [if_pos h,decide_eq_true h,cond_true,ck_of (idx_ok (by omega) (by omega))]
  ·rw [if_neg h,decide_eq_false h,cond_false,show v3=((i+1:Nat):Int) by rw [h3,i64_in _ (by omega)];omega,ih _ (by omega)]
theorem Tree.name_none (k:Int) (h:k ∉ Tree.kinds):Tree.name k=[]:=by
 simp only [Tree.kinds,List.mem_cons,List.not_mem_nil,not_or] at h
 unfold Tree.name
 rw [if_neg (by omega),if_neg (by omega)]
 by_cases c:k<0∨20≤k
 ·rw [if_pos c]
 ·have:k=0:=by omega
  subst this
  rfl
theorem pickS_none (k:Int):∀(ks:List Int) (ss:List Str),k ∉ ks→pickS k ks ss=[]
 | [],_,_=>rfl
 | _ :: _,[],_=>rfl
 | a :: ks,s :: ss,h=>by
  rw [pickS,if_neg (fun e=>h (by rw [e];exact List.mem_cons_self ..))]
  exact pickS_none k ks ss fun hm=>h (List.mem_cons_of_mem _ hm)
theorem ref17_Name.goal (k:Int):ref17_Name.F k=some [.s (Tree.name k)]:=by
 refine ref17_Name.F_in k ?_
 intro v1 h1
 rw [show (0:Int)=((0:Nat):Int) from rfl,ref17_Name.l1_ok k v1 Tree.kinds (by rw [h1];rfl) (by decide) 21 0 (by decide)]
 by_cases h:k∈Tree.kinds
 ·have key:∀k∈Tree.kinds,pickS k (Tree.kinds.drop 0) (v1.drop 0)=Tree.name k:=by rw [h1];decide +kernel
  rw [key k h]
 ·rw [Tree.name_none k h,pickS_none _ _ _ (by simpa using h)]
theorem ref17_has.goal (k:Int):ref17_has.F k=some [.b (Tree.hasN 0 k),.b (Tree.hasN 1 k),.b (Tree.hasN 2 k),.b (Tree.hasN 3 k),.b (Tree.hasN 4 k),.b (Tree.hasN 5 k),.b (Tree.hasN 6 k)]:=by
 have key:∀k,k∈Tree.kinds∨k ∉ Tree.kinds:=fun k=>Decidable.em _
 simp only [ref17_has.F_eq,ref17_has.j1_eq,ref17_has.j2_eq,ref17_has.j3_eq,ref17_has.j4_eq,Tree.hasN]
 by_cases a1:k=1
 ·subst a1;rfl
 by_cases a2:k=2
 ·subst a2;rfl
 by_cases a3:k=3
 ·subst a3;rfl
 by_cases a4:k=4
 ·subst a4;rfl
 by_cases a5:k=5
 ·subst a5;rfl
 by_cases a7:k=7
 ·subst a7;rfl
 by_cases a8:k=8
 ·subst a8;rfl
 by_cases a9:k=9
 ·subst a9;rfl
 by_cases a11:k=11
 ·subst a11;rfl
 by_cases a12:k=12
 ·subst a12;rfl
 by_cases a13:k=13
 ·subst a13;rfl
 by_cases a14:k=14
 ·subst a14;rfl
 by_cases a15:k=15
 ·subst a15;rfl
 by_cases a16:k=16
 ·subst a16;rfl
 by_cases a17:k=17
 ·subst a17;rfl
 by_cases a18:k=18
 ·subst a18;rfl
 by_cases a19:k=19
 ·subst a19;rfl
 simp [a1,a2,a3,a4,a5,a7,a8,a9,a11,a12,a13,a14,a15,a16,a17,a18,a19]
end Go.Eng
namespace Go.Eng
open Go.IntWalk
theorem indexByte_contains (c:UInt8):∀s:Str,decide (0≤Lib.indexByte s c)=s.contains c
 | []=>by simp [Lib.indexByte]
 | b :: l=>by
  have ih:=indexByte_contains c l
  have hge:=Lib.indexByte_ge l c
  rw [List.contains_cons,←ih]
  rw [Lib.indexByte]
  by_cases h:b=c
  ·subst h;simp
  ·rw [if_neg (by simpa using h),show (c == b)=false by rw [beq_eq_false_iff_ne];exact fun e=>h e.symm,Bool.false_or]
   by_cases h1:Lib.indexByte l c=-1
   ·rw [h1];rfl
   ·rw [if_neg (by simpa using h1),decide_eq_true (by omega),decide_eq_true (by omega)]
theorem tree_whole.goal (s:Str) (plain:Bool) (hp:decide (s.length≤1099511627776)=true):tree_whole.F s plain=some [.b (Tree.wholeT s plain)]:=by
 have e:decide (0≤Lib.indexByte s (([0]:Str).getD 0 0))=Utf.zero s:=indexByte_contains 0 s
 refine tree_whole.F_in s plain ?_
 intro v1 h1 v2 h2
 rw [ck_of (big_len (of_decide_eq_true hp)),ck_of hp]
 rw [e] at h1
 subst h1 h2
 unfold Tree.wholeT
 cases Utf.whole s <;> cases plain <;> cases Utf.zero s <;> rfl
theorem tree_fields.goal (v:Val):tree_fields.F v=some [.b (Tree.fieldsOK v)]:=by
 have J2:∀(x:Bool) (v:Val),tree_fields.j2 x v=some [.b (x&&decide (v.bits=0)&&decide (v.high=0)&&decide (v.low=0)&&decide (v.text=[])&&decide (v.more=[])&&decide (v.sub=0)&&decide (v.bytes=[])&&decide (v.kids=[]))]:=by
  intro x v
  refine tree_fields.j2_in x v ?_
  intro v1 h1 v2 h2 v3 h3 v4 h4 v5 h5 v6 h6 v7 h7 v8 h8 v9 h9 v10 h10
  simp only [Bool.not_or_self,ck_true]
  have e1:decide (v7=0)=decide (v.bytes=[]):=by rw [h7,Bool.eq_iff_iff];simp
  have e2:decide (v9=0)=decide (v.kids=[]):=by rw [h9,Bool.eq_iff_iff];simp
  rw [e1] at h8
  rw [e2] at h10
  subst h1 h2 h3 h4 h5 h6 h8 h10
  simp only [Bool.cond_false_right]
 have J3:∀(x0:Bool) (x1:Int) (x2:Bool) (x3:Val),tree_fields.j3 x0 x1 x2 x3=cond x2
  (tree_fields.j2 x0 (Val.mk (Val.kind x3) (Val.bits x3) (Val.high x3) (Val.low x3) ([]:Str) (Val.more x3) (Val.sub x3) (Val.bytes x3) (Val.kids x3)))
  (cond (decide (x1=(11:Int)))
  (tree_fields.j2 x0 (Val.mk (Val.kind x3) (Val.bits x3) (Val.high x3) (Val.low x3) ([]:Str) ([]:Str) (Val.sub x3) (Val.bytes x3) (Val.kids x3)))
  (cond (decide (x1=(5:Int)))
  (tree_fields.j2 (decide (0≤x3.sub)&&decide (x3.sub≤255)) (Val.mk (Val.kind x3) (Val.bits x3) (Val.high x3) (Val.low x3) (Val.text x3) (Val.more x3) (0:Int) ([]:List UInt8) (Val.kids x3)))
  (cond (decide (x1=(7:Int)))
  (tree_fields.j2 (decide (x3.bytes.length=12)) (Val.mk (Val.kind x3) (Val.bits x3) (Val.high x3) (Val.low x3) (Val.text x3) (Val.more x3) (Val.sub x3) ([]:List UInt8) (Val.kids x3)))
  (cond (decide (x1=(12:Int)))
  (tree_fields.j2 (decide (x3.bytes.length=12)) (Val.mk (Val.kind x3) (Val.bits x3) (Val.high x3) (Val.low x3) ([]:Str) (Val.more x3) (Val.sub x3) ([]:List UInt8) (Val.kids x3)))
  (cond (decide (x1=(3:Int)))
  (tree_fields.j4 x0 x1 (decide (x1=(3:Int))) x3)
  (tree_fields.j4 x0 x1 (decide (x1=(4:Int))) x3)))))):=by
  intro x0 x1 x2 x3
  refine tree_fields.j3_in x0 x1 x2 x3 ?_
  intro v1 h1 v2 h2
  have e:decide (v2=12)=decide (x3.bytes.length=12):=by rw [h2,Bool.eq_iff_iff];simp;omega
  simp only [Bool.not_or_self,ck_true,e,h1,Bool.cond_false_right]
 obtain ⟨k,b,hi,lo,t,m,s,y,ks⟩:=v
 simp only [tree_fields.F_eq,tree_fields.j1_eq,J3,tree_fields.j4_eq,J2,Tree.fieldsOK,Tree.hasN]
 by_cases a1:k=1
 ·subst a1;simp;grind
 by_cases a2:k=2
 ·subst a2;simp;grind
 by_cases a3:k=3
 ·subst a3;simp;grind
 by_cases a4:k=4
 ·subst a4;simp;grind
 by_cases a5:k=5
 ·subst a5;simp;grind
 by_cases a7:k=7
 ·subst a7;simp;grind
 by_cases a8:k=8
 ·subst a8;simp;grind
 by_cases a9:k=9
 ·subst a9;simp;grind
 by_cases a11:k=11
 ·subst a11;simp;grind
 by_cases a12:k=12
 ·subst a12;simp;grind
 by_cases a13:k=13
 ·subst a13;simp;grind
 by_cases a14:k=14
 ·subst a14;simp;grind
 by_cases a15:k=15
 ·subst a15;simp;grind
 by_cases a16:k=16
 ·subst a16;simp;grind
 by_cases a17:k=17
 ·subst a17;simp;grind
 by_cases a18:k=18
 ·subst a18;simp;grind
 by_cases a19:k=19
 ·subst a19;simp;grind
 simp [a1,a2,a3,a4,a5,a7,a8,a9,a11,a12,a13,a14,a15,a16,a17,a18,a19];grind
end Go.Eng
namespace Go.Eng
open Go.IntWalk
theorem ref17_Named.goal (s:Str) (hp:decide (s.length≤1099511627776)=true):ref17_Named.F s=some [.b (Tree.wholeT s true)]:=by
 refine ref17_Named.F_in s ?_
 intro v1 h1
 rw [ck_of hp,hp]
 subst h1
 unfold Tree.wholeT
 cases Utf.whole s <;> cases Utf.zero s <;> rfl
theorem ref17_longer.goal (p:List Int) (k:Int) (hp:decide (p.length≤1099511627776)=true):ref17_longer.F p k=some [.sl .is (p++[k])]:=by
 have hp:=of_decide_eq_true hp
 refine ref17_longer.F_in p k ?_
 intro v1 h1
 rw [ck_of (big_ap (by simp;omega) (by simp;omega)),ck_of (big_ap (by simp;omega) (by simp;omega)),h1];rfl
theorem ref17_own.goal (v:Val) (hp:decide (Fld.bulk (Fld.of [] v)≤1099511627776)=true):ref17_own.F v=some [.i .i64 (Tree.own v)]:=by
 have hp:=of_decide_eq_true hp
 have hb1:v.text.length≤1099511627776:=by simp only [Fld.of,Fld.bulk] at hp;omega
 have hb2:v.more.length≤1099511627776:=by simp only [Fld.of,Fld.bulk] at hp;omega
 refine ref17_own.F_in v ?_
 intro v1 h1 v2 h2 v3 h3 v4 h4 v5 h5 v6 h6 v7 h7 v8 h8 v9 h9 v10 h10 v11 h11 v12 h12 v13 h13 v14 h14 v15 h15 v16 h16 v17 h17 v18 h18 v19 h19 v20 h20 v21 h21 v22 h22 v23 h23 v24 h24 v25 h25 v26 h26 v27 h27 v28 h28 v29 h29 v30 h30 v31 h31 v32 h32 v33 h33 v34 h34 v35 h35 v36 h36
 unfold Tree.own
 by_cases hn:Tree.name v.kind=[]
 ·rw [if_pos hn,decide_eq_true hn];rfl
 ·rw [if_neg hn,decide_eq_false hn,cond_false]
  subst h4 h15 h23 h27 h32 h33
  simp only [Bool.not_or_self,Bool.or_not_self,Bool.and_self,ck_true,ck4,ck5,decide_eq_true hb1,decide_eq_true hb2,Bool.and_true]
  have u1:decide ((4294967296:UInt64)≤v.bits)=!decide (v.bits<4294967296):=by rw [Bool.eq_iff_iff];simp [UInt64.le_iff_toNat_le,UInt64.lt_iff_toNat_lt]
  have u2:decide ((1:UInt64)<v.bits)=!decide (v.bits<2):=by rw [Bool.eq_iff_iff];simp [UInt64.le_iff_toNat_le,UInt64.lt_iff_toNat_lt];omega
  have l1:decide ((0:Int)<v16)=!decide (v.bytes=[]):=by rw [h16,Bool.eq_iff_iff];simp [List.length_pos_iff]
  have l2:decide ((0:Int)<v20)=!decide (v.kids=[]):=by rw [h20,Bool.eq_iff_iff];simp [List.length_pos_iff]
  have l3:decide (v16=(12:Int))=decide (v.bytes.length=12):=by rw [h16,Bool.eq_iff_iff];simp;omega
  rw [u1] at h22
  rw [u2] at h24
  rw [l1] at h17
  rw [l2] at h21
  rw [l3] at h29
  have e1:Tree.fieldsOK v=!(cond (cond (cond v18 true v21) true v26) true v29):=by
   subst h1 h2 h3 h5 h6 h7 h8 h9 h10 h11 h12 h13 h14 h17 h18 h19 h21 h22 h24 h25 h26 h28 h29
   unfold Tree.fieldsOK
   have s1:decide (v.sub<0)=!decide (0≤v.sub):=by rw [Bool.eq_iff_iff];simp
   have s2:decide (255<v.sub)=!decide (v.sub≤255):=by rw [Bool.eq_iff_iff];simp
   rw [s1,s2]
   simp only [Bool.cond_true_left,Bool.cond_false_right,Bool.not_or,Bool.not_and,Bool.not_not,Bool.and_assoc]
  have e2:v36=decide (Tree.wholeT v.text (decide (v.kind=11))=false∨Tree.wholeT v.more (decide (v.kind=11))=false):=by
   subst h30 h31 h34 h35 h36
   unfold Tree.wholeT
   cases Utf.whole v.text <;> cases Utf.whole v.more <;> cases Utf.zero v.text <;> cases Utf.zero v.more <;> by_cases k:v.kind=11 <;> simp [k]
  rw [e1,e2]
  clear h1 h2 h3 h5 h6 h7 h8 h9 h10 h11 h12 h13 h14 h17 h18 h19 h21 h22 h24 h25 h26 h28 h29 h30 h31 h34 h35 h36 e1 e2
  by_cases c:Tree.wholeT v.text (decide (v.kind=11))=false∨Tree.wholeT v.more (decide (v.kind=11))=false
  ·rw [decide_eq_true c,if_pos c]
   cases v18 <;> cases v21 <;> cases v26 <;> cases v29 <;> rfl
  ·rw [decide_eq_false c,if_neg c]
   cases v18 <;> cases v21 <;> cases v26 <;> cases v29 <;> rfl
theorem TreeAx.lens (v:Val) (n:Str) (m:Nat) (h:Fld.bulk (Fld.of n v)≤m):v.text.length≤m∧v.more.length≤m∧n.length≤m∧v.bytes.length≤m∧Fld.bulks v.kids+1≤m:=by
 simp only [Fld.of,Fld.bulk] at h;omega
theorem Fld.bulk_pos (f:Fld):1≤f.bulk:=by cases f;simp only [Fld.bulk];omega
theorem Fld.bulks_get:∀(l:List Fld) (i:Nat) (d:Fld),i<l.length→(l.getD i d).bulk≤Fld.bulks l
 | f :: l,0,d,_=>by simp [Fld.bulks]
 | f :: l,i+1,d,h=>by
  have:=Fld.bulks_get l i d (by simpa using h)
  simp only [List.getD_cons_succ,Fld.bulks];omega
theorem Fld.bulks_len:∀(l:List Fld),l.length≤Fld.bulks l
 | []=>by simp
 | f :: l=>by have:=Fld.bulks_len l;have:=Fld.bulk_pos f;simp only [List.length_cons,Fld.bulks];omega
theorem Fld.of_eta (f:Fld):Fld.of f.name f.val=f:=by cases f;rfl
theorem Fld.bulk_val (f:Fld):Fld.bulk (Fld.of [] f.val)≤f.bulk:=by cases f;simp only [Fld.of,Fld.val,Fld.bulk,Fld.kind,Fld.bits,Fld.high,Fld.low,Fld.text,Fld.more,Fld.sub,Fld.bytes,Fld.kids];simp
theorem tree_own (v:Val) (n:Str):Tree.ownN v n=(if Tree.name v.kind=[] then 5 else if Tree.fieldsOK v=false then 1 else if Tree.wholeT v.text (decide (v.kind=11))=false∨Tree.wholeT v.more (decide (v.kind=11))=false∨Tree.wholeT n true=false then 4 else 0):=by
 unfold Tree.ownN Tree.own
 grind
theorem Tree.chkF_of (n:Str) (v:Val) (p:List Int):Tree.chkF (Fld.of n v) p=if Tree.ownN v n≠0 then (p,Tree.ownN v n) else Tree.chkL v.kids 0 p:=by
 cases v;simp only [Fld.of,Tree.chkF]
theorem tree_check.l1_ok (n:Nat) (ks:List Fld) (p:List Int) (hb:Fld.bulks ks+p.length<1099511627776) (hn:Fld.bulks ks<n):∀(m i:Nat),i+m=ks.length →
  tree_check.l1 n ks (ks.length:Int) i p=some [.sl .is (Tree.chkL (ks.drop i) i p).1,.i .i64 (Tree.chkL (ks.drop i) i p).2,.sl .is p]:=by
 have hlen:=Fld.bulks_len ks
 intro m
 induction m with
 | zero =>
  intro i hi
  refine tree_check.l1_in _ _ _ _ _ ?_
  intro v1 h1 v2 h2 v3 h3 v4 h4
  rw [decide_eq_false (by omega),cond_false,List.drop_of_length_le (by omega)];rfl
 | succ m ih =>
  intro i hi
  refine tree_check.l1_in _ _ _ _ _ ?_
  intro v1 h1 v2 h2 v3 h3 v4 h4
  rw [Int.toNat_natCast] at h1
  have hg:=Fld.bulks_get ks i (STy.dflt .fl) (by omega)
  rw [←h1] at hg
  rw [Fld.of_eta] at h2 h3 ⊢
  rw [decide_eq_true (by omega),cond_true,ck_of (idx_ok (by omega) (by omega)),ck_of (big_ap (by simp;omega) (by simp;omega)),decide_eq_true (by simp;omega),decide_eq_true (by omega),Bool.and_self,ck_true,drop_cons (l:=ks) (i:=i) (by omega) (STy.dflt .fl),←h1,Tree.chkL]
  by_cases h:v3=0
  ·rw [decide_eq_true h,if_neg (by rw [h3] at h;simpa using h)]
   simp only [Bool.not_true,cond_false]
   rw [show v4=((i+1:Nat):Int) by rw [h4,i64_in _ (by omega)];omega,ih _ (by omega)]
  ·rw [decide_eq_false h,if_pos (by rw [h3] at h;simpa using h)]
   simp only [Bool.not_false,cond_true]
   rw [h2,h3]
theorem tree_check.goal (n:Nat) (v:Val) (name:Str) (path:List Int) (hp:((decide (Fld.bulk (Fld.of name v)+path.length≤1099511627776))&&decide ((Fld.bulk (Fld.of name v))<n+1))=true) :
  tree_check.F n v name path=some [.sl .is (Tree.chkF (Fld.of name v) path).1,.i .i64 (Tree.chkF (Fld.of name v) path).2,.sl .is path]:=by
 simp only [Bool.and_eq_true,decide_eq_true_eq] at hp
 obtain ⟨hp,hn⟩:=hp
 obtain ⟨b1,b2,b3,_,_⟩:=TreeAx.lens v name 1099511627776 (by omega)
 have hks:Fld.bulks v.kids<Fld.bulk (Fld.of name v):=by simp only [Fld.of,Fld.bulk];omega
 refine tree_check.F_in n v name path ?_
 intro v1 h1 v2 h2 v3 h3 v4 h4
 rw [Tree.chkF_of,tree_own]
 simp only [Bool.not_or_self,Bool.or_not_self,Bool.and_self,ck_true,decide_eq_true b1,decide_eq_true b2,decide_eq_true b3,Bool.and_true]
 have hap:apOK path.length 8=true:=big_ap (by omega) (by omega)
 simp only [hap,ck_true]
 by_cases a:Tree.name v.kind=[]
 ·rw [decide_eq_true a];simp [a]
 ·rw [decide_eq_false a,cond_false]
  by_cases b:Tree.fieldsOK v=false
  ·rw [b];simp [a]
  ·have b':Tree.fieldsOK v=true:=by simpa using b
   rw [b']
   have e3:v3=decide (Tree.wholeT v.text (decide (v.kind=11))=false∨Tree.wholeT v.more (decide (v.kind=11))=false∨Tree.wholeT name true=false):=by
    subst h1 h2 h3
    cases Tree.wholeT v.text (decide (v.kind=11)) <;> cases Tree.wholeT v.more (decide (v.kind=11)) <;> cases Tree.wholeT name true <;> rfl
   rw [e3,h4]
   by_cases c:Tree.wholeT v.text (decide (v.kind=11))=false∨Tree.wholeT v.more (decide (v.kind=11))=false∨Tree.wholeT name true=false
   ·rw [decide_eq_true c];simp [a,c]
   ·rw [decide_eq_false c]
    simp only [Bool.not_true,cond_false,if_neg a,if_neg c]
    have:=tree_check.l1_ok n v.kids path (by omega) (by omega) v.kids.length 0 (by omega)
    rw [List.drop_zero] at this
    simpa using this
theorem tree_Check.goal (v:Val) (hp:decide (Fld.bulk (Fld.of [] v)≤1099511627776)=true):tree_Check.F v=some [.sl .is (Tree.chkF (Fld.of [] v) []).1,.i .i64 (Tree.chkF (Fld.of [] v) []).2]:=by
 refine tree_Check.F_in v ?_
 intro v1 h1 v2 h2
 rw [ck_of (by simpa using hp),h1,h2]
theorem ref17_check.l2_ok (n:Nat) (v:Val) (p:List Int) (hb:Fld.bulks v.kids+p.length<1099511627776) (hn:Fld.bulks v.kids<n):∀(m i:Nat),i+m=v.kids.length →
  ref17_check.l2 n p i v=some [.sl .is (Tree.chkL (v.kids.drop i) i p).1,.i .i64 (Tree.chkL (v.kids.drop i) i p).2]:=by
 have hlen:=Fld.bulks_len v.kids
 intro m
 induction m with
 | zero =>
  intro i hi
  refine ref17_check.l2_in _ _ _ _ ?_
  intro v1 h1 v2 h2 v3 h3 v4 h4 v5 h5
  rw [decide_eq_false (by omega),cond_false,List.drop_of_length_le (by omega)];rfl
 | succ m ih =>
  intro i hi
  refine ref17_check.l2_in _ _ _ _ ?_
  intro v1 h1 v2 h2 v3 h3 v4 h4 v5 h5
  rw [Int.toNat_natCast] at h2
  have hg:=Fld.bulks_get v.kids i (STy.dflt .fl) (by omega)
  rw [←h2] at hg
  rw [Fld.of_eta] at h3 h4 ⊢
  rw [decide_eq_true (by omega),cond_true,ck_of (idx_ok (by omega) (by omega)),ck_of (idx_ok (by omega) (by omega)),ck_of (decide_eq_true (by omega)),decide_eq_true (by simp;omega),decide_eq_true (by omega),Bool.and_self,ck_true,drop_cons (l:=v.kids) (i:=i) (by omega) (STy.dflt .fl),←h2,Tree.chkL]
  by_cases h:v4=0
  ·rw [decide_eq_true h,if_neg (by rw [h4] at h;simpa using h)]
   simp only [Bool.not_true,cond_false]
   rw [show v5=((i+1:Nat):Int) by rw [h5,i64_in _ (by omega)];omega,ih _ (by omega)]
  ·rw [decide_eq_false h,if_pos (by rw [h4] at h;simpa using h)]
   simp only [Bool.not_false,cond_true]
   rw [h3,h4]
theorem ref17_check.goal (n:Nat) (v:Val) (name:Str) (p:List Int) (hp:((decide (Fld.bulk (Fld.of name v)+p.length≤1099511627776))&&decide ((Fld.bulk (Fld.of name v))<n+1))=true) :
  ref17_check.F n v name p=some [.sl .is (Tree.chkF (Fld.of name v) p).1,.i .i64 (Tree.chkF (Fld.of name v) p).2]:=by
 simp only [Bool.and_eq_true,decide_eq_true_eq] at hp
 obtain ⟨hp,hn⟩:=hp
 obtain ⟨b1,b2,b3,_,_⟩:=TreeAx.lens v name 1099511627776 (by omega)
 have hks:Fld.bulks v.kids<Fld.bulk (Fld.of name v):=by simp only [Fld.of,Fld.bulk];omega
 have hbv:Fld.bulk (Fld.of [] v)≤Fld.bulk (Fld.of name v):=by simp only [Fld.of,Fld.bulk,List.length_nil];omega
 refine ref17_check.F_in n v name p ?_
 intro v1 h1
 rw [ck_of (decide_eq_true (by omega)),decide_eq_true b3]
 simp only [Bool.and_true,Bool.not_or_self,ck_true,ref17_check.j1_eq]
 rw [Tree.chkF_of]
 unfold Tree.ownN
 have key:=ref17_check.l2_ok n v p (by omega) (by omega) v.kids.length 0 (by omega)
 rw [List.drop_zero] at key
 have key:ref17_check.l2 n p 0 v=_:=key
 rw [key]
 by_cases a:Tree.own v=0
 ·rw [decide_eq_true a] at h1
  cases b:Tree.wholeT name true
  ·rw [b] at h1;rw [h1];simp [a]
  ·rw [b] at h1;rw [h1];simp [a]
 ·rw [decide_eq_false a] at h1
  rw [h1];simp [a]
theorem ref17_Check.goal (v:Val) (hp:decide (Fld.bulk (Fld.of [] v)≤1099511627776)=true):ref17_Check.F v=some [.sl .is (Tree.chkF (Fld.of [] v) []).1,.i .i64 (Tree.chkF (Fld.of [] v) []).2]:=by
 refine ref17_Check.F_in v ?_
 intro v1 h1 v2 h2
 rw [ck_of (by simpa using hp),h1,h2]
end Go.Eng
namespace Go.Eng
open Go.IntWalk
theorem Tree.depth_val (f:Fld):Tree.depth (Fld.of [] f.val)=Tree.depth f:=by cases f;rfl
theorem Tree.depth_of (n:Str) (v:Val):Tree.depth (Fld.of n v)=if v.kind=3∨v.kind=4∨v.kind=15 then Tree.depthL v.kids+1 else 0:=by cases v;rfl
theorem Tree.depthL_le:∀l:List Fld,Tree.depthL l≤Fld.bulks l∧∀f∈l,Tree.depth f≤Fld.bulk f
 | []=>by simp [Tree.depthL]
 | f :: l=>by
  obtain ⟨h1,h2⟩:=Tree.depthL_le l
  have hf:Tree.depth f≤Fld.bulk f:=by
   obtain ⟨n,k,b,h,lo,t,m,s,y,ks⟩:=f
   have:=(Tree.depthL_le ks).1
   unfold Tree.depth Fld.bulk
   split <;> omega
  refine ⟨by simp only [Tree.depthL,Fld.bulks];omega,fun g hg=>?_⟩
  rcases List.mem_cons.1 hg with rfl | hg
  ·exact hf
  ·exact h2 g hg
theorem Tree.depth_le (f:Fld):Tree.depth f≤Fld.bulk f:=(Tree.depthL_le [f]).2 f (List.mem_cons_self ..)
theorem tree_Depth.l1_ok (n:Nat) (ks:List Fld) (hb:Fld.bulks ks<1099511627776) (hn:Fld.bulks ks<n):∀(m i d:Nat),i+m=ks.length→d≤1099511627776 →
  tree_Depth.l1 n d ks (ks.length:Int) i=some [.i .i64 ((max d (Tree.depthL (ks.drop i))+1:Nat):Int)]:=by
 have hlen:=Fld.bulks_len ks
 intro m
 induction m with
 | zero =>
  intro i d hi hd
  refine tree_Depth.l1_in _ _ _ _ _ ?_
  intro v1 h1 v2 h2 v3 h3 v4 h4
  rw [decide_eq_false (by omega),cond_false,List.drop_of_length_le (by omega),h4,i64_in _ (by omega)]
  simp [Tree.depthL]
 | succ m ih =>
  intro i d hi hd
  refine tree_Depth.l1_in _ _ _ _ _ ?_
  intro v1 h1 v2 h2 v3 h3 v4 h4
  rw [Int.toNat_natCast] at h1
  have hg:=Fld.bulks_get ks i (STy.dflt .fl) (by omega)
  rw [←h1] at hg
  have hv:=Fld.bulk_val v1
  have hdv:=Tree.depth_le v1
  rw [decide_eq_true (by omega),cond_true,ck_of (idx_ok (by omega) (by omega)),decide_eq_true (show Fld.bulk (Fld.of [] v1.val)<n by omega),decide_eq_true (show Fld.bulk (Fld.of [] v1.val)≤1099511627776 by omega),Bool.and_self,ck_true,
   show v3=((i+1:Nat):Int) by rw [h3,i64_in _ (by omega)];omega,h2,Tree.depth_val,show maxI (d:Int) (Tree.depth v1:Int)=((max d (Tree.depth v1):Nat):Int) by unfold maxI;split <;> omega,ih _ _ (by omega) (by omega),drop_cons (l:=ks) (i:=i) (by omega) (STy.dflt .fl),←h1,Tree.depthL,Nat.max_assoc]
theorem tree_Depth.goal (n:Nat) (v:Val) (hp:((decide (Fld.bulk (Fld.of [] v)≤1099511627776))&&decide ((Fld.bulk (Fld.of [] v))<n+1))=true):tree_Depth.F n v=some [.i .i64 (Tree.depth (Fld.of [] v):Int)]:=by
 simp only [Bool.and_eq_true,decide_eq_true_eq] at hp
 obtain ⟨hbig,hn⟩:=hp
 have hks:Fld.bulks v.kids<Fld.bulk (Fld.of [] v):=by simp only [Fld.of,Fld.bulk];omega
 refine tree_Depth.F_in n v ?_
 intro v1 h1 v2 h2 v3 h3
 simp only [Bool.not_or_self,ck_true]
 have key:=tree_Depth.l1_ok n v.kids (by omega) (by omega) v.kids.length 0 0 (by omega) (by omega)
 rw [List.drop_zero] at key
 rw [Tree.depth_of]
 by_cases h:v.kind=3∨v.kind=4∨v.kind=15
 ·rw [if_pos h,show v2=false by subst h1 h2;rcases h with h | h | h <;> simp [h],cond_false,h3]
  rw [Nat.zero_max] at key
  exact key
 ·rw [if_neg h,show v2=true by subst h1 h2;simp only [not_or] at h;simp [h.1,h.2.1,h.2.2],cond_true];rfl
theorem ref1_SameInts.l1_ok (a b:List Int) (hl:a.length=b.length) (hb:a.length<9223372036854775807):∀(m i:Nat),i+m=a.length→ref1_SameInts.l1 a b i=some [.b (decide (a.drop i=b.drop i))]:=by
 intro m
 induction m with
 | zero =>
  intro i hi
  refine ref1_SameInts.l1_in _ _ _ ?_
  intro v1 h1 v2 h2 v3 h3
  rw [decide_eq_false (by omega),cond_false,List.drop_of_length_le (by omega),List.drop_of_length_le (by omega)];rfl
 | succ m ih =>
  intro i hi
  refine ref1_SameInts.l1_in _ _ _ ?_
  intro v1 h1 v2 h2 v3 h3
  rw [Int.toNat_natCast] at h1 h2
  rw [decide_eq_true (by omega),cond_true,ck_of (idx_ok (by omega) (by omega)),ck_of (idx_ok (by omega) (by omega)),drop_cons (l:=a) (i:=i) (by omega) 0,drop_cons (l:=b) (i:=i) (by omega) 0,←h1,←h2]
  by_cases h:v1=v2
  ·rw [decide_eq_true h]
   simp only [Bool.not_true,cond_false]
   rw [show v3=((i+1:Nat):Int) by rw [h3,i64_in _ (by omega)];omega,ih _ (by omega)]
   simp [h]
  ·rw [decide_eq_false h];simp [h]
theorem ref1_SameInts.goal (a b:List Int) (hp:decide (a.length≤1099511627776)=true):ref1_SameInts.F a b=some [.b (decide (a=b))]:=by
 have hp:=of_decide_eq_true hp
 rw [ref1_SameInts.F_eq]
 by_cases hl:a.length=b.length
 ·rw [decide_eq_true (by omega)]
  have:=ref1_SameInts.l1_ok a b hl (by omega) a.length 0 (by omega)
  simpa using this
 ·rw [decide_eq_false (by omega),decide_eq_false (fun e=>hl (by rw [e]))];rfl
end Go.Eng
namespace Go.Eng
open Go.IntWalk
theorem book_Room.l1_ok (sizes:List Int) (hl:sizes.length≤10) (hs:∀s∈sizes,0≤s):∀(m i:Nat) (left:Int),i+m=sizes.length→left≤1200→book_Room.l1 left sizes i=some [.i .i64 (Book.room left (sizes.drop i))]:=by
 intro m
 induction m with
 | zero =>
  intro i left hi hle
  refine book_Room.l1_in _ _ _ ?_
  intro v1 h1 v2 h2 v3 h3
  rw [decide_eq_false (by omega),cond_false,List.drop_of_length_le (by omega)];rfl
 | succ m ih =>
  intro i left hi hle
  refine book_Room.l1_in _ _ _ ?_
  intro v1 h1 v2 h2 v3 h3
  rw [Int.toNat_natCast] at h1
  have h0:0≤v1:=hs v1 (by rw [h1,List.getD_eq_getElem?_getD,List.getElem?_eq_getElem (show i<sizes.length by omega)];simp)
  rw [decide_eq_true (by omega),cond_true,show idxOK (i:Int) sizes.length=true from idx_ok (by omega) (by omega),drop_cons (l:=sizes) (i:=i) (by omega) 0,←h1,Book.room]
  simp only [Bool.and_self,Bool.and_true,Bool.not_or_self,Bool.or_not_self,ck_true]
  by_cases a:left<0∨left<v1
  ·rw [if_pos a,show v2=true by rw [h2];by_cases b:left<0 <;> simp [b];omega];rfl
  ·rw [if_neg a,show v2=false by rw [h2];by_cases b:left<0 <;> simp [b] <;> omega,cond_false,show v3=((i+1:Nat):Int) by rw [h3,i64_in _ (by omega)];omega,i64_in _ (by omega),ih _ _ (by omega) (by omega)]
theorem book_Room.goal (left:Int) (sizes:List Int) (hp:(decide (left≤1200∧sizes.length≤10)&&sizes.all (fun s=>decide (0≤s)))=true):book_Room.F left sizes=some [.i .i64 (Book.room left sizes)]:=by
 simp only [Bool.and_eq_true,decide_eq_true_eq,List.all_eq_true] at hp
 rw [book_Room.F_eq]
 exact book_Room.l1_ok sizes hp.1.2 hp.2 sizes.length 0 left (by omega) hp.1.1
theorem Book.room1 (left a:Int) (ha:0≤a) (hl:left≤1200):Book.room left [a]≤1200∧(Book.room left [a]=-1∨(Book.room left [a]=left - a∧0≤left - a)):=by
 simp only [Book.room];split <;> omega
theorem Book.room4 (left a b c d:Int) (ha:0≤a) (hb:0≤b) (hc:0≤c) (hd:0≤d) (hl:left≤1200) :
  Book.room left [a,b,c,d]≤1200∧(Book.room left [a,b,c,d]=-1∨(Book.room left [a,b,c,d]=left - a - b - c - d∧0≤left - a - b - c - d)):=by
 simp only [Book.room]
 split
 ·omega
 ·split
  ·omega
  ·split
   ·omega
   ·split <;> omega
mutual
theorem Book.value_le:∀(f:Fld) (left:Int),left≤1200→Book.value left f≤1200∧(0≤Book.value left f→(Fld.bulk f:Int) - f.name.length≤left - Book.value left f)
 | .mk n k b h l t m s y ks,left,hl=>by
  have h1:=Book.room4 left 2 t.length m.length y.length (by omega) (by omega) (by omega) (by omega) hl
  have h2:=Book.values_le ks (Book.room left [2,(t.length:Int),(m.length:Int),(y.length:Int)]) h1.1
  simp only [Book.value,Fld.bulk,Fld.name]
  refine ⟨h2.1,fun h0=>?_⟩
  rcases h1.2 with e | ⟨e,e0⟩
  ·have:=h2.2.2 (by omega);omega
  ·have:=h2.2.1 h0;omega
theorem Book.values_le:∀(ks:List Fld) (left:Int),left≤1200→Book.values left ks≤1200∧(0≤Book.values left ks→(Fld.bulks ks:Int)≤left - Book.values left ks)∧(left<0→Book.values left ks<0)
 | [],left,hl=>by simp only [Book.values,Fld.bulks];omega
 | f :: r,left,hl=>by
  simp only [Book.values,Fld.bulks]
  by_cases h:left<0
  ·rw [if_pos h];omega
  ·rw [if_neg h]
   have h1:=Book.room1 left f.name.length (by omega) hl
   have h2:=Book.value_le f (Book.room left [(f.name.length:Int)]) h1.1
   have h3:=Book.values_le r (Book.value (Book.room left [(f.name.length:Int)]) f) h2.1
   refine ⟨h3.1,fun h0=>?_,fun h0=>by omega⟩
   have h4:=h3.2.1 h0
   have h5:0≤Book.value (Book.room left [(f.name.length:Int)]) f:=by
    by_cases h6:Book.value (Book.room left [(f.name.length:Int)]) f<0
    ·have:=h3.2.2 h6;omega
    ·omega
   have h7:=h2.2 h5
   have hb:(f.name.length:Int)≤Fld.bulk f:=by cases f;simp only [Fld.name,Fld.bulk];omega
   rcases h1.2 with e | ⟨e,e0⟩
   ·omega
   ·omega
end
theorem Book.small_bulk (v:Val) (h:0≤Book.value 1200 (Fld.of [] v)):Fld.bulk (Fld.of [] v)≤1200:=by
 have:=(Book.value_le (Fld.of [] v) 1200 (by omega)).2 h
 have hn:(Fld.of [] v).name=[]:=rfl
 rw [hn] at this
 simp at this;omega
theorem Book.value_val (left:Int) (f:Fld):Book.value left (Fld.of [] f.val)=Book.value left f:=by cases f;rfl
theorem Book.value_lt (f:Fld) (left:Int) (hl:left≤1200) (h0:0≤Book.value left f):Book.value left f+1≤left:=by
 have:=(Book.value_le f left hl).2 h0
 have hb:(f.name.length:Int)+1≤Fld.bulk f:=by cases f;simp only [Fld.name,Fld.bulk];omega
 omega
theorem book_Value.l1_ok (n:Nat) (v:Val) (hn:Fld.bulks v.kids<n):∀(m i:Nat) (left:Int),i+m=v.kids.length→(i:Int)+left≤1200 →
  book_Value.l1 n left i v=some [.i .i64 (Book.values left (v.kids.drop i))]:=by
 intro m
 induction m with
 | zero =>
  intro i left hi hle
  refine book_Value.l1_in _ _ _ _ ?_
  intro v1 h1 v2 h2 v3 h3 v4 h4 v5 h5 v6 h6 v7 h7
  simp only [Bool.not_or_self,ck_true]
  rw [show v2=false by rw [h2,decide_eq_false (by omega)];rfl,cond_false,List.drop_of_length_le (by omega)];rfl
 | succ m ih =>
  intro i left hi hle
  refine book_Value.l1_in _ _ _ _ ?_
  intro v1 h1 v2 h2 v3 h3 v4 h4 v5 h5 v6 h6 v7 h7
  rw [Int.toNat_natCast] at h3
  have hg:=Fld.bulks_get v.kids i (STy.dflt .fl) (by omega)
  rw [←h3] at hg
  have hv:=Fld.bulk_val v3
  have r1:=Book.room1 left v4 (by omega) (by omega)
  rw [←h5] at r1
  have r2:=Book.value_lt v3 v5 r1.1
  rw [Book.value_val] at h6
  simp only [Bool.not_or_self,ck_true]
  rw [drop_cons (l:=v.kids) (i:=i) (by omega) (STy.dflt .fl),←h3,Book.values]
  by_cases h:left<0
  ·rw [if_pos h,show v2=false by rw [h2,decide_eq_false (show ¬0≤left by omega)];simp];rfl
  ·have r3:(i:Int)+1+v6≤1200:=by
    rw [h6]
    by_cases hx:0≤Book.value v5 v3
    ·have:=r2 hx;omega
    ·omega
   rw [if_neg h,show v2=true by rw [h2,decide_eq_true (by omega),decide_eq_true (by omega)];rfl,cond_true,ck_of (idx_ok (by omega) (by omega)),ck_of (by simp;omega),ck_of (idx_ok (by omega) (by omega)),decide_eq_true r1.1,decide_eq_true (by omega),Bool.and_self,ck_true,
    show v7=((i+1:Nat):Int) by rw [h7,i64_in _ (by omega)];omega,ih _ _ (by omega) (by omega),h6,h5,h4]
theorem book_Value.goal (n:Nat) (left:Int) (v:Val) (hp:((decide (left≤1200))&&decide ((Fld.bulk (Fld.of [] v))<n+1))=true):book_Value.F n left v=some [.i .i64 (Book.value left (Fld.of [] v))]:=by
 simp only [Bool.and_eq_true,decide_eq_true_eq] at hp
 obtain ⟨hl,hn⟩:=hp
 have hks:Fld.bulks v.kids<Fld.bulk (Fld.of [] v):=by simp only [Fld.of,Fld.bulk];omega
 refine book_Value.F_in n left v ?_
 intro v1 h1 v2 h2 v3 h3 v4 h4
 have r:=Book.room4 left 2 v1 v2 v3 (by omega) (by omega) (by omega) (by omega) hl
 rw [←h4] at r
 rw [ck_of (by rw [h4];simp;omega)]
 have key:=book_Value.l1_ok n v (by omega) v.kids.length 0 (Book.room left v4) (by omega) (by omega)
 rw [List.drop_zero] at key
 refine key.trans ?_
 rw [h4,h1,h2,h3]
 rfl
theorem book_Small.goal (v:Val):book_Small.F v=some [.b (decide (0≤Book.value 1200 (Fld.of [] v)))]:=by
 refine book_Small.F_in v ?_
 intro v1 h1
 rw [ck_of (by decide),h1]
end Go.Eng
namespace Go.Eng
open Go.IntWalk
theorem law17_awake.goal:law17_awake.F=some [.b true]:=by
 refine law17_awake.F_in ?_
 intro v1 h1 v2 h2 v3 h3 v4 h4 v5 h5 v6 h6 v7 h7
 subst h1 h4
 have e2:v2=[0]:=h2.trans (by decide +kernel)
 have e3:v3=5:=h3.trans (by decide +kernel)
 have e5:v5=2:=h5.trans (by decide +kernel)
 rw [e5,e3] at h6
 rw [e2,h6] at h7
 rw [h7,h6,e5,e2,ck_of (by decide +kernel),ck_of (by decide +kernel)]
 rfl
end Go.Eng
namespace Go.Eng
open Go.IntWalk
theorem ap_ok {n:Nat} {b:Nat} (h:n≤500000000) (hb:b≤200):apOK n b=true:=big_ap (Nat.le_trans (Nat.mul_le_mul h hb) (by omega)) (by omega)
theorem book_Place.goal (k n:Int) (hp:decide (1≤n∧n≤1099511627776)=true):book_Place.F k n=some [.i .i64 (k % n)]:=by
 have h:=of_decide_eq_true hp
 refine book_Place.F_in _ _ ?_
 intro v1 e1
 have h1:=Int.tmod_lt_of_pos k (show 0<n by omega)
 have h2 : -n<Int.tmod k n:=by
  have:=Int.tmod_lt_of_pos (-k) (show 0<n by omega)
  rw [Int.neg_tmod] at this;omega
 have hv:v1=Int.tmod k n+n:=by rw [e1,i64_in _ (by omega)]
 rw [show (!decide (n=0))=true by simp;omega,ck_true,ck_true,hv]
 congr 3
 rw [Int.tmod_eq_emod_of_nonneg (by omega),Int.add_emod_right]
 have:=Int.emod_emod_of_dvd k (Int.dvd_refl n)
 rw [Int.tmod_eq_emod]
 split
 ·rw [show (((0:Nat):Int))=0 from rfl,Int.sub_zero];exact Int.emod_emod_of_dvd _ (Int.dvd_refl _)
 ·rw [show (n.natAbs:Int)=n by omega,Int.sub_emod,Int.emod_self,Int.sub_zero,Int.emod_emod_of_dvd _ (Int.dvd_refl _),Int.emod_emod_of_dvd _ (Int.dvd_refl _)]
theorem kids_bulk (v:Val):Fld.bulks v.kids<Fld.bulk (Fld.of [] v):=by cases v;simp only [Fld.of,Fld.bulk];omega
theorem kids_len:∀l:List Fld,l.length≤Fld.bulks l
 | []=>Nat.zero_le _
 | f :: r=>by
  have:=kids_len r
  cases f
  simp only [List.length_cons,Fld.bulks,Fld.bulk];omega
theorem book_With.goal (n:Nat) (v:Val) (p:List Int) (x:Val) (hp:((decide (Fld.bulk (Fld.of [] v)≤1048576)&&Tree.within p v)&&decide (((p).length)<n+1))=true):book_With.F n v p x=some [.ag (Val.cells (Tree.put p v x))]:=by
 rw [Bool.and_eq_true,Bool.and_eq_true,decide_eq_true_eq,decide_eq_true_eq] at hp
 obtain ⟨⟨hb,hw⟩,hn⟩:=hp
 refine book_With.F_in n v p x ?_
 intro v1 h1 v2 h2 v3 h3 v4 h4
 cases p with
 | nil=>rfl
 | cons i r =>
  rw [Tree.within,Bool.and_eq_true,decide_eq_true_eq] at hw
  have h1:v1=i:=h1
  have h2:v2=r:=h2
  subst h1 h2
  have hk:=kids_bulk v
  have hl:=kids_len v.kids
  have hg:=Fld.bulks_get v.kids v1.toNat (STy.dflt .fl) hw.1.2
  have hv:=Fld.bulk_val (v.kids.getD v1.toNat (STy.dflt .fl))
  have hn:v2.length<n:=by simpa using hn
  rw [decide_eq_false (show ¬((v1 :: v2).length:Int)=0 by simp only [List.length_cons];omega),cond_false,ck_of (ap_ok (by omega) (by decide)),ck_of (idx_ok (by omega) (by simp only [List.length_cons];omega)),ck_of (idx_ok (by omega) (by simp only [List.length_cons];omega)),ck_of (idx_ok (by omega) (by omega)),ck_of (decide_eq_true hw.1.2),
   ck_of (cut_ok (by omega) (by simp only [List.length_cons];omega) (by omega)),ck_of (by rw [decide_eq_true (show _≤1048576 by omega),hw.2,decide_eq_true hn];rfl),ck_of (idx_ok (by omega) (by omega)),ck_of (decide_eq_true hw.1.2),h4,h3]
  rfl
namespace Tree
mutual
theorem paths_len:∀(f:Fld) (p:List Int),(paths f p).length≤Fld.bulk f
 | .mk n k b h l t m s y ks,p=>by
  have:=pathsL_len ks 0 p
  simp only [paths,Fld.bulk,List.length_cons];omega
theorem pathsL_len:∀(l:List Fld) (i:Nat) (p:List Int),(pathsL l i p).length≤Fld.bulks l
 | [],i,p=>Nat.zero_le _
 | f :: r,i,p=>by
  have h1:=paths_len f (p++[(i:Int)])
  have h2:=pathsL_len r (i+1) p
  simp only [pathsL,Fld.bulks,List.length_append];omega
end
theorem paths_val (f:Fld) (p:List Int):paths (Fld.of [] f.val) p=paths f p:=by cases f;rfl
end Tree
theorem ref17_all.l1_ok (n:Nat) (v:Val) (p:List Int) (hb:Fld.bulk (Fld.of [] v)+p.length≤1048576) (hn:Fld.bulk (Fld.of [] v)<n+1):∀(m i:Nat) (acc:List (List Int)),i+m=v.kids.length→acc.length+Fld.bulks (v.kids.drop i)≤2000000 →
  ref17_all.l1 n p acc i v=some [.sl .iss (acc++Tree.pathsL (v.kids.drop i) i p)]:=by
 intro m
 induction m with
 | zero =>
  intro i acc hi _
  refine ref17_all.l1_in _ _ _ _ _ ?_
  intro v1 h1 v2 h2 v3 h3 v4 h4
  rw [decide_eq_false (by omega),cond_false,List.drop_of_length_le (by omega),Tree.pathsL,List.append_nil]
 | succ m ih =>
  intro i acc hi ha
  refine ref17_all.l1_in _ _ _ _ _ ?_
  intro v1 h1 v2 h2 v3 h3 v4 h4
  rw [Int.toNat_natCast] at h2
  have hk:=kids_bulk v
  have hl:=kids_len v.kids
  have hg:=Fld.bulks_get v.kids i (STy.dflt .fl) (by omega)
  have hd:=drop_cons (l:=v.kids) (i:=i) (by omega) (STy.dflt .fl)
  rw [←h2] at hg hd
  have hv:=Fld.bulk_val v2
  rw [Tree.paths_val] at h3
  have hp:=Tree.paths_len v2 (p++[(i:Int)])
  rw [←h3] at hp
  rw [hd] at ha
  simp only [Fld.bulks] at ha
  rw [decide_eq_true (show (i:Int)<v1 by omega),cond_true,ck_of (idx_ok (by omega) (by omega)),ck_of (decide_eq_true (by omega)),
   ck_of (by rw [decide_eq_true (show Fld.bulk (Fld.of [] v2.val)+(p++[(i:Int)]).length≤1048576 by simp only [List.length_append,List.length_singleton];omega),decide_eq_true (show Fld.bulk (Fld.of [] v2.val)<n by omega)];rfl),
   ck_of (ap_ok (by omega) (by decide)),show v4=((i+1:Nat):Int) by rw [h4,i64_in _ (by omega)];omega,ih (i+1) (acc++v3) (by omega) (by simp only [List.length_append];omega),hd,Tree.pathsL,←h3,List.append_assoc]
theorem ref17_all.goal (n:Nat) (v:Val) (p:List Int) (hp:((decide (Fld.bulk (Fld.of [] v)+(p).length≤1048576))&&decide ((Fld.bulk (Fld.of [] v))<n+1))=true):ref17_all.F n v p=some [.sl .iss (Tree.paths (Fld.of [] v) p)]:=by
 rw [Bool.and_eq_true,decide_eq_true_eq,decide_eq_true_eq] at hp
 have hk:=kids_bulk v
 rw [ref17_all.F_eq]
 refine Eq.trans (ref17_all.l1_ok n v p hp.1 hp.2 v.kids.length 0 [p] (by omega) (by rw [List.drop_zero];simp only [List.length_singleton];omega)) ?_
 rw [List.drop_zero]
 cases v;rfl
theorem ref17_All.goal (v:Val) (hp:(decide (Fld.bulk (Fld.of [] v)≤1000000))=true):ref17_All.F v=some [.sl .iss (Tree.paths (Fld.of [] v) [])]:=by
 have h:=of_decide_eq_true hp
 refine ref17_All.F_in v ?_
 intro v1 h1
 rw [ck_of (decide_eq_true (by simp only [List.length_nil];omega)),h1]
end Go.Eng
namespace Go.Eng
open Go.IntWalk
namespace Tree
mutual
def fine:Fld→Bool
 | .mk n k b h l t m s y ks=>decide (ownN ⟨k,b,h,l,t,m,s,y,ks⟩ n=0)&&fines ks
def fines:List Fld→Bool
 | []=>true
 | f :: r=>fine f&&fines r
end
theorem fine_cons {f:Fld} {r:List Fld}:fines (f :: r)=true ↔ fine f=true∧fines r=true:=by rw [fines,Bool.and_eq_true]
mutual
theorem fine_chk:∀(f:Fld) (p:List Int),(chkF f p).2=0 ↔ fine f=true
 | .mk n k b h l t m s y ks,p=>by
  rw [chkF,fine,Bool.and_eq_true,decide_eq_true_eq]
  by_cases a:ownN ⟨k,b,h,l,t,m,s,y,ks⟩ n=0
  ·rw [if_neg (by simpa using a),fines_chk ks 0 p]
   exact ⟨fun h=>⟨a,h⟩,fun h=>h.2⟩
  ·rw [if_pos a]
   exact ⟨fun h=>absurd h a,fun h=>absurd h.1 a⟩
theorem fines_chk:∀(l:List Fld) (i:Nat) (p:List Int),(chkL l i p).2=0 ↔ fines l=true
 | [],i,p=>by rw [chkL,fines];exact ⟨fun _=>rfl,fun _=>rfl⟩
 | f :: r,i,p=>by
  rw [chkL,fine_cons]
  by_cases a:(chkF f (p++[(i:Int)])).2=0
  ·rw [if_neg (by simpa using a),fines_chk r (i+1) p]
   exact ⟨fun h=>⟨(fine_chk f _).1 a,h⟩,fun h=>h.2⟩
  ·rw [if_pos a]
   exact ⟨fun h=>absurd h a,fun h=>absurd ((fine_chk f _).2 h.1) a⟩
end
def nameOK (n:Str):Prop:=¬wholeT n true=false
theorem ownN_iff {v:Val} {n:Str}:ownN v n=0 ↔ own v=0∧nameOK n:=by
 unfold ownN nameOK
 by_cases a:own v=0
 ·rw [if_neg (by simpa using a)]
  by_cases b:wholeT n true=false
  ·rw [if_pos b];exact ⟨fun h=>absurd h (by decide),fun h=>absurd b h.2⟩
  ·rw [if_neg b];exact ⟨fun _=>⟨a,b⟩,fun _=>rfl⟩
 ·rw [if_pos a];exact ⟨fun h=>absurd h a,fun h=>absurd h.1 a⟩
theorem fine_of (n:Str) (v:Val):fine (Fld.of n v)=true ↔ own v=0∧nameOK n∧fines v.kids=true:=by
 obtain ⟨k,b,h,l,t,m,s,y,ks⟩:=v
 rw [Fld.of,fine,Bool.and_eq_true,decide_eq_true_eq,ownN_iff,and_assoc]
theorem fine_get:∀(l:List Fld) (i:Nat) (d:Fld),i<l.length→fines l=true→fine (l.getD i d)=true
 | [],i,d,h,_=>absurd h (Nat.not_lt_zero _)
 | f :: r,0,d,_,hf=>(fine_cons.1 hf).1
 | f :: r,i+1,d,h,hf=>fine_get r i d (by simpa using h) (fine_cons.1 hf).2
theorem fines_set:∀(l:List Fld) (i:Nat) (g:Fld),fines l=true→fine g=true→fines (l.set i g)=true
 | [],i,g,_,_=>rfl
 | f :: r,0,g,hf,hg=>fine_cons.2 ⟨hg,(fine_cons.1 hf).2⟩
 | f :: r,i+1,g,hf,hg=>fine_cons.2 ⟨(fine_cons.1 hf).1,fines_set r i g (fine_cons.1 hf).2 hg⟩
theorem chkL_set:∀(l:List Fld) (j i:Nat) (q:List Int) (g:Fld),fines l=true→i<l.length→(chkF g (q++[((j+i:Nat):Int)])).2≠0→chkL (l.set i g) j q=chkF g (q++[((j+i:Nat):Int)])
 | [],j,i,q,g,_,h,_=>absurd h (Nat.not_lt_zero _)
 | f :: r,j,0,q,g,_,_,hg=>by
  rw [List.set_cons_zero,chkL,if_pos (by simpa using hg)];rfl
 | f :: r,j,i+1,q,g,hf,h,hg=>by
  have e:((j+(i+1):Nat):Int)=((j+1+i:Nat):Int):=by omega
  rw [e] at hg ⊢
  rw [List.set_cons_succ,chkL,if_neg (by rw [(fine_chk f _).2 (fine_cons.1 hf).1];decide),chkL_set r (j+1) i q g (fine_cons.1 hf).2 (by simpa using h) hg]
theorem own_kids (v:Val) (l:List Fld) (h:l=[] ↔ v.kids=[]):own ⟨v.kind,v.bits,v.high,v.low,v.text,v.more,v.sub,v.bytes,l⟩=own v:=by
 have e:decide (l=[])=decide (v.kids=[]):=decide_eq_decide.2 h
 unfold own fieldsOK
 simp only [e]
theorem of_val (f:Fld):Fld.of f.name f.val=f:=by cases f;rfl
theorem put_bad:∀(p:List Int) (v x:Val) (n:Str) (q:List Int),fine (Fld.of n v)=true→within p v=true→own x≠0→chkF (Fld.of n (put p v x)) q=(q++p,own x)
 | [],v,x,n,q,hf,hw,hx=>by
  have e:ownN x n=own x:=by unfold ownN;rw [if_pos hx]
  rw [put,List.append_nil]
  obtain ⟨k,b,h,l,t,m,s,y,ks⟩:=x
  rw [Fld.of,chkF,if_pos (by rw [e];exact hx),e]
 | i :: r,v,x,n,q,hf,hw,hx=>by
  rw [within,Bool.and_eq_true,decide_eq_true_eq] at hw
  obtain ⟨⟨h0,h1⟩,hw⟩:=hw
  have hv:=(fine_of n v).1 hf
  have hg:=fine_get v.kids i.toNat (STy.dflt .fl) h1 hv.2.2
  have ih:=put_bad r (v.kids.getD i.toNat (STy.dflt .fl)).val x (v.kids.getD i.toNat (STy.dflt .fl)).name (q++[((0+i.toNat:Nat):Int)]) (by rw [of_val];exact hg) hw hx
  have hne:∀g,v.kids.set i.toNat g=[] ↔ v.kids=[]:=fun g=>by
   constructor
   ·intro e
    have:=congrArg List.length e
    rw [List.length_set,List.length_nil] at this
    exact List.eq_nil_of_length_eq_zero this
   ·intro e;rw [e];rfl
  have ho:=own_kids v _ (hne (Fld.of (v.kids.getD i.toNat (STy.dflt .fl)).name (put r (v.kids.getD i.toNat (STy.dflt .fl)).val x)))
  rw [put,Fld.of,chkF,if_neg (by rw [ownN_iff.2 ⟨ho.trans hv.1,hv.2.1⟩];decide),chkL_set v.kids 0 i.toNat q _ hv.2.2 h1 (by rw [ih];exact hx),ih]
  have e:((0+i.toNat:Nat):Int)=i:=by omega
  rw [e,List.append_assoc];rfl
theorem put_fine:∀(p:List Int) (v x:Val) (n:Str),fine (Fld.of n v)=true→within p v=true→own x=0→fines x.kids=true→fine (Fld.of n (put p v x))=true
 | [],v,x,n,hf,hw,hx,hk=>(fine_of n x).2 ⟨hx,((fine_of n v).1 hf).2.1,hk⟩
 | i :: r,v,x,n,hf,hw,hx,hk=>by
  rw [within,Bool.and_eq_true,decide_eq_true_eq] at hw
  obtain ⟨⟨h0,h1⟩,hw⟩:=hw
  have hv:=(fine_of n v).1 hf
  have hg:=fine_get v.kids i.toNat (STy.dflt .fl) h1 hv.2.2
  have ih:=put_fine r (v.kids.getD i.toNat (STy.dflt .fl)).val x (v.kids.getD i.toNat (STy.dflt .fl)).name (by rw [of_val];exact hg) hw hx hk
  rw [put]
  refine (fine_of n _).2 ⟨(own_kids v _ ?_).trans hv.1,hv.2.1,fines_set _ _ _ hv.2.2 ih⟩
  constructor
  ·intro e
   have:=congrArg List.length e
   rw [List.length_set,List.length_nil] at this
   exact List.eq_nil_of_length_eq_zero this
  ·intro e;rw [e];rfl
theorem bulks_set:∀(l:List Fld) (i:Nat) (g d:Fld),i<l.length→Fld.bulks (l.set i g)+Fld.bulk (l.getD i d)=Fld.bulks l+Fld.bulk g
 | [],i,g,d,h=>absurd h (Nat.not_lt_zero _)
 | f :: r,0,g,d,_=>by
  simp only [List.set_cons_zero,Fld.bulks,List.getD_cons_zero];omega
 | f :: r,i+1,g,d,h=>by
  have:=bulks_set r i g d (by simpa using h)
  simp only [List.set_cons_succ,Fld.bulks,List.getD_cons_succ];omega
theorem bulk_of (n:Str) (v:Val):Fld.bulk (Fld.of n v)=n.length+Fld.bulk (Fld.of [] v):=by
 cases v;simp only [Fld.of,Fld.bulk,List.length_nil];omega
theorem put_bulk:∀(p:List Int) (v x:Val),within p v=true→Fld.bulk (Fld.of [] (put p v x))≤Fld.bulk (Fld.of [] v)+Fld.bulk (Fld.of [] x)
 | [],v,x,_=>Nat.le_add_left _ _
 | i :: r,v,x,hw=>by
  rw [within,Bool.and_eq_true,decide_eq_true_eq] at hw
  obtain ⟨⟨h0,h1⟩,hw⟩:=hw
  have ih:=put_bulk r (v.kids.getD i.toNat (STy.dflt .fl)).val x hw
  have hs:=bulks_set v.kids i.toNat (Fld.of (v.kids.getD i.toNat (STy.dflt .fl)).name (put r (v.kids.getD i.toNat (STy.dflt .fl)).val x)) (STy.dflt .fl) h1
  have e1:=bulk_of (v.kids.getD i.toNat (STy.dflt .fl)).name (put r (v.kids.getD i.toNat (STy.dflt .fl)).val x)
  have e2:=bulk_of (v.kids.getD i.toNat (STy.dflt .fl)).name (v.kids.getD i.toNat (STy.dflt .fl)).val
  rw [of_val] at e2
  rw [put]
  obtain ⟨k,b,h,l,t,m,s,y,ks⟩:=v
  simp only [Fld.of,Fld.bulk,List.length_nil] at hs ih e1 e2 ⊢
  omega
mutual
theorem paths_mem:∀(f:Fld) (q p:List Int),p∈paths f q→∃r,p=q++r∧within r f.val=true∧r.length≤Fld.bulk f
 | .mk n k b h l t m s y ks,q,p,hp=>by
  rw [paths,List.mem_cons] at hp
  rcases hp with rfl | hp
  ·exact ⟨[],(List.append_nil _).symm,rfl,Nat.zero_le _⟩
  ·obtain ⟨j,r,hj,e,hw,hl⟩:=pathsL_mem ks 0 q p hp
   refine ⟨((0+j:Nat):Int) :: r,e,?_,by simp only [Fld.bulk,List.length_cons];omega⟩
   rw [within,Bool.and_eq_true,decide_eq_true_eq,Nat.zero_add,Int.toNat_natCast]
   exact ⟨⟨by omega,hj⟩,hw⟩
theorem pathsL_mem:∀(l:List Fld) (i:Nat) (q p:List Int),p∈pathsL l i q→∃(j:Nat) (r:List Int),j<l.length∧p=q++((i+j:Nat):Int) :: r∧within r (l.getD j (STy.dflt .fl)).val=true∧r.length≤Fld.bulks l
 | [],i,q,p,hp=>by rw [pathsL] at hp;cases hp
 | f :: r,i,q,p,hp=>by
  rw [pathsL,List.mem_append] at hp
  rcases hp with hp | hp
  ·obtain ⟨s,e,hw,hl⟩:=paths_mem f _ p hp
   exact ⟨0,s,by simp,by rw [e,List.append_assoc];rfl,hw,by simp only [Fld.bulks];omega⟩
  ·obtain ⟨j,s,hj,e,hw,hl⟩:=pathsL_mem r (i+1) q p hp
   exact ⟨j+1,s,by simpa using hj,by rw [e,show i+1+j=i+(j+1) by omega],hw,by simp only [Fld.bulks];omega⟩
end
end Tree
theorem TreeSpoilt.goal (v:Val) (k:Int):TreeSpoilt.F v k=some [.b true]:=by
 refine TreeSpoilt.F_in v k ?_
 intro v1 h1 v2 h2 v3 h3 v4 h4 v5 h5 v6 h6 v7 h7 v8 h8 v9 h9 v10 h10 v11 h11 v12 h12 v13 h13 v14 h14 v15 h15 v16 h16 v17 h17
 rw [Bool.not_true,cond_false]
 by_cases a:0≤Book.value 1200 (Fld.of [] v)
 ·have hb:=Book.small_bulk v a
  rw [decide_eq_true a,Bool.not_true,cond_false,ck_of (decide_eq_true (by omega)),ck_of (decide_eq_true (by omega))]
  by_cases e:v2=0
  ·have hf:Tree.fine (Fld.of [] v)=true:=(Tree.fine_chk _ []).1 (by rw [←h2];exact e)
   have hl:=Tree.paths_len (Fld.of [] v) []
   have hl1:1≤v3.length:=by rw [h3];cases v;simp [Fld.of,Tree.paths]
   rw [←h3] at hl
   have j0:=Int.emod_nonneg k (show (v3.length:Int)≠0 by omega)
   have j1:=Int.emod_lt_of_pos k (show 0<(v3.length:Int) by omega)
   have hm:v4∈v3:=by
    have hlt:(k % (v3.length:Int)).toNat<v3.length:=by omega
    rw [h4,List.getD_eq_getElem?_getD,List.getElem?_eq_getElem hlt]
    exact List.getElem_mem hlt
   rw [h3] at hm
   obtain ⟨r,hr,hw,hlen⟩:=Tree.paths_mem _ _ _ hm
   have hr:v4=r:=hr
   subst hr
   have hw:Tree.within v4 v=true:=by cases v;exact hw
   have c5:=Tree.put_bad v4 v ⟨300,0,0,0,[],[],0,[],[]⟩ [] [] hf hw (by decide)
   have c8:=Tree.put_bad v4 v ⟨8,2,0,0,[],[],0,[],[]⟩ [] [] hf hw (by decide)
   have c11:=(Tree.fine_chk _ []).2 (Tree.put_fine v4 v ⟨8,1,0,0,[],[],0,[],[]⟩ [] hf hw (by decide) rfl)
   have b5:=Tree.put_bulk v4 v ⟨300,0,0,0,[],[],0,[],[]⟩ hw
   have b8:=Tree.put_bulk v4 v ⟨8,2,0,0,[],[],0,[],[]⟩ hw
   have b11:=Tree.put_bulk v4 v ⟨8,1,0,0,[],[],0,[],[]⟩ hw
   have z1:Fld.bulk (Fld.of [] ⟨300,0,0,0,[],[],0,[],[]⟩)=1:=rfl
   have z2:Fld.bulk (Fld.of [] ⟨8,2,0,0,[],[],0,[],[]⟩)=1:=rfl
   have z3:Fld.bulk (Fld.of [] ⟨8,1,0,0,[],[],0,[],[]⟩)=1:=rfl
   rw [←h5] at c5 b5
   rw [←h8] at c8 b8
   rw [←h11] at c11 b11
   rw [c5] at h6 h7
   rw [c8] at h9 h10
   rw [c11] at h13
   have h6:v6=v4:=h6
   have h9:v9=v4:=h9
   have h7:v7=5:=h7.trans (show Tree.own ⟨300,0,0,0,[],[],0,[],[]⟩=5 by decide)
   have h10:v10=1:=h10.trans (show Tree.own ⟨8,2,0,0,[],[],0,[],[]⟩=1 by decide)
   have h14:v14=true:=by rw [h14,h7,h6,decide_eq_true (show v4=v4 from rfl)];rfl
   have h15:v15=true:=by rw [h15,h14,h10];rfl
   have h16:v16=true:=by rw [h16,h15,h9,decide_eq_true (show v4=v4 from rfl)];rfl
   have h17:v17=true:=by rw [h17,h16,h13];rfl
   rw [decide_eq_true e,Bool.not_true,cond_false,ck_of (decide_eq_true (by omega)),ck_of (idx_ok (by omega) (by omega)),decide_eq_true (show Fld.bulk (Fld.of [] v)≤1048576 by omega),hw,decide_eq_true (show Fld.bulk (Fld.of [] v5)≤1099511627776 by omega),decide_eq_true (show Fld.bulk (Fld.of [] v8)≤1099511627776 by omega),decide_eq_true (show Fld.bulk (Fld.of [] v11)≤1099511627776 by omega),
    h7,h6,h9,h14,h15,h16,h17,decide_eq_true (show v4.length≤1099511627776 by omega)]
   rfl
  ·rw [decide_eq_false e];rfl
 ·rw [decide_eq_false a];rfl
end Go.Eng
namespace Go.Eng
theorem utf_is.fit (r:Int):([.i .i64 r]:List TV).length=utf_is.d.np∧utf_is.d.run (envL noGl utf_is.env) [.i .i64 r]=some (([(.b (Utf.isRune r))]:List TV)++utf_is.d.ps.toList.map fun q=>([.i .i64 r]:List TV).getD q.1 .dead) :=
 ⟨by kernel_rfl,Eq.trans (b:=utf_is.F r) (by kernel_rfl) (Eq.trans (utf_is.goal r) (by kernel_rfl))⟩
theorem utf_is.ok:SpecOK Go.Proofs.Try.prog (fun n=>(noGl n).av) 47 (Ctr.fs (utf_is.c,utf_is.sg)) :=
 meets (l:=utf_is.env) all_nil utf_is.chk (by
   intro ins outs h
   unfold utf_is.c at h
   split at h
   ·cases h;exact utf_is.fit _
   ·exact h.elim)
theorem utf_Rune.fit (b:List UInt8) (at_:Int) (hp:(decide (b.length≤1099511627776))=true):([.sl .bs b,.i .i64 at_]:List TV).length=utf_Rune.d.np∧utf_Rune.d.run (envL noGl utf_Rune.env) [.sl .bs b,.i .i64 at_]=some (([(.i .i64 ((Utf.runeAt b at_).1)),(.i .i64 ((Utf.runeAt b at_).2))]:List TV)++utf_Rune.d.ps.toList.map fun q=>([.sl .bs b,.i .i64 at_]:List TV).getD q.1 .dead) :=
 ⟨by kernel_rfl,Eq.trans (b:=utf_Rune.F b at_) (by kernel_rfl) (Eq.trans (utf_Rune.goal b at_ hp) (by kernel_rfl))⟩
theorem utf_Rune.ok:SpecOK Go.Proofs.Try.prog (fun n=>(noGl n).av) 44 (Ctr.fs (utf_Rune.c,utf_Rune.sg)) :=
 meets (l:=utf_Rune.env) (all_cons utf_is.ok all_nil) utf_Rune.chk (by
   intro ins outs h
   unfold utf_Rune.c at h
   split at h
   ·obtain ⟨hp,rfl⟩:=h;exact utf_Rune.fit _ _ hp
   ·exact h.elim)
theorem utf_look.fit (b:List UInt8) (hp:(decide (b.length≤1099511627776))=true):([.sl .bs b]:List TV).length=utf_look.d.np∧utf_look.d.run (envL noGl utf_look.env) [.sl .bs b]=some (([(.i .i64 (((Utf.look b).1:Int))),(.i .i64 (((Utf.look b).2:Int)))]:List TV)++utf_look.d.ps.toList.map fun q=>([.sl .bs b]:List TV).getD q.1 .dead) :=
 ⟨by kernel_rfl,Eq.trans (b:=utf_look.F b) (by kernel_rfl) (Eq.trans (utf_look.goal b hp) (by kernel_rfl))⟩
theorem utf_look.ok:SpecOK Go.Proofs.Try.prog (fun n=>(noGl n).av) 41 (Ctr.fs (utf_look.c,utf_look.sg)) :=
 meets (l:=utf_look.env) (all_cons utf_Rune.ok all_nil) utf_look.chk (by
   intro ins outs h
   unfold utf_look.c at h
   split at h
   ·obtain ⟨hp,rfl⟩:=h;exact utf_look.fit _ hp
   ·exact h.elim)
theorem utf_Check.fit (b:List UInt8) (hp:(decide (b.length≤1099511627776))=true):([.sl .bs b]:List TV).length=utf_Check.d.np∧utf_Check.d.run (envL noGl utf_Check.env) [.sl .bs b]=some (([(.i .i64 (((Utf.look b).1:Int))),(.b (Utf.whole b))]:List TV)++utf_Check.d.ps.toList.map fun q=>([.sl .bs b]:List TV).getD q.1 .dead) :=
 ⟨by kernel_rfl,Eq.trans (b:=utf_Check.F b) (by kernel_rfl) (Eq.trans (utf_Check.goal b hp) (by kernel_rfl))⟩
theorem utf_Check.ok:SpecOK Go.Proofs.Try.prog (fun n=>(noGl n).av) 36 (Ctr.fs (utf_Check.c,utf_Check.sg)) :=
 meets (l:=utf_Check.env) (all_cons utf_look.ok all_nil) utf_Check.chk (by
   intro ins outs h
   unfold utf_Check.c at h
   split at h
   ·obtain ⟨hp,rfl⟩:=h;exact utf_Check.fit _ hp
   ·exact h.elim)
theorem ref2_Rune.fit (b:List UInt8) (at_:Int) (hp:(decide (b.length≤1099511627776))=true):([.sl .bs b,.i .i64 at_]:List TV).length=ref2_Rune.d.np∧ref2_Rune.d.run (envL noGl ref2_Rune.env) [.sl .bs b,.i .i64 at_]=some (([(.i .i64 ((Utf.runeAt b at_).1)),(.i .i64 ((Utf.runeAt b at_).2))]:List TV)++ref2_Rune.d.ps.toList.map fun q=>([.sl .bs b,.i .i64 at_]:List TV).getD q.1 .dead) :=
 ⟨by kernel_rfl,Eq.trans (b:=ref2_Rune.F b at_) (by kernel_rfl) (Eq.trans (ref2_Rune.goal b at_ hp) (by kernel_rfl))⟩
theorem ref2_Rune.ok:SpecOK Go.Proofs.Try.prog (fun n=>(noGl n).av) 46 (Ctr.fs (ref2_Rune.c,ref2_Rune.sg)) :=
 meets (l:=ref2_Rune.env) all_nil ref2_Rune.chk (by
   intro ins outs h
   unfold ref2_Rune.c at h
   split at h
   ·obtain ⟨hp,rfl⟩:=h;exact ref2_Rune.fit _ _ hp
   ·exact h.elim)
theorem ref2_Check.fit (b:List UInt8) (hp:(decide (b.length≤1099511627776))=true):([.sl .bs b]:List TV).length=ref2_Check.d.np∧ref2_Check.d.run (envL noGl ref2_Check.env) [.sl .bs b]=some (([(.i .i64 (((Utf.look b).1:Int))),(.b (Utf.whole b))]:List TV)++ref2_Check.d.ps.toList.map fun q=>([.sl .bs b]:List TV).getD q.1 .dead) :=
 ⟨by kernel_rfl,Eq.trans (b:=ref2_Check.F b) (by kernel_rfl) (Eq.trans (ref2_Check.goal b hp) (by kernel_rfl))⟩
theorem ref2_Check.ok:SpecOK Go.Proofs.Try.prog (fun n=>(noGl n).av) 43 (Ctr.fs (ref2_Check.c,ref2_Check.sg)) :=
 meets (l:=ref2_Check.env) (all_cons ref2_Rune.ok all_nil) ref2_Check.chk (by
   intro ins outs h
   unfold ref2_Check.c at h
   split at h
   ·obtain ⟨hp,rfl⟩:=h;exact ref2_Check.fit _ hp
   ·exact h.elim)
theorem ref2_Whole.fit (s:Str) (hp:(decide (s.length≤1099511627776))=true):([.s s]:List TV).length=ref2_Whole.d.np∧ref2_Whole.d.run (envL noGl ref2_Whole.env) [.s s]=some (([(.b (Utf.whole s))]:List TV)++ref2_Whole.d.ps.toList.map fun q=>([.s s]:List TV).getD q.1 .dead) :=
 ⟨by kernel_rfl,Eq.trans (b:=ref2_Whole.F s) (by kernel_rfl) (Eq.trans (ref2_Whole.goal s hp) (by kernel_rfl))⟩
theorem ref2_Whole.ok:SpecOK Go.Proofs.Try.prog (fun n=>(noGl n).av) 39 (Ctr.fs (ref2_Whole.c,ref2_Whole.sg)) :=
 meets (l:=ref2_Whole.env) (all_cons ref2_Check.ok all_nil) ref2_Whole.chk (by
   intro ins outs h
   unfold ref2_Whole.c at h
   split at h
   ·obtain ⟨hp,rfl⟩:=h;exact ref2_Whole.fit _ hp
   ·exact h.elim)
theorem ref2_Zero.fit (s:Str) (hp:(decide (s.length≤1099511627776))=true):([.s s]:List TV).length=ref2_Zero.d.np∧ref2_Zero.d.run (envL noGl ref2_Zero.env) [.s s]=some (([(.b (Utf.zero s))]:List TV)++ref2_Zero.d.ps.toList.map fun q=>([.s s]:List TV).getD q.1 .dead) :=
 ⟨by kernel_rfl,Eq.trans (b:=ref2_Zero.F s) (by kernel_rfl) (Eq.trans (ref2_Zero.goal s hp) (by kernel_rfl))⟩
theorem ref2_Zero.ok:SpecOK Go.Proofs.Try.prog (fun n=>(noGl n).av) 40 (Ctr.fs (ref2_Zero.c,ref2_Zero.sg)) :=
 meets (l:=ref2_Zero.env) all_nil ref2_Zero.chk (by
   intro ins outs h
   unfold ref2_Zero.c at h
   split at h
   ·obtain ⟨hp,rfl⟩:=h;exact ref2_Zero.fit _ hp
   ·exact h.elim)
theorem sl_IndexByte.fit (s:Str) (c:UInt8):([.s s,.u8 c]:List TV).length=sl_IndexByte.d.np∧sl_IndexByte.d.run (envL noGl sl_IndexByte.env) [.s s,.u8 c]=some (([(.i .i64 (Lib.indexByte s c))]:List TV)++sl_IndexByte.d.ps.toList.map fun q=>([.s s,.u8 c]:List TV).getD q.1 .dead) :=
 ⟨by kernel_rfl,Eq.trans (b:=sl_IndexByte.F s c) (by kernel_rfl) (Eq.trans (sl_IndexByte.goal s c) (by kernel_rfl))⟩
theorem sl_IndexByte.ok:SpecOK Go.Proofs.Try.prog (fun n=>(noGl n).av) 48 (Ctr.fs (sl_IndexByte.c,sl_IndexByte.sg)) :=
 meets (l:=sl_IndexByte.env) all_nil sl_IndexByte.chk (by
   intro ins outs h
   unfold sl_IndexByte.c at h
   split at h
   ·cases h;exact sl_IndexByte.fit _ _
   ·exact h.elim)
theorem sl_Index.fit (s:Str) (t:Str) (hp:(decide (t.length=1))=true):([.s s,.s t]:List TV).length=sl_Index.d.np∧sl_Index.d.run (envL noGl sl_Index.env) [.s s,.s t]=some (([(.i .i64 (Lib.indexByte s (t.getD 0 0)))]:List TV)++sl_Index.d.ps.toList.map fun q=>([.s s,.s t]:List TV).getD q.1 .dead) :=
 ⟨by kernel_rfl,Eq.trans (b:=sl_Index.F s t) (by kernel_rfl) (Eq.trans (sl_Index.goal s t hp) (by kernel_rfl))⟩
theorem sl_Index.ok:SpecOK Go.Proofs.Try.prog (fun n=>(noGl n).av) 45 (Ctr.fs (sl_Index.c,sl_Index.sg)) :=
 meets (l:=sl_Index.env) (all_cons sl_IndexByte.ok all_nil) sl_Index.chk (by
   intro ins outs h
   unfold sl_Index.c at h
   split at h
   ·obtain ⟨hp,rfl⟩:=h;exact sl_Index.fit _ _ hp
   ·exact h.elim)
theorem st_Index.fit (s:Str) (t:Str) (hp:(decide (t.length=1))=true):([.s s,.s t]:List TV).length=st_Index.d.np∧st_Index.d.run (envL noGl st_Index.env) [.s s,.s t]=some (([(.i .i64 (Lib.indexByte s (t.getD 0 0)))]:List TV)++st_Index.d.ps.toList.map fun q=>([.s s,.s t]:List TV).getD q.1 .dead) :=
 ⟨by kernel_rfl,Eq.trans (b:=st_Index.F s t) (by kernel_rfl) (Eq.trans (st_Index.goal s t hp) (by kernel_rfl))⟩
theorem st_Index.ok:SpecOK Go.Proofs.Try.prog (fun n=>(noGl n).av) 42 (Ctr.fs (st_Index.c,st_Index.sg)) :=
 meets (l:=st_Index.env) (all_cons sl_Index.ok all_nil) st_Index.chk (by
   intro ins outs h
   unfold st_Index.c at h
   split at h
   ·obtain ⟨hp,rfl⟩:=h;exact st_Index.fit _ _ hp
   ·exact h.elim)
theorem st_Contains.fit (s:Str) (t:Str) (hp:(decide (t.length=1))=true):([.s s,.s t]:List TV).length=st_Contains.d.np∧st_Contains.d.run (envL noGl st_Contains.env) [.s s,.s t]=some (([(.b (decide (0≤Lib.indexByte s (t.getD 0 0))))]:List TV)++st_Contains.d.ps.toList.map fun q=>([.s s,.s t]:List TV).getD q.1 .dead) :=
 ⟨by kernel_rfl,Eq.trans (b:=st_Contains.F s t) (by kernel_rfl) (Eq.trans (st_Contains.goal s t hp) (by kernel_rfl))⟩
theorem st_Contains.ok:SpecOK Go.Proofs.Try.prog (fun n=>(noGl n).av) 37 (Ctr.fs (st_Contains.c,st_Contains.sg)) :=
 meets (l:=st_Contains.env) (all_cons st_Index.ok all_nil) st_Contains.chk (by
   intro ins outs h
   unfold st_Contains.c at h
   split at h
   ·obtain ⟨hp,rfl⟩:=h;exact st_Contains.fit _ _ hp
   ·exact h.elim)
theorem tree_Name.fit (k:Int):([.i .i64 k]:List TV).length=tree_Name.d.np∧tree_Name.d.run (envL noGl tree_Name.env) [.i .i64 k]=some (([(.s (Tree.name k))]:List TV)++tree_Name.d.ps.toList.map fun q=>([.i .i64 k]:List TV).getD q.1 .dead) :=
 ⟨by kernel_rfl,Eq.trans (b:=tree_Name.F k) (by kernel_rfl) (Eq.trans (tree_Name.goal k) (by kernel_rfl))⟩
theorem tree_Name.ok:SpecOK Go.Proofs.Try.prog (fun n=>(noGl n).av) 17 (Ctr.fs (tree_Name.c,tree_Name.sg)) :=
 meets (l:=tree_Name.env) all_nil tree_Name.chk (by
   intro ins outs h
   unfold tree_Name.c at h
   split at h
   ·cases h;exact tree_Name.fit _
   ·exact h.elim)
theorem tree_fields.fit (v_kind:Int) (v_bits:UInt64) (v_high:UInt64) (v_low:UInt64) (v_text:Str) (v_more:Str) (v_sub:Int) (v_bytes:List UInt8) (v_kids:List Fld):([.ag [.i .i64 v_kind,.u64 v_bits,.u64 v_high,.u64 v_low,.s v_text,.s v_more,.i .i64 v_sub,.sl .bs v_bytes,.sl .fl v_kids]]:List TV).length=tree_fields.d.np∧tree_fields.d.run (envL noGl tree_fields.env) [.ag [.i .i64 v_kind,.u64 v_bits,.u64 v_high,.u64 v_low,.s v_text,.s v_more,.i .i64 v_sub,.sl .bs v_bytes,.sl .fl v_kids]]=some (([(.b (Tree.fieldsOK (Val.mk v_kind v_bits v_high v_low v_text v_more v_sub v_bytes v_kids)))]:List TV)++tree_fields.d.ps.toList.map fun q=>([.ag [.i .i64 v_kind,.u64 v_bits,.u64 v_high,.u64 v_low,.s v_text,.s v_more,.i .i64 v_sub,.sl .bs v_bytes,.sl .fl v_kids]]:List TV).getD q.1 .dead) :=
 ⟨by kernel_rfl,Eq.trans (b:=tree_fields.F (Val.mk v_kind v_bits v_high v_low v_text v_more v_sub v_bytes v_kids)) (by kernel_rfl) (Eq.trans (tree_fields.goal (Val.mk v_kind v_bits v_high v_low v_text v_more v_sub v_bytes v_kids)) (by kernel_rfl))⟩
theorem tree_fields.ok:SpecOK Go.Proofs.Try.prog (fun n=>(noGl n).av) 31 (Ctr.fs (tree_fields.c,tree_fields.sg)) :=
 meets (l:=tree_fields.env) all_nil tree_fields.chk (by
   intro ins outs h
   unfold tree_fields.c at h
   split at h
   ·cases h;exact tree_fields.fit _ _ _ _ _ _ _ _ _
   ·exact h.elim)
theorem tree_whole.fit (s:Str) (plain:Bool) (hp:(decide (s.length≤1099511627776))=true):([.s s,.b plain]:List TV).length=tree_whole.d.np∧tree_whole.d.run (envL noGl tree_whole.env) [.s s,.b plain]=some (([(.b (Tree.wholeT s plain))]:List TV)++tree_whole.d.ps.toList.map fun q=>([.s s,.b plain]:List TV).getD q.1 .dead) :=
 ⟨by kernel_rfl,Eq.trans (b:=tree_whole.F s plain) (by kernel_rfl) (Eq.trans (tree_whole.goal s plain hp) (by kernel_rfl))⟩
theorem tree_whole.ok:SpecOK Go.Proofs.Try.prog (fun n=>(noGl n).av) 32 (Ctr.fs (tree_whole.c,tree_whole.sg)) :=
 meets (l:=tree_whole.env) (all_cons utf_Check.ok (all_cons st_Contains.ok all_nil)) tree_whole.chk (by
   intro ins outs h
   unfold tree_whole.c at h
   split at h
   ·obtain ⟨hp,rfl⟩:=h;exact tree_whole.fit _ _ hp
   ·exact h.elim)
theorem tree_check.fit (n:Nat) (v_kind:Int) (v_bits:UInt64) (v_high:UInt64) (v_low:UInt64) (v_text:Str) (v_more:Str) (v_sub:Int) (v_bytes:List UInt8) (v_kids:List Fld) (name:Str) (path:List Int) (hp:((decide (Fld.bulk (Fld.of name (Val.mk v_kind v_bits v_high v_low v_text v_more v_sub v_bytes v_kids))+path.length≤1099511627776))&&decide ((Fld.bulk (Fld.of name (Val.mk v_kind v_bits v_high v_low v_text v_more v_sub v_bytes v_kids)))<n+1))=true):([.ag [.i .i64 v_kind,.u64 v_bits,.u64 v_high,.u64 v_low,.s v_text,.s v_more,.i .i64 v_sub,.sl .bs v_bytes,.sl .fl v_kids],.s name,.sl .is path]:List TV).length=tree_check.d.np∧tree_check.d.run (envL noGl (tree_check.env n)) [.ag [.i .i64 v_kind,.u64 v_bits,.u64 v_high,.u64 v_low,.s v_text,.s v_more,.i .i64 v_sub,.sl .bs v_bytes,.sl .fl v_kids],.s name,.sl .is path]=some (([(.sl .is ((Tree.chkF (Fld.of name (Val.mk v_kind v_bits v_high v_low v_text v_more v_sub v_bytes v_kids)) path).1)),(.i .i64 ((Tree.chkF (Fld.of name (Val.mk v_kind v_bits v_high v_low v_text v_more v_sub v_bytes v_kids)) path).2))]:List TV)++tree_check.d.ps.toList.map fun q=>([.ag [.i .i64 v_kind,.u64 v_bits,.u64 v_high,.u64 v_low,.s v_text,.s v_more,.i .i64 v_sub,.sl .bs v_bytes,.sl .fl v_kids],.s name,.sl .is path]:List TV).getD q.1 .dead) :=
 ⟨by kernel_rfl,Eq.trans (b:=tree_check.F n (Val.mk v_kind v_bits v_high v_low v_text v_more v_sub v_bytes v_kids) name path) (by kernel_rfl) (Eq.trans (tree_check.goal n (Val.mk v_kind v_bits v_high v_low v_text v_more v_sub v_bytes v_kids) name path hp) (by kernel_rfl))⟩
theorem tcheck.oks:∀n:Nat,(SpecOK Go.Proofs.Try.prog (fun n=>(noGl n).av) 23 (Ctr.fs (tree_check.cn n,tree_check.sg))):=by
 intro n
 induction n with
 | zero=>exact spec_zero (by
   intro ti to_ h
   unfold tree_check.cn at h
   split at h
   ·obtain ⟨h,_⟩:=h;simp at h
   ·exact h.elim)
 | succ n ih =>
  have ih0:=ih
  exact meets (l:=tree_check.env n) (all_cons tree_Name.ok (all_cons ih0 (all_cons clone_is.ok (all_cons tree_fields.ok (all_cons tree_whole.ok all_nil))))) (tree_check.chk n) (by
   intro ins outs h
   unfold tree_check.cn at h
   split at h
   ·obtain ⟨hp,rfl⟩:=h;exact tree_check.fit n _ _ _ _ _ _ _ _ _ _ _ hp
   ·exact h.elim)
theorem tree_check.ok:SpecOK Go.Proofs.Try.prog (fun n=>(noGl n).av) 23 (Ctr.fs (tree_check.c,tree_check.sg)):=spec_sub fun ti to_ h=>by
 unfold tree_check.c at h
 split at h
 ·obtain ⟨hp,rfl⟩:=h;exact ⟨tree_check.cn (_+1),(tcheck.oks _),Bool.and_eq_true_iff.2 ⟨hp,decide_eq_true (Nat.lt_succ_self _)⟩,rfl⟩
 ·exact h.elim
theorem tree_Check.fit (v_kind:Int) (v_bits:UInt64) (v_high:UInt64) (v_low:UInt64) (v_text:Str) (v_more:Str) (v_sub:Int) (v_bytes:List UInt8) (v_kids:List Fld) (hp:(decide (Fld.bulk (Fld.of [] (Val.mk v_kind v_bits v_high v_low v_text v_more v_sub v_bytes v_kids))≤1099511627776))=true):([.ag [.i .i64 v_kind,.u64 v_bits,.u64 v_high,.u64 v_low,.s v_text,.s v_more,.i .i64 v_sub,.sl .bs v_bytes,.sl .fl v_kids]]:List TV).length=tree_Check.d.np∧tree_Check.d.run (envL noGl tree_Check.env) [.ag [.i .i64 v_kind,.u64 v_bits,.u64 v_high,.u64 v_low,.s v_text,.s v_more,.i .i64 v_sub,.sl .bs v_bytes,.sl .fl v_kids]]=some (([(.sl .is ((Tree.chkF (Fld.of [] (Val.mk v_kind v_bits v_high v_low v_text v_more v_sub v_bytes v_kids)) []).1)),(.i .i64 ((Tree.chkF (Fld.of [] (Val.mk v_kind v_bits v_high v_low v_text v_more v_sub v_bytes v_kids)) []).2))]:List TV)++tree_Check.d.ps.toList.map fun q=>([.ag [.i .i64 v_kind,.u64 v_bits,.u64 v_high,.u64 v_low,.s v_text,.s v_more,.i .i64 v_sub,.sl .bs v_bytes,.sl .fl v_kids]]:List TV).getD q.1 .dead) :=
 ⟨by kernel_rfl,Eq.trans (b:=tree_Check.F (Val.mk v_kind v_bits v_high v_low v_text v_more v_sub v_bytes v_kids)) (by kernel_rfl) (Eq.trans (tree_Check.goal (Val.mk v_kind v_bits v_high v_low v_text v_more v_sub v_bytes v_kids) hp) (by kernel_rfl))⟩
theorem tree_Check.ok:SpecOK Go.Proofs.Try.prog (fun n=>(noGl n).av) 9 (Ctr.fs (tree_Check.c,tree_Check.sg)) :=
 meets (l:=tree_Check.env) (all_cons tree_check.ok all_nil) tree_Check.chk (by
   intro ins outs h
   unfold tree_Check.c at h
   split at h
   ·obtain ⟨hp,rfl⟩:=h;exact tree_Check.fit _ _ _ _ _ _ _ _ _ hp
   ·exact h.elim)
theorem tree_Depth.fit (n:Nat) (v_kind:Int) (v_bits:UInt64) (v_high:UInt64) (v_low:UInt64) (v_text:Str) (v_more:Str) (v_sub:Int) (v_bytes:List UInt8) (v_kids:List Fld) (hp:((decide (Fld.bulk (Fld.of [] (Val.mk v_kind v_bits v_high v_low v_text v_more v_sub v_bytes v_kids))≤1099511627776))&&decide ((Fld.bulk (Fld.of [] (Val.mk v_kind v_bits v_high v_low v_text v_more v_sub v_bytes v_kids)))<n+1))=true):([.ag [.i .i64 v_kind,.u64 v_bits,.u64 v_high,.u64 v_low,.s v_text,.s v_more,.i .i64 v_sub,.sl .bs v_bytes,.sl .fl v_kids]]:List TV).length=tree_Depth.d.np∧tree_Depth.d.run (envL noGl (tree_Depth.env n)) [.ag [.i .i64 v_kind,.u64 v_bits,.u64 v_high,.u64 v_low,.s v_text,.s v_more,.i .i64 v_sub,.sl .bs v_bytes,.sl .fl v_kids]]=some (([(.i .i64 ((Tree.depth (Fld.of [] (Val.mk v_kind v_bits v_high v_low v_text v_more v_sub v_bytes v_kids)):Int)))]:List TV)++tree_Depth.d.ps.toList.map fun q=>([.ag [.i .i64 v_kind,.u64 v_bits,.u64 v_high,.u64 v_low,.s v_text,.s v_more,.i .i64 v_sub,.sl .bs v_bytes,.sl .fl v_kids]]:List TV).getD q.1 .dead) :=
 ⟨by kernel_rfl,Eq.trans (b:=tree_Depth.F n (Val.mk v_kind v_bits v_high v_low v_text v_more v_sub v_bytes v_kids)) (by kernel_rfl) (Eq.trans (tree_Depth.goal n (Val.mk v_kind v_bits v_high v_low v_text v_more v_sub v_bytes v_kids) hp) (by kernel_rfl))⟩
theorem tdepth.oks:∀n:Nat,(SpecOK Go.Proofs.Try.prog (fun n=>(noGl n).av) 21 (Ctr.fs (tree_Depth.cn n,tree_Depth.sg))):=by
 intro n
 induction n with
 | zero=>exact spec_zero (by
   intro ti to_ h
   unfold tree_Depth.cn at h
   split at h
   ·obtain ⟨h,_⟩:=h;simp at h
   ·exact h.elim)
 | succ n ih =>
  have ih0:=ih
  exact meets (l:=tree_Depth.env n) (all_cons ih0 all_nil) (tree_Depth.chk n) (by
   intro ins outs h
   unfold tree_Depth.cn at h
   split at h
   ·obtain ⟨hp,rfl⟩:=h;exact tree_Depth.fit n _ _ _ _ _ _ _ _ _ hp
   ·exact h.elim)
theorem tree_Depth.ok:SpecOK Go.Proofs.Try.prog (fun n=>(noGl n).av) 21 (Ctr.fs (tree_Depth.c,tree_Depth.sg)):=spec_sub fun ti to_ h=>by
 unfold tree_Depth.c at h
 split at h
 ·obtain ⟨hp,rfl⟩:=h;exact ⟨tree_Depth.cn (_+1),(tdepth.oks _),Bool.and_eq_true_iff.2 ⟨hp,decide_eq_true (Nat.lt_succ_self _)⟩,rfl⟩
 ·exact h.elim
theorem ref17_kinds.fit:([]:List TV).length=ref17_kinds.d.np∧ref17_kinds.d.run (envL noGl ref17_kinds.env) []=some (([(.sl .is (Tree.kinds))]:List TV)++ref17_kinds.d.ps.toList.map fun q=>([]:List TV).getD q.1 .dead) :=
 ⟨by kernel_rfl,Eq.trans (b:=ref17_kinds.F ) (by kernel_rfl) (Eq.trans (ref17_kinds.goal ) (by kernel_rfl))⟩
theorem ref17_kinds.ok:SpecOK Go.Proofs.Try.prog (fun n=>(noGl n).av) 26 (Ctr.fs (ref17_kinds.c,ref17_kinds.sg)) :=
 meets (l:=ref17_kinds.env) all_nil ref17_kinds.chk (by
   intro ins outs h
   unfold ref17_kinds.c at h
   split at h
   ·cases h;exact ref17_kinds.fit
   ·exact h.elim)
theorem ref17_Name.fit (k:Int):([.i .i64 k]:List TV).length=ref17_Name.d.np∧ref17_Name.d.run (envL noGl ref17_Name.env) [.i .i64 k]=some (([(.s (Tree.name k))]:List TV)++ref17_Name.d.ps.toList.map fun q=>([.i .i64 k]:List TV).getD q.1 .dead) :=
 ⟨by kernel_rfl,Eq.trans (b:=ref17_Name.F k) (by kernel_rfl) (Eq.trans (ref17_Name.goal k) (by kernel_rfl))⟩
theorem ref17_Name.ok:SpecOK Go.Proofs.Try.prog (fun n=>(noGl n).av) 18 (Ctr.fs (ref17_Name.c,ref17_Name.sg)) :=
 meets (l:=ref17_Name.env) (all_cons ref17_kinds.ok all_nil) ref17_Name.chk (by
   intro ins outs h
   unfold ref17_Name.c at h
   split at h
   ·cases h;exact ref17_Name.fit _
   ·exact h.elim)
theorem ref17_has.fit (k:Int):([.i .i64 k]:List TV).length=ref17_has.d.np∧ref17_has.d.run (envL noGl ref17_has.env) [.i .i64 k]=some (([(.b (Tree.hasN 0 k)),(.b (Tree.hasN 1 k)),(.b (Tree.hasN 2 k)),(.b (Tree.hasN 3 k)),(.b (Tree.hasN 4 k)),(.b (Tree.hasN 5 k)),(.b (Tree.hasN 6 k))]:List TV)++ref17_has.d.ps.toList.map fun q=>([.i .i64 k]:List TV).getD q.1 .dead) :=
 ⟨by kernel_rfl,Eq.trans (b:=ref17_has.F k) (by kernel_rfl) (Eq.trans (ref17_has.goal k) (by kernel_rfl))⟩
theorem ref17_has.ok:SpecOK Go.Proofs.Try.prog (fun n=>(noGl n).av) 38 (Ctr.fs (ref17_has.c,ref17_has.sg)) :=
 meets (l:=ref17_has.env) all_nil ref17_has.chk (by
   intro ins outs h
   unfold ref17_has.c at h
   split at h
   ·cases h;exact ref17_has.fit _
   ·exact h.elim)
theorem ref17_own.fit (v_kind:Int) (v_bits:UInt64) (v_high:UInt64) (v_low:UInt64) (v_text:Str) (v_more:Str) (v_sub:Int) (v_bytes:List UInt8) (v_kids:List Fld) (hp:(decide (Fld.bulk (Fld.of [] (Val.mk v_kind v_bits v_high v_low v_text v_more v_sub v_bytes v_kids))≤1099511627776))=true):([.ag [.i .i64 v_kind,.u64 v_bits,.u64 v_high,.u64 v_low,.s v_text,.s v_more,.i .i64 v_sub,.sl .bs v_bytes,.sl .fl v_kids]]:List TV).length=ref17_own.d.np∧ref17_own.d.run (envL noGl ref17_own.env) [.ag [.i .i64 v_kind,.u64 v_bits,.u64 v_high,.u64 v_low,.s v_text,.s v_more,.i .i64 v_sub,.sl .bs v_bytes,.sl .fl v_kids]]=some (([(.i .i64 (Tree.own (Val.mk v_kind v_bits v_high v_low v_text v_more v_sub v_bytes v_kids)))]:List TV)++ref17_own.d.ps.toList.map fun q=>([.ag [.i .i64 v_kind,.u64 v_bits,.u64 v_high,.u64 v_low,.s v_text,.s v_more,.i .i64 v_sub,.sl .bs v_bytes,.sl .fl v_kids]]:List TV).getD q.1 .dead) :=
 ⟨by kernel_rfl,Eq.trans (b:=ref17_own.F (Val.mk v_kind v_bits v_high v_low v_text v_more v_sub v_bytes v_kids)) (by kernel_rfl) (Eq.trans (ref17_own.goal (Val.mk v_kind v_bits v_high v_low v_text v_more v_sub v_bytes v_kids) hp) (by kernel_rfl))⟩
theorem ref17_own.ok:SpecOK Go.Proofs.Try.prog (fun n=>(noGl n).av) 33 (Ctr.fs (ref17_own.c,ref17_own.sg)) :=
 meets (l:=ref17_own.env) (all_cons ref17_Name.ok (all_cons ref17_has.ok (all_cons ref2_Whole.ok (all_cons ref2_Zero.ok all_nil)))) ref17_own.chk (by
   intro ins outs h
   unfold ref17_own.c at h
   split at h
   ·obtain ⟨hp,rfl⟩:=h;exact ref17_own.fit _ _ _ _ _ _ _ _ _ hp
   ·exact h.elim)
theorem ref17_Named.fit (s:Str) (hp:(decide (s.length≤1099511627776))=true):([.s s]:List TV).length=ref17_Named.d.np∧ref17_Named.d.run (envL noGl ref17_Named.env) [.s s]=some (([(.b (Tree.wholeT s true))]:List TV)++ref17_Named.d.ps.toList.map fun q=>([.s s]:List TV).getD q.1 .dead) :=
 ⟨by kernel_rfl,Eq.trans (b:=ref17_Named.F s) (by kernel_rfl) (Eq.trans (ref17_Named.goal s hp) (by kernel_rfl))⟩
theorem ref17_Named.ok:SpecOK Go.Proofs.Try.prog (fun n=>(noGl n).av) 34 (Ctr.fs (ref17_Named.c,ref17_Named.sg)) :=
 meets (l:=ref17_Named.env) (all_cons ref2_Whole.ok (all_cons ref2_Zero.ok all_nil)) ref17_Named.chk (by
   intro ins outs h
   unfold ref17_Named.c at h
   split at h
   ·obtain ⟨hp,rfl⟩:=h;exact ref17_Named.fit _ hp
   ·exact h.elim)
theorem ref17_longer.fit (p:List Int) (k:Int) (hp:(decide (p.length≤1099511627776))=true):([.sl .is p,.i .i64 k]:List TV).length=ref17_longer.d.np∧ref17_longer.d.run (envL noGl ref17_longer.env) [.sl .is p,.i .i64 k]=some (([(.sl .is ((p++[k])))]:List TV)++ref17_longer.d.ps.toList.map fun q=>([.sl .is p,.i .i64 k]:List TV).getD q.1 .dead) :=
 ⟨by kernel_rfl,Eq.trans (b:=ref17_longer.F p k) (by kernel_rfl) (Eq.trans (ref17_longer.goal p k hp) (by kernel_rfl))⟩
theorem ref17_longer.ok:SpecOK Go.Proofs.Try.prog (fun n=>(noGl n).av) 35 (Ctr.fs (ref17_longer.c,ref17_longer.sg)) :=
 meets (l:=ref17_longer.env) all_nil ref17_longer.chk (by
   intro ins outs h
   unfold ref17_longer.c at h
   split at h
   ·obtain ⟨hp,rfl⟩:=h;exact ref17_longer.fit _ _ hp
   ·exact h.elim)
theorem ref17_check.fit (n:Nat) (v_kind:Int) (v_bits:UInt64) (v_high:UInt64) (v_low:UInt64) (v_text:Str) (v_more:Str) (v_sub:Int) (v_bytes:List UInt8) (v_kids:List Fld) (name:Str) (p:List Int) (hp:((decide (Fld.bulk (Fld.of name (Val.mk v_kind v_bits v_high v_low v_text v_more v_sub v_bytes v_kids))+p.length≤1099511627776))&&decide ((Fld.bulk (Fld.of name (Val.mk v_kind v_bits v_high v_low v_text v_more v_sub v_bytes v_kids)))<n+1))=true):([.ag [.i .i64 v_kind,.u64 v_bits,.u64 v_high,.u64 v_low,.s v_text,.s v_more,.i .i64 v_sub,.sl .bs v_bytes,.sl .fl v_kids],.s name,.sl .is p]:List TV).length=ref17_check.d.np∧ref17_check.d.run (envL noGl (ref17_check.env n)) [.ag [.i .i64 v_kind,.u64 v_bits,.u64 v_high,.u64 v_low,.s v_text,.s v_more,.i .i64 v_sub,.sl .bs v_bytes,.sl .fl v_kids],.s name,.sl .is p]=some (([(.sl .is ((Tree.chkF (Fld.of name (Val.mk v_kind v_bits v_high v_low v_text v_more v_sub v_bytes v_kids)) p).1)),(.i .i64 ((Tree.chkF (Fld.of name (Val.mk v_kind v_bits v_high v_low v_text v_more v_sub v_bytes v_kids)) p).2))]:List TV)++ref17_check.d.ps.toList.map fun q=>([.ag [.i .i64 v_kind,.u64 v_bits,.u64 v_high,.u64 v_low,.s v_text,.s v_more,.i .i64 v_sub,.sl .bs v_bytes,.sl .fl v_kids],.s name,.sl .is p]:List TV).getD q.1 .dead) :=
 ⟨by kernel_rfl,Eq.trans (b:=ref17_check.F n (Val.mk v_kind v_bits v_high v_low v_text v_more v_sub v_bytes v_kids) name p) (by kernel_rfl) (Eq.trans (ref17_check.goal n (Val.mk v_kind v_bits v_high v_low v_text v_more v_sub v_bytes v_kids) name p hp) (by kernel_rfl))⟩
theorem rcheck.oks:∀n:Nat,(SpecOK Go.Proofs.Try.prog (fun n=>(noGl n).av) 24 (Ctr.fs (ref17_check.cn n,ref17_check.sg))):=by
 intro n
 induction n with
 | zero=>exact spec_zero (by
   intro ti to_ h
   unfold ref17_check.cn at h
   split at h
   ·obtain ⟨h,_⟩:=h;simp at h
   ·exact h.elim)
 | succ n ih =>
  have ih0:=ih
  exact meets (l:=ref17_check.env n) (all_cons ih0 (all_cons ref17_own.ok (all_cons ref17_Named.ok (all_cons ref17_longer.ok all_nil)))) (ref17_check.chk n) (by
   intro ins outs h
   unfold ref17_check.cn at h
   split at h
   ·obtain ⟨hp,rfl⟩:=h;exact ref17_check.fit n _ _ _ _ _ _ _ _ _ _ _ hp
   ·exact h.elim)
theorem ref17_check.ok:SpecOK Go.Proofs.Try.prog (fun n=>(noGl n).av) 24 (Ctr.fs (ref17_check.c,ref17_check.sg)):=spec_sub fun ti to_ h=>by
 unfold ref17_check.c at h
 split at h
 ·obtain ⟨hp,rfl⟩:=h;exact ⟨ref17_check.cn (_+1),(rcheck.oks _),Bool.and_eq_true_iff.2 ⟨hp,decide_eq_true (Nat.lt_succ_self _)⟩,rfl⟩
 ·exact h.elim
theorem ref17_Check.fit (v_kind:Int) (v_bits:UInt64) (v_high:UInt64) (v_low:UInt64) (v_text:Str) (v_more:Str) (v_sub:Int) (v_bytes:List UInt8) (v_kids:List Fld) (hp:(decide (Fld.bulk (Fld.of [] (Val.mk v_kind v_bits v_high v_low v_text v_more v_sub v_bytes v_kids))≤1099511627776))=true):([.ag [.i .i64 v_kind,.u64 v_bits,.u64 v_high,.u64 v_low,.s v_text,.s v_more,.i .i64 v_sub,.sl .bs v_bytes,.sl .fl v_kids]]:List TV).length=ref17_Check.d.np∧ref17_Check.d.run (envL noGl ref17_Check.env) [.ag [.i .i64 v_kind,.u64 v_bits,.u64 v_high,.u64 v_low,.s v_text,.s v_more,.i .i64 v_sub,.sl .bs v_bytes,.sl .fl v_kids]]=some (([(.sl .is ((Tree.chkF (Fld.of [] (Val.mk v_kind v_bits v_high v_low v_text v_more v_sub v_bytes v_kids)) []).1)),(.i .i64 ((Tree.chkF (Fld.of [] (Val.mk v_kind v_bits v_high v_low v_text v_more v_sub v_bytes v_kids)) []).2))]:List TV)++ref17_Check.d.ps.toList.map fun q=>([.ag [.i .i64 v_kind,.u64 v_bits,.u64 v_high,.u64 v_low,.s v_text,.s v_more,.i .i64 v_sub,.sl .bs v_bytes,.sl .fl v_kids]]:List TV).getD q.1 .dead) :=
 ⟨by kernel_rfl,Eq.trans (b:=ref17_Check.F (Val.mk v_kind v_bits v_high v_low v_text v_more v_sub v_bytes v_kids)) (by kernel_rfl) (Eq.trans (ref17_Check.goal (Val.mk v_kind v_bits v_high v_low v_text v_more v_sub v_bytes v_kids) hp) (by kernel_rfl))⟩
theorem ref17_Check.ok:SpecOK Go.Proofs.Try.prog (fun n=>(noGl n).av) 10 (Ctr.fs (ref17_Check.c,ref17_Check.sg)) :=
 meets (l:=ref17_Check.env) (all_cons ref17_check.ok all_nil) ref17_Check.chk (by
   intro ins outs h
   unfold ref17_Check.c at h
   split at h
   ·obtain ⟨hp,rfl⟩:=h;exact ref17_Check.fit _ _ _ _ _ _ _ _ _ hp
   ·exact h.elim)
theorem ref1_SameInts.fit (a:List Int) (b:List Int) (hp:(decide (a.length≤1099511627776))=true):([.sl .is a,.sl .is b]:List TV).length=ref1_SameInts.d.np∧ref1_SameInts.d.run (envL noGl ref1_SameInts.env) [.sl .is a,.sl .is b]=some (([(.b (decide (a=b)))]:List TV)++ref1_SameInts.d.ps.toList.map fun q=>([.sl .is a,.sl .is b]:List TV).getD q.1 .dead) :=
 ⟨by kernel_rfl,Eq.trans (b:=ref1_SameInts.F a b) (by kernel_rfl) (Eq.trans (ref1_SameInts.goal a b hp) (by kernel_rfl))⟩
theorem ref1_SameInts.ok:SpecOK Go.Proofs.Try.prog (fun n=>(noGl n).av) 11 (Ctr.fs (ref1_SameInts.c,ref1_SameInts.sg)) :=
 meets (l:=ref1_SameInts.env) all_nil ref1_SameInts.chk (by
   intro ins outs h
   unfold ref1_SameInts.c at h
   split at h
   ·obtain ⟨hp,rfl⟩:=h;exact ref1_SameInts.fit _ _ hp
   ·exact h.elim)
theorem book_Room.fit (left:Int) (sizes:List Int) (hp:(decide (left≤1200∧sizes.length≤10)&&sizes.all (fun s=>decide (0≤s)))=true):([.i .i64 left,.sl .is sizes]:List TV).length=book_Room.d.np∧book_Room.d.run (envL noGl book_Room.env) [.i .i64 left,.sl .is sizes]=some (([(.i .i64 (Book.room left sizes))]:List TV)++book_Room.d.ps.toList.map fun q=>([.i .i64 left,.sl .is sizes]:List TV).getD q.1 .dead) :=
 ⟨by kernel_rfl,Eq.trans (b:=book_Room.F left sizes) (by kernel_rfl) (Eq.trans (book_Room.goal left sizes hp) (by kernel_rfl))⟩
theorem book_Room.ok:SpecOK Go.Proofs.Try.prog (fun n=>(noGl n).av) 29 (Ctr.fs (book_Room.c,book_Room.sg)) :=
 meets (l:=book_Room.env) all_nil book_Room.chk (by
   intro ins outs h
   unfold book_Room.c at h
   split at h
   ·obtain ⟨hp,rfl⟩:=h;exact book_Room.fit _ _ hp
   ·exact h.elim)
theorem book_Value.fit (n:Nat) (left:Int) (v_kind:Int) (v_bits:UInt64) (v_high:UInt64) (v_low:UInt64) (v_text:Str) (v_more:Str) (v_sub:Int) (v_bytes:List UInt8) (v_kids:List Fld) (hp:((decide (left≤1200))&&decide ((Fld.bulk (Fld.of [] (Val.mk v_kind v_bits v_high v_low v_text v_more v_sub v_bytes v_kids)))<n+1))=true):([.i .i64 left,.ag [.i .i64 v_kind,.u64 v_bits,.u64 v_high,.u64 v_low,.s v_text,.s v_more,.i .i64 v_sub,.sl .bs v_bytes,.sl .fl v_kids]]:List TV).length=book_Value.d.np∧book_Value.d.run (envL noGl (book_Value.env n)) [.i .i64 left,.ag [.i .i64 v_kind,.u64 v_bits,.u64 v_high,.u64 v_low,.s v_text,.s v_more,.i .i64 v_sub,.sl .bs v_bytes,.sl .fl v_kids]]=some (([(.i .i64 (Book.value left (Fld.of [] (Val.mk v_kind v_bits v_high v_low v_text v_more v_sub v_bytes v_kids))))]:List TV)++book_Value.d.ps.toList.map fun q=>([.i .i64 left,.ag [.i .i64 v_kind,.u64 v_bits,.u64 v_high,.u64 v_low,.s v_text,.s v_more,.i .i64 v_sub,.sl .bs v_bytes,.sl .fl v_kids]]:List TV).getD q.1 .dead) :=
 ⟨by kernel_rfl,Eq.trans (b:=book_Value.F n left (Val.mk v_kind v_bits v_high v_low v_text v_more v_sub v_bytes v_kids)) (by kernel_rfl) (Eq.trans (book_Value.goal n left (Val.mk v_kind v_bits v_high v_low v_text v_more v_sub v_bytes v_kids) hp) (by kernel_rfl))⟩
theorem bvalue.oks:∀n:Nat,(SpecOK Go.Proofs.Try.prog (fun n=>(noGl n).av) 22 (Ctr.fs (book_Value.cn n,book_Value.sg))):=by
 intro n
 induction n with
 | zero=>exact spec_zero (by
   intro ti to_ h
   unfold book_Value.cn at h
   split at h
   ·obtain ⟨h,_⟩:=h;simp at h
   ·exact h.elim)
 | succ n ih =>
  have ih0:=ih
  exact meets (l:=book_Value.env n) (all_cons ih0 (all_cons book_Room.ok all_nil)) (book_Value.chk n) (by
   intro ins outs h
   unfold book_Value.cn at h
   split at h
   ·obtain ⟨hp,rfl⟩:=h;exact book_Value.fit n _ _ _ _ _ _ _ _ _ _ hp
   ·exact h.elim)
theorem book_Value.ok:SpecOK Go.Proofs.Try.prog (fun n=>(noGl n).av) 22 (Ctr.fs (book_Value.c,book_Value.sg)):=spec_sub fun ti to_ h=>by
 unfold book_Value.c at h
 split at h
 ·obtain ⟨hp,rfl⟩:=h;exact ⟨book_Value.cn (_+1),(bvalue.oks _),Bool.and_eq_true_iff.2 ⟨hp,decide_eq_true (Nat.lt_succ_self _)⟩,rfl⟩
 ·exact h.elim
theorem book_Place.fit (k:Int) (n:Int) (hp:(decide (1≤n∧n≤1099511627776))=true):([.i .i64 k,.i .i64 n]:List TV).length=book_Place.d.np∧book_Place.d.run (envL noGl book_Place.env) [.i .i64 k,.i .i64 n]=some (([(.i .i64 (k % n))]:List TV)++book_Place.d.ps.toList.map fun q=>([.i .i64 k,.i .i64 n]:List TV).getD q.1 .dead) :=
 ⟨by kernel_rfl,Eq.trans (b:=book_Place.F k n) (by kernel_rfl) (Eq.trans (book_Place.goal k n hp) (by kernel_rfl))⟩
theorem book_Place.ok:SpecOK Go.Proofs.Try.prog (fun n=>(noGl n).av) 13 (Ctr.fs (book_Place.c,book_Place.sg)) :=
 meets (l:=book_Place.env) all_nil book_Place.chk (by
   intro ins outs h
   unfold book_Place.c at h
   split at h
   ·obtain ⟨hp,rfl⟩:=h;exact book_Place.fit _ _ hp
   ·exact h.elim)
theorem book_With.fit (n:Nat) (v_kind:Int) (v_bits:UInt64) (v_high:UInt64) (v_low:UInt64) (v_text:Str) (v_more:Str) (v_sub:Int) (v_bytes:List UInt8) (v_kids:List Fld) (p:List Int) (x_kind:Int) (x_bits:UInt64) (x_high:UInt64) (x_low:UInt64) (x_text:Str) (x_more:Str) (x_sub:Int) (x_bytes:List UInt8) (x_kids:List Fld) (hp:((decide (Fld.bulk (Fld.of [] (Val.mk v_kind v_bits v_high v_low v_text v_more v_sub v_bytes v_kids))≤1048576)&&Tree.within p (Val.mk v_kind v_bits v_high v_low v_text v_more v_sub v_bytes v_kids))&&decide (((p).length)<n+1))=true):([.ag [.i .i64 v_kind,.u64 v_bits,.u64 v_high,.u64 v_low,.s v_text,.s v_more,.i .i64 v_sub,.sl .bs v_bytes,.sl .fl v_kids],.sl .is p,.ag [.i .i64 x_kind,.u64 x_bits,.u64 x_high,.u64 x_low,.s x_text,.s x_more,.i .i64 x_sub,.sl .bs x_bytes,.sl .fl x_kids]]:List TV).length=book_With.d.np∧book_With.d.run (envL noGl (book_With.env n)) [.ag [.i .i64 v_kind,.u64 v_bits,.u64 v_high,.u64 v_low,.s v_text,.s v_more,.i .i64 v_sub,.sl .bs v_bytes,.sl .fl v_kids],.sl .is p,.ag [.i .i64 x_kind,.u64 x_bits,.u64 x_high,.u64 x_low,.s x_text,.s x_more,.i .i64 x_sub,.sl .bs x_bytes,.sl .fl x_kids]]=some (([(.ag (Val.cells (Tree.put p (Val.mk v_kind v_bits v_high v_low v_text v_more v_sub v_bytes v_kids) (Val.mk x_kind x_bits x_high x_low x_text x_more x_sub x_bytes x_kids))))]:List TV)++book_With.d.ps.toList.map fun q=>([.ag [.i .i64 v_kind,.u64 v_bits,.u64 v_high,.u64 v_low,.s v_text,.s v_more,.i .i64 v_sub,.sl .bs v_bytes,.sl .fl v_kids],.sl .is p,.ag [.i .i64 x_kind,.u64 x_bits,.u64 x_high,.u64 x_low,.s x_text,.s x_more,.i .i64 x_sub,.sl .bs x_bytes,.sl .fl x_kids]]:List TV).getD q.1 .dead) :=
 ⟨by kernel_rfl,Eq.trans (b:=book_With.F n (Val.mk v_kind v_bits v_high v_low v_text v_more v_sub v_bytes v_kids) p (Val.mk x_kind x_bits x_high x_low x_text x_more x_sub x_bytes x_kids)) (by kernel_rfl) (Eq.trans (book_With.goal n (Val.mk v_kind v_bits v_high v_low v_text v_more v_sub v_bytes v_kids) p (Val.mk x_kind x_bits x_high x_low x_text x_more x_sub x_bytes x_kids) hp) (by kernel_rfl))⟩
theorem with.oks:∀n:Nat,(SpecOK Go.Proofs.Try.prog (fun n=>(noGl n).av) 14 (Ctr.fs (book_With.cn n,book_With.sg))):=by
 intro n
 induction n with
 | zero=>exact spec_zero (by
   intro ti to_ h
   unfold book_With.cn at h
   split at h
   ·obtain ⟨h,_⟩:=h;simp at h
   ·exact h.elim)
 | succ n ih =>
  have ih0:=ih
  exact meets (l:=book_With.env n) (all_cons ih0 all_nil) (book_With.chk n) (by
   intro ins outs h
   unfold book_With.cn at h
   split at h
   ·obtain ⟨hp,rfl⟩:=h;exact book_With.fit n _ _ _ _ _ _ _ _ _ _ _ _ _ _ _ _ _ _ _ hp
   ·exact h.elim)
theorem book_With.ok:SpecOK Go.Proofs.Try.prog (fun n=>(noGl n).av) 14 (Ctr.fs (book_With.c,book_With.sg)):=spec_sub fun ti to_ h=>by
 unfold book_With.c at h
 split at h
 ·obtain ⟨hp,rfl⟩:=h;exact ⟨book_With.cn (_+1),(with.oks _),Bool.and_eq_true_iff.2 ⟨hp,decide_eq_true (Nat.lt_succ_self _)⟩,rfl⟩
 ·exact h.elim
theorem ref17_all.fit (n:Nat) (v_kind:Int) (v_bits:UInt64) (v_high:UInt64) (v_low:UInt64) (v_text:Str) (v_more:Str) (v_sub:Int) (v_bytes:List UInt8) (v_kids:List Fld) (p:List Int) (hp:((decide (Fld.bulk (Fld.of [] (Val.mk v_kind v_bits v_high v_low v_text v_more v_sub v_bytes v_kids))+(p).length≤1048576))&&decide ((Fld.bulk (Fld.of [] (Val.mk v_kind v_bits v_high v_low v_text v_more v_sub v_bytes v_kids)))<n+1))=true):([.ag [.i .i64 v_kind,.u64 v_bits,.u64 v_high,.u64 v_low,.s v_text,.s v_more,.i .i64 v_sub,.sl .bs v_bytes,.sl .fl v_kids],.sl .is p]:List TV).length=ref17_all.d.np∧ref17_all.d.run (envL noGl (ref17_all.env n)) [.ag [.i .i64 v_kind,.u64 v_bits,.u64 v_high,.u64 v_low,.s v_text,.s v_more,.i .i64 v_sub,.sl .bs v_bytes,.sl .fl v_kids],.sl .is p]=some (([(.sl .iss (Tree.paths (Fld.of [] (Val.mk v_kind v_bits v_high v_low v_text v_more v_sub v_bytes v_kids)) p))]:List TV)++ref17_all.d.ps.toList.map fun q=>([.ag [.i .i64 v_kind,.u64 v_bits,.u64 v_high,.u64 v_low,.s v_text,.s v_more,.i .i64 v_sub,.sl .bs v_bytes,.sl .fl v_kids],.sl .is p]:List TV).getD q.1 .dead) :=
 ⟨by kernel_rfl,Eq.trans (b:=ref17_all.F n (Val.mk v_kind v_bits v_high v_low v_text v_more v_sub v_bytes v_kids) p) (by kernel_rfl) (Eq.trans (ref17_all.goal n (Val.mk v_kind v_bits v_high v_low v_text v_more v_sub v_bytes v_kids) p hp) (by kernel_rfl))⟩
theorem rall.oks:∀n:Nat,(SpecOK Go.Proofs.Try.prog (fun n=>(noGl n).av) 25 (Ctr.fs (ref17_all.cn n,ref17_all.sg))):=by
 intro n
 induction n with
 | zero=>exact spec_zero (by
   intro ti to_ h
   unfold ref17_all.cn at h
   split at h
   ·obtain ⟨h,_⟩:=h;simp at h
   ·exact h.elim)
 | succ n ih =>
  have ih0:=ih
  exact meets (l:=ref17_all.env n) (all_cons ih0 (all_cons ref17_longer.ok all_nil)) (ref17_all.chk n) (by
   intro ins outs h
   unfold ref17_all.cn at h
   split at h
   ·obtain ⟨hp,rfl⟩:=h;exact ref17_all.fit n _ _ _ _ _ _ _ _ _ _ hp
   ·exact h.elim)
theorem ref17_all.ok:SpecOK Go.Proofs.Try.prog (fun n=>(noGl n).av) 25 (Ctr.fs (ref17_all.c,ref17_all.sg)):=spec_sub fun ti to_ h=>by
 unfold ref17_all.c at h
 split at h
 ·obtain ⟨hp,rfl⟩:=h;exact ⟨ref17_all.cn (_+1),(rall.oks _),Bool.and_eq_true_iff.2 ⟨hp,decide_eq_true (Nat.lt_succ_self _)⟩,rfl⟩
 ·exact h.elim
theorem ref17_All.fit (v_kind:Int) (v_bits:UInt64) (v_high:UInt64) (v_low:UInt64) (v_text:Str) (v_more:Str) (v_sub:Int) (v_bytes:List UInt8) (v_kids:List Fld) (hp:(decide (Fld.bulk (Fld.of [] (Val.mk v_kind v_bits v_high v_low v_text v_more v_sub v_bytes v_kids))≤1000000))=true):([.ag [.i .i64 v_kind,.u64 v_bits,.u64 v_high,.u64 v_low,.s v_text,.s v_more,.i .i64 v_sub,.sl .bs v_bytes,.sl .fl v_kids]]:List TV).length=ref17_All.d.np∧ref17_All.d.run (envL noGl ref17_All.env) [.ag [.i .i64 v_kind,.u64 v_bits,.u64 v_high,.u64 v_low,.s v_text,.s v_more,.i .i64 v_sub,.sl .bs v_bytes,.sl .fl v_kids]]=some (([(.sl .iss (Tree.paths (Fld.of [] (Val.mk v_kind v_bits v_high v_low v_text v_more v_sub v_bytes v_kids)) []))]:List TV)++ref17_All.d.ps.toList.map fun q=>([.ag [.i .i64 v_kind,.u64 v_bits,.u64 v_high,.u64 v_low,.s v_text,.s v_more,.i .i64 v_sub,.sl .bs v_bytes,.sl .fl v_kids]]:List TV).getD q.1 .dead) :=
 ⟨by kernel_rfl,Eq.trans (b:=ref17_All.F (Val.mk v_kind v_bits v_high v_low v_text v_more v_sub v_bytes v_kids)) (by kernel_rfl) (Eq.trans (ref17_All.goal (Val.mk v_kind v_bits v_high v_low v_text v_more v_sub v_bytes v_kids) hp) (by kernel_rfl))⟩
theorem ref17_All.ok:SpecOK Go.Proofs.Try.prog (fun n=>(noGl n).av) 12 (Ctr.fs (ref17_All.c,ref17_All.sg)) :=
 meets (l:=ref17_All.env) (all_cons ref17_all.ok all_nil) ref17_All.chk (by
   intro ins outs h
   unfold ref17_All.c at h
   split at h
   ·obtain ⟨hp,rfl⟩:=h;exact ref17_All.fit _ _ _ _ _ _ _ _ _ hp
   ·exact h.elim)
theorem book_Small.fit (v_kind:Int) (v_bits:UInt64) (v_high:UInt64) (v_low:UInt64) (v_text:Str) (v_more:Str) (v_sub:Int) (v_bytes:List UInt8) (v_kids:List Fld):([.ag [.i .i64 v_kind,.u64 v_bits,.u64 v_high,.u64 v_low,.s v_text,.s v_more,.i .i64 v_sub,.sl .bs v_bytes,.sl .fl v_kids]]:List TV).length=book_Small.d.np∧book_Small.d.run (envL noGl book_Small.env) [.ag [.i .i64 v_kind,.u64 v_bits,.u64 v_high,.u64 v_low,.s v_text,.s v_more,.i .i64 v_sub,.sl .bs v_bytes,.sl .fl v_kids]]=some (([(.b (decide (0≤Book.value 1200 (Fld.of [] (Val.mk v_kind v_bits v_high v_low v_text v_more v_sub v_bytes v_kids)))))]:List TV)++book_Small.d.ps.toList.map fun q=>([.ag [.i .i64 v_kind,.u64 v_bits,.u64 v_high,.u64 v_low,.s v_text,.s v_more,.i .i64 v_sub,.sl .bs v_bytes,.sl .fl v_kids]]:List TV).getD q.1 .dead) :=
 ⟨by kernel_rfl,Eq.trans (b:=book_Small.F (Val.mk v_kind v_bits v_high v_low v_text v_more v_sub v_bytes v_kids)) (by kernel_rfl) (Eq.trans (book_Small.goal (Val.mk v_kind v_bits v_high v_low v_text v_more v_sub v_bytes v_kids)) (by kernel_rfl))⟩
theorem book_Small.ok:SpecOK Go.Proofs.Try.prog (fun n=>(noGl n).av) 8 (Ctr.fs (book_Small.c,book_Small.sg)) :=
 meets (l:=book_Small.env) (all_cons book_Value.ok all_nil) book_Small.chk (by
   intro ins outs h
   unfold book_Small.c at h
   split at h
   ·cases h;exact book_Small.fit _ _ _ _ _ _ _ _ _
   ·exact h.elim)
theorem law17_awake.fit:([]:List TV).length=law17_awake.d.np∧law17_awake.d.run (envL noGl law17_awake.env) []=some (([(.b (true))]:List TV)++law17_awake.d.ps.toList.map fun q=>([]:List TV).getD q.1 .dead) :=
 ⟨by kernel_rfl,Eq.trans (b:=law17_awake.F ) (by kernel_rfl) (Eq.trans (law17_awake.goal ) (by kernel_rfl))⟩
theorem law17_awake.ok:SpecOK Go.Proofs.Try.prog (fun n=>(noGl n).av) 7 (Ctr.fs (law17_awake.c,law17_awake.sg)) :=
 meets (l:=law17_awake.env) (all_cons tree_Check.ok (all_cons ref1_SameInts.ok (all_cons tree_Depth.ok all_nil))) law17_awake.chk (by
   intro ins outs h
   unfold law17_awake.c at h
   split at h
   ·cases h;exact law17_awake.fit
   ·exact h.elim)
theorem TreeSpoilt.fit (v_kind:Int) (v_bits:UInt64) (v_high:UInt64) (v_low:UInt64) (v_text:Str) (v_more:Str) (v_sub:Int) (v_bytes:List UInt8) (v_kids:List Fld) (k:Int):([.ag [.i .i64 v_kind,.u64 v_bits,.u64 v_high,.u64 v_low,.s v_text,.s v_more,.i .i64 v_sub,.sl .bs v_bytes,.sl .fl v_kids],.i .i64 k]:List TV).length=TreeSpoilt.d.np∧TreeSpoilt.d.run (envL noGl TreeSpoilt.env) [.ag [.i .i64 v_kind,.u64 v_bits,.u64 v_high,.u64 v_low,.s v_text,.s v_more,.i .i64 v_sub,.sl .bs v_bytes,.sl .fl v_kids],.i .i64 k]=some (([(.b (true))]:List TV)++TreeSpoilt.d.ps.toList.map fun q=>([.ag [.i .i64 v_kind,.u64 v_bits,.u64 v_high,.u64 v_low,.s v_text,.s v_more,.i .i64 v_sub,.sl .bs v_bytes,.sl .fl v_kids],.i .i64 k]:List TV).getD q.1 .dead) :=
 ⟨by kernel_rfl,Eq.trans (b:=TreeSpoilt.F (Val.mk v_kind v_bits v_high v_low v_text v_more v_sub v_bytes v_kids) k) (by kernel_rfl) (Eq.trans (TreeSpoilt.goal (Val.mk v_kind v_bits v_high v_low v_text v_more v_sub v_bytes v_kids) k) (by kernel_rfl))⟩
theorem TreeSpoilt.ok:SpecOK Go.Proofs.Try.prog (fun n=>(noGl n).av) 4 (Ctr.fs (TreeSpoilt.c,TreeSpoilt.sg)) :=
 meets (l:=TreeSpoilt.env) (all_cons law17_awake.ok (all_cons book_Small.ok (all_cons tree_Check.ok (all_cons ref17_Check.ok (all_cons ref1_SameInts.ok (all_cons ref17_All.ok (all_cons book_Place.ok (all_cons book_With.ok all_nil)))))))) TreeSpoilt.chk (by
   intro ins outs h
   unfold TreeSpoilt.c at h
   split at h
   ·cases h;exact TreeSpoilt.fit _ _ _ _ _ _ _ _ _ _
   ·exact h.elim)
end Go.Eng
