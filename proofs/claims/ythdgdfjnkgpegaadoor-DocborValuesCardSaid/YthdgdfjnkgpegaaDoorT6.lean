/- Texts of my own, one behind the other: DbUtfP, DbT1, DbT2, DbT3, DbT4, DbRegP, DbBookP, DbMpA, DbP1, DbP2, DbP3, DbP4, DbP5, DbP6, DbP7, DbP8, DbP9, DbP, DbOK, DbR1, DbLValues, DbQValues, DbOKValues. -/
import Derived.Test.YthdgdfjnkgpegaaDoorT5
set_option linter.unusedVariables false
set_option linter.unusedSimpArgs false
namespace Go.Eng
open Go.IntWalk
theorem utf_is.goal (r:Int):utf_is.F r=some [.b (Utf.isRune r)]:=by
 refine utf_is.F_in r ?_
 intro v1 h1 v2 h2 v3 h3
 subst h1 h2 h3
 by_cases a:0≤r <;> by_cases b:r≤1114111 <;> by_cases c:r<55296 <;> simp [ck,a,b,c,Utf.isRune]
theorem and192:∀n,n<256→((n &&& 192=128) ↔ (128≤n∧n<192)):=by decide +kernel
theorem and63:∀n,n<256→(128≤n∧n<192)→n &&& 63=n - 128:=by decide +kernel
theorem and31:∀n,n<256→(192≤n∧n<224)→n &&& 31=n - 192:=by decide +kernel
theorem and15:∀n,n<256→(224≤n∧n<240)→n &&& 15=n - 224:=by decide +kernel
theorem and7:∀n,n<256→(240≤n∧n<248)→n &&& 7=n - 240:=by decide +kernel
theorem u8lt (c:UInt8):c.toNat<256:=by have:=c.toNat_lt;simpa using this
theorem cont_byte (c:UInt8):decide ((c &&& (192:UInt8))=(128:UInt8))=decide (128≤c.toNat∧c.toNat<192):=by
 have h:=and192 c.toNat (u8lt c)
 rw [Bool.eq_iff_iff]
 simp only [decide_eq_true_eq]
 rw [←h,←UInt8.toNat_inj,UInt8.toNat_and]
 exact Iff.rfl
theorem low6 (c:UInt8) (h:128≤c.toNat∧c.toNat<192):((c &&& (63:UInt8)).toNat:Int)=((c.toNat - 128:Nat):Int):=by
 rw [UInt8.toNat_and]
 exact congrArg _ (and63 c.toNat (u8lt c) h)
def mres (r:Option Nat) (more least:Nat):Option (List TV):=match r with
 | some r=>if r<least∨Utf.isRune r=false then some [.i .i64 0,.i .i64 0] else some [.i .i64 r,.i .i64 (more+1:Int)]
 | none=>some [.i .i64 0,.i .i64 0]
theorem mres_eq (c:Nat) (more least:Nat) (l:Str):mres (Utf.cont c more l) more least=some [.i .i64 (Utf.multi c more least l).1,.i .i64 (Utf.multi c more least l).2]:=by
 unfold mres Utf.multi
 cases Utf.cont c more l with
 | none=>rfl
 | some r=>simp only;split <;> rfl
theorem utf_Rune.end_ (r:Nat) (more least:Nat) (hm:more<8) :
  (ck (!(!(decide ((r:Int)<(least:Int)))) || (!(decide ((r:Int)<(least:Int))))) (ck (!(!(decide ((r:Int)<(least:Int)))) || (!(decide ((r:Int)<(least:Int))))) (ck ((decide ((r:Int)<(least:Int))) || (!(decide ((r:Int)<(least:Int))))) (cond (cond (decide ((r:Int)<(least:Int))) true (!(Utf.isRune r)))
  (utf_Rune.l1)
  (some [(.i .i64 (r:Int)),(.i .i64 (IntKind.i64.wrap ((more:Int)+(1:Int))))])))))=mres (some r) more least:=by
 simp only [Bool.not_or_self,Bool.or_not_self,ck_true]
 rw [i64_in _ (by omega),utf_Rune.l1_eq]
 unfold mres
 by_cases h:r<least
 ·simp [h]
 ·simp only [show ¬((r:Int)<(least:Int)) by omega,decide_false,cond_false,h,false_or]
  cases Utf.isRune r <;> simp
theorem utf_Rune.l3_ok (b : Str) (at_ : Nat) (more least : Nat) (hm : more < 8) (hb : b.length ≤ 1099511627776) (hlt : at_ + more < b.length) : ∀ (k i r : Nat), i + k = more + 1 → r < 2 ^ (10 + 6 * i) →
    utf_Rune.l3 b at_ r more least i = mres (Utf.cont r k (b.drop (at_ + i))) more least := by
  intro k
  induction k with
  | zero =>
    intro i r hi hr
    refine utf_Rune.l3_in _ _ _ _ _ _ ?_
    intro v1 h1 v2 h2 v3 h3 v4 h4 v5 h5 v6 h6 v7 h7
    rw [show decide ((i : Int) ≤ (more : Int)) = false by simp; omega, cond_false]
    subst h6 h7
    rw [Utf.cont]
    exact utf_Rune.end_ r more least hm
  | succ k ih =>
    intro i r hi hr
    refine utf_Rune.l3_in _ _ _ _ _ _ ?_
    intro v1 h1 v2 h2 v3 h3 v4 h4 v5 h5 v6 h6 v7 h7
    have hw : IntKind.i64.wrap ((at_ : Int) + (i : Int)) = ((at_ + i : Nat) : Int) := by rw [i64_in _ (by omega)]; omega
    have hdr := drop_cons (l := b) (i := at_ + i) (by omega) 0
    rw [show decide ((i : Int) ≤ (more : Int)) = true by simp; omega, cond_true, hw]
    rw [hw, Int.toNat_natCast] at h1
    rw [ck_of (idx_ok (by omega) (by omega)), hdr, ← h1, Utf.cont, h2, cont_byte]
    by_cases hc : 128 ≤ v1.toNat ∧ v1.toNat < 192
    · rw [if_pos hc, decide_eq_true hc]
      simp only [Bool.not_true, cond_false]
      rw [ck_of (idx_ok (by omega) (by omega))]
      have hp : 2 ^ (10 + 6 * i) * 64 = 2 ^ (10 + 6 * (i + 1)) := by rw [show 10 + 6 * (i + 1) = (10 + 6 * i) + 6 by omega, Nat.pow_add 2 (10 + 6 * i) 6]
      have hp2 : 2 ^ (10 + 6 * (i + 1)) ≤ 2 ^ 58 := Nat.pow_le_pow_right (by omega) (by omega)
      have hr64 : r * 64 + 64 ≤ 2 ^ (10 + 6 * (i + 1)) := by
        rw [← hp]; have := Nat.mul_le_mul_right 64 (Nat.succ_le_of_lt hr); omega
      have e3 : v3 = ((r * 64 : Nat) : Int) := by
        rw [h3]
        have : (min (((6 : UInt64)).toNat) (IntKind.i64.bits)) = 6 := by decide
        rw [this, i64_in _ (by simp at hp2; omega)]; simp
      have e4 : v4 = ((v1.toNat - 128 : Nat) : Int) := by
        rw [h4, low6 v1 hc]; exact i64_in _ (by omega)
      have e5 : v5 = ((i + 1 : Nat) : Int) := by rw [h5, i64_in _ (by omega)]; omega
      have e6 : intBitsV .or .i64 v3 v4 = ((r * 64 + (v1.toNat - 128) : Nat) : Int) := by
        rw [e3, e4, or_i64 _ _ (by simp at hp2; omega) (by omega)]
        have := or_add (a := r) (b := v1.toNat - 128) (k := 6) (by simp; omega)
        simp at this
        rw [this]
      rw [e6, e5, ih (i + 1) _ (by omega) (by omega), Nat.add_assoc]
    · rw [if_neg hc, decide_eq_false hc]
      simp only [Bool.not_false, cond_true]
      rw [utf_Rune.l1_eq]; rfl
theorem utf_Rune.j2_ok (b : Str) (at_ : Nat) (r more least : Nat) (hm : 1 ≤ more ∧ more < 8) (hb : b.length ≤ 1099511627776) (hlt : at_ < b.length) (hr : r < 1024) :
    utf_Rune.j2 b at_ r more least = mres (Utf.cont r more (b.drop (at_ + 1))) more least := by
  have hcn : ∀ (k r : Nat) (l : Str), l.length < k → Utf.cont r k l = none := by
    intro k
    induction k with
    | zero => intro r l h; omega
    | succ k ih =>
      intro r l h
      cases l with
      | nil => rfl
      | cons c l => rw [Utf.cont]; split
                    · exact ih _ _ (by simp at h; omega)
                    · rfl
  have key := fun (h : at_ + more < b.length) => utf_Rune.l3_ok b at_ more least hm.2 hb h more 1 r (by omega) (by simp; omega)
  by_cases hx : at_ + more < b.length
  · rw [← key hx]
    refine utf_Rune.j2_in _ _ _ _ _ ?_
    intro v1 h1 v2 h2 v3 h3 v4 h4 v5 h5 v6 h6 v7 h7 v8 h8 v9 h9 v10 h10
    symm
    refine utf_Rune.l3_in _ _ _ _ _ _ ?_
    intro w1 k1 w2 k2 w3 k3 w4 k4 w5 k5 w6 k6 w7 k7
    have e1 : v1 = (b.length : Int) - at_ := by rw [h1]; exact i64_in _ (by omega)
    have e2 : v2 = (b.length : Int) - at_ - 1 := by rw [h2, e1]; exact i64_in _ (by omega)
    rw [show decide (v2 < (more : Int)) = false by simp; omega, cond_false]
    have a1 : ((1 : Nat) : Int) = 1 := rfl
    simp only [a1] at k1 k2 k3 k4 k5 k6 k7 ⊢
    subst h3; subst h4; subst h5; subst h6; subst h7; subst h8; subst h9; subst h10; subst k1; subst k2; subst k3; subst k4; subst k5; subst k6; subst k7
    rfl
  · refine utf_Rune.j2_in _ _ _ _ _ ?_
    intro v1 h1 v2 h2 v3 h3 v4 h4 v5 h5 v6 h6 v7 h7 v8 h8 v9 h9 v10 h10
    have e1 : v1 = (b.length : Int) - at_ := by rw [h1]; exact i64_in _ (by omega)
    have e2 : v2 = (b.length : Int) - at_ - 1 := by rw [h2, e1]; exact i64_in _ (by omega)
    rw [show decide (v2 < (more : Int)) = true by simp; omega, cond_true, utf_Rune.l1_eq, hcn _ _ _ (by simp; omega)]
    rfl
theorem rng (lo hi n:Nat):(cond (decide ((lo:Int)≤(n:Int))) (decide ((n:Int)<(hi:Int))) false)=decide (lo≤n∧n<hi):=by
 by_cases a:lo≤n
 ·rw [show decide ((lo:Int)≤(n:Int))=true by simp;omega,cond_true,Bool.eq_iff_iff];simp;omega
 ·rw [show decide ((lo:Int)≤(n:Int))=false by simp;omega,cond_false,decide_eq_false (by omega)]
theorem utf_Rune.goal (b:Str) (at_:Int) (hp:decide (b.length≤1099511627776)=true):utf_Rune.F b at_=some [.i .i64 (Utf.runeAt b at_).1,.i .i64 (Utf.runeAt b at_).2]:=by
 have hb:b.length≤1099511627776:=of_decide_eq_true hp
 refine utf_Rune.F_in b at_ ?_
 intro v1 h1 v2 h2 v3 h3 v4 h4 v5 h5 v6 h6 v7 h7 v8 h8 v9 h9
 unfold Utf.runeAt
 by_cases h0:at_<0
 ·subst h1
  simp [h0,ck,utf_Rune.l1_eq]
 ·have hd0:decide (at_<0)=false:=decide_eq_false h0
  obtain ⟨i,rfl⟩:=Int.eq_ofNat_of_zero_le (show 0≤at_ by omega)
  rw [hd0] at h1 ⊢
  subst h1
  simp only [Bool.not_false,Bool.not_true,Bool.false_or,Bool.or_true,ck_true,cond_false,Int.toNat_natCast] at h2 ⊢
  by_cases hl:b.length≤i
  ·rw [show decide ((b.length:Int)≤(i:Int))=true by simp;omega,if_pos (.inr (by omega)),cond_true,utf_Rune.l1_eq];rfl
  ·rw [show decide ((b.length:Int)≤(i:Int))=false by simp;omega,if_neg (by omega),cond_false,ck_of (idx_ok (by omega) (by omega)),drop_cons (l:=b) (i:=i) (by omega) 0,←h2,Utf.rune]
   have hc:=u8lt v2
   have e3:v3=(v2.toNat:Int):=by rw [h3];exact i64_in _ (by omega)
   have an:∀(m:Nat),m<256→intBitsV .and .i64 v3 m=((v2.toNat &&& m:Nat):Int):=fun m h=>by rw [e3,and_i64 _ _ (by omega) (by omega)]
   have an1:v5=((v2.toNat &&& 31:Nat):Int):=h5.trans (an 31 (by omega))
   have an2:v7=((v2.toNat &&& 15:Nat):Int):=h7.trans (an 15 (by omega))
   have an3:v9=((v2.toNat &&& 7:Nat):Int):=h9.trans (an 7 (by omega))
   have e4:v4=decide (192≤v2.toNat∧v2.toNat<224):=by rw [h4,e3];exact rng 192 224 _
   have e6:v6=decide (224≤v2.toNat∧v2.toNat<240):=by rw [h6,e3];exact rng 224 240 _
   have e8:v8=decide (240≤v2.toNat∧v2.toNat<248):=by rw [h8,e3];exact rng 240 248 _
   have J:∀(r more least:Nat),1≤more∧more<8→r<1024→utf_Rune.j2 b i r more least=some [.i .i64 (Utf.multi r more least (b.drop (i+1))).1,.i .i64 (Utf.multi r more least (b.drop (i+1))).2]:=fun r more least h1 h2 =>
    (utf_Rune.j2_ok b i r more least h1 hb (by omega) h2).trans (mres_eq _ _ _ _)
   simp only [Bool.not_or_self,ck_true]
   by_cases c1:v2.toNat<128
   ·rw [if_pos c1,e3,show decide ((v2.toNat:Int)<128)=true by simp;omega,cond_true];rfl
   ·rw [if_neg c1,show decide (v3<(128:Int))=false by rw [e3];simp;omega,cond_false,e4]
    by_cases c2:192≤v2.toNat∧v2.toNat<224
    ·rw [if_pos c2,decide_eq_true c2,cond_true,an1,and31 _ hc c2];exact J _ 1 128 (by omega) (by omega)
    ·rw [if_neg c2,decide_eq_false c2,cond_false,e6]
     by_cases c3:224≤v2.toNat∧v2.toNat<240
     ·rw [if_pos c3,decide_eq_true c3,cond_true,an2,and15 _ hc c3];exact J _ 2 2048 (by omega) (by omega)
     ·rw [if_neg c3,decide_eq_false c3,cond_false,e8]
      by_cases c4:240≤v2.toNat∧v2.toNat<248
      ·rw [if_pos c4,decide_eq_true c4,cond_true,an3,and7 _ hc c4];exact J _ 3 65536 (by omega) (by omega)
      ·rw [if_neg c4,decide_eq_false c4,cond_false,utf_Rune.l1_eq];rfl
theorem Utf.rune_size (l : Str) : 0 ≤ (Utf.rune l).2 ∧ (Utf.rune l).2 ≤ l.length := by
  have hcl : ∀ (k r q : Nat) (l : Str), Utf.cont r k l = some q → k ≤ l.length := by
    intro k
    induction k with
    | zero => intro r q l _; omega
    | succ k ih =>
      intro r q l h
      cases l with
      | nil => cases h
      | cons c l =>
        rw [Utf.cont] at h
        split at h
        · have := ih _ _ _ h; simp; omega
        · cases h
  have hmu : ∀ (r more least : Nat) (l : Str), 0 ≤ (Utf.multi r more least l).2 ∧ (Utf.multi r more least l).2 ≤ l.length + 1 := by
    intro r more least l
    unfold Utf.multi
    cases h : Utf.cont r more l with
    | none => simp; omega
    | some q =>
      have := hcl _ _ _ _ h
      simp only
      split <;> simp <;> omega
  cases l with
  | nil => exact ⟨by decide, by decide⟩
  | cons c l =>
    unfold Utf.rune
    simp only [List.length_cons]
    split
    · simp; omega
    · split
      · have := hmu (c.toNat - 192) 1 128 l; omega
      · split
        · have := hmu (c.toNat - 224) 2 2048 l; omega
        · split
          · have := hmu (c.toNat - 240) 3 65536 l; omega
          · simp; omega
theorem Utf.lookN_ge (l : Str) : ∀ n, l.length ≤ n → Utf.lookN n l = Utf.lookN l.length l := by
  have key : ∀ (m : Nat) (l : Str), l.length ≤ m → ∀ n, l.length ≤ n → Utf.lookN n l = Utf.lookN l.length l := by
    intro m
    induction m with
    | zero =>
      intro l hl n hn
      have : l = [] := List.length_eq_zero_iff.1 (by omega)
      subst this
      cases n with
      | zero => rfl
      | succ n => rfl
    | succ m ih =>
      intro l hl n hn
      cases h : l.length with
      | zero =>
        have : l = [] := List.length_eq_zero_iff.1 h
        subst this
        cases n <;> rfl
      | succ k =>
        cases n with
        | zero => omega
        | succ n =>
          unfold Utf.lookN
          have hs := Utf.rune_size l
          by_cases h0 : (Utf.rune l).2 = 0
          · rw [if_pos h0, if_pos h0]
          · rw [if_neg h0, if_neg h0]
            have hd : (l.drop (Utf.rune l).2.toNat).length ≤ k := by simp; omega
            rw [ih _ (by simp; omega) n (by simp; omega), ih _ (by simp; omega) k hd]
  exact fun n hn => key _ l (Nat.le_refl _) n hn
theorem Utf.look_step (l : Str) (h : (Utf.rune l).2 ≠ 0) : Utf.look l = ((Utf.look (l.drop (Utf.rune l).2.toNat)).1 + (Utf.rune l).2.toNat, (Utf.look (l.drop (Utf.rune l).2.toNat)).2 + 1) := by
  have hs := Utf.rune_size l
  unfold Utf.look
  cases hl : l.length with
  | zero => omega
  | succ k =>
    rw [Utf.lookN, if_neg h]
    simp only
    rw [Utf.lookN_ge _ k (by simp; omega)]
theorem Utf.look_none (l:Str) (h:(Utf.rune l).2=0):Utf.look l=(0,0):=by
 unfold Utf.look
 cases l.length with
 | zero=>rfl
 | succ k=>rw [Utf.lookN,if_pos h]
theorem Utf.runeAt_nat (b:Str) (i:Nat) (h:i<b.length):Utf.runeAt b i=Utf.rune (b.drop i):=by
 unfold Utf.runeAt;rw [if_neg (by omega),Int.toNat_natCast]
theorem utf_look.l1_ok (b : Str) (hb : b.length ≤ 1099511627776) : ∀ (m i k : Nat), b.length - i ≤ m → i ≤ b.length → k ≤ i →
    utf_look.l1 b i k = some [.i .i64 ((i + (Utf.look (b.drop i)).1 : Nat) : Int), .i .i64 ((k + (Utf.look (b.drop i)).2 : Nat) : Int)] := by
  intro m
  induction m with
  | zero =>
    intro i k hm hi hk
    refine utf_look.l1_in _ _ _ ?_
    intro v1 h1 v2 h2
    rw [show decide ((i : Int) < (b.length : Int)) = false by simp; omega, cond_false, utf_look.j2_eq, List.drop_of_length_le (by omega)]
    rfl
  | succ m ih =>
    intro i k hm hi hk
    by_cases hlt : i < b.length
    · refine utf_look.l1_in _ _ _ ?_
      intro v1 h1 v2 h2
      rw [Utf.runeAt_nat b i hlt] at h1 ⊢
      have hs := Utf.rune_size (b.drop i)
      rw [List.length_drop] at hs
      rw [show decide ((i : Int) < (b.length : Int)) = true by simp; omega, cond_true, ck_of (decide_eq_true hb)]
      by_cases h0 : (Utf.rune (b.drop i)).2 = 0
      · rw [decide_eq_true h0, cond_true, utf_look.j2_eq, Utf.look_none _ h0]; rfl
      · rw [decide_eq_false h0, cond_false, Utf.look_step _ h0]
        have e1 : v1 = ((i + (Utf.rune (b.drop i)).2.toNat : Nat) : Int) := by rw [h1, i64_in _ (by omega)]; omega
        have e2 : v2 = ((k + 1 : Nat) : Int) := by rw [h2, i64_in _ (by omega)]; omega
        rw [e1, e2, ih _ _ (by omega) (by omega) (by omega), List.drop_drop]
        simp only [Option.some.injEq, List.cons.injEq, TV.i.injEq, true_and, and_true]
        exact ⟨by omega, by omega⟩
    · refine utf_look.l1_in _ _ _ ?_
      intro v1 h1 v2 h2
      rw [show decide ((i : Int) < (b.length : Int)) = false by simp; omega, cond_false, utf_look.j2_eq, List.drop_of_length_le (by omega)]
      rfl
theorem utf_look.goal (b:Str) (hp:decide (b.length≤1099511627776)=true):utf_look.F b=some [.i .i64 ((Utf.look b).1:Int),.i .i64 ((Utf.look b).2:Int)]:=by
 rw [utf_look.F_eq]
 have:=utf_look.l1_ok b (of_decide_eq_true hp) b.length 0 0 (by omega) (by omega) (by omega)
 simpa using this
theorem utf_Check.goal (b:Str) (hp:decide (b.length≤1099511627776)=true):utf_Check.F b=some [.i .i64 ((Utf.look b).1:Int),.b (Utf.whole b)]:=by
 have e:decide (((Utf.look b).1:Int)=(b.length:Int))=Utf.whole b:=by unfold Utf.whole;rw [Bool.eq_iff_iff];simp;omega
 rw [utf_Check.F_eq,ck_of hp,e]
theorem ref2_Rune.end_ (r:Nat) (more least:Nat) {v7 v9:Bool} (h7:v7=(cond (decide ((r:Int)<(least:Int))) true (decide ((1114111:Int)<(r:Int))))) (h9:v9=(cond (decide ((55296:Int)≤(r:Int))) (decide ((r:Int)≤(57343:Int))) false)) :
  cond (cond v7 true v9)
  (some [(.i .i64 (0:Int)),(.i .i64 (0:Int))])
  (some [(.i .i64 (r:Int)),(.i .i64 ((more+1:Nat):Int))])=mres (some r) more least:=by
 have e:cond v7 true v9=decide (r<least∨Utf.isRune r=false):=by
  subst h7 h9
  unfold Utf.isRune
  rw [Bool.eq_iff_iff]
  by_cases a:r<least
  ·simp [a]
  ·by_cases b:1114111<r
   ·simp [a,show (1114111:Int)<(r:Int) by omega] <;> omega
   ·by_cases c:55296≤r
    ·simp [a,show ¬(1114111:Int)<(r:Int) by omega,show (55296:Int)≤(r:Int) by omega] <;> omega
    ·simp [a,show ¬(1114111:Int)<(r:Int) by omega,show ¬(55296:Int)≤(r:Int) by omega] <;> omega
 rw [e]
 unfold mres
 by_cases h:r<least∨Utf.isRune r=false
 ·rw [decide_eq_true h];simp only [h,if_true,cond_true]
 ·rw [decide_eq_false h];simp only [h,if_false,cond_false];rfl
theorem ck6 (a b c:Bool) (hc:c=(!a&&b)):(!(!a) || ((!a)&&(!b || c)))=true:=by subst hc;cases a <;> cases b <;> rfl
theorem ref2_Rune.l2_ok (b : Str) (at_ : Nat) (more least : Nat) (hm : more < 8) (hb : b.length ≤ 1099511627776) (hlt : at_ + more < b.length) : ∀ (k i r : Nat), i + k = more + 1 → r < 2 ^ (10 + 6 * i) →
    ref2_Rune.l2 b at_ ((more + 1 : Nat) : Int) r least i = mres (Utf.cont r k (b.drop (at_ + i))) more least := by
  intro k
  induction k with
  | zero =>
    intro i r hi hr
    refine ref2_Rune.l2_in _ _ _ _ _ _ ?_
    intro v1 h1 v2 h2 v3 h3 v4 h4 v5 h5 v6 h6 v7 h7 v8 h8 v9 h9
    rw [show decide ((i : Int) < ((more + 1 : Nat) : Int)) = false by simp; omega, cond_false]
    simp only [Bool.not_or_self, Bool.or_not_self, ck_true]
    rw [ck_of (ck6 _ _ _ h8), Utf.cont]
    exact ref2_Rune.end_ r more least h7 h9
  | succ k ih =>
    intro i r hi hr
    refine ref2_Rune.l2_in _ _ _ _ _ _ ?_
    intro v1 h1 v2 h2 v3 h3 v4 h4 v5 h5 v6 h6 v7 h7 v8 h8 v9 h9
    have hw : IntKind.i64.wrap ((at_ : Int) + (i : Int)) = ((at_ + i : Nat) : Int) := by rw [i64_in _ (by omega)]; omega
    have hdr := drop_cons (l := b) (i := at_ + i) (by omega) 0
    have hu := u8lt v1
    rw [show decide ((i : Int) < ((more + 1 : Nat) : Int)) = true by simp; omega, cond_true, hw]
    rw [hw, Int.toNat_natCast] at h1
    have e2 : v2 = (v1.toNat : Int) := by rw [h2]; exact i64_in _ (by omega)
    have e3 : v3 = !decide (128 ≤ v1.toNat ∧ v1.toNat < 192) := by
      rw [h3, e2, Bool.eq_iff_iff]
      by_cases a : v1.toNat < 128
      · simp [a]; omega
      · simp [show ¬ (v1.toNat : Int) < 128 by omega]; omega
    simp only [Bool.not_or_self, Bool.or_not_self, ck_true]
    rw [ck_of (idx_ok (by omega) (by omega)), hdr, ← h1, Utf.cont, e3]
    by_cases hc : 128 ≤ v1.toNat ∧ v1.toNat < 192
    · rw [if_pos hc, decide_eq_true hc]
      simp only [Bool.not_true, cond_false]
      have hp : 2 ^ (10 + 6 * i) * 64 = 2 ^ (10 + 6 * (i + 1)) := by rw [show 10 + 6 * (i + 1) = (10 + 6 * i) + 6 by omega, Nat.pow_add 2 (10 + 6 * i) 6]
      have hp2 : 2 ^ (10 + 6 * (i + 1)) ≤ 2 ^ 58 := Nat.pow_le_pow_right (by omega) (by omega)
      have hr64 : r * 64 + 64 ≤ 2 ^ (10 + 6 * (i + 1)) := by
        rw [← hp]; have := Nat.mul_le_mul_right 64 (Nat.succ_le_of_lt hr); omega
      simp at hp2
      have e4 : v4 = ((r * 64 : Nat) : Int) := by rw [h4, i64_in _ (by omega)]; simp
      have e5 : v5 = ((r * 64 + (v1.toNat - 128) : Nat) : Int) := by
        rw [h5, e4, e2, i64_in (((r * 64 : Nat) : Int) + (v1.toNat : Int)) (by omega), i64_in _ (by omega)]; omega
      have e6 : v6 = ((i + 1 : Nat) : Int) := by rw [h6, i64_in _ (by omega)]; omega
      rw [e5, e6, ih (i + 1) _ (by omega) (by omega), Nat.add_assoc]
    · rw [if_neg hc, decide_eq_false hc]
      simp only [Bool.not_false, cond_true]
      rfl
theorem Utf.cont_short : ∀ (k r : Nat) (l : Str), l.length < k → Utf.cont r k l = none := by
  intro k
  induction k with
  | zero => intro r l h; omega
  | succ k ih =>
    intro r l h
    cases l with
    | nil => rfl
    | cons c l =>
      rw [Utf.cont]
      split
      · exact ih _ _ (by simp at h; omega)
      · rfl
theorem ref2_Rune.j1_ok (b:Str) (at_:Nat) (r more least:Nat) (hm:1≤more∧more<8) (hb:b.length≤1099511627776) (hlt:at_<b.length) (hr:r<1024) :
  ref2_Rune.j1 b at_ ((more+1:Nat):Int) r least=mres (Utf.cont r more (b.drop (at_+1))) more least:=by
 refine ref2_Rune.j1_in _ _ _ _ _ ?_
 intro v1 h1
 have e1:v1=(b.length:Int) - at_:=by rw [h1];exact i64_in _ (by omega)
 by_cases hx:at_+more<b.length
 ·rw [show decide (v1<((more+1:Nat):Int))=false by rw [e1];simp;omega,cond_false]
  exact ref2_Rune.l2_ok b at_ more least hm.2 hb hx more 1 r (by omega) (by simp;omega)
 ·rw [show decide (v1<((more+1:Nat):Int))=true by rw [e1];simp;omega,cond_true,Utf.cont_short _ _ _ (by simp;omega)]
  rfl
theorem ref2_Rune.goal (b:Str) (at_:Int) (hp:decide (b.length≤1099511627776)=true):ref2_Rune.F b at_=some [.i .i64 (Utf.runeAt b at_).1,.i .i64 (Utf.runeAt b at_).2]:=by
 have hb:b.length≤1099511627776:=of_decide_eq_true hp
 refine ref2_Rune.F_in b at_ ?_
 intro v1 h1 v2 h2 v3 h3 v4 h4 v5 h5 v6 h6 v7 h7 v8 h8 v9 h9
 unfold Utf.runeAt
 simp only [Bool.not_or_self,Bool.or_not_self,Bool.and_self,ck_true]
 by_cases h0:at_<0
 ·rw [h1,decide_eq_true h0,cond_true,cond_true,if_pos (.inl h0)]
 ·rw [h1,decide_eq_false h0,cond_false]
  obtain ⟨i,rfl⟩:=Int.eq_ofNat_of_zero_le (show 0≤at_ by omega)
  rw [Int.toNat_natCast] at h2
  by_cases hl:b.length≤i
  ·rw [show decide ((b.length:Int)≤(i:Int))=true by simp;omega,if_pos (.inr (by omega)),cond_true]
  ·rw [show decide ((b.length:Int)≤(i:Int))=false by simp;omega,if_neg (by omega),cond_false,ck_of (idx_ok (by omega) (by omega)),Int.toNat_natCast,drop_cons (l:=b) (i:=i) (by omega) 0,←h2,Utf.rune]
   have hc:=u8lt v2
   have e3:v3=(v2.toNat:Int):=by rw [h3];exact i64_in _ (by omega)
   have e4:v4=decide (192≤v2.toNat∧v2.toNat<224):=by rw [h4,e3];exact rng 192 224 _
   have e6:v6=decide (224≤v2.toNat∧v2.toNat<240):=by rw [h6,e3];exact rng 224 240 _
   have e8:v8=decide (240≤v2.toNat∧v2.toNat<248):=by rw [h8,e3];exact rng 240 248 _
   have J:∀(r more least:Nat),1≤more∧more<8→r<1024→ref2_Rune.j1 b i ((more+1:Nat):Int) r least=some [.i .i64 (Utf.multi r more least (b.drop (i+1))).1,.i .i64 (Utf.multi r more least (b.drop (i+1))).2]:=fun r more least h1 h2 =>
    (ref2_Rune.j1_ok b i r more least h1 hb (by omega) h2).trans (mres_eq _ _ _ _)
   by_cases c1:v2.toNat<128
   ·rw [if_pos c1,e3,show decide ((v2.toNat:Int)<128)=true by simp;omega,cond_true]
   ·rw [if_neg c1,show decide (v3<(128:Int))=false by rw [e3];simp;omega,cond_false,e4]
    by_cases c2:192≤v2.toNat∧v2.toNat<224
    ·rw [if_pos c2,decide_eq_true c2,cond_true,show v5=((v2.toNat - 192:Nat):Int) by rw [h5,e3,i64_in _ (by omega)];omega];exact J _ 1 128 (by omega) (by omega)
    ·rw [if_neg c2,decide_eq_false c2,cond_false,e6]
     by_cases c3:224≤v2.toNat∧v2.toNat<240
     ·rw [if_pos c3,decide_eq_true c3,cond_true,show v7=((v2.toNat - 224:Nat):Int) by rw [h7,e3,i64_in _ (by omega)];omega];exact J _ 2 2048 (by omega) (by omega)
     ·rw [if_neg c3,decide_eq_false c3,cond_false,e8]
      by_cases c4:240≤v2.toNat∧v2.toNat<248
      ·rw [if_pos c4,decide_eq_true c4,cond_true,show v9=((v2.toNat - 240:Nat):Int) by rw [h9,e3,i64_in _ (by omega)];omega];exact J _ 3 65536 (by omega) (by omega)
      ·rw [if_neg c4,decide_eq_false c4,cond_false]
theorem ref2_Check.l1_ok (b : Str) (hb : b.length ≤ 1099511627776) : ∀ (m i : Nat), b.length - i ≤ m → i ≤ b.length →
    ref2_Check.l1 b i = some [.i .i64 ((i + (Utf.look (b.drop i)).1 : Nat) : Int), .b (decide (i + (Utf.look (b.drop i)).1 = b.length))] := by
  intro m
  induction m with
  | zero =>
    intro i hm hi
    refine ref2_Check.l1_in _ _ ?_
    intro v1 h1
    rw [show decide ((i : Int) < (b.length : Int)) = false by simp; omega, cond_false, List.drop_of_length_le (by omega)]
    have : (Utf.look []).1 = 0 := by decide
    rw [this, decide_eq_true (show i + 0 = b.length by omega), show i + 0 = b.length by omega]
  | succ m ih =>
    intro i hm hi
    refine ref2_Check.l1_in _ _ ?_
    intro v1 h1
    by_cases hlt : i < b.length
    · rw [Utf.runeAt_nat b i hlt] at h1 ⊢
      have hs := Utf.rune_size (b.drop i)
      rw [List.length_drop] at hs
      rw [show decide ((i : Int) < (b.length : Int)) = true by simp; omega, cond_true, ck_of (decide_eq_true hb)]
      by_cases h0 : (Utf.rune (b.drop i)).2 = 0
      · rw [decide_eq_true h0, cond_true, Utf.look_none _ h0, decide_eq_false (show ¬ i + (0, 0).1 = b.length by simp; omega)]; rfl
      · rw [decide_eq_false h0, cond_false, Utf.look_step _ h0]
        have e1 : v1 = ((i + (Utf.rune (b.drop i)).2.toNat : Nat) : Int) := by rw [h1, i64_in _ (by omega)]; omega
        rw [e1, ih _ (by omega) (by omega), List.drop_drop]
        simp only [Option.some.injEq, List.cons.injEq, TV.i.injEq, TV.b.injEq, true_and, and_true]
        refine ⟨by omega, ?_⟩
        rw [Bool.eq_iff_iff]; simp; omega
    · rw [show decide ((i : Int) < (b.length : Int)) = false by simp; omega, cond_false, List.drop_of_length_le (by omega)]
      have : (Utf.look []).1 = 0 := by decide
      rw [this, decide_eq_true (show i + 0 = b.length by omega), show i + 0 = b.length by omega]
theorem ref2_Check.goal (b:Str) (hp:decide (b.length≤1099511627776)=true):ref2_Check.F b=some [.i .i64 ((Utf.look b).1:Int),.b (Utf.whole b)]:=by
 rw [ref2_Check.F_eq]
 have:=ref2_Check.l1_ok b (of_decide_eq_true hp) b.length 0 (by omega) (by omega)
 simpa [Utf.whole] using this
theorem ref2_Whole.goal (s:Str) (hp:decide (s.length≤1099511627776)=true):ref2_Whole.F s=some [.b (Utf.whole s)]:=by
 rw [ref2_Whole.F_eq,ck_of (big_len (of_decide_eq_true hp)),ck_of hp]
theorem ref2_Zero.l1_ok (s : Str) (hb : s.length ≤ 1099511627776) : ∀ (m i : Nat), s.length - i ≤ m → i ≤ s.length → ref2_Zero.l1 s i = some [.b ((s.drop i).contains 0)] := by
  intro m
  induction m with
  | zero =>
    intro i hm hi
    refine ref2_Zero.l1_in _ _ ?_
    intro v1 h1 v2 h2
    rw [show decide ((i : Int) < (s.length : Int)) = false by simp; omega, cond_false, List.drop_of_length_le (by omega)]; rfl
  | succ m ih =>
    intro i hm hi
    refine ref2_Zero.l1_in _ _ ?_
    intro v1 h1 v2 h2
    rw [Int.toNat_natCast] at h1
    by_cases hlt : i < s.length
    · rw [show decide ((i : Int) < (s.length : Int)) = true by simp; omega, cond_true, ck_of (idx_ok (by omega) (by omega)), drop_cons (l := s) hlt 0, ← h1]
      have e2 : v2 = ((i + 1 : Nat) : Int) := by rw [h2, i64_in _ (by omega)]; omega
      by_cases h0 : v1 = 0
      · rw [h0]; rfl
      · rw [decide_eq_false h0, cond_false, e2, ih _ (by omega) (by omega), List.contains_cons]
        have : ((0 : UInt8) == v1) = false := by rw [beq_eq_false_iff_ne]; exact fun e => h0 e.symm
        rw [this, Bool.false_or]
    · rw [show decide ((i : Int) < (s.length : Int)) = false by simp; omega, cond_false, List.drop_of_length_le (by omega)]; rfl
theorem ref2_Zero.goal (s:Str) (hp:decide (s.length≤1099511627776)=true):ref2_Zero.F s=some [.b (Utf.zero s)]:=by
 rw [ref2_Zero.F_eq]
 have:=ref2_Zero.l1_ok s (of_decide_eq_true hp) s.length 0 (by omega) (by omega)
 simpa [Utf.zero] using this
end Go.Eng
namespace Go.Eng
open Go.IntWalk
theorem sl_IndexByte.goal (s:Str) (c:UInt8):sl_IndexByte.F s c=some [.i .i64 (Lib.indexByte s c)]:=sl_IndexByte.F_eq s c
theorem sl_Index.goal (s t:Str) (hp:decide (t.length=1)=true):sl_Index.F s t=some [.i .i64 (Lib.indexByte s (t.getD 0 0))]:=by
 have hl:t.length=1:=of_decide_eq_true hp
 refine sl_Index.F_in s t ?_
 intro v1 h1 v2 h2
 have e0:decide ((t.length:Int)=0)=false:=decide_eq_false (by omega)
 have e1:decide ((t.length:Int)=1)=true:=decide_eq_true (by omega)
 rw [e0] at h1 ⊢
 simp only [Bool.not_false,Bool.not_true,Bool.false_or,Bool.and_self,ck_true,cond_false] at h1 ⊢
 by_cases hs:t=s
 ·subst hs
  rw [h1,decide_eq_true rfl,cond_true]
  obtain ⟨c,rfl⟩:∃c,t=[c]:=by
   match t,hl with
   | [c],_=>exact ⟨c,rfl⟩
  simp [Lib.indexByte]
 ·rw [h1,decide_eq_false hs,cond_false,e1,cond_true,ck_of (idx_ok (by omega) (by omega)),h2];rfl
theorem st_Index.goal (s t:Str) (hp:decide (t.length=1)=true):st_Index.F s t=some [.i .i64 (Lib.indexByte s (t.getD 0 0))]:=by
 refine st_Index.F_in s t ?_
 intro v1 h1
 rw [ck_of hp,h1]
theorem st_Contains.goal (s t:Str) (hp:decide (t.length=1)=true):st_Contains.F s t=some [.b (decide (0≤Lib.indexByte s (t.getD 0 0)))]:=by
 refine st_Contains.F_in s t ?_
 intro v1 h1
 rw [ck_of hp,h1]
theorem tree_Name.goal (k:Int):tree_Name.F k=some [.s (Tree.name k)]:=by
 refine tree_Name.F_in k ?_
 intro v1 h1 v2 h2
 unfold Tree.name
 by_cases a:k=127
 ·rw [if_pos a,decide_eq_true a];rfl
 ·rw [if_neg a,decide_eq_false a,cond_false]
  by_cases b:k=255
  ·rw [if_pos b,decide_eq_true b];rfl
  ·rw [if_neg b,decide_eq_false b,cond_false]
   simp only [Bool.not_or_self,Bool.or_not_self,ck_true]
   by_cases c:k<0∨20≤k
   ·rw [if_pos c,show v1=true by rw [h1];by_cases d:k<0 <;> simp [d];omega];rfl
   ·rw [if_neg c,show v1=false by rw [h1];by_cases d:k<0 <;> simp [d] <;> omega,cond_false,ck_of (idx_ok (by omega) (by omega)),ck_of (by simp;omega),h2];rfl
end Go.Eng
namespace Go.Eng
open Go.IntWalk
theorem indexByte_contains (c : UInt8) : ∀ s : Str, decide (0 ≤ Lib.indexByte s c) = s.contains c
  | [] => by simp [Lib.indexByte]
  | b :: l => by
    have ih := indexByte_contains c l
    have hge := Lib.indexByte_ge l c
    rw [List.contains_cons, ← ih]
    rw [Lib.indexByte]
    by_cases h : b = c
    · subst h; simp
    · rw [if_neg (by simpa using h), show (c == b) = false by rw [beq_eq_false_iff_ne]; exact fun e => h e.symm, Bool.false_or]
      by_cases h1 : Lib.indexByte l c = -1
      · rw [h1]; rfl
      · rw [if_neg (by simpa using h1), decide_eq_true (by omega), decide_eq_true (by omega)]
theorem tree_whole.goal (s:Str) (plain:Bool) (hp:decide (s.length≤1099511627776)=true):tree_whole.F s plain=some [.b (Tree.wholeT s plain)]:=by
 have e:decide (0≤Lib.indexByte s (([0]:Str).getD 0 0))=Utf.zero s:=indexByte_contains 0 s
 refine tree_whole.F_in s plain ?_
 intro v1 h1 v2 h2
 rw [ck_of (big_len (of_decide_eq_true hp)),ck_of hp]
 rw [e] at h1
 subst h1 h2
 unfold Tree.wholeT
 cases Utf.whole s <;> cases plain <;> cases Utf.zero s <;> rfl
theorem tree_fields.goal (v:Val):tree_fields.F v=some [.b (Tree.fieldsOK v)]:=by
 have J2:∀(x:Bool) (v:Val),tree_fields.j2 x v=some [.b (x&&decide (v.bits=0)&&decide (v.high=0)&&decide (v.low=0)&&decide (v.text=[])&&decide (v.more=[])&&decide (v.sub=0)&&decide (v.bytes=[])&&decide (v.kids=[]))]:=by
  intro x v
  refine tree_fields.j2_in x v ?_
  intro v1 h1 v2 h2 v3 h3 v4 h4 v5 h5 v6 h6 v7 h7 v8 h8 v9 h9 v10 h10
  simp only [Bool.not_or_self,ck_true]
  have e1:decide (v7=0)=decide (v.bytes=[]):=by rw [h7,Bool.eq_iff_iff];simp
  have e2:decide (v9=0)=decide (v.kids=[]):=by rw [h9,Bool.eq_iff_iff];simp
  rw [e1] at h8
  rw [e2] at h10
  subst h1 h2 h3 h4 h5 h6 h8 h10
  simp only [Bool.cond_false_right]
 have J3:∀(x0:Bool) (x1:Int) (x2:Bool) (x3:Val),tree_fields.j3 x0 x1 x2 x3=cond x2
  (tree_fields.j2 x0 (Val.mk (Val.kind x3) (Val.bits x3) (Val.high x3) (Val.low x3) ([]:Str) (Val.more x3) (Val.sub x3) (Val.bytes x3) (Val.kids x3)))
  (cond (decide (x1=(11:Int)))
  (tree_fields.j2 x0 (Val.mk (Val.kind x3) (Val.bits x3) (Val.high x3) (Val.low x3) ([]:Str) ([]:Str) (Val.sub x3) (Val.bytes x3) (Val.kids x3)))
  (cond (decide (x1=(5:Int)))
  (tree_fields.j2 (decide (0≤x3.sub)&&decide (x3.sub≤255)) (Val.mk (Val.kind x3) (Val.bits x3) (Val.high x3) (Val.low x3) (Val.text x3) (Val.more x3) (0:Int) ([]:List UInt8) (Val.kids x3)))
  (cond (decide (x1=(7:Int)))
  (tree_fields.j2 (decide (x3.bytes.length=12)) (Val.mk (Val.kind x3) (Val.bits x3) (Val.high x3) (Val.low x3) (Val.text x3) (Val.more x3) (Val.sub x3) ([]:List UInt8) (Val.kids x3)))
  (cond (decide (x1=(12:Int)))
  (tree_fields.j2 (decide (x3.bytes.length=12)) (Val.mk (Val.kind x3) (Val.bits x3) (Val.high x3) (Val.low x3) ([]:Str) (Val.more x3) (Val.sub x3) ([]:List UInt8) (Val.kids x3)))
  (cond (decide (x1=(3:Int)))
  (tree_fields.j4 x0 x1 (decide (x1=(3:Int))) x3)
  (tree_fields.j4 x0 x1 (decide (x1=(4:Int))) x3)))))):=by
  intro x0 x1 x2 x3
  refine tree_fields.j3_in x0 x1 x2 x3 ?_
  intro v1 h1 v2 h2
  have e:decide (v2=12)=decide (x3.bytes.length=12):=by rw [h2,Bool.eq_iff_iff];simp;omega
  simp only [Bool.not_or_self,ck_true,e,h1,Bool.cond_false_right]
 obtain ⟨k,b,hi,lo,t,m,s,y,ks⟩:=v
 simp only [tree_fields.F_eq,tree_fields.j1_eq,J3,tree_fields.j4_eq,J2,Tree.fieldsOK,Tree.hasN]
 by_cases a1:k=1
 ·subst a1;simp;grind
 by_cases a2:k=2
 ·subst a2;simp;grind
 by_cases a3:k=3
 ·subst a3;simp;grind
 by_cases a4:k=4
 ·subst a4;simp;grind
 by_cases a5:k=5
 ·subst a5;simp;grind
 by_cases a7:k=7
 ·subst a7;simp;grind
 by_cases a8:k=8
 ·subst a8;simp;grind
 by_cases a9:k=9
 ·subst a9;simp;grind
 by_cases a11:k=11
 ·subst a11;simp;grind
 by_cases a12:k=12
 ·subst a12;simp;grind
 by_cases a13:k=13
 ·subst a13;simp;grind
 by_cases a14:k=14
 ·subst a14;simp;grind
 by_cases a15:k=15
 ·subst a15;simp;grind
 by_cases a16:k=16
 ·subst a16;simp;grind
 by_cases a17:k=17
 ·subst a17;simp;grind
 by_cases a18:k=18
 ·subst a18;simp;grind
 by_cases a19:k=19
 ·subst a19;simp;grind
 simp [a1,a2,a3,a4,a5,a7,a8,a9,a11,a12,a13,a14,a15,a16,a17,a18,a19];grind
end Go.Eng
namespace Go.Eng
open Go.IntWalk
theorem TreeAx.lens (v:Val) (n:Str) (m:Nat) (h:Fld.bulk (Fld.of n v)≤m):v.text.length≤m∧v.more.length≤m∧n.length≤m∧v.bytes.length≤m∧Fld.bulks v.kids+1≤m:=by
 simp only [Fld.of,Fld.bulk] at h;omega
theorem Fld.bulk_pos (f:Fld):1≤f.bulk:=by cases f;simp only [Fld.bulk];omega
theorem Fld.bulks_get : ∀ (l : List Fld) (i : Nat) (d : Fld), i < l.length → (l.getD i d).bulk ≤ Fld.bulks l
  | f :: l, 0, d, _ => by simp [Fld.bulks]
  | f :: l, i + 1, d, h => by
    have := Fld.bulks_get l i d (by simpa using h)
    simp only [List.getD_cons_succ, Fld.bulks]; omega
theorem Fld.bulks_len:∀(l:List Fld),l.length≤Fld.bulks l
 | []=>by simp
 | f :: l=>by have:=Fld.bulks_len l;have:=Fld.bulk_pos f;simp only [List.length_cons,Fld.bulks];omega
theorem Fld.of_eta (f:Fld):Fld.of f.name f.val=f:=by cases f;rfl
theorem Fld.bulk_val (f:Fld):Fld.bulk (Fld.of [] f.val)≤f.bulk:=by cases f;simp only [Fld.of,Fld.val,Fld.bulk,Fld.kind,Fld.bits,Fld.high,Fld.low,Fld.text,Fld.more,Fld.sub,Fld.bytes,Fld.kids];simp
theorem tree_own (v:Val) (n:Str):Tree.ownN v n=(if Tree.name v.kind=[] then 5 else if Tree.fieldsOK v=false then 1 else if Tree.wholeT v.text (decide (v.kind=11))=false∨Tree.wholeT v.more (decide (v.kind=11))=false∨Tree.wholeT n true=false then 4 else 0):=by
 unfold Tree.ownN Tree.own
 grind
theorem Tree.chkF_of (n:Str) (v:Val) (p:List Int):Tree.chkF (Fld.of n v) p=if Tree.ownN v n≠0 then (p,Tree.ownN v n) else Tree.chkL v.kids 0 p:=by
 cases v;simp only [Fld.of,Tree.chkF]
theorem tree_check.l1_ok (n : Nat) (ks : List Fld) (p : List Int) (hb : Fld.bulks ks + p.length < 1099511627776) (hn : Fld.bulks ks < n) : ∀ (m i : Nat), i + m = ks.length →
    tree_check.l1 n ks (ks.length : Int) i p = some [.sl .is (Tree.chkL (ks.drop i) i p).1, .i .i64 (Tree.chkL (ks.drop i) i p).2, .sl .is p] := by
  have hlen := Fld.bulks_len ks
  intro m
  induction m with
  | zero =>
    intro i hi
    refine tree_check.l1_in _ _ _ _ _ ?_
    intro v1 h1 v2 h2 v3 h3 v4 h4
    rw [decide_eq_false (by omega), cond_false, List.drop_of_length_le (by omega)]; rfl
  | succ m ih =>
    intro i hi
    refine tree_check.l1_in _ _ _ _ _ ?_
    intro v1 h1 v2 h2 v3 h3 v4 h4
    rw [Int.toNat_natCast] at h1
    have hg := Fld.bulks_get ks i (STy.dflt .fl) (by omega)
    rw [← h1] at hg
    rw [Fld.of_eta] at h2 h3 ⊢
    rw [decide_eq_true (by omega), cond_true, ck_of (idx_ok (by omega) (by omega)), ck_of (big_ap (by simp; omega) (by simp; omega)), decide_eq_true (by simp; omega), decide_eq_true (by omega), Bool.and_self, ck_true, drop_cons (l := ks) (i := i) (by omega) (STy.dflt .fl), ← h1, Tree.chkL]
    by_cases h : v3 = 0
    · rw [decide_eq_true h, if_neg (by rw [h3] at h; simpa using h)]
      simp only [Bool.not_true, cond_false]
      rw [show v4 = ((i + 1 : Nat) : Int) by rw [h4, i64_in _ (by omega)]; omega, ih _ (by omega)]
    · rw [decide_eq_false h, if_pos (by rw [h3] at h; simpa using h)]
      simp only [Bool.not_false, cond_true]
      rw [h2, h3]
theorem tree_check.goal (n:Nat) (v:Val) (name:Str) (path:List Int) (hp:((decide (Fld.bulk (Fld.of name v)+path.length≤1099511627776))&&decide ((Fld.bulk (Fld.of name v))<n+1))=true) :
  tree_check.F n v name path=some [.sl .is (Tree.chkF (Fld.of name v) path).1,.i .i64 (Tree.chkF (Fld.of name v) path).2,.sl .is path]:=by
 simp only [Bool.and_eq_true,decide_eq_true_eq] at hp
 obtain ⟨hp,hn⟩:=hp
 obtain ⟨b1,b2,b3,_,_⟩:=TreeAx.lens v name 1099511627776 (by omega)
 have hks:Fld.bulks v.kids<Fld.bulk (Fld.of name v):=by simp only [Fld.of,Fld.bulk];omega
 refine tree_check.F_in n v name path ?_
 intro v1 h1 v2 h2 v3 h3 v4 h4
 rw [Tree.chkF_of,tree_own]
 simp only [Bool.not_or_self,Bool.or_not_self,Bool.and_self,ck_true,decide_eq_true b1,decide_eq_true b2,decide_eq_true b3,Bool.and_true]
 have hap:apOK path.length 8=true:=big_ap (by omega) (by omega)
 simp only [hap,ck_true]
 by_cases a:Tree.name v.kind=[]
 ·rw [decide_eq_true a];simp [a]
 ·rw [decide_eq_false a,cond_false]
  by_cases b:Tree.fieldsOK v=false
  ·rw [b];simp [a]
  ·have b':Tree.fieldsOK v=true:=by simpa using b
   rw [b']
   have e3:v3=decide (Tree.wholeT v.text (decide (v.kind=11))=false∨Tree.wholeT v.more (decide (v.kind=11))=false∨Tree.wholeT name true=false):=by
    subst h1 h2 h3
    cases Tree.wholeT v.text (decide (v.kind=11)) <;> cases Tree.wholeT v.more (decide (v.kind=11)) <;> cases Tree.wholeT name true <;> rfl
   rw [e3,h4]
   by_cases c:Tree.wholeT v.text (decide (v.kind=11))=false∨Tree.wholeT v.more (decide (v.kind=11))=false∨Tree.wholeT name true=false
   ·rw [decide_eq_true c];simp [a,c]
   ·rw [decide_eq_false c]
    simp only [Bool.not_true,cond_false,if_neg a,if_neg c]
    have:=tree_check.l1_ok n v.kids path (by omega) (by omega) v.kids.length 0 (by omega)
    rw [List.drop_zero] at this
    simpa using this
theorem tree_Check.goal (v:Val) (hp:decide (Fld.bulk (Fld.of [] v)≤1099511627776)=true):tree_Check.F v=some [.sl .is (Tree.chkF (Fld.of [] v) []).1,.i .i64 (Tree.chkF (Fld.of [] v) []).2]:=by
 refine tree_Check.F_in v ?_
 intro v1 h1 v2 h2
 rw [ck_of (by simpa using hp),h1,h2]
end Go.Eng
namespace Go.Eng
open Go.IntWalk
theorem Tree.same_iff (a b:Val):Tree.same a b=true ↔ a=b:=by unfold Tree.same;simp
theorem Tree.same_eq (a b:Val) (c:Bool) (h:c=true ↔ a=b):Tree.same a b=c:=by
 rw [Bool.eq_iff_iff,Tree.same_iff,h]
theorem Fld.ext_iff (a b:Fld):a=b ↔ a.name=b.name∧a.val=b.val:=by
 cases a;cases b;simp [Fld.name,Fld.val,Fld.kind,Fld.bits,Fld.high,Fld.low,Fld.text,Fld.more,Fld.sub,Fld.bytes,Fld.kids]
theorem drop_eq {α:Type} {a b:List α} {i:Nat} (ha:i<a.length) (hb:i<b.length) (d:α):a.drop i=b.drop i ↔ a.getD i d=b.getD i d∧a.drop (i+1)=b.drop (i+1):=by
 rw [drop_cons ha d,drop_cons hb d,List.cons.injEq]
theorem Val.ext_own (a b:Val):a=b ↔ Tree.ownSame a b=true∧a.kids=b.kids:=by
 cases a;cases b;simp [Tree.ownSame,and_assoc]
theorem ref17_Own.goal (a b:Val):ref17_Own.F a b=some [.b (Tree.ownSame a b)]:=by
 refine ref17_Own.F_in a b ?_
 intro v1 h1 v2 h2 v3 h3 v4 h4 v5 h5 v6 h6 v7 h7
 subst h1 h2 h3 h4 h5 h6 h7
 simp only [Bool.and_self,Bool.not_or_self,ck_true,Bool.cond_false_right]
 rfl
theorem ref17_Same.l1_ok (n : Nat) (a b : Val) (hl : a.kids.length = b.kids.length) (hb : Fld.bulks a.kids < 1099511627776) (hn : Fld.bulks a.kids < n) : ∀ (m i : Nat), i + m = a.kids.length →
    ∃ c : Bool, ref17_Same.l1 n i a b = some [.b c] ∧ (c = true ↔ a.kids.drop i = b.kids.drop i) := by
  have hlen := Fld.bulks_len a.kids
  intro m
  induction m with
  | zero =>
    intro i hi
    refine ⟨true, ?_, by rw [List.drop_of_length_le (by omega), List.drop_of_length_le (by omega)]; simp⟩
    refine ref17_Same.l1_in _ _ _ _ ?_
    intro v1 h1 v2 h2 v3 h3 v4 h4 v5 h5 v6 h6 v7 h7
    rw [decide_eq_false (by omega), cond_false]
  | succ m ih =>
    intro i hi
    obtain ⟨c, hc1, hc2⟩ := ih (i + 1) (by omega)
    by_cases h : (a.kids.getD i (STy.dflt .fl)) = (b.kids.getD i (STy.dflt .fl))
    · refine ⟨c, ?_, hc2.trans ⟨fun x => (drop_eq (i := i) (by omega) (by omega) (STy.dflt .fl)).2 ⟨h, x⟩, fun x => ((drop_eq (i := i) (by omega) (by omega) (STy.dflt .fl)).1 x).2⟩⟩
      refine ref17_Same.l1_in _ _ _ _ ?_
      intro v1 h1 v2 h2 v3 h3 v4 h4 v5 h5 v6 h6 v7 h7
      rw [Int.toNat_natCast] at h2 h3
      have hg := Fld.bulks_get a.kids i (STy.dflt .fl) (by omega)
      rw [← h2] at hg h
      rw [← h3] at h
      have hv := Fld.bulk_val v2
      rw [decide_eq_true (by omega), cond_true, show v7 = ((i + 1 : Nat) : Int) by rw [h7, i64_in _ (by omega)]; omega, hc1, show idxOK (i : Int) a.kids.length = true from idx_ok (by omega) (by omega), show idxOK (i : Int) b.kids.length = true from idx_ok (by omega) (by omega), decide_eq_true (show Fld.bulk (Fld.of [] v2.val) < n by omega), decide_eq_true (show Fld.bulk (Fld.of [] v2.val) ≤ 1099511627776 by omega)]
      have e5 : v5 = true := by rw [h5, Tree.same_iff, h]
      rw [e5, h, decide_eq_true rfl] at h6
      rw [h, decide_eq_true rfl] at h4 ⊢
      subst h4 h6
      rfl
    · refine ⟨false, ?_, ⟨fun x => (by cases x), fun x => (h ((drop_eq (i := i) (by omega) (by omega) (STy.dflt .fl)).1 x).1).elim⟩⟩
      refine ref17_Same.l1_in _ _ _ _ ?_
      intro v1 h1 v2 h2 v3 h3 v4 h4 v5 h5 v6 h6 v7 h7
      rw [Int.toNat_natCast] at h2 h3
      have hg := Fld.bulks_get a.kids i (STy.dflt .fl) (by omega)
      rw [← h2] at hg h
      rw [← h3] at h
      have hv := Fld.bulk_val v2
      rw [decide_eq_true (by omega), cond_true, show idxOK (i : Int) a.kids.length = true from idx_ok (by omega) (by omega), show idxOK (i : Int) b.kids.length = true from idx_ok (by omega) (by omega), decide_eq_true (show Fld.bulk (Fld.of [] v2.val) < n by omega), decide_eq_true (show Fld.bulk (Fld.of [] v2.val) ≤ 1099511627776 by omega)]
      by_cases hN : v2.name = v3.name
      · have e5 : v5 = false := by
          have : v5 ≠ true := by rw [h5, Ne, Tree.same_iff]; exact fun e => h ((Fld.ext_iff _ _).2 ⟨hN, e⟩)
          simpa using this
        rw [e5, decide_eq_true hN] at h6
        rw [decide_eq_true hN] at h4 ⊢
        subst h4 h6
        rfl
      · rw [decide_eq_false hN] at h4 h6 ⊢
        subst h4 h6
        rfl
theorem ref17_Same.goal (n:Nat) (a b:Val) (hp:((decide (Fld.bulk (Fld.of [] a)≤1099511627776))&&decide ((Fld.bulk (Fld.of [] a))<n+1))=true):ref17_Same.F n a b=some [.b (Tree.same a b)]:=by
 simp only [Bool.and_eq_true,decide_eq_true_eq] at hp
 obtain ⟨hbig,hn⟩:=hp
 have hks:Fld.bulks a.kids<Fld.bulk (Fld.of [] a):=by simp only [Fld.of,Fld.bulk];omega
 refine ref17_Same.F_in n a b ?_
 intro v1 h1 v2 h2 v3 h3
 simp only [Bool.and_self,Bool.not_or_self,Bool.or_not_self,ck_true]
 by_cases hl:a.kids.length=b.kids.length
 ·obtain ⟨c,hc1,hc2⟩:=ref17_Same.l1_ok n a b hl (by omega) (by omega) a.kids.length 0 (by omega)
  rw [decide_eq_true (by omega)] at h3
  rw [List.drop_zero,List.drop_zero] at hc2
  rw [h3]
  cases ho:Tree.ownSame a b
  ·rw [Tree.same_eq a b false (by rw [Val.ext_own,ho];simp)];rfl
  ·rw [Tree.same_eq a b c (by rw [Val.ext_own,ho,hc2];simp)];exact hc1
 ·rw [decide_eq_false (by omega)] at h3
  have:v3=true:=by rw [h3];cases Tree.ownSame a b <;> rfl
  rw [this,Tree.same_eq a b false (by constructor;(· intro h;cases h);(· intro h;rw [h] at hl;exact (hl rfl).elim))];rfl
theorem ref1_SameInts.l1_ok (a b : List Int) (hl : a.length = b.length) (hb : a.length < 9223372036854775807) : ∀ (m i : Nat), i + m = a.length → ref1_SameInts.l1 a b i = some [.b (decide (a.drop i = b.drop i))] := by
  intro m
  induction m with
  | zero =>
    intro i hi
    refine ref1_SameInts.l1_in _ _ _ ?_
    intro v1 h1 v2 h2 v3 h3
    rw [decide_eq_false (by omega), cond_false, List.drop_of_length_le (by omega), List.drop_of_length_le (by omega)]; rfl
  | succ m ih =>
    intro i hi
    refine ref1_SameInts.l1_in _ _ _ ?_
    intro v1 h1 v2 h2 v3 h3
    rw [Int.toNat_natCast] at h1 h2
    rw [decide_eq_true (by omega), cond_true, ck_of (idx_ok (by omega) (by omega)), ck_of (idx_ok (by omega) (by omega)), drop_cons (l := a) (i := i) (by omega) 0, drop_cons (l := b) (i := i) (by omega) 0, ← h1, ← h2]
    by_cases h : v1 = v2
    · rw [decide_eq_true h]
      simp only [Bool.not_true, cond_false]
      rw [show v3 = ((i + 1 : Nat) : Int) by rw [h3, i64_in _ (by omega)]; omega, ih _ (by omega)]
      simp [h]
    · rw [decide_eq_false h]; simp [h]
theorem ref1_SameInts.goal (a b:List Int) (hp:decide (a.length≤1099511627776)=true):ref1_SameInts.F a b=some [.b (decide (a=b))]:=by
 have hp:=of_decide_eq_true hp
 rw [ref1_SameInts.F_eq]
 by_cases hl:a.length=b.length
 ·rw [decide_eq_true (by omega)]
  have:=ref1_SameInts.l1_ok a b hl (by omega) a.length 0 (by omega)
  simpa using this
 ·rw [decide_eq_false (by omega),decide_eq_false (fun e=>hl (by rw [e]))];rfl
end Go.Eng
namespace Go.Eng
open Go.IntWalk
theorem digs_lt {n:Nat} (h:n<10):digs n=[UInt8.ofNat (48+n)]:=by rw [digs,dif_pos h]
theorem digs_ge {n:Nat} (h:¬n<10):digs n=digs (n / 10)++[UInt8.ofNat (48+n % 10)]:=by rw [digs,dif_neg h]
theorem u8_ofInt_nat (n:Nat):UInt8.ofInt (n:Int)=UInt8.ofNat n:=by
 apply UInt8.toNat_inj.1
 rw [u8_nat,UInt8.toNat_ofNat']
theorem ref5_Digits.l1_ok : ∀ (v : UInt64) (s : Str), v.toNat + s.length ≤ 18446744073709551616 + 100 → s.length ≤ 100 → (10 ^ (20 - s.length) > v.toNat) → ref5_Digits.l1 v s = some [.s (digs v.toNat ++ s)] := by
  intro v
  generalize hn : v.toNat = n
  induction n using Nat.strongRecOn generalizing v with
  | _ n ih =>
    intro s h1 h2 h3
    refine ref5_Digits.l1_in _ _ ?_
    intro v1 e1 v2 e2 v3 e3
    have hlt : ((9 : UInt64) < v) ↔ 9 < v.toNat := UInt64.lt_iff_toNat_lt
    by_cases a : n < 10
    · have e : v3 = UInt8.ofNat (48 + n) := by
        rw [e3, u8_ofInt_nat]
        apply UInt8.toNat_inj.1
        rw [UInt64.toNat_add, UInt8.toNat_ofNat', UInt8.toNat_ofNat', hn]
        show (48 + n) % 18446744073709551616 % 256 = _
        rw [Nat.mod_eq_of_lt (show 48 + n < 18446744073709551616 by omega)]
      rw [decide_eq_false (fun h => by have := hlt.1 h; omega), cond_false, ck_of (decide_eq_true (by simp only [List.length_singleton]; omega)), digs_lt a, e]
    · have hs : s.length ≤ 20 := by
        apply Classical.byContradiction
        intro h
        rw [show 20 - s.length = 0 by omega] at h3
        simp at h3; omega
      have hd : (v / 10).toNat = n / 10 := by rw [UInt64.toNat_div, hn]; rfl
      have e : v2 = UInt8.ofNat (48 + n % 10) := by
        rw [e2, e1, u8_ofInt_nat]
        apply UInt8.toNat_inj.1
        rw [UInt64.toNat_add, UInt64.toNat_mod, UInt8.toNat_ofNat', UInt8.toNat_ofNat', hn]
        show (48 + n % 10) % 18446744073709551616 % 256 = _
        rw [Nat.mod_eq_of_lt (show 48 + n % 10 < 18446744073709551616 by omega)]
      have h4 : 10 ^ (20 - (UInt8.ofNat (48 + n % 10) :: s).length) > n / 10 := by
        rw [List.length_cons]
        have hk : 20 - s.length ≠ 0 := by
          intro h; rw [h] at h3; simp at h3; omega
        rw [show 20 - s.length = (20 - (s.length + 1)) + 1 by omega, Nat.pow_succ] at h3
        omega
      rw [decide_eq_true (hlt.2 (by omega)), cond_true, ck_of (by decide), ck_of (decide_eq_true (by simp only [List.length_singleton]; omega)), ck_of (by decide), e, List.singleton_append, ih (n / 10) (by omega) (v / 10) hd _ (by rw [List.length_cons]; omega) (by rw [List.length_cons]; omega) h4, digs_ge a, List.append_assoc]; rfl
theorem ref5_Digits.goal (v:UInt64):ref5_Digits.F v=some [.s (digs v.toNat)]:=by
 have:=v.toNat_lt
 rw [ref5_Digits.F_eq,ref5_Digits.l1_ok v [] (by simp only [List.length_nil];omega) (by decide) (by simp only [List.length_nil];omega),List.append_nil]
theorem tree_Regular.l1_ok (l : List Fld) (hb : l.length ≤ 1099511627776) : ∀ (m i : Nat), i + m = l.length → tree_Regular.l1 l (l.length : Int) i = some [.b (Tree.regularFrom i (l.drop i))] := by
  intro m
  induction m with
  | zero =>
    intro i hi
    refine tree_Regular.l1_in _ _ _ ?_
    intro v1 h1 v2 h2
    rw [decide_eq_false (by omega), cond_false, List.drop_of_length_le (by omega)]; rfl
  | succ m ih =>
    intro i hi
    refine tree_Regular.l1_in _ _ _ ?_
    intro v1 h1 v2 h2
    rw [Int.toNat_natCast] at h1
    rw [decide_eq_true (by omega), cond_true, ck_of (idx_ok (by omega) (by omega)), ck_of (decide_eq_true (by omega)), show v2 = ((i + 1 : Nat) : Int) by rw [h2, i64_in _ (by omega)]; omega, ih _ (by omega), drop_cons (l := l) (i := i) (by omega) (STy.dflt .fl), ← h1, Tree.regularFrom, itoa_nat]
    by_cases a : v1.name = digs i
    · rw [decide_eq_true a]; rfl
    · rw [decide_eq_false a]; rfl
theorem tree_Regular.goal (l:List Fld) (hp:decide (l.length≤1099511627776)=true):tree_Regular.F l=some [.b (Tree.regular l)]:=by
 rw [tree_Regular.F_eq]
 exact tree_Regular.l1_ok l (of_decide_eq_true hp) l.length 0 (by omega)
end Go.Eng
namespace Go.Eng
open Go.IntWalk
theorem book_Room.l1_ok (sizes : List Int) (hl : sizes.length ≤ 10) (hs : ∀ s ∈ sizes, 0 ≤ s) : ∀ (m i : Nat) (left : Int), i + m = sizes.length → left ≤ 10000 → book_Room.l1 left sizes i = some [.i .i64 (Book.room left (sizes.drop i))] := by
  intro m
  induction m with
  | zero =>
    intro i left hi hle
    refine book_Room.l1_in _ _ _ ?_
    intro v1 h1 v2 h2 v3 h3
    rw [decide_eq_false (by omega), cond_false, List.drop_of_length_le (by omega)]; rfl
  | succ m ih =>
    intro i left hi hle
    refine book_Room.l1_in _ _ _ ?_
    intro v1 h1 v2 h2 v3 h3
    rw [Int.toNat_natCast] at h1
    have h0 : 0 ≤ v1 := hs v1 (by rw [h1, List.getD_eq_getElem?_getD, List.getElem?_eq_getElem (show i < sizes.length by omega)]; simp)
    rw [decide_eq_true (by omega), cond_true, show idxOK (i : Int) sizes.length = true from idx_ok (by omega) (by omega), drop_cons (l := sizes) (i := i) (by omega) 0, ← h1, Book.room]
    simp only [Bool.and_self, Bool.and_true, Bool.not_or_self, Bool.or_not_self, ck_true]
    by_cases a : left < 0 ∨ left < v1
    · rw [if_pos a, show v2 = true by rw [h2]; by_cases b : left < 0 <;> simp [b]; omega]; rfl
    · rw [if_neg a, show v2 = false by rw [h2]; by_cases b : left < 0 <;> simp [b] <;> omega, cond_false, show v3 = ((i + 1 : Nat) : Int) by rw [h3, i64_in _ (by omega)]; omega, i64_in _ (by omega), ih _ _ (by omega) (by omega)]
theorem book_Room.goal (left:Int) (sizes:List Int) (hp:(decide (left≤10000∧sizes.length≤10)&&sizes.all (fun s=>decide (0≤s)))=true):book_Room.F left sizes=some [.i .i64 (Book.room left sizes)]:=by
 simp only [Bool.and_eq_true,decide_eq_true_eq,List.all_eq_true] at hp
 rw [book_Room.F_eq]
 exact book_Room.l1_ok sizes hp.1.2 hp.2 sizes.length 0 left (by omega) hp.1.1
end Go.Eng
namespace Go.Eng
open Go.IntWalk
theorem be_step (x:UInt64) (c:UInt8):shl64 x 8 ||| UInt64.ofInt (c.toNat:Int)=x * 256+c.toUInt64:=by
 apply UInt64.toNat_inj.1
 have hc:=c.toNat_lt
 have hx:=x.toNat_lt
 rw [UInt64.toNat_or,u64_nat,shl64,UInt64.toNat_add,UInt64.toNat_mul,UInt64.toNat_ofNat',UInt8.toNat_toUInt64]
 rw [Nat.mod_eq_of_lt (show c.toNat<18446744073709551616 by omega)]
 have e:x.toNat * 2 ^ 8 % 2 ^ 64=(x.toNat % 2 ^ 56) * 2 ^ 8:=by omega
 rw [e,or_add (k:=8) (by omega),show (256:UInt64).toNat=256 from rfl]
 omega
theorem shr_div (v:UInt64) (n:Nat):shr64 (v / 256) (8 * n)=shr64 v (8 * (n+1)):=by
 rw [shr64,shr64,UInt64.toNat_div,show (256:UInt64).toNat=2 ^ 8 from rfl,Nat.div_div_eq_div_mul,←Nat.pow_add,show 8+8 * n=8 * (n+1) by omega]
theorem Cur.putLow_last : ∀ (n : Nat) (v : UInt64), Cur.putLow v (n + 1) = Cur.putLow v n ++ [(shr64 v (8 * n)).toUInt8]
  | 0, v => by
    have : shr64 v (8 * 0) = v := by rw [shr64]; simp
    rw [this]; rfl
  | n + 1, v => by
    rw [Cur.putLow, Cur.putLow_last n, Cur.putLow, shr_div]; rfl
theorem Cur.putHigh_succ (v:UInt64) (n:Nat):Cur.putHigh v (n+1)=(shr64 v (8 * n)).toUInt8 :: Cur.putHigh v n:=by
 rw [Cur.putHigh,Cur.putLow_last,List.reverse_append];rfl
theorem u8_of (v:UInt64):UInt8.ofInt (v.toNat:Int)=v.toUInt8:=by
 apply UInt8.toNat_inj.1
 rw [u8_nat,UInt64.toNat_toUInt8]
mutual
theorem Itm.bulk_kids : ∀ (ks : List Itm), ks.length ≤ Itm.bulks ks
  | [] => Nat.le_refl _
  | k :: r => by
    have h1 := Itm.bulk_pos k
    have h2 := Itm.bulk_kids r
    simp only [Itm.bulks, List.length_cons]; omega
theorem Itm.bulk_pos : ∀ (k : Itm), 1 ≤ Itm.bulk k
  | .mk _ _ b t ks => by simp only [Itm.bulk]; omega
end
theorem Itm.bulks_at : ∀ (ks : List Itm) (i : Nat), i < ks.length → Itm.bulk (ks.getD i (STy.dflt .il)) ≤ Itm.bulks ks
  | [], _, h => by simp at h
  | k :: r, 0, _ => by simp only [List.getD_cons_zero, Itm.bulks]; omega
  | k :: r, i + 1, h => by
    have := Itm.bulks_at r i (by simpa using h)
    simp only [List.getD_cons_succ, Itm.bulks]; omega
theorem Itm.bulk_of (it:Itv):Itm.bulk (Itm.of it)=1+it.bytes.length+it.text.length+Itm.bulks it.kids:=by simp only [Itm.of,Itm.bulk]
theorem not_u64 (v:UInt64):(~~~ v).toNat=18446744073709551615 - v.toNat:=by
 have:=v.toNat_lt
 have h:UInt64.size=18446744073709551616:=rfl
 rw [UInt64.toNat_not];omega
section
variable {n:Nat} {depth p c k long q:Int} {u t:UInt64} {b:Str}
theorem u8_u64 (v:UInt8):UInt64.ofInt ((v.toNat:Nat):Int)=v.toUInt64:=by
 apply UInt64.toNat_inj.1
 have:=v.toNat_lt
 rw [u64_nat,UInt8.toNat_toUInt64];omega
end
theorem ref1_High.l1_ok (b : Str) (hb : b.length ≤ 1099511627776) (a N : Int) (ha : 0 ≤ a) (hN : 0 ≤ N ∧ N ≤ 8 ∧ a + N ≤ b.length) : ∀ (m : Nat) (i : Int) (x : UInt64), 0 ≤ i → i + m = N → ref1_High.l1 b a N x i = some [.u64 (((b.drop (a + i).toNat).take m).foldl (fun v y => v * 256 + y.toUInt64) x), .b true] := by
  intro m
  induction m with
  | zero =>
    intro i x h0 hi
    refine ref1_High.l1_in _ _ _ _ _ ?_
    intro v1 e1 v2 e2 v3 e3
    rw [decide_eq_false (by omega), cond_false, List.take_zero]; rfl
  | succ m ih =>
    intro i x h0 hi
    refine ref1_High.l1_in _ _ _ _ _ ?_
    intro v1 e1 v2 e2 v3 e3
    have hw : IntKind.i64.wrap (a + i) = a + i := i64_in _ (by omega)
    rw [hw] at e1 ⊢
    have hc : (a + i).toNat < b.length := by omega
    rw [decide_eq_true (by omega), cond_true, ck_of (idx_ok (by omega) (by omega)), show v3 = i + 1 by rw [e3, i64_in _ (by omega)], ih _ _ (by omega) (by omega), drop_cons hc 0, List.take_succ_cons, List.foldl_cons, ← e1, e2, u8_u64, show (a + (i + 1)).toNat = (a + i).toNat + 1 by omega]
theorem ref1_High.goal (b : Str) (a n : Int) (hp : decide (b.length ≤ 1099511627776) = true) : ref1_High.F b a n = some [.u64 (Cur.be (Mp.rng b a n)), .b (Mp.rngOK b a n)] := by
  have h := of_decide_eq_true hp
  refine ref1_High.F_in _ _ _ ?_
  intro v1 e1 v2 e2 v3 e3 v4 e4 v5 e5
  simp only [Bool.not_or_self, Bool.or_not_self, Bool.and_self, ck_true]
  have e3' : v3 = decide (n < 1 ∨ 8 < n ∨ a < 0 ∨ (b.length : Int) < a) := by
    rw [e3, e2, e1]; by_cases x1 : n < 1 <;> by_cases x2 : 8 < n <;> by_cases x3 : a < 0 <;> by_cases x4 : (b.length : Int) < a <;> simp [x1, x2, x3, x4]
  have e5' : v5 = !Mp.rngOK b a n := by
    rw [e5, e3', Mp.rngOK]
    by_cases x : n < 1 ∨ 8 < n ∨ a < 0 ∨ (b.length : Int) < a
    · rw [decide_eq_true x, cond_true, decide_eq_false (by omega)]; rfl
    · rw [decide_eq_false x, cond_false, e4, i64_in _ (by omega)]
      by_cases y : (b.length : Int) - a < n
      · rw [decide_eq_true y, decide_eq_false (by omega)]; rfl
      · rw [decide_eq_false y, decide_eq_true (by omega)]; rfl
  rw [e5']
  cases ho : Mp.rngOK b a n with
  | false => rw [Mp.rng, ho]; rfl
  | true =>
    have ho' := of_decide_eq_true ho
    rw [Bool.not_true, cond_false, ref1_High.l1_ok b h a n (by omega) (by omega) n.toNat 0 0 (by omega) (by omega), Mp.rng, ho, cond_true, Int.add_zero]
    rfl
theorem Cur.be_snoc (l:Str) (y:UInt8):Cur.be (l++[y])=Cur.be l * 256+y.toUInt64:=by
 rw [Cur.be,List.foldl_append];rfl
theorem Itm.room3 (left a b c:Int) (ha:0≤a) (hb:0≤b) (hc:0≤c) (hl:left≤10000) :
  Book.room left [a,b,c]≤10000∧(Book.room left [a,b,c]=-1∨(Book.room left [a,b,c]=left - a - b - c∧0≤left - a - b - c)):=by
 simp only [Book.room]
 split
 ·omega
 ·split
  ·omega
  ·split <;> omega
mutual
theorem Itm.room_le : ∀ (it : Itm) (left : Int), left ≤ 10000 → Itm.room left it ≤ 10000 ∧ (0 ≤ Itm.room left it → (Itm.bulk it : Int) ≤ left - Itm.room left it)
  | .mk k n b t ks, left, hl => by
    have h1 := Itm.room3 left 2 t.length b.length (by omega) (by omega) (by omega) hl
    have h2 := Itm.rooms_le ks (Book.room left [2, (t.length : Int), (b.length : Int)]) h1.1
    simp only [Itm.room, Itm.bulk]
    refine ⟨h2.1, fun h0 => ?_⟩
    have h3 := h2.2 h0
    rcases h1.2 with e | ⟨e, e0⟩
    · omega
    · omega
theorem Itm.rooms_le : ∀ (ks : List Itm) (left : Int), left ≤ 10000 → Itm.rooms left ks ≤ 10000 ∧ (0 ≤ Itm.rooms left ks → 0 ≤ left ∧ (Itm.bulks ks : Int) ≤ left - Itm.rooms left ks)
  | [], left, hl => by simp only [Itm.rooms, Itm.bulks]; exact ⟨hl, fun h => ⟨h, by omega⟩⟩
  | k :: r, left, hl => by
    simp only [Itm.rooms, Itm.bulks]
    split
    · exact ⟨hl, fun h => by omega⟩
    · have h1 := Itm.room_le k left hl
      have h2 := Itm.rooms_le r (Itm.room left k) h1.1
      refine ⟨h2.1, fun h0 => ?_⟩
      have h3 := h2.2 h0
      have h4 := h1.2 h3.1
      exact ⟨by omega, by omega⟩
end
theorem Itm.small_bulk (it:Itm) (h:0≤Itm.room 1500 it):Itm.bulk it≤1500:=by
 have:=(Itm.room_le it 1500 (by omega)).2 h;omega
theorem book_item.l1_ok (n : Nat) (it : Itv) (hn : Itm.bulks it.kids < n) : ∀ (m i : Nat) (left : Int), i + m = it.kids.length → left ≤ 10000 → (i : Int) + left ≤ 10000 → book_item.l1 n left i it = some [.i .i64 (Itm.rooms left (it.kids.drop i))] := by
  intro m
  induction m with
  | zero =>
    intro i left hi hl hil
    refine book_item.l1_in _ _ _ _ ?_
    intro v1 e1 v2 e2 v3 e3 v4 e4
    simp only [Bool.not_or_self, ck_true]
    rw [e2, decide_eq_false (by omega), cond_false, cond_false, List.drop_of_length_le (by omega)]; rfl
  | succ m ih =>
    intro i left hi hl hil
    refine book_item.l1_in _ _ _ _ ?_
    intro v1 e1 v2 e2 v3 e3 v4 e4
    simp only [Bool.not_or_self, ck_true]
    have hi' : i < it.kids.length := by omega
    have hb' := Itm.bulks_at it.kids i hi'
    rw [Int.toNat_natCast, Itm.of_val] at e3
    rw [e2, decide_eq_true (by omega), cond_true, drop_cons hi' (STy.dflt .il), Itm.rooms]
    by_cases a : left < 0
    · rw [decide_eq_false (by omega), cond_false, if_pos a]
    · rw [decide_eq_true (by omega), cond_true, if_neg a, ck_of (idx_ok (by omega) (by omega)), Int.toNat_natCast, Itm.of_val, ck_of (by rw [decide_eq_true hl, decide_eq_true (by omega)]; rfl), show v4 = ((i + 1 : Nat) : Int) by rw [e4, i64_in _ (by omega)]; omega, e3]
      have hr := Itm.room_le (it.kids.getD i (STy.dflt .il)) left hl
      have hp := Itm.bulk_pos (it.kids.getD i (STy.dflt .il))
      refine ih _ _ (by omega) hr.1 ?_
      by_cases z : 0 ≤ Itm.room left (it.kids.getD i (STy.dflt .il))
      · have := hr.2 z; omega
      · omega
theorem book_item.goal (n:Nat) (left:Int) (it:Itv) (hp:((decide (left≤10000))&&decide ((Itm.bulk (Itm.of it))<n+1))=true):book_item.F n left it=some [.i .i64 (Itm.room left (Itm.of it))]:=by
 simp only [Bool.and_eq_true,decide_eq_true_eq] at hp
 obtain ⟨hl,hn⟩:=hp
 rw [Itm.bulk_of] at hn
 refine book_item.F_in _ _ _ ?_
 intro v1 e1 v2 e2 v3 e3
 have h3:=Itm.room3 left 2 it.text.length it.bytes.length (by omega) (by omega) (by omega) hl
 have c3:(decide (left≤10000∧v3.length≤10)&&v3.all (fun s=>decide (0≤s)))=true:=by
  rw [e3,e1,e2];simp;omega
 rw [ck_of c3,e3,e1,e2]
 have:=book_item.l1_ok n it (by omega) it.kids.length 0 (Book.room left [2,(it.text.length:Int),(it.bytes.length:Int)]) (by omega) h3.1 (by have:=h3.1;omega)
 simp only [Itm.of,Itm.room]
 exact this
theorem book_SmallItem.goal (it:Itv):book_SmallItem.F it=some [.b (decide (0≤Itm.room 1500 (Itm.of it)))]:=by
 refine book_SmallItem.F_in _ ?_
 intro v1 e1
 rw [ck_of (decide_eq_true (by omega)),e1]
theorem ref5_Same.goal (f g:Flt) (hp:decide (f.path.length≤1099511627776)=true):ref5_Same.F f g=some [.b (decide (f.err=g.err∧f.at_=g.at_∧f.path=g.path))]:=by
 refine ref5_Same.F_in _ _ ?_
 intro v1 e1 v2 e2
 simp only [hp,Bool.and_true,Bool.and_self,Bool.not_or_self,ck_true]
 rw [e2,e1]
 by_cases a:f.err=g.err <;> by_cases b:f.at_=g.at_ <;> by_cases c:f.path=g.path <;> simp [a,b,c]
end Go.Eng
namespace Go.Eng
open Go.IntWalk
theorem u64_add_ofInt (m:Nat) (hm:m<1000000) (k:Int):UInt64.ofNat m+UInt64.ofInt k=UInt64.ofInt ((m:Int)+k):=by
 apply UInt64.toNat_inj.1
 have h1:=u64_ofInt ((m:Int)+k)
 have h2:=u64_ofInt k
 rw [wrap_u64'] at h1 h2
 rw [UInt64.toNat_add,UInt64.toNat_ofNat']
 omega
theorem not_ofInt (v:Int) (h:v<0) (h2 : -9223372036854775808≤v) : ~~~(UInt64.ofInt v)=UInt64.ofInt (-(v+1)):=by
 apply UInt64.toNat_inj.1
 have h1:=u64_ofInt (-(v+1))
 have h3:=u64_ofInt v
 rw [wrap_u64'] at h1 h3
 rw [not_u64]
 omega
theorem i64_rng (x:Int) : -9223372036854775808≤IntKind.i64.wrap x∧IntKind.i64.wrap x≤9223372036854775807:=by
 simp only [IntKind.wrap,IntKind.bits,IntKind.signed]
 simp
 omega
theorem i32_rng (x:Int) : -2147483648≤IntKind.i32.wrap x∧IntKind.i32.wrap x≤2147483647:=by
 simp only [IntKind.wrap,IntKind.bits,IntKind.signed]
 simp
 omega
theorem i64_i32 (x:Int):IntKind.i64.wrap (IntKind.i32.wrap x)=IntKind.i32.wrap x:=by
 have:=i32_rng x
 exact i64_in _ (by omega)
theorem Db.item_of (n:Str) (v:Val):Db.item (Fld.of n v)=Db.itemOf v (Db.mapped v.kids) (Db.items v.kids):=by cases v;rfl
theorem Db.item_val (n:Str) (f:Fld):Db.item (Fld.of n f.val)=Db.item f:=by cases f;rfl
theorem db_text.goal (s:Str):db_text.F s=some [.ag (Itv.cells (Itm.val (Db.text s)))]:=db_text.F_eq s
theorem db_raw.goal (b:Str) (hp:decide (b.length≤1099511627776)=true):db_raw.F b=some [.ag (Itv.cells (Itm.val (Db.raw b)))]:=by
 rw [db_raw.F_eq,ck_of (big_ap (by have:=of_decide_eq_true hp;omega) (by have:=of_decide_eq_true hp;omega))];rfl
theorem db_plus.goal (n:UInt64):db_plus.F n=some [.ag (Itv.cells (Itm.val (Db.plus n)))]:=db_plus.F_eq n
theorem db_simple.goal (n:UInt64):db_simple.F n=some [.ag (Itv.cells (Itm.val (Db.simple n)))]:=db_simple.F_eq n
theorem db_list.goal (l:List Itm):db_list.F l=some [.ag (Itv.cells (Itm.val (Db.list l)))]:=db_list.F_eq l
theorem db_integer.goal (v:Int) (hp:decide (-9223372036854775808≤v∧v≤9223372036854775807)=true):db_integer.F v=some [.ag (Itv.cells (Itm.val (Db.integer v)))]:=by
 have h:=of_decide_eq_true hp
 rw [db_integer.F_eq,Db.integer]
 by_cases a:v<0
 ·rw [decide_eq_true a,cond_true,if_pos a,not_ofInt v a h.1];rfl
 ·rw [decide_eq_false a,cond_false,if_neg a];rfl
theorem db_words.j2_ok (v:Val) (x4:Itv) (acc:Str) (m:Nat) (hm:m<8) (u:UInt64) (q:Nat) (hq:q=0∨q=64) (ha:acc.length≤100):db_words.j2 acc ((8 * m+q:Nat):Int) u v x4=db_words.l1 (acc++[(shr64 u (8 * m)).toUInt8]) (((8 * m+q:Nat):Int) - 8) v x4:=by
 refine db_words.j2_in _ _ _ _ _ ?_
 intro v1 h1 v2 h2 v3 h3
 have e:Int.tmod ((8 * m+q:Nat):Int) 64=((8 * m:Nat):Int):=by
  rw [Int.tmod_eq_emod_of_nonneg (by omega)]
  rcases hq with rfl | rfl <;> omega
 rw [e,Int.toNat_natCast] at h1
 rw [ck_of (by decide),e,ck_of (decide_eq_true (by omega)),ck_of (big_ap (by simp only [List.length_singleton];omega) (by simp only [List.length_singleton];omega)),h3,i64_in _ (by omega),h2,h1,u8_of]
theorem db_words.low_ok (v : Val) (x4 : Itv) : ∀ (m : Nat) (acc : Str), m ≤ 8 → acc.length + m ≤ 50 → db_words.l1 acc (((8 * m : Nat) : Int) - 8) v x4 = some [.ag (Itv.cells (Itm.val (Db.raw (acc ++ Cur.putHigh v.low m))))]
  | 0, acc, _, ha => by
    rw [db_words.l1_eq, decide_eq_false (by omega), cond_false, ck_of (decide_eq_true (by omega)), show Cur.putHigh v.low 0 = [] from rfl, List.append_nil]
  | m + 1, acc, hm, ha => by
    rw [db_words.l1_eq, decide_eq_true (by omega), cond_true, decide_eq_true (by omega), cond_true, show ((8 * (m + 1) : Nat) : Int) - 8 = ((8 * m + 0 : Nat) : Int) by omega, db_words.j2_ok v x4 acc m (by omega) v.low 0 (.inl rfl) (by omega), Nat.add_zero]
    rw [db_words.low_ok v x4 m (acc ++ [(shr64 v.low (8 * m)).toUInt8]) (by omega) (by rw [List.length_append, List.length_singleton]; omega), Cur.putHigh_succ, List.append_assoc]; rfl
theorem db_words.high_ok (v : Val) (x4 : Itv) : ∀ (m : Nat) (acc : Str), m ≤ 8 → acc.length + m ≤ 42 → db_words.l1 acc (((8 * m + 64 : Nat) : Int) - 8) v x4 = some [.ag (Itv.cells (Itm.val (Db.raw (acc ++ Cur.putHigh v.high m ++ Cur.putHigh v.low 8))))]
  | 0, acc, _, ha => by
    rw [show Cur.putHigh v.high 0 = [] from rfl, List.append_nil]
    exact db_words.low_ok v x4 8 acc (by omega) (by omega)
  | m + 1, acc, hm, ha => by
    rw [db_words.l1_eq, decide_eq_true (by omega), cond_true, decide_eq_false (by omega), cond_false, show ((8 * (m + 1) + 64 : Nat) : Int) - 8 = ((8 * m + 64 : Nat) : Int) by omega, db_words.j2_ok v x4 acc m (by omega) v.high 64 (.inr rfl) (by omega)]
    rw [db_words.high_ok v x4 m (acc ++ [(shr64 v.high (8 * m)).toUInt8]) (by omega) (by rw [List.length_append, List.length_singleton]; omega), Cur.putHigh_succ v.high m, List.append_assoc acc]; rfl
theorem db_words.goal (v:Val):db_words.F v=some [.ag (Itv.cells (Itm.val (Db.raw (Db.words v.high v.low))))]:=by
 rw [db_words.F_eq]
 exact db_words.high_ok v _ 8 [] (by omega) (by simp)
theorem db_mapped.l1_ok (n : Nat) (l : List Fld) (hb : Fld.bulks l ≤ 1073741824) (hn : 3 * Fld.bulks l + 2 < n) (x3 : Itv) (x4 : Int) (x5 : UInt64) (x6 : Str) : ∀ (m i : Nat) (acc : List Itm), i + m = l.length → acc.length + 2 * m ≤ 2147483648 →
    db_mapped.l1 n l (l.length : Int) i x3 x4 x5 x6 acc = some [.ag [.i .i64 x4, .u64 x5, .sl .bs [], .s x6, .sl .il (acc ++ Db.mapped (l.drop i))]] := by
  have hlen := Fld.bulks_len l
  intro m
  induction m with
  | zero =>
    intro i acc hi ha
    refine db_mapped.l1_in _ _ _ _ _ _ _ _ _ ?_
    intro v1 h1 v2 h2 v3 h3
    rw [decide_eq_false (by omega), cond_false, List.drop_of_length_le (by omega), Db.mapped, List.append_nil]
  | succ m ih =>
    intro i acc hi ha
    refine db_mapped.l1_in _ _ _ _ _ _ _ _ _ ?_
    intro v1 h1 v2 h2 v3 h3
    rw [Int.toNat_natCast] at h1
    have hg := Fld.bulks_get l i (STy.dflt .fl) (by omega)
    rw [← h1] at hg
    have hv := Fld.bulk_val v1
    have h2' : v2 = [Db.text v1.name, Db.item v1] := by rw [h2, Itm.of_val, Itm.of_val, Db.item_val]
    rw [decide_eq_true (by omega), cond_true, ck_of (idx_ok (by omega) (by omega)), decide_eq_true (show 3 * Fld.bulk (Fld.of [] v1.val) + 2 < n by omega), decide_eq_true (show Fld.bulk (Fld.of [] v1.val) ≤ 1073741824 by omega), Bool.and_self, ck_true,
      ck_of (big_ap (by rw [h2']; simp only [List.length_cons, List.length_nil]; omega) (by rw [h2']; simp only [List.length_cons, List.length_nil]; omega)), show v3 = ((i + 1 : Nat) : Int) by rw [h3, i64_in _ (by omega)]; omega, h2', ih _ _ (by omega) (by simp only [List.length_append, List.length_cons, List.length_nil]; omega), drop_cons (l := l) (i := i) (by omega) (STy.dflt .fl), ← h1, Db.mapped, List.append_assoc]; rfl
theorem db_mapped.goal (n:Nat) (l:List Fld) (hp:((decide (Fld.bulks l≤1073741824))&&decide ((3 * Fld.bulks l+3)<n+1))=true):db_mapped.F n l=some [.ag (Itv.cells (Itm.val (Db.map (Db.mapped l))))]:=by
 simp only [Bool.and_eq_true,decide_eq_true_eq] at hp
 have hlen:=Fld.bulks_len l
 rw [db_mapped.F_eq]
 have:=db_mapped.l1_ok n l hp.1 (by omega) (Itv.mk 0 0 [] [] []) 6 0 [] l.length 0 [] (by omega) (by simp;omega)
 rw [List.drop_zero,List.nil_append] at this
 exact this
theorem db_item.l1_ok (n : Nat) (l : List Fld) (hb : Fld.bulks l ≤ 1073741824) (hn : 3 * Fld.bulks l + 2 < n) (x3 : Itv) : ∀ (m i : Nat) (x4 : Itv), i + m = l.length → x4.kids.length + m ≤ 2147483648 →
    db_item.l1 n l (l.length : Int) i x3 x4 = some [.ag (Itv.cells ⟨x4.kind, x4.n, x4.bytes, x4.text, x4.kids ++ Db.items (l.drop i)⟩)] := by
  have hlen := Fld.bulks_len l
  intro m
  induction m with
  | zero =>
    intro i x4 hi ha
    refine db_item.l1_in _ _ _ _ _ _ ?_
    intro v1 h1 v2 h2 v3 h3
    rw [decide_eq_false (by omega), cond_false, List.drop_of_length_le (by omega), Db.items, List.append_nil]
  | succ m ih =>
    intro i x4 hi ha
    refine db_item.l1_in _ _ _ _ _ _ ?_
    intro v1 h1 v2 h2 v3 h3
    rw [Int.toNat_natCast] at h1
    have hg := Fld.bulks_get l i (STy.dflt .fl) (by omega)
    rw [← h1] at hg
    have hv := Fld.bulk_val v1
    have h2' : v2 = [Db.item v1] := by rw [h2, Itm.of_val, Db.item_val]
    rw [decide_eq_true (by omega), cond_true, ck_of (idx_ok (by omega) (by omega)), decide_eq_true (show 3 * Fld.bulk (Fld.of [] v1.val) + 2 < n by omega), decide_eq_true (show Fld.bulk (Fld.of [] v1.val) ≤ 1073741824 by omega), Bool.and_self, ck_true,
      ck_of (big_ap (by rw [h2']; simp only [List.length_cons, List.length_nil]; omega) (by rw [h2']; simp only [List.length_cons, List.length_nil]; omega)), show v3 = ((i + 1 : Nat) : Int) by rw [h3, i64_in _ (by omega)]; omega, h2', ih _ _ (by omega) (by simp only [List.length_append, List.length_cons, List.length_nil]; omega), drop_cons (l := l) (i := i) (by omega) (STy.dflt .fl), ← h1, Db.items, List.append_assoc]; rfl
theorem Val.lens (v:Val) (m:Nat) (h:Fld.bulk (Fld.of [] v)≤m):v.bytes.length<m∧Fld.bulks v.kids<m∧v.kids.length<m:=by
 have:=Fld.bulks_len v.kids
 simp only [Fld.of,Fld.bulk] at h;omega
theorem db_tagged.j2_ok (n:Nat) (x0:Int) (x1:Bool) (v:Val) (x3:Itv) (hx:x0=v.kind) (hb:Fld.bulks v.kids≤1073741824) (hn:3 * Fld.bulks v.kids+3<n) (h1:x1=decide (v.kind=13∨v.kind=14)) (hk:v.kind≠4∧v.kind≠5∧v.kind≠7∧¬(v.kind=9∨v.kind=18)∧v.kind≠11∧v.kind≠12) :
  db_tagged.j2 n x0 x1 v x3=some [.ag (Itv.cells (Itm.val (Db.tagged v (Db.mapped v.kids))))]:=by
 obtain ⟨a4,a5,a7,a9,a11,a12⟩:=hk
 refine db_tagged.j2_in _ _ _ _ _ ?_
 intro v1 e1
 rw [h1,hx,Db.tagged,if_neg a4,if_neg a5,if_neg a7,if_neg a9,if_neg a11,if_neg a12]
 by_cases a:v.kind=13∨v.kind=14
 ·rw [decide_eq_true a,cond_true,if_pos a]
 rw [decide_eq_false a,cond_false,if_neg a]
 by_cases a:v.kind=15
 ·rw [decide_eq_true a,cond_true,if_pos a,ck_of (by rw [decide_eq_true hb,decide_eq_true hn];rfl),e1,Itm.of_val,Itm.of_val]
 rw [decide_eq_false a,cond_false,if_neg a]
 by_cases a:v.kind=17
 ·rw [decide_eq_true a,cond_true,if_pos a]
 rw [decide_eq_false a,cond_false,if_neg a]
 by_cases a:v.kind=19
 ·rw [decide_eq_true a,cond_true,if_pos a]
 rw [decide_eq_false a,cond_false,if_neg a]
theorem db_tagged.j1_ok (n:Nat) (x0:Int) (x1:Bool) (v:Val) (x3:Itv) (hx:x0=v.kind) (hb:Fld.bulks v.kids≤1073741824) (hy:v.bytes.length≤1099511627776) (hn:3 * Fld.bulks v.kids+3<n) (h1:x1=decide (v.kind=9∨v.kind=18)) (hk:v.kind≠4∧v.kind≠5∧v.kind≠7) :
  db_tagged.j1 n x0 x1 v x3=some [.ag (Itv.cells (Itm.val (Db.tagged v (Db.mapped v.kids))))]:=by
 obtain ⟨a4,a5,a7⟩:=hk
 refine db_tagged.j1_in _ _ _ _ _ ?_
 intro v1 e1 v2 e2 v3 e3
 by_cases a:v.kind=9∨v.kind=18
 ·rw [h1,decide_eq_true a,cond_true,Db.tagged,if_neg a4,if_neg a5,if_neg a7,if_pos a,e1,ck_of (decide_eq_true (i64_rng _))];rfl
 rw [h1,decide_eq_false a,cond_false,hx]
 by_cases a11:v.kind=11
 ·rw [decide_eq_true a11,cond_true,Db.tagged,if_neg a4,if_neg a5,if_neg a7,if_neg a,if_pos a11,e2,Itm.of_val,Itm.of_val]
 rw [decide_eq_false a11,cond_false]
 by_cases a12:v.kind=12
 ·rw [decide_eq_true a12,cond_true,Db.tagged,if_neg a4,if_neg a5,if_neg a7,if_neg a,if_neg a11,if_pos a12,ck_of (decide_eq_true hy),e3,Itm.of_val,Itm.of_val]
 rw [decide_eq_false a12,cond_false]
 have J:=fun b hb'=>db_tagged.j2_ok n v.kind b v x3 rfl hb hn hb' ⟨a4,a5,a7,a,a11,a12⟩
 by_cases a13:v.kind=13
 ·rw [decide_eq_true a13,cond_true];exact J _ (by rw [decide_eq_true (.inl a13)])
 ·rw [decide_eq_false a13,cond_false];exact J _ (by simp [a13])
theorem db_tagged.goal (n:Nat) (v:Val) (hp:((decide (Fld.bulk (Fld.of [] v)≤1073741824))&&decide ((3 * Fld.bulk (Fld.of [] v)+1)<n+1))=true):db_tagged.F n v=some [.ag (Itv.cells (Itm.val (Db.tagged v (Db.mapped v.kids))))]:=by
 simp only [Bool.and_eq_true,decide_eq_true_eq] at hp
 obtain ⟨hb,hn⟩:=hp
 obtain ⟨l1,l2,l3⟩:=Val.lens v _ hb
 have hk:Fld.bulks v.kids<Fld.bulk (Fld.of [] v):=by simp only [Fld.of,Fld.bulk];omega
 refine db_tagged.F_in _ _ ?_
 intro v1 e1
 by_cases a4:v.kind=4
 ·rw [decide_eq_true a4,cond_true,ck_of (by rw [decide_eq_true (show Fld.bulks v.kids≤1073741824 by omega),decide_eq_true (show 3 * Fld.bulks v.kids+3<n by omega)];rfl),Db.tagged,if_pos a4]
 rw [decide_eq_false a4,cond_false]
 by_cases a5:v.kind=5
 ·rw [decide_eq_true a5,cond_true,ck_of (decide_eq_true (by omega)),Db.tagged,if_neg a4,if_pos a5,e1,Itm.of_val,Itm.of_val]
 rw [decide_eq_false a5,cond_false]
 by_cases a7:v.kind=7
 ·rw [decide_eq_true a7,cond_true,ck_of (decide_eq_true (by omega)),Db.tagged,if_neg a4,if_neg a5,if_pos a7]
 rw [decide_eq_false a7,cond_false]
 have J:=fun b hb'=>db_tagged.j1_ok n v.kind b v (Itv.mk 0 0 [] [] []) rfl (by omega) (by omega) (by omega) hb' ⟨a4,a5,a7⟩
 by_cases a9:v.kind=9
 ·rw [decide_eq_true a9,cond_true];exact J _ (by rw [decide_eq_true (.inl a9)])
 ·rw [decide_eq_false a9,cond_false];exact J _ (by simp [a9])
theorem db_item.j2_ok (n:Nat) (v:Val) (x1:Itv) (hb:Fld.bulk (Fld.of [] v)≤1073741824) (hn:3 * Fld.bulk (Fld.of [] v)+1<n):db_item.j2 n v x1=some [.ag (Itv.cells (Itm.val (.mk 7 (UInt64.ofInt (1000+v.kind)) [] [] [Db.tagged v (Db.mapped v.kids)])))]:=by
 refine db_item.j2_in _ _ _ ?_
 intro v1 e1 v2 e2
 have h1:v1=UInt64.ofInt (1000+v.kind):=by rw [e1];exact u64_add_ofInt 1000 (by omega) v.kind
 rw [ck_of (by rw [decide_eq_true hb,decide_eq_true hn];rfl),h1,e2,Itm.of_val];rfl
theorem db_item.goal (n:Nat) (v:Val) (hp:((decide (Fld.bulk (Fld.of [] v)≤1073741824))&&decide ((3 * Fld.bulk (Fld.of [] v)+2)<n+1))=true):db_item.F n v=some [.ag (Itv.cells (Itm.val (Db.item (Fld.of [] v))))]:=by
 simp only [Bool.and_eq_true,decide_eq_true_eq] at hp
 obtain ⟨hb,hn⟩:=hp
 obtain ⟨l1,l2,l3⟩:=Val.lens v _ hb
 have hk:Fld.bulks v.kids<Fld.bulk (Fld.of [] v):=by simp only [Fld.of,Fld.bulk];omega
 have J:=db_item.j2_ok n v (Itv.mk 0 0 [] [] []) hb (by omega)
 refine db_item.F_in _ _ ?_
 intro v1 e1 v2 e2 v3 e3 v4 e4
 rw [Db.item_of,Db.itemOf]
 by_cases a:v.kind=1
 ·rw [decide_eq_true a,cond_true,if_pos a];rfl
 rw [decide_eq_false a,cond_false,if_neg a]
 by_cases a:v.kind=2
 ·rw [decide_eq_true a,cond_true,if_pos a]
 rw [decide_eq_false a,cond_false,if_neg a]
 by_cases a:v.kind=3
 ·rw [decide_eq_true a,cond_true,if_pos a,ck_of (by rw [decide_eq_true (show Fld.bulks v.kids≤1073741824 by omega),decide_eq_true (show 3 * Fld.bulks v.kids+3<n by omega)];rfl)]
 rw [decide_eq_false a,cond_false,if_neg a]
 by_cases a:v.kind=4
 ·rw [decide_eq_true a,cond_true,ck_of (decide_eq_true (by omega)),e1]
  by_cases r:Tree.regular v.kids=true
  ·rw [r,cond_true,if_pos ⟨a,rfl⟩,e2]
   have:=db_item.l1_ok n v.kids (by omega) (by omega) (Itv.mk 0 0 [] [] []) v.kids.length 0 ⟨5,0,[],[],[]⟩ (by omega) (by simp only [List.length_nil];omega)
   rw [List.drop_zero,List.nil_append] at this
   exact this
  ·rw [Bool.eq_false_iff.2 r,cond_false,if_neg (fun h=>absurd h.2 (by simp)),if_neg (by omega),if_neg (by omega),if_neg (by omega),if_neg (by omega),if_neg (by omega)]
   exact J
 rw [decide_eq_false a,cond_false,if_neg (fun h=>a h.1)]
 by_cases a:v.kind=5
 ·rw [decide_eq_true a,cond_true]
  by_cases r:v.sub=0
  ·rw [decide_eq_true r,cond_true,if_pos ⟨a,r⟩,ck_of (decide_eq_true (by omega))]
  ·rw [decide_eq_false r,cond_false,if_neg (fun h=>r h.2),if_neg (by omega),if_neg (by omega),if_neg (by omega),if_neg (by omega)]
   exact J
 rw [decide_eq_false a,cond_false,if_neg (fun h=>a h.1)]
 by_cases a:v.kind=6
 ·rw [decide_eq_true a,cond_true,if_pos a]
 rw [decide_eq_false a,cond_false,if_neg a]
 by_cases a:v.kind=10
 ·rw [decide_eq_true a,cond_true,if_pos a]
 rw [decide_eq_false a,cond_false,if_neg a]
 by_cases a:v.kind=8
 ·rw [decide_eq_true a,cond_true,if_pos a,e3]
 rw [decide_eq_false a,cond_false,if_neg a]
 by_cases a:v.kind=16
 ·rw [decide_eq_true a,cond_true,if_pos a,ck_of (decide_eq_true (i64_rng _)),e4,i64_i32];rfl
 rw [decide_eq_false a,cond_false,if_neg a]
 exact J
theorem db_Item.goal (v:Val) (hp:decide (Fld.bulk (Fld.of [] v)≤1073741824)=true):db_Item.F v=some [.ag (Itv.cells (Itm.val (Db.enc v).1)),.ag (Flt.cells (Db.enc v).2)]:=by
 have hb:=of_decide_eq_true hp
 obtain ⟨l1,l2,l3⟩:=Val.lens v _ hb
 refine db_Item.F_in _ ?_
 intro v1 e1 v2 e2
 rw [ck_of (decide_eq_true (by omega)),Db.enc,←e1,←e2]
 by_cases a:v2=0
 ·rw [decide_eq_true a,Bool.not_true,cond_false,if_neg (fun h=>h a)]
  by_cases b:v.kind=3
  ·rw [decide_eq_true b,Bool.not_true,cond_false,if_neg (fun h=>h b),ck_of (decide_eq_true (by omega))];rfl
  ·rw [decide_eq_false b,Bool.not_false,cond_true,if_pos b];rfl
 ·rw [decide_eq_false a,Bool.not_false,cond_true,if_pos a];rfl
end Go.Eng
namespace Go.Eng
open Go.IntWalk
theorem cb_fields.j2_ok (a:Int) (ok:Bool) (it:Itv):cb_fields.j2 a ok it=some [.b (ok&&decide (it.n=0)&&decide (it.bytes=[])&&decide (it.text=[])&&decide (a=0))]:=by
 refine cb_fields.j2_in _ _ _ ?_
 intro v1 e1 v2 e2 v3 e3 v4 e4 v5 e5
 simp only [Bool.not_or_self,ck_true]
 rw [e5,e4,e3,e2,e1]
 cases ok <;> simp [Bool.cond_false_right]
theorem cb_fields.goal (it:Itv) (hp:decide (Itm.bulk (Itm.of it)≤1099511627776)=true):cb_fields.F it=some [.b (Cb.fieldsOK (Itm.of it))]:=by
 obtain ⟨k,n,b,t,ks⟩:=it
 refine cb_fields.F_in _ ?_
 intro v1 e1
 simp only at e1
 have hl:((ks.length:Int)=0)=(ks=[]):=by simp
 have hmod:Int.tmod (ks.length:Int) 2=((ks.length % 2:Nat):Int):=rfl
 have key:∀x4:Bool,x4=decide (k=1∨k=2∨k=9)→cb_fields.j1 v1 true k x4 ⟨k,n,b,t,ks⟩=some [.b (Cb.fieldsOK (Itm.of ⟨k,n,b,t,ks⟩))]:=by
  intro x4 hx
  refine cb_fields.j1_in _ _ _ _ _ ?_
  intro u1 f1
  simp only at f1
  simp only [Bool.not_or_self,ck_true]
  subst e1
  simp only [Cb.fieldsOK,Itm.of]
  by_cases k1:k=1∨k=2∨k=9
  ·rw [hx,decide_eq_true k1,cond_true,cb_fields.j2_ok]
   rcases k1 with rfl | rfl | rfl <;> simp [hl,Bool.and_assoc]
  rw [hx,decide_eq_false k1,cond_false]
  by_cases k3:k=3
  ·subst k3;rw [decide_eq_true rfl,cond_true,cb_fields.j2_ok]
   simp [hl,Bool.and_assoc]
  rw [decide_eq_false k3,cond_false]
  by_cases k4:k=4
  ·subst k4;rw [decide_eq_true rfl,cond_true,cb_fields.j2_ok]
   simp [hl,Bool.and_assoc]
  rw [decide_eq_false k4,cond_false]
  by_cases k5:k=5
  ·subst k5;rw [decide_eq_true rfl,cond_true,cb_fields.j2_ok]
   simp [hl,Bool.and_assoc]
  rw [decide_eq_false k5,cond_false]
  by_cases k6:k=6
  ·subst k6;rw [decide_eq_true rfl,cond_true,ck_of (by decide),cb_fields.j2_ok,hmod]
   rw [show decide (((ks.length % 2:Nat):Int)=0)=decide (ks.length % 2=0) from decide_eq_decide.2 (by omega)]
   by_cases a:ks.length % 2=0 <;> by_cases c:n=0 <;> by_cases d:b=[] <;> by_cases e:t=[] <;> simp [a,c,d,e]
  rw [decide_eq_false k6,cond_false]
  by_cases k7:k=7
  ·subst k7;rw [decide_eq_true rfl,cond_true,cb_fields.j2_ok]
   rw [show decide ((ks.length:Int)=1)=decide (ks.length=1) from decide_eq_decide.2 (by omega)]
   by_cases a:ks.length=1 <;> by_cases d:b=[] <;> by_cases e:t=[] <;> simp [a,d,e]
  rw [decide_eq_false k7,cond_false]
  by_cases k8:k=8
  ·subst k8;rw [decide_eq_true rfl,cond_true,cb_fields.j2_ok,f1]
   by_cases a:20≤n <;> by_cases c:n≤23 <;> by_cases d:b=[] <;> by_cases e:t=[] <;> by_cases f:ks=[] <;> simp [a,c,d,e,f]
  rw [decide_eq_false k8,cond_false,cb_fields.j2_ok]
  simp only [not_or] at k1
  by_cases c:n=0 <;> by_cases d:b=[] <;> by_cases e:t=[] <;> by_cases f:ks=[] <;> simp [c,d,e,f,k1.1,k1.2.1,k1.2.2,k3,k4,k5,k6,k7,k8]
 by_cases k1:k=1
 ·rw [decide_eq_true k1,cond_true];exact key _ (by simp [k1])
 rw [decide_eq_false k1,cond_false]
 by_cases k2:k=2
 ·rw [decide_eq_true k2,cond_true];exact key _ (by simp [k2])
 rw [decide_eq_false k2,cond_false]
 exact key _ (by simp [k1,k2])
theorem Cb.own_eq (it:Itv):Cb.own (Itm.of it)=if it.kind<1∨9<it.kind then 5 else if Cb.fieldsOK (Itm.of it)=false then 1 else if Utf.whole it.text then 0 else 4:=by
 obtain ⟨k,n,b,t,ks⟩:=it
 simp only [Cb.own,Cb.fieldsOK,Itm.of]
 by_cases h0:k<1∨9<k
 ·rw [if_pos h0,if_pos h0]
 rw [if_neg h0,if_neg h0]
 have hk:k=1∨k=2∨k=3∨k=4∨k=5∨k=6∨k=7∨k=8∨k=9:=by omega
 rcases hk with rfl | rfl | rfl | rfl | rfl | rfl | rfl | rfl | rfl <;> simp <;> grind
theorem Cb.chks_at:∀(ks:List Itm) (i:Nat),i<ks.length→Cb.chks (ks.drop i)=if Cb.chk (ks.getD i (STy.dflt .il))=0 then Cb.chks (ks.drop (i+1)) else Cb.chk (ks.getD i (STy.dflt .il)):=by
 intro ks i h
 rw [drop_cons h (STy.dflt .il),Cb.chks]
theorem cb_Check.l1_ok (n : Nat) (ks : List Itm) (hb : Itm.bulks ks ≤ 1099511627776) (hn : Itm.bulks ks < n) : ∀ (m i : Nat), i + m = ks.length → cb_Check.l1 n ks (ks.length : Int) i = some [.i .i64 (Cb.chks (ks.drop i))] := by
  have hk := Itm.bulk_kids ks
  intro m
  induction m with
  | zero =>
    intro i hi
    refine cb_Check.l1_in _ _ _ _ ?_
    intro v1 e1 v2 e2
    rw [decide_eq_false (by omega), cond_false, List.drop_of_length_le (by omega)]; rfl
  | succ m ih =>
    intro i hi
    refine cb_Check.l1_in _ _ _ _ ?_
    intro v1 e1 v2 e2
    have hi' : i < ks.length := by omega
    have hb' := Itm.bulks_at ks i hi'
    rw [Int.toNat_natCast, Itm.of_val] at e1
    rw [decide_eq_true (by omega), cond_true, ck_of (idx_ok (by omega) (by omega)), Int.toNat_natCast, Itm.of_val, ck_of (by rw [decide_eq_true (by omega), decide_eq_true (by omega)]; rfl), Cb.chks_at ks i hi', ← e1]
    by_cases a : v1 = 0
    · rw [decide_eq_true a, Bool.not_true, cond_false, if_pos a, show v2 = ((i + 1 : Nat) : Int) by rw [e2, i64_in _ (by omega)]; omega, ih _ (by omega)]
    · rw [decide_eq_false a, Bool.not_false, cond_true, if_neg a]
theorem Cb.chk_of (it:Itv):Cb.chk (Itm.of it)=if Cb.own (Itm.of it)=0 then Cb.chks it.kids else Cb.own (Itm.of it):=by rw [Itm.of,Cb.chk]
theorem cb_Check.goal (n : Nat) (it : Itv) (hp : ((decide (Itm.bulk (Itm.of it) ≤ 1099511627776)) && decide ((Itm.bulk (Itm.of it)) < n + 1)) = true) : cb_Check.F n it = some [.i .i64 (Cb.chk (Itm.of it))] := by
  simp only [Bool.and_eq_true, decide_eq_true_eq] at hp
  obtain ⟨h, hn⟩ := hp
  rw [Itm.bulk_of] at h hn
  refine cb_Check.F_in _ _ ?_
  intro v1 e1 v2 e2 v3 e3 v4 e4
  simp only [Bool.not_or_self, Bool.or_not_self, ck_true]
  rw [ck_of (decide_eq_true (by rw [Itm.bulk_of]; omega)), ck_of (big_len (by omega)), ck_of (decide_eq_true (by omega)), e4, e3]
  have hl := cb_Check.l1_ok n it.kids (by omega) (by omega) it.kids.length 0 (by omega)
  rw [show cb_Check.l1 n it.kids (it.kids.length : Int) 0 = some [.i .i64 (Cb.chks it.kids)] from hl, Cb.chk_of, Cb.own_eq]
  have hv : v1 = decide (it.kind < 1 ∨ 9 < it.kind) := by
    rw [e1]
    by_cases a : it.kind < 1 <;> by_cases b : 9 < it.kind <;> simp [a, b]
  rw [hv]
  by_cases h0 : it.kind < 1 ∨ 9 < it.kind
  · rw [decide_eq_true h0, cond_true, if_pos h0]; rfl
  rw [decide_eq_false h0, cond_false, if_neg h0]
  cases hf : Cb.fieldsOK (Itm.of it) with
  | false => rfl
  | true =>
    cases hw : Utf.whole it.text <;> rfl
theorem ref28_own.goal (it:Itv) (hp:decide (Itm.bulk (Itm.of it)≤1099511627776)=true):ref28_own.F it=some [.i .i64 (Cb.own (Itm.of it))]:=by
 have h:=of_decide_eq_true hp
 rw [Itm.bulk_of] at h
 have hks:=Itm.bulk_kids it.kids
 obtain ⟨k,n,b,t,ks⟩:=it
 simp only at h hks
 refine ref28_own.F_in _ ?_
 intro v1 h1 v2 h2 v3 h3 v4 h4 v5 h5 v6 h6 v7 h7 v8 h8 v9 h9 v10 h10 v11 h11 v12 h12 v13 h13 v14 h14 v15 h15 v16 h16 v17 h17 v18 h18 v19 h19 v20 h20 v21 h21 v22 h22 v23 h23 v24 h24
 simp only at h1 h2 h3 h4 h5 h6 h7 h8 h9 h10 h11 h12 h13 h14 h15 h16 h17 h18 h19 h20 h21 h22 h23 h24 ⊢
 subst h6 h9 h16 h19 h21
 simp only [Bool.not_or_self,Bool.or_not_self,Bool.and_self,ck_true,ck4,ck5,Bool.and_true,show (!decide ((2:Int)=0))=true from rfl,decide_eq_true (show t.length≤1099511627776 by omega)]
 have l0:∀{α:Type} (l:List α),decide ((0:Int)<(l.length:Int))=decide (l≠[]):=by
  intro α l;rw [decide_eq_decide];cases l <;> simp <;> omega
 have e4:v4=decide (k<1∨9<k):=by
  rw [h4];by_cases a:k<1 <;> by_cases c:9<k <;> simp [a,c]
 have e3:v3=decide (¬(k=3∨k=4∨k=5∨k=6)):=by
  rw [h3,h2,h1];by_cases a:k=3 <;> by_cases c:k=4 <;> by_cases d:k=5 <;> by_cases e:k=6 <;> simp [a,c,d,e]
 have e11:v11=decide (((k=3∨k=4∨k=5∨k=6)∧n≠0)∨(k≠3∧b≠[])∨(k≠4∧t≠[])):=by
  rw [h11,h10,h8,h5,e3,h7,l0]
  by_cases a:k=3∨k=4∨k=5∨k=6 <;> by_cases c:n=0 <;> by_cases d:k=3 <;> by_cases f:b=[] <;> by_cases g:k=4 <;> by_cases g':t=[] <;> simp [a,c,d,f,g,g']
 have e15:v15=decide (k≠5∧k≠6∧k≠7∧ks≠[]):=by
  rw [h15,h13,h12,h14,l0]
  by_cases d:k=5 <;> by_cases e:k=6 <;> by_cases e7:k=7 <;> by_cases f:ks=[] <;> simp [d,e,e7,f]
 have e23:v23=decide ((k=8∧(n<20∨23<n))∨(k=6∧ks.length % 2≠0)∨(k=7∧ks.length≠1)):=by
  rw [h23,h22,h20,h18,h17,h14,show Int.tmod (ks.length:Int) 2=((ks.length % 2:Nat):Int) from rfl,show decide (((ks.length % 2:Nat):Int)=0)=decide (ks.length % 2=0) from decide_eq_decide.2 (by omega),show decide ((ks.length:Int)=1)=decide (ks.length=1) from decide_eq_decide.2 (by omega)]
  by_cases c:k=8 <;> by_cases e:k=6 <;> by_cases d:k=7 <;> by_cases g:n<20 <;> by_cases g':23<n <;> by_cases g3:ks.length % 2=0 <;> by_cases g4:ks.length=1 <;> simp only [c,d,e,g,g',g3,g4,decide_true,decide_false,cond_true,cond_false,Bool.not_true,Bool.not_false,true_and,false_and,and_true,and_false,true_or,or_true,or_false,false_or,or_self,not_true,not_false_iff,ne_eq] <;> first | rfl | omega
 rw [e4,e11,e15,e23,h24,Itm.of,Cb.own]
 by_cases a1:k<1∨9<k
 ·rw [decide_eq_true a1,if_pos a1];rfl
 rw [decide_eq_false a1,if_neg a1,cond_false]
 by_cases a2:((k=3∨k=4∨k=5∨k=6)∧n≠0)∨(k≠3∧b≠[])∨(k≠4∧t≠[])
 ·rw [decide_eq_true a2,if_pos a2];rfl
 rw [decide_eq_false a2,if_neg a2,cond_false]
 by_cases a3:k≠5∧k≠6∧k≠7∧ks≠[]
 ·rw [decide_eq_true a3,if_pos a3];rfl
 rw [decide_eq_false a3,if_neg a3,cond_false]
 by_cases a4:(k=8∧(n<20∨23<n))∨(k=6∧ks.length % 2≠0)∨(k=7∧ks.length≠1)
 ·rw [decide_eq_true a4,if_pos a4];rfl
 rw [decide_eq_false a4,if_neg a4,cond_false]
 cases hw:Utf.whole t <;> rfl
theorem ref28_Check.l1_ok (n : Nat) (it : Itv) (hb : Itm.bulks it.kids ≤ 1099511627776) (hn : Itm.bulks it.kids < n) : ∀ (m i : Nat) (e : Int), i + m = it.kids.length → ref28_Check.l1 n e i it = some [.i .i64 (if e = 0 then Cb.chks (it.kids.drop i) else e)] := by
  have hk := Itm.bulk_kids it.kids
  intro m
  induction m with
  | zero =>
    intro i e hi
    refine ref28_Check.l1_in _ _ _ _ ?_
    intro v1 e1 v2 e2 v3 e3 v4 e4
    simp only [Bool.not_or_self, ck_true]
    rw [e2, decide_eq_false (by omega), cond_false, cond_false, List.drop_of_length_le (by omega)]
    split
    · rename_i h; rw [h]; rfl
    · rfl
  | succ m ih =>
    intro i e hi
    refine ref28_Check.l1_in _ _ _ _ ?_
    intro v1 e1 v2 e2 v3 e3 v4 e4
    simp only [Bool.not_or_self, ck_true]
    have hi' : i < it.kids.length := by omega
    have hb' := Itm.bulks_at it.kids i hi'
    rw [Int.toNat_natCast, Itm.of_val] at e3
    rw [e2, decide_eq_true (by omega), cond_true]
    by_cases a : e = 0
    · rw [decide_eq_true a, cond_true, if_pos a, ck_of (idx_ok (by omega) (by omega)), Int.toNat_natCast, Itm.of_val, ck_of (by rw [decide_eq_true (by omega), decide_eq_true (by omega)]; rfl), show v4 = ((i + 1 : Nat) : Int) by rw [e4, i64_in _ (by omega)]; omega, ih _ _ (by omega), e3, Cb.chks_at it.kids i hi']
    · rw [decide_eq_false a, cond_false, if_neg a]
theorem ref28_Check.goal (n:Nat) (it:Itv) (hp:((decide (Itm.bulk (Itm.of it)≤1099511627776))&&decide ((Itm.bulk (Itm.of it))<n+1))=true):ref28_Check.F n it=some [.i .i64 (Cb.chk (Itm.of it))]:=by
 simp only [Bool.and_eq_true,decide_eq_true_eq] at hp
 obtain ⟨h,hn⟩:=hp
 rw [ref28_Check.F_eq,ck_of (decide_eq_true h)]
 rw [Itm.bulk_of] at h hn
 have hl:=ref28_Check.l1_ok n it (by omega) (by omega) it.kids.length 0 (Cb.own (Itm.of it)) (by omega)
 rw [Cb.chk_of]
 exact hl
end Go.Eng
namespace Go.Eng
open Go.IntWalk
theorem db_none.goal (path:List Int) (hp:decide (path.length≤1099511627776)=true):db_none.F path=some [.ag (Flt.cells (Flt.mk 12 0 path)),.sl .is path]:=by
 have:=of_decide_eq_true hp
 rw [db_none.F_eq,ck_of (big_ap (by omega) (by omega))];rfl
theorem n63 {n:UInt64} (h:¬(9223372036854775808:UInt64)≤n):n.toNat<9223372036854775808:=UInt64.lt_iff_toNat_lt.1 (UInt64.not_le.1 h)
theorem Db.number_of (it:Itv):Db.number (Itm.of it)=if 9223372036854775808≤it.n then none else if it.kind=1 then some (it.n.toNat:Int) else if it.kind=2 then some (-1 - (it.n.toNat:Int)) else none:=rfl
theorem Db.numberI_of (it:Itv):Db.numberI (Itm.of it)=if 9223372036854775808≤it.n then 0 else if it.kind=2 then -1 - (it.n.toNat:Int) else (it.n.toNat:Int):=rfl
theorem db_number.goal (it:Itv):db_number.F it=some [.i .i64 ((Db.number (Itm.of it)).getD 0),.b (Db.number (Itm.of it)).isSome]:=by
 refine db_number.F_in _ ?_
 intro v1 h1 v2 h2
 rw [Db.number_of]
 by_cases a:9223372036854775808≤it.n
 ·rw [decide_eq_true a,cond_true,if_pos a];rfl
 have hn:=n63 a
 have e1:v1=(it.n.toNat:Int):=by rw [h1,i64_in _ (by omega)]
 rw [decide_eq_false a,cond_false,if_neg a]
 by_cases b:it.kind=1
 ·rw [decide_eq_true b,cond_true,if_pos b,e1];rfl
 rw [decide_eq_false b,cond_false,if_neg b]
 by_cases c:it.kind=2
 ·rw [decide_eq_true c,cond_true,if_pos c,h2,e1,i64_in _ (by omega)];rfl
 rw [decide_eq_false c,cond_false,if_neg c];rfl
theorem ref28_Number.goal (it:Itv):ref28_Number.F it=some [.i .i64 (Db.numberI (Itm.of it)),.b (Db.number (Itm.of it)).isSome]:=by
 refine ref28_Number.F_in _ ?_
 intro v1 h1 v2 h2
 rw [Db.number_of,Db.numberI_of]
 by_cases a:9223372036854775808≤it.n
 ·rw [decide_eq_true a,cond_true,if_pos a,if_pos a];rfl
 have hn:=n63 a
 have e1:v1=(it.n.toNat:Int):=by rw [h1,i64_in _ (by omega)]
 rw [decide_eq_false a,cond_false,if_neg a,if_neg a]
 by_cases c:it.kind=2
 ·rw [decide_eq_true c,cond_true,if_pos c,h2,e1,i64_in (0 - (it.n.toNat:Int)) (by omega),i64_in _ (by omega),if_neg (by omega),if_pos c,show (0:Int) - (it.n.toNat:Int) - 1=-1 - (it.n.toNat:Int) by omega];rfl
 rw [decide_eq_false c,cond_false,if_neg c,e1]
 by_cases b:it.kind=1
 ·rw [decide_eq_true b,if_pos b];rfl
 ·rw [decide_eq_false b,if_neg b,if_neg c];rfl
theorem Db.numberI_eq (it:Itm) (h:(Db.number it).isSome=true):Db.numberI it=(Db.number it).getD 0:=by
 unfold Db.number Db.numberI at *
 by_cases a:9223372036854775808≤it.n
 ·rw [if_pos a] at h;cases h
 rw [if_neg a] at h ⊢
 rw [if_neg a]
 by_cases b:it.kind=1
 ·rw [if_pos b,if_neg (by omega)];rfl
 rw [if_neg b] at h ⊢
 by_cases c:it.kind=2
 ·rw [if_pos c,if_pos c];rfl
 rw [if_neg c] at h;cases h
theorem db_kinds.goal (it:Itv) (a b:Int):db_kinds.F it a b=some [.b (Db.kinds (Itm.of it) a b)]:=by
 refine db_kinds.F_in _ _ _ ?_
 intro v1 h1 v2 h2 v3 h3 v4 h4 v5 h5 v6 h6
 have e2:v2=decide (it.kind=5∧it.kids.length=2):=by
  rw [h2,h1,show decide ((it.kids.length:Int)=2)=decide (it.kids.length=2) from decide_eq_decide.2 (by omega)]
  by_cases x:it.kind=5 <;> simp [x]
 have ek:Db.kinds (Itm.of it) a b=decide (it.kind=5∧it.kids.length=2∧v3=a∧v5=b):=by rw [h3,h5];rfl
 rw [ek]
 by_cases c:it.kind=5∧it.kids.length=2
 ·have i0:idxOK (0:Int) it.kids.length=true:=idx_ok (by omega) (by omega)
  have i1:idxOK (1:Int) it.kids.length=true:=idx_ok (by omega) (by omega)
  have hv2:v2=true:=by rw [e2];exact decide_eq_true c
  simp only [i0,i1,Bool.and_true,Bool.not_or_self,Bool.and_self,ck_true]
  congr 3
  rw [h6,h4,hv2]
  by_cases x:v3=a <;> by_cases y:v5=b <;> simp [x,y,c.1,c.2]
 ·have hv2:v2=false:=by rw [e2];exact decide_eq_false c
  have hv4:v4=false:=by rw [h4,hv2];rfl
  have hv6:v6=false:=by rw [h6,hv4];rfl
  rw [decide_eq_false (show ¬(it.kind=5∧it.kids.length=2∧v3=a∧v5=b) from fun h=>c ⟨h.1,h.2.1⟩),hv2,hv4,hv6]
  simp only [Bool.not_or_self,Bool.not_false,Bool.true_or,ck_true]
theorem ref28_pair.goal (it:Itv):ref28_pair.F it=some [.b (decide (it.kind=5∧it.kids.length=2))]:=by
 refine ref28_pair.F_in _ ?_
 intro v1 h1 v2 h2
 simp only [Bool.not_or_self,ck_true]
 rw [h2,h1,show decide ((it.kids.length:Int)=2)=decide (it.kids.length=2) from decide_eq_decide.2 (by omega)]
 by_cases x:it.kind=5 <;> simp [x]
theorem ref28_longer.goal (p:List Int) (k:Int) (hp:decide (p.length≤1099511627776)=true):ref28_longer.F p k=some [.sl .is (p++[k])]:=by
 have:=of_decide_eq_true hp
 refine ref28_longer.F_in _ _ ?_
 intro v1 h1
 rw [ck_of (big_ap (by simp only [List.length_nil];omega) (by simp only [List.length_nil];omega)),ck_of (big_ap (by simp only [List.length_append,List.length_nil,List.length_singleton];omega) (by simp only [List.length_append,List.length_nil,List.length_singleton];omega)),h1];rfl
theorem ref28_done.goal (v:Val) (f:Flt):ref28_done.F v f=some [.ag (Val.cells (if f.err=0 then v else Db.zero)),.ag (Flt.cells f)]:=by
 rw [ref28_done.F_eq]
 by_cases a:f.err=0
 ·rw [decide_eq_true a,Bool.not_true,cond_false,if_pos a]
 ·rw [decide_eq_false a,Bool.not_false,cond_true,if_neg a];rfl
end Go.Eng
namespace Go.Eng
open Go.IntWalk
theorem Db.regularFrom_cons (j:Nat) (k:Itm) (r:List Itm):Db.regularFrom j (k :: r)=(decide (k.kind=4∧k.text=digs j)&&Db.regularFrom (j+1) (r.drop 1)):=by
 cases r with
 | nil=>simp [Db.regularFrom]
 | cons x r=>rw [Db.regularFrom];rfl
theorem db_regular.l1_ok (l : List Itm) (hb : l.length ≤ 1099511627776) : ∀ (m j : Nat), l.length ≤ 2 * j + m → db_regular.l1 l ((2 * j : Nat) : Int) = some [.b (Db.regularFrom j (l.drop (2 * j)))] := by
  intro m
  induction m using Nat.strongRecOn with
  | _ m ih =>
  intro j hj
  refine db_regular.l1_in _ _ ?_
  intro v1 h1 v2 h2 v3 h3 v4 h4 v5 h5 v6 h6
  by_cases a : 2 * j < l.length
  · rw [Int.toNat_natCast] at h1 h3
    have e4 : v4 = (j : Int) := by
      rw [h4, show Int.tdiv ((2 * j : Nat) : Int) 2 = (j : Int) by rw [Int.tdiv_eq_ediv_of_nonneg (by omega)]; omega, i64_in _ (by omega)]
    have hi : idxOK ((2 * j : Nat) : Int) l.length = true := idx_ok (by omega) (by omega)
    have hr : decide (-9223372036854775808 ≤ v4 ∧ v4 ≤ 9223372036854775807) = true := decide_eq_true (by omega)
    have h2' : v2 = decide (v1 = 4) := by rw [h2, Bool.not_not]
    rw [drop_cons a (STy.dflt .il), Db.regularFrom_cons, ← h1, ← h3, List.drop_drop]
    simp only [hi, hr, show (!decide ((2 : Int) = 0)) = true from rfl, Bool.and_true, Bool.not_or_self, Bool.and_self, ck_true]
    rw [decide_eq_true (by omega), cond_true, ck_of (by rw [h2']; cases decide (v1 = 4) <;> rfl), h5, e4, itoa_nat]
    by_cases x : v1 = 4
    · by_cases y : v3 = digs j
      · rw [decide_eq_true x, decide_eq_true y, decide_eq_true (show v1 = 4 ∧ v3 = digs j from ⟨x, y⟩), Bool.true_and]
        simp only [Bool.not_true, cond_false]
        rw [h6, i64_in _ (by omega), show ((2 * j : Nat) : Int) + 2 = ((2 * (j + 1) : Nat) : Int) by omega, ih (m - 1) (by omega) (j + 1) (by omega), show 2 * (j + 1) = 2 * j + 1 + 1 by omega]
      · rw [decide_eq_true x, decide_eq_false y, decide_eq_false (show ¬ (v1 = 4 ∧ v3 = digs j) from fun h => y h.2)]; rfl
    · rw [decide_eq_false x, decide_eq_false (show ¬ (v1 = 4 ∧ v3 = digs j) from fun h => x h.1)]; rfl
  · rw [decide_eq_false (by omega), cond_false, List.drop_of_length_le (by omega)]; rfl
theorem db_regular.goal (l:List Itm) (hp:decide (l.length≤1099511627776)=true):db_regular.F l=some [.b (Db.regular l)]:=by
 rw [db_regular.F_eq]
 exact db_regular.l1_ok l (of_decide_eq_true hp) l.length 0 (by omega)
theorem ref28_regular.l1_ok (it : Itv) (hb : it.kids.length ≤ 1099511627776) : ∀ (m j : Nat), it.kids.length ≤ 2 * j + m → ref28_regular.l1 ((2 * j : Nat) : Int) it = some [.b (Db.regularFrom j (it.kids.drop (2 * j)))] := by
  intro m
  induction m using Nat.strongRecOn with
  | _ m ih =>
  intro j hj
  refine ref28_regular.l1_in _ _ ?_
  intro v1 h1 v2 h2 v3 h3 v4 h4 v5 h5 v6 h6 v7 h7 v8 h8
  by_cases a : 2 * j < it.kids.length
  · rw [Int.toNat_natCast] at h2 h4
    have e5 : v5 = (j : Int) := by
      rw [h5, show Int.tdiv ((2 * j : Nat) : Int) 2 = (j : Int) by rw [Int.tdiv_eq_ediv_of_nonneg (by omega)]; omega, i64_in _ (by omega)]
    have hi : idxOK ((2 * j : Nat) : Int) it.kids.length = true := idx_ok (by omega) (by omega)
    have h3' : v3 = decide (v2 = 4) := by rw [h3, Bool.not_not]
    have e6 : v6 = digs j := by rw [h6, e5, u64_nat, Nat.mod_eq_of_lt (by omega)]
    rw [drop_cons a (STy.dflt .il), Db.regularFrom_cons, ← h2, ← h4, List.drop_drop]
    simp only [hi, show (!decide ((2 : Int) = 0)) = true from rfl, Bool.and_true, Bool.not_or_self, Bool.and_self, ck_true]
    rw [decide_eq_true (by omega), cond_true, ck_of (by rw [h3']; cases decide (v2 = 4) <;> rfl), h7, e6]
    by_cases x : v2 = 4
    · by_cases y : v4 = digs j
      · rw [decide_eq_true x, decide_eq_true y, decide_eq_true (show v2 = 4 ∧ v4 = digs j from ⟨x, y⟩), Bool.true_and]
        simp only [Bool.not_true, cond_false]
        rw [h8, i64_in _ (by omega), show ((2 * j : Nat) : Int) + 2 = ((2 * (j + 1) : Nat) : Int) by omega, ih (m - 1) (by omega) (j + 1) (by omega), show 2 * (j + 1) = 2 * j + 1 + 1 by omega]
      · rw [decide_eq_true x, decide_eq_false y, decide_eq_false (show ¬ (v2 = 4 ∧ v4 = digs j) from fun h => y h.2)]; rfl
    · rw [decide_eq_false x, decide_eq_false (show ¬ (v2 = 4 ∧ v4 = digs j) from fun h => x h.1)]; rfl
  · rw [h1, decide_eq_false (by omega), cond_false, List.drop_of_length_le (by omega)]; rfl
theorem ref28_regular.goal (it:Itv) (hp:decide (Itm.bulk (Itm.of it)≤1099511627776)=true):ref28_regular.F it=some [.b (Db.regular it.kids)]:=by
 have h:=of_decide_eq_true hp
 rw [Itm.bulk_of] at h
 have:=Itm.bulk_kids it.kids
 rw [ref28_regular.F_eq]
 exact ref28_regular.l1_ok it (by omega) it.kids.length 0 (by omega)
theorem ref28_Half.goal (it:Itv):ref28_Half.F it=some [.ag (Val.cells (Db.half (Itm.of it)).1),.b (Db.half (Itm.of it)).2]:=by
 refine ref28_Half.F_in _ ?_
 intro v1 h1 v2 h2 v3 h3 v4 h4 v5 h5
 simp only [Bool.not_or_self,ck_true]
 have e3:v3=UInt64.ofInt (Db.numberI (Itm.of it) % 4294967296):=by
  rw [h3]
  congr 1
  have:=u32_ofInt v2
  rw [wrap_u32'] at this
  rw [this,h2]
  simp only [IntKind.wrap,IntKind.bits,IntKind.signed]
  simp
  omega
 have e5:v5=((Db.number (Itm.of it)).isSome&&decide (-2147483648≤Db.numberI (Itm.of it)∧Db.numberI (Itm.of it)<2147483648)):=by
  rw [h5,h4,h1,Bool.decide_and]
  cases (Db.number (Itm.of it)).isSome <;> by_cases x:(-2147483648:Int)≤Db.numberI (Itm.of it) <;> simp [x]
 rw [e3,e5];rfl
end Go.Eng
namespace Go.Eng
open Go.IntWalk
theorem tag_kind {n:UInt64} (h:¬(n<1000∨1255<n)):1000≤n.toNat∧n.toNat≤1255∧IntKind.i64.wrap ((n - 1000).toNat:Int)=(n.toNat:Int) - 1000∧∀(m:Int) (u:UInt64),(u.toNat:Int)=m+1000→decide ((n.toNat:Int) - 1000=m)=decide (n=u):=by
 have h1:1000≤n.toNat:=Nat.le_of_not_lt fun q=>h (.inl (UInt64.lt_iff_toNat_lt.2 q))
 have h2:n.toNat≤1255:=Nat.le_of_not_lt fun q=>h (.inr (UInt64.lt_iff_toNat_lt.2 q))
 have e:(n - 1000).toNat=n.toNat - 1000:=UInt64.toNat_sub_of_le _ _ (UInt64.le_iff_toNat_le.2 h1)
 refine ⟨h1,h2,by rw [e,i64_in _ (by omega)];omega,fun m u hu=>decide_eq_decide.2 ?_⟩
 rw [←UInt64.toNat_inj];omega
theorem two_lens (it:Itv) (a b:Int) (h:Db.kinds (Itm.of it) a b=true):idxOK (0:Int) it.kids.length=true∧idxOK (1:Int) it.kids.length=true:=by
 have:=of_decide_eq_true h
 have h2:it.kids.length=2:=this.2.1
 exact ⟨idx_ok (by omega) (by omega),idx_ok (by omega) (by omega)⟩
theorem kid_lens (it:Itv) (i:Nat) (m:Nat) (h:Itm.bulk (Itm.of it)≤m) (hi:i<it.kids.length):(it.kids.getD i (STy.dflt .il)).text.length≤m∧(it.kids.getD i (STy.dflt .il)).bytes.length≤m:=by
 rw [Itm.bulk_of] at h
 have h2:=Itm.bulks_at it.kids i hi
 generalize it.kids.getD i (STy.dflt .il)=x at h2 ⊢
 obtain ⟨k,n,b,t,ks⟩:=x
 simp only [Itm.bulk,Itm.text,Itm.bytes] at h2 ⊢;omega
theorem contains_two (a b:Str):decide (0≤Lib.indexByte (a++b) (([0]:Str).getD 0 0))=(Utf.zero a || Utf.zero b):=by
 have e:decide (0≤Lib.indexByte (a++b) (([0]:Str).getD 0 0))=(a++b).contains 0:=indexByte_contains 0 _
 rw [e]
 unfold Utf.zero
 rw [Bool.eq_iff_iff];simp
theorem be_take_succ (b:Str) (i:Nat) (h:i<b.length):Cur.be (b.take (i+1))=shl64 (Cur.be (b.take i)) 8 ||| UInt64.ofInt ((b.getD i 0).toNat:Int):=by
 rw [be_step,List.take_succ_eq_append_getElem h,Cur.be_snoc,List.getD_eq_getElem?_getD,List.getElem?_eq_getElem h];rfl
theorem db_small.l4_ok (b : Str) (hb : b.length = 16) (x4 : Val) : ∀ (m i : Nat) (v : Val), i + m = 16 → v.high = Cur.be (b.take (min i 8)) → v.low = Cur.be ((b.drop 8).take (i - 8)) →
    db_small.l4 true b 16 i x4 v = some [.ag (Val.cells { v with high := Cur.be (b.take 8), low := Cur.be (b.drop 8) }), .b true] := by
  intro m
  induction m with
  | zero =>
    intro i v hi hh hl
    refine db_small.l4_in _ _ _ _ _ _ ?_
    intro v1 h1 v2 h2 v3 h3 v4 h4
    rw [decide_eq_false (by omega), cond_false, db_small.j1_eq]
    rw [show min i 8 = 8 by omega] at hh
    rw [show i - 8 = 8 by omega, List.take_of_length_le (by rw [List.length_drop]; omega)] at hl
    rw [← hh, ← hl]
  | succ m ih =>
    intro i v hi hh hl
    refine db_small.l4_in _ _ _ _ _ _ ?_
    intro v1 h1 v2 h2 v3 h3 v4 h4
    rw [Int.toNat_natCast] at h1
    rw [decide_eq_true (by omega), cond_true, ck_of (idx_ok (by omega) (by omega))]
    have h8 : ((8 : UInt64)).toNat = 8 := rfl
    by_cases a : i < 8
    · rw [decide_eq_true (by omega), cond_true]
      refine db_small.j5_in _ _ _ _ _ _ ?_
      intro u1 f1
      have e : v2 ||| v3 = Cur.be (b.take (i + 1)) := by rw [h2, h3, h1, hh, h8, show min i 8 = i by omega, be_take_succ b i (by omega)]
      rw [f1, i64_in _ (by omega), show (i : Int) + 1 = ((i + 1 : Nat) : Int) by omega, ih (i + 1) _ (by omega) (by rw [show min (i + 1) 8 = i + 1 by omega]; exact e) (by rw [show i + 1 - 8 = i - 8 by omega]; exact hl)]
    · rw [decide_eq_false (by omega), cond_false]
      refine db_small.j5_in _ _ _ _ _ _ ?_
      intro u1 f1
      have e : v4 ||| v3 = Cur.be ((b.drop 8).take (i + 1 - 8)) := by
        rw [h4, h3, h1, hl, h8, show i + 1 - 8 = (i - 8) + 1 by omega, be_take_succ _ (i - 8) (by rw [List.length_drop]; omega)]
        rw [List.getD_eq_getElem?_getD, List.getD_eq_getElem?_getD, List.getElem?_drop, show 8 + (i - 8) = i by omega]
      rw [f1, i64_in _ (by omega), show (i : Int) + 1 = ((i + 1 : Nat) : Int) by omega, ih (i + 1) _ (by omega) (by rw [show min (i + 1) 8 = min i 8 by omega]; exact hh) e]
section
variable {n:UInt64} {it:Itv} {z:Val}
theorem db_small.j3_ok (x2:Bool) (hn:¬(n<1000∨1255<n)) (h2:x2=decide (n=1013∨n=1014)) (a5:n≠1005) (a7:n≠1007) (a9:¬(n=1009∨n=1018)) (a11:n≠1011) (a12:n≠1012) :
  db_small.j3 false ((n.toNat:Int) - 1000) x2 it z (Db.doc ((n.toNat:Int) - 1000) [])=some [.ag (Val.cells (Db.smallV n (Itm.of it)).1),.b (Db.smallV n (Itm.of it)).2]:=by
 obtain ⟨_,_,_,E⟩:=tag_kind hn
 refine db_small.j3_in _ _ _ _ _ _ ?_
 intro v1 h1 v2 e2
 simp only [Bool.not_or_self,ck_true]
 rw [Db.smallV,if_neg hn,if_neg a5,if_neg a7,if_neg a9,if_neg a11,if_neg a12,h2,E 17 1017 rfl,E 19 1019 rfl,E 255 1255 rfl,E 127 1127 rfl]
 by_cases a:n=1013∨n=1014
 ·rw [decide_eq_true a,cond_true,if_pos a,db_small.j1_eq];rfl
 rw [decide_eq_false a,cond_false,if_neg a]
 by_cases a:n=1017
 ·subst a
  rw [decide_eq_true rfl,cond_true,if_pos rfl,db_small.j1_eq];rfl
 rw [decide_eq_false a,cond_false,if_neg a]
 by_cases a:n=1019
 ·subst a
  rw [decide_eq_true rfl,cond_true,if_pos rfl]
  have hv:v2=decide (it.kind=3∧it.bytes.length=16):=by
   rw [e2,h1,show decide ((it.bytes.length:Int)=16)=decide (it.bytes.length=16) from decide_eq_decide.2 (by omega)]
   by_cases x:it.kind=3 <;> simp [x]
  by_cases c:it.kind=3∧it.bytes.length=16
  ·rw [hv,decide_eq_true c,cond_true,if_pos (show (Itm.of it).kind=3∧(Itm.of it).bytes.length=16 from c),h1,c.2]
   exact db_small.l4_ok it.bytes c.2 z 16 0 _ (by omega) rfl rfl
  ·rw [hv,decide_eq_false c,cond_false,if_neg (show ¬((Itm.of it).kind=3∧(Itm.of it).bytes.length=16) from c),db_small.j1_eq];rfl
 rw [decide_eq_false a,cond_false,if_neg a]
 have J:∀b:Bool,b=decide (n=1127∨n=1255)→db_small.j6 false b it z (Db.doc ((n.toNat:Int) - 1000) [])=some [.ag (Val.cells (if n=1127∨n=1255 then (Db.doc ((n.toNat:Int) - 1000) [],decide ((Itm.of it).kind=8∧(Itm.of it).n=22)) else (Db.doc ((n.toNat:Int) - 1000) [],false)).1),.b (if n=1127∨n=1255 then (Db.doc ((n.toNat:Int) - 1000) [],decide ((Itm.of it).kind=8∧(Itm.of it).n=22)) else (Db.doc ((n.toNat:Int) - 1000) [],false)).2]:=by
  intro b hb
  refine db_small.j6_in _ _ _ _ _ ?_
  intro u1 f1
  simp only [Bool.not_or_self,ck_true]
  by_cases c:n=1127∨n=1255
  ·rw [hb,decide_eq_true c,cond_true,if_pos c,db_small.j1_eq]
   have:u1=decide ((Itm.of it).kind=8∧(Itm.of it).n=22):=by
    rw [f1]
    show _=decide (it.kind=8∧it.n=22)
    by_cases x:it.kind=8 <;> simp [x]
   rw [this]
  ·rw [hb,decide_eq_false c,cond_false,if_neg c,db_small.j1_eq]
 by_cases c:n=1255
 ·rw [decide_eq_true c,cond_true];exact J _ (by rw [decide_eq_true (.inr c)])
 ·rw [decide_eq_false c,cond_false];exact J _ (by simp [c])
theorem db_small.j2_ok (x2 : Bool) (hb : Itm.bulk (Itm.of it) ≤ 1099511627776) (hn : ¬ (n < 1000 ∨ 1255 < n)) (h2 : x2 = decide (n = 1009 ∨ n = 1018)) (a5 : n ≠ 1005) (a7 : n ≠ 1007) :
    db_small.j2 false ((n.toNat : Int) - 1000) x2 it z (Db.doc ((n.toNat : Int) - 1000) []) = some [.ag (Val.cells (Db.smallV n (Itm.of it)).1), .b (Db.smallV n (Itm.of it)).2] := by
  obtain ⟨_, _, _, E⟩ := tag_kind hn
  refine db_small.j2_in _ _ _ _ _ _ ?_
  intro v1 h1 v2 e2 v3 h3 v4 h4 v5 h5 v6 h6 v7 h7 v8 h8 v9 h9
  rw [E 11 1011 rfl, E 12 1012 rfl, E 13 1013 rfl, E 14 1014 rfl, h2]
  by_cases a9 : n = 1009 ∨ n = 1018
  · rw [decide_eq_true a9, cond_true, db_small.j1_eq, Db.smallV, if_neg hn, if_neg a5, if_neg a7, if_pos a9, e2, h1]; rfl
  rw [decide_eq_false a9, cond_false]
  have f0 : v4 = (Db.fst (Itm.of it)).text := h4
  have f1 : v5 = (Db.snd (Itm.of it)).text := h5
  have f8 : v8 = (Db.snd (Itm.of it)).bytes := h8
  by_cases a11 : n = 1011
  · subst a11
    rw [decide_eq_true rfl, cond_true, Db.smallV, if_neg (by decide), if_neg (by decide), if_neg (by decide), if_neg (by decide), if_pos rfl]
    have h6' : v6 = (v3 && !(Utf.zero v4 || Utf.zero v5)) := by rw [h6, contains_two]; cases v3 <;> rfl
    cases hk : v3 with
    | false =>
      rw [hk] at h3
      have : v6 = false := by rw [h6', hk]; rfl
      simp only [hk, this, Bool.not_false, Bool.true_or, ck_true]
      rw [if_neg (fun h => by rw [← h3] at h; exact absurd h.1 (by decide)), cond_false, db_small.j1_eq]; rfl
    | true =>
      rw [hk] at h3
      obtain ⟨i0, i1⟩ := two_lens it 4 4 h3.symm
      have l2 : it.kids.length = 2 := (of_decide_eq_true h3.symm).2.1
      have t0 := (kid_lens it 0 _ hb (by omega)).1
      have t1 := (kid_lens it 1 _ hb (by omega)).1
      have q0 : v4.length ≤ 1099511627776 := by rw [h4]; exact t0
      have q1 : v5.length ≤ 1099511627776 := by rw [h5]; exact t1
      simp only [i0, i1, Bool.and_true, Bool.and_self, Bool.not_or_self, ck_true, Bool.true_and, show decide ((([0] : Str)).length = 1) = true from rfl]
      rw [ck_of (by rw [decide_eq_true (show v4.length + v5.length ≤ 9223372036854775807 by omega)]; cases v3 <;> rfl)]
      have e6 : v6 = (!(Utf.zero v4 || Utf.zero v5)) := by rw [h6', hk]; rfl
      rw [← h3, ← f0, ← f1]
      cases z0 : Utf.zero v4 <;> cases z1 : Utf.zero v5 <;> rw [e6, z0, z1] <;> simp [db_small.j1_eq, Db.doc]
  rw [decide_eq_false a11, cond_false]
  by_cases a12 : n = 1012
  · subst a12
    rw [decide_eq_true rfl, cond_true, Db.smallV, if_neg (by decide), if_neg (by decide), if_neg (by decide), if_neg (by decide), if_neg (by decide), if_pos rfl]
    have h9' : v9 = (v7 && decide (v8.length = 12)) := by rw [h9, show decide ((v8.length : Int) = 12) = decide (v8.length = 12) from decide_eq_decide.2 (by omega)]; cases v7 <;> rfl
    cases hk : v7 with
    | false =>
      rw [hk] at h7
      have : v9 = false := by rw [h9', hk]; rfl
      simp only [hk, this, Bool.not_false, Bool.true_or, ck_true]
      rw [if_neg (fun h => by rw [← h7] at h; exact absurd h.1 (by decide)), cond_false, db_small.j1_eq]; rfl
    | true =>
      rw [hk] at h7
      obtain ⟨i0, i1⟩ := two_lens it 4 3 h7.symm
      have l2 : it.kids.length = 2 := (of_decide_eq_true h7.symm).2.1
      have t1 := (kid_lens it 1 _ hb (by omega)).2
      have q1 : v8.length ≤ 1099511627776 := by rw [h8]; exact t1
      simp only [i0, i1, Bool.and_true, Bool.and_self, Bool.not_or_self, ck_true, Bool.true_and]
      rw [ck_of (big_ap (n := v8.length) (b := 1) (by omega) (by omega)), ← h7, ← f0, ← f8]
      have e9 : v9 = decide (v8.length = 12) := by rw [h9', hk]; rfl
      by_cases c : v8.length = 12
      · rw [e9, decide_eq_true c, cond_true, if_pos ⟨rfl, c⟩, db_small.j1_eq]; rfl
      · rw [e9, decide_eq_false c, cond_false, if_neg (fun h => c h.2), db_small.j1_eq]; rfl
  rw [decide_eq_false a12, cond_false]
  have J := fun b hb' => db_small.j3_ok (it := it) (z := z) b hn hb' a5 a7 a9 a11 a12
  by_cases a13 : n = 1013
  · rw [decide_eq_true a13, cond_true]; exact J _ (by rw [decide_eq_true (.inl a13)])
  · rw [decide_eq_false a13, cond_false]; exact J _ (by simp [a13])
end
theorem db_small.goal (n : UInt64) (it : Itv) (hp : decide (Itm.bulk (Itm.of it) ≤ 1099511627776) = true) : db_small.F n it = some [.ag (Val.cells (Db.smallV n (Itm.of it)).1), .b (Db.smallV n (Itm.of it)).2] := by
  have hb := of_decide_eq_true hp
  refine db_small.F_in _ _ ?_
  intro v1 h1 v2 h2 v3 h3 v4 h4 v5 h5 v6 h6 v7 h7 v8 h8 v9 h9 v10 h10
  simp only [Bool.not_or_self, Bool.or_not_self, ck_true]
  by_cases hn : n < 1000 ∨ 1255 < n
  · rw [show v1 = true by rw [h1]; rcases hn with a | a <;> simp [a], cond_true, Db.smallV, if_pos hn]; rfl
  rw [show v1 = false by rw [h1]; simp only [not_or] at hn; simp [hn.1, hn.2], cond_false]
  obtain ⟨r1, r2, hw, E⟩ := tag_kind hn
  rw [hw] at h2
  subst h2
  rw [E 5 1005 rfl, E 7 1007 rfl, E 9 1009 rfl, E 18 1018 rfl]
  have f4 : v4 = (Db.fst (Itm.of it)).n := h4
  have f8 : v8 = (Db.snd (Itm.of it)).bytes := h8
  by_cases a5 : n = 1005
  · subst a5
    rw [decide_eq_true rfl, cond_true, Db.smallV, if_neg (by decide), if_pos rfl]
    have h6' : v6 = (v3 && (decide (1 ≤ v4) && decide (v4 ≤ 255))) := by rw [h6, h5]; cases v3 <;> cases decide ((1 : UInt64) ≤ v4) <;> rfl
    cases hk : v3 with
    | false =>
      rw [hk] at h3
      have e5 : v5 = false := by rw [h5, hk]; rfl
      have : v6 = false := by rw [h6', hk]; rfl
      simp only [hk, e5, this, Bool.not_false, Bool.true_or, ck_true]
      rw [if_neg (fun h => by rw [← h3] at h; exact absurd h.1 (by decide)), cond_false, db_small.j1_eq]; rfl
    | true =>
      rw [hk] at h3
      obtain ⟨i0, i1⟩ := two_lens it 1 3 h3.symm
      have l2 : it.kids.length = 2 := (of_decide_eq_true h3.symm).2.1
      have t1 := (kid_lens it 1 _ hb (by omega)).2
      have q1 : v8.length ≤ 1099511627776 := by rw [h8]; exact t1
      simp only [i0, i1, Bool.and_true, Bool.and_self, Bool.not_or_self, ck_true, Bool.true_and]
      rw [ck_of (big_ap (n := v8.length) (b := 1) (by omega) (by omega)), ← h3, ← f4, ← f8]
      have e6 : v6 = (decide (1 ≤ v4) && decide (v4 ≤ 255)) := by rw [h6', hk]; rfl
      have e7 : 1 ≤ v4 ∧ v4 ≤ 255 → v7 = (v4.toNat : Int) := fun h => by
        have := UInt64.le_iff_toNat_le.1 h.2
        simp at this
        rw [h7, i64_in _ (by omega)]
      by_cases c : 1 ≤ v4 <;> by_cases d : v4 ≤ 255
      · rw [e6, decide_eq_true c, decide_eq_true d, Bool.and_self, cond_true, if_pos ⟨rfl, c, d⟩, db_small.j1_eq, e7 ⟨c, d⟩]; rfl
      · rw [e6, decide_eq_false d, Bool.and_false, cond_false, if_neg (fun h => d h.2.2), db_small.j1_eq]; rfl
      · rw [e6, decide_eq_false c, Bool.false_and, cond_false, if_neg (fun h => c h.2.1), db_small.j1_eq]; rfl
      · rw [e6, decide_eq_false c, Bool.false_and, cond_false, if_neg (fun h => c h.2.1), db_small.j1_eq]; rfl
  rw [decide_eq_false a5, cond_false]
  by_cases a7 : n = 1007
  · subst a7
    have hl : it.bytes.length ≤ 1099511627776 := by rw [Itm.bulk_of] at hb; omega
    rw [decide_eq_true rfl, cond_true, ck_of (big_ap (n := it.bytes.length) (b := 1) (by omega) (by omega)), db_small.j1_eq, Db.smallV, if_neg (by decide), if_neg (by decide), if_pos rfl]
    have : v10 = decide (it.kind = 3 ∧ it.bytes.length = 12) := by
      rw [h10, h9, show decide ((it.bytes.length : Int) = 12) = decide (it.bytes.length = 12) from decide_eq_decide.2 (by omega)]
      by_cases x : it.kind = 3 <;> simp [x]
    rw [this]; rfl
  rw [decide_eq_false a7, cond_false]
  have J := fun b hb' => db_small.j2_ok (it := it) (z := Db.zero) b hb hn hb' a5 a7
  by_cases a9 : n = 1009
  · rw [decide_eq_true a9, cond_true]; exact J _ (by rw [decide_eq_true (.inl a9)])
  · rw [decide_eq_false a9, cond_false]; exact J _ (by simp [a9])
end Go.Eng
namespace Go.Eng
open Go.IntWalk
section
variable {n:UInt64} {it:Itv} {z:Val}
theorem ref28_tagged.j2_ok (x1:Bool) (hb:Itm.bulk (Itm.of it)≤1099511627776) (hn:¬(n<1000∨1255<n)) (h2:x1=decide (n=1013∨n=1014)) (a5:n≠1005) (a7:n≠1007) (a9:¬(n=1009∨n=1018)) (a11:n≠1011) (a12:n≠1012) :
  ref28_tagged.j2 ((n.toNat:Int) - 1000) x1 it z (Db.doc ((n.toNat:Int) - 1000) [])=some [.ag (Val.cells (Db.taggedV n (Itm.of it)).1),.b (Db.taggedV n (Itm.of it)).2]:=by
 obtain ⟨_,_,_,E⟩:=tag_kind hn
 have hl:it.bytes.length≤1099511627776:=by rw [Itm.bulk_of] at hb;omega
 refine ref28_tagged.j2_in _ _ _ _ _ ?_
 intro v1 e1 v2 e2 v3 e3 v4 e4 v5 e5 v6 e6
 simp only [Bool.not_or_self,ck_true]
 rw [Db.taggedV,if_neg hn,if_neg a5,if_neg a7,if_neg a9,if_neg a11,if_neg a12,h2,E 17 1017 rfl,E 19 1019 rfl,E 255 1255 rfl,E 127 1127 rfl]
 by_cases a:n=1013∨n=1014
 ·rw [decide_eq_true a,cond_true,if_pos a];rfl
 rw [decide_eq_false a,cond_false,if_neg a]
 by_cases a:n=1017
 ·subst a
  rw [decide_eq_true rfl,cond_true,if_pos rfl];rfl
 rw [decide_eq_false a,cond_false,if_neg a]
 by_cases a:n=1019
 ·subst a
  rw [decide_eq_true rfl,cond_true,if_pos rfl,ck_of (decide_eq_true hl),ck_of (decide_eq_true hl)]
  have hv:v6=decide ((Itm.of it).kind=3∧(Itm.of it).bytes.length=16):=by
   rw [e6,e5]
   show _=decide (it.kind=3∧it.bytes.length=16)
   rw [show decide ((it.bytes.length:Int)=16)=decide (it.bytes.length=16) from decide_eq_decide.2 (by omega)]
   by_cases x:it.kind=3 <;> simp [x]
  rw [hv,e1,e3];rfl
 rw [decide_eq_false a,cond_false,if_neg a]
 have J:∀b:Bool,b=decide (n=1127∨n=1255)→ref28_tagged.j3 b it z (Db.doc ((n.toNat:Int) - 1000) [])=some [.ag (Val.cells (if n=1127∨n=1255 then (Db.doc ((n.toNat:Int) - 1000) [],decide ((Itm.of it).kind=8∧(Itm.of it).n=22)) else (Db.zero,false)).1),.b (if n=1127∨n=1255 then (Db.doc ((n.toNat:Int) - 1000) [],decide ((Itm.of it).kind=8∧(Itm.of it).n=22)) else (Db.zero,false)).2]:=by
  intro b hb
  refine ref28_tagged.j3_in _ _ _ _ ?_
  intro u1 f1
  simp only [Bool.not_or_self,ck_true]
  by_cases c:n=1127∨n=1255
  ·rw [hb,decide_eq_true c,cond_true,if_pos c]
   have:u1=decide ((Itm.of it).kind=8∧(Itm.of it).n=22):=by
    rw [f1]
    show _=decide (it.kind=8∧it.n=22)
    by_cases x:it.kind=8 <;> simp [x]
   rw [this]
  ·rw [hb,decide_eq_false c,cond_false,if_neg c];rfl
 by_cases c:n=1255
 ·rw [decide_eq_true c,cond_true];exact J _ (by rw [decide_eq_true (.inr c)])
 ·rw [decide_eq_false c,cond_false];exact J _ (by simp [c])
theorem ref28_tagged.j1_ok (x1:Bool) (hb:Itm.bulk (Itm.of it)≤1099511627776) (hn:¬(n<1000∨1255<n)) (h2:x1=decide (n=1009∨n=1018)) (a5:n≠1005) (a7:n≠1007) :
  ref28_tagged.j1 ((n.toNat:Int) - 1000) x1 it z (Db.doc ((n.toNat:Int) - 1000) [])=some [.ag (Val.cells (Db.taggedV n (Itm.of it)).1),.b (Db.taggedV n (Itm.of it)).2]:=by
 obtain ⟨_,_,_,E⟩:=tag_kind hn
 refine ref28_tagged.j1_in _ _ _ _ _ ?_
 intro v1 h1 v2 e2 v3 h3 v4 h4 v5 h5 v6 h6 v7 h7 v8 h8 v9 h9 v10 h10 v11 h11 v12 h12
 rw [E 11 1011 rfl,E 12 1012 rfl,E 13 1013 rfl,E 14 1014 rfl,h2]
 by_cases a9:n=1009∨n=1018
 ·rw [decide_eq_true a9,cond_true,Db.taggedV,if_neg hn,if_neg a5,if_neg a7,if_pos a9,e2,h1];rfl
 rw [decide_eq_false a9,cond_false]
 by_cases a11:n=1011
 ·subst a11
  rw [decide_eq_true rfl,cond_true,Db.taggedV,if_neg (by decide),if_neg (by decide),if_neg (by decide),if_neg (by decide),if_pos rfl]
  by_cases c:it.kind=5∧it.kids.length=2
  ·have i0:idxOK (0:Int) it.kids.length=true:=idx_ok (by omega) (by omega)
   have i1:idxOK (1:Int) it.kids.length=true:=idx_ok (by omega) (by omega)
   have t0:=(kid_lens it 0 _ hb (by omega)).1
   have t1:=(kid_lens it 1 _ hb (by omega)).1
   have q0:v3.length≤1099511627776:=by rw [h3];exact t0
   have q1:v4.length≤1099511627776:=by rw [h4];exact t1
   have e9:v9=decide (v5=4∧v6=4∧¬Utf.zero v3∧¬Utf.zero v4):=by
    rw [h9,h8,h7]
    by_cases x:v5=4 <;> by_cases y:v6=4 <;> cases Utf.zero v3 <;> cases Utf.zero v4 <;> simp [x,y]
   rw [decide_eq_true c,Bool.not_true,cond_false,if_pos (show (Itm.of it).kind=5∧(Itm.of it).kids.length=2 from c)]
   simp only [i0,i1,decide_eq_true q0,decide_eq_true q1,Bool.and_true,Bool.not_or_self,ck_true]
   rw [e9,h3,h4,h5,h6];rfl
  ·rw [decide_eq_false c,Bool.not_false,cond_true,if_neg (show ¬((Itm.of it).kind=5∧(Itm.of it).kids.length=2) from c)];rfl
 rw [decide_eq_false a11,cond_false]
 by_cases a12:n=1012
 ·subst a12
  rw [decide_eq_true rfl,cond_true,Db.taggedV,if_neg (by decide),if_neg (by decide),if_neg (by decide),if_neg (by decide),if_neg (by decide),if_pos rfl]
  by_cases c:it.kind=5∧it.kids.length=2
  ·have i0:idxOK (0:Int) it.kids.length=true:=idx_ok (by omega) (by omega)
   have i1:idxOK (1:Int) it.kids.length=true:=idx_ok (by omega) (by omega)
   have e12:v12=decide (v5=4∧v6=3∧v10.length=12):=by
    rw [h12,h11,show decide ((v10.length:Int)=12)=decide (v10.length=12) from decide_eq_decide.2 (by omega)]
    by_cases x:v5=4 <;> by_cases y:v6=3 <;> by_cases w:v10.length=12 <;> simp [x,y,w]
   rw [decide_eq_true c,Bool.not_true,cond_false,if_pos (show (Itm.of it).kind=5∧(Itm.of it).kids.length=2 from c)]
   simp only [i0,i1,Bool.and_true,Bool.not_or_self,ck_true]
   rw [e12,h3,h10,h5,h6];rfl
  ·rw [decide_eq_false c,Bool.not_false,cond_true,if_neg (show ¬((Itm.of it).kind=5∧(Itm.of it).kids.length=2) from c)];rfl
 rw [decide_eq_false a12,cond_false]
 have J:=fun b hb'=>ref28_tagged.j2_ok (it:=it) (z:=z) b hb hn hb' a5 a7 a9 a11 a12
 by_cases a13:n=1013
 ·rw [decide_eq_true a13,cond_true];exact J _ (by rw [decide_eq_true (.inl a13)])
 ·rw [decide_eq_false a13,cond_false];exact J _ (by simp [a13])
end
theorem ref28_tagged.goal (n:UInt64) (it:Itv) (hp:decide (Itm.bulk (Itm.of it)≤1099511627776)=true):ref28_tagged.F n it=some [.ag (Val.cells (Db.taggedV n (Itm.of it)).1),.b (Db.taggedV n (Itm.of it)).2]:=by
 have hb:=of_decide_eq_true hp
 refine ref28_tagged.F_in _ _ ?_
 intro v1 h1 v2 h2 v3 h3 v4 h4 v5 h5 v6 h6 v7 h7 v8 h8 v9 h9 v10 h10 v11 h11 v12 h12 v13 h13
 simp only [Bool.not_or_self,Bool.or_not_self,ck_true]
 by_cases hn:n<1000∨1255<n
 ·rw [show v1=true by rw [h1];rcases hn with a | a <;> simp [a],cond_true,Db.taggedV,if_pos hn];rfl
 rw [show v1=false by rw [h1];simp only [not_or] at hn;simp [hn.1,hn.2],cond_false]
 obtain ⟨r1,r2,hw,E⟩:=tag_kind hn
 rw [hw] at h2
 subst h2
 rw [E 5 1005 rfl,E 7 1007 rfl,E 9 1009 rfl,E 18 1018 rfl]
 by_cases a5:n=1005
 ·subst a5
  rw [decide_eq_true rfl,cond_true,Db.taggedV,if_neg (by decide),if_pos rfl]
  rw [Bool.not_not] at h3
  have f4:v4=(Db.fst (Itm.of it)).kind:=h4
  have f6:v6=(Db.fst (Itm.of it)).n:=h6
  have f10:v10=(Db.snd (Itm.of it)).bytes:=h10
  have f11:v11=(Db.snd (Itm.of it)).kind:=h11
  by_cases c:it.kind=5∧it.kids.length=2
  ·have i0:idxOK (0:Int) it.kids.length=true:=idx_ok (by omega) (by omega)
   have i1:idxOK (1:Int) it.kids.length=true:=idx_ok (by omega) (by omega)
   have e3:v3=true:=by rw [h3];exact decide_eq_true c
   have e5:v5=!decide (v4=1):=by rw [h5,decide_eq_true c];rfl
   simp only [i0,i1,e3,decide_eq_true c,Bool.and_true,Bool.and_self,Bool.not_or_self,Bool.or_true,Bool.not_true,Bool.or_not_self,ck_true]
   rw [←f4,←f6,←f10,←f11]
   have e8:v8=!(decide (v4=1)&&(decide (1≤v6)&&decide (v6≤255))):=by
    rw [h8,h7,e5,show decide (v6<1)=!decide (1≤v6) by rw [←decide_not];exact decide_eq_decide.2 UInt64.not_le.symm,show decide (255<v6)=!decide (v6≤255) by rw [←decide_not];exact decide_eq_decide.2 UInt64.not_le.symm]
    cases decide (v4=1) <;> cases decide ((1:UInt64)≤v6) <;> cases decide (v6≤(255:UInt64)) <;> rfl
   by_cases d:v4=1∧1≤v6∧v6≤255
   ·have e9:v9=(v6.toNat:Int):=by
     have:=UInt64.le_iff_toNat_le.1 d.2.2
     simp at this
     rw [h9,i64_in _ (by omega)]
    rw [e8,decide_eq_true d.1,decide_eq_true d.2.1,decide_eq_true d.2.2,if_pos (show (Itm.of it).kind=5∧(Itm.of it).kids.length=2∧v4=1∧1≤v6∧v6≤255 from ⟨c.1,c.2,d⟩),e9];rfl
   ·rw [if_neg (show ¬((Itm.of it).kind=5∧(Itm.of it).kids.length=2∧v4=1∧1≤v6∧v6≤255) from fun h=>d h.2.2),show v8=true by
     rw [e8]
     by_cases x:v4=1 <;> by_cases y:(1:UInt64)≤v6 <;> by_cases w:v6≤255 <;> simp [x,y,w]
     exact d ⟨x,y,w⟩,cond_true];rfl
  ·have e3:v3=false:=by rw [h3];exact decide_eq_false c
   have e5:v5=true:=by rw [h5,decide_eq_false c];rfl
   have e7:v7=true:=by rw [h7,e5];rfl
   have e8:v8=true:=by rw [h8,e7];rfl
   simp only [e3,e5,e7,decide_eq_false c,Bool.not_true,Bool.not_false,Bool.true_or,Bool.or_false,Bool.or_true,ck_true]
   rw [e8,cond_true,if_neg (show ¬((Itm.of it).kind=5∧(Itm.of it).kids.length=2∧(Db.fst (Itm.of it)).kind=1∧1≤(Db.fst (Itm.of it)).n∧(Db.fst (Itm.of it)).n≤255) from fun h=>c ⟨h.1,h.2.1⟩)];rfl
 rw [decide_eq_false a5,cond_false]
 by_cases a7:n=1007
 ·subst a7
  rw [decide_eq_true rfl,cond_true,Db.taggedV,if_neg (by decide),if_neg (by decide),if_pos rfl]
  have:v13=decide (it.kind=3∧it.bytes.length=12):=by
   rw [h13,h12,show decide ((it.bytes.length:Int)=12)=decide (it.bytes.length=12) from decide_eq_decide.2 (by omega)]
   by_cases x:it.kind=3 <;> simp [x]
  rw [this];rfl
 rw [decide_eq_false a7,cond_false]
 have J:=fun b hb'=>ref28_tagged.j1_ok (it:=it) (z:=Db.zero) b hb hn hb' a5 a7
 by_cases a9:n=1009
 ·rw [decide_eq_true a9,cond_true];exact J _ (by rw [decide_eq_true (.inl a9)])
 ·rw [decide_eq_false a9,cond_false];exact J _ (by simp [a9])
theorem Db.tagged_small (n:UInt64) (it:Itm):(Db.taggedV n it).2=(Db.smallV n it).2∧((Db.smallV n it).2=true→(Db.taggedV n it).1=(Db.smallV n it).1):=by
 unfold Db.taggedV Db.smallV
 by_cases h:n<1000∨1255<n
 ·rw [if_pos h,if_pos h];exact ⟨rfl,fun _=>rfl⟩
 rw [if_neg h,if_neg h]
 by_cases a:n=1005
 ·rw [if_pos a,if_pos a]
  unfold Db.kinds
  by_cases c1:it.kind=5 <;> by_cases c2:it.kids.length=2 <;> by_cases c3:(Db.fst it).kind=1 <;> by_cases c4:(Db.snd it).kind=3 <;> by_cases c5:1≤(Db.fst it).n <;> by_cases c6:(Db.fst it).n≤255 <;> simp [c1,c2,c3,c4,c5,c6]
 rw [if_neg a,if_neg a]
 by_cases a:n=1007
 ·rw [if_pos a,if_pos a];exact ⟨rfl,fun _=>rfl⟩
 rw [if_neg a,if_neg a]
 by_cases a:n=1009∨n=1018
 ·rw [if_pos a,if_pos a];exact ⟨rfl,fun h=>by simp only;rw [Db.numberI_eq it h]⟩
 rw [if_neg a,if_neg a]
 by_cases a:n=1011
 ·rw [if_pos a,if_pos a]
  unfold Db.kinds
  by_cases c1:it.kind=5 <;> by_cases c2:it.kids.length=2 <;> by_cases c3:(Db.fst it).kind=4 <;> by_cases c4:(Db.snd it).kind=4 <;> cases Utf.zero (Db.fst it).text <;> cases Utf.zero (Db.snd it).text <;> simp [c1,c2,c3,c4]
 rw [if_neg a,if_neg a]
 by_cases a:n=1012
 ·rw [if_pos a,if_pos a]
  unfold Db.kinds
  by_cases c1:it.kind=5 <;> by_cases c2:it.kids.length=2 <;> by_cases c3:(Db.fst it).kind=4 <;> by_cases c4:(Db.snd it).kind=3 <;> by_cases c5:(Db.snd it).bytes.length=12 <;> simp [c1,c2,c3,c4,c5]
 rw [if_neg a,if_neg a]
 by_cases a:n=1013∨n=1014
 ·rw [if_pos a,if_pos a];exact ⟨rfl,fun _=>rfl⟩
 rw [if_neg a,if_neg a]
 by_cases a:n=1017
 ·rw [if_pos a,if_pos a];exact ⟨rfl,fun _=>rfl⟩
 rw [if_neg a,if_neg a]
 by_cases a:n=1019
 ·rw [if_pos a,if_pos a]
  by_cases c:it.kind=3∧it.bytes.length=16
  ·rw [if_pos c]
   refine ⟨decide_eq_true c,fun _=>?_⟩
   have r0:Mp.rng it.bytes 0 8=it.bytes.take 8:=by
    rw [Mp.rng,show Mp.rngOK it.bytes 0 8=true by unfold Mp.rngOK;exact decide_eq_true (by omega),cond_true];rfl
   have r8:Mp.rng it.bytes 8 8=it.bytes.drop 8:=by
    rw [Mp.rng,show Mp.rngOK it.bytes 8 8=true by unfold Mp.rngOK;exact decide_eq_true (by omega),cond_true]
    exact List.take_of_length_le (by rw [List.length_drop];show _≤8;have:(8:Int).toNat=8:=rfl;omega)
   simp only [r0,r8]
  ·rw [if_neg c];exact ⟨decide_eq_false c,fun h=>by cases h⟩
 rw [if_neg a,if_neg a]
 by_cases a:n=1127∨n=1255
 ·rw [if_pos a,if_pos a];exact ⟨rfl,fun _=>rfl⟩
 rw [if_neg a,if_neg a];exact ⟨rfl,fun h=>by cases h⟩
end Go.Eng
namespace Go.Eng
open Go.IntWalk
theorem Cb.own0 (it:Itv) (h:Cb.own (Itm.of it)=0):(1≤it.kind∧it.kind≤9)∧(it.kind=3∨it.kind=4∨it.kind=5∨it.kind=6→it.n=0)∧(it.kind≠3→it.bytes=[])∧(it.kind≠4→it.text=[])∧(it.kind≠5→it.kind≠6→it.kind≠7→it.kids=[]) ∧
  (it.kind=8→20≤it.n∧it.n≤23)∧(it.kind=6→it.kids.length % 2=0)∧(it.kind=7→it.kids.length=1)∧Utf.whole it.text=true:=by
 obtain ⟨k,n,b,t,ks⟩:=it
 simp only [Cb.own,Itm.of] at h
 simp only
 by_cases h1:k<1∨9<k
 ·rw [if_pos h1] at h;cases h
 rw [if_neg h1] at h
 split at h
 ·cases h
 rename_i h2
 split at h
 ·cases h
 rename_i h3
 split at h
 ·cases h
 rename_i h4
 split at h
 ·rename_i h6
  refine ⟨by omega,?_,?_,?_,?_,?_,?_,?_,h6⟩ <;> grind
 ·cases h
theorem Cb.chk0 (it:Itv) (h:Cb.chk (Itm.of it)=0):Cb.own (Itm.of it)=0∧Cb.chks it.kids=0:=by
 rw [Cb.chk_of] at h
 by_cases a:Cb.own (Itm.of it)=0
 ·rw [if_pos a] at h;exact ⟨a,h⟩
 ·rw [if_neg a] at h;exact (a h).elim
theorem Cb.chks_cons {k:Itm} {r:List Itm} (h:Cb.chks (k :: r)=0):Cb.chk k=0∧Cb.chks r=0:=by
 rw [Cb.chks] at h
 by_cases a:Cb.chk k=0
 ·rw [if_pos a] at h;exact ⟨a,h⟩
 ·rw [if_neg a] at h;exact (a h).elim
theorem Cb.chks_drop:∀(l:List Itm) (i:Nat),Cb.chks l=0→Cb.chks (l.drop i)=0
 | [],i,_=>by simp [Cb.chks]
 | k :: r,0,h=>by simpa using h
 | k :: r,i+1,h=>by simpa using Cb.chks_drop r i (Cb.chks_cons h).2
theorem Itm.bulks_drop : ∀ (l : List Itm) (i : Nat), Itm.bulks (l.drop i) ≤ Itm.bulks l
  | [], i => by simp
  | k :: r, 0 => by simp
  | k :: r, i + 1 => by
    have := Itm.bulks_drop r i
    simp only [List.drop_succ_cons, Itm.bulks]; omega
theorem Cb.chk_val (x:Itm) (h:Cb.chk x=0):Cb.own x=0∧Cb.chks x.kids=0:=by
 have:=Cb.chk0 x.val (by rw [Itm.of_val];exact h)
 rw [Itm.of_val] at this;exact this
theorem Itm.bulk_val (x:Itm):Itm.bulk x=1+x.bytes.length+x.text.length+Itm.bulks x.kids:=by cases x;simp only [Itm.bulk,Itm.bytes,Itm.text,Itm.kids]
namespace Db
def Got.tvs (g:Got) (p:List Int):List TV:=[.ag (Val.cells g.val),.ag (Flt.cells g.flt),.sl .is p]
def Got.tv2 (g:Got):List TV:=[.ag (Val.cells g.val),.ag (Flt.cells g.flt)]
def Gots.app (acc:List Fld):Gots→Gots
 | .ok r => .ok (acc++r)
 | .bad p => .bad p
theorem Gots.app_nil (g:Gots):g.app []=g:=by cases g <;> simp [Gots.app]
theorem fields_step (k x:Itm) (r:List Itm) (i:Nat) (p:List Int):fields (k :: x :: r) i p=if k.kind≠4∨Utf.zero k.text=true then .bad (p++[(i:Int)])
  else match value x (p++[((i+1:Nat):Int)]) with
   | .bad q => .bad q
   | .ok v=>(fields r (i+2) p).app [Fld.of k.text v]:=by
 rw [fields]
 split
 ·rfl
 ·split
  ·rename_i q hq;rw [hq]
  ·rename_i v hv
   rw [hv]
   simp only
   split
   ·rename_i q hq;rw [hq];rfl
   ·rename_i l hl;rw [hl];rfl
theorem elems_step (x:Itm) (r:List Itm) (i:Nat) (p:List Int):elems (x :: r) i p=match value x (p++[(i:Int)]) with
   | .bad q => .bad q
   | .ok v=>(elems r (i+1) p).app [Fld.of (digs i) v]:=by
 rw [elems]
 split
 ·rename_i q hq;rw [hq]
 ·rename_i v hv
  rw [hv]
  simp only
  split
  ·rename_i q hq;rw [hq];rfl
  ·rename_i l hl;rw [hl];rfl
theorem Gots.app_app (a b:List Fld) (g:Gots):(g.app b).app a=g.app (a++b):=by cases g <;> simp [Gots.app]
theorem value_of (it:Itv) (p:List Int):value (Itm.of it) p=if it.kind=6 then (fields it.kids 0 p).got (doc 3 []) else if it.kind=5 then (elems it.kids 0 p).got (doc 4 []) else if it.kind=7 then tags it.n it.kids p else opt (leaf it.kind it.n it.bytes it.text) p:=by
 rw [Itm.of,value]
theorem tagv_of (n:UInt64) (x:Itm) (p:List Int):tagv n x p=if n=1004 then (if x.kind=6∧¬regular x.kids=true then (fields x.kids 0 (p++[0])).got (doc 4 []) else .bad p)
  else if n=1015 then (if kinds x 4 6=true then pairv x.kids p else .bad p) else opt (small n x) p:=by
 cases x;rw [tagv];rfl
theorem pairv_of (l:List Itm) (p:List Int) (h:l.length=2):pairv l p=(fields (l.getD 1 Mp.zero).kids 0 (p++[0,1])).got (doc 15 (l.getD 0 Mp.zero).text):=by
 match l,h with
 | [a,m],_=>rw [pairv];cases m;rw [pairIn];rfl
end Db
theorem db_with.l1_ok (n : Nat) (l : List Itm) (path : List Int) (x2 : Int) (x3 x4 x5 : UInt64) (x6 x7 : Str) (x8 : Int) (x10 : Val) (x11 : Flt) (hb : Itm.bulks l + path.length ≤ 1073741824) (hn : 2 * Itm.bulks l + 1 < n) (hc : Cb.chks l = 0) : ∀ (m i : Nat) (acc : List Fld), i + 2 * m = l.length → acc.length + m ≤ 2147483648 →
    db_with.l1 n l i x2 x3 x4 x5 x6 x7 x8 acc x10 x11 path = some (Db.Got.tvs (((Db.fields (l.drop i) i path).app acc).got ⟨x2, x3, x4, x5, x6, x7, x8, [], []⟩) path) := by
  have hlen := Itm.bulk_kids l
  intro m
  induction m with
  | zero =>
    intro i acc hi ha
    refine db_with.l1_in _ _ _ _ _ _ _ _ _ _ _ _ _ _ ?_
    intro v1 h1 v2 h2 v3 h3 v4 h4 v5 h5 v6 h6 v7 h7 v8 h8 v9 h9 v10 h10
    rw [decide_eq_false (by omega), cond_false, List.drop_of_length_le (by omega), Db.fields]
    simp only [Db.Gots.app, List.append_nil, Db.Gots.got]; rfl
  | succ m ih =>
    intro i acc hi ha
    refine db_with.l1_in _ _ _ _ _ _ _ _ _ _ _ _ _ _ ?_
    intro v1 h1 v2 h2 v3 h3 v4 h4 v5 h5 v6 h6 v7 h7 v8 h8 v9 h9 v10 h10
    have e6 : v6 = ((i + 1 : Nat) : Int) := by rw [h6, i64_in _ (by omega)]; omega
    rw [e6] at h7 h8
    rw [Int.toNat_natCast] at h1 h3
    rw [Int.toNat_natCast, Itm.of_val] at h7 h8
    have hd : l.drop i = l.getD i (STy.dflt .il) :: l.getD (i + 1) (STy.dflt .il) :: l.drop (i + 2) := by
      rw [drop_cons (show i < l.length by omega) (STy.dflt .il), drop_cons (show i + 1 < l.length by omega) (STy.dflt .il)]
    have hbd := Itm.bulks_drop l i
    have hcd := Cb.chks_drop l i hc
    rw [hd] at hbd hcd
    simp only [Itm.bulks] at hbd
    have hk1 := Itm.bulk_pos (l.getD i (STy.dflt .il))
    obtain ⟨_, hcd⟩ := Cb.chks_cons hcd
    obtain ⟨hcx, _⟩ := Cb.chks_cons hcd
    have hz : decide (0 ≤ Lib.indexByte v3 (([0] : Str).getD 0 0)) = Utf.zero v3 := indexByte_contains 0 v3
    have e2 : v2 = decide (v1 = 4) := by rw [h2, Bool.not_not]
    rw [hz] at h4
    have i0 : idxOK (i : Int) l.length = true := idx_ok (by omega) (by omega)
    rw [hd, Db.fields_step, ← h1, ← h3]
    rw [e6, Int.toNat_natCast, Itm.of_val]
    generalize l.getD (i + 1) (STy.dflt .il) = x at h7 h8 hbd hcx
    simp only [i0, show decide ((([0] : Str)).length = 1) = true from rfl, Bool.and_true, Bool.and_self, Bool.not_or_self, ck_true]
    rw [decide_eq_true (by omega), cond_true, ck_of (by rw [e2]; cases decide (v1 = 4) <;> rfl)]
    by_cases bad : v1 ≠ 4 ∨ Utf.zero v3 = true
    · have e4 : v4 = true := by
        rw [h4]
        by_cases x : v1 = 4
        · rw [decide_eq_true x, bad.resolve_left (fun h => h x)]; rfl
        · rw [decide_eq_false x]; rfl
      rw [e4, cond_true, if_pos bad, ck_of (big_ap (by simp only [List.length_singleton]; omega) (by simp only [List.length_singleton]; omega)), ck_of (decide_eq_true (by simp only [List.length_append, List.length_singleton]; omega)), h5]; rfl
    · have e4 : v4 = false := by
        simp only [not_or, Classical.not_not, ne_eq] at bad
        rw [h4, decide_eq_true bad.1, Bool.eq_false_iff.2 bad.2]; rfl
      rw [e4, cond_false, if_neg bad, ck_of (idx_ok (by omega) (by omega)), ck_of (big_ap (by simp only [List.length_singleton]; omega) (by simp only [List.length_singleton]; omega)), ck_of (by
        rw [decide_eq_true (show Itm.bulk x + (path ++ [((i + 1 : Nat) : Int)]).length ≤ 1073741824 by simp only [List.length_append, List.length_singleton]; omega), decide_eq_true hcx, decide_eq_true (show 2 * Itm.bulk x + 1 < n by omega)]; rfl)]
      cases hv : Db.value x (path ++ [((i + 1 : Nat) : Int)]) with
      | bad q =>
        rw [hv] at h8
        rw [h8]; rfl
      | ok v =>
        rw [hv] at h7 h8
        have h7' : v7 = v := h7
        have h8' : v8 = ⟨0, 0, []⟩ := h8
        rw [h8', show (!decide ((Flt.mk 0 0 []).err = 0)) = false from rfl, cond_false, ck_of (big_ap (by rw [h9]; simp only [List.length_singleton]; omega) (by rw [h9]; simp only [List.length_singleton]; omega)), h10, i64_in _ (by omega), show (i : Int) + 2 = ((i + 2 : Nat) : Int) by omega, ih (i + 2) _ (by omega) (by rw [h9]; simp only [List.length_append, List.length_singleton]; omega), h9, h7']
        simp only
        rw [Db.Gots.app_app]; rfl
theorem db_with.goal (n:Nat) (v:Val) (l:List Itm) (path:List Int) (hp:((decide (Itm.bulks l+path.length≤1073741824)&&decide (Cb.chks l=0∧l.length % 2=0))&&decide ((2 * Itm.bulks l+2)<n+1))=true) :
  db_with.F n v l path=some (Db.Got.tvs ((Db.fields l 0 path).got ⟨v.kind,v.bits,v.high,v.low,v.text,v.more,v.sub,[],[]⟩) path):=by
 simp only [Bool.and_eq_true,decide_eq_true_eq] at hp
 obtain ⟨⟨hb,hc,he⟩,hn⟩:=hp
 have hlen:=Itm.bulk_kids l
 rw [db_with.F_eq]
 have:=db_with.l1_ok n l path v.kind v.bits v.high v.low v.text v.more v.sub Db.zero ⟨0,0,[]⟩ hb (by omega) hc (l.length / 2) 0 [] (by omega) (by simp only [List.length_nil];omega)
 rw [List.drop_zero,Db.Gots.app_nil] at this
 exact this
theorem db_value.l3_ok (n : Nat) (l : List Itm) (path : List Int) (x3 : Val) (x4 : Flt) (x5 : Int) (x6 x7 x8 : UInt64) (x9 x10 : Str) (x11 : Int) (hb : Itm.bulks l + 1 + path.length ≤ 1073741824) (hn : 2 * Itm.bulks l + 1 < n) (hc : Cb.chks l = 0) : ∀ (m i : Nat) (acc : List Fld), i + m = l.length → acc.length + m ≤ 2147483648 →
    db_value.l3 n l (l.length : Int) i x3 x4 x5 x6 x7 x8 x9 x10 x11 acc path = some (Db.Got.tvs (((Db.elems (l.drop i) i path).app acc).got ⟨x5, x6, x7, x8, x9, x10, x11, [], []⟩) path) := by
  have hlen := Itm.bulk_kids l
  intro m
  induction m with
  | zero =>
    intro i acc hi ha
    refine db_value.l3_in _ _ _ _ _ _ _ _ _ _ _ _ _ _ _ ?_
    intro v1 h1 v2 h2 v3 h3 v4 h4
    rw [decide_eq_false (by omega), cond_false, List.drop_of_length_le (by omega), Db.elems]
    simp only [Db.Gots.app, List.append_nil, Db.Gots.got]; rfl
  | succ m ih =>
    intro i acc hi ha
    refine db_value.l3_in _ _ _ _ _ _ _ _ _ _ _ _ _ _ _ ?_
    intro v1 h1 v2 h2 v3 h3 v4 h4
    rw [Int.toNat_natCast, Itm.of_val] at h1 h2
    have hd : l.drop i = l.getD i (STy.dflt .il) :: l.drop (i + 1) := drop_cons (show i < l.length by omega) (STy.dflt .il)
    have hbd := Itm.bulks_at l i (by omega)
    have hcd := Cb.chks_drop l i hc
    rw [hd] at hcd
    obtain ⟨hcx, _⟩ := Cb.chks_cons hcd
    rw [hd, Db.elems_step, Int.toNat_natCast, Itm.of_val]
    generalize l.getD i (STy.dflt .il) = x at h1 h2 hbd hcx
    rw [decide_eq_true (by omega), cond_true, ck_of (idx_ok (by omega) (by omega)), ck_of (big_ap (by simp only [List.length_singleton]; omega) (by simp only [List.length_singleton]; omega)), ck_of (by
        rw [decide_eq_true (show Itm.bulk x + (path ++ [(i : Int)]).length ≤ 1073741824 by simp only [List.length_append, List.length_singleton]; omega), decide_eq_true hcx, decide_eq_true (show 2 * Itm.bulk x + 1 < n by omega)]; rfl)]
    cases hv : Db.value x (path ++ [(i : Int)]) with
    | bad q =>
      rw [hv] at h2
      rw [h2]; rfl
    | ok v =>
      rw [hv] at h1 h2
      have h1' : v1 = v := h1
      have h2' : v2 = ⟨0, 0, []⟩ := h2
      rw [h2', show (!decide ((Flt.mk 0 0 []).err = 0)) = false from rfl, cond_false, ck_of (decide_eq_true (by omega)), ck_of (big_ap (by rw [h3]; simp only [List.length_singleton]; omega) (by rw [h3]; simp only [List.length_singleton]; omega)), h4, i64_in _ (by omega), show (i : Int) + 1 = ((i + 1 : Nat) : Int) by omega, ih (i + 1) _ (by omega) (by rw [h3]; simp only [List.length_append, List.length_singleton]; omega), h3, h1', itoa_nat]
      simp only
      rw [Db.Gots.app_app]; rfl
theorem db_value.j2_ok (n:Nat) (x0:Val) (x1:Flt) (p:List Int) (h:p.length≤1099511627776):db_value.j2 n x0 x1 p=some (Db.Got.tvs (.bad p) p):=by
 rw [db_value.j2_eq,ck_of (decide_eq_true h)];rfl
theorem Db.half_of (it:Itv):Db.leaf it.kind it.n it.bytes it.text=if it.kind=9 then some ⟨1,it.n,0,0,[],[],0,[],[]⟩ else if it.kind=4 then some ⟨2,0,0,0,it.text,[],0,[],[]⟩ else if it.kind=3 then some ⟨5,0,0,0,[],[],0,it.bytes,[]⟩
  else if it.kind=8 then some (if it.n=22 then ⟨10,0,0,0,[],[],0,[],[]⟩ else if it.n=23 then ⟨6,0,0,0,[],[],0,[],[]⟩ else ⟨8,it.n - 20,0,0,[],[],0,[],[]⟩)
  else if (Db.half (Itm.of it)).2 then some (Db.half (Itm.of it)).1 else none:=rfl
theorem i32_self (x:Int):(x=IntKind.i64.wrap (IntKind.i32.wrap x)) ↔ (-2147483648≤x∧x<2147483648):=by
 rw [i64_i32]
 constructor
 ·intro h
  have:=i32_rng x
  omega
 ·intro h
  have h1:=i32_rng x
  have h2:(IntKind.i32.wrap x - x) % 4294967296=0:=by
   simp only [IntKind.wrap,IntKind.bits,IntKind.signed]
   simp
   omega
  omega
theorem db_value.j1_ok (n : Nat) (x1 : Bool) (it : Itv) (x3 : Val) (x4 : Flt) (p : List Int) (hb : Itm.bulk (Itm.of it) + p.length ≤ 1073741824) (hn : 2 * Itm.bulk (Itm.of it) < n) (hc : Cb.chk (Itm.of it) = 0) (h1 : x1 = decide (it.kind = 1 ∨ it.kind = 2)) (hk : it.kind ≠ 9 ∧ it.kind ≠ 4 ∧ it.kind ≠ 3 ∧ it.kind ≠ 8) :
    db_value.j1 n it.kind x1 it x3 x4 p = some (Db.Got.tvs (Db.value (Itm.of it) p) p) := by
  obtain ⟨k9, k4, k3, k8⟩ := hk
  obtain ⟨ho, hcs⟩ := Cb.chk0 it hc
  obtain ⟨c1, c2, c3, c4, c5, c6, c7, c8, c9⟩ := Cb.own0 it ho
  have hbo := hb
  rw [Itm.bulk_of] at hb hn
  have hlen := Itm.bulk_kids it.kids
  have J2 := db_value.j2_ok n x3 x4 p (by omega)
  refine db_value.j1_in _ _ _ _ _ _ _ ?_
  intro v1 e1 v2 e2 v3 e3 v4 e4 v5 e5 v6 e6 v7 e7 v8 e8 v9 e9 v10 e10
  simp only [Bool.not_or_self, Bool.and_self, ck_true]
  by_cases k12 : it.kind = 1 ∨ it.kind = 2
  · rw [h1, decide_eq_true k12, cond_true, Db.value_of, if_neg (by omega), if_neg (by omega), if_neg (by omega), Db.half_of, if_neg k9, if_neg k4, if_neg k3, if_neg k8]
    have e4' : v4 = (Db.half (Itm.of it)).2 := by
      rw [e4, e2]
      show _ = ((Db.number (Itm.of it)).isSome && decide (-2147483648 ≤ Db.numberI (Itm.of it) ∧ Db.numberI (Itm.of it) < 2147483648))
      cases hs : (Db.number (Itm.of it)).isSome with
      | false => rfl
      | true =>
        rw [Db.numberI_eq _ hs, ← e1, e3, cond_true, Bool.true_and]
        exact decide_eq_decide.2 (i32_self v1)
    cases hh : (Db.half (Itm.of it)).2 with
    | false => rw [e4', hh, cond_false, J2]; rfl
    | true =>
      have hs : (Db.number (Itm.of it)).isSome = true := by
        have : ((Db.number (Itm.of it)).isSome && decide (-2147483648 ≤ Db.numberI (Itm.of it) ∧ Db.numberI (Itm.of it) < 2147483648)) = true := hh
        simp only [Bool.and_eq_true] at this; exact this.1
      have e5' : v5 = UInt64.ofInt (Db.numberI (Itm.of it) % 4294967296) := by
        rw [e5, Db.numberI_eq _ hs, ← e1]
        congr 1
        have := u32_ofInt v1
        rw [wrap_u32'] at this
        exact this
      rw [e4', hh, cond_true, e5']; rfl
  rw [h1, decide_eq_false k12, cond_false]
  by_cases k6 : it.kind = 6
  · rw [decide_eq_true k6, cond_true, ck_of (by rw [decide_eq_true (show Itm.bulks it.kids + p.length ≤ 1073741824 by omega), decide_eq_true (show Cb.chks it.kids = 0 ∧ it.kids.length % 2 = 0 from ⟨hcs, c7 k6⟩), decide_eq_true (show 2 * Itm.bulks it.kids + 2 < n by omega)]; rfl), e6, e7, Db.value_of, if_pos k6]; rfl
  rw [decide_eq_false k6, cond_false]
  by_cases k5 : it.kind = 5
  · rw [decide_eq_true k5, cond_true, e8, Db.value_of, if_neg k6, if_pos k5]
    have := db_value.l3_ok n it.kids p x3 x4 4 0 0 0 [] [] 0 (by omega) (by omega) hcs it.kids.length 0 [] (by omega) (by simp only [List.length_nil]; omega)
    rw [List.drop_zero, Db.Gots.app_nil] at this
    exact this
  rw [decide_eq_false k5, cond_false]
  have k7 : it.kind = 7 := by omega
  rw [decide_eq_true k7, cond_true, ck_of (by rw [decide_eq_true hbo, decide_eq_true (show Cb.chk (Itm.of it) = 0 ∧ it.kind = 7 from ⟨hc, k7⟩), decide_eq_true (show 2 * Itm.bulk (Itm.of it) < n by rw [Itm.bulk_of]; exact hn)]; rfl), e9, e10]; rfl
theorem db_value.goal (n:Nat) (it:Itv) (path:List Int) (hp:((decide (Itm.bulk (Itm.of it)+path.length≤1073741824)&&decide (Cb.chk (Itm.of it)=0))&&decide ((2 * Itm.bulk (Itm.of it)+1)<n+1))=true):db_value.F n it path=some (Db.Got.tvs (Db.value (Itm.of it) path) path):=by
 simp only [Bool.and_eq_true,decide_eq_true_eq] at hp
 obtain ⟨⟨hb,hc⟩,hn⟩:=hp
 obtain ⟨ho,hcs⟩:=Cb.chk0 it hc
 obtain ⟨c1,c2,c3,c4,c5,c6,c7,c8,c9⟩:=Cb.own0 it ho
 refine db_value.F_in _ _ _ ?_
 intro v1 e1 v2 e2 v3 e3 v4 e4 v5 e5 v6 e6 v7 e7
 have L:∀g:Val,it.kind≠6→it.kind≠5→it.kind≠7→Db.leaf it.kind it.n it.bytes it.text=some g→Db.value (Itm.of it) path = .ok g:=by
  intro g h6 h5 h7 hg
  rw [Db.value_of,if_neg h6,if_neg h5,if_neg h7,hg];rfl
 by_cases k9:it.kind=9
 ·rw [decide_eq_true k9,cond_true,L _ (by omega) (by omega) (by omega) (by rw [Db.half_of,if_pos k9])];rfl
 rw [decide_eq_false k9,cond_false]
 by_cases k4:it.kind=4
 ·rw [decide_eq_true k4,cond_true,L _ (by omega) (by omega) (by omega) (by rw [Db.half_of,if_neg k9,if_pos k4])];rfl
 rw [decide_eq_false k4,cond_false]
 by_cases k3:it.kind=3
 ·have hl:it.bytes.length≤1073741824:=by rw [Itm.bulk_of] at hb;omega
  rw [decide_eq_true k3,cond_true,ck_of (big_ap (n:=it.bytes.length) (b:=1) (by omega) (by omega)),L _ (by omega) (by omega) (by omega) (by rw [Db.half_of,if_neg k9,if_neg k4,if_pos k3])];rfl
 rw [decide_eq_false k3,cond_false]
 by_cases k8:it.kind=8
 ·have hu:it.n=20∨it.n=21∨it.n=22∨it.n=23:=by
   have a:=UInt64.le_iff_toNat_le.1 (c6 k8).1
   have b:=UInt64.le_iff_toNat_le.1 (c6 k8).2
   simp at a b
   have:it.n.toNat=20∨it.n.toNat=21∨it.n.toNat=22∨it.n.toNat=23:=by omega
   rcases this with h | h | h | h
   ·exact .inl (UInt64.toNat_inj.1 h)
   ·exact .inr (.inl (UInt64.toNat_inj.1 h))
   ·exact .inr (.inr (.inl (UInt64.toNat_inj.1 h)))
   ·exact .inr (.inr (.inr (UInt64.toNat_inj.1 h)))
  rw [decide_eq_true k8,cond_true,L _ (by omega) (by omega) (by omega) (by rw [Db.half_of,if_neg k9,if_neg k4,if_neg k3,if_pos k8])]
  subst e1 e2 e3 e4 e5 e6 e7
  rcases hu with h | h | h | h <;> rw [h] <;> rfl
 rw [decide_eq_false k8,cond_false]
 have J:=fun b hb'=>db_value.j1_ok n b it Db.zero ⟨0,0,[]⟩ path hb (by omega) hc hb' ⟨k9,k4,k3,k8⟩
 by_cases k1:it.kind=1
 ·rw [decide_eq_true k1,cond_true];exact J _ (by rw [decide_eq_true (.inl k1)])
 ·rw [decide_eq_false k1,cond_false];exact J _ (by simp [k1])
theorem db_tag.j1_ok (n:Nat) (x0:Val) (x1:Flt) (p:List Int) (h:p.length≤1099511627776):db_tag.j1 n x0 x1 p=some (Db.Got.tvs (.bad p) p):=by
 rw [db_tag.j1_eq,ck_of (decide_eq_true h)];rfl
theorem db_tag.goal (n:Nat) (it:Itv) (path:List Int) (hp:((decide (Itm.bulk (Itm.of it)+path.length≤1073741824)&&decide (Cb.chk (Itm.of it)=0∧it.kind=7))&&decide ((2 * Itm.bulk (Itm.of it))<n+1))=true):db_tag.F n it path=some (Db.Got.tvs (Db.value (Itm.of it) path) path):=by
 simp only [Bool.and_eq_true,decide_eq_true_eq] at hp
 obtain ⟨⟨hb,hc,k7⟩,hn⟩:=hp
 obtain ⟨ho,hcs⟩:=Cb.chk0 it hc
 have c8:=(Cb.own0 it ho).2.2.2.2.2.2.2.1 k7
 obtain ⟨x,hx⟩:∃x,it.kids=[x]:=by
  match h:it.kids,c8 with
  | [x],_=>exact ⟨x,rfl⟩
 rw [Itm.bulk_of,hx] at hb hn
 simp only [Itm.bulks] at hb hn
 rw [hx] at hcs
 obtain ⟨hcx,_⟩:=Cb.chks_cons hcs
 obtain ⟨hox,hcsx⟩:=Cb.chk_val x hcx
 have ox:=Cb.own0 x.val (by rw [Itm.of_val];exact hox)
 have hbx:=Itm.bulk_val x
 have hlx:=Itm.bulk_kids x.kids
 have J:=db_tag.j1_ok n Db.zero ⟨0,0,[]⟩ path (by omega)
 have ev:Db.value (Itm.of it) path=Db.tagv it.n x path:=by
  rw [Db.value_of,if_neg (by omega),if_neg (by omega),if_pos k7,hx,Db.tags]
 rw [ev,Db.tagv_of]
 refine db_tag.F_in _ _ _ ?_
 intro v1 e1 v2 e2 v3 e3 v4 e4 v5 e5 v6 e6 v7 e7 v8 e8 v9 e9 v10 e10 v11 e11 v12 e12 v13 e13 v14 e14
 have hg:it.kids.getD (0:Int).toNat (STy.dflt .il)=x:=by rw [hx];rfl
 rw [hg] at e1 e2
 rw [hg,Itm.of_val] at e7 e13 e14
 rw [hg,Itm.of_val]
 rw [ck_of (idx_ok (by omega) (by omega))]
 have l2:v2.length≤1099511627776:=by rw [e2];omega
 simp only [decide_eq_true l2,Bool.and_true,Bool.not_or_self,ck_true]
 by_cases a4:it.n=1004
 ·rw [decide_eq_true a4,cond_true,if_pos a4]
  by_cases c:x.kind=6∧¬Db.regular x.kids=true
  ·have e3':v3=true:=by rw [e3,e1,e2,decide_eq_true c.1,Bool.eq_false_iff.2 c.2];rfl
   have he:x.kids.length % 2=0:=ox.2.2.2.2.2.2.1 c.1
   rw [e3',cond_true,if_pos c,ck_of (big_ap (by simp only [List.length_singleton];omega) (by simp only [List.length_singleton];omega)),e2,e4,ck_of (by
    rw [decide_eq_true (show Itm.bulks x.kids+(path++[(0:Int)]).length≤1073741824 by simp only [List.length_append,List.length_singleton];omega),decide_eq_true (show Cb.chks x.kids=0∧x.kids.length % 2=0 from ⟨hcsx,he⟩),decide_eq_true (show 2 * Itm.bulks x.kids+2<n by omega)];rfl),e5,e6,e2,e4];rfl
  ·have e3':v3=false:=by
    rw [e3,e1,e2]
    by_cases q:x.kind=6
    ·rw [decide_eq_true q]
     have:Db.regular x.kids=true:=Classical.byContradiction fun h=>c ⟨q,h⟩
     rw [this];rfl
    ·rw [decide_eq_false q];rfl
   rw [e3',cond_false,if_neg c];exact J
 rw [decide_eq_false a4,cond_false,if_neg a4]
 by_cases a15:it.n=1015
 ·rw [decide_eq_true a15,cond_true,if_pos a15]
  by_cases c:Db.kinds x 4 6=true
  ·have hk:=of_decide_eq_true c
   have hlen2:x.kids.length=2:=hk.2.1
   obtain ⟨a,m,hkids⟩:∃a m,x.kids=[a,m]:=by
    match h:x.kids,hlen2 with
    | [a,m],_=>exact ⟨a,m,rfl⟩
   have hm6:m.kind=6:=by have:=hk.2.2.2;rw [Db.snd,hkids] at this;exact this
   have hcm:Cb.chk m=0:=by
    rw [hkids] at hcsx
    exact (Cb.chks_cons (Cb.chks_cons hcsx).2).1
   obtain ⟨hom,hcsm⟩:=Cb.chk_val m hcm
   have om:=Cb.own0 m.val (by rw [Itm.of_val];exact hom)
   have he:m.kids.length % 2=0:=om.2.2.2.2.2.2.1 hm6
   have hbm:=Itm.bulk_val m
   have hb2:Itm.bulks x.kids=Itm.bulk a+(Itm.bulk m+0):=by rw [hkids];rfl
   have ha1:=Itm.bulk_pos a
   have e9':v9=m.kids:=by rw [e9,e2,hkids];rfl
   have e8':v8=a.text:=by rw [e8,e2,hkids];rfl
   have i0:idxOK (0:Int) v2.length=true:=by rw [e2];exact idx_ok (by omega) (by omega)
   have i1:idxOK (1:Int) v2.length=true:=by rw [e2];exact idx_ok (by omega) (by omega)
   rw [e7,show Db.kinds x ((4:Int)) ((6:Int))=true from c,cond_true,if_pos rfl,Db.pairv_of _ _ hlen2,ck_of i0,ck_of i1,ck_of (big_ap (by rw [e10];simp only [List.length_cons,List.length_nil];omega) (by rw [e10];simp only [List.length_cons,List.length_nil];omega)),e9',e10,ck_of (by
    rw [decide_eq_true (show Itm.bulks m.kids+(path++[(0:Int),(1:Int)]).length≤1073741824 by simp only [List.length_append,List.length_cons,List.length_nil];omega),decide_eq_true (show Cb.chks m.kids=0∧m.kids.length % 2=0 from ⟨hcsm,he⟩),decide_eq_true (show 2 * Itm.bulks m.kids+2<n by omega)];rfl),e11,e12,e9',e8',e10,hkids];rfl
  ·rw [e7,show Db.kinds x ((4:Int)) ((6:Int))=false from Bool.eq_false_iff.2 c,cond_false,if_neg (by decide)];exact J
 rw [decide_eq_false a15,cond_false,if_neg a15,ck_of (decide_eq_true (by omega)),Db.small,e13,e14]
 cases (Db.smallV it.n x).2 with
 | true=>rw [cond_true];rfl
 | false=>rw [cond_false];exact J
theorem db_Value.goal (it:Itv) (hp:decide (Itm.bulk (Itm.of it)≤1073741824)=true):db_Value.F it=some [.ag (Val.cells (Db.dec (Itm.of it)).1),.ag (Flt.cells (Db.dec (Itm.of it)).2)]:=by
 have hb:=of_decide_eq_true hp
 refine db_Value.F_in _ ?_
 intro v1 e1 v2 e2 v3 e3
 rw [ck_of (decide_eq_true (by omega)),Db.dec]
 by_cases a:Cb.chk (Itm.of it)=0
 ·rw [decide_eq_true a,Bool.not_true,cond_false,if_neg (fun h=>h a)]
  obtain ⟨ho,hcs⟩:=Cb.chk0 it a
  by_cases k6:it.kind=6
  ·have he:=(Cb.own0 it ho).2.2.2.2.2.2.1 k6
   rw [Itm.bulk_of] at hb
   rw [decide_eq_true k6,Bool.not_true,cond_false,if_neg (show ¬(Itm.of it).kind≠6 from fun h=>h k6),ck_of (by rw [decide_eq_true (show Itm.bulks it.kids+([]:List Int).length≤1073741824 by simp only [List.length_nil];omega),decide_eq_true (show Cb.chks it.kids=0∧it.kids.length % 2=0 from ⟨hcs,he⟩)];rfl),e2,e3,Db.value_of,if_pos k6];rfl
  ·rw [decide_eq_false k6,Bool.not_false,cond_true,if_pos (show (Itm.of it).kind≠6 from k6),e1];rfl
 ·rw [decide_eq_false a,Bool.not_false,cond_true,if_pos a];rfl
end Go.Eng
namespace Go.Eng
open Go.IntWalk
def Db.Gots.tv2 (g:Db.Gots):List TV:=[.sl .fl g.lst,.ag (Flt.cells g.flt)]
theorem Db.got_lst (k:Int) (t:Str) (g:Db.Gots):[TV.ag (Val.cells (if g.flt.err=0 then ⟨k,0,0,0,t,[],0,[],g.lst⟩ else Db.zero)),.ag (Flt.cells g.flt)]=(g.got (Db.doc k t)).tv2:=by
 cases g <;> rfl
theorem ref28_fields.l1_ok (n : Nat) (it : Itv) (path : List Int) (x4 : Flt) (hb : Itm.bulks it.kids + path.length ≤ 1073741824) (hn : 2 * Itm.bulks it.kids + 1 < n) (hc : Cb.chks it.kids = 0) : ∀ (m i : Nat) (acc : List Fld), i + 2 * m = it.kids.length → acc.length + m ≤ 2147483648 →
    ref28_fields.l1 n path acc i it x4 = some ((Db.fields (it.kids.drop i) i path).app acc).tv2 := by
  have hlen := Itm.bulk_kids it.kids
  intro m
  induction m with
  | zero =>
    intro i acc hi ha
    refine ref28_fields.l1_in _ _ _ _ _ _ ?_
    intro v1 h1 v2 h2 v3 h3 v4 h4 v5 h5 v6 h6 v7 h7 v8 h8 v9 h9 v10 h10
    rw [decide_eq_false (by omega), cond_false, List.drop_of_length_le (by omega), Db.fields]
    simp only [Db.Gots.app, List.append_nil]; rfl
  | succ m ih =>
    intro i acc hi ha
    refine ref28_fields.l1_in _ _ _ _ _ _ ?_
    intro v1 h1 v2 h2 v3 h3 v4 h4 v5 h5 v6 h6 v7 h7 v8 h8 v9 h9 v10 h10
    have e6 : v6 = ((i + 1 : Nat) : Int) := by rw [h6, i64_in _ (by omega)]; omega
    rw [e6] at h7 h8
    rw [Int.toNat_natCast] at h2 h4
    rw [Int.toNat_natCast, Itm.of_val] at h7 h8
    have hd : it.kids.drop i = it.kids.getD i (STy.dflt .il) :: it.kids.getD (i + 1) (STy.dflt .il) :: it.kids.drop (i + 2) := by
      rw [drop_cons (show i < it.kids.length by omega) (STy.dflt .il), drop_cons (show i + 1 < it.kids.length by omega) (STy.dflt .il)]
    have hbd := Itm.bulks_drop it.kids i
    have hcd := Cb.chks_drop it.kids i hc
    rw [hd] at hbd hcd
    simp only [Itm.bulks] at hbd
    have hk1 := Itm.bulk_pos (it.kids.getD i (STy.dflt .il))
    have htx : v4.length ≤ 1099511627776 := by
      have := Itm.bulk_val (it.kids.getD i (STy.dflt .il))
      rw [h4]; omega
    obtain ⟨_, hcd⟩ := Cb.chks_cons hcd
    obtain ⟨hcx, _⟩ := Cb.chks_cons hcd
    have e3 : v3 = decide (v2 = 4) := by rw [h3, Bool.not_not]
    have i0 : idxOK (i : Int) it.kids.length = true := idx_ok (by omega) (by omega)
    rw [hd, Db.fields_step, ← h2, ← h4]
    rw [e6, Int.toNat_natCast, Itm.of_val]
    generalize it.kids.getD (i + 1) (STy.dflt .il) = x at h7 h8 hbd hcx
    simp only [i0, decide_eq_true htx, Bool.and_true, Bool.and_self, Bool.not_or_self, ck_true]
    rw [decide_eq_true (by omega), cond_true, ck_of (by rw [e3]; cases decide (v2 = 4) <;> rfl)]
    by_cases bad : v2 ≠ 4 ∨ Utf.zero v4 = true
    · have e5 : v5 = true := by
        rw [h5]
        by_cases x : v2 = 4
        · rw [decide_eq_true x, bad.resolve_left (fun h => h x)]; rfl
        · rw [decide_eq_false x]; rfl
      rw [e5, cond_true, if_pos bad, ck_of (decide_eq_true (by omega))]; rfl
    · have e5 : v5 = false := by
        simp only [not_or, Classical.not_not, ne_eq] at bad
        rw [h5, decide_eq_true bad.1, Bool.eq_false_iff.2 bad.2]; rfl
      rw [e5, cond_false, if_neg bad, ck_of (idx_ok (by omega) (by omega)), ck_of (decide_eq_true (by omega)), ck_of (by
        rw [decide_eq_true (show Itm.bulk x + (path ++ [((i + 1 : Nat) : Int)]).length ≤ 1073741824 by simp only [List.length_append, List.length_singleton]; omega), decide_eq_true hcx, decide_eq_true (show 2 * Itm.bulk x + 1 < n by omega)]; rfl)]
      cases hv : Db.value x (path ++ [((i + 1 : Nat) : Int)]) with
      | bad q =>
        rw [hv] at h8
        rw [h8]; rfl
      | ok v =>
        rw [hv] at h7 h8
        have h7' : v7 = v := h7
        have h8' : v8 = ⟨0, 0, []⟩ := h8
        rw [h8', show (!decide ((Flt.mk 0 0 []).err = 0)) = false from rfl, cond_false, ck_of (big_ap (by rw [h9]; simp only [List.length_singleton]; omega) (by rw [h9]; simp only [List.length_singleton]; omega)), h10, i64_in _ (by omega), show (i : Int) + 2 = ((i + 2 : Nat) : Int) by omega, ih (i + 2) _ (by omega) (by rw [h9]; simp only [List.length_append, List.length_singleton]; omega), h9, h7']
        simp only
        rw [Db.Gots.app_app]; rfl
theorem ref28_fields.goal (n:Nat) (it:Itv) (p:List Int) (hp:((decide (Itm.bulks it.kids+p.length≤1073741824)&&decide (Cb.chks it.kids=0∧it.kids.length % 2=0))&&decide ((2 * Itm.bulks it.kids+2)<n+1))=true):ref28_fields.F n it p=some (Db.fields it.kids 0 p).tv2:=by
 simp only [Bool.and_eq_true,decide_eq_true_eq] at hp
 obtain ⟨⟨hb,hc,he⟩,hn⟩:=hp
 have hlen:=Itm.bulk_kids it.kids
 rw [ref28_fields.F_eq]
 have:=ref28_fields.l1_ok n it p ⟨0,0,[]⟩ hb (by omega) hc (it.kids.length / 2) 0 [] (by omega) (by simp only [List.length_nil];omega)
 rw [List.drop_zero,Db.Gots.app_nil] at this
 exact this
theorem ref28_value.l2_ok (n : Nat) (it : Itv) (path : List Int) (x3 : Val) (x4 : Flt) (x5 : Int) (x6 x7 x8 : UInt64) (x9 x10 : Str) (x11 : Int) (hb : Itm.bulks it.kids + 1 + path.length ≤ 1073741824) (hn : 2 * Itm.bulks it.kids + 1 < n) (hc : Cb.chks it.kids = 0) : ∀ (m i : Nat) (acc : List Fld), i + m = it.kids.length → acc.length + m ≤ 2147483648 →
    ref28_value.l2 n path i it x3 x4 x5 x6 x7 x8 x9 x10 x11 acc = some (((Db.elems (it.kids.drop i) i path).app acc).got ⟨x5, x6, x7, x8, x9, x10, x11, [], []⟩).tv2 := by
  have hlen := Itm.bulk_kids it.kids
  intro m
  induction m with
  | zero =>
    intro i acc hi ha
    refine ref28_value.l2_in _ _ _ _ _ _ _ _ _ _ _ _ _ _ ?_
    intro v1 h1 v2 h2 v3 h3 v4 h4 v5 h5 v6 h6
    rw [decide_eq_false (by omega), cond_false, List.drop_of_length_le (by omega), Db.elems]
    simp only [Db.Gots.app, List.append_nil, Db.Gots.got]; rfl
  | succ m ih =>
    intro i acc hi ha
    refine ref28_value.l2_in _ _ _ _ _ _ _ _ _ _ _ _ _ _ ?_
    intro v1 h1 v2 h2 v3 h3 v4 h4 v5 h5 v6 h6
    rw [Int.toNat_natCast, Itm.of_val] at h2 h3
    have e4 : v4 = digs i := by rw [h4, u64_nat, Nat.mod_eq_of_lt (by omega)]
    have hd : it.kids.drop i = it.kids.getD i (STy.dflt .il) :: it.kids.drop (i + 1) := drop_cons (show i < it.kids.length by omega) (STy.dflt .il)
    have hbd := Itm.bulks_at it.kids i (by omega)
    have hcd := Cb.chks_drop it.kids i hc
    rw [hd] at hcd
    obtain ⟨hcx, _⟩ := Cb.chks_cons hcd
    rw [hd, Db.elems_step, Int.toNat_natCast, Itm.of_val]
    generalize it.kids.getD i (STy.dflt .il) = x at h2 h3 hbd hcx
    rw [decide_eq_true (by omega), cond_true, ck_of (idx_ok (by omega) (by omega)), ck_of (decide_eq_true (by omega)), ck_of (by
        rw [decide_eq_true (show Itm.bulk x + (path ++ [(i : Int)]).length ≤ 1073741824 by simp only [List.length_append, List.length_singleton]; omega), decide_eq_true hcx, decide_eq_true (show 2 * Itm.bulk x + 1 < n by omega)]; rfl)]
    cases hv : Db.value x (path ++ [(i : Int)]) with
    | bad q =>
      rw [hv] at h3
      rw [h3]; rfl
    | ok v =>
      rw [hv] at h2 h3
      have h2' : v2 = v := h2
      have h3' : v3 = ⟨0, 0, []⟩ := h3
      rw [h3', show (!decide ((Flt.mk 0 0 []).err = 0)) = false from rfl, cond_false, ck_of (big_ap (by rw [h5]; simp only [List.length_singleton]; omega) (by rw [h5]; simp only [List.length_singleton]; omega)), h6, i64_in _ (by omega), show (i : Int) + 1 = ((i + 1 : Nat) : Int) by omega, ih (i + 1) _ (by omega) (by rw [h5]; simp only [List.length_append, List.length_singleton]; omega), h5, h2', e4]
      simp only
      rw [Db.Gots.app_app]; rfl
theorem ref28_value.j1_ok (n : Nat) (x2 : Bool) (it : Itv) (x4 : Val) (x5 : Flt) (p : List Int) (hb : Itm.bulk (Itm.of it) + p.length ≤ 1073741824) (hn : 2 * Itm.bulk (Itm.of it) < n) (hc : Cb.chk (Itm.of it) = 0) (h1 : x2 = decide (it.kind = 1 ∨ it.kind = 2)) :
    ref28_value.j1 n p it.kind x2 it x4 x5 ⟨12, 0, p⟩ = some (Db.value (Itm.of it) p).tv2 := by
  obtain ⟨ho, hcs⟩ := Cb.chk0 it hc
  obtain ⟨c1, c2, c3, c4, c5, c6, c7, c8, c9⟩ := Cb.own0 it ho
  rw [Itm.bulk_of] at hb hn
  have hlen := Itm.bulk_kids it.kids
  have L : ∀ g : Val, it.kind ≠ 6 → it.kind ≠ 5 → it.kind ≠ 7 → Db.leaf it.kind it.n it.bytes it.text = some g → Db.value (Itm.of it) p = .ok g := by
    intro g h6 h5 h7 hg
    rw [Db.value_of, if_neg h6, if_neg h5, if_neg h7, hg]; rfl
  refine ref28_value.j1_in _ _ _ _ _ _ _ _ ?_
  intro v1 e1 v2 e2 v3 e3 v4 e4 v5 e5 v6 e6 v7 e7 v8 e8 v9 e9 v10 e10 v11 e11 v12 e12 v13 e13 v14 e14 v15 e15 v16 e16 v17 e17 v18 e18 v19 e19 v20 e20 v21 e21 v22 e22 v23 e23
  by_cases k12 : it.kind = 1 ∨ it.kind = 2
  · rw [h1, decide_eq_true k12, cond_true, Db.value_of, if_neg (by omega), if_neg (by omega), if_neg (by omega), Db.half_of, if_neg (by omega), if_neg (by omega), if_neg (by omega), if_neg (by omega)]
    cases (Db.half (Itm.of it)).2 <;> rfl
  rw [h1, decide_eq_false k12, cond_false]
  by_cases k3 : it.kind = 3
  · rw [decide_eq_true k3, cond_true, L _ (by omega) (by omega) (by omega) (by rw [Db.half_of, if_neg (by omega), if_neg (by omega), if_pos k3])]; rfl
  rw [decide_eq_false k3, cond_false]
  by_cases k4 : it.kind = 4
  · rw [decide_eq_true k4, cond_true, L _ (by omega) (by omega) (by omega) (by rw [Db.half_of, if_neg (by omega), if_pos k4])]; rfl
  rw [decide_eq_false k4, cond_false]
  by_cases k9 : it.kind = 9
  · rw [decide_eq_true k9, cond_true, L _ (by omega) (by omega) (by omega) (by rw [Db.half_of, if_pos k9])]; rfl
  rw [decide_eq_false k9, cond_false]
  by_cases k8 : it.kind = 8
  · rw [decide_eq_true k8, cond_true, L _ (by omega) (by omega) (by omega) (by rw [Db.half_of, if_neg (by omega), if_neg (by omega), if_neg (by omega), if_pos k8])]
    by_cases a : it.n = 22
    · rw [decide_eq_true a, cond_true, if_pos a]; rfl
    rw [decide_eq_false a, cond_false, if_neg a]
    by_cases a : it.n = 23
    · rw [decide_eq_true a, cond_true, if_pos a]; rfl
    rw [decide_eq_false a, cond_false, if_neg a]; rfl
  rw [decide_eq_false k8, cond_false]
  by_cases k6 : it.kind = 6
  · rw [decide_eq_true k6, cond_true, ck_of (by rw [decide_eq_true (show Itm.bulks it.kids + p.length ≤ 1073741824 by omega), decide_eq_true (show Cb.chks it.kids = 0 ∧ it.kids.length % 2 = 0 from ⟨hcs, c7 k6⟩), decide_eq_true (show 2 * Itm.bulks it.kids + 2 < n by omega)]; rfl), e3, e2, e1, Db.value_of, if_pos k6, Db.got_lst 3 []]
  rw [decide_eq_false k6, cond_false]
  by_cases k5 : it.kind = 5
  · rw [decide_eq_true k5, cond_true, Db.value_of, if_neg k6, if_pos k5]
    have := ref28_value.l2_ok n it p x4 x5 4 0 0 0 [] [] 0 (by omega) (by omega) hcs it.kids.length 0 [] (by omega) (by simp only [List.length_nil]; omega)
    rw [List.drop_zero, Db.Gots.app_nil] at this
    exact this
  rw [decide_eq_false k5, cond_false]
  have k7 : it.kind = 7 := by omega
  obtain ⟨x, hx⟩ : ∃ x, it.kids = [x] := by
    match h : it.kids, c8 k7 with
    | [x], _ => exact ⟨x, rfl⟩
  rw [hx] at hb hn
  simp only [Itm.bulks] at hb hn
  rw [hx] at hcs
  obtain ⟨hcx, _⟩ := Cb.chks_cons hcs
  obtain ⟨hox, hcsx⟩ := Cb.chk_val x hcx
  have ox := Cb.own0 x.val (by rw [Itm.of_val]; exact hox)
  have hbx := Itm.bulk_val x
  have hlx := Itm.bulk_kids x.kids
  have ev : Db.value (Itm.of it) p = Db.tagv it.n x p := by
    rw [Db.value_of, if_neg (by omega), if_neg (by omega), if_pos k7, hx, Db.tags]
  rw [ev, Db.tagv_of]
  have hg : it.kids.getD (0 : Int).toNat (STy.dflt .il) = x := by rw [hx]; rfl
  rw [hg] at e4 e6 e7 e8 e10 e12 e22 e23
  rw [Itm.of_val] at e22 e23
  have e6 : v6 = Db.regular x.kids := e6
  have e7 : v7 = (Db.fields x.kids 0 (p ++ [0])).lst := e7
  have e8 : v8 = (Db.fields x.kids 0 (p ++ [0])).flt := e8
  have e10 : v10 = decide (x.kind = 5 ∧ x.kids.length = 2) := e10
  rw [hg, Itm.of_val]
  rw [ck_of (idx_ok (by omega) (by omega))]
  have hk : decide (Itm.bulk x ≤ 1099511627776) = true := decide_eq_true (by omega)
  simp only [hk, Bool.and_true, Bool.not_or_self, ck_true]
  by_cases A : it.n = 1004 ∧ x.kind = 6 ∧ ¬ Db.regular x.kids = true
  · obtain ⟨a4, c⟩ := A
    have he : x.kids.length % 2 = 0 := ox.2.2.2.2.2.2.1 c.1
    have h56 : (cond v5 (!v6) false) = true := by rw [e5, decide_eq_true a4, cond_true, e4, decide_eq_true c.1, e6, Bool.eq_false_iff.2 c.2]; rfl
    rw [h56, cond_true, if_pos a4, if_pos c, ck_of (decide_eq_true (by omega)), ck_of (by
        rw [decide_eq_true (show Itm.bulks x.val.kids + (p ++ [(0 : Int)]).length ≤ 1073741824 by show Itm.bulks x.kids + _ ≤ _; simp only [List.length_append, List.length_singleton]; omega), decide_eq_true (show Cb.chks x.val.kids = 0 ∧ x.val.kids.length % 2 = 0 from ⟨hcsx, he⟩), decide_eq_true (show 2 * Itm.bulks x.val.kids + 2 < n by show 2 * Itm.bulks x.kids + 2 < n; omega)]; rfl), e9, e8, e7, Db.got_lst 4 []]
  have h56 : (cond v5 (!v6) false) = false := by
    rw [e5, e4, e6]
    by_cases a : it.n = 1004
    · rw [decide_eq_true a, cond_true]
      by_cases b : x.kind = 6
      · have : Db.regular x.kids = true := Classical.byContradiction fun h => A ⟨a, b, h⟩
        rw [decide_eq_true b, this]; rfl
      · rw [decide_eq_false b]; rfl
    · rw [decide_eq_false a]; rfl
  rw [h56, cond_false]
  have e11' : v11 = decide (it.n = 1015 ∧ x.kind = 5 ∧ x.kids.length = 2) := by
    rw [e11, e10]
    by_cases a : it.n = 1015 <;> simp [a]
  by_cases B : it.n = 1015 ∧ Db.kinds x 4 6 = true
  · obtain ⟨a15, c⟩ := B
    have hk := of_decide_eq_true c
    have hlen2 : x.kids.length = 2 := hk.2.1
    obtain ⟨a, m, hkids⟩ : ∃ a m, x.kids = [a, m] := by
      match h : x.kids, hlen2 with
      | [a, m], _ => exact ⟨a, m, rfl⟩
    have ha4 : a.kind = 4 := by have := hk.2.2.1; rw [Db.fst, hkids] at this; exact this
    have hm6 : m.kind = 6 := by have := hk.2.2.2; rw [Db.snd, hkids] at this; exact this
    have hcm : Cb.chk m = 0 := by
      rw [hkids] at hcsx
      exact (Cb.chks_cons (Cb.chks_cons hcsx).2).1
    obtain ⟨hom, hcsm⟩ := Cb.chk_val m hcm
    have om := Cb.own0 m.val (by rw [Itm.of_val]; exact hom)
    have he : m.kids.length % 2 = 0 := om.2.2.2.2.2.2.1 hm6
    have hbm := Itm.bulk_val m
    have hb2 : Itm.bulks x.kids = Itm.bulk a + (Itm.bulk m + 0) := by rw [hkids]; rfl
    have ha1 := Itm.bulk_pos a
    have g0 : v12.getD (0 : Int).toNat (STy.dflt .il) = a := by rw [e12, hkids]; rfl
    have g1 : v12.getD (1 : Int).toNat (STy.dflt .il) = m := by rw [e12, hkids]; rfl
    rw [g0] at e13 e20
    rw [g1] at e15 e18 e19
    have e18 : v18 = (Db.fields m.kids 0 v17).lst := e18
    have e19 : v19 = (Db.fields m.kids 0 v17).flt := e19
    have i0 : idxOK (0 : Int) v12.length = true := by rw [e12]; exact idx_ok (by omega) (by omega)
    have i1 : idxOK (1 : Int) v12.length = true := by rw [e12]; exact idx_ok (by omega) (by omega)
    have t11 : v11 = true := by rw [e11']; exact decide_eq_true ⟨a15, hk.1, hlen2⟩
    have t14 : v14 = true := by rw [e14, t11, e13, decide_eq_true ha4]; rfl
    have t16 : v16 = true := by rw [e16, t14, e15, decide_eq_true hm6]; rfl
    have e17' : v17 = p ++ [0, 1] := by rw [e17]; simp
    simp only [i0, i1, Bool.and_true, Bool.not_or_self, Bool.and_self, ck_true]
    rw [t16, cond_true, ck_of (decide_eq_true (by omega)), ck_of (decide_eq_true (by simp only [List.length_append, List.length_singleton]; omega)), g1, ck_of (by
        rw [decide_eq_true (show Itm.bulks m.val.kids + v17.length ≤ 1073741824 by rw [e17']; show Itm.bulks m.kids + _ ≤ _; simp only [List.length_append, List.length_cons, List.length_nil]; omega), decide_eq_true (show Cb.chks m.val.kids = 0 ∧ m.val.kids.length % 2 = 0 from ⟨hcsm, he⟩), decide_eq_true (show 2 * Itm.bulks m.val.kids + 2 < n by show 2 * Itm.bulks m.kids + 2 < n; omega)]; rfl),
      e21, e20, e19, e18, Db.got_lst 15 a.text, if_neg (by rw [a15]; decide), if_pos a15, if_pos c, Db.pairv_of _ _ hlen2, hkids, e17']; rfl
  have c14 : v14 = true → v16 = false := fun t => by
    rw [e16, t, cond_true]
    refine decide_eq_false fun h6 => B ?_
    rw [e14] at t
    cases q : v11 with
    | false => rw [q] at t; cases t
    | true =>
      rw [q, cond_true] at t
      rw [e11'] at q
      obtain ⟨q1, q2, q3⟩ := of_decide_eq_true q
      refine ⟨q1, decide_eq_true ⟨q2, q3, ?_, ?_⟩⟩
      · have := of_decide_eq_true t; rw [e13, e12] at this; exact this
      · rw [e15, e12] at h6; exact h6
  have f16 : v16 = false := by
    cases q : v14 with
    | false => rw [e16, q]; rfl
    | true => exact c14 q
  have C1 : (!v11 || (v11 && idxOK (0 : Int) v12.length)) = true := by
    cases q : v11 with
    | false => rfl
    | true =>
      rw [e11'] at q
      have := (of_decide_eq_true q).2.2
      rw [idx_ok (by omega) (by rw [e12]; omega)]; rfl
  have C2 : (!v14 || (v14 && idxOK (1 : Int) v12.length)) = true := by
    cases q : v14 with
    | false => rfl
    | true =>
      rw [e14] at q
      cases q1 : v11 with
      | false => rw [q1] at q; cases q
      | true =>
        rw [e11'] at q1
        have := (of_decide_eq_true q1).2.2
        rw [idx_ok (by omega) (by rw [e12]; omega)]; rfl
  rw [ck_of C1, ck_of C2, f16, cond_false]
  obtain ⟨T1, T2⟩ := Db.tagged_small it.n x
  have hsm : it.n = 1004 ∨ it.n = 1015 → (Db.smallV it.n x).2 = false := by
    rintro (h | h) <;> rw [h, Db.smallV, if_neg (by decide), if_neg (by decide), if_neg (by decide), if_neg (by decide), if_neg (by decide), if_neg (by decide), if_neg (by decide), if_neg (by decide), if_neg (by decide), if_neg (by decide)]
  have hres : (if it.n = 1004 then (if x.kind = 6 ∧ ¬ Db.regular x.kids = true then (Db.fields x.kids 0 (p ++ [0])).got (Db.doc 4 []) else .bad p) else if it.n = 1015 then (if Db.kinds x 4 6 = true then Db.pairv x.kids p else .bad p) else Db.opt (Db.small it.n x) p : Db.Got) = Db.opt (Db.small it.n x) p := by
    by_cases a : it.n = 1004
    · rw [if_pos a, if_neg (fun h => A ⟨a, h⟩), Db.small, hsm (.inl a)]; rfl
    rw [if_neg a]
    by_cases a : it.n = 1015
    · rw [if_pos a, if_neg (fun h => B ⟨a, h⟩), Db.small, hsm (.inr a)]; rfl
    rw [if_neg a]
  rw [hres, Db.small, e23, T1]
  cases q : (Db.smallV it.n x).2 with
  | false => rfl
  | true => rw [Bool.not_true, cond_false, e22, T2 q]; rfl
theorem ref28_value.goal (n:Nat) (it:Itv) (p:List Int) (hp:((decide (Itm.bulk (Itm.of it)+p.length≤1073741824)&&decide (Cb.chk (Itm.of it)=0))&&decide ((2 * Itm.bulk (Itm.of it)+1)<n+1))=true):ref28_value.F n it p=some (Db.value (Itm.of it) p).tv2:=by
 simp only [Bool.and_eq_true,decide_eq_true_eq] at hp
 obtain ⟨⟨hb,hc⟩,hn⟩:=hp
 rw [ref28_value.F_eq]
 have J:=fun b hb'=>ref28_value.j1_ok n b it Db.zero ⟨0,0,[]⟩ p hb (by omega) hc hb'
 by_cases k1:it.kind=1
 ·rw [decide_eq_true k1,cond_true];exact J _ (by rw [decide_eq_true (.inl k1)])
 ·rw [decide_eq_false k1,cond_false];exact J _ (by simp [k1])
theorem ref28_Value.goal (it:Itv) (hp:decide (Itm.bulk (Itm.of it)≤1073741824)=true):ref28_Value.F it=some [.ag (Val.cells (Db.dec (Itm.of it)).1),.ag (Flt.cells (Db.dec (Itm.of it)).2)]:=by
 have hb:=of_decide_eq_true hp
 refine ref28_Value.F_in _ ?_
 intro v1 e1 v2 e2 v3 e3
 rw [ck_of (decide_eq_true (by omega)),Db.dec]
 by_cases a:Cb.chk (Itm.of it)=0
 ·rw [decide_eq_true a,Bool.not_true,cond_false,if_neg (fun h=>h a)]
  obtain ⟨ho,hcs⟩:=Cb.chk0 it a
  by_cases k6:it.kind=6
  ·have he:=(Cb.own0 it ho).2.2.2.2.2.2.1 k6
   rw [Itm.bulk_of] at hb
   rw [decide_eq_true k6,Bool.not_true,cond_false,if_neg (show ¬(Itm.of it).kind≠6 from fun h=>h k6),ck_of (by rw [decide_eq_true (show Itm.bulks it.kids+([]:List Int).length≤1073741824 by simp only [List.length_nil];omega),decide_eq_true (show Cb.chks it.kids=0∧it.kids.length % 2=0 from ⟨hcs,he⟩)];rfl),e3,e2,e1,Db.value_of,if_pos k6,Db.got_lst 3 []];rfl
  ·rw [decide_eq_false k6,Bool.not_false,cond_true,if_pos (show (Itm.of it).kind≠6 from k6)];rfl
 ·rw [decide_eq_false a,Bool.not_false,cond_true,if_pos a];rfl
theorem law30_awake.goal:law30_awake.F=some [.b true]:=by
 refine law30_awake.F_in ?_
 intro v1 h1 v2 h2 v3 h3 v4 h4 v5 h5 v6 h6 v7 h7 v8 h8 v9 h9 v10 h10 v11 h11 v12 h12 v13 h13 v14 h14 v15 h15
 subst h1
 have e2:v2.err=0:=by rw [h2];decide +kernel
 have e4:v4.err=12:=by rw [h4];decide +kernel
 have e5:v5=6:=by rw [h5];decide +kernel
 have e7:v7.length=2:=by rw [h7];decide +kernel
 have e9:v9=[97]:=by rw [h9,h7];decide +kernel
 have e11:v11=7:=by rw [h11,h7];decide +kernel
 have e13:v13=1018:=by rw [h13,h7];decide +kernel
 have t6:v6=true:=by rw [h6,e2,e5];rfl
 have t8:v8=true:=by rw [h8,t6,e7];rfl
 have t10:v10=true:=by rw [h10,t8,e9];rfl
 have t12:v12=true:=by rw [h12,t10,e11];rfl
 have t14:v14=true:=by rw [h14,t12,e13];rfl
 have t15:v15=true:=by rw [h15,t14,e4];rfl
 have i0:idxOK (0:Int) v7.length=true:=by rw [e7];rfl
 have i1:idxOK (1:Int) v7.length=true:=by rw [e7];rfl
 rw [ck_of (by decide +kernel),ck_of (by decide +kernel)]
 simp only [i0,i1,t15,Bool.and_true,Bool.not_or_self,ck_true]
end Go.Eng
namespace Go.Eng
theorem utf_is.fit (r:Int):([.i .i64 r]:List TV).length=utf_is.d.np∧utf_is.d.run (envL trydbGl utf_is.env) [.i .i64 r]=some (([(.b (Utf.isRune r))]:List TV)++utf_is.d.ps.toList.map fun q=>([.i .i64 r]:List TV).getD q.1 .dead) :=
 ⟨by kernel_rfl,Eq.trans (b:=utf_is.F r) (by kernel_rfl) (Eq.trans (utf_is.goal r) (by kernel_rfl))⟩
theorem utf_is.ok:SpecOK Go.Proofs.Tryd.prog (fun n=>(trydbGl n).av) 94 (Ctr.fs (utf_is.c,utf_is.sg)) :=
 meets (l:=utf_is.env) all_nil utf_is.chk (by
   intro ins outs h
   unfold utf_is.c at h
   split at h
   ·cases h;exact utf_is.fit _
   ·exact h.elim)
theorem utf_Rune.fit (b:List UInt8) (at_:Int) (hp:(decide (b.length≤1099511627776))=true):([.sl .bs b,.i .i64 at_]:List TV).length=utf_Rune.d.np∧utf_Rune.d.run (envL trydbGl utf_Rune.env) [.sl .bs b,.i .i64 at_]=some (([(.i .i64 ((Utf.runeAt b at_).1)),(.i .i64 ((Utf.runeAt b at_).2))]:List TV)++utf_Rune.d.ps.toList.map fun q=>([.sl .bs b,.i .i64 at_]:List TV).getD q.1 .dead) :=
 ⟨by kernel_rfl,Eq.trans (b:=utf_Rune.F b at_) (by kernel_rfl) (Eq.trans (utf_Rune.goal b at_ hp) (by kernel_rfl))⟩
theorem utf_Rune.ok:SpecOK Go.Proofs.Tryd.prog (fun n=>(trydbGl n).av) 84 (Ctr.fs (utf_Rune.c,utf_Rune.sg)) :=
 meets (l:=utf_Rune.env) (all_cons utf_is.ok all_nil) utf_Rune.chk (by
   intro ins outs h
   unfold utf_Rune.c at h
   split at h
   ·obtain ⟨hp,rfl⟩:=h;exact utf_Rune.fit _ _ hp
   ·exact h.elim)
theorem utf_look.fit (b:List UInt8) (hp:(decide (b.length≤1099511627776))=true):([.sl .bs b]:List TV).length=utf_look.d.np∧utf_look.d.run (envL trydbGl utf_look.env) [.sl .bs b]=some (([(.i .i64 (((Utf.look b).1:Int))),(.i .i64 (((Utf.look b).2:Int)))]:List TV)++utf_look.d.ps.toList.map fun q=>([.sl .bs b]:List TV).getD q.1 .dead) :=
 ⟨by kernel_rfl,Eq.trans (b:=utf_look.F b) (by kernel_rfl) (Eq.trans (utf_look.goal b hp) (by kernel_rfl))⟩
theorem utf_look.ok:SpecOK Go.Proofs.Tryd.prog (fun n=>(trydbGl n).av) 67 (Ctr.fs (utf_look.c,utf_look.sg)) :=
 meets (l:=utf_look.env) (all_cons utf_Rune.ok all_nil) utf_look.chk (by
   intro ins outs h
   unfold utf_look.c at h
   split at h
   ·obtain ⟨hp,rfl⟩:=h;exact utf_look.fit _ hp
   ·exact h.elim)
theorem utf_Check.fit (b:List UInt8) (hp:(decide (b.length≤1099511627776))=true):([.sl .bs b]:List TV).length=utf_Check.d.np∧utf_Check.d.run (envL trydbGl utf_Check.env) [.sl .bs b]=some (([(.i .i64 (((Utf.look b).1:Int))),(.b (Utf.whole b))]:List TV)++utf_Check.d.ps.toList.map fun q=>([.sl .bs b]:List TV).getD q.1 .dead) :=
 ⟨by kernel_rfl,Eq.trans (b:=utf_Check.F b) (by kernel_rfl) (Eq.trans (utf_Check.goal b hp) (by kernel_rfl))⟩
theorem utf_Check.ok:SpecOK Go.Proofs.Tryd.prog (fun n=>(trydbGl n).av) 41 (Ctr.fs (utf_Check.c,utf_Check.sg)) :=
 meets (l:=utf_Check.env) (all_cons utf_look.ok all_nil) utf_Check.chk (by
   intro ins outs h
   unfold utf_Check.c at h
   split at h
   ·obtain ⟨hp,rfl⟩:=h;exact utf_Check.fit _ hp
   ·exact h.elim)
theorem ref2_Rune.fit (b:List UInt8) (at_:Int) (hp:(decide (b.length≤1099511627776))=true):([.sl .bs b,.i .i64 at_]:List TV).length=ref2_Rune.d.np∧ref2_Rune.d.run (envL trydbGl ref2_Rune.env) [.sl .bs b,.i .i64 at_]=some (([(.i .i64 ((Utf.runeAt b at_).1)),(.i .i64 ((Utf.runeAt b at_).2))]:List TV)++ref2_Rune.d.ps.toList.map fun q=>([.sl .bs b,.i .i64 at_]:List TV).getD q.1 .dead) :=
 ⟨by kernel_rfl,Eq.trans (b:=ref2_Rune.F b at_) (by kernel_rfl) (Eq.trans (ref2_Rune.goal b at_ hp) (by kernel_rfl))⟩
theorem ref2_Rune.ok:SpecOK Go.Proofs.Tryd.prog (fun n=>(trydbGl n).av) 92 (Ctr.fs (ref2_Rune.c,ref2_Rune.sg)) :=
 meets (l:=ref2_Rune.env) all_nil ref2_Rune.chk (by
   intro ins outs h
   unfold ref2_Rune.c at h
   split at h
   ·obtain ⟨hp,rfl⟩:=h;exact ref2_Rune.fit _ _ hp
   ·exact h.elim)
theorem ref2_Check.fit (b:List UInt8) (hp:(decide (b.length≤1099511627776))=true):([.sl .bs b]:List TV).length=ref2_Check.d.np∧ref2_Check.d.run (envL trydbGl ref2_Check.env) [.sl .bs b]=some (([(.i .i64 (((Utf.look b).1:Int))),(.b (Utf.whole b))]:List TV)++ref2_Check.d.ps.toList.map fun q=>([.sl .bs b]:List TV).getD q.1 .dead) :=
 ⟨by kernel_rfl,Eq.trans (b:=ref2_Check.F b) (by kernel_rfl) (Eq.trans (ref2_Check.goal b hp) (by kernel_rfl))⟩
theorem ref2_Check.ok:SpecOK Go.Proofs.Tryd.prog (fun n=>(trydbGl n).av) 78 (Ctr.fs (ref2_Check.c,ref2_Check.sg)) :=
 meets (l:=ref2_Check.env) (all_cons ref2_Rune.ok all_nil) ref2_Check.chk (by
   intro ins outs h
   unfold ref2_Check.c at h
   split at h
   ·obtain ⟨hp,rfl⟩:=h;exact ref2_Check.fit _ hp
   ·exact h.elim)
theorem ref2_Whole.fit (s:Str) (hp:(decide (s.length≤1099511627776))=true):([.s s]:List TV).length=ref2_Whole.d.np∧ref2_Whole.d.run (envL trydbGl ref2_Whole.env) [.s s]=some (([(.b (Utf.whole s))]:List TV)++ref2_Whole.d.ps.toList.map fun q=>([.s s]:List TV).getD q.1 .dead) :=
 ⟨by kernel_rfl,Eq.trans (b:=ref2_Whole.F s) (by kernel_rfl) (Eq.trans (ref2_Whole.goal s hp) (by kernel_rfl))⟩
theorem ref2_Whole.ok:SpecOK Go.Proofs.Tryd.prog (fun n=>(trydbGl n).av) 48 (Ctr.fs (ref2_Whole.c,ref2_Whole.sg)) :=
 meets (l:=ref2_Whole.env) (all_cons ref2_Check.ok all_nil) ref2_Whole.chk (by
   intro ins outs h
   unfold ref2_Whole.c at h
   split at h
   ·obtain ⟨hp,rfl⟩:=h;exact ref2_Whole.fit _ hp
   ·exact h.elim)
theorem ref2_Zero.fit (s:Str) (hp:(decide (s.length≤1099511627776))=true):([.s s]:List TV).length=ref2_Zero.d.np∧ref2_Zero.d.run (envL trydbGl ref2_Zero.env) [.s s]=some (([(.b (Utf.zero s))]:List TV)++ref2_Zero.d.ps.toList.map fun q=>([.s s]:List TV).getD q.1 .dead) :=
 ⟨by kernel_rfl,Eq.trans (b:=ref2_Zero.F s) (by kernel_rfl) (Eq.trans (ref2_Zero.goal s hp) (by kernel_rfl))⟩
theorem ref2_Zero.ok:SpecOK Go.Proofs.Tryd.prog (fun n=>(trydbGl n).av) 45 (Ctr.fs (ref2_Zero.c,ref2_Zero.sg)) :=
 meets (l:=ref2_Zero.env) all_nil ref2_Zero.chk (by
   intro ins outs h
   unfold ref2_Zero.c at h
   split at h
   ·obtain ⟨hp,rfl⟩:=h;exact ref2_Zero.fit _ hp
   ·exact h.elim)
theorem sl_IndexByte.fit (s:Str) (c:UInt8):([.s s,.u8 c]:List TV).length=sl_IndexByte.d.np∧sl_IndexByte.d.run (envL trydbGl sl_IndexByte.env) [.s s,.u8 c]=some (([(.i .i64 (Lib.indexByte s c))]:List TV)++sl_IndexByte.d.ps.toList.map fun q=>([.s s,.u8 c]:List TV).getD q.1 .dead) :=
 ⟨by kernel_rfl,Eq.trans (b:=sl_IndexByte.F s c) (by kernel_rfl) (Eq.trans (sl_IndexByte.goal s c) (by kernel_rfl))⟩
theorem sl_IndexByte.ok:SpecOK Go.Proofs.Tryd.prog (fun n=>(trydbGl n).av) 95 (Ctr.fs (sl_IndexByte.c,sl_IndexByte.sg)) :=
 meets (l:=sl_IndexByte.env) all_nil sl_IndexByte.chk (by
   intro ins outs h
   unfold sl_IndexByte.c at h
   split at h
   ·cases h;exact sl_IndexByte.fit _ _
   ·exact h.elim)
theorem sl_Index.fit (s:Str) (t:Str) (hp:(decide (t.length=1))=true):([.s s,.s t]:List TV).length=sl_Index.d.np∧sl_Index.d.run (envL trydbGl sl_Index.env) [.s s,.s t]=some (([(.i .i64 (Lib.indexByte s (t.getD 0 0)))]:List TV)++sl_Index.d.ps.toList.map fun q=>([.s s,.s t]:List TV).getD q.1 .dead) :=
 ⟨by kernel_rfl,Eq.trans (b:=sl_Index.F s t) (by kernel_rfl) (Eq.trans (sl_Index.goal s t hp) (by kernel_rfl))⟩
theorem sl_Index.ok:SpecOK Go.Proofs.Tryd.prog (fun n=>(trydbGl n).av) 85 (Ctr.fs (sl_Index.c,sl_Index.sg)) :=
 meets (l:=sl_Index.env) (all_cons sl_IndexByte.ok all_nil) sl_Index.chk (by
   intro ins outs h
   unfold sl_Index.c at h
   split at h
   ·obtain ⟨hp,rfl⟩:=h;exact sl_Index.fit _ _ hp
   ·exact h.elim)
theorem st_Index.fit (s:Str) (t:Str) (hp:(decide (t.length=1))=true):([.s s,.s t]:List TV).length=st_Index.d.np∧st_Index.d.run (envL trydbGl st_Index.env) [.s s,.s t]=some (([(.i .i64 (Lib.indexByte s (t.getD 0 0)))]:List TV)++st_Index.d.ps.toList.map fun q=>([.s s,.s t]:List TV).getD q.1 .dead) :=
 ⟨by kernel_rfl,Eq.trans (b:=st_Index.F s t) (by kernel_rfl) (Eq.trans (st_Index.goal s t hp) (by kernel_rfl))⟩
theorem st_Index.ok:SpecOK Go.Proofs.Tryd.prog (fun n=>(trydbGl n).av) 68 (Ctr.fs (st_Index.c,st_Index.sg)) :=
 meets (l:=st_Index.env) (all_cons sl_Index.ok all_nil) st_Index.chk (by
   intro ins outs h
   unfold st_Index.c at h
   split at h
   ·obtain ⟨hp,rfl⟩:=h;exact st_Index.fit _ _ hp
   ·exact h.elim)
theorem st_Contains.fit (s:Str) (t:Str) (hp:(decide (t.length=1))=true):([.s s,.s t]:List TV).length=st_Contains.d.np∧st_Contains.d.run (envL trydbGl st_Contains.env) [.s s,.s t]=some (([(.b (decide (0≤Lib.indexByte s (t.getD 0 0))))]:List TV)++st_Contains.d.ps.toList.map fun q=>([.s s,.s t]:List TV).getD q.1 .dead) :=
 ⟨by kernel_rfl,Eq.trans (b:=st_Contains.F s t) (by kernel_rfl) (Eq.trans (st_Contains.goal s t hp) (by kernel_rfl))⟩
theorem st_Contains.ok:SpecOK Go.Proofs.Tryd.prog (fun n=>(trydbGl n).av) 43 (Ctr.fs (st_Contains.c,st_Contains.sg)) :=
 meets (l:=st_Contains.env) (all_cons st_Index.ok all_nil) st_Contains.chk (by
   intro ins outs h
   unfold st_Contains.c at h
   split at h
   ·obtain ⟨hp,rfl⟩:=h;exact st_Contains.fit _ _ hp
   ·exact h.elim)
theorem tree_Name.fit (k:Int):([.i .i64 k]:List TV).length=tree_Name.d.np∧tree_Name.d.run (envL trydbGl tree_Name.env) [.i .i64 k]=some (([(.s (Tree.name k))]:List TV)++tree_Name.d.ps.toList.map fun q=>([.i .i64 k]:List TV).getD q.1 .dead) :=
 ⟨by kernel_rfl,Eq.trans (b:=tree_Name.F k) (by kernel_rfl) (Eq.trans (tree_Name.goal k) (by kernel_rfl))⟩
theorem tree_Name.ok:SpecOK Go.Proofs.Tryd.prog (fun n=>(trydbGl n).av) 52 (Ctr.fs (tree_Name.c,tree_Name.sg)) :=
 meets (l:=tree_Name.env) all_nil tree_Name.chk (by
   intro ins outs h
   unfold tree_Name.c at h
   split at h
   ·cases h;exact tree_Name.fit _
   ·exact h.elim)
theorem tree_fields.fit (v_kind:Int) (v_bits:UInt64) (v_high:UInt64) (v_low:UInt64) (v_text:Str) (v_more:Str) (v_sub:Int) (v_bytes:List UInt8) (v_kids:List Fld):([.ag [.i .i64 v_kind,.u64 v_bits,.u64 v_high,.u64 v_low,.s v_text,.s v_more,.i .i64 v_sub,.sl .bs v_bytes,.sl .fl v_kids]]:List TV).length=tree_fields.d.np∧tree_fields.d.run (envL trydbGl tree_fields.env) [.ag [.i .i64 v_kind,.u64 v_bits,.u64 v_high,.u64 v_low,.s v_text,.s v_more,.i .i64 v_sub,.sl .bs v_bytes,.sl .fl v_kids]]=some (([(.b (Tree.fieldsOK (Val.mk v_kind v_bits v_high v_low v_text v_more v_sub v_bytes v_kids)))]:List TV)++tree_fields.d.ps.toList.map fun q=>([.ag [.i .i64 v_kind,.u64 v_bits,.u64 v_high,.u64 v_low,.s v_text,.s v_more,.i .i64 v_sub,.sl .bs v_bytes,.sl .fl v_kids]]:List TV).getD q.1 .dead) :=
 ⟨by kernel_rfl,Eq.trans (b:=tree_fields.F (Val.mk v_kind v_bits v_high v_low v_text v_more v_sub v_bytes v_kids)) (by kernel_rfl) (Eq.trans (tree_fields.goal (Val.mk v_kind v_bits v_high v_low v_text v_more v_sub v_bytes v_kids)) (by kernel_rfl))⟩
theorem tree_fields.ok:SpecOK Go.Proofs.Tryd.prog (fun n=>(trydbGl n).av) 53 (Ctr.fs (tree_fields.c,tree_fields.sg)) :=
 meets (l:=tree_fields.env) all_nil tree_fields.chk (by
   intro ins outs h
   unfold tree_fields.c at h
   split at h
   ·cases h;exact tree_fields.fit _ _ _ _ _ _ _ _ _
   ·exact h.elim)
theorem tree_whole.fit (s:Str) (plain:Bool) (hp:(decide (s.length≤1099511627776))=true):([.s s,.b plain]:List TV).length=tree_whole.d.np∧tree_whole.d.run (envL trydbGl tree_whole.env) [.s s,.b plain]=some (([(.b (Tree.wholeT s plain))]:List TV)++tree_whole.d.ps.toList.map fun q=>([.s s,.b plain]:List TV).getD q.1 .dead) :=
 ⟨by kernel_rfl,Eq.trans (b:=tree_whole.F s plain) (by kernel_rfl) (Eq.trans (tree_whole.goal s plain hp) (by kernel_rfl))⟩
theorem tree_whole.ok:SpecOK Go.Proofs.Tryd.prog (fun n=>(trydbGl n).av) 54 (Ctr.fs (tree_whole.c,tree_whole.sg)) :=
 meets (l:=tree_whole.env) (all_cons utf_Check.ok (all_cons st_Contains.ok all_nil)) tree_whole.chk (by
   intro ins outs h
   unfold tree_whole.c at h
   split at h
   ·obtain ⟨hp,rfl⟩:=h;exact tree_whole.fit _ _ hp
   ·exact h.elim)
theorem tree_check.fit (n:Nat) (v_kind:Int) (v_bits:UInt64) (v_high:UInt64) (v_low:UInt64) (v_text:Str) (v_more:Str) (v_sub:Int) (v_bytes:List UInt8) (v_kids:List Fld) (name:Str) (path:List Int) (hp:((decide (Fld.bulk (Fld.of name (Val.mk v_kind v_bits v_high v_low v_text v_more v_sub v_bytes v_kids))+path.length≤1099511627776))&&decide ((Fld.bulk (Fld.of name (Val.mk v_kind v_bits v_high v_low v_text v_more v_sub v_bytes v_kids)))<n+1))=true):([.ag [.i .i64 v_kind,.u64 v_bits,.u64 v_high,.u64 v_low,.s v_text,.s v_more,.i .i64 v_sub,.sl .bs v_bytes,.sl .fl v_kids],.s name,.sl .is path]:List TV).length=tree_check.d.np∧tree_check.d.run (envL trydbGl (tree_check.env n)) [.ag [.i .i64 v_kind,.u64 v_bits,.u64 v_high,.u64 v_low,.s v_text,.s v_more,.i .i64 v_sub,.sl .bs v_bytes,.sl .fl v_kids],.s name,.sl .is path]=some (([(.sl .is ((Tree.chkF (Fld.of name (Val.mk v_kind v_bits v_high v_low v_text v_more v_sub v_bytes v_kids)) path).1)),(.i .i64 ((Tree.chkF (Fld.of name (Val.mk v_kind v_bits v_high v_low v_text v_more v_sub v_bytes v_kids)) path).2))]:List TV)++tree_check.d.ps.toList.map fun q=>([.ag [.i .i64 v_kind,.u64 v_bits,.u64 v_high,.u64 v_low,.s v_text,.s v_more,.i .i64 v_sub,.sl .bs v_bytes,.sl .fl v_kids],.s name,.sl .is path]:List TV).getD q.1 .dead) :=
 ⟨by kernel_rfl,Eq.trans (b:=tree_check.F n (Val.mk v_kind v_bits v_high v_low v_text v_more v_sub v_bytes v_kids) name path) (by kernel_rfl) (Eq.trans (tree_check.goal n (Val.mk v_kind v_bits v_high v_low v_text v_more v_sub v_bytes v_kids) name path hp) (by kernel_rfl))⟩
theorem tcheck.oks : ∀ n : Nat, (SpecOK Go.Proofs.Tryd.prog (fun n => (trydbGl n).av) 35 (Ctr.fs (tree_check.cn n, tree_check.sg))) := by
  intro n
  induction n with
  | zero => exact spec_zero (by
      intro ti to_ h
      unfold tree_check.cn at h
      split at h
      · obtain ⟨h, _⟩ := h; simp at h
      · exact h.elim)
  | succ n ih =>
    have ih0 := ih
    exact meets (l := tree_check.env n) (all_cons ih0 (all_cons clone_is.ok (all_cons tree_Name.ok (all_cons tree_fields.ok (all_cons tree_whole.ok all_nil))))) (tree_check.chk n) (by
      intro ins outs h
      unfold tree_check.cn at h
      split at h
      · obtain ⟨hp, rfl⟩ := h; exact tree_check.fit n _ _ _ _ _ _ _ _ _ _ _ hp
      · exact h.elim)
theorem tree_check.ok:SpecOK Go.Proofs.Tryd.prog (fun n=>(trydbGl n).av) 35 (Ctr.fs (tree_check.c,tree_check.sg)):=spec_sub fun ti to_ h=>by
 unfold tree_check.c at h
 split at h
 ·obtain ⟨hp,rfl⟩:=h;exact ⟨tree_check.cn (_+1),(tcheck.oks _),Bool.and_eq_true_iff.2 ⟨hp,decide_eq_true (Nat.lt_succ_self _)⟩,rfl⟩
 ·exact h.elim
theorem tree_Check.fit (v_kind:Int) (v_bits:UInt64) (v_high:UInt64) (v_low:UInt64) (v_text:Str) (v_more:Str) (v_sub:Int) (v_bytes:List UInt8) (v_kids:List Fld) (hp:(decide (Fld.bulk (Fld.of [] (Val.mk v_kind v_bits v_high v_low v_text v_more v_sub v_bytes v_kids))≤1099511627776))=true):([.ag [.i .i64 v_kind,.u64 v_bits,.u64 v_high,.u64 v_low,.s v_text,.s v_more,.i .i64 v_sub,.sl .bs v_bytes,.sl .fl v_kids]]:List TV).length=tree_Check.d.np∧tree_Check.d.run (envL trydbGl tree_Check.env) [.ag [.i .i64 v_kind,.u64 v_bits,.u64 v_high,.u64 v_low,.s v_text,.s v_more,.i .i64 v_sub,.sl .bs v_bytes,.sl .fl v_kids]]=some (([(.sl .is ((Tree.chkF (Fld.of [] (Val.mk v_kind v_bits v_high v_low v_text v_more v_sub v_bytes v_kids)) []).1)),(.i .i64 ((Tree.chkF (Fld.of [] (Val.mk v_kind v_bits v_high v_low v_text v_more v_sub v_bytes v_kids)) []).2))]:List TV)++tree_Check.d.ps.toList.map fun q=>([.ag [.i .i64 v_kind,.u64 v_bits,.u64 v_high,.u64 v_low,.s v_text,.s v_more,.i .i64 v_sub,.sl .bs v_bytes,.sl .fl v_kids]]:List TV).getD q.1 .dead) :=
 ⟨by kernel_rfl,Eq.trans (b:=tree_Check.F (Val.mk v_kind v_bits v_high v_low v_text v_more v_sub v_bytes v_kids)) (by kernel_rfl) (Eq.trans (tree_Check.goal (Val.mk v_kind v_bits v_high v_low v_text v_more v_sub v_bytes v_kids) hp) (by kernel_rfl))⟩
theorem tree_Check.ok:SpecOK Go.Proofs.Tryd.prog (fun n=>(trydbGl n).av) 21 (Ctr.fs (tree_Check.c,tree_Check.sg)) :=
 meets (l:=tree_Check.env) (all_cons tree_check.ok all_nil) tree_Check.chk (by
   intro ins outs h
   unfold tree_Check.c at h
   split at h
   ·obtain ⟨hp,rfl⟩:=h;exact tree_Check.fit _ _ _ _ _ _ _ _ _ hp
   ·exact h.elim)
theorem ref17_Own.fit (a_kind:Int) (a_bits:UInt64) (a_high:UInt64) (a_low:UInt64) (a_text:Str) (a_more:Str) (a_sub:Int) (a_bytes:List UInt8) (a_kids:List Fld) (b_kind:Int) (b_bits:UInt64) (b_high:UInt64) (b_low:UInt64) (b_text:Str) (b_more:Str) (b_sub:Int) (b_bytes:List UInt8) (b_kids:List Fld):([.ag [.i .i64 a_kind,.u64 a_bits,.u64 a_high,.u64 a_low,.s a_text,.s a_more,.i .i64 a_sub,.sl .bs a_bytes,.sl .fl a_kids],.ag [.i .i64 b_kind,.u64 b_bits,.u64 b_high,.u64 b_low,.s b_text,.s b_more,.i .i64 b_sub,.sl .bs b_bytes,.sl .fl b_kids]]:List TV).length=ref17_Own.d.np∧ref17_Own.d.run (envL trydbGl ref17_Own.env) [.ag [.i .i64 a_kind,.u64 a_bits,.u64 a_high,.u64 a_low,.s a_text,.s a_more,.i .i64 a_sub,.sl .bs a_bytes,.sl .fl a_kids],.ag [.i .i64 b_kind,.u64 b_bits,.u64 b_high,.u64 b_low,.s b_text,.s b_more,.i .i64 b_sub,.sl .bs b_bytes,.sl .fl b_kids]]=some (([(.b (Tree.ownSame (Val.mk a_kind a_bits a_high a_low a_text a_more a_sub a_bytes a_kids) (Val.mk b_kind b_bits b_high b_low b_text b_more b_sub b_bytes b_kids)))]:List TV)++ref17_Own.d.ps.toList.map fun q=>([.ag [.i .i64 a_kind,.u64 a_bits,.u64 a_high,.u64 a_low,.s a_text,.s a_more,.i .i64 a_sub,.sl .bs a_bytes,.sl .fl a_kids],.ag [.i .i64 b_kind,.u64 b_bits,.u64 b_high,.u64 b_low,.s b_text,.s b_more,.i .i64 b_sub,.sl .bs b_bytes,.sl .fl b_kids]]:List TV).getD q.1 .dead) :=
 ⟨by kernel_rfl,Eq.trans (b:=ref17_Own.F (Val.mk a_kind a_bits a_high a_low a_text a_more a_sub a_bytes a_kids) (Val.mk b_kind b_bits b_high b_low b_text b_more b_sub b_bytes b_kids)) (by kernel_rfl) (Eq.trans (ref17_Own.goal (Val.mk a_kind a_bits a_high a_low a_text a_more a_sub a_bytes a_kids) (Val.mk b_kind b_bits b_high b_low b_text b_more b_sub b_bytes b_kids)) (by kernel_rfl))⟩
theorem ref17_Own.ok:SpecOK Go.Proofs.Tryd.prog (fun n=>(trydbGl n).av) 31 (Ctr.fs (ref17_Own.c,ref17_Own.sg)) :=
 meets (l:=ref17_Own.env) all_nil ref17_Own.chk (by
   intro ins outs h
   unfold ref17_Own.c at h
   split at h
   ·cases h;exact ref17_Own.fit _ _ _ _ _ _ _ _ _ _ _ _ _ _ _ _ _ _
   ·exact h.elim)
theorem ref17_Same.fit (n:Nat) (a_kind:Int) (a_bits:UInt64) (a_high:UInt64) (a_low:UInt64) (a_text:Str) (a_more:Str) (a_sub:Int) (a_bytes:List UInt8) (a_kids:List Fld) (b_kind:Int) (b_bits:UInt64) (b_high:UInt64) (b_low:UInt64) (b_text:Str) (b_more:Str) (b_sub:Int) (b_bytes:List UInt8) (b_kids:List Fld) (hp:((decide (Fld.bulk (Fld.of [] (Val.mk a_kind a_bits a_high a_low a_text a_more a_sub a_bytes a_kids))≤1099511627776))&&decide ((Fld.bulk (Fld.of [] (Val.mk a_kind a_bits a_high a_low a_text a_more a_sub a_bytes a_kids)))<n+1))=true):([.ag [.i .i64 a_kind,.u64 a_bits,.u64 a_high,.u64 a_low,.s a_text,.s a_more,.i .i64 a_sub,.sl .bs a_bytes,.sl .fl a_kids],.ag [.i .i64 b_kind,.u64 b_bits,.u64 b_high,.u64 b_low,.s b_text,.s b_more,.i .i64 b_sub,.sl .bs b_bytes,.sl .fl b_kids]]:List TV).length=ref17_Same.d.np∧ref17_Same.d.run (envL trydbGl (ref17_Same.env n)) [.ag [.i .i64 a_kind,.u64 a_bits,.u64 a_high,.u64 a_low,.s a_text,.s a_more,.i .i64 a_sub,.sl .bs a_bytes,.sl .fl a_kids],.ag [.i .i64 b_kind,.u64 b_bits,.u64 b_high,.u64 b_low,.s b_text,.s b_more,.i .i64 b_sub,.sl .bs b_bytes,.sl .fl b_kids]]=some (([(.b (Tree.same (Val.mk a_kind a_bits a_high a_low a_text a_more a_sub a_bytes a_kids) (Val.mk b_kind b_bits b_high b_low b_text b_more b_sub b_bytes b_kids)))]:List TV)++ref17_Same.d.ps.toList.map fun q=>([.ag [.i .i64 a_kind,.u64 a_bits,.u64 a_high,.u64 a_low,.s a_text,.s a_more,.i .i64 a_sub,.sl .bs a_bytes,.sl .fl a_kids],.ag [.i .i64 b_kind,.u64 b_bits,.u64 b_high,.u64 b_low,.s b_text,.s b_more,.i .i64 b_sub,.sl .bs b_bytes,.sl .fl b_kids]]:List TV).getD q.1 .dead) :=
 ⟨by kernel_rfl,Eq.trans (b:=ref17_Same.F n (Val.mk a_kind a_bits a_high a_low a_text a_more a_sub a_bytes a_kids) (Val.mk b_kind b_bits b_high b_low b_text b_more b_sub b_bytes b_kids)) (by kernel_rfl) (Eq.trans (ref17_Same.goal n (Val.mk a_kind a_bits a_high a_low a_text a_more a_sub a_bytes a_kids) (Val.mk b_kind b_bits b_high b_low b_text b_more b_sub b_bytes b_kids) hp) (by kernel_rfl))⟩
theorem rsame.oks : ∀ n : Nat, (SpecOK Go.Proofs.Tryd.prog (fun n => (trydbGl n).av) 17 (Ctr.fs (ref17_Same.cn n, ref17_Same.sg))) := by
  intro n
  induction n with
  | zero => exact spec_zero (by
      intro ti to_ h
      unfold ref17_Same.cn at h
      split at h
      · obtain ⟨h, _⟩ := h; simp at h
      · exact h.elim)
  | succ n ih =>
    have ih0 := ih
    exact meets (l := ref17_Same.env n) (all_cons ih0 (all_cons ref17_Own.ok all_nil)) (ref17_Same.chk n) (by
      intro ins outs h
      unfold ref17_Same.cn at h
      split at h
      · obtain ⟨hp, rfl⟩ := h; exact ref17_Same.fit n _ _ _ _ _ _ _ _ _ _ _ _ _ _ _ _ _ _ hp
      · exact h.elim)
theorem ref17_Same.ok:SpecOK Go.Proofs.Tryd.prog (fun n=>(trydbGl n).av) 17 (Ctr.fs (ref17_Same.c,ref17_Same.sg)):=spec_sub fun ti to_ h=>by
 unfold ref17_Same.c at h
 split at h
 ·obtain ⟨hp,rfl⟩:=h;exact ⟨ref17_Same.cn (_+1),(rsame.oks _),Bool.and_eq_true_iff.2 ⟨hp,decide_eq_true (Nat.lt_succ_self _)⟩,rfl⟩
 ·exact h.elim
theorem ref1_SameInts.fit (a:List Int) (b:List Int) (hp:(decide (a.length≤1099511627776))=true):([.sl .is a,.sl .is b]:List TV).length=ref1_SameInts.d.np∧ref1_SameInts.d.run (envL trydbGl ref1_SameInts.env) [.sl .is a,.sl .is b]=some (([(.b (decide (a=b)))]:List TV)++ref1_SameInts.d.ps.toList.map fun q=>([.sl .is a,.sl .is b]:List TV).getD q.1 .dead) :=
 ⟨by kernel_rfl,Eq.trans (b:=ref1_SameInts.F a b) (by kernel_rfl) (Eq.trans (ref1_SameInts.goal a b hp) (by kernel_rfl))⟩
theorem ref1_SameInts.ok:SpecOK Go.Proofs.Tryd.prog (fun n=>(trydbGl n).av) 24 (Ctr.fs (ref1_SameInts.c,ref1_SameInts.sg)) :=
 meets (l:=ref1_SameInts.env) all_nil ref1_SameInts.chk (by
   intro ins outs h
   unfold ref1_SameInts.c at h
   split at h
   ·obtain ⟨hp,rfl⟩:=h;exact ref1_SameInts.fit _ _ hp
   ·exact h.elim)
theorem book_Room.fit (left:Int) (sizes:List Int) (hp:(decide (left≤10000∧sizes.length≤10)&&sizes.all (fun s=>decide (0≤s)))=true):([.i .i64 left,.sl .is sizes]:List TV).length=book_Room.d.np∧book_Room.d.run (envL trydbGl book_Room.env) [.i .i64 left,.sl .is sizes]=some (([(.i .i64 (Book.room left sizes))]:List TV)++book_Room.d.ps.toList.map fun q=>([.i .i64 left,.sl .is sizes]:List TV).getD q.1 .dead) :=
 ⟨by kernel_rfl,Eq.trans (b:=book_Room.F left sizes) (by kernel_rfl) (Eq.trans (book_Room.goal left sizes hp) (by kernel_rfl))⟩
theorem book_Room.ok:SpecOK Go.Proofs.Tryd.prog (fun n=>(trydbGl n).av) 34 (Ctr.fs (book_Room.c,book_Room.sg)) :=
 meets (l:=book_Room.env) all_nil book_Room.chk (by
   intro ins outs h
   unfold book_Room.c at h
   split at h
   ·obtain ⟨hp,rfl⟩:=h;exact book_Room.fit _ _ hp
   ·exact h.elim)
theorem ref1_High.fit (b:List UInt8) (at_:Int) (n:Int) (hp:(decide ((b).length≤1099511627776))=true):([.sl .bs b,.i .i64 at_,.i .i64 n]:List TV).length=ref1_High.d.np∧ref1_High.d.run (envL trydbGl ref1_High.env) [.sl .bs b,.i .i64 at_,.i .i64 n]=some (([(.u64 (Cur.be (Mp.rng b at_ n))),(.b (Mp.rngOK b at_ n))]:List TV)++ref1_High.d.ps.toList.map fun q=>([.sl .bs b,.i .i64 at_,.i .i64 n]:List TV).getD q.1 .dead) :=
 ⟨by kernel_rfl,Eq.trans (b:=ref1_High.F b at_ n) (by kernel_rfl) (Eq.trans (ref1_High.goal b at_ n hp) (by kernel_rfl))⟩
theorem ref1_High.ok:SpecOK Go.Proofs.Tryd.prog (fun n=>(trydbGl n).av) 91 (Ctr.fs (ref1_High.c,ref1_High.sg)) :=
 meets (l:=ref1_High.env) all_nil ref1_High.chk (by
   intro ins outs h
   unfold ref1_High.c at h
   split at h
   ·obtain ⟨hp,rfl⟩:=h;exact ref1_High.fit _ _ _ hp
   ·exact h.elim)
theorem ref5_Same.fit (f_err:Int) (f_at:Int) (f_path:List Int) (g_err:Int) (g_at:Int) (g_path:List Int) (hp:(decide (((Flt.mk f_err f_at f_path)).path.length≤1099511627776))=true):([.ag [.i .i64 f_err,.i .i64 f_at,.sl .is f_path],.ag [.i .i64 g_err,.i .i64 g_at,.sl .is g_path]]:List TV).length=ref5_Same.d.np∧ref5_Same.d.run (envL trydbGl ref5_Same.env) [.ag [.i .i64 f_err,.i .i64 f_at,.sl .is f_path],.ag [.i .i64 g_err,.i .i64 g_at,.sl .is g_path]]=some (([(.b (decide (((Flt.mk f_err f_at f_path)).err=((Flt.mk g_err g_at g_path)).err∧((Flt.mk f_err f_at f_path)).at_=((Flt.mk g_err g_at g_path)).at_∧((Flt.mk f_err f_at f_path)).path=((Flt.mk g_err g_at g_path)).path)))]:List TV)++ref5_Same.d.ps.toList.map fun q=>([.ag [.i .i64 f_err,.i .i64 f_at,.sl .is f_path],.ag [.i .i64 g_err,.i .i64 g_at,.sl .is g_path]]:List TV).getD q.1 .dead) :=
 ⟨by kernel_rfl,Eq.trans (b:=ref5_Same.F (Flt.mk f_err f_at f_path) (Flt.mk g_err g_at g_path)) (by kernel_rfl) (Eq.trans (ref5_Same.goal (Flt.mk f_err f_at f_path) (Flt.mk g_err g_at g_path) hp) (by kernel_rfl))⟩
theorem ref5_Same.ok:SpecOK Go.Proofs.Tryd.prog (fun n=>(trydbGl n).av) 12 (Ctr.fs (ref5_Same.c,ref5_Same.sg)) :=
 meets (l:=ref5_Same.env) (all_cons ref1_SameInts.ok all_nil) ref5_Same.chk (by
   intro ins outs h
   unfold ref5_Same.c at h
   split at h
   ·obtain ⟨hp,rfl⟩:=h;exact ref5_Same.fit _ _ _ _ _ _ hp
   ·exact h.elim)
theorem book_item.fit (n:Nat) (left:Int) (it_kind:Int) (it_n:UInt64) (it_bytes:List UInt8) (it_text:Str) (it_kids:List Itm) (hp:((decide (left≤10000))&&decide ((Itm.bulk (Itm.of (Itv.mk it_kind it_n it_bytes it_text it_kids)))<n+1))=true):([.i .i64 left,.ag [.i .i64 it_kind,.u64 it_n,.sl .bs it_bytes,.s it_text,.sl .il it_kids]]:List TV).length=book_item.d.np∧book_item.d.run (envL trydbGl (book_item.env n)) [.i .i64 left,.ag [.i .i64 it_kind,.u64 it_n,.sl .bs it_bytes,.s it_text,.sl .il it_kids]]=some (([(.i .i64 (Itm.room left (Itm.of (Itv.mk it_kind it_n it_bytes it_text it_kids))))]:List TV)++book_item.d.ps.toList.map fun q=>([.i .i64 left,.ag [.i .i64 it_kind,.u64 it_n,.sl .bs it_bytes,.s it_text,.sl .il it_kids]]:List TV).getD q.1 .dead) :=
 ⟨by kernel_rfl,Eq.trans (b:=book_item.F n left (Itv.mk it_kind it_n it_bytes it_text it_kids)) (by kernel_rfl) (Eq.trans (book_item.goal n left (Itv.mk it_kind it_n it_bytes it_text it_kids) hp) (by kernel_rfl))⟩
theorem bitem.oks : ∀ n : Nat, (SpecOK Go.Proofs.Tryd.prog (fun n => (trydbGl n).av) 25 (Ctr.fs (book_item.cn n, book_item.sg))) := by
  intro n
  induction n with
  | zero => exact spec_zero (by
      intro ti to_ h
      unfold book_item.cn at h
      split at h
      · obtain ⟨h, _⟩ := h; simp at h
      · exact h.elim)
  | succ n ih =>
    have ih0 := ih
    exact meets (l := book_item.env n) (all_cons ih0 (all_cons book_Room.ok all_nil)) (book_item.chk n) (by
      intro ins outs h
      unfold book_item.cn at h
      split at h
      · obtain ⟨hp, rfl⟩ := h; exact book_item.fit n _ _ _ _ _ _ hp
      · exact h.elim)
theorem book_item.ok:SpecOK Go.Proofs.Tryd.prog (fun n=>(trydbGl n).av) 25 (Ctr.fs (book_item.c,book_item.sg)):=spec_sub fun ti to_ h=>by
 unfold book_item.c at h
 split at h
 ·obtain ⟨hp,rfl⟩:=h;exact ⟨book_item.cn (_+1),(bitem.oks _),Bool.and_eq_true_iff.2 ⟨hp,decide_eq_true (Nat.lt_succ_self _)⟩,rfl⟩
 ·exact h.elim
theorem book_SmallItem.fit (it_kind:Int) (it_n:UInt64) (it_bytes:List UInt8) (it_text:Str) (it_kids:List Itm):([.ag [.i .i64 it_kind,.u64 it_n,.sl .bs it_bytes,.s it_text,.sl .il it_kids]]:List TV).length=book_SmallItem.d.np∧book_SmallItem.d.run (envL trydbGl book_SmallItem.env) [.ag [.i .i64 it_kind,.u64 it_n,.sl .bs it_bytes,.s it_text,.sl .il it_kids]]=some (([(.b (decide (0≤Itm.room 1500 (Itm.of (Itv.mk it_kind it_n it_bytes it_text it_kids)))))]:List TV)++book_SmallItem.d.ps.toList.map fun q=>([.ag [.i .i64 it_kind,.u64 it_n,.sl .bs it_bytes,.s it_text,.sl .il it_kids]]:List TV).getD q.1 .dead) :=
 ⟨by kernel_rfl,Eq.trans (b:=book_SmallItem.F (Itv.mk it_kind it_n it_bytes it_text it_kids)) (by kernel_rfl) (Eq.trans (book_SmallItem.goal (Itv.mk it_kind it_n it_bytes it_text it_kids)) (by kernel_rfl))⟩
theorem book_SmallItem.ok:SpecOK Go.Proofs.Tryd.prog (fun n=>(trydbGl n).av) 14 (Ctr.fs (book_SmallItem.c,book_SmallItem.sg)) :=
 meets (l:=book_SmallItem.env) (all_cons book_item.ok all_nil) book_SmallItem.chk (by
   intro ins outs h
   unfold book_SmallItem.c at h
   split at h
   ·cases h;exact book_SmallItem.fit _ _ _ _ _
   ·exact h.elim)
theorem ref5_Digits.fit (v:UInt64):([.u64 v]:List TV).length=ref5_Digits.d.np∧ref5_Digits.d.run (envL trydbGl ref5_Digits.env) [.u64 v]=some (([(.s (digs (v).toNat))]:List TV)++ref5_Digits.d.ps.toList.map fun q=>([.u64 v]:List TV).getD q.1 .dead) :=
 ⟨by kernel_rfl,Eq.trans (b:=ref5_Digits.F v) (by kernel_rfl) (Eq.trans (ref5_Digits.goal v) (by kernel_rfl))⟩
theorem ref5_Digits.ok:SpecOK Go.Proofs.Tryd.prog (fun n=>(trydbGl n).av) 74 (Ctr.fs (ref5_Digits.c,ref5_Digits.sg)) :=
 meets (l:=ref5_Digits.env) all_nil ref5_Digits.chk (by
   intro ins outs h
   unfold ref5_Digits.c at h
   split at h
   ·cases h;exact ref5_Digits.fit _
   ·exact h.elim)
theorem tree_Regular.fit (l:List Fld) (hp:(decide (l.length≤1099511627776))=true):([.sl .fl l]:List TV).length=tree_Regular.d.np∧tree_Regular.d.run (envL trydbGl tree_Regular.env) [.sl .fl l]=some (([(.b (Tree.regular l))]:List TV)++tree_Regular.d.ps.toList.map fun q=>([.sl .fl l]:List TV).getD q.1 .dead) :=
 ⟨by kernel_rfl,Eq.trans (b:=tree_Regular.F l) (by kernel_rfl) (Eq.trans (tree_Regular.goal l hp) (by kernel_rfl))⟩
theorem tree_Regular.ok:SpecOK Go.Proofs.Tryd.prog (fun n=>(trydbGl n).av) 55 (Ctr.fs (tree_Regular.c,tree_Regular.sg)) :=
 meets (l:=tree_Regular.env) (all_cons sc_Itoa.ok all_nil) tree_Regular.chk (by
   intro ins outs h
   unfold tree_Regular.c at h
   split at h
   ·obtain ⟨hp,rfl⟩:=h;exact tree_Regular.fit _ hp
   ·exact h.elim)
theorem cb_fields.fit (it_kind:Int) (it_n:UInt64) (it_bytes:List UInt8) (it_text:Str) (it_kids:List Itm) (hp:(decide (Itm.bulk (Itm.of (Itv.mk it_kind it_n it_bytes it_text it_kids))≤1099511627776))=true):([.ag [.i .i64 it_kind,.u64 it_n,.sl .bs it_bytes,.s it_text,.sl .il it_kids]]:List TV).length=cb_fields.d.np∧cb_fields.d.run (envL trydbGl cb_fields.env) [.ag [.i .i64 it_kind,.u64 it_n,.sl .bs it_bytes,.s it_text,.sl .il it_kids]]=some (([(.b (Cb.fieldsOK (Itm.of (Itv.mk it_kind it_n it_bytes it_text it_kids))))]:List TV)++cb_fields.d.ps.toList.map fun q=>([.ag [.i .i64 it_kind,.u64 it_n,.sl .bs it_bytes,.s it_text,.sl .il it_kids]]:List TV).getD q.1 .dead) :=
 ⟨by kernel_rfl,Eq.trans (b:=cb_fields.F (Itv.mk it_kind it_n it_bytes it_text it_kids)) (by kernel_rfl) (Eq.trans (cb_fields.goal (Itv.mk it_kind it_n it_bytes it_text it_kids) hp) (by kernel_rfl))⟩
theorem cb_fields.ok:SpecOK Go.Proofs.Tryd.prog (fun n=>(trydbGl n).av) 40 (Ctr.fs (cb_fields.c,cb_fields.sg)) :=
 meets (l:=cb_fields.env) all_nil cb_fields.chk (by
   intro ins outs h
   unfold cb_fields.c at h
   split at h
   ·obtain ⟨hp,rfl⟩:=h;exact cb_fields.fit _ _ _ _ _ hp
   ·exact h.elim)
theorem cb_Check.fit (n:Nat) (it_kind:Int) (it_n:UInt64) (it_bytes:List UInt8) (it_text:Str) (it_kids:List Itm) (hp:((decide (Itm.bulk (Itm.of (Itv.mk it_kind it_n it_bytes it_text it_kids))≤1099511627776))&&decide ((Itm.bulk (Itm.of (Itv.mk it_kind it_n it_bytes it_text it_kids)))<n+1))=true):([.ag [.i .i64 it_kind,.u64 it_n,.sl .bs it_bytes,.s it_text,.sl .il it_kids]]:List TV).length=cb_Check.d.np∧cb_Check.d.run (envL trydbGl (cb_Check.env n)) [.ag [.i .i64 it_kind,.u64 it_n,.sl .bs it_bytes,.s it_text,.sl .il it_kids]]=some (([(.i .i64 (Cb.chk (Itm.of (Itv.mk it_kind it_n it_bytes it_text it_kids))))]:List TV)++cb_Check.d.ps.toList.map fun q=>([.ag [.i .i64 it_kind,.u64 it_n,.sl .bs it_bytes,.s it_text,.sl .il it_kids]]:List TV).getD q.1 .dead) :=
 ⟨by kernel_rfl,Eq.trans (b:=cb_Check.F n (Itv.mk it_kind it_n it_bytes it_text it_kids)) (by kernel_rfl) (Eq.trans (cb_Check.goal n (Itv.mk it_kind it_n it_bytes it_text it_kids) hp) (by kernel_rfl))⟩
theorem ccheck.oks : ∀ n : Nat, (SpecOK Go.Proofs.Tryd.prog (fun n => (trydbGl n).av) 26 (Ctr.fs (cb_Check.cn n, cb_Check.sg))) := by
  intro n
  induction n with
  | zero => exact spec_zero (by
      intro ti to_ h
      unfold cb_Check.cn at h
      split at h
      · obtain ⟨h, _⟩ := h; simp at h
      · exact h.elim)
  | succ n ih =>
    have ih0 := ih
    exact meets (l := cb_Check.env n) (all_cons ih0 (all_cons cb_fields.ok (all_cons utf_Check.ok all_nil))) (cb_Check.chk n) (by
      intro ins outs h
      unfold cb_Check.cn at h
      split at h
      · obtain ⟨hp, rfl⟩ := h; exact cb_Check.fit n _ _ _ _ _ hp
      · exact h.elim)
theorem cb_Check.ok:SpecOK Go.Proofs.Tryd.prog (fun n=>(trydbGl n).av) 26 (Ctr.fs (cb_Check.c,cb_Check.sg)):=spec_sub fun ti to_ h=>by
 unfold cb_Check.c at h
 split at h
 ·obtain ⟨hp,rfl⟩:=h;exact ⟨cb_Check.cn (_+1),(ccheck.oks _),Bool.and_eq_true_iff.2 ⟨hp,decide_eq_true (Nat.lt_succ_self _)⟩,rfl⟩
 ·exact h.elim
theorem ref28_own.fit (it_kind:Int) (it_n:UInt64) (it_bytes:List UInt8) (it_text:Str) (it_kids:List Itm) (hp:(decide (Itm.bulk (Itm.of (Itv.mk it_kind it_n it_bytes it_text it_kids))≤1099511627776))=true):([.ag [.i .i64 it_kind,.u64 it_n,.sl .bs it_bytes,.s it_text,.sl .il it_kids]]:List TV).length=ref28_own.d.np∧ref28_own.d.run (envL trydbGl ref28_own.env) [.ag [.i .i64 it_kind,.u64 it_n,.sl .bs it_bytes,.s it_text,.sl .il it_kids]]=some (([(.i .i64 (Cb.own (Itm.of (Itv.mk it_kind it_n it_bytes it_text it_kids))))]:List TV)++ref28_own.d.ps.toList.map fun q=>([.ag [.i .i64 it_kind,.u64 it_n,.sl .bs it_bytes,.s it_text,.sl .il it_kids]]:List TV).getD q.1 .dead) :=
 ⟨by kernel_rfl,Eq.trans (b:=ref28_own.F (Itv.mk it_kind it_n it_bytes it_text it_kids)) (by kernel_rfl) (Eq.trans (ref28_own.goal (Itv.mk it_kind it_n it_bytes it_text it_kids) hp) (by kernel_rfl))⟩
theorem ref28_own.ok:SpecOK Go.Proofs.Tryd.prog (fun n=>(trydbGl n).av) 32 (Ctr.fs (ref28_own.c,ref28_own.sg)) :=
 meets (l:=ref28_own.env) (all_cons ref2_Whole.ok all_nil) ref28_own.chk (by
   intro ins outs h
   unfold ref28_own.c at h
   split at h
   ·obtain ⟨hp,rfl⟩:=h;exact ref28_own.fit _ _ _ _ _ hp
   ·exact h.elim)
theorem ref28_Check.fit (n:Nat) (it_kind:Int) (it_n:UInt64) (it_bytes:List UInt8) (it_text:Str) (it_kids:List Itm) (hp:((decide (Itm.bulk (Itm.of (Itv.mk it_kind it_n it_bytes it_text it_kids))≤1099511627776))&&decide ((Itm.bulk (Itm.of (Itv.mk it_kind it_n it_bytes it_text it_kids)))<n+1))=true):([.ag [.i .i64 it_kind,.u64 it_n,.sl .bs it_bytes,.s it_text,.sl .il it_kids]]:List TV).length=ref28_Check.d.np∧ref28_Check.d.run (envL trydbGl (ref28_Check.env n)) [.ag [.i .i64 it_kind,.u64 it_n,.sl .bs it_bytes,.s it_text,.sl .il it_kids]]=some (([(.i .i64 (Cb.chk (Itm.of (Itv.mk it_kind it_n it_bytes it_text it_kids))))]:List TV)++ref28_Check.d.ps.toList.map fun q=>([.ag [.i .i64 it_kind,.u64 it_n,.sl .bs it_bytes,.s it_text,.sl .il it_kids]]:List TV).getD q.1 .dead) :=
 ⟨by kernel_rfl,Eq.trans (b:=ref28_Check.F n (Itv.mk it_kind it_n it_bytes it_text it_kids)) (by kernel_rfl) (Eq.trans (ref28_Check.goal n (Itv.mk it_kind it_n it_bytes it_text it_kids) hp) (by kernel_rfl))⟩
theorem rcheck28.oks : ∀ n : Nat, (SpecOK Go.Proofs.Tryd.prog (fun n => (trydbGl n).av) 18 (Ctr.fs (ref28_Check.cn n, ref28_Check.sg))) := by
  intro n
  induction n with
  | zero => exact spec_zero (by
      intro ti to_ h
      unfold ref28_Check.cn at h
      split at h
      · obtain ⟨h, _⟩ := h; simp at h
      · exact h.elim)
  | succ n ih =>
    have ih0 := ih
    exact meets (l := ref28_Check.env n) (all_cons ih0 (all_cons ref28_own.ok all_nil)) (ref28_Check.chk n) (by
      intro ins outs h
      unfold ref28_Check.cn at h
      split at h
      · obtain ⟨hp, rfl⟩ := h; exact ref28_Check.fit n _ _ _ _ _ hp
      · exact h.elim)
theorem ref28_Check.ok:SpecOK Go.Proofs.Tryd.prog (fun n=>(trydbGl n).av) 18 (Ctr.fs (ref28_Check.c,ref28_Check.sg)):=spec_sub fun ti to_ h=>by
 unfold ref28_Check.c at h
 split at h
 ·obtain ⟨hp,rfl⟩:=h;exact ⟨ref28_Check.cn (_+1),(rcheck28.oks _),Bool.and_eq_true_iff.2 ⟨hp,decide_eq_true (Nat.lt_succ_self _)⟩,rfl⟩
 ·exact h.elim
theorem db_text.fit (s:Str):([.s s]:List TV).length=db_text.d.np∧db_text.d.run (envL trydbGl db_text.env) [.s s]=some (([(.ag (Itv.cells (Itm.val (Db.text s))))]:List TV)++db_text.d.ps.toList.map fun q=>([.s s]:List TV).getD q.1 .dead) :=
 ⟨by kernel_rfl,Eq.trans (b:=db_text.F s) (by kernel_rfl) (Eq.trans (db_text.goal s) (by kernel_rfl))⟩
theorem db_text.ok:SpecOK Go.Proofs.Tryd.prog (fun n=>(trydbGl n).av) 36 (Ctr.fs (db_text.c,db_text.sg)) :=
 meets (l:=db_text.env) all_nil db_text.chk (by
   intro ins outs h
   unfold db_text.c at h
   split at h
   ·cases h;exact db_text.fit _
   ·exact h.elim)
theorem db_raw.fit (b:List UInt8) (hp:(decide ((b).length≤1099511627776))=true):([.sl .bs b]:List TV).length=db_raw.d.np∧db_raw.d.run (envL trydbGl db_raw.env) [.sl .bs b]=some (([(.ag (Itv.cells (Itm.val (Db.raw b))))]:List TV)++db_raw.d.ps.toList.map fun q=>([.sl .bs b]:List TV).getD q.1 .dead) :=
 ⟨by kernel_rfl,Eq.trans (b:=db_raw.F b) (by kernel_rfl) (Eq.trans (db_raw.goal b hp) (by kernel_rfl))⟩
theorem db_raw.ok:SpecOK Go.Proofs.Tryd.prog (fun n=>(trydbGl n).av) 57 (Ctr.fs (db_raw.c,db_raw.sg)) :=
 meets (l:=db_raw.env) (all_cons clone_bs.ok all_nil) db_raw.chk (by
   intro ins outs h
   unfold db_raw.c at h
   split at h
   ·obtain ⟨hp,rfl⟩:=h;exact db_raw.fit _ hp
   ·exact h.elim)
theorem db_plus.fit (n:UInt64):([.u64 n]:List TV).length=db_plus.d.np∧db_plus.d.run (envL trydbGl db_plus.env) [.u64 n]=some (([(.ag (Itv.cells (Itm.val (Db.plus n))))]:List TV)++db_plus.d.ps.toList.map fun q=>([.u64 n]:List TV).getD q.1 .dead) :=
 ⟨by kernel_rfl,Eq.trans (b:=db_plus.F n) (by kernel_rfl) (Eq.trans (db_plus.goal n) (by kernel_rfl))⟩
theorem db_plus.ok:SpecOK Go.Proofs.Tryd.prog (fun n=>(trydbGl n).av) 81 (Ctr.fs (db_plus.c,db_plus.sg)) :=
 meets (l:=db_plus.env) all_nil db_plus.chk (by
   intro ins outs h
   unfold db_plus.c at h
   split at h
   ·cases h;exact db_plus.fit _
   ·exact h.elim)
theorem db_simple.fit (n:UInt64):([.u64 n]:List TV).length=db_simple.d.np∧db_simple.d.run (envL trydbGl db_simple.env) [.u64 n]=some (([(.ag (Itv.cells (Itm.val (Db.simple n))))]:List TV)++db_simple.d.ps.toList.map fun q=>([.u64 n]:List TV).getD q.1 .dead) :=
 ⟨by kernel_rfl,Eq.trans (b:=db_simple.F n) (by kernel_rfl) (Eq.trans (db_simple.goal n) (by kernel_rfl))⟩
theorem db_simple.ok:SpecOK Go.Proofs.Tryd.prog (fun n=>(trydbGl n).av) 58 (Ctr.fs (db_simple.c,db_simple.sg)) :=
 meets (l:=db_simple.env) all_nil db_simple.chk (by
   intro ins outs h
   unfold db_simple.c at h
   split at h
   ·cases h;exact db_simple.fit _
   ·exact h.elim)
theorem db_list.fit (l:List Itm):([.sl .il l]:List TV).length=db_list.d.np∧db_list.d.run (envL trydbGl db_list.env) [.sl .il l]=some (([(.ag (Itv.cells (Itm.val (Db.list l))))]:List TV)++db_list.d.ps.toList.map fun q=>([.sl .il l]:List TV).getD q.1 .dead) :=
 ⟨by kernel_rfl,Eq.trans (b:=db_list.F l) (by kernel_rfl) (Eq.trans (db_list.goal l) (by kernel_rfl))⟩
theorem db_list.ok:SpecOK Go.Proofs.Tryd.prog (fun n=>(trydbGl n).av) 56 (Ctr.fs (db_list.c,db_list.sg)) :=
 meets (l:=db_list.env) all_nil db_list.chk (by
   intro ins outs h
   unfold db_list.c at h
   split at h
   ·cases h;exact ⟨by kernel_rfl,by kernel_rfl⟩
   ·cases h;exact db_list.fit _
   ·exact h.elim)
theorem db_integer.fit (v:Int) (hp:(decide (-9223372036854775808≤v∧v≤9223372036854775807))=true):([.i .i64 v]:List TV).length=db_integer.d.np∧db_integer.d.run (envL trydbGl db_integer.env) [.i .i64 v]=some (([(.ag (Itv.cells (Itm.val (Db.integer v))))]:List TV)++db_integer.d.ps.toList.map fun q=>([.i .i64 v]:List TV).getD q.1 .dead) :=
 ⟨by kernel_rfl,Eq.trans (b:=db_integer.F v) (by kernel_rfl) (Eq.trans (db_integer.goal v hp) (by kernel_rfl))⟩
theorem db_integer.ok:SpecOK Go.Proofs.Tryd.prog (fun n=>(trydbGl n).av) 59 (Ctr.fs (db_integer.c,db_integer.sg)) :=
 meets (l:=db_integer.env) (all_cons db_plus.ok all_nil) db_integer.chk (by
   intro ins outs h
   unfold db_integer.c at h
   split at h
   ·obtain ⟨hp,rfl⟩:=h;exact db_integer.fit _ hp
   ·exact h.elim)
theorem db_words.fit (v_kind:Int) (v_bits:UInt64) (v_high:UInt64) (v_low:UInt64) (v_text:Str) (v_more:Str) (v_sub:Int) (v_bytes:List UInt8) (v_kids:List Fld):([.ag [.i .i64 v_kind,.u64 v_bits,.u64 v_high,.u64 v_low,.s v_text,.s v_more,.i .i64 v_sub,.sl .bs v_bytes,.sl .fl v_kids]]:List TV).length=db_words.d.np∧db_words.d.run (envL trydbGl db_words.env) [.ag [.i .i64 v_kind,.u64 v_bits,.u64 v_high,.u64 v_low,.s v_text,.s v_more,.i .i64 v_sub,.sl .bs v_bytes,.sl .fl v_kids]]=some (([(.ag (Itv.cells (Itm.val (Db.raw (Db.words ((Val.mk v_kind v_bits v_high v_low v_text v_more v_sub v_bytes v_kids)).high ((Val.mk v_kind v_bits v_high v_low v_text v_more v_sub v_bytes v_kids)).low)))))]:List TV)++db_words.d.ps.toList.map fun q=>([.ag [.i .i64 v_kind,.u64 v_bits,.u64 v_high,.u64 v_low,.s v_text,.s v_more,.i .i64 v_sub,.sl .bs v_bytes,.sl .fl v_kids]]:List TV).getD q.1 .dead) :=
 ⟨by kernel_rfl,Eq.trans (b:=db_words.F (Val.mk v_kind v_bits v_high v_low v_text v_more v_sub v_bytes v_kids)) (by kernel_rfl) (Eq.trans (db_words.goal (Val.mk v_kind v_bits v_high v_low v_text v_more v_sub v_bytes v_kids)) (by kernel_rfl))⟩
theorem db_words.ok:SpecOK Go.Proofs.Tryd.prog (fun n=>(trydbGl n).av) 82 (Ctr.fs (db_words.c,db_words.sg)) :=
 meets (l:=db_words.env) (all_cons db_raw.ok all_nil) db_words.chk (by
   intro ins outs h
   unfold db_words.c at h
   split at h
   ·cases h;exact db_words.fit _ _ _ _ _ _ _ _ _
   ·exact h.elim)
theorem db_mapped.fit (n:Nat) (l:List Fld) (hp:((decide (Fld.bulks l≤1073741824))&&decide ((3 * Fld.bulks l+3)<n+1))=true):([.sl .fl l]:List TV).length=db_mapped.d.np∧db_mapped.d.run (envL trydbGl (db_mapped.env n)) [.sl .fl l]=some (([(.ag (Itv.cells (Itm.val (Db.map (Db.mapped l)))))]:List TV)++db_mapped.d.ps.toList.map fun q=>([.sl .fl l]:List TV).getD q.1 .dead) :=
 ⟨by kernel_rfl,Eq.trans (b:=db_mapped.F n l) (by kernel_rfl) (Eq.trans (db_mapped.goal n l hp) (by kernel_rfl))⟩
theorem db_item.fit (n:Nat) (v_kind:Int) (v_bits:UInt64) (v_high:UInt64) (v_low:UInt64) (v_text:Str) (v_more:Str) (v_sub:Int) (v_bytes:List UInt8) (v_kids:List Fld) (hp:((decide (Fld.bulk (Fld.of [] (Val.mk v_kind v_bits v_high v_low v_text v_more v_sub v_bytes v_kids))≤1073741824))&&decide ((3 * Fld.bulk (Fld.of [] (Val.mk v_kind v_bits v_high v_low v_text v_more v_sub v_bytes v_kids))+2)<n+1))=true):([.ag [.i .i64 v_kind,.u64 v_bits,.u64 v_high,.u64 v_low,.s v_text,.s v_more,.i .i64 v_sub,.sl .bs v_bytes,.sl .fl v_kids]]:List TV).length=db_item.d.np∧db_item.d.run (envL trydbGl (db_item.env n)) [.ag [.i .i64 v_kind,.u64 v_bits,.u64 v_high,.u64 v_low,.s v_text,.s v_more,.i .i64 v_sub,.sl .bs v_bytes,.sl .fl v_kids]]=some (([(.ag (Itv.cells (Itm.val (Db.item (Fld.of [] (Val.mk v_kind v_bits v_high v_low v_text v_more v_sub v_bytes v_kids))))))]:List TV)++db_item.d.ps.toList.map fun q=>([.ag [.i .i64 v_kind,.u64 v_bits,.u64 v_high,.u64 v_low,.s v_text,.s v_more,.i .i64 v_sub,.sl .bs v_bytes,.sl .fl v_kids]]:List TV).getD q.1 .dead) :=
 ⟨by kernel_rfl,Eq.trans (b:=db_item.F n (Val.mk v_kind v_bits v_high v_low v_text v_more v_sub v_bytes v_kids)) (by kernel_rfl) (Eq.trans (db_item.goal n (Val.mk v_kind v_bits v_high v_low v_text v_more v_sub v_bytes v_kids) hp) (by kernel_rfl))⟩
theorem db_tagged.fit (n:Nat) (v_kind:Int) (v_bits:UInt64) (v_high:UInt64) (v_low:UInt64) (v_text:Str) (v_more:Str) (v_sub:Int) (v_bytes:List UInt8) (v_kids:List Fld) (hp:((decide (Fld.bulk (Fld.of [] (Val.mk v_kind v_bits v_high v_low v_text v_more v_sub v_bytes v_kids))≤1073741824))&&decide ((3 * Fld.bulk (Fld.of [] (Val.mk v_kind v_bits v_high v_low v_text v_more v_sub v_bytes v_kids))+1)<n+1))=true):([.ag [.i .i64 v_kind,.u64 v_bits,.u64 v_high,.u64 v_low,.s v_text,.s v_more,.i .i64 v_sub,.sl .bs v_bytes,.sl .fl v_kids]]:List TV).length=db_tagged.d.np∧db_tagged.d.run (envL trydbGl (db_tagged.env n)) [.ag [.i .i64 v_kind,.u64 v_bits,.u64 v_high,.u64 v_low,.s v_text,.s v_more,.i .i64 v_sub,.sl .bs v_bytes,.sl .fl v_kids]]=some (([(.ag (Itv.cells (Itm.val (Db.tagged (Val.mk v_kind v_bits v_high v_low v_text v_more v_sub v_bytes v_kids) (Db.mapped ((Val.mk v_kind v_bits v_high v_low v_text v_more v_sub v_bytes v_kids)).kids)))))]:List TV)++db_tagged.d.ps.toList.map fun q=>([.ag [.i .i64 v_kind,.u64 v_bits,.u64 v_high,.u64 v_low,.s v_text,.s v_more,.i .i64 v_sub,.sl .bs v_bytes,.sl .fl v_kids]]:List TV).getD q.1 .dead) :=
 ⟨by kernel_rfl,Eq.trans (b:=db_tagged.F n (Val.mk v_kind v_bits v_high v_low v_text v_more v_sub v_bytes v_kids)) (by kernel_rfl) (Eq.trans (db_tagged.goal n (Val.mk v_kind v_bits v_high v_low v_text v_more v_sub v_bytes v_kids) hp) (by kernel_rfl))⟩
theorem dbitem.oks : ∀ n : Nat, (SpecOK Go.Proofs.Tryd.prog (fun n => (trydbGl n).av) 22 (Ctr.fs (db_mapped.cn n, db_mapped.sg))) ∧ (SpecOK Go.Proofs.Tryd.prog (fun n => (trydbGl n).av) 37 (Ctr.fs (db_item.cn n, db_item.sg))) ∧ (SpecOK Go.Proofs.Tryd.prog (fun n => (trydbGl n).av) 60 (Ctr.fs (db_tagged.cn n, db_tagged.sg))) := by
  intro n
  induction n with
  | zero => exact ⟨spec_zero (by
      intro ti to_ h
      unfold db_mapped.cn at h
      split at h
      · obtain ⟨h, _⟩ := h; simp at h
      · exact h.elim), spec_zero (by
      intro ti to_ h
      unfold db_item.cn at h
      split at h
      · obtain ⟨h, _⟩ := h; simp at h
      · exact h.elim), spec_zero (by
      intro ti to_ h
      unfold db_tagged.cn at h
      split at h
      · obtain ⟨h, _⟩ := h; simp at h
      · exact h.elim)⟩
  | succ n ih =>
    obtain ⟨ih0, ih1, ih2⟩ := ih
    exact ⟨meets (l := db_mapped.env n) (all_cons db_text.ok (all_cons ih1 all_nil)) (db_mapped.chk n) (by
      intro ins outs h
      unfold db_mapped.cn at h
      split at h
      · obtain ⟨hp, rfl⟩ := h; exact db_mapped.fit n _ hp
      · exact h.elim), meets (l := db_item.env n) (all_cons ih0 (all_cons db_text.ok (all_cons ih1 (all_cons tree_Regular.ok (all_cons db_list.ok (all_cons db_raw.ok (all_cons db_simple.ok (all_cons db_integer.ok (all_cons ih2 all_nil))))))))) (db_item.chk n) (by
      intro ins outs h
      unfold db_item.cn at h
      split at h
      · obtain ⟨hp, rfl⟩ := h; exact db_item.fit n _ _ _ _ _ _ _ _ _ hp
      · exact h.elim), meets (l := db_tagged.env n) (all_cons ih0 (all_cons db_text.ok (all_cons db_list.ok (all_cons db_raw.ok (all_cons db_simple.ok (all_cons db_integer.ok (all_cons db_plus.ok (all_cons db_words.ok all_nil)))))))) (db_tagged.chk n) (by
      intro ins outs h
      unfold db_tagged.cn at h
      split at h
      · obtain ⟨hp, rfl⟩ := h; exact db_tagged.fit n _ _ _ _ _ _ _ _ _ hp
      · exact h.elim)⟩
theorem db_mapped.ok:SpecOK Go.Proofs.Tryd.prog (fun n=>(trydbGl n).av) 22 (Ctr.fs (db_mapped.c,db_mapped.sg)):=spec_sub fun ti to_ h=>by
 unfold db_mapped.c at h
 split at h
 ·obtain ⟨hp,rfl⟩:=h;exact ⟨db_mapped.cn (_+1),(dbitem.oks _).1,Bool.and_eq_true_iff.2 ⟨hp,decide_eq_true (Nat.lt_succ_self _)⟩,rfl⟩
 ·exact h.elim
theorem db_Item.fit (v_kind:Int) (v_bits:UInt64) (v_high:UInt64) (v_low:UInt64) (v_text:Str) (v_more:Str) (v_sub:Int) (v_bytes:List UInt8) (v_kids:List Fld) (hp:(decide (Fld.bulk (Fld.of [] (Val.mk v_kind v_bits v_high v_low v_text v_more v_sub v_bytes v_kids))≤1073741824))=true):([.ag [.i .i64 v_kind,.u64 v_bits,.u64 v_high,.u64 v_low,.s v_text,.s v_more,.i .i64 v_sub,.sl .bs v_bytes,.sl .fl v_kids]]:List TV).length=db_Item.d.np∧db_Item.d.run (envL trydbGl db_Item.env) [.ag [.i .i64 v_kind,.u64 v_bits,.u64 v_high,.u64 v_low,.s v_text,.s v_more,.i .i64 v_sub,.sl .bs v_bytes,.sl .fl v_kids]]=some (([(.ag (Itv.cells (Itm.val ((Db.enc (Val.mk v_kind v_bits v_high v_low v_text v_more v_sub v_bytes v_kids)).1)))),(.ag (Flt.cells ((Db.enc (Val.mk v_kind v_bits v_high v_low v_text v_more v_sub v_bytes v_kids)).2)))]:List TV)++db_Item.d.ps.toList.map fun q=>([.ag [.i .i64 v_kind,.u64 v_bits,.u64 v_high,.u64 v_low,.s v_text,.s v_more,.i .i64 v_sub,.sl .bs v_bytes,.sl .fl v_kids]]:List TV).getD q.1 .dead) :=
 ⟨by kernel_rfl,Eq.trans (b:=db_Item.F (Val.mk v_kind v_bits v_high v_low v_text v_more v_sub v_bytes v_kids)) (by kernel_rfl) (Eq.trans (db_Item.goal (Val.mk v_kind v_bits v_high v_low v_text v_more v_sub v_bytes v_kids) hp) (by kernel_rfl))⟩
theorem db_Item.ok:SpecOK Go.Proofs.Tryd.prog (fun n=>(trydbGl n).av) 10 (Ctr.fs (db_Item.c,db_Item.sg)) :=
 meets (l:=db_Item.env) (all_cons tree_Check.ok (all_cons db_mapped.ok all_nil)) db_Item.chk (by
   intro ins outs h
   unfold db_Item.c at h
   split at h
   ·obtain ⟨hp,rfl⟩:=h;exact db_Item.fit _ _ _ _ _ _ _ _ _ hp
   ·exact h.elim)
theorem db_none.fit (path:List Int) (hp:(decide ((path).length≤1099511627776))=true):([.sl .is path]:List TV).length=db_none.d.np∧db_none.d.run (envL trydbGl db_none.env) [.sl .is path]=some (([(.ag (Flt.cells ((Flt.mk 12 0 path))))]:List TV)++db_none.d.ps.toList.map fun q=>([.sl .is path]:List TV).getD q.1 .dead) :=
 ⟨by kernel_rfl,Eq.trans (b:=db_none.F path) (by kernel_rfl) (Eq.trans (db_none.goal path hp) (by kernel_rfl))⟩
theorem db_none.ok:SpecOK Go.Proofs.Tryd.prog (fun n=>(trydbGl n).av) 27 (Ctr.fs (db_none.c,db_none.sg)) :=
 meets (l:=db_none.env) (all_cons clone_is.ok all_nil) db_none.chk (by
   intro ins outs h
   unfold db_none.c at h
   split at h
   ·obtain ⟨hp,rfl⟩:=h;exact db_none.fit _ hp
   ·exact h.elim)
theorem db_number.fit (it_kind:Int) (it_n:UInt64) (it_bytes:List UInt8) (it_text:Str) (it_kids:List Itm):([.ag [.i .i64 it_kind,.u64 it_n,.sl .bs it_bytes,.s it_text,.sl .il it_kids]]:List TV).length=db_number.d.np∧db_number.d.run (envL trydbGl db_number.env) [.ag [.i .i64 it_kind,.u64 it_n,.sl .bs it_bytes,.s it_text,.sl .il it_kids]]=some (([(.i .i64 ((Db.number (Itm.of (Itv.mk it_kind it_n it_bytes it_text it_kids))).getD 0)),(.b ((Db.number (Itm.of (Itv.mk it_kind it_n it_bytes it_text it_kids))).isSome))]:List TV)++db_number.d.ps.toList.map fun q=>([.ag [.i .i64 it_kind,.u64 it_n,.sl .bs it_bytes,.s it_text,.sl .il it_kids]]:List TV).getD q.1 .dead) :=
 ⟨by kernel_rfl,Eq.trans (b:=db_number.F (Itv.mk it_kind it_n it_bytes it_text it_kids)) (by kernel_rfl) (Eq.trans (db_number.goal (Itv.mk it_kind it_n it_bytes it_text it_kids)) (by kernel_rfl))⟩
theorem db_number.ok:SpecOK Go.Proofs.Tryd.prog (fun n=>(trydbGl n).av) 70 (Ctr.fs (db_number.c,db_number.sg)) :=
 meets (l:=db_number.env) all_nil db_number.chk (by
   intro ins outs h
   unfold db_number.c at h
   split at h
   ·cases h;exact db_number.fit _ _ _ _ _
   ·exact h.elim)
theorem db_regular.fit (l:List Itm) (hp:(decide ((l).length≤1099511627776))=true):([.sl .il l]:List TV).length=db_regular.d.np∧db_regular.d.run (envL trydbGl db_regular.env) [.sl .il l]=some (([(.b (Db.regular l))]:List TV)++db_regular.d.ps.toList.map fun q=>([.sl .il l]:List TV).getD q.1 .dead) :=
 ⟨by kernel_rfl,Eq.trans (b:=db_regular.F l) (by kernel_rfl) (Eq.trans (db_regular.goal l hp) (by kernel_rfl))⟩
theorem db_regular.ok:SpecOK Go.Proofs.Tryd.prog (fun n=>(trydbGl n).av) 87 (Ctr.fs (db_regular.c,db_regular.sg)) :=
 meets (l:=db_regular.env) (all_cons sc_Itoa.ok all_nil) db_regular.chk (by
   intro ins outs h
   unfold db_regular.c at h
   split at h
   ·obtain ⟨hp,rfl⟩:=h;exact db_regular.fit _ hp
   ·exact h.elim)
theorem db_kinds.fit (it_kind:Int) (it_n:UInt64) (it_bytes:List UInt8) (it_text:Str) (it_kids:List Itm) (a:Int) (b:Int):([.ag [.i .i64 it_kind,.u64 it_n,.sl .bs it_bytes,.s it_text,.sl .il it_kids],.i .i64 a,.i .i64 b]:List TV).length=db_kinds.d.np∧db_kinds.d.run (envL trydbGl db_kinds.env) [.ag [.i .i64 it_kind,.u64 it_n,.sl .bs it_bytes,.s it_text,.sl .il it_kids],.i .i64 a,.i .i64 b]=some (([(.b (Db.kinds (Itm.of (Itv.mk it_kind it_n it_bytes it_text it_kids)) a b))]:List TV)++db_kinds.d.ps.toList.map fun q=>([.ag [.i .i64 it_kind,.u64 it_n,.sl .bs it_bytes,.s it_text,.sl .il it_kids],.i .i64 a,.i .i64 b]:List TV).getD q.1 .dead) :=
 ⟨by kernel_rfl,Eq.trans (b:=db_kinds.F (Itv.mk it_kind it_n it_bytes it_text it_kids) a b) (by kernel_rfl) (Eq.trans (db_kinds.goal (Itv.mk it_kind it_n it_bytes it_text it_kids) a b) (by kernel_rfl))⟩
theorem db_kinds.ok:SpecOK Go.Proofs.Tryd.prog (fun n=>(trydbGl n).av) 88 (Ctr.fs (db_kinds.c,db_kinds.sg)) :=
 meets (l:=db_kinds.env) all_nil db_kinds.chk (by
   intro ins outs h
   unfold db_kinds.c at h
   split at h
   ·cases h;exact db_kinds.fit _ _ _ _ _ _ _
   ·exact h.elim)
theorem db_small.fit (n:UInt64) (it_kind:Int) (it_n:UInt64) (it_bytes:List UInt8) (it_text:Str) (it_kids:List Itm) (hp:(decide (Itm.bulk (Itm.of (Itv.mk it_kind it_n it_bytes it_text it_kids))≤1099511627776))=true):([.u64 n,.ag [.i .i64 it_kind,.u64 it_n,.sl .bs it_bytes,.s it_text,.sl .il it_kids]]:List TV).length=db_small.d.np∧db_small.d.run (envL trydbGl db_small.env) [.u64 n,.ag [.i .i64 it_kind,.u64 it_n,.sl .bs it_bytes,.s it_text,.sl .il it_kids]]=some (([(.ag (Val.cells ((Db.smallV n (Itm.of (Itv.mk it_kind it_n it_bytes it_text it_kids))).1))),(.b ((Db.smallV n (Itm.of (Itv.mk it_kind it_n it_bytes it_text it_kids))).2))]:List TV)++db_small.d.ps.toList.map fun q=>([.u64 n,.ag [.i .i64 it_kind,.u64 it_n,.sl .bs it_bytes,.s it_text,.sl .il it_kids]]:List TV).getD q.1 .dead) :=
 ⟨by kernel_rfl,Eq.trans (b:=db_small.F n (Itv.mk it_kind it_n it_bytes it_text it_kids)) (by kernel_rfl) (Eq.trans (db_small.goal n (Itv.mk it_kind it_n it_bytes it_text it_kids) hp) (by kernel_rfl))⟩
theorem db_small.ok:SpecOK Go.Proofs.Tryd.prog (fun n=>(trydbGl n).av) 89 (Ctr.fs (db_small.c,db_small.sg)) :=
 meets (l:=db_small.env) (all_cons st_Contains.ok (all_cons clone_bs.ok (all_cons db_number.ok (all_cons db_kinds.ok all_nil)))) db_small.chk (by
   intro ins outs h
   unfold db_small.c at h
   split at h
   ·obtain ⟨hp,rfl⟩:=h;exact db_small.fit _ _ _ _ _ _ hp
   ·exact h.elim)
theorem db_with.fit (n:Nat) (v_kind:Int) (v_bits:UInt64) (v_high:UInt64) (v_low:UInt64) (v_text:Str) (v_more:Str) (v_sub:Int) (l:List Itm) (path:List Int) (hp:((decide (Itm.bulks l+(path).length≤1073741824)&&decide (Cb.chks l=0∧(l).length % 2=0))&&decide ((2 * Itm.bulks l+2)<n+1))=true):([.ag [.i .i64 v_kind,.u64 v_bits,.u64 v_high,.u64 v_low,.s v_text,.s v_more,.i .i64 v_sub,.c (.slice none 0 0),.c (.slice none 0 0)],.sl .il l,.sl .is path]:List TV).length=db_with.d.np∧db_with.d.run (envL trydbGl (db_with.env n)) [.ag [.i .i64 v_kind,.u64 v_bits,.u64 v_high,.u64 v_low,.s v_text,.s v_more,.i .i64 v_sub,.c (.slice none 0 0),.c (.slice none 0 0)],.sl .il l,.sl .is path]=some (([(.ag (Val.cells (Db.Got.val (Db.Gots.got (Val.mk v_kind v_bits v_high v_low v_text v_more v_sub [] []) (Db.fields l 0 path))))),(.ag (Flt.cells (Db.Got.flt (Db.Gots.got (Val.mk v_kind v_bits v_high v_low v_text v_more v_sub [] []) (Db.fields l 0 path)))))]:List TV)++db_with.d.ps.toList.map fun q=>([.ag [.i .i64 v_kind,.u64 v_bits,.u64 v_high,.u64 v_low,.s v_text,.s v_more,.i .i64 v_sub,.c (.slice none 0 0),.c (.slice none 0 0)],.sl .il l,.sl .is path]:List TV).getD q.1 .dead) :=
 ⟨by kernel_rfl,Eq.trans (b:=db_with.F n (Val.mk v_kind v_bits v_high v_low v_text v_more v_sub [] []) l path) (by kernel_rfl) (Eq.trans (db_with.goal n (Val.mk v_kind v_bits v_high v_low v_text v_more v_sub [] []) l path hp) (by kernel_rfl))⟩
theorem db_value.fit (n:Nat) (it_kind:Int) (it_n:UInt64) (it_bytes:List UInt8) (it_text:Str) (it_kids:List Itm) (path:List Int) (hp:((decide (Itm.bulk (Itm.of (Itv.mk it_kind it_n it_bytes it_text it_kids))+(path).length≤1073741824)&&decide (Cb.chk (Itm.of (Itv.mk it_kind it_n it_bytes it_text it_kids))=0))&&decide ((2 * Itm.bulk (Itm.of (Itv.mk it_kind it_n it_bytes it_text it_kids))+1)<n+1))=true):([.ag [.i .i64 it_kind,.u64 it_n,.sl .bs it_bytes,.s it_text,.sl .il it_kids],.sl .is path]:List TV).length=db_value.d.np∧db_value.d.run (envL trydbGl (db_value.env n)) [.ag [.i .i64 it_kind,.u64 it_n,.sl .bs it_bytes,.s it_text,.sl .il it_kids],.sl .is path]=some (([(.ag (Val.cells (Db.Got.val (Db.value (Itm.of (Itv.mk it_kind it_n it_bytes it_text it_kids)) path)))),(.ag (Flt.cells (Db.Got.flt (Db.value (Itm.of (Itv.mk it_kind it_n it_bytes it_text it_kids)) path))))]:List TV)++db_value.d.ps.toList.map fun q=>([.ag [.i .i64 it_kind,.u64 it_n,.sl .bs it_bytes,.s it_text,.sl .il it_kids],.sl .is path]:List TV).getD q.1 .dead) :=
 ⟨by kernel_rfl,Eq.trans (b:=db_value.F n (Itv.mk it_kind it_n it_bytes it_text it_kids) path) (by kernel_rfl) (Eq.trans (db_value.goal n (Itv.mk it_kind it_n it_bytes it_text it_kids) path hp) (by kernel_rfl))⟩
theorem db_tag.fit (n:Nat) (it_kind:Int) (it_n:UInt64) (it_bytes:List UInt8) (it_text:Str) (it_kids:List Itm) (path:List Int) (hp:((decide (Itm.bulk (Itm.of (Itv.mk it_kind it_n it_bytes it_text it_kids))+(path).length≤1073741824)&&decide (Cb.chk (Itm.of (Itv.mk it_kind it_n it_bytes it_text it_kids))=0∧((Itv.mk it_kind it_n it_bytes it_text it_kids)).kind=7))&&decide ((2 * Itm.bulk (Itm.of (Itv.mk it_kind it_n it_bytes it_text it_kids)))<n+1))=true):([.ag [.i .i64 it_kind,.u64 it_n,.sl .bs it_bytes,.s it_text,.sl .il it_kids],.sl .is path]:List TV).length=db_tag.d.np∧db_tag.d.run (envL trydbGl (db_tag.env n)) [.ag [.i .i64 it_kind,.u64 it_n,.sl .bs it_bytes,.s it_text,.sl .il it_kids],.sl .is path]=some (([(.ag (Val.cells (Db.Got.val (Db.value (Itm.of (Itv.mk it_kind it_n it_bytes it_text it_kids)) path)))),(.ag (Flt.cells (Db.Got.flt (Db.value (Itm.of (Itv.mk it_kind it_n it_bytes it_text it_kids)) path))))]:List TV)++db_tag.d.ps.toList.map fun q=>([.ag [.i .i64 it_kind,.u64 it_n,.sl .bs it_bytes,.s it_text,.sl .il it_kids],.sl .is path]:List TV).getD q.1 .dead) :=
 ⟨by kernel_rfl,Eq.trans (b:=db_tag.F n (Itv.mk it_kind it_n it_bytes it_text it_kids) path) (by kernel_rfl) (Eq.trans (db_tag.goal n (Itv.mk it_kind it_n it_bytes it_text it_kids) path hp) (by kernel_rfl))⟩
theorem dbvalue.oks : ∀ n : Nat, (SpecOK Go.Proofs.Tryd.prog (fun n => (trydbGl n).av) 28 (Ctr.fs (db_with.cn n, db_with.sg))) ∧ (SpecOK Go.Proofs.Tryd.prog (fun n => (trydbGl n).av) 44 (Ctr.fs (db_value.cn n, db_value.sg))) ∧ (SpecOK Go.Proofs.Tryd.prog (fun n => (trydbGl n).av) 72 (Ctr.fs (db_tag.cn n, db_tag.sg))) := by
  intro n
  induction n with
  | zero => exact ⟨spec_zero (by
      intro ti to_ h
      unfold db_with.cn at h
      split at h
      · obtain ⟨h, _⟩ := h; simp at h
      · exact h.elim), spec_zero (by
      intro ti to_ h
      unfold db_value.cn at h
      split at h
      · obtain ⟨h, _⟩ := h; simp at h
      · exact h.elim), spec_zero (by
      intro ti to_ h
      unfold db_tag.cn at h
      split at h
      · obtain ⟨h, _⟩ := h; simp at h
      · exact h.elim)⟩
  | succ n ih =>
    obtain ⟨ih0, ih1, ih2⟩ := ih
    exact ⟨meets (l := db_with.env n) (all_cons db_none.ok (all_cons st_Contains.ok (all_cons ih1 all_nil))) (db_with.chk n) (by
      intro ins outs h
      unfold db_with.cn at h
      split at h
      · obtain ⟨hp, rfl⟩ := h; exact db_with.fit n _ _ _ _ _ _ _ _ _ hp
      · exact h.elim), meets (l := db_value.env n) (all_cons db_none.ok (all_cons ih0 (all_cons ih1 (all_cons clone_bs.ok (all_cons db_number.ok (all_cons sc_Itoa.ok (all_cons ih2 all_nil))))))) (db_value.chk n) (by
      intro ins outs h
      unfold db_value.cn at h
      split at h
      · obtain ⟨hp, rfl⟩ := h; exact db_value.fit n _ _ _ _ _ _ hp
      · exact h.elim), meets (l := db_tag.env n) (all_cons db_none.ok (all_cons ih0 (all_cons db_regular.ok (all_cons db_kinds.ok (all_cons db_small.ok all_nil))))) (db_tag.chk n) (by
      intro ins outs h
      unfold db_tag.cn at h
      split at h
      · obtain ⟨hp, rfl⟩ := h; exact db_tag.fit n _ _ _ _ _ _ hp
      · exact h.elim)⟩
theorem db_with.ok:SpecOK Go.Proofs.Tryd.prog (fun n=>(trydbGl n).av) 28 (Ctr.fs (db_with.c,db_with.sg)):=spec_sub fun ti to_ h=>by
 unfold db_with.c at h
 split at h
 ·obtain ⟨hp,rfl⟩:=h;exact ⟨db_with.cn (_+1),(dbvalue.oks _).1,Bool.and_eq_true_iff.2 ⟨hp,decide_eq_true (Nat.lt_succ_self _)⟩,rfl⟩
 ·exact h.elim
theorem db_Value.fit (it_kind:Int) (it_n:UInt64) (it_bytes:List UInt8) (it_text:Str) (it_kids:List Itm) (hp:(decide (Itm.bulk (Itm.of (Itv.mk it_kind it_n it_bytes it_text it_kids))≤1073741824))=true):([.ag [.i .i64 it_kind,.u64 it_n,.sl .bs it_bytes,.s it_text,.sl .il it_kids]]:List TV).length=db_Value.d.np∧db_Value.d.run (envL trydbGl db_Value.env) [.ag [.i .i64 it_kind,.u64 it_n,.sl .bs it_bytes,.s it_text,.sl .il it_kids]]=some (([(.ag (Val.cells ((Db.dec (Itm.of (Itv.mk it_kind it_n it_bytes it_text it_kids))).1))),(.ag (Flt.cells ((Db.dec (Itm.of (Itv.mk it_kind it_n it_bytes it_text it_kids))).2)))]:List TV)++db_Value.d.ps.toList.map fun q=>([.ag [.i .i64 it_kind,.u64 it_n,.sl .bs it_bytes,.s it_text,.sl .il it_kids]]:List TV).getD q.1 .dead) :=
 ⟨by kernel_rfl,Eq.trans (b:=db_Value.F (Itv.mk it_kind it_n it_bytes it_text it_kids)) (by kernel_rfl) (Eq.trans (db_Value.goal (Itv.mk it_kind it_n it_bytes it_text it_kids) hp) (by kernel_rfl))⟩
theorem db_Value.ok:SpecOK Go.Proofs.Tryd.prog (fun n=>(trydbGl n).av) 15 (Ctr.fs (db_Value.c,db_Value.sg)) :=
 meets (l:=db_Value.env) (all_cons cb_Check.ok (all_cons db_none.ok (all_cons db_with.ok all_nil))) db_Value.chk (by
   intro ins outs h
   unfold db_Value.c at h
   split at h
   ·obtain ⟨hp,rfl⟩:=h;exact db_Value.fit _ _ _ _ _ hp
   ·exact h.elim)
theorem ref28_Number.fit (it_kind:Int) (it_n:UInt64) (it_bytes:List UInt8) (it_text:Str) (it_kids:List Itm):([.ag [.i .i64 it_kind,.u64 it_n,.sl .bs it_bytes,.s it_text,.sl .il it_kids]]:List TV).length=ref28_Number.d.np∧ref28_Number.d.run (envL trydbGl ref28_Number.env) [.ag [.i .i64 it_kind,.u64 it_n,.sl .bs it_bytes,.s it_text,.sl .il it_kids]]=some (([(.i .i64 (Db.numberI (Itm.of (Itv.mk it_kind it_n it_bytes it_text it_kids)))),(.b ((Db.number (Itm.of (Itv.mk it_kind it_n it_bytes it_text it_kids))).isSome))]:List TV)++ref28_Number.d.ps.toList.map fun q=>([.ag [.i .i64 it_kind,.u64 it_n,.sl .bs it_bytes,.s it_text,.sl .il it_kids]]:List TV).getD q.1 .dead) :=
 ⟨by kernel_rfl,Eq.trans (b:=ref28_Number.F (Itv.mk it_kind it_n it_bytes it_text it_kids)) (by kernel_rfl) (Eq.trans (ref28_Number.goal (Itv.mk it_kind it_n it_bytes it_text it_kids)) (by kernel_rfl))⟩
theorem ref28_Number.ok:SpecOK Go.Proofs.Tryd.prog (fun n=>(trydbGl n).av) 90 (Ctr.fs (ref28_Number.c,ref28_Number.sg)) :=
 meets (l:=ref28_Number.env) all_nil ref28_Number.chk (by
   intro ins outs h
   unfold ref28_Number.c at h
   split at h
   ·cases h;exact ref28_Number.fit _ _ _ _ _
   ·exact h.elim)
theorem ref28_longer.fit (p:List Int) (k:Int) (hp:(decide (p.length≤1099511627776))=true):([.sl .is p,.i .i64 k]:List TV).length=ref28_longer.d.np∧ref28_longer.d.run (envL trydbGl ref28_longer.env) [.sl .is p,.i .i64 k]=some (([(.sl .is ((p++[k])))]:List TV)++ref28_longer.d.ps.toList.map fun q=>([.sl .is p,.i .i64 k]:List TV).getD q.1 .dead) :=
 ⟨by kernel_rfl,Eq.trans (b:=ref28_longer.F p k) (by kernel_rfl) (Eq.trans (ref28_longer.goal p k hp) (by kernel_rfl))⟩
theorem ref28_longer.ok:SpecOK Go.Proofs.Tryd.prog (fun n=>(trydbGl n).av) 46 (Ctr.fs (ref28_longer.c,ref28_longer.sg)) :=
 meets (l:=ref28_longer.env) all_nil ref28_longer.chk (by
   intro ins outs h
   unfold ref28_longer.c at h
   split at h
   ·obtain ⟨hp,rfl⟩:=h;exact ref28_longer.fit _ _ hp
   ·exact h.elim)
theorem ref28_regular.fit (it_kind:Int) (it_n:UInt64) (it_bytes:List UInt8) (it_text:Str) (it_kids:List Itm) (hp:(decide (Itm.bulk (Itm.of (Itv.mk it_kind it_n it_bytes it_text it_kids))≤1099511627776))=true):([.ag [.i .i64 it_kind,.u64 it_n,.sl .bs it_bytes,.s it_text,.sl .il it_kids]]:List TV).length=ref28_regular.d.np∧ref28_regular.d.run (envL trydbGl ref28_regular.env) [.ag [.i .i64 it_kind,.u64 it_n,.sl .bs it_bytes,.s it_text,.sl .il it_kids]]=some (([(.b (Db.regular ((Itv.mk it_kind it_n it_bytes it_text it_kids)).kids))]:List TV)++ref28_regular.d.ps.toList.map fun q=>([.ag [.i .i64 it_kind,.u64 it_n,.sl .bs it_bytes,.s it_text,.sl .il it_kids]]:List TV).getD q.1 .dead) :=
 ⟨by kernel_rfl,Eq.trans (b:=ref28_regular.F (Itv.mk it_kind it_n it_bytes it_text it_kids)) (by kernel_rfl) (Eq.trans (ref28_regular.goal (Itv.mk it_kind it_n it_bytes it_text it_kids) hp) (by kernel_rfl))⟩
theorem ref28_regular.ok:SpecOK Go.Proofs.Tryd.prog (fun n=>(trydbGl n).av) 75 (Ctr.fs (ref28_regular.c,ref28_regular.sg)) :=
 meets (l:=ref28_regular.env) (all_cons ref5_Digits.ok all_nil) ref28_regular.chk (by
   intro ins outs h
   unfold ref28_regular.c at h
   split at h
   ·obtain ⟨hp,rfl⟩:=h;exact ref28_regular.fit _ _ _ _ _ hp
   ·exact h.elim)
theorem ref28_Half.fit (it_kind:Int) (it_n:UInt64) (it_bytes:List UInt8) (it_text:Str) (it_kids:List Itm):([.ag [.i .i64 it_kind,.u64 it_n,.sl .bs it_bytes,.s it_text,.sl .il it_kids]]:List TV).length=ref28_Half.d.np∧ref28_Half.d.run (envL trydbGl ref28_Half.env) [.ag [.i .i64 it_kind,.u64 it_n,.sl .bs it_bytes,.s it_text,.sl .il it_kids]]=some (([(.ag (Val.cells ((Db.half (Itm.of (Itv.mk it_kind it_n it_bytes it_text it_kids))).1))),(.b ((Db.half (Itm.of (Itv.mk it_kind it_n it_bytes it_text it_kids))).2))]:List TV)++ref28_Half.d.ps.toList.map fun q=>([.ag [.i .i64 it_kind,.u64 it_n,.sl .bs it_bytes,.s it_text,.sl .il it_kids]]:List TV).getD q.1 .dead) :=
 ⟨by kernel_rfl,Eq.trans (b:=ref28_Half.F (Itv.mk it_kind it_n it_bytes it_text it_kids)) (by kernel_rfl) (Eq.trans (ref28_Half.goal (Itv.mk it_kind it_n it_bytes it_text it_kids)) (by kernel_rfl))⟩
theorem ref28_Half.ok:SpecOK Go.Proofs.Tryd.prog (fun n=>(trydbGl n).av) 73 (Ctr.fs (ref28_Half.c,ref28_Half.sg)) :=
 meets (l:=ref28_Half.env) (all_cons ref28_Number.ok all_nil) ref28_Half.chk (by
   intro ins outs h
   unfold ref28_Half.c at h
   split at h
   ·cases h;exact ref28_Half.fit _ _ _ _ _
   ·exact h.elim)
theorem ref28_pair.fit (it_kind:Int) (it_n:UInt64) (it_bytes:List UInt8) (it_text:Str) (it_kids:List Itm):([.ag [.i .i64 it_kind,.u64 it_n,.sl .bs it_bytes,.s it_text,.sl .il it_kids]]:List TV).length=ref28_pair.d.np∧ref28_pair.d.run (envL trydbGl ref28_pair.env) [.ag [.i .i64 it_kind,.u64 it_n,.sl .bs it_bytes,.s it_text,.sl .il it_kids]]=some (([(.b (decide (((Itv.mk it_kind it_n it_bytes it_text it_kids)).kind=5∧((Itv.mk it_kind it_n it_bytes it_text it_kids)).kids.length=2)))]:List TV)++ref28_pair.d.ps.toList.map fun q=>([.ag [.i .i64 it_kind,.u64 it_n,.sl .bs it_bytes,.s it_text,.sl .il it_kids]]:List TV).getD q.1 .dead) :=
 ⟨by kernel_rfl,Eq.trans (b:=ref28_pair.F (Itv.mk it_kind it_n it_bytes it_text it_kids)) (by kernel_rfl) (Eq.trans (ref28_pair.goal (Itv.mk it_kind it_n it_bytes it_text it_kids)) (by kernel_rfl))⟩
theorem ref28_pair.ok:SpecOK Go.Proofs.Tryd.prog (fun n=>(trydbGl n).av) 76 (Ctr.fs (ref28_pair.c,ref28_pair.sg)) :=
 meets (l:=ref28_pair.env) all_nil ref28_pair.chk (by
   intro ins outs h
   unfold ref28_pair.c at h
   split at h
   ·cases h;exact ref28_pair.fit _ _ _ _ _
   ·exact h.elim)
theorem ref28_tagged.fit (n:UInt64) (it_kind:Int) (it_n:UInt64) (it_bytes:List UInt8) (it_text:Str) (it_kids:List Itm) (hp:(decide (Itm.bulk (Itm.of (Itv.mk it_kind it_n it_bytes it_text it_kids))≤1099511627776))=true):([.u64 n,.ag [.i .i64 it_kind,.u64 it_n,.sl .bs it_bytes,.s it_text,.sl .il it_kids]]:List TV).length=ref28_tagged.d.np∧ref28_tagged.d.run (envL trydbGl ref28_tagged.env) [.u64 n,.ag [.i .i64 it_kind,.u64 it_n,.sl .bs it_bytes,.s it_text,.sl .il it_kids]]=some (([(.ag (Val.cells ((Db.taggedV n (Itm.of (Itv.mk it_kind it_n it_bytes it_text it_kids))).1))),(.b ((Db.taggedV n (Itm.of (Itv.mk it_kind it_n it_bytes it_text it_kids))).2))]:List TV)++ref28_tagged.d.ps.toList.map fun q=>([.u64 n,.ag [.i .i64 it_kind,.u64 it_n,.sl .bs it_bytes,.s it_text,.sl .il it_kids]]:List TV).getD q.1 .dead) :=
 ⟨by kernel_rfl,Eq.trans (b:=ref28_tagged.F n (Itv.mk it_kind it_n it_bytes it_text it_kids)) (by kernel_rfl) (Eq.trans (ref28_tagged.goal n (Itv.mk it_kind it_n it_bytes it_text it_kids) hp) (by kernel_rfl))⟩
theorem ref28_tagged.ok:SpecOK Go.Proofs.Tryd.prog (fun n=>(trydbGl n).av) 77 (Ctr.fs (ref28_tagged.c,ref28_tagged.sg)) :=
 meets (l:=ref28_tagged.env) (all_cons ref2_Zero.ok (all_cons ref28_pair.ok (all_cons ref28_Number.ok (all_cons ref1_High.ok all_nil)))) ref28_tagged.chk (by
   intro ins outs h
   unfold ref28_tagged.c at h
   split at h
   ·obtain ⟨hp,rfl⟩:=h;exact ref28_tagged.fit _ _ _ _ _ _ hp
   ·exact h.elim)
theorem ref28_done.fit (v_kind:Int) (v_bits:UInt64) (v_high:UInt64) (v_low:UInt64) (v_text:Str) (v_more:Str) (v_sub:Int) (v_bytes:List UInt8) (v_kids:List Fld) (f_err:Int) (f_at:Int) (f_path:List Int):([.ag [.i .i64 v_kind,.u64 v_bits,.u64 v_high,.u64 v_low,.s v_text,.s v_more,.i .i64 v_sub,.sl .bs v_bytes,.sl .fl v_kids],.ag [.i .i64 f_err,.i .i64 f_at,.sl .is f_path]]:List TV).length=ref28_done.d.np∧ref28_done.d.run (envL trydbGl ref28_done.env) [.ag [.i .i64 v_kind,.u64 v_bits,.u64 v_high,.u64 v_low,.s v_text,.s v_more,.i .i64 v_sub,.sl .bs v_bytes,.sl .fl v_kids],.ag [.i .i64 f_err,.i .i64 f_at,.sl .is f_path]]=some (([(.ag (Val.cells ((if ((Flt.mk f_err f_at f_path)).err=0 then (Val.mk v_kind v_bits v_high v_low v_text v_more v_sub v_bytes v_kids) else Db.zero)))),(.ag (Flt.cells ((Flt.mk f_err f_at f_path))))]:List TV)++ref28_done.d.ps.toList.map fun q=>([.ag [.i .i64 v_kind,.u64 v_bits,.u64 v_high,.u64 v_low,.s v_text,.s v_more,.i .i64 v_sub,.sl .bs v_bytes,.sl .fl v_kids],.ag [.i .i64 f_err,.i .i64 f_at,.sl .is f_path]]:List TV).getD q.1 .dead) :=
 ⟨by kernel_rfl,Eq.trans (b:=ref28_done.F (Val.mk v_kind v_bits v_high v_low v_text v_more v_sub v_bytes v_kids) (Flt.mk f_err f_at f_path)) (by kernel_rfl) (Eq.trans (ref28_done.goal (Val.mk v_kind v_bits v_high v_low v_text v_more v_sub v_bytes v_kids) (Flt.mk f_err f_at f_path)) (by kernel_rfl))⟩
theorem ref28_done.ok:SpecOK Go.Proofs.Tryd.prog (fun n=>(trydbGl n).av) 30 (Ctr.fs (ref28_done.c,ref28_done.sg)) :=
 meets (l:=ref28_done.env) all_nil ref28_done.chk (by
   intro ins outs h
   unfold ref28_done.c at h
   split at h
   ·cases h;exact ref28_done.fit _ _ _ _ _ _ _ _ _ _ _ _
   ·exact h.elim)
theorem ref28_fields.fit (n:Nat) (it_kind:Int) (it_n:UInt64) (it_bytes:List UInt8) (it_text:Str) (it_kids:List Itm) (p:List Int) (hp:((decide (Itm.bulks ((Itv.mk it_kind it_n it_bytes it_text it_kids)).kids+(p).length≤1073741824)&&decide (Cb.chks ((Itv.mk it_kind it_n it_bytes it_text it_kids)).kids=0∧((Itv.mk it_kind it_n it_bytes it_text it_kids)).kids.length % 2=0))&&decide ((2 * Itm.bulks ((Itv.mk it_kind it_n it_bytes it_text it_kids)).kids+2)<n+1))=true):([.ag [.i .i64 it_kind,.u64 it_n,.sl .bs it_bytes,.s it_text,.sl .il it_kids],.sl .is p]:List TV).length=ref28_fields.d.np∧ref28_fields.d.run (envL trydbGl (ref28_fields.env n)) [.ag [.i .i64 it_kind,.u64 it_n,.sl .bs it_bytes,.s it_text,.sl .il it_kids],.sl .is p]=some (([(.sl .fl (Db.Gots.lst (Db.fields ((Itv.mk it_kind it_n it_bytes it_text it_kids)).kids 0 p))),(.ag (Flt.cells (Db.Gots.flt (Db.fields ((Itv.mk it_kind it_n it_bytes it_text it_kids)).kids 0 p))))]:List TV)++ref28_fields.d.ps.toList.map fun q=>([.ag [.i .i64 it_kind,.u64 it_n,.sl .bs it_bytes,.s it_text,.sl .il it_kids],.sl .is p]:List TV).getD q.1 .dead) :=
 ⟨by kernel_rfl,Eq.trans (b:=ref28_fields.F n (Itv.mk it_kind it_n it_bytes it_text it_kids) p) (by kernel_rfl) (Eq.trans (ref28_fields.goal n (Itv.mk it_kind it_n it_bytes it_text it_kids) p hp) (by kernel_rfl))⟩
theorem ref28_value.fit (n:Nat) (it_kind:Int) (it_n:UInt64) (it_bytes:List UInt8) (it_text:Str) (it_kids:List Itm) (p:List Int) (hp:((decide (Itm.bulk (Itm.of (Itv.mk it_kind it_n it_bytes it_text it_kids))+(p).length≤1073741824)&&decide (Cb.chk (Itm.of (Itv.mk it_kind it_n it_bytes it_text it_kids))=0))&&decide ((2 * Itm.bulk (Itm.of (Itv.mk it_kind it_n it_bytes it_text it_kids))+1)<n+1))=true):([.ag [.i .i64 it_kind,.u64 it_n,.sl .bs it_bytes,.s it_text,.sl .il it_kids],.sl .is p]:List TV).length=ref28_value.d.np∧ref28_value.d.run (envL trydbGl (ref28_value.env n)) [.ag [.i .i64 it_kind,.u64 it_n,.sl .bs it_bytes,.s it_text,.sl .il it_kids],.sl .is p]=some (([(.ag (Val.cells (Db.Got.val (Db.value (Itm.of (Itv.mk it_kind it_n it_bytes it_text it_kids)) p)))),(.ag (Flt.cells (Db.Got.flt (Db.value (Itm.of (Itv.mk it_kind it_n it_bytes it_text it_kids)) p))))]:List TV)++ref28_value.d.ps.toList.map fun q=>([.ag [.i .i64 it_kind,.u64 it_n,.sl .bs it_bytes,.s it_text,.sl .il it_kids],.sl .is p]:List TV).getD q.1 .dead) :=
 ⟨by kernel_rfl,Eq.trans (b:=ref28_value.F n (Itv.mk it_kind it_n it_bytes it_text it_kids) p) (by kernel_rfl) (Eq.trans (ref28_value.goal n (Itv.mk it_kind it_n it_bytes it_text it_kids) p hp) (by kernel_rfl))⟩
theorem rvalue.oks : ∀ n : Nat, (SpecOK Go.Proofs.Tryd.prog (fun n => (trydbGl n).av) 29 (Ctr.fs (ref28_fields.cn n, ref28_fields.sg))) ∧ (SpecOK Go.Proofs.Tryd.prog (fun n => (trydbGl n).av) 47 (Ctr.fs (ref28_value.cn n, ref28_value.sg))) := by
  intro n
  induction n with
  | zero => exact ⟨spec_zero (by
      intro ti to_ h
      unfold ref28_fields.cn at h
      split at h
      · obtain ⟨h, _⟩ := h; simp at h
      · exact h.elim), spec_zero (by
      intro ti to_ h
      unfold ref28_value.cn at h
      split at h
      · obtain ⟨h, _⟩ := h; simp at h
      · exact h.elim)⟩
  | succ n ih =>
    obtain ⟨ih0, ih1⟩ := ih
    exact ⟨meets (l := ref28_fields.env n) (all_cons ref2_Zero.ok (all_cons ref28_longer.ok (all_cons ih1 all_nil))) (ref28_fields.chk n) (by
      intro ins outs h
      unfold ref28_fields.cn at h
      split at h
      · obtain ⟨hp, rfl⟩ := h; exact ref28_fields.fit n _ _ _ _ _ _ hp
      · exact h.elim), meets (l := ref28_value.env n) (all_cons ih0 (all_cons ref28_done.ok (all_cons ref28_longer.ok (all_cons ih1 (all_cons ref28_Half.ok (all_cons ref5_Digits.ok (all_cons ref28_regular.ok (all_cons ref28_pair.ok (all_cons ref28_tagged.ok all_nil))))))))) (ref28_value.chk n) (by
      intro ins outs h
      unfold ref28_value.cn at h
      split at h
      · obtain ⟨hp, rfl⟩ := h; exact ref28_value.fit n _ _ _ _ _ _ hp
      · exact h.elim)⟩
theorem ref28_fields.ok:SpecOK Go.Proofs.Tryd.prog (fun n=>(trydbGl n).av) 29 (Ctr.fs (ref28_fields.c,ref28_fields.sg)):=spec_sub fun ti to_ h=>by
 unfold ref28_fields.c at h
 split at h
 ·obtain ⟨hp,rfl⟩:=h;exact ⟨ref28_fields.cn (_+1),(rvalue.oks _).1,Bool.and_eq_true_iff.2 ⟨hp,decide_eq_true (Nat.lt_succ_self _)⟩,rfl⟩
 ·exact h.elim
theorem ref28_Value.fit (it_kind:Int) (it_n:UInt64) (it_bytes:List UInt8) (it_text:Str) (it_kids:List Itm) (hp:(decide (Itm.bulk (Itm.of (Itv.mk it_kind it_n it_bytes it_text it_kids))≤1073741824))=true):([.ag [.i .i64 it_kind,.u64 it_n,.sl .bs it_bytes,.s it_text,.sl .il it_kids]]:List TV).length=ref28_Value.d.np∧ref28_Value.d.run (envL trydbGl ref28_Value.env) [.ag [.i .i64 it_kind,.u64 it_n,.sl .bs it_bytes,.s it_text,.sl .il it_kids]]=some (([(.ag (Val.cells ((Db.dec (Itm.of (Itv.mk it_kind it_n it_bytes it_text it_kids))).1))),(.ag (Flt.cells ((Db.dec (Itm.of (Itv.mk it_kind it_n it_bytes it_text it_kids))).2)))]:List TV)++ref28_Value.d.ps.toList.map fun q=>([.ag [.i .i64 it_kind,.u64 it_n,.sl .bs it_bytes,.s it_text,.sl .il it_kids]]:List TV).getD q.1 .dead) :=
 ⟨by kernel_rfl,Eq.trans (b:=ref28_Value.F (Itv.mk it_kind it_n it_bytes it_text it_kids)) (by kernel_rfl) (Eq.trans (ref28_Value.goal (Itv.mk it_kind it_n it_bytes it_text it_kids) hp) (by kernel_rfl))⟩
theorem ref28_Value.ok:SpecOK Go.Proofs.Tryd.prog (fun n=>(trydbGl n).av) 16 (Ctr.fs (ref28_Value.c,ref28_Value.sg)) :=
 meets (l:=ref28_Value.env) (all_cons ref28_Check.ok (all_cons ref28_fields.ok (all_cons ref28_done.ok all_nil))) ref28_Value.chk (by
   intro ins outs h
   unfold ref28_Value.c at h
   split at h
   ·obtain ⟨hp,rfl⟩:=h;exact ref28_Value.fit _ _ _ _ _ hp
   ·exact h.elim)
theorem law30_awake.fit:([]:List TV).length=law30_awake.d.np∧law30_awake.d.run (envL trydbGl law30_awake.env) []=some (([(.b (true))]:List TV)++law30_awake.d.ps.toList.map fun q=>([]:List TV).getD q.1 .dead) :=
 ⟨by kernel_rfl,Eq.trans (b:=law30_awake.F ) (by kernel_rfl) (Eq.trans (law30_awake.goal ) (by kernel_rfl))⟩
theorem law30_awake.ok:SpecOK Go.Proofs.Tryd.prog (fun n=>(trydbGl n).av) 8 (Ctr.fs (law30_awake.c,law30_awake.sg)) :=
 meets (l:=law30_awake.env) (all_cons db_Item.ok (all_cons db_Value.ok all_nil)) law30_awake.chk (by
   intro ins outs h
   unfold law30_awake.c at h
   split at h
   ·cases h;exact law30_awake.fit
   ·exact h.elim)
end Go.Eng
namespace Go.Eng
open Go.IntWalk
theorem digs_len : ∀ (k n : Nat), n < 10 ^ (k + 1) → (digs n).length ≤ k + 1
  | 0, n, h => by rw [digs_lt (by simpa using h)]; simp
  | k + 1, n, h => by
    by_cases a : n < 10
    · rw [digs_lt a]; simp
    · have := digs_len k (n / 10) (by rw [Nat.pow_succ] at h; omega)
      rw [digs_ge a, List.length_append, List.length_singleton]; omega
namespace Db
def bulkV (v:Val):Nat:=Fld.bulk (Fld.of [] v)
theorem bulk_named (n:Str) (v:Val):Fld.bulk (Fld.of n v)=n.length+bulkV v:=by
 simp only [bulkV,Fld.of,Fld.bulk,List.length_nil];omega
theorem fst_bulk (it : Itm) : (fst it).text.length + (snd it).text.length + (fst it).bytes.length + (snd it).bytes.length ≤ Itm.bulk it := by
  obtain ⟨k, n, b, t, ks⟩ := it
  match ks with
  | [] => simp [fst, snd, Itm.kids, Mp.zero, Itm.text, Itm.bytes]
  | [x] =>
    have := Itm.bulk_val x
    show x.text.length + (Mp.zero).text.length + x.bytes.length + Mp.zero.bytes.length ≤ _
    simp only [Mp.zero, Itm.text, Itm.bytes, List.length_nil, Itm.bulk, Itm.bulks] at *; omega
  | x :: y :: r =>
    have h1 := Itm.bulk_val x
    have h2 := Itm.bulk_val y
    show x.text.length + y.text.length + x.bytes.length + y.bytes.length ≤ _
    simp only [Itm.bulk, Itm.bulks]; omega
theorem smallV_bulk (n:UInt64) (it:Itm):bulkV (smallV n it).1≤1+Itm.bulk it:=by
 have h:=fst_bulk it
 have h2:=Itm.bulk_val it
 unfold smallV
 by_cases a:n<1000∨1255<n
 ·rw [if_pos a];(simp only [bulkV,zero,doc,Fld.of,Fld.bulk,Fld.bulks,List.length_nil];omega)
 rw [if_neg a]
 by_cases a:n=1005
 ·rw [if_pos a];split <;> (simp only [bulkV,zero,doc,Fld.of,Fld.bulk,Fld.bulks,List.length_nil];omega)
 rw [if_neg a]
 by_cases a:n=1007
 ·rw [if_pos a];(simp only [bulkV,zero,doc,Fld.of,Fld.bulk,Fld.bulks,List.length_nil];omega)
 rw [if_neg a]
 by_cases a:n=1009∨n=1018
 ·rw [if_pos a];(simp only [bulkV,zero,doc,Fld.of,Fld.bulk,Fld.bulks,List.length_nil];omega)
 rw [if_neg a]
 by_cases a:n=1011
 ·rw [if_pos a];split <;> (simp only [bulkV,zero,doc,Fld.of,Fld.bulk,Fld.bulks,List.length_nil];omega)
 rw [if_neg a]
 by_cases a:n=1012
 ·rw [if_pos a];split <;> (simp only [bulkV,zero,doc,Fld.of,Fld.bulk,Fld.bulks,List.length_nil];omega)
 rw [if_neg a]
 by_cases a:n=1013∨n=1014
 ·rw [if_pos a];(simp only [bulkV,zero,doc,Fld.of,Fld.bulk,Fld.bulks,List.length_nil];omega)
 rw [if_neg a]
 by_cases a:n=1017
 ·rw [if_pos a];(simp only [bulkV,zero,doc,Fld.of,Fld.bulk,Fld.bulks,List.length_nil];omega)
 rw [if_neg a]
 by_cases a:n=1019
 ·rw [if_pos a];split <;> (simp only [bulkV,zero,doc,Fld.of,Fld.bulk,Fld.bulks,List.length_nil];omega)
 rw [if_neg a]
 by_cases a:n=1127∨n=1255
 ·rw [if_pos a];(simp only [bulkV,zero,doc,Fld.of,Fld.bulk,Fld.bulks,List.length_nil];omega)
 rw [if_neg a]
 (simp only [bulkV,zero,doc,Fld.of,Fld.bulk,Fld.bulks,List.length_nil];omega)
theorem leaf_bulk (k:Int) (n:UInt64) (b t:Str) (v:Val) (h:leaf k n b t=some v):bulkV v≤1+b.length+t.length:=by
 unfold leaf at h
 split at h
 ·cases h;simp only [bulkV,Fld.of,Fld.bulk,Fld.bulks,List.length_nil];omega
 split at h
 ·cases h;simp only [bulkV,Fld.of,Fld.bulk,Fld.bulks,List.length_nil];omega
 split at h
 ·cases h;simp only [bulkV,Fld.of,Fld.bulk,Fld.bulks,List.length_nil];omega
 split at h
 ·cases h
  repeat' split
  all_goals simp only [bulkV,Fld.of,Fld.bulk,Fld.bulks,List.length_nil]
  all_goals omega
 split at h
 ·cases h;simp only [bulkV,half,Fld.of,Fld.bulk,Fld.bulks,List.length_nil];omega
 ·cases h
theorem got_ok {g:Gots} {w v:Val} (h:g.got w = .ok v):∃l,g = .ok l∧v={ w with kids:=l }:=by
 cases g with
 | ok l=>exact ⟨l,rfl,by injection h with h;exact h.symm⟩
 | bad p=>cases h
theorem got_bad {g:Gots} {w:Val} {q:List Int} (h:g.got w = .bad q):g = .bad q:=by
 cases g with
 | ok l=>cases h
 | bad p=>injection h with h;rw [h]
theorem doc_bulk (k:Int) (t:Str) (l:List Fld):bulkV { doc k t with kids:=l }=1+t.length+Fld.bulks l:=by
 simp only [bulkV,doc,Fld.of,Fld.bulk,List.length_nil];omega
mutual
theorem value_bulk : ∀ (x : Itm) (p : List Int) (v : Val), value x p = .ok v → Itm.bulk x ≤ 1000000000 → bulkV v + 20 ≤ 24 * Itm.bulk x
  | .mk k n b t ks, p, v, h, hb => by
    simp only [Itm.bulk] at hb ⊢
    rw [value] at h
    split at h
    · obtain ⟨l, hl, rfl⟩ := got_ok h
      have := fields_bulk ks 0 p l hl (by omega)
      rw [doc_bulk]; simp only [List.length_nil]; omega
    split at h
    · obtain ⟨l, hl, rfl⟩ := got_ok h
      have := elems_bulk ks 0 p l hl (by omega) (by have := Itm.bulk_kids ks; omega)
      rw [doc_bulk]; simp only [List.length_nil]; omega
    split at h
    · have := tags_bulk n ks p v h (by omega); omega
    · cases hl : leaf k n b t with
      | none => rw [hl] at h; cases h
      | some w =>
        rw [hl] at h; injection h with h; subst h
        have := leaf_bulk k n b t _ hl; omega
theorem tags_bulk : ∀ (n : UInt64) (ks : List Itm) (p : List Int) (v : Val), tags n ks p = .ok v → Itm.bulks ks ≤ 1000000000 → bulkV v + 20 ≤ 24 * Itm.bulks ks + 24
  | n, [], p, v, h, _ => by rw [tags] at h; cases h
  | n, x :: r, p, v, h, hb => by
    rw [tags] at h
    simp only [Itm.bulks] at hb ⊢
    have := tagv_bulk n x p v h (by omega); omega
theorem tagv_bulk : ∀ (n : UInt64) (x : Itm) (p : List Int) (v : Val), tagv n x p = .ok v → Itm.bulk x ≤ 1000000000 → bulkV v + 20 ≤ 24 * Itm.bulk x + 24
  | n, .mk k m b t ks, p, v, h, hb => by
    have hs := smallV_bulk n (.mk k m b t ks)
    simp only [Itm.bulk] at hb hs ⊢
    rw [tagv] at h
    split at h
    · split at h
      · obtain ⟨l, hl, rfl⟩ := got_ok h
        have := fields_bulk ks 0 _ l hl (by omega)
        rw [doc_bulk]; simp only [List.length_nil]; omega
      · cases h
    split at h
    · split at h
      · have := pairv_bulk ks p v h (by omega); omega
      · cases h
    · unfold small at h
      split at h
      · injection h with h; subst h; omega
      · cases h
theorem pairv_bulk : ∀ (ks : List Itm) (p : List Int) (v : Val), pairv ks p = .ok v → Itm.bulks ks ≤ 1000000000 → bulkV v ≤ 24 * Itm.bulks ks
  | [], p, v, h, _ => by rw [pairv] at h; cases h
  | [_], p, v, h, _ => by rw [pairv] at h; cases h
  | a :: m :: r, p, v, h, hb => by
    rw [pairv] at h
    simp only [Itm.bulks] at hb ⊢
    have h1 := pairIn_bulk a.text m p v h (by omega)
    have h2 := Itm.bulk_val a
    omega
theorem pairIn_bulk : ∀ (t : Str) (m : Itm) (p : List Int) (v : Val), pairIn t m p = .ok v → Itm.bulk m ≤ 1000000000 → bulkV v ≤ t.length + 24 * Itm.bulk m
  | t, .mk _ _ b s ks, p, v, h, hb => by
    rw [pairIn] at h
    simp only [Itm.bulk] at hb ⊢
    obtain ⟨l, hl, rfl⟩ := got_ok h
    have := fields_bulk ks 0 _ l hl (by omega)
    rw [doc_bulk]; omega
theorem fields_bulk : ∀ (l : List Itm) (i : Nat) (p : List Int) (ks : List Fld), fields l i p = .ok ks → Itm.bulks l ≤ 1000000000 → Fld.bulks ks ≤ 24 * Itm.bulks l
  | [], i, p, ks, h, _ => by rw [fields] at h; injection h with h; subst h; exact Nat.zero_le _
  | [_], i, p, ks, h, _ => by rw [fields] at h; cases h
  | k :: x :: r, i, p, ks, h, hb => by
    rw [fields] at h
    simp only [Itm.bulks] at hb ⊢
    split at h
    · cases h
    split at h
    · cases h
    rename_i v hv
    split at h
    · cases h
    rename_i l hl
    injection h with h; subst h
    have h1 := value_bulk x _ v hv (by omega)
    have h2 := fields_bulk r _ p l hl (by omega)
    have h3 := Itm.bulk_val k
    simp only [Fld.bulks, bulk_named]; omega
theorem elems_bulk : ∀ (l : List Itm) (i : Nat) (p : List Int) (ks : List Fld), elems l i p = .ok ks → Itm.bulks l ≤ 1000000000 → i + l.length ≤ 1000000000 → Fld.bulks ks ≤ 24 * Itm.bulks l
  | [], i, p, ks, h, _, _ => by rw [elems] at h; injection h with h; subst h; exact Nat.zero_le _
  | x :: r, i, p, ks, h, hb, hi => by
    rw [elems] at h
    simp only [Itm.bulks] at hb ⊢
    simp only [List.length_cons] at hi
    split at h
    · cases h
    rename_i v hv
    split at h
    · cases h
    rename_i l hl
    injection h with h; subst h
    have h1 := value_bulk x _ v hv (by omega)
    have h2 := elems_bulk r _ p l hl (by omega) (by omega)
    have h3 := digs_len 19 i (by omega)
    simp only [Fld.bulks, bulk_named]; omega
end
def Leads (p q:List Int) (m:Nat):Prop:=∃r,q=p++r∧r.length≤m
theorem Leads.mono {p q:List Int} {a b:Nat} (h:Leads p q a) (hab:a≤b):Leads p q b:=by
 obtain ⟨r,hr,hl⟩:=h;exact ⟨r,hr,by omega⟩
theorem Leads.from_ {p s q:List Int} {a:Nat} (h:Leads (p++s) q a):Leads p q (a+s.length):=by
 obtain ⟨r,rfl,hl⟩:=h;exact ⟨s++r,by rw [List.append_assoc],by rw [List.length_append];omega⟩
theorem Leads.self (p:List Int) (m:Nat):Leads p p m:=⟨[],by rw [List.append_nil],Nat.zero_le _⟩
theorem Leads.one (p:List Int) (x:Int):Leads p (p++[x]) 1:=⟨[x],rfl,Nat.le_refl _⟩
mutual
theorem value_bad : ∀ (x : Itm) (p q : List Int), value x p = .bad q → Leads p q (2 * Itm.bulk x)
  | .mk k n b t ks, p, q, h => by
    simp only [Itm.bulk]
    rw [value] at h
    split at h
    · exact (fields_bad ks 0 p q (got_bad h)).mono (by omega)
    split at h
    · exact (elems_bad ks 0 p q (got_bad h)).mono (by omega)
    split at h
    · exact (tags_bad n ks p q h).mono (by omega)
    · unfold opt at h
      split at h
      · cases h
      · injection h with h; subst h; exact Leads.self _ _
theorem tags_bad : ∀ (n : UInt64) (ks : List Itm) (p q : List Int), tags n ks p = .bad q → Leads p q (2 * Itm.bulks ks + 2)
  | n, [], p, q, h => by rw [tags] at h; injection h with h; subst h; exact Leads.self _ _
  | n, x :: r, p, q, h => by
    rw [tags] at h
    simp only [Itm.bulks]
    exact (tagv_bad n x p q h).mono (by omega)
theorem tagv_bad : ∀ (n : UInt64) (x : Itm) (p q : List Int), tagv n x p = .bad q → Leads p q (2 * Itm.bulk x + 2)
  | n, .mk k m b t ks, p, q, h => by
    simp only [Itm.bulk]
    rw [tagv] at h
    split at h
    · split at h
      · exact (fields_bad ks 0 _ q (got_bad h)).from_.mono (by simp only [List.length_singleton]; omega)
      · injection h with h; subst h; exact Leads.self _ _
    split at h
    · split at h
      · exact (pairv_bad ks p q h).mono (by omega)
      · injection h with h; subst h; exact Leads.self _ _
    · unfold opt at h
      split at h
      · cases h
      · injection h with h; subst h; exact Leads.self _ _
theorem pairv_bad : ∀ (ks : List Itm) (p q : List Int), pairv ks p = .bad q → Leads p q (2 * Itm.bulks ks + 3)
  | [], p, q, h => by rw [pairv] at h; injection h with h; subst h; exact Leads.self _ _
  | [_], p, q, h => by rw [pairv] at h; injection h with h; subst h; exact Leads.self _ _
  | a :: m :: r, p, q, h => by
    rw [pairv] at h
    simp only [Itm.bulks]
    exact (pairIn_bad a.text m p q h).mono (by omega)
theorem pairIn_bad : ∀ (t : Str) (m : Itm) (p q : List Int), pairIn t m p = .bad q → Leads p q (2 * Itm.bulk m + 1)
  | t, .mk _ _ b s ks, p, q, h => by
    rw [pairIn] at h
    simp only [Itm.bulk]
    exact (fields_bad ks 0 _ q (got_bad h)).from_.mono (by simp only [List.length_cons, List.length_nil]; omega)
theorem fields_bad : ∀ (l : List Itm) (i : Nat) (p q : List Int), fields l i p = .bad q → Leads p q (2 * Itm.bulks l + 1)
  | [], i, p, q, h => by rw [fields] at h; cases h
  | [_], i, p, q, h => by rw [fields] at h; injection h with h; subst h; exact (Leads.one _ _).mono (by omega)
  | k :: x :: r, i, p, q, h => by
    have hk := Itm.bulk_pos k
    rw [fields] at h
    simp only [Itm.bulks]
    split at h
    · injection h with h; subst h; exact (Leads.one _ _).mono (by omega)
    split at h
    · rename_i q' hv
      injection h with h; subst h
      exact (value_bad x _ _ hv).from_.mono (by simp only [List.length_singleton]; omega)
    rename_i v hv
    split at h
    · rename_i q' hl
      injection h with h; subst h
      exact (fields_bad r _ p _ hl).mono (by omega)
    · cases h
theorem elems_bad : ∀ (l : List Itm) (i : Nat) (p q : List Int), elems l i p = .bad q → Leads p q (2 * Itm.bulks l + 1)
  | [], i, p, q, h => by rw [elems] at h; cases h
  | x :: r, i, p, q, h => by
    rw [elems] at h
    simp only [Itm.bulks]
    split at h
    · rename_i q' hv
      injection h with h; subst h
      exact (value_bad x _ _ hv).from_.mono (by simp only [List.length_singleton]; omega)
    rename_i v hv
    split at h
    · rename_i q' hl
      injection h with h; subst h
      exact (elems_bad r _ p _ hl).mono (by omega)
    · cases h
end
theorem dec_bulk (it:Itm) (hb:Itm.bulk it≤1000000000):bulkV (dec it).1≤24 * Itm.bulk it+1:=by
 unfold dec
 split
 ·simp only [bulkV,zero,Fld.of,Fld.bulk,Fld.bulks,List.length_nil];omega
 split
 ·simp only [bulkV,zero,Fld.of,Fld.bulk,Fld.bulks,List.length_nil];omega
 ·cases hv:value it [] with
  | ok v=>have:=value_bulk it [] v hv hb;show bulkV v≤_;omega
  | bad q=>show bulkV zero≤_;simp only [bulkV,zero,Fld.of,Fld.bulk,Fld.bulks,List.length_nil];omega
theorem dec_path (it : Itm) : (dec it).2.path.length ≤ 2 * Itm.bulk it := by
  unfold dec
  split
  · simp
  split
  · simp
  · cases hv : value it [] with
    | ok v => show ([] : List Int).length ≤ _; simp
    | bad q =>
      obtain ⟨r, hq, hr⟩ := value_bad it [] q hv
      show q.length ≤ _
      rw [hq]; simpa using hr
end Db
end Go.Eng
namespace Go.Eng
noncomputable section
def DocborValues.sg:FSig:={}
def DocborValues.c:Ctr:=fun l=>match l with
 | [.ag [.i .i64 it_kind,.u64 it_n,.sl .bs it_bytes,.s it_text,.sl .il it_kids]] => .ok [(.b (true))]
 | _ => .err
end
noncomputable section
def DocborValues.env:List (Nat × (Ctr × FSig)):=[(8,(law30_awake.c,law30_awake.sg)),(12,(ref5_Same.c,ref5_Same.sg)),(14,(book_SmallItem.c,book_SmallItem.sg)),(15,(db_Value.c,db_Value.sg)),(16,(ref28_Value.c,ref28_Value.sg)),(17,(ref17_Same.c,ref17_Same.sg))]
def DocborValues.E:TEnv:=envL trydbGl DocborValues.env
def DocborValues.m:TM := .seq (.reg [
  ⟨.k (.bx 1030),[.s 0,.s 1030],[1,1030],none⟩,
  ⟨.k .mv,[.c (.b false)],[2],none⟩]) none (.seq (.seq (.reg [
  ⟨.k (.call 8 (.plain 0 1)),[],[7],none⟩,
  ⟨.k (.un .not),[.s 7],[8],none⟩]) none (.cond (.s 8) [] (.seq (.reg [
  ⟨.k .mv,[.c (.b false)],[2],none⟩]) none .ret) .skip)) none (.seq (.seq (.reg [
  ⟨.k (.ld 1030 0 5 true),[.s 1,.s 1030],[9],none⟩,
  ⟨.k (.call 14 (.plain 1 1)),[.s 9],[10],none⟩,
  ⟨.k (.un .not),[.s 10],[11],none⟩]) none (.cond (.s 11) [] (.seq (.reg [
  ⟨.k .mv,[.c (.b true)],[2],none⟩]) none .ret) .skip)) none (.seq (.reg [
  ⟨.k (.ld 1030 0 5 true),[.s 1,.s 1030],[13],none⟩,
  ⟨.k (.call 15 (.plain 1 2)),[.s 13],[14],none⟩,
  ⟨.k .mv,[.s 14],[12],none⟩,
  ⟨.k (.ex 0),[.s 12],[15],none⟩,
  ⟨.k (.ex 1),[.s 12],[16],none⟩,
  ⟨.al 1031 [(.i .i64 (0:Int)),(.u64 (0:UInt64)),(.u64 (0:UInt64)),(.u64 (0:UInt64)),(.s ([]:Str)),(.s ([]:Str)),(.i .i64 (0:Int)),(.sl .bs ([]:List UInt8)),(.sl .fl ([]:List Fld))] [],[.s 1031],[3,1031],none⟩,
  ⟨.al 1032 [(.i .i64 (0:Int)),(.i .i64 (0:Int)),(.sl .is ([]:List Int))] [],[.s 1032],[4,1032],none⟩,
  ⟨.k (.st 1031 0 9),[.s 3,.s 1031,.s 15],[1031],none⟩,
  ⟨.k (.st 1032 0 3),[.s 4,.s 1032,.s 16],[1032],none⟩]) none (.seq (.reg [
  ⟨.k (.ld 1030 0 5 true),[.s 1,.s 1030],[18],none⟩,
  ⟨.k (.call 16 (.plain 1 2)),[.s 18],[19],none⟩,
  ⟨.k .mv,[.s 19],[17],none⟩,
  ⟨.k (.ex 0),[.s 17],[20],none⟩,
  ⟨.k (.ex 1),[.s 17],[21],none⟩,
  ⟨.al 1033 [(.i .i64 (0:Int)),(.u64 (0:UInt64)),(.u64 (0:UInt64)),(.u64 (0:UInt64)),(.s ([]:Str)),(.s ([]:Str)),(.i .i64 (0:Int)),(.sl .bs ([]:List UInt8)),(.sl .fl ([]:List Fld))] [],[.s 1033],[5,1033],none⟩,
  ⟨.al 1034 [(.i .i64 (0:Int)),(.i .i64 (0:Int)),(.sl .is ([]:List Int))] [],[.s 1034],[6,1034],none⟩,
  ⟨.k (.st 1033 0 9),[.s 5,.s 1033,.s 20],[1033],none⟩,
  ⟨.k (.st 1034 0 3),[.s 6,.s 1034,.s 21],[1034],none⟩]) none (.seq (.reg [
  ⟨.k (.ld 1032 0 3 true),[.s 4,.s 1032],[22],none⟩,
  ⟨.k (.ld 1034 0 3 true),[.s 6,.s 1034],[23],none⟩,
  ⟨.k (.call 12 (.plain 2 1)),[.s 22,.s 23],[24],none⟩,
  ⟨.k .mv,[.s 24],[25],none⟩,
  ⟨.k (.ld 1031 0 9 true),[.s 3,.s 1031],[26],some (25,true)⟩,
  ⟨.k (.ld 1033 0 9 true),[.s 5,.s 1033],[27],some (25,true)⟩,
  ⟨.k (.call 17 (.plain 2 1)),[.s 26,.s 27],[28],some (25,true)⟩,
  ⟨.k .pick,[.s 25,.s 28,.c (.b false)],[29],none⟩,
  ⟨.k .mv,[.s 29],[2],none⟩]) none .ret)))))
def DocborValues.d:TFD:={ np:=1,m:=DocborValues.m,ref:=none,tips:=[],res:=[.t 2],own:=[],new:=none,tnew:=[] }
noncomputable def DocborValues.F (it:Itv):Option (List TV):=DocborValues.d.run DocborValues.E [(.ag (Itv.cells it))]
theorem DocborValues.F_in (it:Itv) {ρ:Option (List TV)} (K:∀(v1:Bool) (h1:v1=(decide ((((Db.dec (Itm.of it)).2)).err=(((Db.dec (Itm.of it)).2)).err∧(((Db.dec (Itm.of it)).2)).at_=(((Db.dec (Itm.of it)).2)).at_∧(((Db.dec (Itm.of it)).2)).path=(((Db.dec (Itm.of it)).2)).path))) (v2:Bool) (h2:v2=(Tree.same ((Db.dec (Itm.of it)).1) ((Db.dec (Itm.of it)).1))),cond (!(true))
  (some [(.b false)])
  (cond (!(decide (0≤Itm.room 1500 (Itm.of it))))
  (some [(.b true)])
  (ck (decide (Itm.bulk (Itm.of it)≤1073741824)) (ck (decide (Itm.bulk (Itm.of it)≤1073741824)) (ck (decide ((((Db.dec (Itm.of it)).2)).path.length≤1099511627776)) (ck (!v1 || ((v1&&v1)&&(decide (Fld.bulk (Fld.of [] ((Db.dec (Itm.of it)).1))≤1099511627776)))) (ck (!v1 || v1) (some [(.b (cond v1 v2 false))])))))))=ρ):DocborValues.F it=ρ:=Eq.trans (by kernel_rfl) (K _ rfl _ rfl)
theorem DocborValues.chk:((Go.Proofs.Tryd.prog.funcs[4]?).any fun fn=>chkF Go.Proofs.Tryd.prog (fun k=>((envL trydbGl DocborValues.env).fs k).2) fn DocborValues.d.erase)=true:=by kernel_rfl
end
end Go.Eng
namespace Go.Eng
open Go.IntWalk
theorem DocborValues.goal (it:Itv):DocborValues.F it=some [.b true]:=by
 refine DocborValues.F_in it ?_
 intro v1 h1 v2 h2
 rw [Bool.not_true,cond_false]
 by_cases a:0≤Itm.room 1500 (Itm.of it)
 ·have hb:=Itm.small_bulk _ a
  have h3:Fld.bulk (Fld.of [] (Db.dec (Itm.of it)).1)≤_:=Db.dec_bulk (Itm.of it) (by omega)
  have h4:=Db.dec_path (Itm.of it)
  rw [(Tree.same_iff _ _).2 rfl] at h2
  have h1':v1=true:=by rw [h1];exact decide_eq_true ⟨rfl,rfl,rfl⟩
  rw [decide_eq_true a,Bool.not_true,cond_false,ck_of (decide_eq_true (by omega)),ck_of (decide_eq_true (by omega)),ck_of (decide_eq_true (by omega)),h1',h2,ck_of (by rw [decide_eq_true (show Fld.bulk (Fld.of [] (Db.dec (Itm.of it)).1)≤1099511627776 by omega)];rfl)]
  rfl
 ·rw [decide_eq_false a];rfl
end Go.Eng
namespace Go.Eng
theorem DocborValues.fit (it_kind:Int) (it_n:UInt64) (it_bytes:List UInt8) (it_text:Str) (it_kids:List Itm):([.ag [.i .i64 it_kind,.u64 it_n,.sl .bs it_bytes,.s it_text,.sl .il it_kids]]:List TV).length=DocborValues.d.np∧DocborValues.d.run (envL trydbGl DocborValues.env) [.ag [.i .i64 it_kind,.u64 it_n,.sl .bs it_bytes,.s it_text,.sl .il it_kids]]=some (([(.b (true))]:List TV)++DocborValues.d.ps.toList.map fun q=>([.ag [.i .i64 it_kind,.u64 it_n,.sl .bs it_bytes,.s it_text,.sl .il it_kids]]:List TV).getD q.1 .dead) :=
 ⟨by kernel_rfl,Eq.trans (b:=DocborValues.F (Itv.mk it_kind it_n it_bytes it_text it_kids)) (by kernel_rfl) (Eq.trans (DocborValues.goal (Itv.mk it_kind it_n it_bytes it_text it_kids)) (by kernel_rfl))⟩
theorem DocborValues.ok:SpecOK Go.Proofs.Tryd.prog (fun n=>(trydbGl n).av) 4 (Ctr.fs (DocborValues.c,DocborValues.sg)) :=
 meets (l:=DocborValues.env) (all_cons law30_awake.ok (all_cons ref5_Same.ok (all_cons book_SmallItem.ok (all_cons db_Value.ok (all_cons ref28_Value.ok (all_cons ref17_Same.ok all_nil)))))) DocborValues.chk (by
   intro ins outs h
   unfold DocborValues.c at h
   split at h
   ·cases h;exact DocborValues.fit _ _ _ _ _
   ·exact h.elim)
end Go.Eng
