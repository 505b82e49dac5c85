/- Texts of my own, one behind the other: DbP6, DbP7, DbP8, DbP9, DbP, DbOK, DbR1, DbLTags, DbQTags, DbOKTags. -/
import Derived.Test.YthdgdfjnkgpegaaDoorT5
set_option linter.unusedVariables false
set_option linter.unusedSimpArgs false
namespace Go.Eng
open Go.IntWalk
theorem tag_kind {n : UInt64} (h : ¬ (n < 1000 ∨ 1255 < n)) : 1000 ≤ n.toNat ∧ n.toNat ≤ 1255 ∧ IntKind.i64.wrap ((n - 1000).toNat : Int) = (n.toNat : Int) - 1000 ∧ ∀ (m : Int) (u : UInt64), (u.toNat : Int) = m + 1000 → decide ((n.toNat : Int) - 1000 = m) = decide (n = u) := by
  have h1 : 1000 ≤ n.toNat := Nat.le_of_not_lt fun q => h (.inl (UInt64.lt_iff_toNat_lt.2 q))
  have h2 : n.toNat ≤ 1255 := Nat.le_of_not_lt fun q => h (.inr (UInt64.lt_iff_toNat_lt.2 q))
  have e : (n - 1000).toNat = n.toNat - 1000 := UInt64.toNat_sub_of_le _ _ (UInt64.le_iff_toNat_le.2 h1)
  refine ⟨h1, h2, by rw [e, i64_in _ (by omega)]; omega, fun m u hu => decide_eq_decide.2 ?_⟩
  rw [← UInt64.toNat_inj]; omega
theorem two_lens (it : Itv) (a b : Int) (h : Db.kinds (Itm.of it) a b = true) : idxOK (0 : Int) it.kids.length = true ∧ idxOK (1 : Int) it.kids.length = true := by
  have := of_decide_eq_true h
  have h2 : it.kids.length = 2 := this.2.1
  exact ⟨idx_ok (by omega) (by omega), idx_ok (by omega) (by omega)⟩
theorem kid_lens (it : Itv) (i : Nat) (m : Nat) (h : Itm.bulk (Itm.of it) ≤ m) (hi : i < it.kids.length) : (it.kids.getD i (STy.dflt .il)).text.length ≤ m ∧ (it.kids.getD i (STy.dflt .il)).bytes.length ≤ m := by
  rw [Itm.bulk_of] at h
  have h2 := Itm.bulks_at it.kids i hi
  generalize it.kids.getD i (STy.dflt .il) = x at h2 ⊢
  obtain ⟨k, n, b, t, ks⟩ := x
  simp only [Itm.bulk, Itm.text, Itm.bytes] at h2 ⊢; omega
theorem contains_two (a b : Str) : decide (0 ≤ Lib.indexByte (a ++ b) (([0] : Str).getD 0 0)) = (Utf.zero a || Utf.zero b) := by
  have e : decide (0 ≤ Lib.indexByte (a ++ b) (([0] : Str).getD 0 0)) = (a ++ b).contains 0 := indexByte_contains 0 _
  rw [e]
  unfold Utf.zero
  rw [Bool.eq_iff_iff]; simp
theorem be_take_succ (b : Str) (i : Nat) (h : i < b.length) : Cur.be (b.take (i + 1)) = shl64 (Cur.be (b.take i)) 8 ||| UInt64.ofInt ((b.getD i 0).toNat : Int) := by
  rw [be_step, List.take_succ_eq_append_getElem h, Cur.be_snoc, List.getD_eq_getElem?_getD, List.getElem?_eq_getElem h]; rfl
theorem db_small.l4_ok (b : Str) (hb : b.length = 16) (x4 : Val) : ∀ (m i : Nat) (v : Val), i + m = 16 → v.high = Cur.be (b.take (min i 8)) → v.low = Cur.be ((b.drop 8).take (i - 8)) →
    db_small.l4 true b 16 i x4 v = some [.ag (Val.cells { v with high := Cur.be (b.take 8), low := Cur.be (b.drop 8) }), .b true] := by
  intro m
  induction m with
  | zero =>
    intro i v hi hh hl
    refine db_small.l4_in _ _ _ _ _ _ ?_
    intro v1 h1 v2 h2 v3 h3 v4 h4
    rw [decide_eq_false (by omega), cond_false, db_small.j1_eq]
    rw [show min i 8 = 8 by omega] at hh
    rw [show i - 8 = 8 by omega, List.take_of_length_le (by rw [List.length_drop]; omega)] at hl
    rw [← hh, ← hl]
  | succ m ih =>
    intro i v hi hh hl
    refine db_small.l4_in _ _ _ _ _ _ ?_
    intro v1 h1 v2 h2 v3 h3 v4 h4
    rw [Int.toNat_natCast] at h1
    rw [decide_eq_true (by omega), cond_true, ck_of (idx_ok (by omega) (by omega))]
    have h8 : ((8 : UInt64)).toNat = 8 := rfl
    by_cases a : i < 8
    · rw [decide_eq_true (by omega), cond_true]
      refine db_small.j5_in _ _ _ _ _ _ ?_
      intro u1 f1
      have e : v2 ||| v3 = Cur.be (b.take (i + 1)) := by rw [h2, h3, h1, hh, h8, show min i 8 = i by omega, be_take_succ b i (by omega)]
      rw [f1, i64_in _ (by omega), show (i : Int) + 1 = ((i + 1 : Nat) : Int) by omega, ih (i + 1) _ (by omega) (by rw [show min (i + 1) 8 = i + 1 by omega]; exact e) (by rw [show i + 1 - 8 = i - 8 by omega]; exact hl)]
    · rw [decide_eq_false (by omega), cond_false]
      refine db_small.j5_in _ _ _ _ _ _ ?_
      intro u1 f1
      have e : v4 ||| v3 = Cur.be ((b.drop 8).take (i + 1 - 8)) := by
        rw [h4, h3, h1, hl, h8, show i + 1 - 8 = (i - 8) + 1 by omega, be_take_succ _ (i - 8) (by rw [List.length_drop]; omega)]
        rw [List.getD_eq_getElem?_getD, List.getD_eq_getElem?_getD, List.getElem?_drop, show 8 + (i - 8) = i by omega]
      rw [f1, i64_in _ (by omega), show (i : Int) + 1 = ((i + 1 : Nat) : Int) by omega, ih (i + 1) _ (by omega) (by rw [show min (i + 1) 8 = min i 8 by omega]; exact hh) e]
section
variable {n : UInt64} {it : Itv} {z : Val}
theorem db_small.j3_ok (x2 : Bool) (hn : ¬ (n < 1000 ∨ 1255 < n)) (h2 : x2 = decide (n = 1013 ∨ n = 1014)) (a5 : n ≠ 1005) (a7 : n ≠ 1007) (a9 : ¬ (n = 1009 ∨ n = 1018)) (a11 : n ≠ 1011) (a12 : n ≠ 1012) :
    db_small.j3 false ((n.toNat : Int) - 1000) x2 it z (Db.doc ((n.toNat : Int) - 1000) []) = some [.ag (Val.cells (Db.smallV n (Itm.of it)).1), .b (Db.smallV n (Itm.of it)).2] := by
  obtain ⟨_, _, _, E⟩ := tag_kind hn
  refine db_small.j3_in _ _ _ _ _ _ ?_
  intro v1 h1 v2 e2
  simp only [Bool.not_or_self, ck_true]
  rw [Db.smallV, if_neg hn, if_neg a5, if_neg a7, if_neg a9, if_neg a11, if_neg a12, h2, E 17 1017 rfl, E 19 1019 rfl, E 255 1255 rfl, E 127 1127 rfl]
  by_cases a : n = 1013 ∨ n = 1014
  · rw [decide_eq_true a, cond_true, if_pos a, db_small.j1_eq]; rfl
  rw [decide_eq_false a, cond_false, if_neg a]
  by_cases a : n = 1017
  · subst a
    rw [decide_eq_true rfl, cond_true, if_pos rfl, db_small.j1_eq]; rfl
  rw [decide_eq_false a, cond_false, if_neg a]
  by_cases a : n = 1019
  · subst a
    rw [decide_eq_true rfl, cond_true, if_pos rfl]
    have hv : v2 = decide (it.kind = 3 ∧ it.bytes.length = 16) := by
      rw [e2, h1, show decide ((it.bytes.length : Int) = 16) = decide (it.bytes.length = 16) from decide_eq_decide.2 (by omega)]
      by_cases x : it.kind = 3 <;> simp [x]
    by_cases c : it.kind = 3 ∧ it.bytes.length = 16
    · rw [hv, decide_eq_true c, cond_true, if_pos (show (Itm.of it).kind = 3 ∧ (Itm.of it).bytes.length = 16 from c), h1, c.2]
      exact db_small.l4_ok it.bytes c.2 z 16 0 _ (by omega) rfl rfl
    · rw [hv, decide_eq_false c, cond_false, if_neg (show ¬ ((Itm.of it).kind = 3 ∧ (Itm.of it).bytes.length = 16) from c), db_small.j1_eq]; rfl
  rw [decide_eq_false a, cond_false, if_neg a]
  have J : ∀ b : Bool, b = decide (n = 1127 ∨ n = 1255) → db_small.j6 false b it z (Db.doc ((n.toNat : Int) - 1000) []) = some [.ag (Val.cells (if n = 1127 ∨ n = 1255 then (Db.doc ((n.toNat : Int) - 1000) [], decide ((Itm.of it).kind = 8 ∧ (Itm.of it).n = 22)) else (Db.doc ((n.toNat : Int) - 1000) [], false)).1), .b (if n = 1127 ∨ n = 1255 then (Db.doc ((n.toNat : Int) - 1000) [], decide ((Itm.of it).kind = 8 ∧ (Itm.of it).n = 22)) else (Db.doc ((n.toNat : Int) - 1000) [], false)).2] := by
    intro b hb
    refine db_small.j6_in _ _ _ _ _ ?_
    intro u1 f1
    simp only [Bool.not_or_self, ck_true]
    by_cases c : n = 1127 ∨ n = 1255
    · rw [hb, decide_eq_true c, cond_true, if_pos c, db_small.j1_eq]
      have : u1 = decide ((Itm.of it).kind = 8 ∧ (Itm.of it).n = 22) := by
        rw [f1]
        show _ = decide (it.kind = 8 ∧ it.n = 22)
        by_cases x : it.kind = 8 <;> simp [x]
      rw [this]
    · rw [hb, decide_eq_false c, cond_false, if_neg c, db_small.j1_eq]
  by_cases c : n = 1255
  · rw [decide_eq_true c, cond_true]; exact J _ (by rw [decide_eq_true (.inr c)])
  · rw [decide_eq_false c, cond_false]; exact J _ (by simp [c])
theorem db_small.j2_ok (x2 : Bool) (hb : Itm.bulk (Itm.of it) ≤ 1099511627776) (hn : ¬ (n < 1000 ∨ 1255 < n)) (h2 : x2 = decide (n = 1009 ∨ n = 1018)) (a5 : n ≠ 1005) (a7 : n ≠ 1007) :
    db_small.j2 false ((n.toNat : Int) - 1000) x2 it z (Db.doc ((n.toNat : Int) - 1000) []) = some [.ag (Val.cells (Db.smallV n (Itm.of it)).1), .b (Db.smallV n (Itm.of it)).2] := by
  obtain ⟨_, _, _, E⟩ := tag_kind hn
  refine db_small.j2_in _ _ _ _ _ _ ?_
  intro v1 h1 v2 e2 v3 h3 v4 h4 v5 h5 v6 h6 v7 h7 v8 h8 v9 h9
  rw [E 11 1011 rfl, E 12 1012 rfl, E 13 1013 rfl, E 14 1014 rfl, h2]
  by_cases a9 : n = 1009 ∨ n = 1018
  · rw [decide_eq_true a9, cond_true, db_small.j1_eq, Db.smallV, if_neg hn, if_neg a5, if_neg a7, if_pos a9, e2, h1]; rfl
  rw [decide_eq_false a9, cond_false]
  have f0 : v4 = (Db.fst (Itm.of it)).text := h4
  have f1 : v5 = (Db.snd (Itm.of it)).text := h5
  have f8 : v8 = (Db.snd (Itm.of it)).bytes := h8
  by_cases a11 : n = 1011
  · subst a11
    rw [decide_eq_true rfl, cond_true, Db.smallV, if_neg (by decide), if_neg (by decide), if_neg (by decide), if_neg (by decide), if_pos rfl]
    have h6' : v6 = (v3 && !(Utf.zero v4 || Utf.zero v5)) := by rw [h6, contains_two]; cases v3 <;> rfl
    cases hk : v3 with
    | false =>
      rw [hk] at h3
      have : v6 = false := by rw [h6', hk]; rfl
      simp only [hk, this, Bool.not_false, Bool.true_or, ck_true]
      rw [if_neg (fun h => by rw [← h3] at h; exact absurd h.1 (by decide)), cond_false, db_small.j1_eq]; rfl
    | true =>
      rw [hk] at h3
      obtain ⟨i0, i1⟩ := two_lens it 4 4 h3.symm
      have l2 : it.kids.length = 2 := (of_decide_eq_true h3.symm).2.1
      have t0 := (kid_lens it 0 _ hb (by omega)).1
      have t1 := (kid_lens it 1 _ hb (by omega)).1
      have q0 : v4.length ≤ 1099511627776 := by rw [h4]; exact t0
      have q1 : v5.length ≤ 1099511627776 := by rw [h5]; exact t1
      simp only [i0, i1, Bool.and_true, Bool.and_self, Bool.not_or_self, ck_true, Bool.true_and, show decide ((([0] : Str)).length = 1) = true from rfl]
      rw [ck_of (by rw [decide_eq_true (show v4.length + v5.length ≤ 9223372036854775807 by omega)]; cases v3 <;> rfl)]
      have e6 : v6 = (!(Utf.zero v4 || Utf.zero v5)) := by rw [h6', hk]; rfl
      rw [← h3, ← f0, ← f1]
      cases z0 : Utf.zero v4 <;> cases z1 : Utf.zero v5 <;> rw [e6, z0, z1] <;> simp [db_small.j1_eq, Db.doc]
  rw [decide_eq_false a11, cond_false]
  by_cases a12 : n = 1012
  · subst a12
    rw [decide_eq_true rfl, cond_true, Db.smallV, if_neg (by decide), if_neg (by decide), if_neg (by decide), if_neg (by decide), if_neg (by decide), if_pos rfl]
    have h9' : v9 = (v7 && decide (v8.length = 12)) := by rw [h9, show decide ((v8.length : Int) = 12) = decide (v8.length = 12) from decide_eq_decide.2 (by omega)]; cases v7 <;> rfl
    cases hk : v7 with
    | false =>
      rw [hk] at h7
      have : v9 = false := by rw [h9', hk]; rfl
      simp only [hk, this, Bool.not_false, Bool.true_or, ck_true]
      rw [if_neg (fun h => by rw [← h7] at h; exact absurd h.1 (by decide)), cond_false, db_small.j1_eq]; rfl
    | true =>
      rw [hk] at h7
      obtain ⟨i0, i1⟩ := two_lens it 4 3 h7.symm
      have l2 : it.kids.length = 2 := (of_decide_eq_true h7.symm).2.1
      have t1 := (kid_lens it 1 _ hb (by omega)).2
      have q1 : v8.length ≤ 1099511627776 := by rw [h8]; exact t1
      simp only [i0, i1, Bool.and_true, Bool.and_self, Bool.not_or_self, ck_true, Bool.true_and]
      rw [ck_of (big_ap (n := v8.length) (b := 1) (by omega) (by omega)), ← h7, ← f0, ← f8]
      have e9 : v9 = decide (v8.length = 12) := by rw [h9', hk]; rfl
      by_cases c : v8.length = 12
      · rw [e9, decide_eq_true c, cond_true, if_pos ⟨rfl, c⟩, db_small.j1_eq]; rfl
      · rw [e9, decide_eq_false c, cond_false, if_neg (fun h => c h.2), db_small.j1_eq]; rfl
  rw [decide_eq_false a12, cond_false]
  have J := fun b hb' => db_small.j3_ok (it := it) (z := z) b hn hb' a5 a7 a9 a11 a12
  by_cases a13 : n = 1013
  · rw [decide_eq_true a13, cond_true]; exact J _ (by rw [decide_eq_true (.inl a13)])
  · rw [decide_eq_false a13, cond_false]; exact J _ (by simp [a13])
end
theorem db_small.goal (n : UInt64) (it : Itv) (hp : decide (Itm.bulk (Itm.of it) ≤ 1099511627776) = true) : db_small.F n it = some [.ag (Val.cells (Db.smallV n (Itm.of it)).1), .b (Db.smallV n (Itm.of it)).2] := by
  have hb := of_decide_eq_true hp
  refine db_small.F_in _ _ ?_
  intro v1 h1 v2 h2 v3 h3 v4 h4 v5 h5 v6 h6 v7 h7 v8 h8 v9 h9 v10 h10
  simp only [Bool.not_or_self, Bool.or_not_self, ck_true]
  by_cases hn : n < 1000 ∨ 1255 < n
  · rw [show v1 = true by rw [h1]; rcases hn with a | a <;> simp [a], cond_true, Db.smallV, if_pos hn]; rfl
  rw [show v1 = false by rw [h1]; simp only [not_or] at hn; simp [hn.1, hn.2], cond_false]
  obtain ⟨r1, r2, hw, E⟩ := tag_kind hn
  rw [hw] at h2
  subst h2
  rw [E 5 1005 rfl, E 7 1007 rfl, E 9 1009 rfl, E 18 1018 rfl]
  have f4 : v4 = (Db.fst (Itm.of it)).n := h4
  have f8 : v8 = (Db.snd (Itm.of it)).bytes := h8
  by_cases a5 : n = 1005
  · subst a5
    rw [decide_eq_true rfl, cond_true, Db.smallV, if_neg (by decide), if_pos rfl]
    have h6' : v6 = (v3 && (decide (1 ≤ v4) && decide (v4 ≤ 255))) := by rw [h6, h5]; cases v3 <;> cases decide ((1 : UInt64) ≤ v4) <;> rfl
    cases hk : v3 with
    | false =>
      rw [hk] at h3
      have e5 : v5 = false := by rw [h5, hk]; rfl
      have : v6 = false := by rw [h6', hk]; rfl
      simp only [hk, e5, this, Bool.not_false, Bool.true_or, ck_true]
      rw [if_neg (fun h => by rw [← h3] at h; exact absurd h.1 (by decide)), cond_false, db_small.j1_eq]; rfl
    | true =>
      rw [hk] at h3
      obtain ⟨i0, i1⟩ := two_lens it 1 3 h3.symm
      have l2 : it.kids.length = 2 := (of_decide_eq_true h3.symm).2.1
      have t1 := (kid_lens it 1 _ hb (by omega)).2
      have q1 : v8.length ≤ 1099511627776 := by rw [h8]; exact t1
      simp only [i0, i1, Bool.and_true, Bool.and_self, Bool.not_or_self, ck_true, Bool.true_and]
      rw [ck_of (big_ap (n := v8.length) (b := 1) (by omega) (by omega)), ← h3, ← f4, ← f8]
      have e6 : v6 = (decide (1 ≤ v4) && decide (v4 ≤ 255)) := by rw [h6', hk]; rfl
      have e7 : 1 ≤ v4 ∧ v4 ≤ 255 → v7 = (v4.toNat : Int) := fun h => by
        have := UInt64.le_iff_toNat_le.1 h.2
        simp at this
        rw [h7, i64_in _ (by omega)]
      by_cases c : 1 ≤ v4 <;> by_cases d : v4 ≤ 255
      · rw [e6, decide_eq_true c, decide_eq_true d, Bool.and_self, cond_true, if_pos ⟨rfl, c, d⟩, db_small.j1_eq, e7 ⟨c, d⟩]; rfl
      · rw [e6, decide_eq_false d, Bool.and_false, cond_false, if_neg (fun h => d h.2.2), db_small.j1_eq]; rfl
      · rw [e6, decide_eq_false c, Bool.false_and, cond_false, if_neg (fun h => c h.2.1), db_small.j1_eq]; rfl
      · rw [e6, decide_eq_false c, Bool.false_and, cond_false, if_neg (fun h => c h.2.1), db_small.j1_eq]; rfl
  rw [decide_eq_false a5, cond_false]
  by_cases a7 : n = 1007
  · subst a7
    have hl : it.bytes.length ≤ 1099511627776 := by rw [Itm.bulk_of] at hb; omega
    rw [decide_eq_true rfl, cond_true, ck_of (big_ap (n := it.bytes.length) (b := 1) (by omega) (by omega)), db_small.j1_eq, Db.smallV, if_neg (by decide), if_neg (by decide), if_pos rfl]
    have : v10 = decide (it.kind = 3 ∧ it.bytes.length = 12) := by
      rw [h10, h9, show decide ((it.bytes.length : Int) = 12) = decide (it.bytes.length = 12) from decide_eq_decide.2 (by omega)]
      by_cases x : it.kind = 3 <;> simp [x]
    rw [this]; rfl
  rw [decide_eq_false a7, cond_false]
  have J := fun b hb' => db_small.j2_ok (it := it) (z := Db.zero) b hb hn hb' a5 a7
  by_cases a9 : n = 1009
  · rw [decide_eq_true a9, cond_true]; exact J _ (by rw [decide_eq_true (.inl a9)])
  · rw [decide_eq_false a9, cond_false]; exact J _ (by simp [a9])
end Go.Eng
namespace Go.Eng
open Go.IntWalk
theorem Cb.own0 (it : Itv) (h : Cb.own (Itm.of it) = 0) : (1 ≤ it.kind ∧ it.kind ≤ 9) ∧ (it.kind = 3 ∨ it.kind = 4 ∨ it.kind = 5 ∨ it.kind = 6 → it.n = 0) ∧ (it.kind ≠ 3 → it.bytes = []) ∧ (it.kind ≠ 4 → it.text = []) ∧ (it.kind ≠ 5 → it.kind ≠ 6 → it.kind ≠ 7 → it.kids = []) ∧
    (it.kind = 8 → 20 ≤ it.n ∧ it.n ≤ 23) ∧ (it.kind = 6 → it.kids.length % 2 = 0) ∧ (it.kind = 7 → it.kids.length = 1) ∧ Utf.whole it.text = true := by
  obtain ⟨k, n, b, t, ks⟩ := it
  simp only [Cb.own, Itm.of] at h
  simp only
  by_cases h1 : k < 1 ∨ 9 < k
  · rw [if_pos h1] at h; cases h
  rw [if_neg h1] at h
  split at h
  · cases h
  rename_i h2
  split at h
  · cases h
  rename_i h3
  split at h
  · cases h
  rename_i h4
  split at h
  · rename_i h6
    refine ⟨by omega, ?_, ?_, ?_, ?_, ?_, ?_, ?_, h6⟩ <;> grind
  · cases h
theorem Cb.chk0 (it : Itv) (h : Cb.chk (Itm.of it) = 0) : Cb.own (Itm.of it) = 0 ∧ Cb.chks it.kids = 0 := by
  rw [Cb.chk_of] at h
  by_cases a : Cb.own (Itm.of it) = 0
  · rw [if_pos a] at h; exact ⟨a, h⟩
  · rw [if_neg a] at h; exact (a h).elim
theorem Cb.chks_cons {k : Itm} {r : List Itm} (h : Cb.chks (k :: r) = 0) : Cb.chk k = 0 ∧ Cb.chks r = 0 := by
  rw [Cb.chks] at h
  by_cases a : Cb.chk k = 0
  · rw [if_pos a] at h; exact ⟨a, h⟩
  · rw [if_neg a] at h; exact (a h).elim
theorem Cb.chks_drop : ∀ (l : List Itm) (i : Nat), Cb.chks l = 0 → Cb.chks (l.drop i) = 0
  | [], i, _ => by simp [Cb.chks]
  | k :: r, 0, h => by simpa using h
  | k :: r, i + 1, h => by simpa using Cb.chks_drop r i (Cb.chks_cons h).2
theorem Itm.bulks_drop : ∀ (l : List Itm) (i : Nat), Itm.bulks (l.drop i) ≤ Itm.bulks l
  | [], i => by simp
  | k :: r, 0 => by simp
  | k :: r, i + 1 => by
    have := Itm.bulks_drop r i
    simp only [List.drop_succ_cons, Itm.bulks]; omega
theorem Cb.chk_val (x : Itm) (h : Cb.chk x = 0) : Cb.own x = 0 ∧ Cb.chks x.kids = 0 := by
  have := Cb.chk0 x.val (by rw [Itm.of_val]; exact h)
  rw [Itm.of_val] at this; exact this
theorem Itm.bulk_val (x : Itm) : Itm.bulk x = 1 + x.bytes.length + x.text.length + Itm.bulks x.kids := by cases x; simp only [Itm.bulk, Itm.bytes, Itm.text, Itm.kids]
namespace Db
def Got.tvs (g : Got) (p : List Int) : List TV := [.ag (Val.cells g.val), .ag (Flt.cells g.flt), .sl .is p]
def Gots.app (acc : List Fld) : Gots → Gots
  | .ok r => .ok (acc ++ r)
  | .bad p => .bad p
theorem Gots.app_nil (g : Gots) : g.app [] = g := by cases g <;> simp [Gots.app]
theorem fields_step (k x : Itm) (r : List Itm) (i : Nat) (p : List Int) : fields (k :: x :: r) i p = if k.kind ≠ 4 ∨ Utf.zero k.text = true then .bad (p ++ [(i : Int)])
    else match value x (p ++ [((i + 1 : Nat) : Int)]) with
      | .bad q => .bad q
      | .ok v => (fields r (i + 2) p).app [Fld.of k.text v] := by
  rw [fields]
  split
  · rfl
  · split
    · rename_i q hq; rw [hq]
    · rename_i v hv
      rw [hv]
      simp only
      split
      · rename_i q hq; rw [hq]; rfl
      · rename_i l hl; rw [hl]; rfl
theorem elems_step (x : Itm) (r : List Itm) (i : Nat) (p : List Int) : elems (x :: r) i p = match value x (p ++ [(i : Int)]) with
      | .bad q => .bad q
      | .ok v => (elems r (i + 1) p).app [Fld.of (digs i) v] := by
  rw [elems]
  split
  · rename_i q hq; rw [hq]
  · rename_i v hv
    rw [hv]
    simp only
    split
    · rename_i q hq; rw [hq]; rfl
    · rename_i l hl; rw [hl]; rfl
theorem Gots.app_app (a b : List Fld) (g : Gots) : (g.app b).app a = g.app (a ++ b) := by cases g <;> simp [Gots.app]
theorem value_of (it : Itv) (p : List Int) : value (Itm.of it) p = if it.kind = 6 then (fields it.kids 0 p).got (doc 3 []) else if it.kind = 5 then (elems it.kids 0 p).got (doc 4 []) else if it.kind = 7 then tags it.n it.kids p else opt (leaf it.kind it.n it.bytes it.text) p := by
  rw [Itm.of, value]
theorem tagv_of (n : UInt64) (x : Itm) (p : List Int) : tagv n x p = if n = 1004 then (if x.kind = 6 ∧ ¬ regular x.kids = true then (fields x.kids 0 (p ++ [0])).got (doc 4 []) else .bad p)
    else if n = 1015 then (if kinds x 4 6 = true then pairv x.kids p else .bad p) else opt (small n x) p := by
  cases x; rw [tagv]; rfl
theorem pairv_of (l : List Itm) (p : List Int) (h : l.length = 2) : pairv l p = (fields (l.getD 1 Mp.zero).kids 0 (p ++ [0, 1])).got (doc 15 (l.getD 0 Mp.zero).text) := by
  match l, h with
  | [a, m], _ => rw [pairv]; cases m; rw [pairIn]; rfl
end Db
theorem db_with.l1_ok (n : Nat) (l : List Itm) (path : List Int) (x2 : Int) (x3 x4 x5 : UInt64) (x6 x7 : Str) (x8 : Int) (x10 : Val) (x11 : Flt) (hb : Itm.bulks l + path.length ≤ 1073741824) (hn : 2 * Itm.bulks l + 1 < n) (hc : Cb.chks l = 0) : ∀ (m i : Nat) (acc : List Fld), i + 2 * m = l.length → acc.length + m ≤ 2147483648 →
    db_with.l1 n l i x2 x3 x4 x5 x6 x7 x8 acc x10 x11 path = some (Db.Got.tvs (((Db.fields (l.drop i) i path).app acc).got ⟨x2, x3, x4, x5, x6, x7, x8, [], []⟩) path) := by
  have hlen := Itm.bulk_kids l
  intro m
  induction m with
  | zero =>
    intro i acc hi ha
    refine db_with.l1_in _ _ _ _ _ _ _ _ _ _ _ _ _ _ ?_
    intro v1 h1 v2 h2 v3 h3 v4 h4 v5 h5 v6 h6 v7 h7 v8 h8 v9 h9 v10 h10
    rw [decide_eq_false (by omega), cond_false, List.drop_of_length_le (by omega), Db.fields]
    simp only [Db.Gots.app, List.append_nil, Db.Gots.got]; rfl
  | succ m ih =>
    intro i acc hi ha
    refine db_with.l1_in _ _ _ _ _ _ _ _ _ _ _ _ _ _ ?_
    intro v1 h1 v2 h2 v3 h3 v4 h4 v5 h5 v6 h6 v7 h7 v8 h8 v9 h9 v10 h10
    have e6 : v6 = ((i + 1 : Nat) : Int) := by rw [h6, i64_in _ (by omega)]; omega
    rw [e6] at h7 h8
    rw [Int.toNat_natCast] at h1 h3
    rw [Int.toNat_natCast, Itm.of_val] at h7 h8
    have hd : l.drop i = l.getD i (STy.dflt .il) :: l.getD (i + 1) (STy.dflt .il) :: l.drop (i + 2) := by
      rw [drop_cons (show i < l.length by omega) (STy.dflt .il), drop_cons (show i + 1 < l.length by omega) (STy.dflt .il)]
    have hbd := Itm.bulks_drop l i
    have hcd := Cb.chks_drop l i hc
    rw [hd] at hbd hcd
    simp only [Itm.bulks] at hbd
    have hk1 := Itm.bulk_pos (l.getD i (STy.dflt .il))
    obtain ⟨_, hcd⟩ := Cb.chks_cons hcd
    obtain ⟨hcx, _⟩ := Cb.chks_cons hcd
    have hz : decide (0 ≤ Lib.indexByte v3 (([0] : Str).getD 0 0)) = Utf.zero v3 := indexByte_contains 0 v3
    have e2 : v2 = decide (v1 = 4) := by rw [h2, Bool.not_not]
    rw [hz] at h4
    have i0 : idxOK (i : Int) l.length = true := idx_ok (by omega) (by omega)
    rw [hd, Db.fields_step, ← h1, ← h3]
    rw [e6, Int.toNat_natCast, Itm.of_val]
    generalize l.getD (i + 1) (STy.dflt .il) = x at h7 h8 hbd hcx
    simp only [i0, show decide ((([0] : Str)).length = 1) = true from rfl, Bool.and_true, Bool.and_self, Bool.not_or_self, ck_true]
    rw [decide_eq_true (by omega), cond_true, ck_of (by rw [e2]; cases decide (v1 = 4) <;> rfl)]
    by_cases bad : v1 ≠ 4 ∨ Utf.zero v3 = true
    · have e4 : v4 = true := by
        rw [h4]
        by_cases x : v1 = 4
        · rw [decide_eq_true x, bad.resolve_left (fun h => h x)]; rfl
        · rw [decide_eq_false x]; rfl
      rw [e4, cond_true, if_pos bad, ck_of (big_ap (by simp only [List.length_singleton]; omega) (by simp only [List.length_singleton]; omega)), ck_of (decide_eq_true (by simp only [List.length_append, List.length_singleton]; omega)), h5]; rfl
    · have e4 : v4 = false := by
        simp only [not_or, Classical.not_not, ne_eq] at bad
        rw [h4, decide_eq_true bad.1, Bool.eq_false_iff.2 bad.2]; rfl
      rw [e4, cond_false, if_neg bad, ck_of (idx_ok (by omega) (by omega)), ck_of (big_ap (by simp only [List.length_singleton]; omega) (by simp only [List.length_singleton]; omega)), ck_of (by
        rw [decide_eq_true (show Itm.bulk x + (path ++ [((i + 1 : Nat) : Int)]).length ≤ 1073741824 by simp only [List.length_append, List.length_singleton]; omega), decide_eq_true hcx, decide_eq_true (show 2 * Itm.bulk x + 1 < n by omega)]; rfl)]
      cases hv : Db.value x (path ++ [((i + 1 : Nat) : Int)]) with
      | bad q =>
        rw [hv] at h8
        rw [h8]; rfl
      | ok v =>
        rw [hv] at h7 h8
        have h7' : v7 = v := h7
        have h8' : v8 = ⟨0, 0, []⟩ := h8
        rw [h8', show (!decide ((Flt.mk 0 0 []).err = 0)) = false from rfl, cond_false, ck_of (big_ap (by rw [h9]; simp only [List.length_singleton]; omega) (by rw [h9]; simp only [List.length_singleton]; omega)), h10, i64_in _ (by omega), show (i : Int) + 2 = ((i + 2 : Nat) : Int) by omega, ih (i + 2) _ (by omega) (by rw [h9]; simp only [List.length_append, List.length_singleton]; omega), h9, h7']
        simp only
        rw [Db.Gots.app_app]; rfl
theorem db_with.goal (n : Nat) (v : Val) (l : List Itm) (path : List Int) (hp : ((decide (Itm.bulks l + path.length ≤ 1073741824) && decide (Cb.chks l = 0 ∧ l.length % 2 = 0)) && decide ((2 * Itm.bulks l + 2) < n + 1)) = true) :
    db_with.F n v l path = some (Db.Got.tvs ((Db.fields l 0 path).got ⟨v.kind, v.bits, v.high, v.low, v.text, v.more, v.sub, [], []⟩) path) := by
  simp only [Bool.and_eq_true, decide_eq_true_eq] at hp
  obtain ⟨⟨hb, hc, he⟩, hn⟩ := hp
  have hlen := Itm.bulk_kids l
  rw [db_with.F_eq]
  have := db_with.l1_ok n l path v.kind v.bits v.high v.low v.text v.more v.sub Db.zero ⟨0, 0, []⟩ hb (by omega) hc (l.length / 2) 0 [] (by omega) (by simp only [List.length_nil]; omega)
  rw [List.drop_zero, Db.Gots.app_nil] at this
  exact this
theorem db_value.l3_ok (n : Nat) (l : List Itm) (path : List Int) (x3 : Val) (x4 : Flt) (x5 : Int) (x6 x7 x8 : UInt64) (x9 x10 : Str) (x11 : Int) (hb : Itm.bulks l + 1 + path.length ≤ 1073741824) (hn : 2 * Itm.bulks l + 1 < n) (hc : Cb.chks l = 0) : ∀ (m i : Nat) (acc : List Fld), i + m = l.length → acc.length + m ≤ 2147483648 →
    db_value.l3 n l (l.length : Int) i x3 x4 x5 x6 x7 x8 x9 x10 x11 acc path = some (Db.Got.tvs (((Db.elems (l.drop i) i path).app acc).got ⟨x5, x6, x7, x8, x9, x10, x11, [], []⟩) path) := by
  have hlen := Itm.bulk_kids l
  intro m
  induction m with
  | zero =>
    intro i acc hi ha
    refine db_value.l3_in _ _ _ _ _ _ _ _ _ _ _ _ _ _ _ ?_
    intro v1 h1 v2 h2 v3 h3 v4 h4
    rw [decide_eq_false (by omega), cond_false, List.drop_of_length_le (by omega), Db.elems]
    simp only [Db.Gots.app, List.append_nil, Db.Gots.got]; rfl
  | succ m ih =>
    intro i acc hi ha
    refine db_value.l3_in _ _ _ _ _ _ _ _ _ _ _ _ _ _ _ ?_
    intro v1 h1 v2 h2 v3 h3 v4 h4
    rw [Int.toNat_natCast, Itm.of_val] at h1 h2
    have hd : l.drop i = l.getD i (STy.dflt .il) :: l.drop (i + 1) := drop_cons (show i < l.length by omega) (STy.dflt .il)
    have hbd := Itm.bulks_at l i (by omega)
    have hcd := Cb.chks_drop l i hc
    rw [hd] at hcd
    obtain ⟨hcx, _⟩ := Cb.chks_cons hcd
    rw [hd, Db.elems_step, Int.toNat_natCast, Itm.of_val]
    generalize l.getD i (STy.dflt .il) = x at h1 h2 hbd hcx
    rw [decide_eq_true (by omega), cond_true, ck_of (idx_ok (by omega) (by omega)), ck_of (big_ap (by simp only [List.length_singleton]; omega) (by simp only [List.length_singleton]; omega)), ck_of (by
        rw [decide_eq_true (show Itm.bulk x + (path ++ [(i : Int)]).length ≤ 1073741824 by simp only [List.length_append, List.length_singleton]; omega), decide_eq_true hcx, decide_eq_true (show 2 * Itm.bulk x + 1 < n by omega)]; rfl)]
    cases hv : Db.value x (path ++ [(i : Int)]) with
    | bad q =>
      rw [hv] at h2
      rw [h2]; rfl
    | ok v =>
      rw [hv] at h1 h2
      have h1' : v1 = v := h1
      have h2' : v2 = ⟨0, 0, []⟩ := h2
      rw [h2', show (!decide ((Flt.mk 0 0 []).err = 0)) = false from rfl, cond_false, ck_of (decide_eq_true (by omega)), ck_of (big_ap (by rw [h3]; simp only [List.length_singleton]; omega) (by rw [h3]; simp only [List.length_singleton]; omega)), h4, i64_in _ (by omega), show (i : Int) + 1 = ((i + 1 : Nat) : Int) by omega, ih (i + 1) _ (by omega) (by rw [h3]; simp only [List.length_append, List.length_singleton]; omega), h3, h1', itoa_nat]
      simp only
      rw [Db.Gots.app_app]; rfl
theorem db_value.j2_ok (n : Nat) (x0 : Val) (x1 : Flt) (p : List Int) (h : p.length ≤ 1099511627776) : db_value.j2 n x0 x1 p = some (Db.Got.tvs (.bad p) p) := by
  rw [db_value.j2_eq, ck_of (decide_eq_true h)]; rfl
theorem Db.half_of (it : Itv) : Db.leaf it.kind it.n it.bytes it.text = if it.kind = 9 then some ⟨1, it.n, 0, 0, [], [], 0, [], []⟩ else if it.kind = 4 then some ⟨2, 0, 0, 0, it.text, [], 0, [], []⟩ else if it.kind = 3 then some ⟨5, 0, 0, 0, [], [], 0, it.bytes, []⟩
    else if it.kind = 8 then some (if it.n = 22 then ⟨10, 0, 0, 0, [], [], 0, [], []⟩ else if it.n = 23 then ⟨6, 0, 0, 0, [], [], 0, [], []⟩ else ⟨8, it.n - 20, 0, 0, [], [], 0, [], []⟩)
    else if (Db.half (Itm.of it)).2 then some (Db.half (Itm.of it)).1 else none := rfl
theorem i32_self (x : Int) : (x = IntKind.i64.wrap (IntKind.i32.wrap x)) ↔ (-2147483648 ≤ x ∧ x < 2147483648) := by
  rw [i64_i32]
  constructor
  · intro h
    have := i32_rng x
    omega
  · intro h
    have h1 := i32_rng x
    have h2 : (IntKind.i32.wrap x - x) % 4294967296 = 0 := by
      simp only [IntKind.wrap, IntKind.bits, IntKind.signed]
      simp
      omega
    omega
theorem db_value.j1_ok (n : Nat) (x1 : Bool) (it : Itv) (x3 : Val) (x4 : Flt) (p : List Int) (hb : Itm.bulk (Itm.of it) + p.length ≤ 1073741824) (hn : 2 * Itm.bulk (Itm.of it) < n) (hc : Cb.chk (Itm.of it) = 0) (h1 : x1 = decide (it.kind = 1 ∨ it.kind = 2)) (hk : it.kind ≠ 9 ∧ it.kind ≠ 4 ∧ it.kind ≠ 3 ∧ it.kind ≠ 8) :
    db_value.j1 n it.kind x1 it x3 x4 p = some (Db.Got.tvs (Db.value (Itm.of it) p) p) := by
  obtain ⟨k9, k4, k3, k8⟩ := hk
  obtain ⟨ho, hcs⟩ := Cb.chk0 it hc
  obtain ⟨c1, c2, c3, c4, c5, c6, c7, c8, c9⟩ := Cb.own0 it ho
  have hbo := hb
  rw [Itm.bulk_of] at hb hn
  have hlen := Itm.bulk_kids it.kids
  have J2 := db_value.j2_ok n x3 x4 p (by omega)
  refine db_value.j1_in _ _ _ _ _ _ _ ?_
  intro v1 e1 v2 e2 v3 e3 v4 e4 v5 e5 v6 e6 v7 e7 v8 e8 v9 e9 v10 e10
  simp only [Bool.not_or_self, Bool.and_self, ck_true]
  by_cases k12 : it.kind = 1 ∨ it.kind = 2
  · rw [h1, decide_eq_true k12, cond_true, Db.value_of, if_neg (by omega), if_neg (by omega), if_neg (by omega), Db.half_of, if_neg k9, if_neg k4, if_neg k3, if_neg k8]
    have e4' : v4 = (Db.half (Itm.of it)).2 := by
      rw [e4, e2]
      show _ = ((Db.number (Itm.of it)).isSome && decide (-2147483648 ≤ Db.numberI (Itm.of it) ∧ Db.numberI (Itm.of it) < 2147483648))
      cases hs : (Db.number (Itm.of it)).isSome with
      | false => rfl
      | true =>
        rw [Db.numberI_eq _ hs, ← e1, e3, cond_true, Bool.true_and]
        exact decide_eq_decide.2 (i32_self v1)
    cases hh : (Db.half (Itm.of it)).2 with
    | false => rw [e4', hh, cond_false, J2]; rfl
    | true =>
      have hs : (Db.number (Itm.of it)).isSome = true := by
        have : ((Db.number (Itm.of it)).isSome && decide (-2147483648 ≤ Db.numberI (Itm.of it) ∧ Db.numberI (Itm.of it) < 2147483648)) = true := hh
        simp only [Bool.and_eq_true] at this; exact this.1
      have e5' : v5 = UInt64.ofInt (Db.numberI (Itm.of it) % 4294967296) := by
        rw [e5, Db.numberI_eq _ hs, ← e1]
        congr 1
        have := u32_ofInt v1
        rw [wrap_u32'] at this
        exact this
      rw [e4', hh, cond_true, e5']; rfl
  rw [h1, decide_eq_false k12, cond_false]
  by_cases k6 : it.kind = 6
  · rw [decide_eq_true k6, cond_true, ck_of (by rw [decide_eq_true (show Itm.bulks it.kids + p.length ≤ 1073741824 by omega), decide_eq_true (show Cb.chks it.kids = 0 ∧ it.kids.length % 2 = 0 from ⟨hcs, c7 k6⟩), decide_eq_true (show 2 * Itm.bulks it.kids + 2 < n by omega)]; rfl), e6, e7, Db.value_of, if_pos k6]; rfl
  rw [decide_eq_false k6, cond_false]
  by_cases k5 : it.kind = 5
  · rw [decide_eq_true k5, cond_true, e8, Db.value_of, if_neg k6, if_pos k5]
    have := db_value.l3_ok n it.kids p x3 x4 4 0 0 0 [] [] 0 (by omega) (by omega) hcs it.kids.length 0 [] (by omega) (by simp only [List.length_nil]; omega)
    rw [List.drop_zero, Db.Gots.app_nil] at this
    exact this
  rw [decide_eq_false k5, cond_false]
  have k7 : it.kind = 7 := by omega
  rw [decide_eq_true k7, cond_true, ck_of (by rw [decide_eq_true hbo, decide_eq_true (show Cb.chk (Itm.of it) = 0 ∧ it.kind = 7 from ⟨hc, k7⟩), decide_eq_true (show 2 * Itm.bulk (Itm.of it) < n by rw [Itm.bulk_of]; exact hn)]; rfl), e9, e10]; rfl
theorem db_value.goal (n : Nat) (it : Itv) (path : List Int) (hp : ((decide (Itm.bulk (Itm.of it) + path.length ≤ 1073741824) && decide (Cb.chk (Itm.of it) = 0)) && decide ((2 * Itm.bulk (Itm.of it) + 1) < n + 1)) = true) : db_value.F n it path = some (Db.Got.tvs (Db.value (Itm.of it) path) path) := by
  simp only [Bool.and_eq_true, decide_eq_true_eq] at hp
  obtain ⟨⟨hb, hc⟩, hn⟩ := hp
  obtain ⟨ho, hcs⟩ := Cb.chk0 it hc
  obtain ⟨c1, c2, c3, c4, c5, c6, c7, c8, c9⟩ := Cb.own0 it ho
  refine db_value.F_in _ _ _ ?_
  intro v1 e1 v2 e2 v3 e3 v4 e4 v5 e5 v6 e6 v7 e7
  have L : ∀ g : Val, it.kind ≠ 6 → it.kind ≠ 5 → it.kind ≠ 7 → Db.leaf it.kind it.n it.bytes it.text = some g → Db.value (Itm.of it) path = .ok g := by
    intro g h6 h5 h7 hg
    rw [Db.value_of, if_neg h6, if_neg h5, if_neg h7, hg]; rfl
  by_cases k9 : it.kind = 9
  · rw [decide_eq_true k9, cond_true, L _ (by omega) (by omega) (by omega) (by rw [Db.half_of, if_pos k9])]; rfl
  rw [decide_eq_false k9, cond_false]
  by_cases k4 : it.kind = 4
  · rw [decide_eq_true k4, cond_true, L _ (by omega) (by omega) (by omega) (by rw [Db.half_of, if_neg k9, if_pos k4])]; rfl
  rw [decide_eq_false k4, cond_false]
  by_cases k3 : it.kind = 3
  · have hl : it.bytes.length ≤ 1073741824 := by rw [Itm.bulk_of] at hb; omega
    rw [decide_eq_true k3, cond_true, ck_of (big_ap (n := it.bytes.length) (b := 1) (by omega) (by omega)), L _ (by omega) (by omega) (by omega) (by rw [Db.half_of, if_neg k9, if_neg k4, if_pos k3])]; rfl
  rw [decide_eq_false k3, cond_false]
  by_cases k8 : it.kind = 8
  · have hu : it.n = 20 ∨ it.n = 21 ∨ it.n = 22 ∨ it.n = 23 := by
      have a := UInt64.le_iff_toNat_le.1 (c6 k8).1
      have b := UInt64.le_iff_toNat_le.1 (c6 k8).2
      simp at a b
      have : it.n.toNat = 20 ∨ it.n.toNat = 21 ∨ it.n.toNat = 22 ∨ it.n.toNat = 23 := by omega
      rcases this with h | h | h | h
      · exact .inl (UInt64.toNat_inj.1 h)
      · exact .inr (.inl (UInt64.toNat_inj.1 h))
      · exact .inr (.inr (.inl (UInt64.toNat_inj.1 h)))
      · exact .inr (.inr (.inr (UInt64.toNat_inj.1 h)))
    rw [decide_eq_true k8, cond_true, L _ (by omega) (by omega) (by omega) (by rw [Db.half_of, if_neg k9, if_neg k4, if_neg k3, if_pos k8])]
    subst e1 e2 e3 e4 e5 e6 e7
    rcases hu with h | h | h | h <;> rw [h] <;> rfl
  rw [decide_eq_false k8, cond_false]
  have J := fun b hb' => db_value.j1_ok n b it Db.zero ⟨0, 0, []⟩ path hb (by omega) hc hb' ⟨k9, k4, k3, k8⟩
  by_cases k1 : it.kind = 1
  · rw [decide_eq_true k1, cond_true]; exact J _ (by rw [decide_eq_true (.inl k1)])
  · rw [decide_eq_false k1, cond_false]; exact J _ (by simp [k1])
theorem db_tag.j1_ok (n : Nat) (x0 : Val) (x1 : Flt) (p : List Int) (h : p.length ≤ 1099511627776) : db_tag.j1 n x0 x1 p = some (Db.Got.tvs (.bad p) p) := by
  rw [db_tag.j1_eq, ck_of (decide_eq_true h)]; rfl
theorem db_tag.goal (n : Nat) (it : Itv) (path : List Int) (hp : ((decide (Itm.bulk (Itm.of it) + path.length ≤ 1073741824) && decide (Cb.chk (Itm.of it) = 0 ∧ it.kind = 7)) && decide ((2 * Itm.bulk (Itm.of it)) < n + 1)) = true) : db_tag.F n it path = some (Db.Got.tvs (Db.value (Itm.of it) path) path) := by
  simp only [Bool.and_eq_true, decide_eq_true_eq] at hp
  obtain ⟨⟨hb, hc, k7⟩, hn⟩ := hp
  obtain ⟨ho, hcs⟩ := Cb.chk0 it hc
  have c8 := (Cb.own0 it ho).2.2.2.2.2.2.2.1 k7
  obtain ⟨x, hx⟩ : ∃ x, it.kids = [x] := by
    match h : it.kids, c8 with
    | [x], _ => exact ⟨x, rfl⟩
  rw [Itm.bulk_of, hx] at hb hn
  simp only [Itm.bulks] at hb hn
  rw [hx] at hcs
  obtain ⟨hcx, _⟩ := Cb.chks_cons hcs
  obtain ⟨hox, hcsx⟩ := Cb.chk_val x hcx
  have ox := Cb.own0 x.val (by rw [Itm.of_val]; exact hox)
  have hbx := Itm.bulk_val x
  have hlx := Itm.bulk_kids x.kids
  have J := db_tag.j1_ok n Db.zero ⟨0, 0, []⟩ path (by omega)
  have ev : Db.value (Itm.of it) path = Db.tagv it.n x path := by
    rw [Db.value_of, if_neg (by omega), if_neg (by omega), if_pos k7, hx, Db.tags]
  rw [ev, Db.tagv_of]
  refine db_tag.F_in _ _ _ ?_
  intro v1 e1 v2 e2 v3 e3 v4 e4 v5 e5 v6 e6 v7 e7 v8 e8 v9 e9 v10 e10 v11 e11 v12 e12 v13 e13 v14 e14
  have hg : it.kids.getD (0 : Int).toNat (STy.dflt .il) = x := by rw [hx]; rfl
  rw [hg] at e1 e2
  rw [hg, Itm.of_val] at e7 e13 e14
  rw [hg, Itm.of_val]
  rw [ck_of (idx_ok (by omega) (by omega))]
  have l2 : v2.length ≤ 1099511627776 := by rw [e2]; omega
  simp only [decide_eq_true l2, Bool.and_true, Bool.not_or_self, ck_true]
  by_cases a4 : it.n = 1004
  · rw [decide_eq_true a4, cond_true, if_pos a4]
    by_cases c : x.kind = 6 ∧ ¬ Db.regular x.kids = true
    · have e3' : v3 = true := by rw [e3, e1, e2, decide_eq_true c.1, Bool.eq_false_iff.2 c.2]; rfl
      have he : x.kids.length % 2 = 0 := ox.2.2.2.2.2.2.1 c.1
      rw [e3', cond_true, if_pos c, ck_of (big_ap (by simp only [List.length_singleton]; omega) (by simp only [List.length_singleton]; omega)), e2, e4, ck_of (by
        rw [decide_eq_true (show Itm.bulks x.kids + (path ++ [(0 : Int)]).length ≤ 1073741824 by simp only [List.length_append, List.length_singleton]; omega), decide_eq_true (show Cb.chks x.kids = 0 ∧ x.kids.length % 2 = 0 from ⟨hcsx, he⟩), decide_eq_true (show 2 * Itm.bulks x.kids + 2 < n by omega)]; rfl), e5, e6, e2, e4]; rfl
    · have e3' : v3 = false := by
        rw [e3, e1, e2]
        by_cases q : x.kind = 6
        · rw [decide_eq_true q]
          have : Db.regular x.kids = true := Classical.byContradiction fun h => c ⟨q, h⟩
          rw [this]; rfl
        · rw [decide_eq_false q]; rfl
      rw [e3', cond_false, if_neg c]; exact J
  rw [decide_eq_false a4, cond_false, if_neg a4]
  by_cases a15 : it.n = 1015
  · rw [decide_eq_true a15, cond_true, if_pos a15]
    by_cases c : Db.kinds x 4 6 = true
    · have hk := of_decide_eq_true c
      have hlen2 : x.kids.length = 2 := hk.2.1
      obtain ⟨a, m, hkids⟩ : ∃ a m, x.kids = [a, m] := by
        match h : x.kids, hlen2 with
        | [a, m], _ => exact ⟨a, m, rfl⟩
      have hm6 : m.kind = 6 := by have := hk.2.2.2; rw [Db.snd, hkids] at this; exact this
      have hcm : Cb.chk m = 0 := by
        rw [hkids] at hcsx
        exact (Cb.chks_cons (Cb.chks_cons hcsx).2).1
      obtain ⟨hom, hcsm⟩ := Cb.chk_val m hcm
      have om := Cb.own0 m.val (by rw [Itm.of_val]; exact hom)
      have he : m.kids.length % 2 = 0 := om.2.2.2.2.2.2.1 hm6
      have hbm := Itm.bulk_val m
      have hb2 : Itm.bulks x.kids = Itm.bulk a + (Itm.bulk m + 0) := by rw [hkids]; rfl
      have ha1 := Itm.bulk_pos a
      have e9' : v9 = m.kids := by rw [e9, e2, hkids]; rfl
      have e8' : v8 = a.text := by rw [e8, e2, hkids]; rfl
      have i0 : idxOK (0 : Int) v2.length = true := by rw [e2]; exact idx_ok (by omega) (by omega)
      have i1 : idxOK (1 : Int) v2.length = true := by rw [e2]; exact idx_ok (by omega) (by omega)
      rw [e7, show Db.kinds x ((4 : Int)) ((6 : Int)) = true from c, cond_true, if_pos rfl, Db.pairv_of _ _ hlen2, ck_of i0, ck_of i1, ck_of (big_ap (by rw [e10]; simp only [List.length_cons, List.length_nil]; omega) (by rw [e10]; simp only [List.length_cons, List.length_nil]; omega)), e9', e10, ck_of (by
        rw [decide_eq_true (show Itm.bulks m.kids + (path ++ [(0 : Int), (1 : Int)]).length ≤ 1073741824 by simp only [List.length_append, List.length_cons, List.length_nil]; omega), decide_eq_true (show Cb.chks m.kids = 0 ∧ m.kids.length % 2 = 0 from ⟨hcsm, he⟩), decide_eq_true (show 2 * Itm.bulks m.kids + 2 < n by omega)]; rfl), e11, e12, e9', e8', e10, hkids]; rfl
    · rw [e7, show Db.kinds x ((4 : Int)) ((6 : Int)) = false from Bool.eq_false_iff.2 c, cond_false, if_neg (by decide)]; exact J
  rw [decide_eq_false a15, cond_false, if_neg a15, ck_of (decide_eq_true (by omega)), Db.small, e13, e14]
  cases (Db.smallV it.n x).2 with
  | true => rw [cond_true]; rfl
  | false => rw [cond_false]; exact J
theorem db_Value.goal (it : Itv) (hp : decide (Itm.bulk (Itm.of it) ≤ 1073741824) = true) : db_Value.F it = some [.ag (Val.cells (Db.dec (Itm.of it)).1), .ag (Flt.cells (Db.dec (Itm.of it)).2)] := by
  have hb := of_decide_eq_true hp
  refine db_Value.F_in _ ?_
  intro v1 e1 v2 e2 v3 e3
  rw [ck_of (decide_eq_true (by omega)), Db.dec]
  by_cases a : Cb.chk (Itm.of it) = 0
  · rw [decide_eq_true a, Bool.not_true, cond_false, if_neg (fun h => h a)]
    obtain ⟨ho, hcs⟩ := Cb.chk0 it a
    by_cases k6 : it.kind = 6
    · have he := (Cb.own0 it ho).2.2.2.2.2.2.1 k6
      rw [Itm.bulk_of] at hb
      rw [decide_eq_true k6, Bool.not_true, cond_false, if_neg (show ¬ (Itm.of it).kind ≠ 6 from fun h => h k6), ck_of (by rw [decide_eq_true (show Itm.bulks it.kids + ([] : List Int).length ≤ 1073741824 by simp only [List.length_nil]; omega), decide_eq_true (show Cb.chks it.kids = 0 ∧ it.kids.length % 2 = 0 from ⟨hcs, he⟩)]; rfl), e2, e3, Db.value_of, if_pos k6]; rfl
    · rw [decide_eq_false k6, Bool.not_false, cond_true, if_pos (show (Itm.of it).kind ≠ 6 from k6), e1]; rfl
  · rw [decide_eq_false a, Bool.not_false, cond_true, if_pos a]; rfl
end Go.Eng
namespace Go.Eng
open Go.IntWalk
theorem law30_awake.goal : law30_awake.F = some [.b true] := by
  refine law30_awake.F_in ?_
  intro v1 h1 v2 h2 v3 h3 v4 h4 v5 h5 v6 h6 v7 h7 v8 h8 v9 h9 v10 h10 v11 h11 v12 h12 v13 h13 v14 h14 v15 h15
  subst h1
  have e2 : v2.err = 0 := by rw [h2]; decide +kernel
  have e4 : v4.err = 12 := by rw [h4]; decide +kernel
  have e5 : v5 = 6 := by rw [h5]; decide +kernel
  have e7 : v7.length = 2 := by rw [h7]; decide +kernel
  have e9 : v9 = [97] := by rw [h9, h7]; decide +kernel
  have e11 : v11 = 7 := by rw [h11, h7]; decide +kernel
  have e13 : v13 = 1018 := by rw [h13, h7]; decide +kernel
  have t6 : v6 = true := by rw [h6, e2, e5]; rfl
  have t8 : v8 = true := by rw [h8, t6, e7]; rfl
  have t10 : v10 = true := by rw [h10, t8, e9]; rfl
  have t12 : v12 = true := by rw [h12, t10, e11]; rfl
  have t14 : v14 = true := by rw [h14, t12, e13]; rfl
  have t15 : v15 = true := by rw [h15, t14, e4]; rfl
  have i0 : idxOK (0 : Int) v7.length = true := by rw [e7]; rfl
  have i1 : idxOK (1 : Int) v7.length = true := by rw [e7]; rfl
  rw [ck_of (by decide +kernel), ck_of (by decide +kernel)]
  simp only [i0, i1, t15, Bool.and_true, Bool.not_or_self, ck_true]
end Go.Eng
namespace Go.Eng
theorem utf_is.fit (r : Int) : ([.i .i64 r] : List TV).length = utf_is.d.np ∧ utf_is.d.run (envL trydbGl utf_is.env) [.i .i64 r] = some (([(.b (Utf.isRune r))] : List TV) ++ utf_is.d.ps.toList.map fun q => ([.i .i64 r] : List TV).getD q.1 .dead) :=
  ⟨by kernel_rfl, Eq.trans (b := utf_is.F r) (by kernel_rfl) (Eq.trans (utf_is.goal r) (by kernel_rfl))⟩
theorem utf_is.ok : SpecOK Go.Proofs.Tryd.prog (fun n => (trydbGl n).av) 94 (Ctr.fs (utf_is.c, utf_is.sg)) :=
  meets (l := utf_is.env) all_nil utf_is.chk (by
      intro ins outs h
      unfold utf_is.c at h
      split at h
      · cases h; exact utf_is.fit _
      · exact h.elim)
theorem utf_Rune.fit (b : List UInt8) (at_ : Int) (hp : (decide (b.length ≤ 1099511627776)) = true) : ([.sl .bs b, .i .i64 at_] : List TV).length = utf_Rune.d.np ∧ utf_Rune.d.run (envL trydbGl utf_Rune.env) [.sl .bs b, .i .i64 at_] = some (([(.i .i64 ((Utf.runeAt b at_).1)), (.i .i64 ((Utf.runeAt b at_).2))] : List TV) ++ utf_Rune.d.ps.toList.map fun q => ([.sl .bs b, .i .i64 at_] : List TV).getD q.1 .dead) :=
  ⟨by kernel_rfl, Eq.trans (b := utf_Rune.F b at_) (by kernel_rfl) (Eq.trans (utf_Rune.goal b at_ hp) (by kernel_rfl))⟩
theorem utf_Rune.ok : SpecOK Go.Proofs.Tryd.prog (fun n => (trydbGl n).av) 84 (Ctr.fs (utf_Rune.c, utf_Rune.sg)) :=
  meets (l := utf_Rune.env) (all_cons utf_is.ok all_nil) utf_Rune.chk (by
      intro ins outs h
      unfold utf_Rune.c at h
      split at h
      · obtain ⟨hp, rfl⟩ := h; exact utf_Rune.fit _ _ hp
      · exact h.elim)
theorem utf_look.fit (b : List UInt8) (hp : (decide (b.length ≤ 1099511627776)) = true) : ([.sl .bs b] : List TV).length = utf_look.d.np ∧ utf_look.d.run (envL trydbGl utf_look.env) [.sl .bs b] = some (([(.i .i64 (((Utf.look b).1 : Int))), (.i .i64 (((Utf.look b).2 : Int)))] : List TV) ++ utf_look.d.ps.toList.map fun q => ([.sl .bs b] : List TV).getD q.1 .dead) :=
  ⟨by kernel_rfl, Eq.trans (b := utf_look.F b) (by kernel_rfl) (Eq.trans (utf_look.goal b hp) (by kernel_rfl))⟩
theorem utf_look.ok : SpecOK Go.Proofs.Tryd.prog (fun n => (trydbGl n).av) 67 (Ctr.fs (utf_look.c, utf_look.sg)) :=
  meets (l := utf_look.env) (all_cons utf_Rune.ok all_nil) utf_look.chk (by
      intro ins outs h
      unfold utf_look.c at h
      split at h
      · obtain ⟨hp, rfl⟩ := h; exact utf_look.fit _ hp
      · exact h.elim)
theorem utf_Check.fit (b : List UInt8) (hp : (decide (b.length ≤ 1099511627776)) = true) : ([.sl .bs b] : List TV).length = utf_Check.d.np ∧ utf_Check.d.run (envL trydbGl utf_Check.env) [.sl .bs b] = some (([(.i .i64 (((Utf.look b).1 : Int))), (.b (Utf.whole b))] : List TV) ++ utf_Check.d.ps.toList.map fun q => ([.sl .bs b] : List TV).getD q.1 .dead) :=
  ⟨by kernel_rfl, Eq.trans (b := utf_Check.F b) (by kernel_rfl) (Eq.trans (utf_Check.goal b hp) (by kernel_rfl))⟩
theorem utf_Check.ok : SpecOK Go.Proofs.Tryd.prog (fun n => (trydbGl n).av) 41 (Ctr.fs (utf_Check.c, utf_Check.sg)) :=
  meets (l := utf_Check.env) (all_cons utf_look.ok all_nil) utf_Check.chk (by
      intro ins outs h
      unfold utf_Check.c at h
      split at h
      · obtain ⟨hp, rfl⟩ := h; exact utf_Check.fit _ hp
      · exact h.elim)
theorem ref2_Rune.fit (b : List UInt8) (at_ : Int) (hp : (decide (b.length ≤ 1099511627776)) = true) : ([.sl .bs b, .i .i64 at_] : List TV).length = ref2_Rune.d.np ∧ ref2_Rune.d.run (envL trydbGl ref2_Rune.env) [.sl .bs b, .i .i64 at_] = some (([(.i .i64 ((Utf.runeAt b at_).1)), (.i .i64 ((Utf.runeAt b at_).2))] : List TV) ++ ref2_Rune.d.ps.toList.map fun q => ([.sl .bs b, .i .i64 at_] : List TV).getD q.1 .dead) :=
  ⟨by kernel_rfl, Eq.trans (b := ref2_Rune.F b at_) (by kernel_rfl) (Eq.trans (ref2_Rune.goal b at_ hp) (by kernel_rfl))⟩
theorem ref2_Rune.ok : SpecOK Go.Proofs.Tryd.prog (fun n => (trydbGl n).av) 92 (Ctr.fs (ref2_Rune.c, ref2_Rune.sg)) :=
  meets (l := ref2_Rune.env) all_nil ref2_Rune.chk (by
      intro ins outs h
      unfold ref2_Rune.c at h
      split at h
      · obtain ⟨hp, rfl⟩ := h; exact ref2_Rune.fit _ _ hp
      · exact h.elim)
theorem ref2_Check.fit (b : List UInt8) (hp : (decide (b.length ≤ 1099511627776)) = true) : ([.sl .bs b] : List TV).length = ref2_Check.d.np ∧ ref2_Check.d.run (envL trydbGl ref2_Check.env) [.sl .bs b] = some (([(.i .i64 (((Utf.look b).1 : Int))), (.b (Utf.whole b))] : List TV) ++ ref2_Check.d.ps.toList.map fun q => ([.sl .bs b] : List TV).getD q.1 .dead) :=
  ⟨by kernel_rfl, Eq.trans (b := ref2_Check.F b) (by kernel_rfl) (Eq.trans (ref2_Check.goal b hp) (by kernel_rfl))⟩
theorem ref2_Check.ok : SpecOK Go.Proofs.Tryd.prog (fun n => (trydbGl n).av) 78 (Ctr.fs (ref2_Check.c, ref2_Check.sg)) :=
  meets (l := ref2_Check.env) (all_cons ref2_Rune.ok all_nil) ref2_Check.chk (by
      intro ins outs h
      unfold ref2_Check.c at h
      split at h
      · obtain ⟨hp, rfl⟩ := h; exact ref2_Check.fit _ hp
      · exact h.elim)
theorem ref2_Whole.fit (s : Str) (hp : (decide (s.length ≤ 1099511627776)) = true) : ([.s s] : List TV).length = ref2_Whole.d.np ∧ ref2_Whole.d.run (envL trydbGl ref2_Whole.env) [.s s] = some (([(.b (Utf.whole s))] : List TV) ++ ref2_Whole.d.ps.toList.map fun q => ([.s s] : List TV).getD q.1 .dead) :=
  ⟨by kernel_rfl, Eq.trans (b := ref2_Whole.F s) (by kernel_rfl) (Eq.trans (ref2_Whole.goal s hp) (by kernel_rfl))⟩
theorem ref2_Whole.ok : SpecOK Go.Proofs.Tryd.prog (fun n => (trydbGl n).av) 48 (Ctr.fs (ref2_Whole.c, ref2_Whole.sg)) :=
  meets (l := ref2_Whole.env) (all_cons ref2_Check.ok all_nil) ref2_Whole.chk (by
      intro ins outs h
      unfold ref2_Whole.c at h
      split at h
      · obtain ⟨hp, rfl⟩ := h; exact ref2_Whole.fit _ hp
      · exact h.elim)
theorem sl_IndexByte.fit (s : Str) (c : UInt8) : ([.s s, .u8 c] : List TV).length = sl_IndexByte.d.np ∧ sl_IndexByte.d.run (envL trydbGl sl_IndexByte.env) [.s s, .u8 c] = some (([(.i .i64 (Lib.indexByte s c))] : List TV) ++ sl_IndexByte.d.ps.toList.map fun q => ([.s s, .u8 c] : List TV).getD q.1 .dead) :=
  ⟨by kernel_rfl, Eq.trans (b := sl_IndexByte.F s c) (by kernel_rfl) (Eq.trans (sl_IndexByte.goal s c) (by kernel_rfl))⟩
theorem sl_IndexByte.ok : SpecOK Go.Proofs.Tryd.prog (fun n => (trydbGl n).av) 95 (Ctr.fs (sl_IndexByte.c, sl_IndexByte.sg)) :=
  meets (l := sl_IndexByte.env) all_nil sl_IndexByte.chk (by
      intro ins outs h
      unfold sl_IndexByte.c at h
      split at h
      · cases h; exact sl_IndexByte.fit _ _
      · exact h.elim)
theorem sl_Index.fit (s : Str) (t : Str) (hp : (decide (t.length = 1)) = true) : ([.s s, .s t] : List TV).length = sl_Index.d.np ∧ sl_Index.d.run (envL trydbGl sl_Index.env) [.s s, .s t] = some (([(.i .i64 (Lib.indexByte s (t.getD 0 0)))] : List TV) ++ sl_Index.d.ps.toList.map fun q => ([.s s, .s t] : List TV).getD q.1 .dead) :=
  ⟨by kernel_rfl, Eq.trans (b := sl_Index.F s t) (by kernel_rfl) (Eq.trans (sl_Index.goal s t hp) (by kernel_rfl))⟩
theorem sl_Index.ok : SpecOK Go.Proofs.Tryd.prog (fun n => (trydbGl n).av) 85 (Ctr.fs (sl_Index.c, sl_Index.sg)) :=
  meets (l := sl_Index.env) (all_cons sl_IndexByte.ok all_nil) sl_Index.chk (by
      intro ins outs h
      unfold sl_Index.c at h
      split at h
      · obtain ⟨hp, rfl⟩ := h; exact sl_Index.fit _ _ hp
      · exact h.elim)
theorem st_Index.fit (s : Str) (t : Str) (hp : (decide (t.length = 1)) = true) : ([.s s, .s t] : List TV).length = st_Index.d.np ∧ st_Index.d.run (envL trydbGl st_Index.env) [.s s, .s t] = some (([(.i .i64 (Lib.indexByte s (t.getD 0 0)))] : List TV) ++ st_Index.d.ps.toList.map fun q => ([.s s, .s t] : List TV).getD q.1 .dead) :=
  ⟨by kernel_rfl, Eq.trans (b := st_Index.F s t) (by kernel_rfl) (Eq.trans (st_Index.goal s t hp) (by kernel_rfl))⟩
theorem st_Index.ok : SpecOK Go.Proofs.Tryd.prog (fun n => (trydbGl n).av) 68 (Ctr.fs (st_Index.c, st_Index.sg)) :=
  meets (l := st_Index.env) (all_cons sl_Index.ok all_nil) st_Index.chk (by
      intro ins outs h
      unfold st_Index.c at h
      split at h
      · obtain ⟨hp, rfl⟩ := h; exact st_Index.fit _ _ hp
      · exact h.elim)
theorem st_Contains.fit (s : Str) (t : Str) (hp : (decide (t.length = 1)) = true) : ([.s s, .s t] : List TV).length = st_Contains.d.np ∧ st_Contains.d.run (envL trydbGl st_Contains.env) [.s s, .s t] = some (([(.b (decide (0 ≤ Lib.indexByte s (t.getD 0 0))))] : List TV) ++ st_Contains.d.ps.toList.map fun q => ([.s s, .s t] : List TV).getD q.1 .dead) :=
  ⟨by kernel_rfl, Eq.trans (b := st_Contains.F s t) (by kernel_rfl) (Eq.trans (st_Contains.goal s t hp) (by kernel_rfl))⟩
theorem st_Contains.ok : SpecOK Go.Proofs.Tryd.prog (fun n => (trydbGl n).av) 43 (Ctr.fs (st_Contains.c, st_Contains.sg)) :=
  meets (l := st_Contains.env) (all_cons st_Index.ok all_nil) st_Contains.chk (by
      intro ins outs h
      unfold st_Contains.c at h
      split at h
      · obtain ⟨hp, rfl⟩ := h; exact st_Contains.fit _ _ hp
      · exact h.elim)
theorem tree_Name.fit (k : Int) : ([.i .i64 k] : List TV).length = tree_Name.d.np ∧ tree_Name.d.run (envL trydbGl tree_Name.env) [.i .i64 k] = some (([(.s (Tree.name k))] : List TV) ++ tree_Name.d.ps.toList.map fun q => ([.i .i64 k] : List TV).getD q.1 .dead) :=
  ⟨by kernel_rfl, Eq.trans (b := tree_Name.F k) (by kernel_rfl) (Eq.trans (tree_Name.goal k) (by kernel_rfl))⟩
theorem tree_Name.ok : SpecOK Go.Proofs.Tryd.prog (fun n => (trydbGl n).av) 52 (Ctr.fs (tree_Name.c, tree_Name.sg)) :=
  meets (l := tree_Name.env) all_nil tree_Name.chk (by
      intro ins outs h
      unfold tree_Name.c at h
      split at h
      · cases h; exact tree_Name.fit _
      · exact h.elim)
theorem tree_fields.fit (v_kind : Int) (v_bits : UInt64) (v_high : UInt64) (v_low : UInt64) (v_text : Str) (v_more : Str) (v_sub : Int) (v_bytes : List UInt8) (v_kids : List Fld) : ([.ag [.i .i64 v_kind, .u64 v_bits, .u64 v_high, .u64 v_low, .s v_text, .s v_more, .i .i64 v_sub, .sl .bs v_bytes, .sl .fl v_kids]] : List TV).length = tree_fields.d.np ∧ tree_fields.d.run (envL trydbGl tree_fields.env) [.ag [.i .i64 v_kind, .u64 v_bits, .u64 v_high, .u64 v_low, .s v_text, .s v_more, .i .i64 v_sub, .sl .bs v_bytes, .sl .fl v_kids]] = some (([(.b (Tree.fieldsOK (Val.mk v_kind v_bits v_high v_low v_text v_more v_sub v_bytes v_kids)))] : List TV) ++ tree_fields.d.ps.toList.map fun q => ([.ag [.i .i64 v_kind, .u64 v_bits, .u64 v_high, .u64 v_low, .s v_text, .s v_more, .i .i64 v_sub, .sl .bs v_bytes, .sl .fl v_kids]] : List TV).getD q.1 .dead) :=
  ⟨by kernel_rfl, Eq.trans (b := tree_fields.F (Val.mk v_kind v_bits v_high v_low v_text v_more v_sub v_bytes v_kids)) (by kernel_rfl) (Eq.trans (tree_fields.goal (Val.mk v_kind v_bits v_high v_low v_text v_more v_sub v_bytes v_kids)) (by kernel_rfl))⟩
theorem tree_fields.ok : SpecOK Go.Proofs.Tryd.prog (fun n => (trydbGl n).av) 53 (Ctr.fs (tree_fields.c, tree_fields.sg)) :=
  meets (l := tree_fields.env) all_nil tree_fields.chk (by
      intro ins outs h
      unfold tree_fields.c at h
      split at h
      · cases h; exact tree_fields.fit _ _ _ _ _ _ _ _ _
      · exact h.elim)
theorem tree_whole.fit (s : Str) (plain : Bool) (hp : (decide (s.length ≤ 1099511627776)) = true) : ([.s s, .b plain] : List TV).length = tree_whole.d.np ∧ tree_whole.d.run (envL trydbGl tree_whole.env) [.s s, .b plain] = some (([(.b (Tree.wholeT s plain))] : List TV) ++ tree_whole.d.ps.toList.map fun q => ([.s s, .b plain] : List TV).getD q.1 .dead) :=
  ⟨by kernel_rfl, Eq.trans (b := tree_whole.F s plain) (by kernel_rfl) (Eq.trans (tree_whole.goal s plain hp) (by kernel_rfl))⟩
theorem tree_whole.ok : SpecOK Go.Proofs.Tryd.prog (fun n => (trydbGl n).av) 54 (Ctr.fs (tree_whole.c, tree_whole.sg)) :=
  meets (l := tree_whole.env) (all_cons utf_Check.ok (all_cons st_Contains.ok all_nil)) tree_whole.chk (by
      intro ins outs h
      unfold tree_whole.c at h
      split at h
      · obtain ⟨hp, rfl⟩ := h; exact tree_whole.fit _ _ hp
      · exact h.elim)
theorem tree_check.fit (n : Nat) (v_kind : Int) (v_bits : UInt64) (v_high : UInt64) (v_low : UInt64) (v_text : Str) (v_more : Str) (v_sub : Int) (v_bytes : List UInt8) (v_kids : List Fld) (name : Str) (path : List Int) (hp : ((decide (Fld.bulk (Fld.of name (Val.mk v_kind v_bits v_high v_low v_text v_more v_sub v_bytes v_kids)) + path.length ≤ 1099511627776)) && decide ((Fld.bulk (Fld.of name (Val.mk v_kind v_bits v_high v_low v_text v_more v_sub v_bytes v_kids))) < n + 1)) = true) : ([.ag [.i .i64 v_kind, .u64 v_bits, .u64 v_high, .u64 v_low, .s v_text, .s v_more, .i .i64 v_sub, .sl .bs v_bytes, .sl .fl v_kids], .s name, .sl .is path] : List TV).length = tree_check.d.np ∧ tree_check.d.run (envL trydbGl (tree_check.env n)) [.ag [.i .i64 v_kind, .u64 v_bits, .u64 v_high, .u64 v_low, .s v_text, .s v_more, .i .i64 v_sub, .sl .bs v_bytes, .sl .fl v_kids], .s name, .sl .is path] = some (([(.sl .is ((Tree.chkF (Fld.of name (Val.mk v_kind v_bits v_high v_low v_text v_more v_sub v_bytes v_kids)) path).1)), (.i .i64 ((Tree.chkF (Fld.of name (Val.mk v_kind v_bits v_high v_low v_text v_more v_sub v_bytes v_kids)) path).2))] : List TV) ++ tree_check.d.ps.toList.map fun q => ([.ag [.i .i64 v_kind, .u64 v_bits, .u64 v_high, .u64 v_low, .s v_text, .s v_more, .i .i64 v_sub, .sl .bs v_bytes, .sl .fl v_kids], .s name, .sl .is path] : List TV).getD q.1 .dead) :=
  ⟨by kernel_rfl, Eq.trans (b := tree_check.F n (Val.mk v_kind v_bits v_high v_low v_text v_more v_sub v_bytes v_kids) name path) (by kernel_rfl) (Eq.trans (tree_check.goal n (Val.mk v_kind v_bits v_high v_low v_text v_more v_sub v_bytes v_kids) name path hp) (by kernel_rfl))⟩
theorem tcheck.oks : ∀ n : Nat, (SpecOK Go.Proofs.Tryd.prog (fun n => (trydbGl n).av) 35 (Ctr.fs (tree_check.cn n, tree_check.sg))) := by
  intro n
  induction n with
  | zero => exact spec_zero (by
      intro ti to_ h
      unfold tree_check.cn at h
      split at h
      · obtain ⟨h, _⟩ := h; simp at h
      · exact h.elim)
  | succ n ih =>
    have ih0 := ih
    exact meets (l := tree_check.env n) (all_cons ih0 (all_cons clone_is.ok (all_cons tree_Name.ok (all_cons tree_fields.ok (all_cons tree_whole.ok all_nil))))) (tree_check.chk n) (by
      intro ins outs h
      unfold tree_check.cn at h
      split at h
      · obtain ⟨hp, rfl⟩ := h; exact tree_check.fit n _ _ _ _ _ _ _ _ _ _ _ hp
      · exact h.elim)
theorem tree_check.ok : SpecOK Go.Proofs.Tryd.prog (fun n => (trydbGl n).av) 35 (Ctr.fs (tree_check.c, tree_check.sg)) := spec_sub fun ti to_ h => by
  unfold tree_check.c at h
  split at h
  · obtain ⟨hp, rfl⟩ := h; exact ⟨tree_check.cn (_ + 1), (tcheck.oks _), Bool.and_eq_true_iff.2 ⟨hp, decide_eq_true (Nat.lt_succ_self _)⟩, rfl⟩
  · exact h.elim
theorem tree_Check.fit (v_kind : Int) (v_bits : UInt64) (v_high : UInt64) (v_low : UInt64) (v_text : Str) (v_more : Str) (v_sub : Int) (v_bytes : List UInt8) (v_kids : List Fld) (hp : (decide (Fld.bulk (Fld.of [] (Val.mk v_kind v_bits v_high v_low v_text v_more v_sub v_bytes v_kids)) ≤ 1099511627776)) = true) : ([.ag [.i .i64 v_kind, .u64 v_bits, .u64 v_high, .u64 v_low, .s v_text, .s v_more, .i .i64 v_sub, .sl .bs v_bytes, .sl .fl v_kids]] : List TV).length = tree_Check.d.np ∧ tree_Check.d.run (envL trydbGl tree_Check.env) [.ag [.i .i64 v_kind, .u64 v_bits, .u64 v_high, .u64 v_low, .s v_text, .s v_more, .i .i64 v_sub, .sl .bs v_bytes, .sl .fl v_kids]] = some (([(.sl .is ((Tree.chkF (Fld.of [] (Val.mk v_kind v_bits v_high v_low v_text v_more v_sub v_bytes v_kids)) []).1)), (.i .i64 ((Tree.chkF (Fld.of [] (Val.mk v_kind v_bits v_high v_low v_text v_more v_sub v_bytes v_kids)) []).2))] : List TV) ++ tree_Check.d.ps.toList.map fun q => ([.ag [.i .i64 v_kind, .u64 v_bits, .u64 v_high, .u64 v_low, .s v_text, .s v_more, .i .i64 v_sub, .sl .bs v_bytes, .sl .fl v_kids]] : List TV).getD q.1 .dead) :=
  ⟨by kernel_rfl, Eq.trans (b := tree_Check.F (Val.mk v_kind v_bits v_high v_low v_text v_more v_sub v_bytes v_kids)) (by kernel_rfl) (Eq.trans (tree_Check.goal (Val.mk v_kind v_bits v_high v_low v_text v_more v_sub v_bytes v_kids) hp) (by kernel_rfl))⟩
theorem tree_Check.ok : SpecOK Go.Proofs.Tryd.prog (fun n => (trydbGl n).av) 21 (Ctr.fs (tree_Check.c, tree_Check.sg)) :=
  meets (l := tree_Check.env) (all_cons tree_check.ok all_nil) tree_Check.chk (by
      intro ins outs h
      unfold tree_Check.c at h
      split at h
      · obtain ⟨hp, rfl⟩ := h; exact tree_Check.fit _ _ _ _ _ _ _ _ _ hp
      · exact h.elim)
theorem book_Room.fit (left : Int) (sizes : List Int) (hp : (decide (left ≤ 10000 ∧ sizes.length ≤ 10) && sizes.all (fun s => decide (0 ≤ s))) = true) : ([.i .i64 left, .sl .is sizes] : List TV).length = book_Room.d.np ∧ book_Room.d.run (envL trydbGl book_Room.env) [.i .i64 left, .sl .is sizes] = some (([(.i .i64 (Book.room left sizes))] : List TV) ++ book_Room.d.ps.toList.map fun q => ([.i .i64 left, .sl .is sizes] : List TV).getD q.1 .dead) :=
  ⟨by kernel_rfl, Eq.trans (b := book_Room.F left sizes) (by kernel_rfl) (Eq.trans (book_Room.goal left sizes hp) (by kernel_rfl))⟩
theorem book_Room.ok : SpecOK Go.Proofs.Tryd.prog (fun n => (trydbGl n).av) 34 (Ctr.fs (book_Room.c, book_Room.sg)) :=
  meets (l := book_Room.env) all_nil book_Room.chk (by
      intro ins outs h
      unfold book_Room.c at h
      split at h
      · obtain ⟨hp, rfl⟩ := h; exact book_Room.fit _ _ hp
      · exact h.elim)
theorem book_item.fit (n : Nat) (left : Int) (it_kind : Int) (it_n : UInt64) (it_bytes : List UInt8) (it_text : Str) (it_kids : List Itm) (hp : ((decide (left ≤ 10000)) && decide ((Itm.bulk (Itm.of (Itv.mk it_kind it_n it_bytes it_text it_kids))) < n + 1)) = true) : ([.i .i64 left, .ag [.i .i64 it_kind, .u64 it_n, .sl .bs it_bytes, .s it_text, .sl .il it_kids]] : List TV).length = book_item.d.np ∧ book_item.d.run (envL trydbGl (book_item.env n)) [.i .i64 left, .ag [.i .i64 it_kind, .u64 it_n, .sl .bs it_bytes, .s it_text, .sl .il it_kids]] = some (([(.i .i64 (Itm.room left (Itm.of (Itv.mk it_kind it_n it_bytes it_text it_kids))))] : List TV) ++ book_item.d.ps.toList.map fun q => ([.i .i64 left, .ag [.i .i64 it_kind, .u64 it_n, .sl .bs it_bytes, .s it_text, .sl .il it_kids]] : List TV).getD q.1 .dead) :=
  ⟨by kernel_rfl, Eq.trans (b := book_item.F n left (Itv.mk it_kind it_n it_bytes it_text it_kids)) (by kernel_rfl) (Eq.trans (book_item.goal n left (Itv.mk it_kind it_n it_bytes it_text it_kids) hp) (by kernel_rfl))⟩
theorem bitem.oks : ∀ n : Nat, (SpecOK Go.Proofs.Tryd.prog (fun n => (trydbGl n).av) 25 (Ctr.fs (book_item.cn n, book_item.sg))) := by
  intro n
  induction n with
  | zero => exact spec_zero (by
      intro ti to_ h
      unfold book_item.cn at h
      split at h
      · obtain ⟨h, _⟩ := h; simp at h
      · exact h.elim)
  | succ n ih =>
    have ih0 := ih
    exact meets (l := book_item.env n) (all_cons ih0 (all_cons book_Room.ok all_nil)) (book_item.chk n) (by
      intro ins outs h
      unfold book_item.cn at h
      split at h
      · obtain ⟨hp, rfl⟩ := h; exact book_item.fit n _ _ _ _ _ _ hp
      · exact h.elim)
theorem book_item.ok : SpecOK Go.Proofs.Tryd.prog (fun n => (trydbGl n).av) 25 (Ctr.fs (book_item.c, book_item.sg)) := spec_sub fun ti to_ h => by
  unfold book_item.c at h
  split at h
  · obtain ⟨hp, rfl⟩ := h; exact ⟨book_item.cn (_ + 1), (bitem.oks _), Bool.and_eq_true_iff.2 ⟨hp, decide_eq_true (Nat.lt_succ_self _)⟩, rfl⟩
  · exact h.elim
theorem book_SmallItem.fit (it_kind : Int) (it_n : UInt64) (it_bytes : List UInt8) (it_text : Str) (it_kids : List Itm) : ([.ag [.i .i64 it_kind, .u64 it_n, .sl .bs it_bytes, .s it_text, .sl .il it_kids]] : List TV).length = book_SmallItem.d.np ∧ book_SmallItem.d.run (envL trydbGl book_SmallItem.env) [.ag [.i .i64 it_kind, .u64 it_n, .sl .bs it_bytes, .s it_text, .sl .il it_kids]] = some (([(.b (decide (0 ≤ Itm.room 1500 (Itm.of (Itv.mk it_kind it_n it_bytes it_text it_kids)))))] : List TV) ++ book_SmallItem.d.ps.toList.map fun q => ([.ag [.i .i64 it_kind, .u64 it_n, .sl .bs it_bytes, .s it_text, .sl .il it_kids]] : List TV).getD q.1 .dead) :=
  ⟨by kernel_rfl, Eq.trans (b := book_SmallItem.F (Itv.mk it_kind it_n it_bytes it_text it_kids)) (by kernel_rfl) (Eq.trans (book_SmallItem.goal (Itv.mk it_kind it_n it_bytes it_text it_kids)) (by kernel_rfl))⟩
theorem book_SmallItem.ok : SpecOK Go.Proofs.Tryd.prog (fun n => (trydbGl n).av) 14 (Ctr.fs (book_SmallItem.c, book_SmallItem.sg)) :=
  meets (l := book_SmallItem.env) (all_cons book_item.ok all_nil) book_SmallItem.chk (by
      intro ins outs h
      unfold book_SmallItem.c at h
      split at h
      · cases h; exact book_SmallItem.fit _ _ _ _ _
      · exact h.elim)
theorem tree_Regular.fit (l : List Fld) (hp : (decide (l.length ≤ 1099511627776)) = true) : ([.sl .fl l] : List TV).length = tree_Regular.d.np ∧ tree_Regular.d.run (envL trydbGl tree_Regular.env) [.sl .fl l] = some (([(.b (Tree.regular l))] : List TV) ++ tree_Regular.d.ps.toList.map fun q => ([.sl .fl l] : List TV).getD q.1 .dead) :=
  ⟨by kernel_rfl, Eq.trans (b := tree_Regular.F l) (by kernel_rfl) (Eq.trans (tree_Regular.goal l hp) (by kernel_rfl))⟩
theorem tree_Regular.ok : SpecOK Go.Proofs.Tryd.prog (fun n => (trydbGl n).av) 55 (Ctr.fs (tree_Regular.c, tree_Regular.sg)) :=
  meets (l := tree_Regular.env) (all_cons sc_Itoa.ok all_nil) tree_Regular.chk (by
      intro ins outs h
      unfold tree_Regular.c at h
      split at h
      · obtain ⟨hp, rfl⟩ := h; exact tree_Regular.fit _ hp
      · exact h.elim)
theorem cb_fields.fit (it_kind : Int) (it_n : UInt64) (it_bytes : List UInt8) (it_text : Str) (it_kids : List Itm) (hp : (decide (Itm.bulk (Itm.of (Itv.mk it_kind it_n it_bytes it_text it_kids)) ≤ 1099511627776)) = true) : ([.ag [.i .i64 it_kind, .u64 it_n, .sl .bs it_bytes, .s it_text, .sl .il it_kids]] : List TV).length = cb_fields.d.np ∧ cb_fields.d.run (envL trydbGl cb_fields.env) [.ag [.i .i64 it_kind, .u64 it_n, .sl .bs it_bytes, .s it_text, .sl .il it_kids]] = some (([(.b (Cb.fieldsOK (Itm.of (Itv.mk it_kind it_n it_bytes it_text it_kids))))] : List TV) ++ cb_fields.d.ps.toList.map fun q => ([.ag [.i .i64 it_kind, .u64 it_n, .sl .bs it_bytes, .s it_text, .sl .il it_kids]] : List TV).getD q.1 .dead) :=
  ⟨by kernel_rfl, Eq.trans (b := cb_fields.F (Itv.mk it_kind it_n it_bytes it_text it_kids)) (by kernel_rfl) (Eq.trans (cb_fields.goal (Itv.mk it_kind it_n it_bytes it_text it_kids) hp) (by kernel_rfl))⟩
theorem cb_fields.ok : SpecOK Go.Proofs.Tryd.prog (fun n => (trydbGl n).av) 40 (Ctr.fs (cb_fields.c, cb_fields.sg)) :=
  meets (l := cb_fields.env) all_nil cb_fields.chk (by
      intro ins outs h
      unfold cb_fields.c at h
      split at h
      · obtain ⟨hp, rfl⟩ := h; exact cb_fields.fit _ _ _ _ _ hp
      · exact h.elim)
theorem cb_Check.fit (n : Nat) (it_kind : Int) (it_n : UInt64) (it_bytes : List UInt8) (it_text : Str) (it_kids : List Itm) (hp : ((decide (Itm.bulk (Itm.of (Itv.mk it_kind it_n it_bytes it_text it_kids)) ≤ 1099511627776)) && decide ((Itm.bulk (Itm.of (Itv.mk it_kind it_n it_bytes it_text it_kids))) < n + 1)) = true) : ([.ag [.i .i64 it_kind, .u64 it_n, .sl .bs it_bytes, .s it_text, .sl .il it_kids]] : List TV).length = cb_Check.d.np ∧ cb_Check.d.run (envL trydbGl (cb_Check.env n)) [.ag [.i .i64 it_kind, .u64 it_n, .sl .bs it_bytes, .s it_text, .sl .il it_kids]] = some (([(.i .i64 (Cb.chk (Itm.of (Itv.mk it_kind it_n it_bytes it_text it_kids))))] : List TV) ++ cb_Check.d.ps.toList.map fun q => ([.ag [.i .i64 it_kind, .u64 it_n, .sl .bs it_bytes, .s it_text, .sl .il it_kids]] : List TV).getD q.1 .dead) :=
  ⟨by kernel_rfl, Eq.trans (b := cb_Check.F n (Itv.mk it_kind it_n it_bytes it_text it_kids)) (by kernel_rfl) (Eq.trans (cb_Check.goal n (Itv.mk it_kind it_n it_bytes it_text it_kids) hp) (by kernel_rfl))⟩
theorem ccheck.oks : ∀ n : Nat, (SpecOK Go.Proofs.Tryd.prog (fun n => (trydbGl n).av) 26 (Ctr.fs (cb_Check.cn n, cb_Check.sg))) := by
  intro n
  induction n with
  | zero => exact spec_zero (by
      intro ti to_ h
      unfold cb_Check.cn at h
      split at h
      · obtain ⟨h, _⟩ := h; simp at h
      · exact h.elim)
  | succ n ih =>
    have ih0 := ih
    exact meets (l := cb_Check.env n) (all_cons ih0 (all_cons cb_fields.ok (all_cons utf_Check.ok all_nil))) (cb_Check.chk n) (by
      intro ins outs h
      unfold cb_Check.cn at h
      split at h
      · obtain ⟨hp, rfl⟩ := h; exact cb_Check.fit n _ _ _ _ _ hp
      · exact h.elim)
theorem cb_Check.ok : SpecOK Go.Proofs.Tryd.prog (fun n => (trydbGl n).av) 26 (Ctr.fs (cb_Check.c, cb_Check.sg)) := spec_sub fun ti to_ h => by
  unfold cb_Check.c at h
  split at h
  · obtain ⟨hp, rfl⟩ := h; exact ⟨cb_Check.cn (_ + 1), (ccheck.oks _), Bool.and_eq_true_iff.2 ⟨hp, decide_eq_true (Nat.lt_succ_self _)⟩, rfl⟩
  · exact h.elim
theorem ref28_own.fit (it_kind : Int) (it_n : UInt64) (it_bytes : List UInt8) (it_text : Str) (it_kids : List Itm) (hp : (decide (Itm.bulk (Itm.of (Itv.mk it_kind it_n it_bytes it_text it_kids)) ≤ 1099511627776)) = true) : ([.ag [.i .i64 it_kind, .u64 it_n, .sl .bs it_bytes, .s it_text, .sl .il it_kids]] : List TV).length = ref28_own.d.np ∧ ref28_own.d.run (envL trydbGl ref28_own.env) [.ag [.i .i64 it_kind, .u64 it_n, .sl .bs it_bytes, .s it_text, .sl .il it_kids]] = some (([(.i .i64 (Cb.own (Itm.of (Itv.mk it_kind it_n it_bytes it_text it_kids))))] : List TV) ++ ref28_own.d.ps.toList.map fun q => ([.ag [.i .i64 it_kind, .u64 it_n, .sl .bs it_bytes, .s it_text, .sl .il it_kids]] : List TV).getD q.1 .dead) :=
  ⟨by kernel_rfl, Eq.trans (b := ref28_own.F (Itv.mk it_kind it_n it_bytes it_text it_kids)) (by kernel_rfl) (Eq.trans (ref28_own.goal (Itv.mk it_kind it_n it_bytes it_text it_kids) hp) (by kernel_rfl))⟩
theorem ref28_own.ok : SpecOK Go.Proofs.Tryd.prog (fun n => (trydbGl n).av) 32 (Ctr.fs (ref28_own.c, ref28_own.sg)) :=
  meets (l := ref28_own.env) (all_cons ref2_Whole.ok all_nil) ref28_own.chk (by
      intro ins outs h
      unfold ref28_own.c at h
      split at h
      · obtain ⟨hp, rfl⟩ := h; exact ref28_own.fit _ _ _ _ _ hp
      · exact h.elim)
theorem ref28_Check.fit (n : Nat) (it_kind : Int) (it_n : UInt64) (it_bytes : List UInt8) (it_text : Str) (it_kids : List Itm) (hp : ((decide (Itm.bulk (Itm.of (Itv.mk it_kind it_n it_bytes it_text it_kids)) ≤ 1099511627776)) && decide ((Itm.bulk (Itm.of (Itv.mk it_kind it_n it_bytes it_text it_kids))) < n + 1)) = true) : ([.ag [.i .i64 it_kind, .u64 it_n, .sl .bs it_bytes, .s it_text, .sl .il it_kids]] : List TV).length = ref28_Check.d.np ∧ ref28_Check.d.run (envL trydbGl (ref28_Check.env n)) [.ag [.i .i64 it_kind, .u64 it_n, .sl .bs it_bytes, .s it_text, .sl .il it_kids]] = some (([(.i .i64 (Cb.chk (Itm.of (Itv.mk it_kind it_n it_bytes it_text it_kids))))] : List TV) ++ ref28_Check.d.ps.toList.map fun q => ([.ag [.i .i64 it_kind, .u64 it_n, .sl .bs it_bytes, .s it_text, .sl .il it_kids]] : List TV).getD q.1 .dead) :=
  ⟨by kernel_rfl, Eq.trans (b := ref28_Check.F n (Itv.mk it_kind it_n it_bytes it_text it_kids)) (by kernel_rfl) (Eq.trans (ref28_Check.goal n (Itv.mk it_kind it_n it_bytes it_text it_kids) hp) (by kernel_rfl))⟩
theorem rcheck28.oks : ∀ n : Nat, (SpecOK Go.Proofs.Tryd.prog (fun n => (trydbGl n).av) 18 (Ctr.fs (ref28_Check.cn n, ref28_Check.sg))) := by
  intro n
  induction n with
  | zero => exact spec_zero (by
      intro ti to_ h
      unfold ref28_Check.cn at h
      split at h
      · obtain ⟨h, _⟩ := h; simp at h
      · exact h.elim)
  | succ n ih =>
    have ih0 := ih
    exact meets (l := ref28_Check.env n) (all_cons ih0 (all_cons ref28_own.ok all_nil)) (ref28_Check.chk n) (by
      intro ins outs h
      unfold ref28_Check.cn at h
      split at h
      · obtain ⟨hp, rfl⟩ := h; exact ref28_Check.fit n _ _ _ _ _ hp
      · exact h.elim)
theorem ref28_Check.ok : SpecOK Go.Proofs.Tryd.prog (fun n => (trydbGl n).av) 18 (Ctr.fs (ref28_Check.c, ref28_Check.sg)) := spec_sub fun ti to_ h => by
  unfold ref28_Check.c at h
  split at h
  · obtain ⟨hp, rfl⟩ := h; exact ⟨ref28_Check.cn (_ + 1), (rcheck28.oks _), Bool.and_eq_true_iff.2 ⟨hp, decide_eq_true (Nat.lt_succ_self _)⟩, rfl⟩
  · exact h.elim
theorem db_text.fit (s : Str) : ([.s s] : List TV).length = db_text.d.np ∧ db_text.d.run (envL trydbGl db_text.env) [.s s] = some (([(.ag (Itv.cells (Itm.val (Db.text s))))] : List TV) ++ db_text.d.ps.toList.map fun q => ([.s s] : List TV).getD q.1 .dead) :=
  ⟨by kernel_rfl, Eq.trans (b := db_text.F s) (by kernel_rfl) (Eq.trans (db_text.goal s) (by kernel_rfl))⟩
theorem db_text.ok : SpecOK Go.Proofs.Tryd.prog (fun n => (trydbGl n).av) 36 (Ctr.fs (db_text.c, db_text.sg)) :=
  meets (l := db_text.env) all_nil db_text.chk (by
      intro ins outs h
      unfold db_text.c at h
      split at h
      · cases h; exact db_text.fit _
      · exact h.elim)
theorem db_raw.fit (b : List UInt8) (hp : (decide ((b).length ≤ 1099511627776)) = true) : ([.sl .bs b] : List TV).length = db_raw.d.np ∧ db_raw.d.run (envL trydbGl db_raw.env) [.sl .bs b] = some (([(.ag (Itv.cells (Itm.val (Db.raw b))))] : List TV) ++ db_raw.d.ps.toList.map fun q => ([.sl .bs b] : List TV).getD q.1 .dead) :=
  ⟨by kernel_rfl, Eq.trans (b := db_raw.F b) (by kernel_rfl) (Eq.trans (db_raw.goal b hp) (by kernel_rfl))⟩
theorem db_raw.ok : SpecOK Go.Proofs.Tryd.prog (fun n => (trydbGl n).av) 57 (Ctr.fs (db_raw.c, db_raw.sg)) :=
  meets (l := db_raw.env) (all_cons clone_bs.ok all_nil) db_raw.chk (by
      intro ins outs h
      unfold db_raw.c at h
      split at h
      · obtain ⟨hp, rfl⟩ := h; exact db_raw.fit _ hp
      · exact h.elim)
theorem db_plus.fit (n : UInt64) : ([.u64 n] : List TV).length = db_plus.d.np ∧ db_plus.d.run (envL trydbGl db_plus.env) [.u64 n] = some (([(.ag (Itv.cells (Itm.val (Db.plus n))))] : List TV) ++ db_plus.d.ps.toList.map fun q => ([.u64 n] : List TV).getD q.1 .dead) :=
  ⟨by kernel_rfl, Eq.trans (b := db_plus.F n) (by kernel_rfl) (Eq.trans (db_plus.goal n) (by kernel_rfl))⟩
theorem db_plus.ok : SpecOK Go.Proofs.Tryd.prog (fun n => (trydbGl n).av) 81 (Ctr.fs (db_plus.c, db_plus.sg)) :=
  meets (l := db_plus.env) all_nil db_plus.chk (by
      intro ins outs h
      unfold db_plus.c at h
      split at h
      · cases h; exact db_plus.fit _
      · exact h.elim)
theorem db_simple.fit (n : UInt64) : ([.u64 n] : List TV).length = db_simple.d.np ∧ db_simple.d.run (envL trydbGl db_simple.env) [.u64 n] = some (([(.ag (Itv.cells (Itm.val (Db.simple n))))] : List TV) ++ db_simple.d.ps.toList.map fun q => ([.u64 n] : List TV).getD q.1 .dead) :=
  ⟨by kernel_rfl, Eq.trans (b := db_simple.F n) (by kernel_rfl) (Eq.trans (db_simple.goal n) (by kernel_rfl))⟩
theorem db_simple.ok : SpecOK Go.Proofs.Tryd.prog (fun n => (trydbGl n).av) 58 (Ctr.fs (db_simple.c, db_simple.sg)) :=
  meets (l := db_simple.env) all_nil db_simple.chk (by
      intro ins outs h
      unfold db_simple.c at h
      split at h
      · cases h; exact db_simple.fit _
      · exact h.elim)
theorem db_list.fit (l : List Itm) : ([.sl .il l] : List TV).length = db_list.d.np ∧ db_list.d.run (envL trydbGl db_list.env) [.sl .il l] = some (([(.ag (Itv.cells (Itm.val (Db.list l))))] : List TV) ++ db_list.d.ps.toList.map fun q => ([.sl .il l] : List TV).getD q.1 .dead) :=
  ⟨by kernel_rfl, Eq.trans (b := db_list.F l) (by kernel_rfl) (Eq.trans (db_list.goal l) (by kernel_rfl))⟩
theorem db_list.ok : SpecOK Go.Proofs.Tryd.prog (fun n => (trydbGl n).av) 56 (Ctr.fs (db_list.c, db_list.sg)) :=
  meets (l := db_list.env) all_nil db_list.chk (by
      intro ins outs h
      unfold db_list.c at h
      split at h
      · cases h; exact ⟨by kernel_rfl, by kernel_rfl⟩
      · cases h; exact db_list.fit _
      · exact h.elim)
theorem db_integer.fit (v : Int) (hp : (decide (-9223372036854775808 ≤ v ∧ v ≤ 9223372036854775807)) = true) : ([.i .i64 v] : List TV).length = db_integer.d.np ∧ db_integer.d.run (envL trydbGl db_integer.env) [.i .i64 v] = some (([(.ag (Itv.cells (Itm.val (Db.integer v))))] : List TV) ++ db_integer.d.ps.toList.map fun q => ([.i .i64 v] : List TV).getD q.1 .dead) :=
  ⟨by kernel_rfl, Eq.trans (b := db_integer.F v) (by kernel_rfl) (Eq.trans (db_integer.goal v hp) (by kernel_rfl))⟩
theorem db_integer.ok : SpecOK Go.Proofs.Tryd.prog (fun n => (trydbGl n).av) 59 (Ctr.fs (db_integer.c, db_integer.sg)) :=
  meets (l := db_integer.env) (all_cons db_plus.ok all_nil) db_integer.chk (by
      intro ins outs h
      unfold db_integer.c at h
      split at h
      · obtain ⟨hp, rfl⟩ := h; exact db_integer.fit _ hp
      · exact h.elim)
theorem db_words.fit (v_kind : Int) (v_bits : UInt64) (v_high : UInt64) (v_low : UInt64) (v_text : Str) (v_more : Str) (v_sub : Int) (v_bytes : List UInt8) (v_kids : List Fld) : ([.ag [.i .i64 v_kind, .u64 v_bits, .u64 v_high, .u64 v_low, .s v_text, .s v_more, .i .i64 v_sub, .sl .bs v_bytes, .sl .fl v_kids]] : List TV).length = db_words.d.np ∧ db_words.d.run (envL trydbGl db_words.env) [.ag [.i .i64 v_kind, .u64 v_bits, .u64 v_high, .u64 v_low, .s v_text, .s v_more, .i .i64 v_sub, .sl .bs v_bytes, .sl .fl v_kids]] = some (([(.ag (Itv.cells (Itm.val (Db.raw (Db.words ((Val.mk v_kind v_bits v_high v_low v_text v_more v_sub v_bytes v_kids)).high ((Val.mk v_kind v_bits v_high v_low v_text v_more v_sub v_bytes v_kids)).low)))))] : List TV) ++ db_words.d.ps.toList.map fun q => ([.ag [.i .i64 v_kind, .u64 v_bits, .u64 v_high, .u64 v_low, .s v_text, .s v_more, .i .i64 v_sub, .sl .bs v_bytes, .sl .fl v_kids]] : List TV).getD q.1 .dead) :=
  ⟨by kernel_rfl, Eq.trans (b := db_words.F (Val.mk v_kind v_bits v_high v_low v_text v_more v_sub v_bytes v_kids)) (by kernel_rfl) (Eq.trans (db_words.goal (Val.mk v_kind v_bits v_high v_low v_text v_more v_sub v_bytes v_kids)) (by kernel_rfl))⟩
theorem db_words.ok : SpecOK Go.Proofs.Tryd.prog (fun n => (trydbGl n).av) 82 (Ctr.fs (db_words.c, db_words.sg)) :=
  meets (l := db_words.env) (all_cons db_raw.ok all_nil) db_words.chk (by
      intro ins outs h
      unfold db_words.c at h
      split at h
      · cases h; exact db_words.fit _ _ _ _ _ _ _ _ _
      · exact h.elim)
theorem db_mapped.fit (n : Nat) (l : List Fld) (hp : ((decide (Fld.bulks l ≤ 1073741824)) && decide ((3 * Fld.bulks l + 3) < n + 1)) = true) : ([.sl .fl l] : List TV).length = db_mapped.d.np ∧ db_mapped.d.run (envL trydbGl (db_mapped.env n)) [.sl .fl l] = some (([(.ag (Itv.cells (Itm.val (Db.map (Db.mapped l)))))] : List TV) ++ db_mapped.d.ps.toList.map fun q => ([.sl .fl l] : List TV).getD q.1 .dead) :=
  ⟨by kernel_rfl, Eq.trans (b := db_mapped.F n l) (by kernel_rfl) (Eq.trans (db_mapped.goal n l hp) (by kernel_rfl))⟩
theorem db_item.fit (n : Nat) (v_kind : Int) (v_bits : UInt64) (v_high : UInt64) (v_low : UInt64) (v_text : Str) (v_more : Str) (v_sub : Int) (v_bytes : List UInt8) (v_kids : List Fld) (hp : ((decide (Fld.bulk (Fld.of [] (Val.mk v_kind v_bits v_high v_low v_text v_more v_sub v_bytes v_kids)) ≤ 1073741824)) && decide ((3 * Fld.bulk (Fld.of [] (Val.mk v_kind v_bits v_high v_low v_text v_more v_sub v_bytes v_kids)) + 2) < n + 1)) = true) : ([.ag [.i .i64 v_kind, .u64 v_bits, .u64 v_high, .u64 v_low, .s v_text, .s v_more, .i .i64 v_sub, .sl .bs v_bytes, .sl .fl v_kids]] : List TV).length = db_item.d.np ∧ db_item.d.run (envL trydbGl (db_item.env n)) [.ag [.i .i64 v_kind, .u64 v_bits, .u64 v_high, .u64 v_low, .s v_text, .s v_more, .i .i64 v_sub, .sl .bs v_bytes, .sl .fl v_kids]] = some (([(.ag (Itv.cells (Itm.val (Db.item (Fld.of [] (Val.mk v_kind v_bits v_high v_low v_text v_more v_sub v_bytes v_kids))))))] : List TV) ++ db_item.d.ps.toList.map fun q => ([.ag [.i .i64 v_kind, .u64 v_bits, .u64 v_high, .u64 v_low, .s v_text, .s v_more, .i .i64 v_sub, .sl .bs v_bytes, .sl .fl v_kids]] : List TV).getD q.1 .dead) :=
  ⟨by kernel_rfl, Eq.trans (b := db_item.F n (Val.mk v_kind v_bits v_high v_low v_text v_more v_sub v_bytes v_kids)) (by kernel_rfl) (Eq.trans (db_item.goal n (Val.mk v_kind v_bits v_high v_low v_text v_more v_sub v_bytes v_kids) hp) (by kernel_rfl))⟩
theorem db_tagged.fit (n : Nat) (v_kind : Int) (v_bits : UInt64) (v_high : UInt64) (v_low : UInt64) (v_text : Str) (v_more : Str) (v_sub : Int) (v_bytes : List UInt8) (v_kids : List Fld) (hp : ((decide (Fld.bulk (Fld.of [] (Val.mk v_kind v_bits v_high v_low v_text v_more v_sub v_bytes v_kids)) ≤ 1073741824)) && decide ((3 * Fld.bulk (Fld.of [] (Val.mk v_kind v_bits v_high v_low v_text v_more v_sub v_bytes v_kids)) + 1) < n + 1)) = true) : ([.ag [.i .i64 v_kind, .u64 v_bits, .u64 v_high, .u64 v_low, .s v_text, .s v_more, .i .i64 v_sub, .sl .bs v_bytes, .sl .fl v_kids]] : List TV).length = db_tagged.d.np ∧ db_tagged.d.run (envL trydbGl (db_tagged.env n)) [.ag [.i .i64 v_kind, .u64 v_bits, .u64 v_high, .u64 v_low, .s v_text, .s v_more, .i .i64 v_sub, .sl .bs v_bytes, .sl .fl v_kids]] = some (([(.ag (Itv.cells (Itm.val (Db.tagged (Val.mk v_kind v_bits v_high v_low v_text v_more v_sub v_bytes v_kids) (Db.mapped ((Val.mk v_kind v_bits v_high v_low v_text v_more v_sub v_bytes v_kids)).kids)))))] : List TV) ++ db_tagged.d.ps.toList.map fun q => ([.ag [.i .i64 v_kind, .u64 v_bits, .u64 v_high, .u64 v_low, .s v_text, .s v_more, .i .i64 v_sub, .sl .bs v_bytes, .sl .fl v_kids]] : List TV).getD q.1 .dead) :=
  ⟨by kernel_rfl, Eq.trans (b := db_tagged.F n (Val.mk v_kind v_bits v_high v_low v_text v_more v_sub v_bytes v_kids)) (by kernel_rfl) (Eq.trans (db_tagged.goal n (Val.mk v_kind v_bits v_high v_low v_text v_more v_sub v_bytes v_kids) hp) (by kernel_rfl))⟩
theorem dbitem.oks : ∀ n : Nat, (SpecOK Go.Proofs.Tryd.prog (fun n => (trydbGl n).av) 22 (Ctr.fs (db_mapped.cn n, db_mapped.sg))) ∧ (SpecOK Go.Proofs.Tryd.prog (fun n => (trydbGl n).av) 37 (Ctr.fs (db_item.cn n, db_item.sg))) ∧ (SpecOK Go.Proofs.Tryd.prog (fun n => (trydbGl n).av) 60 (Ctr.fs (db_tagged.cn n, db_tagged.sg))) := by
  intro n
  induction n with
  | zero => exact ⟨spec_zero (by
      intro ti to_ h
      unfold db_mapped.cn at h
      split at h
      · obtain ⟨h, _⟩ := h; simp at h
      · exact h.elim), spec_zero (by
      intro ti to_ h
      unfold db_item.cn at h
      split at h
      · obtain ⟨h, _⟩ := h; simp at h
      · exact h.elim), spec_zero (by
      intro ti to_ h
      unfold db_tagged.cn at h
      split at h
      · obtain ⟨h, _⟩ := h; simp at h
      · exact h.elim)⟩
  | succ n ih =>
    obtain ⟨ih0, ih1, ih2⟩ := ih
    exact ⟨meets (l := db_mapped.env n) (all_cons db_text.ok (all_cons ih1 all_nil)) (db_mapped.chk n) (by
      intro ins outs h
      unfold db_mapped.cn at h
      split at h
      · obtain ⟨hp, rfl⟩ := h; exact db_mapped.fit n _ hp
      · exact h.elim), meets (l := db_item.env n) (all_cons ih0 (all_cons db_text.ok (all_cons ih1 (all_cons tree_Regular.ok (all_cons db_list.ok (all_cons db_raw.ok (all_cons db_simple.ok (all_cons db_integer.ok (all_cons ih2 all_nil))))))))) (db_item.chk n) (by
      intro ins outs h
      unfold db_item.cn at h
      split at h
      · obtain ⟨hp, rfl⟩ := h; exact db_item.fit n _ _ _ _ _ _ _ _ _ hp
      · exact h.elim), meets (l := db_tagged.env n) (all_cons ih0 (all_cons db_text.ok (all_cons db_list.ok (all_cons db_raw.ok (all_cons db_simple.ok (all_cons db_integer.ok (all_cons db_plus.ok (all_cons db_words.ok all_nil)))))))) (db_tagged.chk n) (by
      intro ins outs h
      unfold db_tagged.cn at h
      split at h
      · obtain ⟨hp, rfl⟩ := h; exact db_tagged.fit n _ _ _ _ _ _ _ _ _ hp
      · exact h.elim)⟩
theorem db_mapped.ok : SpecOK Go.Proofs.Tryd.prog (fun n => (trydbGl n).av) 22 (Ctr.fs (db_mapped.c, db_mapped.sg)) := spec_sub fun ti to_ h => by
  unfold db_mapped.c at h
  split at h
  · obtain ⟨hp, rfl⟩ := h; exact ⟨db_mapped.cn (_ + 1), (dbitem.oks _).1, Bool.and_eq_true_iff.2 ⟨hp, decide_eq_true (Nat.lt_succ_self _)⟩, rfl⟩
  · exact h.elim
theorem db_Item.fit (v_kind : Int) (v_bits : UInt64) (v_high : UInt64) (v_low : UInt64) (v_text : Str) (v_more : Str) (v_sub : Int) (v_bytes : List UInt8) (v_kids : List Fld) (hp : (decide (Fld.bulk (Fld.of [] (Val.mk v_kind v_bits v_high v_low v_text v_more v_sub v_bytes v_kids)) ≤ 1073741824)) = true) : ([.ag [.i .i64 v_kind, .u64 v_bits, .u64 v_high, .u64 v_low, .s v_text, .s v_more, .i .i64 v_sub, .sl .bs v_bytes, .sl .fl v_kids]] : List TV).length = db_Item.d.np ∧ db_Item.d.run (envL trydbGl db_Item.env) [.ag [.i .i64 v_kind, .u64 v_bits, .u64 v_high, .u64 v_low, .s v_text, .s v_more, .i .i64 v_sub, .sl .bs v_bytes, .sl .fl v_kids]] = some (([(.ag (Itv.cells (Itm.val ((Db.enc (Val.mk v_kind v_bits v_high v_low v_text v_more v_sub v_bytes v_kids)).1)))), (.ag (Flt.cells ((Db.enc (Val.mk v_kind v_bits v_high v_low v_text v_more v_sub v_bytes v_kids)).2)))] : List TV) ++ db_Item.d.ps.toList.map fun q => ([.ag [.i .i64 v_kind, .u64 v_bits, .u64 v_high, .u64 v_low, .s v_text, .s v_more, .i .i64 v_sub, .sl .bs v_bytes, .sl .fl v_kids]] : List TV).getD q.1 .dead) :=
  ⟨by kernel_rfl, Eq.trans (b := db_Item.F (Val.mk v_kind v_bits v_high v_low v_text v_more v_sub v_bytes v_kids)) (by kernel_rfl) (Eq.trans (db_Item.goal (Val.mk v_kind v_bits v_high v_low v_text v_more v_sub v_bytes v_kids) hp) (by kernel_rfl))⟩
theorem db_Item.ok : SpecOK Go.Proofs.Tryd.prog (fun n => (trydbGl n).av) 10 (Ctr.fs (db_Item.c, db_Item.sg)) :=
  meets (l := db_Item.env) (all_cons tree_Check.ok (all_cons db_mapped.ok all_nil)) db_Item.chk (by
      intro ins outs h
      unfold db_Item.c at h
      split at h
      · obtain ⟨hp, rfl⟩ := h; exact db_Item.fit _ _ _ _ _ _ _ _ _ hp
      · exact h.elim)
theorem db_none.fit (path : List Int) (hp : (decide ((path).length ≤ 1099511627776)) = true) : ([.sl .is path] : List TV).length = db_none.d.np ∧ db_none.d.run (envL trydbGl db_none.env) [.sl .is path] = some (([(.ag (Flt.cells ((Flt.mk 12 0 path))))] : List TV) ++ db_none.d.ps.toList.map fun q => ([.sl .is path] : List TV).getD q.1 .dead) :=
  ⟨by kernel_rfl, Eq.trans (b := db_none.F path) (by kernel_rfl) (Eq.trans (db_none.goal path hp) (by kernel_rfl))⟩
theorem db_none.ok : SpecOK Go.Proofs.Tryd.prog (fun n => (trydbGl n).av) 27 (Ctr.fs (db_none.c, db_none.sg)) :=
  meets (l := db_none.env) (all_cons clone_is.ok all_nil) db_none.chk (by
      intro ins outs h
      unfold db_none.c at h
      split at h
      · obtain ⟨hp, rfl⟩ := h; exact db_none.fit _ hp
      · exact h.elim)
theorem db_number.fit (it_kind : Int) (it_n : UInt64) (it_bytes : List UInt8) (it_text : Str) (it_kids : List Itm) : ([.ag [.i .i64 it_kind, .u64 it_n, .sl .bs it_bytes, .s it_text, .sl .il it_kids]] : List TV).length = db_number.d.np ∧ db_number.d.run (envL trydbGl db_number.env) [.ag [.i .i64 it_kind, .u64 it_n, .sl .bs it_bytes, .s it_text, .sl .il it_kids]] = some (([(.i .i64 ((Db.number (Itm.of (Itv.mk it_kind it_n it_bytes it_text it_kids))).getD 0)), (.b ((Db.number (Itm.of (Itv.mk it_kind it_n it_bytes it_text it_kids))).isSome))] : List TV) ++ db_number.d.ps.toList.map fun q => ([.ag [.i .i64 it_kind, .u64 it_n, .sl .bs it_bytes, .s it_text, .sl .il it_kids]] : List TV).getD q.1 .dead) :=
  ⟨by kernel_rfl, Eq.trans (b := db_number.F (Itv.mk it_kind it_n it_bytes it_text it_kids)) (by kernel_rfl) (Eq.trans (db_number.goal (Itv.mk it_kind it_n it_bytes it_text it_kids)) (by kernel_rfl))⟩
theorem db_number.ok : SpecOK Go.Proofs.Tryd.prog (fun n => (trydbGl n).av) 70 (Ctr.fs (db_number.c, db_number.sg)) :=
  meets (l := db_number.env) all_nil db_number.chk (by
      intro ins outs h
      unfold db_number.c at h
      split at h
      · cases h; exact db_number.fit _ _ _ _ _
      · exact h.elim)
theorem db_regular.fit (l : List Itm) (hp : (decide ((l).length ≤ 1099511627776)) = true) : ([.sl .il l] : List TV).length = db_regular.d.np ∧ db_regular.d.run (envL trydbGl db_regular.env) [.sl .il l] = some (([(.b (Db.regular l))] : List TV) ++ db_regular.d.ps.toList.map fun q => ([.sl .il l] : List TV).getD q.1 .dead) :=
  ⟨by kernel_rfl, Eq.trans (b := db_regular.F l) (by kernel_rfl) (Eq.trans (db_regular.goal l hp) (by kernel_rfl))⟩
theorem db_regular.ok : SpecOK Go.Proofs.Tryd.prog (fun n => (trydbGl n).av) 87 (Ctr.fs (db_regular.c, db_regular.sg)) :=
  meets (l := db_regular.env) (all_cons sc_Itoa.ok all_nil) db_regular.chk (by
      intro ins outs h
      unfold db_regular.c at h
      split at h
      · obtain ⟨hp, rfl⟩ := h; exact db_regular.fit _ hp
      · exact h.elim)
theorem db_kinds.fit (it_kind : Int) (it_n : UInt64) (it_bytes : List UInt8) (it_text : Str) (it_kids : List Itm) (a : Int) (b : Int) : ([.ag [.i .i64 it_kind, .u64 it_n, .sl .bs it_bytes, .s it_text, .sl .il it_kids], .i .i64 a, .i .i64 b] : List TV).length = db_kinds.d.np ∧ db_kinds.d.run (envL trydbGl db_kinds.env) [.ag [.i .i64 it_kind, .u64 it_n, .sl .bs it_bytes, .s it_text, .sl .il it_kids], .i .i64 a, .i .i64 b] = some (([(.b (Db.kinds (Itm.of (Itv.mk it_kind it_n it_bytes it_text it_kids)) a b))] : List TV) ++ db_kinds.d.ps.toList.map fun q => ([.ag [.i .i64 it_kind, .u64 it_n, .sl .bs it_bytes, .s it_text, .sl .il it_kids], .i .i64 a, .i .i64 b] : List TV).getD q.1 .dead) :=
  ⟨by kernel_rfl, Eq.trans (b := db_kinds.F (Itv.mk it_kind it_n it_bytes it_text it_kids) a b) (by kernel_rfl) (Eq.trans (db_kinds.goal (Itv.mk it_kind it_n it_bytes it_text it_kids) a b) (by kernel_rfl))⟩
theorem db_kinds.ok : SpecOK Go.Proofs.Tryd.prog (fun n => (trydbGl n).av) 88 (Ctr.fs (db_kinds.c, db_kinds.sg)) :=
  meets (l := db_kinds.env) all_nil db_kinds.chk (by
      intro ins outs h
      unfold db_kinds.c at h
      split at h
      · cases h; exact db_kinds.fit _ _ _ _ _ _ _
      · exact h.elim)
theorem db_small.fit (n : UInt64) (it_kind : Int) (it_n : UInt64) (it_bytes : List UInt8) (it_text : Str) (it_kids : List Itm) (hp : (decide (Itm.bulk (Itm.of (Itv.mk it_kind it_n it_bytes it_text it_kids)) ≤ 1099511627776)) = true) : ([.u64 n, .ag [.i .i64 it_kind, .u64 it_n, .sl .bs it_bytes, .s it_text, .sl .il it_kids]] : List TV).length = db_small.d.np ∧ db_small.d.run (envL trydbGl db_small.env) [.u64 n, .ag [.i .i64 it_kind, .u64 it_n, .sl .bs it_bytes, .s it_text, .sl .il it_kids]] = some (([(.ag (Val.cells ((Db.smallV n (Itm.of (Itv.mk it_kind it_n it_bytes it_text it_kids))).1))), (.b ((Db.smallV n (Itm.of (Itv.mk it_kind it_n it_bytes it_text it_kids))).2))] : List TV) ++ db_small.d.ps.toList.map fun q => ([.u64 n, .ag [.i .i64 it_kind, .u64 it_n, .sl .bs it_bytes, .s it_text, .sl .il it_kids]] : List TV).getD q.1 .dead) :=
  ⟨by kernel_rfl, Eq.trans (b := db_small.F n (Itv.mk it_kind it_n it_bytes it_text it_kids)) (by kernel_rfl) (Eq.trans (db_small.goal n (Itv.mk it_kind it_n it_bytes it_text it_kids) hp) (by kernel_rfl))⟩
theorem db_small.ok : SpecOK Go.Proofs.Tryd.prog (fun n => (trydbGl n).av) 89 (Ctr.fs (db_small.c, db_small.sg)) :=
  meets (l := db_small.env) (all_cons st_Contains.ok (all_cons clone_bs.ok (all_cons db_number.ok (all_cons db_kinds.ok all_nil)))) db_small.chk (by
      intro ins outs h
      unfold db_small.c at h
      split at h
      · obtain ⟨hp, rfl⟩ := h; exact db_small.fit _ _ _ _ _ _ hp
      · exact h.elim)
theorem db_with.fit (n : Nat) (v_kind : Int) (v_bits : UInt64) (v_high : UInt64) (v_low : UInt64) (v_text : Str) (v_more : Str) (v_sub : Int) (l : List Itm) (path : List Int) (hp : ((decide (Itm.bulks l + (path).length ≤ 1073741824) && decide (Cb.chks l = 0 ∧ (l).length % 2 = 0)) && decide ((2 * Itm.bulks l + 2) < n + 1)) = true) : ([.ag [.i .i64 v_kind, .u64 v_bits, .u64 v_high, .u64 v_low, .s v_text, .s v_more, .i .i64 v_sub, .c (.slice none 0 0), .c (.slice none 0 0)], .sl .il l, .sl .is path] : List TV).length = db_with.d.np ∧ db_with.d.run (envL trydbGl (db_with.env n)) [.ag [.i .i64 v_kind, .u64 v_bits, .u64 v_high, .u64 v_low, .s v_text, .s v_more, .i .i64 v_sub, .c (.slice none 0 0), .c (.slice none 0 0)], .sl .il l, .sl .is path] = some (([(.ag (Val.cells (Db.Got.val (Db.Gots.got (Val.mk v_kind v_bits v_high v_low v_text v_more v_sub [] []) (Db.fields l 0 path))))), (.ag (Flt.cells (Db.Got.flt (Db.Gots.got (Val.mk v_kind v_bits v_high v_low v_text v_more v_sub [] []) (Db.fields l 0 path)))))] : List TV) ++ db_with.d.ps.toList.map fun q => ([.ag [.i .i64 v_kind, .u64 v_bits, .u64 v_high, .u64 v_low, .s v_text, .s v_more, .i .i64 v_sub, .c (.slice none 0 0), .c (.slice none 0 0)], .sl .il l, .sl .is path] : List TV).getD q.1 .dead) :=
  ⟨by kernel_rfl, Eq.trans (b := db_with.F n (Val.mk v_kind v_bits v_high v_low v_text v_more v_sub [] []) l path) (by kernel_rfl) (Eq.trans (db_with.goal n (Val.mk v_kind v_bits v_high v_low v_text v_more v_sub [] []) l path hp) (by kernel_rfl))⟩
theorem db_value.fit (n : Nat) (it_kind : Int) (it_n : UInt64) (it_bytes : List UInt8) (it_text : Str) (it_kids : List Itm) (path : List Int) (hp : ((decide (Itm.bulk (Itm.of (Itv.mk it_kind it_n it_bytes it_text it_kids)) + (path).length ≤ 1073741824) && decide (Cb.chk (Itm.of (Itv.mk it_kind it_n it_bytes it_text it_kids)) = 0)) && decide ((2 * Itm.bulk (Itm.of (Itv.mk it_kind it_n it_bytes it_text it_kids)) + 1) < n + 1)) = true) : ([.ag [.i .i64 it_kind, .u64 it_n, .sl .bs it_bytes, .s it_text, .sl .il it_kids], .sl .is path] : List TV).length = db_value.d.np ∧ db_value.d.run (envL trydbGl (db_value.env n)) [.ag [.i .i64 it_kind, .u64 it_n, .sl .bs it_bytes, .s it_text, .sl .il it_kids], .sl .is path] = some (([(.ag (Val.cells (Db.Got.val (Db.value (Itm.of (Itv.mk it_kind it_n it_bytes it_text it_kids)) path)))), (.ag (Flt.cells (Db.Got.flt (Db.value (Itm.of (Itv.mk it_kind it_n it_bytes it_text it_kids)) path))))] : List TV) ++ db_value.d.ps.toList.map fun q => ([.ag [.i .i64 it_kind, .u64 it_n, .sl .bs it_bytes, .s it_text, .sl .il it_kids], .sl .is path] : List TV).getD q.1 .dead) :=
  ⟨by kernel_rfl, Eq.trans (b := db_value.F n (Itv.mk it_kind it_n it_bytes it_text it_kids) path) (by kernel_rfl) (Eq.trans (db_value.goal n (Itv.mk it_kind it_n it_bytes it_text it_kids) path hp) (by kernel_rfl))⟩
theorem db_tag.fit (n : Nat) (it_kind : Int) (it_n : UInt64) (it_bytes : List UInt8) (it_text : Str) (it_kids : List Itm) (path : List Int) (hp : ((decide (Itm.bulk (Itm.of (Itv.mk it_kind it_n it_bytes it_text it_kids)) + (path).length ≤ 1073741824) && decide (Cb.chk (Itm.of (Itv.mk it_kind it_n it_bytes it_text it_kids)) = 0 ∧ ((Itv.mk it_kind it_n it_bytes it_text it_kids)).kind = 7)) && decide ((2 * Itm.bulk (Itm.of (Itv.mk it_kind it_n it_bytes it_text it_kids))) < n + 1)) = true) : ([.ag [.i .i64 it_kind, .u64 it_n, .sl .bs it_bytes, .s it_text, .sl .il it_kids], .sl .is path] : List TV).length = db_tag.d.np ∧ db_tag.d.run (envL trydbGl (db_tag.env n)) [.ag [.i .i64 it_kind, .u64 it_n, .sl .bs it_bytes, .s it_text, .sl .il it_kids], .sl .is path] = some (([(.ag (Val.cells (Db.Got.val (Db.value (Itm.of (Itv.mk it_kind it_n it_bytes it_text it_kids)) path)))), (.ag (Flt.cells (Db.Got.flt (Db.value (Itm.of (Itv.mk it_kind it_n it_bytes it_text it_kids)) path))))] : List TV) ++ db_tag.d.ps.toList.map fun q => ([.ag [.i .i64 it_kind, .u64 it_n, .sl .bs it_bytes, .s it_text, .sl .il it_kids], .sl .is path] : List TV).getD q.1 .dead) :=
  ⟨by kernel_rfl, Eq.trans (b := db_tag.F n (Itv.mk it_kind it_n it_bytes it_text it_kids) path) (by kernel_rfl) (Eq.trans (db_tag.goal n (Itv.mk it_kind it_n it_bytes it_text it_kids) path hp) (by kernel_rfl))⟩
theorem dbvalue.oks : ∀ n : Nat, (SpecOK Go.Proofs.Tryd.prog (fun n => (trydbGl n).av) 28 (Ctr.fs (db_with.cn n, db_with.sg))) ∧ (SpecOK Go.Proofs.Tryd.prog (fun n => (trydbGl n).av) 44 (Ctr.fs (db_value.cn n, db_value.sg))) ∧ (SpecOK Go.Proofs.Tryd.prog (fun n => (trydbGl n).av) 72 (Ctr.fs (db_tag.cn n, db_tag.sg))) := by
  intro n
  induction n with
  | zero => exact ⟨spec_zero (by
      intro ti to_ h
      unfold db_with.cn at h
      split at h
      · obtain ⟨h, _⟩ := h; simp at h
      · exact h.elim), spec_zero (by
      intro ti to_ h
      unfold db_value.cn at h
      split at h
      · obtain ⟨h, _⟩ := h; simp at h
      · exact h.elim), spec_zero (by
      intro ti to_ h
      unfold db_tag.cn at h
      split at h
      · obtain ⟨h, _⟩ := h; simp at h
      · exact h.elim)⟩
  | succ n ih =>
    obtain ⟨ih0, ih1, ih2⟩ := ih
    exact ⟨meets (l := db_with.env n) (all_cons db_none.ok (all_cons st_Contains.ok (all_cons ih1 all_nil))) (db_with.chk n) (by
      intro ins outs h
      unfold db_with.cn at h
      split at h
      · obtain ⟨hp, rfl⟩ := h; exact db_with.fit n _ _ _ _ _ _ _ _ _ hp
      · exact h.elim), meets (l := db_value.env n) (all_cons db_none.ok (all_cons ih0 (all_cons ih1 (all_cons clone_bs.ok (all_cons db_number.ok (all_cons sc_Itoa.ok (all_cons ih2 all_nil))))))) (db_value.chk n) (by
      intro ins outs h
      unfold db_value.cn at h
      split at h
      · obtain ⟨hp, rfl⟩ := h; exact db_value.fit n _ _ _ _ _ _ hp
      · exact h.elim), meets (l := db_tag.env n) (all_cons db_none.ok (all_cons ih0 (all_cons db_regular.ok (all_cons db_kinds.ok (all_cons db_small.ok all_nil))))) (db_tag.chk n) (by
      intro ins outs h
      unfold db_tag.cn at h
      split at h
      · obtain ⟨hp, rfl⟩ := h; exact db_tag.fit n _ _ _ _ _ _ hp
      · exact h.elim)⟩
theorem db_with.ok : SpecOK Go.Proofs.Tryd.prog (fun n => (trydbGl n).av) 28 (Ctr.fs (db_with.c, db_with.sg)) := spec_sub fun ti to_ h => by
  unfold db_with.c at h
  split at h
  · obtain ⟨hp, rfl⟩ := h; exact ⟨db_with.cn (_ + 1), (dbvalue.oks _).1, Bool.and_eq_true_iff.2 ⟨hp, decide_eq_true (Nat.lt_succ_self _)⟩, rfl⟩
  · exact h.elim
theorem db_Value.fit (it_kind : Int) (it_n : UInt64) (it_bytes : List UInt8) (it_text : Str) (it_kids : List Itm) (hp : (decide (Itm.bulk (Itm.of (Itv.mk it_kind it_n it_bytes it_text it_kids)) ≤ 1073741824)) = true) : ([.ag [.i .i64 it_kind, .u64 it_n, .sl .bs it_bytes, .s it_text, .sl .il it_kids]] : List TV).length = db_Value.d.np ∧ db_Value.d.run (envL trydbGl db_Value.env) [.ag [.i .i64 it_kind, .u64 it_n, .sl .bs it_bytes, .s it_text, .sl .il it_kids]] = some (([(.ag (Val.cells ((Db.dec (Itm.of (Itv.mk it_kind it_n it_bytes it_text it_kids))).1))), (.ag (Flt.cells ((Db.dec (Itm.of (Itv.mk it_kind it_n it_bytes it_text it_kids))).2)))] : List TV) ++ db_Value.d.ps.toList.map fun q => ([.ag [.i .i64 it_kind, .u64 it_n, .sl .bs it_bytes, .s it_text, .sl .il it_kids]] : List TV).getD q.1 .dead) :=
  ⟨by kernel_rfl, Eq.trans (b := db_Value.F (Itv.mk it_kind it_n it_bytes it_text it_kids)) (by kernel_rfl) (Eq.trans (db_Value.goal (Itv.mk it_kind it_n it_bytes it_text it_kids) hp) (by kernel_rfl))⟩
theorem db_Value.ok : SpecOK Go.Proofs.Tryd.prog (fun n => (trydbGl n).av) 15 (Ctr.fs (db_Value.c, db_Value.sg)) :=
  meets (l := db_Value.env) (all_cons cb_Check.ok (all_cons db_none.ok (all_cons db_with.ok all_nil))) db_Value.chk (by
      intro ins outs h
      unfold db_Value.c at h
      split at h
      · obtain ⟨hp, rfl⟩ := h; exact db_Value.fit _ _ _ _ _ hp
      · exact h.elim)
theorem law30_awake.fit : ([] : List TV).length = law30_awake.d.np ∧ law30_awake.d.run (envL trydbGl law30_awake.env) [] = some (([(.b (true))] : List TV) ++ law30_awake.d.ps.toList.map fun q => ([] : List TV).getD q.1 .dead) :=
  ⟨by kernel_rfl, Eq.trans (b := law30_awake.F ) (by kernel_rfl) (Eq.trans (law30_awake.goal ) (by kernel_rfl))⟩
theorem law30_awake.ok : SpecOK Go.Proofs.Tryd.prog (fun n => (trydbGl n).av) 8 (Ctr.fs (law30_awake.c, law30_awake.sg)) :=
  meets (l := law30_awake.env) (all_cons db_Item.ok (all_cons db_Value.ok all_nil)) law30_awake.chk (by
      intro ins outs h
      unfold law30_awake.c at h
      split at h
      · cases h; exact law30_awake.fit
      · exact h.elim)
end Go.Eng
namespace Go.Eng
open Go.IntWalk
namespace Db
theorem got_ok {g : Gots} {w v : Val} (h : g.got w = .ok v) : ∃ l, g = .ok l ∧ v = { w with kids := l } := by
  cases g with
  | ok l => exact ⟨l, rfl, by injection h with h; exact h.symm⟩
  | bad p => cases h
theorem got_bad {g : Gots} {w : Val} {q : List Int} (h : g.got w = .bad q) : g = .bad q := by
  cases g with
  | ok l => cases h
  | bad p => injection h with h; rw [h]
def Leads (p q : List Int) (m : Nat) : Prop := ∃ r, q = p ++ r ∧ r.length ≤ m
theorem Leads.mono {p q : List Int} {a b : Nat} (h : Leads p q a) (hab : a ≤ b) : Leads p q b := by
  obtain ⟨r, hr, hl⟩ := h; exact ⟨r, hr, by omega⟩
theorem Leads.from_ {p s q : List Int} {a : Nat} (h : Leads (p ++ s) q a) : Leads p q (a + s.length) := by
  obtain ⟨r, rfl, hl⟩ := h; exact ⟨s ++ r, by rw [List.append_assoc], by rw [List.length_append]; omega⟩
theorem Leads.self (p : List Int) (m : Nat) : Leads p p m := ⟨[], by rw [List.append_nil], Nat.zero_le _⟩
theorem Leads.one (p : List Int) (x : Int) : Leads p (p ++ [x]) 1 := ⟨[x], rfl, Nat.le_refl _⟩
mutual
theorem value_bad : ∀ (x : Itm) (p q : List Int), value x p = .bad q → Leads p q (2 * Itm.bulk x)
  | .mk k n b t ks, p, q, h => by
    simp only [Itm.bulk]
    rw [value] at h
    split at h
    · exact (fields_bad ks 0 p q (got_bad h)).mono (by omega)
    split at h
    · exact (elems_bad ks 0 p q (got_bad h)).mono (by omega)
    split at h
    · exact (tags_bad n ks p q h).mono (by omega)
    · unfold opt at h
      split at h
      · cases h
      · injection h with h; subst h; exact Leads.self _ _
theorem tags_bad : ∀ (n : UInt64) (ks : List Itm) (p q : List Int), tags n ks p = .bad q → Leads p q (2 * Itm.bulks ks + 2)
  | n, [], p, q, h => by rw [tags] at h; injection h with h; subst h; exact Leads.self _ _
  | n, x :: r, p, q, h => by
    rw [tags] at h
    simp only [Itm.bulks]
    exact (tagv_bad n x p q h).mono (by omega)
theorem tagv_bad : ∀ (n : UInt64) (x : Itm) (p q : List Int), tagv n x p = .bad q → Leads p q (2 * Itm.bulk x + 2)
  | n, .mk k m b t ks, p, q, h => by
    simp only [Itm.bulk]
    rw [tagv] at h
    split at h
    · split at h
      · exact (fields_bad ks 0 _ q (got_bad h)).from_.mono (by simp only [List.length_singleton]; omega)
      · injection h with h; subst h; exact Leads.self _ _
    split at h
    · split at h
      · exact (pairv_bad ks p q h).mono (by omega)
      · injection h with h; subst h; exact Leads.self _ _
    · unfold opt at h
      split at h
      · cases h
      · injection h with h; subst h; exact Leads.self _ _
theorem pairv_bad : ∀ (ks : List Itm) (p q : List Int), pairv ks p = .bad q → Leads p q (2 * Itm.bulks ks + 3)
  | [], p, q, h => by rw [pairv] at h; injection h with h; subst h; exact Leads.self _ _
  | [_], p, q, h => by rw [pairv] at h; injection h with h; subst h; exact Leads.self _ _
  | a :: m :: r, p, q, h => by
    rw [pairv] at h
    simp only [Itm.bulks]
    exact (pairIn_bad a.text m p q h).mono (by omega)
theorem pairIn_bad : ∀ (t : Str) (m : Itm) (p q : List Int), pairIn t m p = .bad q → Leads p q (2 * Itm.bulk m + 1)
  | t, .mk _ _ b s ks, p, q, h => by
    rw [pairIn] at h
    simp only [Itm.bulk]
    exact (fields_bad ks 0 _ q (got_bad h)).from_.mono (by simp only [List.length_cons, List.length_nil]; omega)
theorem fields_bad : ∀ (l : List Itm) (i : Nat) (p q : List Int), fields l i p = .bad q → Leads p q (2 * Itm.bulks l + 1)
  | [], i, p, q, h => by rw [fields] at h; cases h
  | [_], i, p, q, h => by rw [fields] at h; injection h with h; subst h; exact (Leads.one _ _).mono (by omega)
  | k :: x :: r, i, p, q, h => by
    have hk := Itm.bulk_pos k
    rw [fields] at h
    simp only [Itm.bulks]
    split at h
    · injection h with h; subst h; exact (Leads.one _ _).mono (by omega)
    split at h
    · rename_i q' hv
      injection h with h; subst h
      exact (value_bad x _ _ hv).from_.mono (by simp only [List.length_singleton]; omega)
    rename_i v hv
    split at h
    · rename_i q' hl
      injection h with h; subst h
      exact (fields_bad r _ p _ hl).mono (by omega)
    · cases h
theorem elems_bad : ∀ (l : List Itm) (i : Nat) (p q : List Int), elems l i p = .bad q → Leads p q (2 * Itm.bulks l + 1)
  | [], i, p, q, h => by rw [elems] at h; cases h
  | x :: r, i, p, q, h => by
    rw [elems] at h
    simp only [Itm.bulks]
    split at h
    · rename_i q' hv
      injection h with h; subst h
      exact (value_bad x _ _ hv).from_.mono (by simp only [List.length_singleton]; omega)
    rename_i v hv
    split at h
    · rename_i q' hl
      injection h with h; subst h
      exact (elems_bad r _ p _ hl).mono (by omega)
    · cases h
end
end Db
end Go.Eng
namespace Go.Eng
noncomputable section
def DocborTags.sg : FSig := {}
def DocborTags.c : Ctr := fun l => match l with
  | [.u64 n, .ag [.i .i64 it_kind, .u64 it_n, .sl .bs it_bytes, .s it_text, .sl .il it_kids]] => .ok [(.b (true))]
  | _ => .err
end
noncomputable section
def DocborTags.env : List (Nat × (Ctr × FSig)) := [(8, (law30_awake.c, law30_awake.sg)), (14, (book_SmallItem.c, book_SmallItem.sg)), (15, (db_Value.c, db_Value.sg)), (18, (ref28_Check.c, ref28_Check.sg))]
def DocborTags.E : TEnv := envL trydbGl DocborTags.env
def DocborTags.m : TM := .seq (.reg [
    ⟨.k (.bx 1077), [.s 1, .s 1077], [3, 1077], none⟩,
    ⟨.k .mv, [.c (.b false)], [4], none⟩]) none (.seq (.seq (.reg [
    ⟨.k (.call 8 (.plain 0 1)), [], [8], none⟩,
    ⟨.k (.un .not), [.s 8], [9], none⟩]) none (.cond (.s 9) [] (.seq (.reg [
    ⟨.k .mv, [.c (.b false)], [4], none⟩]) none .ret) .skip)) none (.seq (.seq (.reg [
    ⟨.k (.ld 1077 0 5 true), [.s 3, .s 1077], [10], none⟩,
    ⟨.k (.call 14 (.plain 1 1)), [.s 10], [11], none⟩,
    ⟨.k (.un .not), [.s 11], [12], none⟩,
    ⟨.k .mv, [.s 12], [13], none⟩,
    ⟨.k (.ld 1077 0 5 true), [.s 3, .s 1077], [14], some (13, false)⟩,
    ⟨.k (.call 18 (.plain 1 1)), [.s 14], [15], some (13, false)⟩,
    ⟨.k (.bin .neq), [.s 15, .c (.i .i64 (0 : Int))], [16], some (13, false)⟩,
    ⟨.k .pick, [.s 13, .c (.b true), .s 16], [17], none⟩]) none (.cond (.s 17) [] (.seq (.reg [
    ⟨.k .mv, [.c (.b true)], [4], none⟩]) none .ret) .skip)) none (.seq (.reg [
    ⟨.bd [(.i .i64 (0 : Int)), (.u64 (0 : UInt64)), (.sl .bs ([] : List UInt8)), (.s ([] : Str)), (.sl .il ([] : List Itm))] [(0, 1), (3, 1)], [.c (.i .i64 (4 : Int)), .c (.s ([116] : Str))], [18], none⟩,
    ⟨.k .mv, [.s 0], [19], none⟩,
    ⟨.k (.ld 1077 0 5 true), [.s 3, .s 1077], [20], none⟩,
    ⟨.bl .il 1, [.s 20], [21], none⟩,
    ⟨.bd [(.i .i64 (0 : Int)), (.u64 (0 : UInt64)), (.sl .bs ([] : List UInt8)), (.s ([] : Str)), (.sl .il ([] : List Itm))] [(0, 1), (1, 1), (4, 1)], [.c (.i .i64 (7 : Int)), .s 19, .s 21], [22], none⟩,
    ⟨.bl .il 2, [.s 18, .s 22], [23], none⟩,
    ⟨.bd [(.i .i64 (0 : Int)), (.u64 (0 : UInt64)), (.sl .bs ([] : List UInt8)), (.s ([] : Str)), (.sl .il ([] : List Itm))] [(0, 1), (4, 1)], [.c (.i .i64 (6 : Int)), .s 23], [24], none⟩,
    ⟨.al 1078 [(.i .i64 (0 : Int)), (.u64 (0 : UInt64)), (.sl .bs ([] : List UInt8)), (.s ([] : Str)), (.sl .il ([] : List Itm))] [], [.s 1078], [5, 1078], none⟩,
    ⟨.k (.st 1078 0 5), [.s 5, .s 1078, .s 24], [1078], none⟩]) none (.seq (.reg [
    ⟨.k (.ld 1078 0 5 true), [.s 5, .s 1078], [26], none⟩,
    ⟨.k (.call 15 (.plain 1 2)), [.s 26], [27], none⟩,
    ⟨.k .mv, [.s 27], [25], none⟩,
    ⟨.k (.ex 0), [.s 25], [28], none⟩,
    ⟨.k (.ex 1), [.s 25], [29], none⟩,
    ⟨.al 1079 [(.i .i64 (0 : Int)), (.u64 (0 : UInt64)), (.u64 (0 : UInt64)), (.u64 (0 : UInt64)), (.s ([] : Str)), (.s ([] : Str)), (.i .i64 (0 : Int)), (.sl .bs ([] : List UInt8)), (.sl .fl ([] : List Fld))] [], [.s 1079], [6, 1079], none⟩,
    ⟨.al 1080 [(.i .i64 (0 : Int)), (.i .i64 (0 : Int)), (.sl .is ([] : List Int))] [], [.s 1080], [7, 1080], none⟩,
    ⟨.k (.st 1079 0 9), [.s 6, .s 1079, .s 28], [1079], none⟩,
    ⟨.k (.st 1080 0 3), [.s 7, .s 1080, .s 29], [1080], none⟩]) none (.seq (.seq (.reg [
    ⟨.k (.fa 1080 0 0), [.s 7], [30], none⟩,
    ⟨.k (.ld 1080 0 1 false), [.s 30, .s 1080], [31], none⟩,
    ⟨.k (.bin .neq), [.s 31, .c (.i .i64 (0 : Int))], [32], none⟩]) none (.cond (.s 32) [] (.seq (.reg [
    ⟨.k (.fa 1080 0 0), [.s 7], [33], none⟩,
    ⟨.k (.ld 1080 0 1 false), [.s 33, .s 1080], [34], none⟩,
    ⟨.k (.bin .eql), [.s 34, .c (.i .i64 (12 : Int))], [35], none⟩,
    ⟨.k .mv, [.s 35], [36], none⟩,
    ⟨.k (.fa 1080 0 2), [.s 7], [37], some (36, true)⟩,
    ⟨.k (.ld 1080 2 1 false), [.s 37, .s 1080], [38], some (36, true)⟩,
    ⟨.k .len, [.s 38], [39], some (36, true)⟩,
    ⟨.k (.bin .geq), [.s 39, .c (.i .i64 (1 : Int))], [40], some (36, true)⟩,
    ⟨.k .pick, [.s 36, .s 40, .c (.b false)], [41], none⟩,
    ⟨.k .mv, [.s 41], [42], none⟩,
    ⟨.k (.fa 1080 0 2), [.s 7], [43], some (42, true)⟩,
    ⟨.k (.ld 1080 2 1 false), [.s 43, .s 1080], [44], some (42, true)⟩,
    ⟨.k (.ix 1), [.s 44, .c (.i .i64 (0 : Int))], [45], some (42, true)⟩,
    ⟨.k (.lr 1 false), [.s 45], [46], some (42, true)⟩,
    ⟨.k (.bin .eql), [.s 46, .c (.i .i64 (1 : Int))], [47], some (42, true)⟩,
    ⟨.k .pick, [.s 42, .s 47, .c (.b false)], [48], none⟩,
    ⟨.k .mv, [.s 48], [4], none⟩]) none .ret) .skip)) none (.seq (.reg [
    ⟨.k (.fa 1079 0 8), [.s 6], [49], none⟩,
    ⟨.k (.ld 1079 8 1 false), [.s 49, .s 1079], [50], none⟩,
    ⟨.k .len, [.s 50], [51], none⟩,
    ⟨.k (.bin .eql), [.s 51, .c (.i .i64 (1 : Int))], [52], none⟩,
    ⟨.k .mv, [.s 52], [53], none⟩,
    ⟨.k (.fa 1079 0 8), [.s 6], [54], some (53, true)⟩,
    ⟨.k (.ld 1079 8 1 false), [.s 54, .s 1079], [55], some (53, true)⟩,
    ⟨.k (.ix 10), [.s 55, .c (.i .i64 (0 : Int))], [56], some (53, true)⟩,
    ⟨.k (.fr 0 1 false), [.s 56], [57], some (53, true)⟩,
    ⟨.k (.lr 1 false), [.s 57], [58], some (53, true)⟩,
    ⟨.k (.bin .eql), [.s 58, .c (.s ([116] : Str))], [59], some (53, true)⟩,
    ⟨.k .pick, [.s 53, .s 59, .c (.b false)], [60], none⟩,
    ⟨.k .mv, [.s 60], [61], none⟩,
    ⟨.k .mv, [.s 0], [62], some (61, true)⟩,
    ⟨.k (.bin .geq), [.s 62, .c (.u64 (1000 : UInt64))], [63], some (61, true)⟩,
    ⟨.k .pick, [.s 61, .s 63, .c (.b false)], [64], none⟩,
    ⟨.k .mv, [.s 64], [65], none⟩,
    ⟨.k (.fa 1079 0 8), [.s 6], [66], some (65, true)⟩,
    ⟨.k (.ld 1079 8 1 false), [.s 66, .s 1079], [67], some (65, true)⟩,
    ⟨.k (.ix 10), [.s 67, .c (.i .i64 (0 : Int))], [68], some (65, true)⟩,
    ⟨.k (.fr 1 9 true), [.s 68], [69], some (65, true)⟩,
    ⟨.k (.fr 0 1 false), [.s 69], [70], some (65, true)⟩,
    ⟨.k (.lr 1 false), [.s 70], [71], some (65, true)⟩,
    ⟨.k (.ci .u64), [.s 71], [72], some (65, true)⟩,
    ⟨.k .mv, [.s 0], [73], some (65, true)⟩,
    ⟨.k (.bin .sub), [.s 73, .c (.u64 (1000 : UInt64))], [74], some (65, true)⟩,
    ⟨.k (.bin .eql), [.s 72, .s 74], [75], some (65, true)⟩,
    ⟨.k .pick, [.s 65, .s 75, .c (.b false)], [76], none⟩,
    ⟨.k .mv, [.s 76], [4], none⟩]) none .ret))))))
def DocborTags.d : TFD := { np := 2, m := DocborTags.m, ref := none, tips := [], res := [.t 4], own := [], new := none, tnew := [] }
noncomputable def DocborTags.F (n : UInt64) (it : Itv) : Option (List TV) := DocborTags.d.run DocborTags.E [(.u64 n), (.ag (Itv.cells it))]
theorem DocborTags.F_in (n : UInt64) (it : Itv) {ρ : Option (List TV)} (K : ∀ (v1 : Bool) (h1 : v1 = (!(!(decide (0 ≤ Itm.room 1500 (Itm.of it)))))) (v2 : Bool) (h2 : v2 = (cond (!(decide (0 ≤ Itm.room 1500 (Itm.of it)))) true (!decide ((Cb.chk (Itm.of it)) = (0 : Int))))) (v3 : List Itm) (h3 : v3 = ([(Itm.mk (4 : Int) (0 : UInt64) ([] : List UInt8) ([116] : Str) ([] : List Itm)), (Itm.mk (7 : Int) n ([] : List UInt8) ([] : Str) ([(Itm.of it)] : List Itm))] : List Itm)) (v4 : Val) (h4 : v4 = ((Db.dec (Itm.of (Itv.mk (6 : Int) (0 : UInt64) ([] : List UInt8) ([] : Str) v3))).1)) (v5 : Flt) (h5 : v5 = ((Db.dec (Itm.of (Itv.mk (6 : Int) (0 : UInt64) ([] : List UInt8) ([] : Str) v3))).2)) (v6 : Int) (h6 : v6 = (((Flt.path v5)).length : Int)) (v7 : Bool) (h7 : v7 = (cond (decide ((Flt.err v5) = (12 : Int))) (decide ((1 : Int) ≤ v6)) false)) (v8 : Int) (h8 : v8 = (List.getD (Flt.path v5) ((0 : Int)).toNat (0 : Int))) (v9 : Bool) (h9 : v9 = (cond v7 (decide (v8 = (1 : Int))) false)) (v10 : Int) (h10 : v10 = (((Val.kids v4)).length : Int)) (v11 : Fld) (h11 : v11 = (List.getD (Val.kids v4) ((0 : Int)).toNat (STy.dflt .fl))) (v12 : Bool) (h12 : v12 = (cond (decide (v10 = (1 : Int))) (decide ((Fld.name v11) = ([116] : Str))) false)) (v13 : Bool) (h13 : v13 = (cond v12 (decide ((1000 : UInt64) ≤ n)) false)) (v14 : UInt64) (h14 : v14 = (UInt64.ofInt (Fld.kind v11))) (v15 : Bool) (h15 : v15 = (cond v13 (decide (v14 = (n - (1000 : UInt64)))) false)), cond (!(true))
    (some [(.b false)])
    (ck (!v1 || (v1 && (decide (Itm.bulk (Itm.of it) ≤ 1099511627776)))) (ck (!v1 || v1) (ck ((!(decide (0 ≤ Itm.room 1500 (Itm.of it)))) || v1) (cond v2
    (some [(.b true)])
    (ck (decide (Itm.bulk (Itm.of (Itv.mk (6 : Int) (0 : UInt64) ([] : List UInt8) ([] : Str) v3)) ≤ 1073741824)) (cond (!decide ((Flt.err v5) = (0 : Int)))
    (ck (!(decide ((Flt.err v5) = (12 : Int))) || (decide ((Flt.err v5) = (12 : Int)))) (ck (!(decide ((Flt.err v5) = (12 : Int))) || (decide ((Flt.err v5) = (12 : Int)))) (ck (!(decide ((Flt.err v5) = (12 : Int))) || (decide ((Flt.err v5) = (12 : Int)))) (ck (!(decide ((Flt.err v5) = (12 : Int))) || (decide ((Flt.err v5) = (12 : Int)))) (ck (!v7 || v7) (ck (!v7 || (v7 && (idxOK (0 : Int) ((Flt.path v5)).length))) (ck (!v7 || v7) (ck (!v7 || v7) (ck (!v7 || v7) (some [(.b v9)]))))))))))
    (ck (!(decide (v10 = (1 : Int))) || (decide (v10 = (1 : Int)))) (ck (!(decide (v10 = (1 : Int))) || ((decide (v10 = (1 : Int))) && (idxOK (0 : Int) ((Val.kids v4)).length))) (ck (!(decide (v10 = (1 : Int))) || (decide (v10 = (1 : Int)))) (ck (!(decide (v10 = (1 : Int))) || (decide (v10 = (1 : Int)))) (ck (!(decide (v10 = (1 : Int))) || (decide (v10 = (1 : Int)))) (ck (!(decide (v10 = (1 : Int))) || (decide (v10 = (1 : Int)))) (ck (!v12 || v12) (ck (!v12 || v12) (ck (!v13 || v13) (ck (!v13 || (v13 && (idxOK (0 : Int) ((Val.kids v4)).length))) (ck (!v13 || v13) (ck (!v13 || v13) (ck (!v13 || v13) (ck (!v13 || v13) (ck (!v13 || v13) (ck (!v13 || (v13 && v13)) (ck (!v13 || v13) (some [(.b v15)])))))))))))))))))))))))) = ρ) : DocborTags.F n it = ρ := Eq.trans (by kernel_rfl) (K _ rfl _ rfl _ rfl _ rfl _ rfl _ rfl _ rfl _ rfl _ rfl _ rfl _ rfl _ rfl _ rfl _ rfl _ rfl)
theorem DocborTags.chk : ((Go.Proofs.Tryd.prog.funcs[7]?).any fun fn => chkF Go.Proofs.Tryd.prog (fun k => ((envL trydbGl DocborTags.env).fs k).2) fn DocborTags.d.erase) = true := by kernel_rfl
end
end Go.Eng
namespace Go.Eng
open Go.IntWalk
theorem Db.smallV_kind (n : UInt64) (it : Itm) : (Db.smallV n it).2 = true → 1000 ≤ n ∧ (Db.smallV n it).1.kind = (n.toNat : Int) - 1000 := by
  unfold Db.smallV
  by_cases h : n < 1000 ∨ 1255 < n
  · rw [if_pos h]; intro h; cases h
  rw [if_neg h]
  have h0 : 1000 ≤ n := UInt64.not_lt.1 fun q => h (.inl q)
  intro ht
  refine ⟨h0, ?_⟩
  clear ht
  by_cases a : n = 1005
  · rw [if_pos a]; subst a; split <;> rfl
  rw [if_neg a]
  by_cases a : n = 1007
  · rw [if_pos a]; subst a; try rfl
  rw [if_neg a]
  by_cases a : n = 1009 ∨ n = 1018
  · rw [if_pos a]; try rfl
  rw [if_neg a]
  by_cases a : n = 1011
  · rw [if_pos a]; subst a; split <;> rfl
  rw [if_neg a]
  by_cases a : n = 1012
  · rw [if_pos a]; subst a; split <;> rfl
  rw [if_neg a]
  by_cases a : n = 1013 ∨ n = 1014
  · rw [if_pos a]; try rfl
  rw [if_neg a]
  by_cases a : n = 1017
  · rw [if_pos a]; subst a; try rfl
  rw [if_neg a]
  by_cases a : n = 1019
  · rw [if_pos a]; subst a; split <;> rfl
  rw [if_neg a]
  by_cases a : n = 1127 ∨ n = 1255
  · rw [if_pos a]; try rfl
  rw [if_neg a]
  rfl
theorem Db.tagv_kind (n : UInt64) (x : Itm) (p : List Int) (v : Val) (h : Db.tagv n x p = .ok v) : 1000 ≤ n ∧ v.kind = (n.toNat : Int) - 1000 := by
  rw [Db.tagv_of] at h
  split at h
  · rename_i a
    split at h
    · obtain ⟨l, _, rfl⟩ := Db.got_ok h
      subst a; exact ⟨by decide, rfl⟩
    · cases h
  split at h
  · rename_i a
    split at h
    · rename_i c
      rw [Db.pairv_of _ _ (of_decide_eq_true c).2.1] at h
      obtain ⟨l, _, rfl⟩ := Db.got_ok h
      subst a; exact ⟨by decide, rfl⟩
    · cases h
  · unfold Db.small at h
    split at h
    · rename_i c
      injection h with h; subst h
      exact Db.smallV_kind n x c
    · cases h
theorem DocborTags.goal (n : UInt64) (it : Itv) : DocborTags.F n it = some [.b true] := by
  refine DocborTags.F_in n it ?_
  intro v1 h1 v2 h2 v3 h3 v4 h4 v5 h5 v6 h6 v7 h7 v8 h8 v9 h9 v10 h10 v11 h11 v12 h12 v13 h13 v14 h14 v15 h15
  rw [Bool.not_true, cond_false]
  by_cases a : 0 ≤ Itm.room 1500 (Itm.of it)
  · have hb := Itm.small_bulk _ a
    rw [decide_eq_true a] at h1 h2 ⊢
    have h1' : v1 = true := h1
    simp only [h1', decide_eq_true (show Itm.bulk (Itm.of it) ≤ 1099511627776 by omega), Bool.and_true, Bool.not_or_self, Bool.or_true, ck_true]
    by_cases hc : Cb.chk (Itm.of it) = 0
    · have h2' : v2 = false := by rw [h2, decide_eq_true hc]; try rfl
      rw [h2', cond_false]
      have hch : Cb.chk (.mk 6 0 [] [] v3) = 0 := by
        rw [h3]
        have w1 : Cb.chk (.mk 4 0 [] [116] []) = 0 := by decide
        have w2 : Cb.chk (.mk 7 n [] [] [Itm.of it]) = 0 := by
          rw [Cb.chk, if_pos (show Cb.own (.mk 7 n [] [] [Itm.of it]) = 0 by simp [Cb.own, show Utf.whole [] = true from by decide]), Cb.chks, if_pos hc]; try rfl
        rw [Cb.chk, if_pos (show Cb.own (.mk 6 0 [] [] [.mk 4 0 [] [116] [], .mk 7 n [] [] [Itm.of it]]) = 0 by simp [Cb.own, show Utf.whole [] = true from by decide]), Cb.chks, if_pos w1, Cb.chks, if_pos w2]; try rfl
      have hbk : Itm.bulk (Itm.of (Itv.mk 6 0 [] [] v3)) ≤ 1073741824 := by
        rw [Itm.bulk_of, h3]; simp only [Itm.bulks, Itm.bulk, List.length_nil, List.length_cons]; omega
      rw [ck_of (decide_eq_true hbk)]
      have hd : Db.dec (Itm.of (Itv.mk 6 0 [] [] v3)) = ((Db.value (.mk 6 0 [] [] v3) []).val, (Db.value (.mk 6 0 [] [] v3) []).flt) := by
        rw [Db.dec, if_neg (show ¬ Cb.chk (Itm.of (Itv.mk 6 0 [] [] v3)) ≠ 0 from fun h => h hch), if_neg (show ¬ (Itm.of (Itv.mk 6 0 [] [] v3)).kind ≠ 6 from fun h => h rfl)]; try rfl
      have hval : Db.value (.mk 6 0 [] [] v3) [] = match Db.tagv n (Itm.of it) [1] with | .bad q => .bad q | .ok v => .ok { Db.doc 3 [] with kids := [Fld.of [116] v] } := by
        rw [Db.value, if_pos rfl, h3, Db.fields_step, if_neg (show ¬ ((Itm.mk 4 0 [] [116] []).kind ≠ 4 ∨ Utf.zero (Itm.mk 4 0 [] [116] []).text = true) by decide), Db.value, if_neg (by decide), if_neg (by decide), if_pos rfl, Db.tags, List.nil_append, show (((0 + 1 : Nat) : Int)) = 1 from rfl]
        cases Db.tagv n (Itm.of it) [1] with
        | bad q => rfl
        | ok v => simp only [Db.fields, Db.Gots.app]; try rfl
      rw [hd, hval] at h4 h5
      cases ht : Db.tagv n (Itm.of it) [1] with
      | bad q =>
        rw [ht] at h4 h5
        obtain ⟨r, hq, _⟩ := Db.tagv_bad n _ _ _ ht
        have e5 : v5 = ⟨12, 0, 1 :: r⟩ := by rw [h5, hq]; try rfl
        have e6 : v6 = ((r.length + 1 : Nat) : Int) := by rw [h6, e5]; try rfl
        have e7 : v7 = true := by rw [h7, e5, e6, decide_eq_true (show (1 : Int) ≤ ((r.length + 1 : Nat) : Int) by omega)]; try rfl
        have e8 : v8 = 1 := by rw [h8, e5]; try rfl
        have e9 : v9 = true := by rw [h9, e7, e8]; try rfl
        rw [show (!decide (v5.err = 0)) = true by rw [e5]; rfl, cond_true]
        have i0 : idxOK (0 : Int) v5.path.length = true := by rw [e5]; exact idx_ok (by omega) (by simp only [List.length_cons]; omega)
        simp only [i0, e9, Bool.and_true, Bool.not_or_self, ck_true]
      | ok v =>
        rw [ht] at h4 h5
        obtain ⟨k1, k2⟩ := Db.tagv_kind n _ _ v ht
        have e5 : v5 = ⟨0, 0, []⟩ := h5
        have e4 : v4 = { Db.doc 3 [] with kids := [Fld.of [116] v] } := h4
        have e10 : v10 = 1 := by rw [h10, e4]; try rfl
        have e11 : v11 = Fld.of [116] v := by rw [h11, e4]; try rfl
        have e12 : v12 = true := by rw [h12, e10, e11]; try rfl
        have e13 : v13 = true := by rw [h13, e12, decide_eq_true k1]; try rfl
        have e14 : v14 = n - 1000 := by
          rw [h14, e11]
          show UInt64.ofInt v.kind = _
          rw [k2]
          apply UInt64.toNat_inj.1
          have := UInt64.le_iff_toNat_le.1 k1
          simp at this
          have hlt := n.toNat_lt
          rw [UInt64.toNat_sub_of_le _ _ k1, show (n.toNat : Int) - 1000 = ((n.toNat - 1000 : Nat) : Int) by omega, u64_nat]
          show (n.toNat - 1000) % 18446744073709551616 = n.toNat - 1000
          omega
        have e15 : v15 = true := by rw [h15, e13, e14]; exact decide_eq_true rfl
        have i0 : idxOK (0 : Int) v4.kids.length = true := by rw [e4]; exact idx_ok (by omega) (by show (0 : Int) < ((1 : Nat) : Int); omega)
        rw [show (!decide (v5.err = 0)) = false by rw [e5]; rfl, cond_false]
        simp only [i0, e12, e13, e15, Bool.and_true, Bool.not_or_self, Bool.and_self, ck_true]
    · have h2' : v2 = true := by rw [h2, decide_eq_false hc]; try rfl
      rw [h2', cond_true]
  · rw [decide_eq_false a] at h1 h2 ⊢
    have h1' : v1 = false := h1
    have h2' : v2 = true := h2
    rw [h1', h2']; try rfl
end Go.Eng
namespace Go.Eng
theorem DocborTags.fit (n : UInt64) (it_kind : Int) (it_n : UInt64) (it_bytes : List UInt8) (it_text : Str) (it_kids : List Itm) : ([.u64 n, .ag [.i .i64 it_kind, .u64 it_n, .sl .bs it_bytes, .s it_text, .sl .il it_kids]] : List TV).length = DocborTags.d.np ∧ DocborTags.d.run (envL trydbGl DocborTags.env) [.u64 n, .ag [.i .i64 it_kind, .u64 it_n, .sl .bs it_bytes, .s it_text, .sl .il it_kids]] = some (([(.b (true))] : List TV) ++ DocborTags.d.ps.toList.map fun q => ([.u64 n, .ag [.i .i64 it_kind, .u64 it_n, .sl .bs it_bytes, .s it_text, .sl .il it_kids]] : List TV).getD q.1 .dead) :=
  ⟨by kernel_rfl, Eq.trans (b := DocborTags.F n (Itv.mk it_kind it_n it_bytes it_text it_kids)) (by kernel_rfl) (Eq.trans (DocborTags.goal n (Itv.mk it_kind it_n it_bytes it_text it_kids)) (by kernel_rfl))⟩
theorem DocborTags.ok : SpecOK Go.Proofs.Tryd.prog (fun n => (trydbGl n).av) 7 (Ctr.fs (DocborTags.c, DocborTags.sg)) :=
  meets (l := DocborTags.env) (all_cons law30_awake.ok (all_cons book_SmallItem.ok (all_cons db_Value.ok (all_cons ref28_Check.ok all_nil)))) DocborTags.chk (by
      intro ins outs h
      unfold DocborTags.c at h
      split at h
      · cases h; exact DocborTags.fit _ _ _ _ _ _
      · exact h.elim)
end Go.Eng
