/- Texts of my own, one behind the other: MpP7, MpP8, MpP9, MpP10, MpP11, MpP12, MpP13, MpP14, Sized, MpP, MpOK, MpLReads, MpQReads, MpOKReads. -/
import Derived.Test.YtheedbianknplaaT5
import Derived.WalkKit
import Derived.WalkSpells
import Derived.WalkLawsBesides
import Derived.ChangeSlices
import Derived.Maps.OwnOps
set_option linter.unusedVariables false
set_option linter.unusedSimpArgs false
namespace Go.Eng
open Go.IntWalk
theorem Mp.wide_cases (n : UInt64) : (Mp.wide n = 1 ∧ n.toNat < 256) ∨ (Mp.wide n = 2 ∧ 256 ≤ n.toNat ∧ n.toNat < 65536) ∨ (Mp.wide n = 4 ∧ 65536 ≤ n.toNat ∧ n.toNat < 4294967296) ∨ (Mp.wide n = 8 ∧ 4294967296 ≤ n.toNat) := by
  unfold Mp.wide
  have h1 : (n < 256) = (n.toNat < 256) := propext UInt64.lt_iff_toNat_lt
  have h2 : (n < 65536) = (n.toNat < 65536) := propext UInt64.lt_iff_toNat_lt
  have h3 : (n < 4294967296) = (n.toNat < 4294967296) := propext UInt64.lt_iff_toNat_lt
  simp only [h1, h2, h3]
  repeat' split
  all_goals omega
theorem maxI_max (a b : Int) : maxI a b = max a b := by unfold maxI; omega
theorem ref29_form.goal (f : UInt8) (n : UInt64) (least : Int) (hp : decide (least ≤ 8) = true) : ref29_form.F f n least = some [.sl .bs (Mp.form f n least)] := by
  have h := of_decide_eq_true hp
  refine ref29_form.F_in _ _ _ ?_
  intro v1 e1 v2 e2 v3 e3
  rw [maxI_max] at *
  have hw := Mp.wide_cases n
  have hl : v3.length ≤ 8 := by rw [e3, Cur.putHigh_len]; omega
  have h2 : v2.length = 1 := by rw [e2]; rfl
  rw [ck_of (decide_eq_true (by omega)), ck_of (big_ap (by omega) (by omega)), e2, e3, e1]; rfl
theorem Mp.form_len (f : UInt8) (n : UInt64) (least : Int) (h : least ≤ 8) : (Mp.form f n least).length ≤ 9 := by
  have hw := Mp.wide_cases n
  rw [Mp.form, List.length_cons, Cur.putHigh_len]; omega
theorem ref29_ext.goal (n k : UInt64) : ref29_ext.F n k = some [.sl .bs (Mp.ext n k)] := by
  refine ref29_ext.F_in _ _ ?_
  intro v1 e1 v2 e2 v3 e3 v4 e4 v5 e5 v6 e6 v7 e7
  rw [u8_of] at e1
  have hl : v7.length ≤ 9 := by rw [e7]; exact Mp.form_len _ _ _ (by omega)
  unfold Mp.ext
  subst e1
  by_cases a : n = 1
  · rw [decide_eq_true a, if_pos a, cond_true, e2]
  rw [decide_eq_false a, if_neg a, cond_false]
  by_cases a : n = 2
  · rw [decide_eq_true a, if_pos a, cond_true, e3]
  rw [decide_eq_false a, if_neg a, cond_false]
  by_cases a : n = 4
  · rw [decide_eq_true a, if_pos a, cond_true, e4]
  rw [decide_eq_false a, if_neg a, cond_false]
  by_cases a : n = 8
  · rw [decide_eq_true a, if_pos a, cond_true, e5]
  rw [decide_eq_false a, if_neg a, cond_false]
  by_cases a : n = 16
  · rw [decide_eq_true a, if_pos a, cond_true, e6]
  rw [decide_eq_false a, if_neg a, cond_false, ck_of (decide_eq_true (by omega)), ck_of (big_ap (by simp only [List.length_singleton]; omega) (by simp only [List.length_singleton]; omega)), e7]
theorem ref29_negative.goal (n : UInt64) : ref29_negative.F n = some [.sl .bs (Mp.put (Mp.signed n) (~~~ n))] := by
  refine ref29_negative.F_in _ ?_
  intro v1 e1 v2 e2 v3 e3 v4 e4 v5 e5 v6 e6 v7 e7 v8 e8 v9 e9
  have l2 : v2.length = 1 := by rw [e2]; rfl
  have l4 : v4.length = 1 := by rw [e4]; rfl
  have l6 : v6.length = 1 := by rw [e6]; rfl
  have l8 : v8.length = 1 := by rw [e8]; rfl
  have l3 : v3.length = 1 := by rw [e3, Cur.putHigh_len]; rfl
  have l5 : v5.length = 2 := by rw [e5, Cur.putHigh_len]; rfl
  have l7 : v7.length = 4 := by rw [e7, Cur.putHigh_len]; rfl
  have l9 : v9.length = 8 := by rw [e9, Cur.putHigh_len]; rfl
  unfold Mp.signed
  by_cases a : n < 32
  · rw [decide_eq_true a, if_pos a, cond_true, e1]
    have h := UInt64.lt_iff_toNat_lt.1 a
    simp at h
    have e : ((255 : UInt64) - n).toNat = 255 - n.toNat := by
      rw [UInt64.toNat_sub_of_le _ _ (by rw [UInt64.le_iff_toNat_le]; simp; omega)]; rfl
    rw [e, show ((255 - n.toNat : Nat) : Int) = 255 - (n.toNat : Int) by omega]
    rfl
  rw [decide_eq_false a, if_neg a, cond_false]
  by_cases a : n < 128
  · rw [decide_eq_true a, if_pos a, cond_true, ck_of (decide_eq_true (by omega)), ck_of (big_ap (by omega) (by omega)), e2, e3]; rfl
  rw [decide_eq_false a, if_neg a, cond_false]
  by_cases a : n < 32768
  · rw [decide_eq_true a, if_pos a, cond_true, ck_of (decide_eq_true (by omega)), ck_of (big_ap (by omega) (by omega)), e4, e5]; rfl
  rw [decide_eq_false a, if_neg a, cond_false]
  by_cases a : n < 2147483648
  · rw [decide_eq_true a, if_pos a, cond_true, ck_of (decide_eq_true (by omega)), ck_of (big_ap (by omega) (by omega)), e6, e7]; rfl
  rw [decide_eq_false a, if_neg a, cond_false, ck_of (decide_eq_true (by omega)), ck_of (big_ap (by omega) (by omega)), e8, e9]; rfl
theorem Mp.form1 (f : Int) (hf : 0 ≤ f ∧ f ≤ 250) (n : UInt64) (hn : n.toNat < 4294967296) : Mp.form (UInt8.ofInt f) n 1 = Mp.put (if n.toNat < 256 then (f, 1) else if n.toNat < 65536 then (f + 1, 2) else (f + 2, 4)) n := by
  have k : ∀ (d : Int) (D : UInt8), D = UInt8.ofInt d → 0 ≤ d ∧ d ≤ 5 → UInt8.ofInt f + D - 0 = UInt8.ofInt (f + d) := by
    intro d D hD hd
    subst hD
    have hs : UInt8.ofInt f + UInt8.ofInt d - 0 = UInt8.ofInt f + UInt8.ofInt d := by simp
    rw [hs]
    apply UInt8.toNat_inj.1
    obtain ⟨f', rfl⟩ : ∃ m : Nat, f = m := ⟨f.toNat, by omega⟩
    obtain ⟨d', rfl⟩ : ∃ m : Nat, d = m := ⟨d.toNat, by omega⟩
    rw [UInt8.toNat_add, u8_nat, u8_nat, show ((f' : Int) + (d' : Int)) = ((f' + d' : Nat) : Int) by omega, u8_nat]; omega
  unfold Mp.form
  rcases Mp.wide_cases n with ⟨h, h'⟩ | ⟨h, h', h2⟩ | ⟨h, h', h2⟩ | ⟨h, h'⟩
  · rw [h, if_pos h', show max (1 : Int) 1 = 1 from rfl, show Mp.step 1 = 0 from rfl, k 0 0 rfl (by omega), Int.add_zero]; rfl
  · rw [h, if_neg (by omega), if_pos h2, show max (2 : Int) 1 = 2 from rfl, show Mp.step 2 = 1 from rfl, show Mp.step 1 = 0 from rfl, k 1 1 rfl (by omega)]; rfl
  · rw [h, if_neg (by omega), if_neg (by omega), show max (4 : Int) 1 = 4 from rfl, show Mp.step 4 = 2 from rfl, show Mp.step 1 = 0 from rfl, k 2 2 rfl (by omega)]; rfl
  · omega
theorem Mp.form2 (f : UInt8) (n : UInt64) (hn : n.toNat < 4294967296) (g : Int) (hg : f = UInt8.ofInt g) (hg1 : f + 2 - 1 = UInt8.ofInt (g + 1)) (hg0 : f + 1 - 1 = f) : Mp.form f n 2 = Mp.put (if n.toNat < 65536 then (g, 2) else (g + 1, 4)) n := by
  unfold Mp.form
  rcases Mp.wide_cases n with ⟨h, h'⟩ | ⟨h, h', h2⟩ | ⟨h, h', h2⟩ | ⟨h, h'⟩
  · rw [h, if_pos (by omega), show max (1 : Int) 2 = 2 from rfl, show Mp.step 2 = 1 from rfl, hg0, hg]; rfl
  · rw [h, if_pos h2, show max (2 : Int) 2 = 2 from rfl, show Mp.step 2 = 1 from rfl, hg0, hg]; rfl
  · rw [h, if_neg (by omega), show max (4 : Int) 2 = 4 from rfl, show Mp.step 4 = 2 from rfl, show Mp.step 2 = 1 from rfl, hg1]; rfl
  · omega
end Go.Eng
namespace Go.Eng
open Go.IntWalk
theorem u64_small {n : Nat} (h : n < 4294967296) : (UInt64.ofNat n).toNat = n := by rw [UInt64.toNat_ofNat']; omega
theorem high0 (n : UInt64) : Cur.high n 0 = [] := rfl
theorem Mp.sized_text (m : Int) : Mp.sized 4 m = if m < 32 then (160 + m, 0) else if m < 256 then (217, 1) else if m < 65536 then (218, 2) else (219, 4) := by simp [Mp.sized, Mp.fixed, Mp.fix, Mp.tab, Mp.base]
theorem Mp.sized_bytes (m : Int) (h : 0 ≤ m) : Mp.sized 3 m = if m < 256 then (196, 1) else if m < 65536 then (197, 2) else (198, 4) := by
  have : ¬ m < 0 := by omega
  simp [Mp.sized, Mp.fixed, Mp.fix, Mp.tab, Mp.base, this]
theorem Mp.sized_list (m : Int) : Mp.sized 5 m = if m < 16 then (144 + m, 0) else if m < 65536 then (220, 2) else (221, 4) := by simp [Mp.sized, Mp.fixed, Mp.fix, Mp.tab, Mp.base]
theorem Mp.sized_map (m : Int) : Mp.sized 6 m = if m < 16 then (128 + m, 0) else if m < 65536 then (222, 2) else (223, 4) := by simp [Mp.sized, Mp.fixed, Mp.fix, Mp.tab, Mp.base]
theorem Mp.sized_ext (m : Int) (h : 0 ≤ m) (h1 : m ≠ 1) (h2 : m ≠ 2) (h4 : m ≠ 4) (h8 : m ≠ 8) (h16 : m ≠ 16) : Mp.sized 10 m = if m < 256 then (199, 1) else if m < 65536 then (200, 2) else (201, 4) := by
  have : ¬ m < 0 := by omega
  simp [Mp.sized, Mp.fixed, Mp.fix, Mp.tab, Mp.base, this, h1, h2, h4, h8, h16]
theorem put_if3 (m : Nat) (a b c : Int × Int) (n : UInt64) : Mp.put (if m < 256 then a else if m < 65536 then b else c) n = Mp.put (if (m : Int) < 256 then a else if (m : Int) < 65536 then b else c) n := by
  refine congrArg (fun f => Mp.put f n) ?_
  by_cases x : m < 256
  · rw [if_pos x, if_pos (show (m : Int) < 256 by omega)]
  · rw [if_neg x, if_neg (show ¬ (m : Int) < 256 by omega)]
    by_cases y : m < 65536
    · rw [if_pos y, if_pos (show (m : Int) < 65536 by omega)]
    · rw [if_neg y, if_neg (show ¬ (m : Int) < 65536 by omega)]
theorem put_if2 (m : Nat) (a b : Int × Int) (n : UInt64) : Mp.put (if m < 65536 then a else b) n = Mp.put (if (m : Int) < 65536 then a else b) n := by
  refine congrArg (fun f => Mp.put f n) ?_
  by_cases y : m < 65536
  · rw [if_pos y, if_pos (show (m : Int) < 65536 by omega)]
  · rw [if_neg y, if_neg (show ¬ (m : Int) < 65536 by omega)]
theorem Mp.form_text (m : Nat) (h : m < 4294967296) : (if m < 32 then [UInt8.ofInt (160 + (m : Int))] else Mp.form 217 (UInt64.ofNat m) 1) = Mp.put (Mp.sized 4 m) (UInt64.ofNat m) := by
  rw [Mp.sized_text]
  by_cases a : m < 32
  · rw [if_pos a, if_pos (show (m : Int) < 32 by omega)]; rfl
  · rw [if_neg a, if_neg (show ¬ (m : Int) < 32 by omega), show (217 : UInt8) = UInt8.ofInt 217 from rfl, Mp.form1 217 (by omega) _ (by rw [u64_small h]; exact h), u64_small h]
    exact put_if3 m _ _ _ _
theorem Mp.form_bytes (m : Nat) (h : m < 4294967296) : Mp.form 196 (UInt64.ofNat m) 1 = Mp.put (Mp.sized 3 m) (UInt64.ofNat m) := by
  rw [Mp.sized_bytes _ (by omega), show (196 : UInt8) = UInt8.ofInt 196 from rfl, Mp.form1 196 (by omega) _ (by rw [u64_small h]; exact h), u64_small h]
  exact put_if3 m _ _ _ _
theorem Mp.form_list (m : Nat) (h : m < 4294967296) : (if m < 16 then [UInt8.ofInt (144 + (m : Int))] else Mp.form 220 (UInt64.ofNat m) 2) = Mp.put (Mp.sized 5 m) (UInt64.ofNat m) := by
  rw [Mp.sized_list]
  by_cases a : m < 16
  · rw [if_pos a, if_pos (show (m : Int) < 16 by omega)]; rfl
  · rw [if_neg a, if_neg (show ¬ (m : Int) < 16 by omega), Mp.form2 220 _ (by rw [u64_small h]; exact h) 220 rfl rfl rfl, u64_small h]
    exact put_if2 m _ _ _
theorem Mp.form_map (m : Nat) (h : m < 4294967296) : (if m < 16 then [UInt8.ofInt (128 + (m : Int))] else Mp.form 222 (UInt64.ofNat m) 2) = Mp.put (Mp.sized 6 m) (UInt64.ofNat m) := by
  rw [Mp.sized_map]
  by_cases a : m < 16
  · rw [if_pos a, if_pos (show (m : Int) < 16 by omega)]; rfl
  · rw [if_neg a, if_neg (show ¬ (m : Int) < 16 by omega), Mp.form2 222 _ (by rw [u64_small h]; exact h) 222 rfl rfl rfl, u64_small h]
    exact put_if2 m _ _ _
theorem Mp.form_ext (m : Nat) (t : UInt64) (h : m < 4294967296) : Mp.ext (UInt64.ofNat m) t = Mp.put (Mp.sized 10 m) (UInt64.ofNat m) ++ [t.toUInt8] := by
  have e : ∀ k : Nat, k < 17 → (UInt64.ofNat m = UInt64.ofNat k) = (m = k) := by
    intro k hk
    apply propext
    constructor
    · intro q
      have := congrArg UInt64.toNat q
      rwa [u64_small h, u64_small (by omega)] at this
    · rintro rfl; rfl
  have e1 := e 1 (by omega); have e2 := e 2 (by omega); have e4 := e 4 (by omega); have e8 := e 8 (by omega); have e16 := e 16 (by omega)
  unfold Mp.ext
  by_cases a : m = 1
  · subst a; rfl
  by_cases a2 : m = 2
  · subst a2; rfl
  by_cases a4 : m = 4
  · subst a4; rfl
  by_cases a8 : m = 8
  · subst a8; rfl
  by_cases a16 : m = 16
  · subst a16; rfl
  have n1 : ¬ UInt64.ofNat m = 1 := fun q => a (e1.mp q)
  have n2 : ¬ UInt64.ofNat m = 2 := fun q => a2 (e2.mp q)
  have n4 : ¬ UInt64.ofNat m = 4 := fun q => a4 (e4.mp q)
  have n8 : ¬ UInt64.ofNat m = 8 := fun q => a8 (e8.mp q)
  have n16 : ¬ UInt64.ofNat m = 16 := fun q => a16 (e16.mp q)
  rw [if_neg n1, if_neg n2, if_neg n4, if_neg n8, if_neg n16]
  congr 1
  rw [Mp.sized_ext _ (by omega) (by omega) (by omega) (by omega) (by omega) (by omega), show (199 : UInt8) = UInt8.ofInt 199 from rfl, Mp.form1 199 (by omega) _ (by rw [u64_small h]; exact h), u64_small h]
  exact put_if3 m _ _ _ _
theorem Mp.form_uint (n : UInt64) : (if n < 128 then [UInt8.ofInt (n.toNat : Int)] else Mp.form 204 n 1) = Mp.put (Mp.unsigned n) n := by
  unfold Mp.unsigned
  by_cases a : n < 128
  · rw [if_pos a, if_pos a]; rfl
  rw [if_neg a, if_neg a]
  unfold Mp.form
  have h1 : (n < 256) = (n.toNat < 256) := propext UInt64.lt_iff_toNat_lt
  have h2 : (n < 65536) = (n.toNat < 65536) := propext UInt64.lt_iff_toNat_lt
  have h3 : (n < 4294967296) = (n.toNat < 4294967296) := propext UInt64.lt_iff_toNat_lt
  simp only [h1, h2, h3]
  rcases Mp.wide_cases n with ⟨h, h'⟩ | ⟨h, h', h2⟩ | ⟨h, h', h2⟩ | ⟨h, h'⟩
  · rw [h, if_pos h']; rfl
  · rw [h, if_neg (by omega), if_pos h2]; rfl
  · rw [h, if_neg (by omega), if_neg (by omega), if_pos h2]; rfl
  · rw [h, if_neg (by omega), if_neg (by omega), if_neg (by omega)]; rfl
theorem ref29_head.goal (it : Itv) (hp : (decide (Itm.bulk (Itm.of it) ≤ 1099511627776) && decide (Mp.own (Itm.of it) = 0)) = true) : ref29_head.F it = some [.sl .bs (Mp.head (Itm.of it))] := by
  simp only [Bool.and_eq_true, decide_eq_true_eq] at hp
  obtain ⟨hb, ho⟩ := hp
  obtain ⟨p1, p2, p3, p4, p5, p6, p7, p8, p9, p10, p11, p12, p13, p14⟩ := Mp.own0 it ho
  obtain ⟨k, u, b, t, ks⟩ := it
  simp only at p1 p2 p3 p4 p5 p6 p7 p8 p9 p10 p11 p12 p13 p14
  refine ref29_head.F_in _ ?_
  intro v1 e1 v2 e2 v3 e3 v4 e4 v5 e5 v6 e6 v7 e7 v8 e8 v9 e9 v10 e10 v11 e11 v12 e12 v13 e13 v14 e14 v15 e15 v16 e16 v17 e17 v18 e18 v19 e19 v20 e20 v21 e21 v22 e22
  simp only at e1 e2 e3 e5 e7 e8 e12 e14 e22 ⊢
  have hk' : k = 1 ∨ k = 2 ∨ k = 3 ∨ k = 4 ∨ k = 5 ∨ k = 6 ∨ k = 8 ∨ k = 9 ∨ k = 10 := by omega
  have le1 : (decide ((1 : Int) ≤ 8)) = true := rfl
  have le2 : (decide ((2 : Int) ≤ 8)) = true := rfl
  have le8 : (decide ((0 : Int) ≤ 8 ∧ (8 : Int) ≤ 8)) = true := rfl
  rcases hk' with rfl | rfl | rfl | rfl | rfl | rfl | rfl | rfl | rfl
  all_goals simp only [Int.reduceEq, decide_true, decide_false, cond_true, cond_false, le1, le2, le8, ck_true, Bool.not_false, Itm.of, Mp.head, if_true, if_false]
  · rw [← Mp.form_uint, e1, e2]
    by_cases a : u < 128
    · rw [decide_eq_true a, if_pos a, cond_true]
    · rw [decide_eq_false a, if_neg a, cond_false]
  · rw [e3]
  · rw [e13, e12, u64_nat', Mp.form_bytes _ p10]
  · rw [← Mp.form_text _ p11]
    by_cases a : t.length < 32
    · rw [decide_eq_true (by omega), cond_true, if_pos a, e10, e9, e8, i64_in _ (by omega)]
    · rw [decide_eq_false (by omega), cond_false, if_neg a, e11, e8, u64_nat']
  · have q := p12 rfl
    rw [← Mp.form_list _ q]
    by_cases a : ks.length < 16
    · rw [decide_eq_true (by omega), cond_true, if_pos a, e16, e15, e14, i64_in _ (by omega)]
    · rw [decide_eq_false (by omega), cond_false, if_neg a, e17, e14, u64_nat']
  · have hks := Itm.bulk_kids ks
    rw [Itm.bulk_of] at hb
    simp only at hb
    have e18' : v18 = ((ks.length / 2 : Nat) : Int) := by rw [e18, e14, show Int.tdiv (ks.length : Int) 2 = ((ks.length / 2 : Nat) : Int) from rfl, i64_in _ (by omega)]
    rw [← Mp.form_map _ p13]
    by_cases a : ks.length < 32
    · rw [decide_eq_true (by omega), cond_true, if_pos (by omega), e20, e19, e18', i64_in _ (by omega)]
    · rw [decide_eq_false (by omega), cond_false, if_neg (by omega), e21, e18', u64_nat']
  · obtain ⟨q1, q2⟩ := p7 rfl
    have hu : u = 20 ∨ u = 21 ∨ u = 22 := by
      have a := UInt64.le_iff_toNat_le.1 q1
      have b := UInt64.le_iff_toNat_le.1 q2
      simp at a b
      have : u.toNat = 20 ∨ u.toNat = 21 ∨ u.toNat = 22 := by omega
      rcases this with h | h | h
      · exact .inl (UInt64.toNat_inj.1 h)
      · exact .inr (.inl (UInt64.toNat_inj.1 h))
      · exact .inr (.inr (UInt64.toNat_inj.1 h))
    rw [e5, e4]
    rcases hu with rfl | rfl | rfl <;> rfl
  · have l6 : v6.length = 1 := by rw [e6]; rfl
    have l7 : v7.length = 8 := by rw [e7, Cur.putHigh_len]; rfl
    rw [ck_of (big_ap (by omega) (by omega)), e6, e7]; rfl
  · rw [e22, e12, u64_nat', Mp.form_ext _ _ p10]
theorem ref29_lay.l1_ok (n : Nat) (it : Itv) (hb : 16 * Itm.bulks it.kids ≤ 1099511627776) (hn : Itm.bulks it.kids < n) : ∀ (m i : Nat) (acc : Str), i + m = it.kids.length → acc.length + 16 * Itm.bulks (it.kids.drop i) ≤ 2199023255552 → Mp.chks (it.kids.drop i) = 0 →
    ref29_lay.l1 n acc i it = some [.sl .bs (acc ++ Mp.lays (it.kids.drop i))] := by
  have hk := Itm.bulk_kids it.kids
  intro m
  induction m with
  | zero =>
    intro i acc hi _ _
    refine ref29_lay.l1_in _ _ _ _ ?_
    intro v1 e1 v2 e2 v3 e3
    rw [decide_eq_false (by omega), cond_false, List.drop_of_length_le (by omega), show Mp.lays [] = [] from rfl, List.append_nil]
  | succ m ih =>
    intro i acc hi ha hc
    refine ref29_lay.l1_in _ _ _ _ ?_
    intro v1 e1 v2 e2 v3 e3
    have hi' : i < it.kids.length := by omega
    have hb' := Itm.bulks_at it.kids i hi'
    have hd := Itm.bulks_drop it.kids i hi'
    rw [drop_cons hi' (STy.dflt .il)] at hc
    obtain ⟨c1, c2⟩ := Mp.chks_cons hc
    have hl := Mp.lay_len (it.kids.getD i (STy.dflt .il))
    rw [Int.toNat_natCast, Itm.of_val] at e2
    rw [decide_eq_true (by omega), cond_true, ck_of (idx_ok (by omega) (by omega)), Int.toNat_natCast, Itm.of_val, ck_of (by rw [decide_eq_true (by omega), decide_eq_true c1, decide_eq_true (by omega)]; rfl), ck_of (big_ap (by rw [e2]; omega) (by rw [e2]; omega)), show v3 = ((i + 1 : Nat) : Int) by rw [e3, i64_in _ (by omega)]; omega, ih _ _ (by omega) (by rw [e2, List.length_append]; omega) c2, e2, drop_cons hi' (STy.dflt .il), Mp.lays, List.append_assoc]
theorem ref29_lay.goal (n : Nat) (it : Itv) (hp : ((decide (16 * Itm.bulk (Itm.of it) ≤ 1099511627776) && decide (Mp.chk (Itm.of it) = 0)) && decide ((Itm.bulk (Itm.of it)) < n + 1)) = true) : ref29_lay.F n it = some [.sl .bs (Mp.lay (Itm.of it))] := by
  simp only [Bool.and_eq_true, decide_eq_true_eq] at hp
  obtain ⟨⟨hb, hc⟩, hn⟩ := hp
  obtain ⟨ho, hcs⟩ := Mp.chk0 it hc
  refine ref29_lay.F_in _ _ ?_
  intro v1 e1
  have hh := Mp.head_len (Itm.of it)
  rw [ck_of (by rw [decide_eq_true (by omega), decide_eq_true ho]; rfl)]
  rw [Itm.bulk_of] at hb hn
  rw [ck_of (big_ap (by omega) (by omega)), ck_of (big_ap (by rw [e1, List.length_append]; omega) (by rw [e1, List.length_append]; omega)), Mp.lay_of, e1]
  exact ref29_lay.l1_ok n it (by omega) (by omega) it.kids.length 0 _ (by omega) (by simp only [List.length_append]; show _ + 16 * Itm.bulks it.kids ≤ _; omega) hcs
theorem ref29_Encode.goal (it : Itv) (hp : decide (Itm.bulk (Itm.of it) ≤ 1073741824) = true) : ref29_Encode.F it = some [.sl .bs (Mp.enc (Itm.of it)), .i .i64 (Mp.chk (Itm.of it))] := by
  have h := of_decide_eq_true hp
  rw [ref29_Encode.F_eq, ck_of (decide_eq_true (by omega)), Mp.enc]
  by_cases a : Mp.chk (Itm.of it) = 0
  · rw [decide_eq_true a, Bool.not_true, cond_false, if_pos a, ck_of (by rw [decide_eq_true (by omega)]; rfl), a]
  · rw [decide_eq_false a, Bool.not_false, cond_true, if_neg a]
theorem ref29_below.goal (n : UInt64) (size : Int) (hp : decide (size = 1 ∨ size = 2 ∨ size = 4 ∨ size = 8) = true) : ref29_below.F n size = some [.u64 ((Mp.below n size).getD 0), .b (Mp.below n size).isSome] := by
  have h := of_decide_eq_true hp
  refine ref29_below.F_in _ _ ?_
  intro v1 e1 v2 e2 v3 e3 v4 e4
  have e3' : v3 = if size = 1 then 128 else if size = 2 then 32768 else if size = 4 then 2147483648 else 9223372036854775808 := by
    rw [e3, e2, e1]
    rcases h with rfl | rfl | rfl | rfl <;> rfl
  rw [e4, Mp.below]
  simp only [← e3']
  by_cases a : n < v3
  · rw [decide_eq_true a, if_pos a]; rfl
  · rw [decide_eq_false a, if_neg a]; rfl
end Go.Eng
namespace Go.Eng
open Go.IntWalk
theorem Cur.putLow_mod : ∀ (n : Nat) (v w : UInt64), v.toNat % 256 ^ n = w.toNat % 256 ^ n → Cur.putLow v n = Cur.putLow w n
  | 0, _, _, _ => rfl
  | n + 1, v, w, h => by
    have hd : ∀ x : Nat, x % 256 ^ (n + 1) % 256 = x % 256 := fun x => Nat.mod_mod_of_dvd x ⟨256 ^ n, by rw [Nat.pow_succ, Nat.mul_comm]⟩
    have hq : ∀ x : Nat, x % 256 ^ (n + 1) / 256 = x / 256 % 256 ^ n := fun x => by rw [Nat.pow_succ, Nat.mul_comm, Nat.mod_mul_right_div_self]
    have h1 : v.toUInt8 = w.toUInt8 := by
      apply UInt8.toNat_inj.1
      rw [UInt64.toNat_toUInt8, UInt64.toNat_toUInt8]
      have a := hd v.toNat; have b := hd w.toNat
      rw [h] at a
      show v.toNat % 256 = w.toNat % 256
      omega
    have h2 : (v / 256).toNat % 256 ^ n = (w / 256).toNat % 256 ^ n := by
      rw [UInt64.toNat_div, UInt64.toNat_div, show (256 : UInt64).toNat = 256 from rfl, ← hq, ← hq, h]
    rw [Cur.putLow, Cur.putLow, h1, Cur.putLow_mod n _ _ h2]
theorem Cur.putHigh_mod (n : Nat) (v w : UInt64) (h : v.toNat % 256 ^ n = w.toNat % 256 ^ n) : Cur.putHigh v n = Cur.putHigh w n := by
  rw [Cur.putHigh, Cur.putHigh, Cur.putLow_mod n v w h]
theorem Cur.be_snoc (l : Str) (y : UInt8) : Cur.be (l ++ [y]) = Cur.be l * 256 + y.toUInt64 := by
  rw [Cur.be, List.foldl_append]; rfl
theorem Cur.put_be : ∀ (n : Nat) (l : Str), l.length = n → n ≤ 8 → Cur.putHigh (Cur.be l) n = l
  | 0, l, h, _ => by
    have : l = [] := List.eq_nil_of_length_eq_zero h
    subst this; rfl
  | n + 1, l, h, hn => by
    obtain ⟨l', y, rfl⟩ : ∃ l' y, l = l' ++ [y] := ⟨l.dropLast, l.getLast (by intro q; rw [q] at h; cases h), (List.dropLast_concat_getLast _).symm⟩
    have hl : l'.length = n := by simpa using h
    have hb := Cur.be_bound l' n hl (by omega)
    have hp : 256 ^ n ≤ 256 ^ 7 := Nat.pow_le_pow_right (by omega) (by omega)
    have hy := y.toNat_lt
    have hv : (Cur.be l' * 256 + y.toUInt64).toNat = (Cur.be l').toNat * 256 + y.toNat := by
      rw [UInt64.toNat_add, UInt64.toNat_mul, UInt8.toNat_toUInt64, show (256 : UInt64).toNat = 256 from rfl]; omega
    rw [Cur.be_snoc, Cur.putHigh, Cur.putLow, List.reverse_cons]
    have h1 : (Cur.be l' * 256 + y.toUInt64).toUInt8 = y := by
      apply UInt8.toNat_inj.1
      rw [UInt64.toNat_toUInt8, hv]; omega
    have h2 : (Cur.be l' * 256 + y.toUInt64) / 256 = Cur.be l' := by
      apply UInt64.toNat_inj.1
      rw [UInt64.toNat_div, hv, show (256 : UInt64).toNat = 256 from rfl]; omega
    rw [h1, h2]
    have := Cur.put_be n l' hl (by omega)
    rw [Cur.putHigh] at this
    rw [this]
theorem Cur.be_put : ∀ (n : Nat) (v : UInt64), n ≤ 8 → (Cur.be (Cur.putHigh v n)).toNat = v.toNat % 256 ^ n
  | 0, v, _ => by rw [Nat.pow_zero, Nat.mod_one]; rfl
  | n + 1, v, hn => by
    have ih := Cur.be_put n (v / 256) (by omega)
    have hp : 256 ^ n ≤ 256 ^ 7 := Nat.pow_le_pow_right (by omega) (by omega)
    have h1 : Cur.putHigh v (n + 1) = Cur.putHigh (v / 256) n ++ [v.toUInt8] := by rw [Cur.putHigh, Cur.putLow, List.reverse_cons]; rfl
    have hlt : (v / 256).toNat % 256 ^ n < 256 ^ n := Nat.mod_lt _ (Nat.pow_pos (by omega))
    rw [h1, Cur.be_snoc, UInt64.toNat_add, UInt64.toNat_mul, ih, UInt8.toNat_toUInt64, UInt64.toNat_toUInt8, show (256 : UInt64).toNat = 256 from rfl]
    rw [UInt64.toNat_div, show (256 : UInt64).toNat = 256 from rfl] at hlt ⊢
    have hm : v.toNat % 256 ^ (n + 1) = v.toNat % 256 + 256 * (v.toNat / 256 % 256 ^ n) := by rw [Nat.pow_succ, Nat.mul_comm (256 ^ n), Nat.mod_mul]
    have h8 : v.toNat % 2 ^ 8 = v.toNat % 256 := rfl
    rw [hm, h8]; omega
theorem ofInt_toNat (n : UInt64) : UInt64.ofInt (n.toNat : Int) = n := by
  apply UInt64.toNat_inj.1
  have := n.toNat_lt
  rw [u64_nat]; omega
theorem Mp.first_unsigned (n : UInt64) : Mp.first (Mp.unsigned n).1 = (1, if (Mp.unsigned n).2 = 0 then n else 0, (Mp.unsigned n).2) ∧ 0 ≤ (Mp.unsigned n).1 ∧ (Mp.unsigned n).1 ≤ 255 ∧ ((Mp.unsigned n).2 ≠ 0 → n.toNat < 256 ^ (Mp.unsigned n).2.toNat) := by
  unfold Mp.unsigned
  have hlt := n.toNat_lt
  by_cases a : n < 128
  · have h := UInt64.lt_iff_toNat_lt.1 a
    simp at h
    rw [if_pos a]
    refine ⟨?_, by show (0 : Int) ≤ _; omega, by show (n.toNat : Int) ≤ 255; omega, fun h => (h rfl).elim⟩
    show Mp.first (n.toNat : Int) = (1, n, 0)
    rw [Mp.first, if_pos (by omega), ofInt_toNat]
  rw [if_neg a]
  by_cases a : n < 256
  · have h := UInt64.lt_iff_toNat_lt.1 a
    rw [if_pos a]; exact ⟨rfl, by decide, by decide, fun _ => h⟩
  rw [if_neg a]
  by_cases a : n < 65536
  · have h := UInt64.lt_iff_toNat_lt.1 a
    rw [if_pos a]; exact ⟨rfl, by decide, by decide, fun _ => h⟩
  rw [if_neg a]
  by_cases a : n < 4294967296
  · have h := UInt64.lt_iff_toNat_lt.1 a
    rw [if_pos a]; exact ⟨rfl, by decide, by decide, fun _ => h⟩
  rw [if_neg a]; exact ⟨rfl, by decide, by decide, fun _ => hlt⟩
theorem Mp.first_signed (n : UInt64) : Mp.first (Mp.signed n).1 = (2, if (Mp.signed n).2 = 0 then n else 0, (Mp.signed n).2) ∧ 0 ≤ (Mp.signed n).1 ∧ (Mp.signed n).1 ≤ 255 ∧ ((Mp.signed n).2 = 1 ∧ n.toNat < 128 ∨ (Mp.signed n).2 = 2 ∧ n.toNat < 32768 ∨ (Mp.signed n).2 = 4 ∧ n.toNat < 2147483648 ∨ (Mp.signed n).2 = 8 ∨ (Mp.signed n).2 = 0 ∧ n.toNat < 32) := by
  unfold Mp.signed
  by_cases a : n < 32
  · have h := UInt64.lt_iff_toNat_lt.1 a
    simp at h
    rw [if_pos a]
    refine ⟨?_, by show (0 : Int) ≤ 255 - (n.toNat : Int); omega, by show 255 - (n.toNat : Int) ≤ 255; omega, .inr (.inr (.inr (.inr ⟨rfl, h⟩)))⟩
    show Mp.first (255 - (n.toNat : Int)) = (2, n, 0)
    rw [Mp.first, if_neg (by omega), if_neg (by omega), if_neg (by omega), if_neg (by omega), if_pos (by omega), show 255 - (255 - (n.toNat : Int)) = (n.toNat : Int) by omega, ofInt_toNat]
  rw [if_neg a]
  by_cases a : n < 128
  · have h := UInt64.lt_iff_toNat_lt.1 a
    rw [if_pos a]; exact ⟨rfl, by decide, by decide, .inl ⟨rfl, h⟩⟩
  rw [if_neg a]
  by_cases a : n < 32768
  · have h := UInt64.lt_iff_toNat_lt.1 a
    rw [if_pos a]; exact ⟨rfl, by decide, by decide, .inr (.inl ⟨rfl, h⟩)⟩
  rw [if_neg a]
  by_cases a : n < 2147483648
  · have h := UInt64.lt_iff_toNat_lt.1 a
    rw [if_pos a]; exact ⟨rfl, by decide, by decide, .inr (.inr (.inl ⟨rfl, h⟩))⟩
  rw [if_neg a]; exact ⟨rfl, by decide, by decide, .inr (.inr (.inr (.inl rfl)))⟩
theorem Mp.first_sized (k : Int) (hk : k = 3 ∨ k = 4 ∨ k = 5 ∨ k = 6 ∨ k = 10) (m : Nat) (h : m < 4294967296) :
    Mp.first (Mp.sized k m).1 = (k, if (Mp.sized k m).2 = 0 then UInt64.ofNat m else 0, (Mp.sized k m).2) ∧ 0 ≤ (Mp.sized k m).1 ∧ (Mp.sized k m).1 ≤ 255 ∧ ((Mp.sized k m).2 ≠ 0 → m < 256 ^ (Mp.sized k m).2.toNat) := by
  have big : ∀ (f1 f2 f4 : Int), Mp.first f1 = (k, 0, 1) → Mp.first f2 = (k, 0, 2) → Mp.first f4 = (k, 0, 4) → (0 ≤ f1 ∧ f1 ≤ 255) → (0 ≤ f2 ∧ f2 ≤ 255) → (0 ≤ f4 ∧ f4 ≤ 255) → ∀ S : Int × Int, S = (if (m : Int) < 256 then (f1, 1) else if (m : Int) < 65536 then (f2, 2) else (f4, 4)) →
      Mp.first S.1 = (k, if S.2 = 0 then UInt64.ofNat m else 0, S.2) ∧ 0 ≤ S.1 ∧ S.1 ≤ 255 ∧ (S.2 ≠ 0 → m < 256 ^ S.2.toNat) := by
    intro f1 f2 f4 h1 h2 h4 b1 b2 b4 S hS
    by_cases a : (m : Int) < 256
    · rw [if_pos a] at hS; subst hS; exact ⟨h1, b1.1, b1.2, fun _ => by show m < 256; omega⟩
    rw [if_neg a] at hS
    by_cases a : (m : Int) < 65536
    · rw [if_pos a] at hS; subst hS; exact ⟨h2, b2.1, b2.2, fun _ => by show m < 65536; omega⟩
    rw [if_neg a] at hS; subst hS; exact ⟨h4, b4.1, b4.2, fun _ => h⟩
  have big2 : ∀ (f2 f4 : Int), Mp.first f2 = (k, 0, 2) → Mp.first f4 = (k, 0, 4) → (0 ≤ f2 ∧ f2 ≤ 255) → (0 ≤ f4 ∧ f4 ≤ 255) → ∀ S : Int × Int, S = (if (m : Int) < 65536 then (f2, 2) else (f4, 4)) →
      Mp.first S.1 = (k, if S.2 = 0 then UInt64.ofNat m else 0, S.2) ∧ 0 ≤ S.1 ∧ S.1 ≤ 255 ∧ (S.2 ≠ 0 → m < 256 ^ S.2.toNat) := by
    intro f2 f4 h2 h4 b2 b4 S hS
    by_cases a : (m : Int) < 65536
    · rw [if_pos a] at hS; subst hS; exact ⟨h2, b2.1, b2.2, fun _ => by show m < 65536; omega⟩
    rw [if_neg a] at hS; subst hS; exact ⟨h4, b4.1, b4.2, fun _ => h⟩
  rcases hk with rfl | rfl | rfl | rfl | rfl
  · exact big 196 197 198 rfl rfl rfl (by omega) (by omega) (by omega) _ (Mp.sized_bytes _ (by omega))
  · by_cases a : (m : Int) < 32
    · rw [Mp.sized_text, if_pos a]
      refine ⟨?_, by show 0 ≤ 160 + (m : Int); omega, by show 160 + (m : Int) ≤ 255; omega, fun h => (h rfl).elim⟩
      show Mp.first (160 + (m : Int)) = (4, UInt64.ofNat m, 0)
      rw [Mp.first, if_neg (by omega), if_neg (by omega), if_neg (by omega), if_pos (by omega), show 160 + (m : Int) - 160 = m by omega, u64_nat']
    · exact big 217 218 219 rfl rfl rfl (by omega) (by omega) (by omega) _ (by rw [Mp.sized_text, if_neg a])
  · by_cases a : (m : Int) < 16
    · rw [Mp.sized_list, if_pos a]
      refine ⟨?_, by show 0 ≤ 144 + (m : Int); omega, by show 144 + (m : Int) ≤ 255; omega, fun h => (h rfl).elim⟩
      show Mp.first (144 + (m : Int)) = (5, UInt64.ofNat m, 0)
      rw [Mp.first, if_neg (by omega), if_neg (by omega), if_pos (by omega), show 144 + (m : Int) - 144 = m by omega, u64_nat']
    · exact big2 220 221 rfl rfl (by omega) (by omega) _ (by rw [Mp.sized_list, if_neg a])
  · by_cases a : (m : Int) < 16
    · rw [Mp.sized_map, if_pos a]
      refine ⟨?_, by show 0 ≤ 128 + (m : Int); omega, by show 128 + (m : Int) ≤ 255; omega, fun h => (h rfl).elim⟩
      show Mp.first (128 + (m : Int)) = (6, UInt64.ofNat m, 0)
      rw [Mp.first, if_neg (by omega), if_pos (by omega), show 128 + (m : Int) - 128 = m by omega, u64_nat']
    · exact big2 222 223 rfl rfl (by omega) (by omega) _ (by rw [Mp.sized_map, if_neg a])
  · by_cases a : m = 1 ∨ m = 2 ∨ m = 4 ∨ m = 8 ∨ m = 16
    · rcases a with rfl | rfl | rfl | rfl | rfl <;> exact ⟨rfl, by decide, by decide, fun h => (h rfl).elim⟩
    · exact big 199 200 201 rfl rfl rfl (by omega) (by omega) (by omega) _ (Mp.sized_ext _ (by omega) (by omega) (by omega) (by omega) (by omega) (by omega))
end Go.Eng
namespace Go.Eng
open Go.IntWalk
theorem ref29_first.k192 : ref29_first.F 192 = some [.i .i64 (Mp.first 192).1, .u64 (Mp.first 192).2.1, .i .i64 (Mp.first 192).2.2, .i .i64 (if (Mp.first 192).1 = 10 then 1 else 0)] := by kernel_rfl
theorem ref29_first.k193 : ref29_first.F 193 = some [.i .i64 (Mp.first 193).1, .u64 (Mp.first 193).2.1, .i .i64 (Mp.first 193).2.2, .i .i64 (if (Mp.first 193).1 = 10 then 1 else 0)] := by kernel_rfl
theorem ref29_first.k194 : ref29_first.F 194 = some [.i .i64 (Mp.first 194).1, .u64 (Mp.first 194).2.1, .i .i64 (Mp.first 194).2.2, .i .i64 (if (Mp.first 194).1 = 10 then 1 else 0)] := by kernel_rfl
theorem ref29_first.k195 : ref29_first.F 195 = some [.i .i64 (Mp.first 195).1, .u64 (Mp.first 195).2.1, .i .i64 (Mp.first 195).2.2, .i .i64 (if (Mp.first 195).1 = 10 then 1 else 0)] := by kernel_rfl
theorem ref29_first.k196 : ref29_first.F 196 = some [.i .i64 (Mp.first 196).1, .u64 (Mp.first 196).2.1, .i .i64 (Mp.first 196).2.2, .i .i64 (if (Mp.first 196).1 = 10 then 1 else 0)] := by kernel_rfl
theorem ref29_first.k197 : ref29_first.F 197 = some [.i .i64 (Mp.first 197).1, .u64 (Mp.first 197).2.1, .i .i64 (Mp.first 197).2.2, .i .i64 (if (Mp.first 197).1 = 10 then 1 else 0)] := by kernel_rfl
theorem ref29_first.k198 : ref29_first.F 198 = some [.i .i64 (Mp.first 198).1, .u64 (Mp.first 198).2.1, .i .i64 (Mp.first 198).2.2, .i .i64 (if (Mp.first 198).1 = 10 then 1 else 0)] := by kernel_rfl
theorem ref29_first.k199 : ref29_first.F 199 = some [.i .i64 (Mp.first 199).1, .u64 (Mp.first 199).2.1, .i .i64 (Mp.first 199).2.2, .i .i64 (if (Mp.first 199).1 = 10 then 1 else 0)] := by kernel_rfl
theorem ref29_first.k200 : ref29_first.F 200 = some [.i .i64 (Mp.first 200).1, .u64 (Mp.first 200).2.1, .i .i64 (Mp.first 200).2.2, .i .i64 (if (Mp.first 200).1 = 10 then 1 else 0)] := by kernel_rfl
theorem ref29_first.k201 : ref29_first.F 201 = some [.i .i64 (Mp.first 201).1, .u64 (Mp.first 201).2.1, .i .i64 (Mp.first 201).2.2, .i .i64 (if (Mp.first 201).1 = 10 then 1 else 0)] := by kernel_rfl
theorem ref29_first.k202 : ref29_first.F 202 = some [.i .i64 (Mp.first 202).1, .u64 (Mp.first 202).2.1, .i .i64 (Mp.first 202).2.2, .i .i64 (if (Mp.first 202).1 = 10 then 1 else 0)] := by kernel_rfl
theorem ref29_first.k203 : ref29_first.F 203 = some [.i .i64 (Mp.first 203).1, .u64 (Mp.first 203).2.1, .i .i64 (Mp.first 203).2.2, .i .i64 (if (Mp.first 203).1 = 10 then 1 else 0)] := by kernel_rfl
theorem ref29_first.k204 : ref29_first.F 204 = some [.i .i64 (Mp.first 204).1, .u64 (Mp.first 204).2.1, .i .i64 (Mp.first 204).2.2, .i .i64 (if (Mp.first 204).1 = 10 then 1 else 0)] := by kernel_rfl
theorem ref29_first.k205 : ref29_first.F 205 = some [.i .i64 (Mp.first 205).1, .u64 (Mp.first 205).2.1, .i .i64 (Mp.first 205).2.2, .i .i64 (if (Mp.first 205).1 = 10 then 1 else 0)] := by kernel_rfl
theorem ref29_first.k206 : ref29_first.F 206 = some [.i .i64 (Mp.first 206).1, .u64 (Mp.first 206).2.1, .i .i64 (Mp.first 206).2.2, .i .i64 (if (Mp.first 206).1 = 10 then 1 else 0)] := by kernel_rfl
theorem ref29_first.k207 : ref29_first.F 207 = some [.i .i64 (Mp.first 207).1, .u64 (Mp.first 207).2.1, .i .i64 (Mp.first 207).2.2, .i .i64 (if (Mp.first 207).1 = 10 then 1 else 0)] := by kernel_rfl
theorem ref29_first.k208 : ref29_first.F 208 = some [.i .i64 (Mp.first 208).1, .u64 (Mp.first 208).2.1, .i .i64 (Mp.first 208).2.2, .i .i64 (if (Mp.first 208).1 = 10 then 1 else 0)] := by kernel_rfl
theorem ref29_first.k209 : ref29_first.F 209 = some [.i .i64 (Mp.first 209).1, .u64 (Mp.first 209).2.1, .i .i64 (Mp.first 209).2.2, .i .i64 (if (Mp.first 209).1 = 10 then 1 else 0)] := by kernel_rfl
theorem ref29_first.k210 : ref29_first.F 210 = some [.i .i64 (Mp.first 210).1, .u64 (Mp.first 210).2.1, .i .i64 (Mp.first 210).2.2, .i .i64 (if (Mp.first 210).1 = 10 then 1 else 0)] := by kernel_rfl
theorem ref29_first.k211 : ref29_first.F 211 = some [.i .i64 (Mp.first 211).1, .u64 (Mp.first 211).2.1, .i .i64 (Mp.first 211).2.2, .i .i64 (if (Mp.first 211).1 = 10 then 1 else 0)] := by kernel_rfl
theorem ref29_first.k212 : ref29_first.F 212 = some [.i .i64 (Mp.first 212).1, .u64 (Mp.first 212).2.1, .i .i64 (Mp.first 212).2.2, .i .i64 (if (Mp.first 212).1 = 10 then 1 else 0)] := by kernel_rfl
theorem ref29_first.k213 : ref29_first.F 213 = some [.i .i64 (Mp.first 213).1, .u64 (Mp.first 213).2.1, .i .i64 (Mp.first 213).2.2, .i .i64 (if (Mp.first 213).1 = 10 then 1 else 0)] := by kernel_rfl
theorem ref29_first.k214 : ref29_first.F 214 = some [.i .i64 (Mp.first 214).1, .u64 (Mp.first 214).2.1, .i .i64 (Mp.first 214).2.2, .i .i64 (if (Mp.first 214).1 = 10 then 1 else 0)] := by kernel_rfl
theorem ref29_first.k215 : ref29_first.F 215 = some [.i .i64 (Mp.first 215).1, .u64 (Mp.first 215).2.1, .i .i64 (Mp.first 215).2.2, .i .i64 (if (Mp.first 215).1 = 10 then 1 else 0)] := by kernel_rfl
theorem ref29_first.k216 : ref29_first.F 216 = some [.i .i64 (Mp.first 216).1, .u64 (Mp.first 216).2.1, .i .i64 (Mp.first 216).2.2, .i .i64 (if (Mp.first 216).1 = 10 then 1 else 0)] := by kernel_rfl
theorem ref29_first.k217 : ref29_first.F 217 = some [.i .i64 (Mp.first 217).1, .u64 (Mp.first 217).2.1, .i .i64 (Mp.first 217).2.2, .i .i64 (if (Mp.first 217).1 = 10 then 1 else 0)] := by kernel_rfl
theorem ref29_first.k218 : ref29_first.F 218 = some [.i .i64 (Mp.first 218).1, .u64 (Mp.first 218).2.1, .i .i64 (Mp.first 218).2.2, .i .i64 (if (Mp.first 218).1 = 10 then 1 else 0)] := by kernel_rfl
theorem ref29_first.k219 : ref29_first.F 219 = some [.i .i64 (Mp.first 219).1, .u64 (Mp.first 219).2.1, .i .i64 (Mp.first 219).2.2, .i .i64 (if (Mp.first 219).1 = 10 then 1 else 0)] := by kernel_rfl
theorem ref29_first.k220 : ref29_first.F 220 = some [.i .i64 (Mp.first 220).1, .u64 (Mp.first 220).2.1, .i .i64 (Mp.first 220).2.2, .i .i64 (if (Mp.first 220).1 = 10 then 1 else 0)] := by kernel_rfl
theorem ref29_first.k221 : ref29_first.F 221 = some [.i .i64 (Mp.first 221).1, .u64 (Mp.first 221).2.1, .i .i64 (Mp.first 221).2.2, .i .i64 (if (Mp.first 221).1 = 10 then 1 else 0)] := by kernel_rfl
theorem ref29_first.k222 : ref29_first.F 222 = some [.i .i64 (Mp.first 222).1, .u64 (Mp.first 222).2.1, .i .i64 (Mp.first 222).2.2, .i .i64 (if (Mp.first 222).1 = 10 then 1 else 0)] := by kernel_rfl
theorem ref29_first.k223 : ref29_first.F 223 = some [.i .i64 (Mp.first 223).1, .u64 (Mp.first 223).2.1, .i .i64 (Mp.first 223).2.2, .i .i64 (if (Mp.first 223).1 = 10 then 1 else 0)] := by kernel_rfl
theorem ref29_first.goal (c : UInt8) : ref29_first.F c = some [.i .i64 (Mp.first (c.toNat : Int)).1, .u64 (Mp.first (c.toNat : Int)).2.1, .i .i64 (Mp.first (c.toNat : Int)).2.2, .i .i64 (if (Mp.first (c.toNat : Int)).1 = 10 then 1 else 0)] := by
  have hc := c.toNat_lt
  have lt : ∀ m : UInt8, (c < m) = (c.toNat < m.toNat) := fun m => propext UInt8.lt_iff_toNat_lt
  have le : ∀ m : UInt8, (m ≤ c) = (m.toNat ≤ c.toNat) := fun m => propext UInt8.le_iff_toNat_le
  by_cases hr : 192 ≤ c.toNat ∧ c.toNat < 224
  · have : c = 192 ∨ c = 193 ∨ c = 194 ∨ c = 195 ∨ c = 196 ∨ c = 197 ∨ c = 198 ∨ c = 199 ∨ c = 200 ∨ c = 201 ∨ c = 202 ∨ c = 203 ∨ c = 204 ∨ c = 205 ∨ c = 206 ∨ c = 207 ∨ c = 208 ∨ c = 209 ∨ c = 210 ∨ c = 211 ∨ c = 212 ∨ c = 213 ∨ c = 214 ∨ c = 215 ∨ c = 216 ∨ c = 217 ∨ c = 218 ∨ c = 219 ∨ c = 220 ∨ c = 221 ∨ c = 222 ∨ c = 223 := by
      have q : c.toNat = 192 ∨ c.toNat = 193 ∨ c.toNat = 194 ∨ c.toNat = 195 ∨ c.toNat = 196 ∨ c.toNat = 197 ∨ c.toNat = 198 ∨ c.toNat = 199 ∨ c.toNat = 200 ∨ c.toNat = 201 ∨ c.toNat = 202 ∨ c.toNat = 203 ∨ c.toNat = 204 ∨ c.toNat = 205 ∨ c.toNat = 206 ∨ c.toNat = 207 ∨ c.toNat = 208 ∨ c.toNat = 209 ∨ c.toNat = 210 ∨ c.toNat = 211 ∨ c.toNat = 212 ∨ c.toNat = 213 ∨ c.toNat = 214 ∨ c.toNat = 215 ∨ c.toNat = 216 ∨ c.toNat = 217 ∨ c.toNat = 218 ∨ c.toNat = 219 ∨ c.toNat = 220 ∨ c.toNat = 221 ∨ c.toNat = 222 ∨ c.toNat = 223 := by omega
      have w : ∀ k : UInt8, c.toNat = k.toNat → c = k := fun k h => UInt8.toNat_inj.1 h
      rcases q with q | q | q | q | q | q | q | q | q | q | q | q | q | q | q | q | q | q | q | q | q | q | q | q | q | q | q | q | q | q | q | q
      · exact (.inl (w 192 q))
      · exact .inr ((.inl (w 193 q)))
      · exact .inr (.inr ((.inl (w 194 q))))
      · exact .inr (.inr (.inr ((.inl (w 195 q)))))
      · exact .inr (.inr (.inr (.inr ((.inl (w 196 q))))))
      · exact .inr (.inr (.inr (.inr (.inr ((.inl (w 197 q)))))))
      · exact .inr (.inr (.inr (.inr (.inr (.inr ((.inl (w 198 q))))))))
      · exact .inr (.inr (.inr (.inr (.inr (.inr (.inr ((.inl (w 199 q)))))))))
      · exact .inr (.inr (.inr (.inr (.inr (.inr (.inr (.inr ((.inl (w 200 q))))))))))
      · exact .inr (.inr (.inr (.inr (.inr (.inr (.inr (.inr (.inr ((.inl (w 201 q)))))))))))
      · exact .inr (.inr (.inr (.inr (.inr (.inr (.inr (.inr (.inr (.inr ((.inl (w 202 q))))))))))))
      · exact .inr (.inr (.inr (.inr (.inr (.inr (.inr (.inr (.inr (.inr (.inr ((.inl (w 203 q)))))))))))))
      · exact .inr (.inr (.inr (.inr (.inr (.inr (.inr (.inr (.inr (.inr (.inr (.inr ((.inl (w 204 q))))))))))))))
      · exact .inr (.inr (.inr (.inr (.inr (.inr (.inr (.inr (.inr (.inr (.inr (.inr (.inr ((.inl (w 205 q)))))))))))))))
      · exact .inr (.inr (.inr (.inr (.inr (.inr (.inr (.inr (.inr (.inr (.inr (.inr (.inr (.inr ((.inl (w 206 q))))))))))))))))
      · exact .inr (.inr (.inr (.inr (.inr (.inr (.inr (.inr (.inr (.inr (.inr (.inr (.inr (.inr (.inr ((.inl (w 207 q)))))))))))))))))
      · exact .inr (.inr (.inr (.inr (.inr (.inr (.inr (.inr (.inr (.inr (.inr (.inr (.inr (.inr (.inr (.inr ((.inl (w 208 q))))))))))))))))))
      · exact .inr (.inr (.inr (.inr (.inr (.inr (.inr (.inr (.inr (.inr (.inr (.inr (.inr (.inr (.inr (.inr (.inr ((.inl (w 209 q)))))))))))))))))))
      · exact .inr (.inr (.inr (.inr (.inr (.inr (.inr (.inr (.inr (.inr (.inr (.inr (.inr (.inr (.inr (.inr (.inr (.inr ((.inl (w 210 q))))))))))))))))))))
      · exact .inr (.inr (.inr (.inr (.inr (.inr (.inr (.inr (.inr (.inr (.inr (.inr (.inr (.inr (.inr (.inr (.inr (.inr (.inr ((.inl (w 211 q)))))))))))))))))))))
      · exact .inr (.inr (.inr (.inr (.inr (.inr (.inr (.inr (.inr (.inr (.inr (.inr (.inr (.inr (.inr (.inr (.inr (.inr (.inr (.inr ((.inl (w 212 q))))))))))))))))))))))
      · exact .inr (.inr (.inr (.inr (.inr (.inr (.inr (.inr (.inr (.inr (.inr (.inr (.inr (.inr (.inr (.inr (.inr (.inr (.inr (.inr (.inr ((.inl (w 213 q)))))))))))))))))))))))
      · exact .inr (.inr (.inr (.inr (.inr (.inr (.inr (.inr (.inr (.inr (.inr (.inr (.inr (.inr (.inr (.inr (.inr (.inr (.inr (.inr (.inr (.inr ((.inl (w 214 q))))))))))))))))))))))))
      · exact .inr (.inr (.inr (.inr (.inr (.inr (.inr (.inr (.inr (.inr (.inr (.inr (.inr (.inr (.inr (.inr (.inr (.inr (.inr (.inr (.inr (.inr (.inr ((.inl (w 215 q)))))))))))))))))))))))))
      · exact .inr (.inr (.inr (.inr (.inr (.inr (.inr (.inr (.inr (.inr (.inr (.inr (.inr (.inr (.inr (.inr (.inr (.inr (.inr (.inr (.inr (.inr (.inr (.inr ((.inl (w 216 q))))))))))))))))))))))))))
      · exact .inr (.inr (.inr (.inr (.inr (.inr (.inr (.inr (.inr (.inr (.inr (.inr (.inr (.inr (.inr (.inr (.inr (.inr (.inr (.inr (.inr (.inr (.inr (.inr (.inr ((.inl (w 217 q)))))))))))))))))))))))))))
      · exact .inr (.inr (.inr (.inr (.inr (.inr (.inr (.inr (.inr (.inr (.inr (.inr (.inr (.inr (.inr (.inr (.inr (.inr (.inr (.inr (.inr (.inr (.inr (.inr (.inr (.inr ((.inl (w 218 q))))))))))))))))))))))))))))
      · exact .inr (.inr (.inr (.inr (.inr (.inr (.inr (.inr (.inr (.inr (.inr (.inr (.inr (.inr (.inr (.inr (.inr (.inr (.inr (.inr (.inr (.inr (.inr (.inr (.inr (.inr (.inr ((.inl (w 219 q)))))))))))))))))))))))))))))
      · exact .inr (.inr (.inr (.inr (.inr (.inr (.inr (.inr (.inr (.inr (.inr (.inr (.inr (.inr (.inr (.inr (.inr (.inr (.inr (.inr (.inr (.inr (.inr (.inr (.inr (.inr (.inr (.inr ((.inl (w 220 q))))))))))))))))))))))))))))))
      · exact .inr (.inr (.inr (.inr (.inr (.inr (.inr (.inr (.inr (.inr (.inr (.inr (.inr (.inr (.inr (.inr (.inr (.inr (.inr (.inr (.inr (.inr (.inr (.inr (.inr (.inr (.inr (.inr (.inr ((.inl (w 221 q)))))))))))))))))))))))))))))))
      · exact .inr (.inr (.inr (.inr (.inr (.inr (.inr (.inr (.inr (.inr (.inr (.inr (.inr (.inr (.inr (.inr (.inr (.inr (.inr (.inr (.inr (.inr (.inr (.inr (.inr (.inr (.inr (.inr (.inr (.inr ((.inl (w 222 q))))))))))))))))))))))))))))))))
      · exact .inr (.inr (.inr (.inr (.inr (.inr (.inr (.inr (.inr (.inr (.inr (.inr (.inr (.inr (.inr (.inr (.inr (.inr (.inr (.inr (.inr (.inr (.inr (.inr (.inr (.inr (.inr (.inr (.inr (.inr (.inr ((w 223 q))))))))))))))))))))))))))))))))
    rcases this with rfl | rfl | rfl | rfl | rfl | rfl | rfl | rfl | rfl | rfl | rfl | rfl | rfl | rfl | rfl | rfl | rfl | rfl | rfl | rfl | rfl | rfl | rfl | rfl | rfl | rfl | rfl | rfl | rfl | rfl | rfl | rfl
    · exact ref29_first.k192
    · exact ref29_first.k193
    · exact ref29_first.k194
    · exact ref29_first.k195
    · exact ref29_first.k196
    · exact ref29_first.k197
    · exact ref29_first.k198
    · exact ref29_first.k199
    · exact ref29_first.k200
    · exact ref29_first.k201
    · exact ref29_first.k202
    · exact ref29_first.k203
    · exact ref29_first.k204
    · exact ref29_first.k205
    · exact ref29_first.k206
    · exact ref29_first.k207
    · exact ref29_first.k208
    · exact ref29_first.k209
    · exact ref29_first.k210
    · exact ref29_first.k211
    · exact ref29_first.k212
    · exact ref29_first.k213
    · exact ref29_first.k214
    · exact ref29_first.k215
    · exact ref29_first.k216
    · exact ref29_first.k217
    · exact ref29_first.k218
    · exact ref29_first.k219
    · exact ref29_first.k220
    · exact ref29_first.k221
    · exact ref29_first.k222
    · exact ref29_first.k223
  refine ref29_first.F_in _ ?_
  intro v1 e1 v2 e2 v3 e3 v4 e4 v5 e5
  intros
  have sub : ∀ m : UInt8, m.toNat ≤ c.toNat → (c - m).toNat = c.toNat - m.toNat := fun m h => UInt8.toNat_sub_of_le _ _ (UInt8.le_iff_toNat_le.2 h)
  unfold Mp.first
  by_cases a : c.toNat < 128
  · rw [show decide (c < 128) = true from decide_eq_true ((lt 128).mpr a), cond_true, if_pos (show (c.toNat : Int) < 128 by omega), e1]; rfl
  rw [show decide (c < 128) = false from decide_eq_false (fun h => a ((lt 128).mp h)), cond_false, if_neg (show ¬ (c.toNat : Int) < 128 by omega)]
  by_cases a : c.toNat < 144
  · rw [show decide (c < 144) = true from decide_eq_true ((lt 144).mpr a), cond_true, if_pos (show (c.toNat : Int) < 144 by omega), e2, sub 128 (by show 128 ≤ c.toNat; omega), show ((c.toNat - (128 : UInt8).toNat : Nat) : Int) = (c.toNat : Int) - 128 by show ((c.toNat - 128 : Nat) : Int) = _; omega]; rfl
  rw [show decide (c < 144) = false from decide_eq_false (fun h => a ((lt 144).mp h)), cond_false, if_neg (show ¬ (c.toNat : Int) < 144 by omega)]
  by_cases a : c.toNat < 160
  · rw [show decide (c < 160) = true from decide_eq_true ((lt 160).mpr a), cond_true, if_pos (show (c.toNat : Int) < 160 by omega), e3, sub 144 (by show 144 ≤ c.toNat; omega), show ((c.toNat - (144 : UInt8).toNat : Nat) : Int) = (c.toNat : Int) - 144 by show ((c.toNat - 144 : Nat) : Int) = _; omega]; rfl
  rw [show decide (c < 160) = false from decide_eq_false (fun h => a ((lt 160).mp h)), cond_false, if_neg (show ¬ (c.toNat : Int) < 160 by omega)]
  by_cases a : c.toNat < 192
  · rw [show decide (c < 192) = true from decide_eq_true ((lt 192).mpr a), cond_true, if_pos (show (c.toNat : Int) < 192 by omega), e4, sub 160 (by show 160 ≤ c.toNat; omega), show ((c.toNat - (160 : UInt8).toNat : Nat) : Int) = (c.toNat : Int) - 160 by show ((c.toNat - 160 : Nat) : Int) = _; omega]; rfl
  rw [show decide (c < 192) = false from decide_eq_false (fun h => a ((lt 192).mp h)), cond_false, if_neg (show ¬ (c.toNat : Int) < 192 by omega)]
  have a : 224 ≤ c.toNat := by omega
  have s5 : ((255 : UInt8) - c).toNat = 255 - c.toNat := UInt8.toNat_sub_of_le _ _ (UInt8.le_iff_toNat_le.2 (by show c.toNat ≤ 255; omega))
  rw [show decide ((224 : UInt8) ≤ c) = true from decide_eq_true ((le 224).mpr a), cond_true, if_pos (show (224 : Int) ≤ (c.toNat : Int) by omega), e5, s5, show ((255 - c.toNat : Nat) : Int) = 255 - (c.toNat : Int) by omega]; rfl
theorem Mp.put_iff (f : Int × Int) (x : UInt64) (c : UInt8) (L : Str) (h0 : 0 ≤ f.1 ∧ f.1 ≤ 255) (h : f.1 = (c.toNat : Int) → Cur.high x f.2 = L) : (Mp.put f x = c :: L) ↔ f.1 = (c.toNat : Int) := by
  have hc : UInt8.ofInt f.1 = c ↔ f.1 = (c.toNat : Int) := by
    obtain ⟨m, hm⟩ : ∃ m : Nat, f.1 = m := ⟨f.1.toNat, by omega⟩
    rw [hm]
    constructor
    · intro q
      have := congrArg UInt8.toNat q
      rw [u8_nat] at this; omega
    · intro q
      apply UInt8.toNat_inj.1
      rw [u8_nat]; have := c.toNat_lt; omega
  rw [Mp.put]
  constructor
  · intro q; injection q with q1 q2; exact hc.1 q1
  · intro q; rw [hc.2 q, h q]
end Go.Eng
namespace Go.Eng
open Go.IntWalk
theorem Cur.high_eq (x : UInt64) (long : Int) (L : Str) (hl : long = 0 ∨ long = 1 ∨ long = 2 ∨ long = 4 ∨ long = 8) (hL : L.length = long.toNat) (hx : long ≠ 0 → x.toNat % 256 ^ long.toNat = (Cur.be L).toNat) : Cur.high x long = L := by
  by_cases a : long = 0
  · subst a
    have : L = [] := List.eq_nil_of_length_eq_zero hL
    subst this; rfl
  · have hb := Cur.be_bound L long.toNat hL (by omega)
    rw [Cur.high, if_pos (by omega), Cur.putHigh_mod long.toNat x (Cur.be L) (by rw [hx a, Nat.mod_eq_of_lt hb]), Cur.put_be _ _ hL (by omega)]
section
variable {c : UInt8} {L : Str} {u : UInt64} {k : Int} {n0 : UInt64} {long : Int}
structure Mp.Says (c : UInt8) (L : Str) (u : UInt64) (k : Int) (n0 : UInt64) (long : Int) : Prop where
  f : Mp.first (c.toNat : Int) = (k, n0, long)
  k0 : k ≠ 0
  l : L.length = long.toNat
  u : u = if long = 0 then n0 else Cur.be L
theorem Mp.Says.long' (h : Mp.Says c L u k n0 long) : long = 0 ∨ long = 1 ∨ long = 2 ∨ long = 4 ∨ long = 8 := by
  have := (Mp.first_kinds (c.toNat : Int) ⟨by omega, by have := c.toNat_lt; omega⟩).2.1
  rw [h.f] at this; exact this
theorem Mp.Says.uL (h : Mp.Says c L u k n0 long) : long ≠ 0 → u.toNat % 256 ^ long.toNat = (Cur.be L).toNat := by
  intro a
  have hl := h.long'
  have hb := Cur.be_bound L long.toNat h.l (by omega)
  rw [h.u, if_neg a, Nat.mod_eq_of_lt hb]
theorem Mp.want1 (h : Mp.Says c L u 1 n0 long) (ty : UInt64) : Mp.want 1 u ty = c :: L ↔ (Mp.unsigned u).1 = (c.toNat : Int) := by
  obtain ⟨f, b0, b1, _⟩ := Mp.first_unsigned u
  refine Mp.put_iff (Mp.unsigned u) u c L ⟨b0, b1⟩ fun q => ?_
  rw [q, h.f] at f
  injection f with _ f; injection f with _ f
  rw [← f]
  exact Cur.high_eq u long L h.long' h.l h.uL
theorem Mp.want2 (h : Mp.Says c L u 2 n0 long) (m : UInt64) (hm : if long = 0 then m = u else Mp.below u long = some m) (ty : UInt64) : Mp.want 2 m ty = c :: L ↔ (Mp.signed m).1 = (c.toNat : Int) := by
  obtain ⟨f, b0, b1, _⟩ := Mp.first_signed m
  refine Mp.put_iff (Mp.signed m) (~~~ m) c L ⟨b0, b1⟩ fun q => ?_
  rw [q, h.f] at f
  injection f with _ f; injection f with _ f
  rw [← f]
  refine Cur.high_eq (~~~ m) long L h.long' h.l fun a => ?_
  rw [if_neg a] at hm
  have hl := h.long'
  have hu := h.uL a
  have hb := Cur.be_bound L long.toNat h.l (by omega)
  have hub : u.toNat = (Cur.be L).toNat := by rw [h.u, if_neg a]
  rw [← hub] at hb ⊢
  have hlt := u.toNat_lt
  have key : ∀ (top : UInt64) (N : Nat), N = long.toNat → 2 * top.toNat = 256 ^ N → N ≤ 8 → 0 < N → (if u < top then none else some (top - 1 - (u - top)) : Option UInt64) = some m → (~~~ m).toNat % 256 ^ long.toNat = u.toNat := by
    intro top N hN ht h8 hN0 he
    subst hN
    split at he
    · cases he
    rename_i a'
    have a2 : top.toNat ≤ u.toNat := Nat.le_of_not_lt fun h => a' (UInt64.lt_iff_toNat_lt.2 h)
    injection he with he
    have hp1 : 256 ^ 1 ≤ 256 ^ long.toNat := Nat.pow_le_pow_right (by omega) hN0
    have hp8 : 256 ^ long.toNat ≤ 256 ^ 8 := Nat.pow_le_pow_right (by omega) h8
    have e1 : (1 : UInt64).toNat = 1 := rfl
    have h1 : (top - 1).toNat = top.toNat - 1 := by rw [UInt64.toNat_sub_of_le _ _ (by rw [UInt64.le_iff_toNat_le, e1]; omega), e1]
    have h2 : (u - top).toNat = u.toNat - top.toNat := UInt64.toNat_sub_of_le _ _ (UInt64.le_iff_toNat_le.2 a2)
    have hm' : m.toNat = 256 ^ long.toNat - 1 - u.toNat := by
      rw [← he, UInt64.toNat_sub_of_le _ _ (by rw [UInt64.le_iff_toNat_le, h1, h2]; omega), h1, h2]; omega
    obtain ⟨d, hd⟩ : ∃ d, 18446744073709551616 = 256 ^ long.toNat * d := ⟨256 ^ (8 - long.toNat), by rw [← Nat.pow_add, show long.toNat + (8 - long.toNat) = 8 by omega]⟩
    have hd1 : 1 ≤ d := by
      rcases Nat.eq_zero_or_pos d with q | q
      · subst q; simp at hd
      · exact q
    obtain ⟨d', rfl⟩ : ∃ d', d = d' + 1 := ⟨d - 1, by omega⟩
    rw [not_u64, hm', show 18446744073709551615 - (256 ^ long.toNat - 1 - u.toNat) = u.toNat + 256 ^ long.toNat * d' by rw [Nat.mul_add, Nat.mul_one] at hd; omega, Nat.add_mul_mod_self_left, Nat.mod_eq_of_lt hb]
  unfold Mp.below at hm
  rcases (by omega : long = 1 ∨ long = 2 ∨ long = 4 ∨ long = 8) with q | q | q | q
  · exact key 128 1 (by rw [q]; rfl) rfl (by omega) (by omega) (by simpa [q] using hm)
  · exact key 32768 2 (by rw [q]; rfl) rfl (by omega) (by omega) (by simpa [q] using hm)
  · exact key 2147483648 4 (by rw [q]; rfl) rfl (by omega) (by omega) (by simpa [q] using hm)
  · exact key 9223372036854775808 8 (by rw [q]; rfl) rfl (by omega) (by omega) (by simpa [q] using hm)
set_option maxRecDepth 100000 in
theorem Mp.first89 : ∀ m : Fin 256, ((Mp.first (m.val : Int)).1 = 8 → (Mp.first (m.val : Int)).2.2 = 0 ∧ (20 ≤ (Mp.first (m.val : Int)).2.1 ∧ (Mp.first (m.val : Int)).2.1 ≤ 22) ∧ Mp.head (.mk 8 (Mp.first (m.val : Int)).2.1 [] [] []) = [UInt8.ofNat m.val]) ∧ ((Mp.first (m.val : Int)).1 = 9 → m.val = 203 ∧ (Mp.first (m.val : Int)).2.2 = 8) := by decide +kernel
theorem Mp.want8 (h : Mp.Says c L u 8 n0 long) (ty : UInt64) : Mp.want 8 u ty = c :: L ∧ 20 ≤ u ∧ u ≤ 22 := by
  have q := (Mp.first89 ⟨c.toNat, c.toNat_lt⟩).1
  simp only [h.f] at q
  obtain ⟨q1, q2, q3⟩ := q trivial
  have hL := h.l
  have hu := h.u
  rw [q1] at hL hu
  rw [if_pos rfl] at hu
  have : L = [] := List.eq_nil_of_length_eq_zero hL
  subst this hu
  refine ⟨?_, q2⟩
  rw [show Mp.want 8 u ty = Mp.head (.mk 8 u [] [] []) from rfl, q3, UInt8.ofNat_toNat]
theorem Mp.want9 (h : Mp.Says c L u 9 n0 long) (ty : UInt64) : Mp.want 9 u ty = c :: L := by
  have q := (Mp.first89 ⟨c.toNat, c.toNat_lt⟩).2
  simp only [h.f] at q
  obtain ⟨q1, q2⟩ := q trivial
  have e := Cur.high_eq u long L h.long' h.l h.uL
  rw [q2] at e
  rw [show Mp.want 9 u ty = UInt8.ofInt 203 :: Cur.high u 8 from rfl, e]
  congr 1
  apply UInt8.toNat_inj.1
  rw [q1]; rfl
theorem Mp.wantS (hk : k = 3 ∨ k = 4 ∨ k = 5 ∨ k = 6) (h : Mp.Says c L u k n0 long) (hu : u.toNat < 4294967296) (ty : UInt64) : Mp.want k u ty = c :: L ↔ (Mp.sized k u.toNat).1 = (c.toNat : Int) := by
  obtain ⟨f, b0, b1, _⟩ := Mp.first_sized k (by omega) u.toNat hu
  have hw : Mp.want k u ty = Mp.put (Mp.sized k u.toNat) u := by
    have e : UInt64.ofNat u.toNat = u := UInt64.ofNat_toNat
    have sh : ∀ (a : UInt8) (b : Int), a = UInt8.ofInt b → 0 ≤ b → a + u.toUInt8 = UInt8.ofInt (b + (u.toNat : Int)) := by
      intro a b ha hb
      obtain ⟨m, rfl⟩ : ∃ m : Nat, b = m := ⟨b.toNat, by omega⟩
      subst ha
      apply UInt8.toNat_inj.1
      rw [UInt8.toNat_add, u8_nat, UInt64.toNat_toUInt8, show (m : Int) + (u.toNat : Int) = ((m + u.toNat : Nat) : Int) by omega, u8_nat]; omega
    have l32 : (u < 32) = (u.toNat < 32) := propext UInt64.lt_iff_toNat_lt
    have l16 : (u < 16) = (u.toNat < 16) := propext UInt64.lt_iff_toNat_lt
    rcases hk with rfl | rfl | rfl | rfl
    · have := Mp.form_bytes u.toNat hu; rw [e] at this; exact this
    · have := Mp.form_text u.toNat hu
      rw [e, ← sh 160 160 rfl (by omega)] at this
      rw [← this, show Mp.want 4 u ty = if u < 32 then [160 + u.toUInt8] else Mp.form 217 u 1 from rfl]
      simp only [l32]
    · have := Mp.form_list u.toNat hu
      rw [e, ← sh 144 144 rfl (by omega)] at this
      rw [← this, show Mp.want 5 u ty = if u < 16 then [144 + u.toUInt8] else Mp.form 220 u 2 from rfl]
      simp only [l16]
    · have := Mp.form_map u.toNat hu
      rw [e, ← sh 128 128 rfl (by omega)] at this
      rw [← this, show Mp.want 6 u ty = if u < 16 then [128 + u.toUInt8] else Mp.form 222 u 2 from rfl]
      simp only [l16]
  rw [hw]
  refine Mp.put_iff _ u c L ⟨b0, b1⟩ fun q => ?_
  rw [q, h.f] at f
  injection f with _ f; injection f with _ f
  rw [← f]
  exact Cur.high_eq u long L h.long' h.l h.uL
theorem Mp.want10 (h : Mp.Says c L u 10 n0 long) (hu : u.toNat < 4294967296) (ty : UInt8) : Mp.want 10 u ty.toUInt64 = c :: (L ++ [ty]) ↔ (Mp.sized 10 u.toNat).1 = (c.toNat : Int) := by
  obtain ⟨f, b0, b1, _⟩ := Mp.first_sized 10 (by omega) u.toNat hu
  have hw : Mp.want 10 u ty.toUInt64 = Mp.put (Mp.sized 10 u.toNat) u ++ [ty] := by
    have := Mp.form_ext u.toNat ty.toUInt64 hu
    rw [UInt64.ofNat_toNat] at this
    rw [show Mp.want 10 u ty.toUInt64 = Mp.ext u ty.toUInt64 from rfl, this]
    simp
  rw [hw, ← List.cons_append, List.append_left_inj]
  refine Mp.put_iff _ u c L ⟨b0, b1⟩ fun q => ?_
  rw [q, h.f] at f
  injection f with _ f; injection f with _ f
  rw [← f]
  exact Cur.high_eq u long L h.long' h.l h.uL
end
theorem ref29_same.j1_ok (b : Str) (p e : Int) (w : Str) (h : 0 ≤ p ∧ p ≤ e ∧ e ≤ b.length) : ref29_same.j1 b p e w = some [.b (decide (w = (b.drop p.toNat).take (e - p).toNat))] := by
  refine ref29_same.j1_in _ _ _ _ ?_
  intro v1 e1
  rw [ck_of (cut_ok h.1 h.2.1 h.2.2), e1, List.drop_take, show e.toNat - p.toNat = (e - p).toNat by omega]
theorem ref29_same.goal (b : Str) (p e k : Int) (n ty : UInt64) (hp : (decide (0 ≤ p ∧ p ≤ e ∧ e ≤ b.length ∧ b.length ≤ 1099511627776) && decide (k = 1 ∨ k = 2 ∧ n < 9223372036854775808 ∨ k = 8 ∧ 20 ≤ n ∧ n ≤ 22 ∨ k = 9 ∨ k = 3 ∨ k = 4 ∨ k = 5 ∨ k = 6 ∨ k = 10)) = true) :
    ref29_same.F b p e k n ty = some [.b (decide (Mp.want k n ty = (b.drop p.toNat).take (e - p).toNat))] := by
  simp only [Bool.and_eq_true, decide_eq_true_eq] at hp
  obtain ⟨h, hk⟩ := hp
  refine ref29_same.F_in _ _ _ _ _ _ ?_
  intro v1 e1 v2 e2 v3 e3 v4 e4 v5 e5 v6 e6 v7 e7 v8 e8
  have J := fun w => ref29_same.j1_ok b p e w ⟨h.1, h.2.1, h.2.2.1⟩
  have add8 : ∀ a : UInt64, UInt8.ofInt (((a + n).toNat : Nat) : Int) = a.toUInt8 + n.toUInt8 := fun a => by rw [u8_of, UInt64.toUInt8_add]
  have le1 : (decide ((1 : Int) ≤ 8)) = true := rfl
  have le2 : (decide ((2 : Int) ≤ 8)) = true := rfl
  rw [add8] at e3 e5 e7
  unfold Mp.want
  by_cases k3 : k = 3
  · rw [decide_eq_true k3, cond_true, if_pos k3, le1, ck_true, J, e1]
  rw [decide_eq_false k3, cond_false, if_neg k3]
  by_cases k10 : k = 10
  · rw [decide_eq_true k10, cond_true, if_pos k10, J]
  rw [decide_eq_false k10, cond_false, if_neg k10]
  by_cases k4 : k = 4
  · rw [decide_eq_true k4, cond_true, if_pos k4, le1, ck_true]
    by_cases a : n < 32
    · rw [decide_eq_true a, cond_true, if_pos a, J, e3]; rfl
    · rw [decide_eq_false a, cond_false, if_neg a, J, e2]
  rw [decide_eq_false k4, cond_false, if_neg k4]
  by_cases k5 : k = 5
  · rw [decide_eq_true k5, cond_true, if_pos k5, le2, ck_true]
    by_cases a : n < 16
    · rw [decide_eq_true a, cond_true, if_pos a, J, e5]; rfl
    · rw [decide_eq_false a, cond_false, if_neg a, J, e4]
  rw [decide_eq_false k5, cond_false, if_neg k5]
  by_cases k6 : k = 6
  · rw [decide_eq_true k6, cond_true, if_pos k6, le2, ck_true]
    by_cases a : n < 16
    · rw [decide_eq_true a, cond_true, if_pos a, J, e7]; rfl
    · rw [decide_eq_false a, cond_false, if_neg a, J, e6]
  rw [decide_eq_false k6, cond_false, if_neg k6]
  have ho : Mp.own (Itm.of ⟨k, n, [], [], []⟩) = 0 := by
    simp only [Mp.own, Itm.of]
    have hw : Utf.whole [] = true := by decide
    have c2 : ¬ (k = 2 ∧ 9223372036854775808 ≤ n) := by
      rintro ⟨rfl, q⟩
      have : n < 9223372036854775808 := by
        rcases hk with h | h | h | h | h | h | h | h | h
        all_goals first | exact h.2 | omega
      rw [UInt64.le_iff_toNat_le] at q; rw [UInt64.lt_iff_toNat_lt] at this; omega
    have c8 : ¬ (k = 8 ∧ (n < 20 ∨ 22 < n)) := by
      rintro ⟨rfl, q⟩
      have : 20 ≤ n ∧ n ≤ 22 := by
        rcases hk with h | h | h | h | h | h | h | h | h
        all_goals first | exact h.2 | omega
      rw [UInt64.le_iff_toNat_le, UInt64.le_iff_toNat_le] at this
      rw [UInt64.lt_iff_toNat_lt, UInt64.lt_iff_toNat_lt] at q
      omega
    rw [if_neg (by omega), if_neg (by rintro (⟨q, _⟩ | ⟨_, _, q⟩ | ⟨_, q⟩) <;> first | omega | exact q rfl), if_neg (by rintro ⟨_, _, q⟩; exact q rfl), if_neg (by rintro (q | q | q | q) <;> first | exact c2 q | exact c8 q | omega), if_neg (by simp), if_pos hw]
  rw [ck_of (by rw [ho, decide_eq_true (show Itm.bulk (Itm.of ⟨k, n, [], [], []⟩) ≤ 1099511627776 by rw [Itm.bulk_of]; simp [Itm.bulks])]; rfl), J, e8]
  rfl
end Go.Eng
namespace Go.Eng
open Go.IntWalk
def Mp.Got.rvs (g : Mp.Got) : List TV := [.ag (Itv.cells (Itm.val g.it)), .i .i64 (if g.err = 0 then g.pos else 0), .ag (Flt.cells (Flt.mk g.err g.at_ []))]
theorem Mp.rvs_bad (e p q : Int) (h : e ≠ 0) : (Mp.bad e p q).rvs = [.ag (Itv.cells (Itm.val Mp.zero)), .i .i64 0, .ag (Flt.cells (Flt.mk e p []))] := by
  simp [Mp.Got.rvs, Mp.bad, h]
theorem ref29_read.l7_ok (n : Nat) (b : Str) (hb : b.length ≤ 1099511627776) (w d : Int) (hw : 0 ≤ w ∧ w + 1 ≤ d ∧ d ≤ 1000) (hn : (d - w).toNat < n + 1) (cnt : UInt64) (x6 : Itv) (x7 : Flt) :
    ∀ (k : Nat) (i : UInt64) (x8 : Itv) (q : Int), i.toNat + k = cnt.toNat → 0 ≤ q → q ≤ b.length → (x8.kids.length : Int) ≤ q →
      ref29_read.l7 n b w d cnt q i x6 x7 x8 = some (Mp.kids (Mp.read b (d - w - 1).toNat) (Itm.of x8) k q).rvs := by
  intro k
  induction k with
  | zero =>
    intro i x8 q hi h0 h1 ha
    refine ref29_read.l7_in _ _ _ _ _ _ _ _ _ _ ?_
    intro v1 e1 v2 e2 v3 e3 v4 e4
    rw [decide_eq_false (by rw [UInt64.lt_iff_toNat_lt]; omega), cond_false]; rfl
  | succ k ih =>
    intro i x8 q hi h0 h1 ha
    refine ref29_read.l7_in _ _ _ _ _ _ _ _ _ _ ?_
    intro v1 e1 v2 e2 v3 e3 v4 e4
    have e1' : v1 = w + 1 := by rw [e1, i64_in _ (by omega)]
    have ed : (d - v1).toNat = (d - w - 1).toNat := by omega
    have hc := cnt.toNat_lt
    obtain ⟨g1, g2, g3⟩ := Mp.read_pos b (d - w - 1).toNat q h0 h1
    rw [ed] at e2 e3 e4 ⊢
    simp only [Itm.of_val] at e4
    rw [decide_eq_true (by rw [UInt64.lt_iff_toNat_lt]; omega), cond_true, ck_of (by rw [decide_eq_true (by omega), decide_eq_true (by omega)]; rfl), Mp.kids, e3]
    by_cases a : (Mp.read b (d - w - 1).toNat q).err = 0
    · have := g3 a
      have e2' : v2 = (Mp.read b (d - w - 1).toNat q).pos := by rw [e2, Mp.next, if_pos a]
      rw [decide_eq_true a, Bool.not_true, cond_false, if_neg (fun h => h a), e4, ck_of (big_ap (by simp only [List.length_singleton]; omega) (by simp only [List.length_singleton]; omega)), e2']
      exact ih (i + 1) ⟨x8.kind, x8.n, x8.bytes, x8.text, x8.kids ++ [(Mp.read b (d - w - 1).toNat q).it]⟩ _ (by rw [UInt64.toNat_add, show (1 : UInt64).toNat = 1 from rfl]; omega) (by omega) g2 (by rw [List.length_append, List.length_singleton]; omega)
    · rw [decide_eq_false a, Bool.not_false, cond_true, if_pos a]
      simp only [Mp.Got.rvs, if_neg a]; rfl
section
variable {n : Nat} {b : Str} {p w d k q : Int} {u t : UInt64}
def Mp.body (b : Str) (f : Int → Mp.Got) (p k : Int) (u t : UInt64) (q : Int) : Mp.Got :=
  if k = 4 ∨ k = 3 ∨ k = 10 then Mp.row b (.mk k t [] [] []) p q u.toNat
  else if k = 6 then Mp.kids f (.mk k 0 [] [] []) (2 * u.toNat) q
  else if k = 5 then Mp.kids f (.mk k 0 [] [] []) u.toNat q
  else ⟨.mk k u [] [] [], 0, 0, q⟩
theorem ref29_read.j4_ok (x10 : Itv) (x11 : Flt) (hb : b.length ≤ 1099511627776) (hw : 0 ≤ w ∧ w + 1 ≤ d ∧ d ≤ 1000) (hn : (d - w).toNat < n + 1) (hq : 0 ≤ q ∧ q ≤ b.length)
    (hu : k = 4 ∨ k = 3 ∨ k = 10 ∨ k = 5 ∨ k = 6 → u.toNat < 4294967296) (ht : k ≠ 10 → t = 0) :
    ref29_read.j4 n b p w d k u q t k (decide (k = 4 ∨ k = 3 ∨ k = 10)) x10 x11 ⟨k, 0, [], [], []⟩ = some (Mp.body b (Mp.read b (d - w - 1).toNat) p k u t q).rvs := by
  refine ref29_read.j4_in _ _ _ _ _ _ _ _ _ _ _ _ _ _ ?_
  intro v1 e1 v2 e2 v3 e3
  unfold Mp.body
  by_cases a : k = 4 ∨ k = 3 ∨ k = 10
  · have hu' := hu (by omega)
    have e1' : v1 = ((b.length - q.toNat : Nat) : Int) := by rw [e1, i64_in _ (by omega)]; omega
    have e2' : v2 = (u.toNat : Int) := by rw [e2, i64_in _ (by omega)]
    have ew : IntKind.i64.wrap (q + v2) = q + u.toNat := by rw [e2', i64_in _ (by omega)]
    have e3' : v3 = (b.drop q.toNat).take u.toNat := by
      rw [e3, ew, List.drop_take, show (q + (u.toNat : Int)).toNat - q.toNat = u.toNat by omega]
    have hl3 : v3.length ≤ 1099511627776 := by rw [e3', List.length_take, List.length_drop]; omega
    rw [decide_eq_true a, cond_true, if_pos a, Mp.row]
    by_cases c : (b.length : Int) - q < u.toNat
    · rw [decide_eq_true (by rw [UInt64.lt_iff_toNat_lt, e1', u64_nat]; omega), cond_true, if_pos (.inr c), Mp.rvs_bad _ _ _ (by decide)]; rfl
    · rw [decide_eq_false (by rw [UInt64.lt_iff_toNat_lt, e1', u64_nat]; omega), cond_false, if_neg (by omega), ew, ck_of (cut_ok hq.1 (by omega) (by omega)), Int.toNat_natCast]
      by_cases k4 : k = 4
      · rw [decide_eq_true k4, Bool.not_true, cond_false, if_neg (show ¬ (Itm.mk k t [] [] []).kind ≠ 4 from fun h => h k4), ck_of (decide_eq_true hl3), e3']
        cases hwh : Utf.whole ((b.drop q.toNat).take u.toNat) with
        | false => rw [Bool.not_false, cond_true, if_neg (by decide), Mp.rvs_bad _ _ _ (by decide)]; rfl
        | true => rw [Bool.not_true, cond_false, if_pos rfl, ref29_read.j5_eq, ht (by omega)]; rfl
      · rw [decide_eq_false k4, Bool.not_false, cond_true, if_pos (show (Itm.mk k t [] [] []).kind ≠ 4 from k4), ck_of (big_ap (by simp only [List.length_nil]; omega) (by simp only [List.length_nil]; omega)), ref29_read.j5_eq, e3']; rfl
  rw [decide_eq_false a, cond_false, if_neg a]
  by_cases k6 : k = 6
  · have hu' := hu (by omega)
    rw [decide_eq_true k6, cond_true, if_pos k6, ref29_read.j6_eq]
    exact ref29_read.l7_ok n b hb w d hw hn (2 * u) _ _ (2 * u.toNat) 0 ⟨k, 0, [], [], []⟩ q (by rw [UInt64.toNat_mul, show (2 : UInt64).toNat = 2 from rfl, show (0 : UInt64).toNat = 0 from rfl]; omega) hq.1 hq.2 hq.1
  rw [decide_eq_false k6, cond_false, if_neg k6]
  by_cases k5 : k = 5
  · rw [decide_eq_true k5, cond_true, if_pos k5, ref29_read.j6_eq]
    exact ref29_read.l7_ok n b hb w d hw hn u _ _ u.toNat 0 ⟨k, 0, [], [], []⟩ q (Nat.zero_add _) hq.1 hq.2 hq.1
  rw [decide_eq_false k5, cond_false, if_neg k5]; rfl
theorem ref29_read.j3_ok (x8 : Itv) (x9 : Flt) (hb : b.length ≤ 1099511627776) (hw : 0 ≤ w ∧ w + 1 ≤ d ∧ d ≤ 1000) (hn : (d - w).toNat < n + 1) (hp : 0 ≤ p ∧ p ≤ q) (hq : 0 ≤ q ∧ q ≤ b.length)
    (hu : k = 4 ∨ k = 3 ∨ k = 10 ∨ k = 5 ∨ k = 6 → u.toNat < 4294967296) (ht : k ≠ 10 → t = 0) (hk : k = 1 ∨ k = 2 ∧ u < 9223372036854775808 ∨ k = 8 ∧ 20 ≤ u ∧ u ≤ 22 ∨ k = 9 ∨ k = 3 ∨ k = 4 ∨ k = 5 ∨ k = 6 ∨ k = 10)
    (W : Prop) [Decidable W] (hW : Mp.want k u t = (b.drop p.toNat).take (q - p).toNat ↔ W) :
    ref29_read.j3 n b p w d k u q t x8 x9 ⟨0, 0, [], [], []⟩ ⟨3, p, []⟩ = some (if ¬ W ∨ 127 < t then Mp.bad 3 p q else Mp.body b (Mp.read b (d - w - 1).toNat) p k u t q).rvs := by
  refine ref29_read.j3_in _ _ _ _ _ _ _ _ _ _ _ _ _ ?_
  intro v1 e1
  have c1 : (decide (0 ≤ p ∧ p ≤ q ∧ q ≤ b.length ∧ b.length ≤ 1099511627776) && decide (k = 1 ∨ k = 2 ∧ u < 9223372036854775808 ∨ k = 8 ∧ 20 ≤ u ∧ u ≤ 22 ∨ k = 9 ∨ k = 3 ∨ k = 4 ∨ k = 5 ∨ k = 6 ∨ k = 10)) = true := by
    rw [decide_eq_true ⟨hp.1, hp.2, hq.2, hb⟩, decide_eq_true hk]; rfl
  simp only [c1, Bool.and_self, Bool.and_true, Bool.not_or_self, Bool.or_not_self, ck_true]
  have e1' : v1 = decide (¬ W ∨ 127 < t) := by
    rw [e1, show decide (Mp.want k u t = (b.drop p.toNat).take (q - p).toNat) = decide W from decide_eq_decide.2 hW]
    by_cases a : 127 < t <;> by_cases c : W <;> simp [a, c]
  rw [e1']
  by_cases a : ¬ W ∨ 127 < t
  · rw [decide_eq_true a, cond_true, if_pos a, Mp.rvs_bad _ _ _ (by decide)]; rfl
  rw [decide_eq_false a, cond_false, if_neg a]
  have J := ref29_read.j4_ok (n := n) (b := b) (p := p) (w := w) (d := d) (k := k) (q := q) (u := u) (t := t) x8 x9 hb hw hn hq hu ht
  by_cases k4 : k = 4
  · rw [decide_eq_true k4, cond_true, ← J]
    congr 1; exact (decide_eq_true (Or.inl k4)).symm
  rw [decide_eq_false k4, cond_false]
  by_cases k3 : k = 3
  · rw [decide_eq_true k3, cond_true, ← J]
    congr 1; exact (decide_eq_true (Or.inr (Or.inl k3))).symm
  rw [decide_eq_false k3, cond_false, ← J]
  congr 1
  exact decide_eq_decide.2 (by omega)
end
end Go.Eng
namespace Go.Eng
open Go.IntWalk
theorem Mp.num_rvs (it : Itm) (p c f q : Int) : (Mp.num it p c f q).rvs = (if ¬ f = c ∨ (127 : UInt64) < 0 then Mp.bad 3 p q else (⟨it, 0, 0, q⟩ : Mp.Got)).rvs := by
  unfold Mp.num
  by_cases a : f = c
  · rw [if_neg (fun h => h a), if_neg (fun h => h.elim (fun h => h a) (by decide))]
  · rw [if_pos a, if_pos (.inl a)]
section
variable {c : UInt8} {L : Str} {u : UInt64} {k : Int} {n0 : UInt64} {long : Int}
theorem Mp.Says.kinds (h : Mp.Says c L u k n0 long) : (k = 1 ∨ k = 2 ∨ k = 3 ∨ k = 4 ∨ k = 5 ∨ k = 6 ∨ k = 8 ∨ k = 9 ∨ k = 10) ∧ (long = 8 → k = 1 ∨ k = 2 ∨ k = 9) ∧ (long = 0 → u.toNat ≤ 127) ∧ (k = 2 → long = 0 → u.toNat ≤ 31) := by
  have hc : 0 ≤ (c.toNat : Int) ∧ (c.toNat : Int) ≤ 255 := ⟨by omega, by have := c.toNat_lt; omega⟩
  obtain ⟨F1, _, F3, F4, F5⟩ := Mp.first_kinds _ hc
  rw [h.f] at F1 F3 F4 F5
  simp only at F1 F3 F4 F5
  have hk0 := h.k0
  refine ⟨by omega, F3, fun a => ?_, fun a b => ?_⟩
  · rw [h.u, if_pos a]; exact F4 a
  · rw [h.u, if_pos b]; exact F5 a b
theorem Mp.Says.u8 (h : Mp.Says c L u k n0 long) : long ≠ 0 → u.toNat < 256 ^ long.toNat := by
  intro a
  have hl := h.long'
  rw [h.u, if_neg a]
  exact Cur.be_bound L long.toNat h.l (by omega)
theorem Mp.Says.u32 (h : Mp.Says c L u k n0 long) (hk : k = 4 ∨ k = 3 ∨ k = 10 ∨ k = 5 ∨ k = 6) : u.toNat < 4294967296 := by
  obtain ⟨_, F3, F4, _⟩ := h.kinds
  by_cases a3 : long = 0
  · have := F4 a3; omega
  · have hq3 := h.u8 a3
    have h124 : long = 1 ∨ long = 2 ∨ long = 4 := by
      rcases h.long' with h | h | h | h | h
      · exact (a3 h).elim
      · exact .inl h
      · exact .inr (.inl h)
      · exact .inr (.inr h)
      · have := F3 h; omega
    clear F3 F4 hk a3
    rcases h124 with h | h | h
    · rw [h] at hq3; exact Nat.lt_trans hq3 (by decide)
    · rw [h] at hq3; exact Nat.lt_trans hq3 (by decide)
    · rw [h] at hq3; exact hq3
end
section
variable {n : Nat} {b : Str} {p w d k : Int} {u n0 : UInt64} {long : Int}
theorem ref29_read.j2_ok (c : UInt8) (L : Str) (x9 : Itv) (x10 : Flt) (hb : b.length ≤ 1099511627776) (hw : 0 ≤ w ∧ w + 1 ≤ d ∧ d ≤ 1000) (hn : (d - w).toNat < n + 1) (hp : 0 ≤ p)
    (hS : Mp.Says c L u k n0 long) (q : Int) (ty : UInt8) (hq : q = p + 1 + long + (if k = 10 then 1 else 0)) (hq' : q ≤ b.length)
    (hsl : (b.drop p.toNat).take (q - p).toNat = c :: (L ++ if k = 10 then [ty] else [])) :
    ref29_read.j2 n b p w d k u long q (if k = 10 then ty.toUInt64 else 0) x9 x10 ⟨0, 0, [], [], []⟩ ⟨3, p, []⟩ = some (Mp.readEnd b (Mp.read b (d - w - 1).toNat) p (c.toNat : Int) k u long (if k = 10 then ty.toUInt64 else 0) q).rvs := by
  have hl := hS.long'
  obtain ⟨F1, _, _, F5⟩ := hS.kinds
  have hu8 := hS.u8
  have hu32 := hS.u32
  have hq0 : 0 ≤ q := by rw [hq]; split <;> omega
  have hpq : p ≤ q := by rw [hq]; split <;> omega
  have n10 : k ≠ 10 → (if k = 10 then ty.toUInt64 else 0) = 0 := fun h => if_neg h
  have J := fun (m : UInt64) (h1 : k = 4 ∨ k = 3 ∨ k = 10 ∨ k = 5 ∨ k = 6 → m.toNat < 4294967296) (h2 : k = 1 ∨ k = 2 ∧ m < 9223372036854775808 ∨ k = 8 ∧ 20 ≤ m ∧ m ≤ 22 ∨ k = 9 ∨ k = 3 ∨ k = 4 ∨ k = 5 ∨ k = 6 ∨ k = 10) (W : Prop) [Decidable W] (hW : Mp.want k m (if k = 10 then ty.toUInt64 else 0) = (b.drop p.toNat).take (q - p).toNat ↔ W) =>
    ref29_read.j3_ok (n := n) (b := b) (p := p) (w := w) (d := d) (k := k) (q := q) (u := m) (t := if k = 10 then ty.toUInt64 else 0) x9 x10 hb hw hn ⟨hp, hpq⟩ ⟨hq0, hq'⟩ h1 n10 h2 W hW
  rw [hsl] at J
  refine ref29_read.j2_in _ _ _ _ _ _ _ _ _ _ _ _ _ _ ?_
  intro v1 e1
  simp only [Bool.not_or_self, ck_true]
  have z127 : ¬ (127 : UInt64) < 0 := by decide
  by_cases k2 : k = 2
  · subst k2
    simp only [show ((2 : Int) = 10) = False from propext ⟨by decide, False.elim⟩, if_false, List.append_nil] at J ⊢
    unfold Mp.readEnd
    rw [if_neg (by decide), if_neg (by decide), if_pos rfl]
    rw [decide_eq_true (show (2 : Int) = 2 from rfl), cond_true] at e1
    by_cases a : long = 0
    · rw [decide_eq_false (by omega)] at e1
      have hu31 := F5 rfl a
      rw [e1, cond_false, if_pos a, J u (fun h => absurd h (by decide)) (.inr (.inl ⟨trivial, by rw [UInt64.lt_iff_toNat_lt]; show u.toNat < 9223372036854775808; omega⟩)) _ (Mp.want2 hS u (by rw [if_pos a]) 0), Mp.num_rvs]
      rfl
    · rw [decide_eq_true (by omega)] at e1
      rw [e1, cond_true, ck_of (decide_eq_true (by omega)), if_neg a]
      cases hbl : Mp.below u long with
      | none => rw [show ((none : Option UInt64).isSome) = false from rfl, Bool.not_false, cond_true, Mp.rvs_bad _ _ _ (by decide)]; rfl
      | some m =>
        have hB := Mp.below_eq u long (by omega) (hu8 a) _ rfl _ rfl
        rw [hbl] at hB
        have hm63 : m < 9223372036854775808 := by
          rw [hB.1] at hB
          exact UInt64.not_le.1 hB.2
        rw [show ((some m).isSome) = true from rfl, Bool.not_true, cond_false, show (some m).getD 0 = m from rfl, J m (fun h => absurd h (by decide)) (.inr (.inl ⟨trivial, hm63⟩)) _ (Mp.want2 hS m (by rw [if_neg a]; exact hbl) 0), Mp.num_rvs]
        rfl
  rw [decide_eq_false k2, cond_false] at e1
  rw [e1, cond_false]
  unfold Mp.readEnd
  by_cases k8 : k = 8
  · subst k8
    simp only [show ((8 : Int) = 10) = False from propext ⟨by decide, False.elim⟩, if_false, List.append_nil] at J ⊢
    obtain ⟨w1, w2⟩ := Mp.want8 hS 0
    rw [J u (fun h => absurd h (by decide)) (.inr (.inr (.inl ⟨trivial, w2⟩))) True ⟨fun _ => trivial, fun _ => w1⟩, if_neg (fun h => h.elim (fun h => h trivial) z127), if_pos (by decide)]
    rfl
  by_cases k9 : k = 9
  · subst k9
    simp only [show ((9 : Int) = 10) = False from propext ⟨by decide, False.elim⟩, if_false, List.append_nil] at J ⊢
    rw [J u (fun h => absurd h (by decide)) (.inr (.inr (.inr (.inl trivial)))) True ⟨fun _ => trivial, fun _ => Mp.want9 hS 0⟩, if_neg (fun h => h.elim (fun h => h trivial) z127), if_pos (by decide)]
    rfl
  rw [if_neg (show ¬ (k = 8 ∨ k = 9) by omega)]
  by_cases k1 : k = 1
  · subst k1
    simp only [show ((1 : Int) = 10) = False from propext ⟨by decide, False.elim⟩, if_false, List.append_nil] at J ⊢
    rw [if_pos trivial, J u (fun h => absurd h (by decide)) (.inl trivial) _ (Mp.want1 hS 0), Mp.num_rvs]
    rfl
  rw [if_neg k1, if_neg k2]
  by_cases k10 : k = 10
  · subst k10
    simp only [if_true] at J ⊢
    have hu := hu32 (by omega)
    rw [J u (fun _ => hu) (.inr (.inr (.inr (.inr (.inr (.inr (.inr (.inr trivial)))))))) _ (Mp.want10 hS hu ty)]
    simp only [ne_eq, show ((10 : Int) = 5) = False from propext ⟨by decide, False.elim⟩, show ((10 : Int) = 6) = False from propext ⟨by decide, False.elim⟩, if_false]
    rfl
  simp only [if_neg k10, List.append_nil] at J ⊢
  have hk4 : k = 3 ∨ k = 4 ∨ k = 5 ∨ k = 6 := by omega
  have hu := hu32 (by omega)
  rw [J u (fun _ => hu) (by omega) _ (Mp.wantS hk4 hS hu 0)]
  congr 2
  by_cases a : ¬ (Mp.sized k u.toNat).1 = (c.toNat : Int) ∨ (127 : UInt64) < 0
  · rw [if_pos a, if_pos a]
  rw [if_neg a, if_neg a, Mp.body]
  rcases hk4 with rfl | rfl | rfl | rfl <;> rfl
end
theorem drop_take_split (b : Str) (p long : Nat) (h : p + 1 + long ≤ b.length) : (b.drop p).take (1 + long) = b.getD p 0 :: (b.drop (p + 1)).take long := by
  rw [drop_cons (show p < b.length by omega) 0, Nat.add_comm 1 long, List.take_succ_cons]
theorem getD_dropped (b : Str) (i j : Nat) : (b.drop i).getD j 0 = b.getD (i + j) 0 := by
  rw [List.getD_eq_getElem?_getD, List.getElem?_drop, List.getD_eq_getElem?_getD]
theorem take_snoc (l : Str) (m : Nat) (h : m < l.length) : l.take (m + 1) = l.take m ++ [l.getD m 0] := by
  rw [List.take_succ_eq_append_getElem h, List.getD_eq_getElem?_getD, List.getElem?_eq_getElem h]; rfl
theorem ref29_read.j1_ok (n : Nat) (b : Str) (p w d k : Int) (u n0 : UInt64) (long : Int) (x8 : Itv) (x9 : Flt) (hb : b.length ≤ 1099511627776) (hw : 0 ≤ w ∧ w + 1 ≤ d ∧ d ≤ 1000) (hn : (d - w).toNat < n + 1) (hp : 0 ≤ p)
    (hfit : p + 1 + long + (if k = 10 then 1 else 0) ≤ b.length)
    (hS : Mp.Says (b.getD p.toNat 0) ((b.drop (p + 1).toNat).take long.toNat) u k n0 long) :
    ref29_read.j1 n b p w d k u long (if k = 10 then 1 else 0) x8 x9 ⟨0, 0, [], [], []⟩ ⟨3, p, []⟩ = some (Mp.readTail b (Mp.read b (d - w - 1).toNat) p ((b.getD p.toNat 0).toNat : Int) k u long (p + 1 + long)).rvs := by
  have hl := hS.long'
  have hl0 : 0 ≤ long ∧ long ≤ 8 := by omega
  clear hl
  refine ref29_read.j1_in _ _ _ _ _ _ _ _ _ _ _ _ _ ?_
  intro v1 e1 v2 e2 v3 e3 v4 e4 v5 e5
  have e1' : v1 = p + 1 := by
    rw [e1, i64_in _ (by split at hfit <;> omega)]
  have hsl0 : ((b.drop p.toNat).take (1 + long.toNat)) = b.getD p.toNat 0 :: (b.drop (p + 1).toNat).take long.toNat := by
    rw [drop_take_split b p.toNat long.toNat (by split at hfit <;> omega), show (p + 1).toNat = p.toNat + 1 by omega]
  unfold Mp.readTail
  by_cases k10 : k = 10
  · simp only [if_pos k10] at hfit e2 ⊢
    have e2' : v2 = p + 1 + long + 1 := by rw [e2, e1', i64_in (p + 1 + long) (by omega), i64_in _ (by omega)]
    have e3' : v3 = p + 1 + long := by rw [e3, e2', i64_in _ (by omega)]; omega
    rw [decide_eq_true (by omega), cond_true, ck_of (idx_ok (by omega) (by omega)), if_neg (by omega), e5, e4, e3', u8_u64, e2']
    have J := ref29_read.j2_ok (n := n) (b := b) (p := p) (w := w) (d := d) (k := k) (u := u) (n0 := n0) (long := long) (b.getD p.toNat 0) _ x8 x9 hb hw hn hp hS (p + 1 + long + 1) (b.getD (p + 1 + long).toNat 0) (by rw [if_pos k10]) (by omega) (by
      rw [if_pos k10, show (p + 1 + long + 1 - p).toNat = (1 + long.toNat) + 1 by omega, take_snoc _ _ (by rw [List.length_drop]; omega), hsl0, List.cons_append, getD_dropped, show p.toNat + (1 + long.toNat) = (p + 1 + long).toNat by omega])
    simp only [if_pos k10] at J
    exact J
  · simp only [if_neg k10] at hfit e2 ⊢
    have e2' : v2 = p + 1 + long := by rw [e2, e1', i64_in (p + 1 + long) (by omega), i64_in _ (by omega)]; omega
    rw [decide_eq_false (by omega), cond_false, e2']
    have J := ref29_read.j2_ok (n := n) (b := b) (p := p) (w := w) (d := d) (k := k) (u := u) (n0 := n0) (long := long) (b.getD p.toNat 0) _ x8 x9 hb hw hn hp hS (p + 1 + long) 0 (by rw [if_neg k10]; omega) (by omega) (by
      rw [if_neg k10, List.append_nil, show (p + 1 + long - p).toNat = 1 + long.toNat by omega, hsl0])
    simp only [if_neg k10] at J
    exact J
theorem ref29_read.goal (n : Nat) (b : Str) (p w d : Int) (hp : ((decide (b.length ≤ 1099511627776 ∧ 0 ≤ p ∧ 0 ≤ w ∧ w ≤ d ∧ d ≤ 1000)) && decide (((d - w).toNat) < n + 1)) = true) :
    ref29_read.F n b p w d = some [.ag (Itv.cells (Itm.val (Mp.read b (d - w).toNat p).it)), .i .i64 (Mp.next b (d - w).toNat p), .ag (Flt.cells (Flt.mk (Mp.read b (d - w).toNat p).err (Mp.read b (d - w).toNat p).at_ []))] := by
  simp only [Bool.and_eq_true, decide_eq_true_eq] at hp
  obtain ⟨⟨hb, h0, hw0, hwd, hd⟩, hn⟩ := hp
  show ref29_read.F n b p w d = some (Mp.read b (d - w).toNat p).rvs
  refine ref29_read.F_in _ _ _ _ _ ?_
  intro v1 e1 v2 e2 v3 e3 v4 e4 v5 e5 v6 e6 v7 e7 v8 e8
  by_cases a : d ≤ w
  · rw [decide_eq_true a, cond_true, show (d - w).toNat = 0 by omega, show Mp.read b 0 p = Mp.bad 8 p p from rfl, Mp.rvs_bad _ _ _ (by decide)]; rfl
  rw [decide_eq_false a, cond_false, show (d - w).toNat = (d - w - 1).toNat + 1 by omega, Mp.read]
  by_cases m : (b.length : Int) ≤ p
  · rw [decide_eq_true m, cond_true, if_pos m, Mp.rvs_bad _ _ _ (by decide)]; rfl
  rw [decide_eq_false m, cond_false, if_neg m, ck_of (idx_ok h0 (by omega)), ← e1, ← e2, ← e3, ← e4, Mp.readAt]
  have hc : 0 ≤ (v1.toNat : Int) ∧ (v1.toNat : Int) ≤ 255 := ⟨by omega, by have := v1.toNat_lt; omega⟩
  have hl : 0 ≤ v4 ∧ v4 ≤ 8 := by
    have := (Mp.first_kinds _ hc).2.1
    rw [← e4] at this; omega
  rw [← e2] at e5
  have e7' : v7 = (b.length : Int) - p - 1 := by rw [e7, e6, i64_in ((b.length : Int) - p) (by omega), i64_in _ (by omega)]
  have e8' : v8 = p + 1 := by rw [e8, i64_in _ (by omega)]
  have h5 : v5 = 0 ∨ v5 = 1 := by rw [e5]; split <;> omega
  by_cases k0 : v2 = 0
  · rw [decide_eq_true k0, cond_true, if_pos k0, Mp.rvs_bad _ _ _ (by decide)]; rfl
  rw [decide_eq_false k0, cond_false, if_neg k0, i64_in (v4 + v5) (by omega), e7']
  by_cases s : (b.length : Int) - p - 1 < v4 + v5
  · rw [decide_eq_true s, cond_true]
    by_cases s1 : (b.length : Int) - (p + 1) < v4
    · rw [if_pos s1, Mp.rvs_bad _ _ _ (by decide)]; rfl
    · have h51 : v5 = 1 := by omega
      have k10 : v2 = 10 := Classical.byContradiction fun h => by rw [if_neg h] at e5; omega
      rw [if_neg s1, Mp.readTail, if_pos k10, if_pos (by omega), Mp.rvs_bad _ _ _ (by decide)]; rfl
  rw [decide_eq_false s, cond_false, if_neg (by omega)]
  have hfit : p + 1 + v4 + (if v2 = 10 then 1 else 0) ≤ b.length := by rw [← e5]; omega
  have J := fun (u : UInt64) (hu : u = if v4 = 0 then v3 else Cur.be ((b.drop (p + 1).toNat).take v4.toNat)) => ref29_read.j1_ok n b p w d v2 u v3 v4 ⟨0, 0, [], [], []⟩ ⟨0, 0, []⟩ hb ⟨hw0, by omega, hd⟩ hn h0 hfit ⟨by rw [← e1, e2, e3, e4], k0, by rw [List.length_take, List.length_drop]; omega, hu⟩
  rw [← e1, ← e5] at J
  by_cases l0 : v4 = 0
  · rw [decide_eq_false (by omega), cond_false]
    exact J v3 (by rw [if_pos l0]) ▸ (by rw [if_pos l0])
  · rw [decide_eq_true (by omega), cond_true, ck_of (decide_eq_true hb), e8']
    have hrng : Mp.rng b (p + 1) v4 = (b.drop (p + 1).toNat).take v4.toNat := by
      rw [Mp.rng, show Mp.rngOK b (p + 1) v4 = true by unfold Mp.rngOK; exact decide_eq_true (by omega), cond_true]
    rw [hrng, if_neg l0]
    exact J _ (by rw [if_neg l0])
theorem Mp.kids_at (f : Int → Mp.Got) : ∀ (n : Nat) (it : Itm) (q : Int), (Mp.kids f it n q).err = 0 → (Mp.kids f it n q).at_ = 0
  | 0, _, _, _ => rfl
  | n + 1, it, q, h => by
    rw [Mp.kids] at h ⊢
    split at h
    · rename_i a; exact (a h).elim
    · rename_i a; rw [if_neg a]; exact Mp.kids_at f n _ _ h
theorem Mp.read_at (b : Str) : ∀ (d : Nat) (p : Int), (Mp.read b d p).err = 0 → (Mp.read b d p).at_ = 0 := by
  have num : ∀ (it : Itm) (p c f q : Int), (Mp.num it p c f q).err = 0 → (Mp.num it p c f q).at_ = 0 := by
    intro it p c f q h; unfold Mp.num at h ⊢; split at h
    · cases h
    · rename_i a; rw [if_neg a]
  have row : ∀ (it : Itm) (p q n : Int), (Mp.row b it p q n).err = 0 → (Mp.row b it p q n).at_ = 0 := by
    intro it p q n h
    unfold Mp.row at h ⊢
    split at h
    · cases h
    · rename_i a; rw [if_neg a]
      split at h
      · rename_i a; rw [if_pos a]
      · rename_i a; rw [if_neg a]
        split at h
        · rename_i a; rw [if_pos a]
        · cases h
  have fin : ∀ (sub : Int → Mp.Got) (p c k : Int) (n : UInt64) (long : Int) (t : UInt64) (q : Int), (Mp.readEnd b sub p c k n long t q).err = 0 → (Mp.readEnd b sub p c k n long t q).at_ = 0 := by
    intro sub p c k n long t q
    unfold Mp.readEnd
    repeat' split
    all_goals intro h
    all_goals first
      | rfl
      | exact num _ _ _ _ _ h
      | exact Mp.kids_at _ _ _ _ h
      | exact row _ _ _ _ h
      | cases h
  intro d
  cases d with
  | zero => intro p h; cases h
  | succ d =>
    intro p
    rw [Mp.read]
    split
    · intro h; cases h
    unfold Mp.readAt Mp.readTail
    repeat' split
    all_goals intro h
    all_goals first
      | exact fin _ _ _ _ _ _ _ _ h
      | cases h
theorem ref29_Decode.goal (b : Str) (depth : Int) (hp : decide (b.length ≤ 1099511627776) = true) : ref29_Decode.F b depth = some [.ag (Itv.cells (Itm.val (Mp.dec b depth).1)), .ag (Flt.cells (Mp.dec b depth).2)] := by
  have hb := of_decide_eq_true hp
  refine ref29_Decode.F_in _ _ ?_
  intro v1 e1 v2 e2 v3 e3 v4 e4
  simp only [Bool.not_or_self, Bool.or_not_self, Bool.and_self, ck_true]
  have e1' : v1 = decide (depth < 0 ∨ 1000 < depth) := by
    rw [e1]
    by_cases a : depth < 0 <;> by_cases b : 1000 < depth <;> simp [a, b]
  rw [e1', Mp.dec]
  by_cases a : depth < 0 ∨ 1000 < depth
  · rw [decide_eq_true a, cond_true, if_pos a]; rfl
  rw [decide_eq_false a, cond_false, if_neg a, ck_of (decide_eq_true ⟨hb, by omega, by omega, by omega, by omega⟩)]
  rw [Int.sub_zero] at e2 e3
  rw [ref29_Decode.j1_eq, ref29_Decode.j1_eq, e4, e3, Int.sub_zero, e2, Mp.next]
  by_cases x : (Mp.read b depth.toNat 0).err = 0
  · rw [decide_eq_true x, cond_true, if_pos x, if_neg (fun h => h x)]
    by_cases y : (Mp.read b depth.toNat 0).pos < b.length
    · rw [decide_eq_true y, cond_true, if_pos y]; rfl
    · rw [decide_eq_false y, cond_false, if_neg y]
      simp only [x, Mp.read_at b _ _ x]; rfl
  · rw [decide_eq_false x, cond_false, cond_false, if_pos x]; rfl
end Go.Eng
namespace Go.Eng
open Go.IntWalk
theorem ref1_SameInts.l1_ok (a b : List Int) (hl : a.length = b.length) (hb : a.length < 9223372036854775807) : ∀ (m i : Nat), i + m = a.length → ref1_SameInts.l1 a b i = some [.b (decide (a.drop i = b.drop i))] := by
  intro m
  induction m with
  | zero =>
    intro i hi
    refine ref1_SameInts.l1_in _ _ _ ?_
    intro v1 h1 v2 h2 v3 h3
    rw [decide_eq_false (by omega), cond_false, List.drop_of_length_le (by omega), List.drop_of_length_le (by omega)]; rfl
  | succ m ih =>
    intro i hi
    refine ref1_SameInts.l1_in _ _ _ ?_
    intro v1 h1 v2 h2 v3 h3
    rw [Int.toNat_natCast] at h1 h2
    rw [decide_eq_true (by omega), cond_true, ck_of (idx_ok (by omega) (by omega)), ck_of (idx_ok (by omega) (by omega)), drop_cons (l := a) (i := i) (by omega) 0, drop_cons (l := b) (i := i) (by omega) 0, ← h1, ← h2]
    by_cases h : v1 = v2
    · rw [decide_eq_true h]
      simp only [Bool.not_true, cond_false]
      rw [show v3 = ((i + 1 : Nat) : Int) by rw [h3, i64_in _ (by omega)]; omega, ih _ (by omega)]
      simp [h]
    · rw [decide_eq_false h]; simp [h]
theorem ref1_SameInts.goal (a b : List Int) (hp : decide (a.length ≤ 1099511627776) = true) : ref1_SameInts.F a b = some [.b (decide (a = b))] := by
  have hp := of_decide_eq_true hp
  rw [ref1_SameInts.F_eq]
  by_cases hl : a.length = b.length
  · rw [decide_eq_true (by omega)]
    have := ref1_SameInts.l1_ok a b hl (by omega) a.length 0 (by omega)
    simpa using this
  · rw [decide_eq_false (by omega), decide_eq_false (fun e => hl (by rw [e]))]; rfl
theorem Book.room_le (sizes : List Int) : ∀ left : Int, left ≤ 10000 → (∀ s ∈ sizes, 0 ≤ s) → Book.room left sizes ≤ 10000 := by
  induction sizes with
  | nil => intro left h _; exact h
  | cons s r ih =>
    intro left h hs
    rw [Book.room]
    split
    · omega
    · have := hs s (List.mem_cons_self ..)
      exact ih _ (by omega) fun x hx => hs x (List.mem_cons_of_mem _ hx)
theorem book_Room.l1_ok (sizes : List Int) (hl : sizes.length ≤ 10) (hs : ∀ s ∈ sizes, 0 ≤ s) : ∀ (m i : Nat) (left : Int), i + m = sizes.length → left ≤ 10000 → book_Room.l1 left sizes i = some [.i .i64 (Book.room left (sizes.drop i))] := by
  intro m
  induction m with
  | zero =>
    intro i left hi hle
    refine book_Room.l1_in _ _ _ ?_
    intro v1 h1 v2 h2 v3 h3
    rw [decide_eq_false (by omega), cond_false, List.drop_of_length_le (by omega)]; rfl
  | succ m ih =>
    intro i left hi hle
    refine book_Room.l1_in _ _ _ ?_
    intro v1 h1 v2 h2 v3 h3
    rw [Int.toNat_natCast] at h1
    have h0 : 0 ≤ v1 := hs v1 (by rw [h1, List.getD_eq_getElem?_getD, List.getElem?_eq_getElem (show i < sizes.length by omega)]; simp)
    rw [decide_eq_true (by omega), cond_true, show idxOK (i : Int) sizes.length = true from idx_ok (by omega) (by omega), drop_cons (l := sizes) (i := i) (by omega) 0, ← h1, Book.room]
    simp only [Bool.and_self, Bool.and_true, Bool.not_or_self, Bool.or_not_self, ck_true]
    by_cases a : left < 0 ∨ left < v1
    · rw [if_pos a, show v2 = true by rw [h2]; by_cases b : left < 0 <;> simp [b]; omega]; rfl
    · rw [if_neg a, show v2 = false by rw [h2]; by_cases b : left < 0 <;> simp [b] <;> omega, cond_false, show v3 = ((i + 1 : Nat) : Int) by rw [h3, i64_in _ (by omega)]; omega, i64_in _ (by omega), ih _ _ (by omega) (by omega)]
theorem book_Room.goal (left : Int) (sizes : List Int) (hp : (decide (left ≤ 10000 ∧ sizes.length ≤ 10) && sizes.all (fun s => decide (0 ≤ s))) = true) : book_Room.F left sizes = some [.i .i64 (Book.room left sizes)] := by
  simp only [Bool.and_eq_true, decide_eq_true_eq, List.all_eq_true] at hp
  rw [book_Room.F_eq]
  exact book_Room.l1_ok sizes hp.1.2 hp.2 sizes.length 0 left (by omega) hp.1.1
theorem Itm.room3 (left a b c : Int) (ha : 0 ≤ a) (hb : 0 ≤ b) (hc : 0 ≤ c) (hl : left ≤ 10000) :
    Book.room left [a, b, c] ≤ 10000 ∧ (Book.room left [a, b, c] = -1 ∨ (Book.room left [a, b, c] = left - a - b - c ∧ 0 ≤ left - a - b - c)) := by
  simp only [Book.room]
  split
  · omega
  · split
    · omega
    · split <;> omega
mutual
theorem Itm.room_le : ∀ (it : Itm) (left : Int), left ≤ 10000 → Itm.room left it ≤ 10000 ∧ (0 ≤ Itm.room left it → (Itm.bulk it : Int) ≤ left - Itm.room left it)
  | .mk k n b t ks, left, hl => by
    have h1 := Itm.room3 left 2 t.length b.length (by omega) (by omega) (by omega) hl
    have h2 := Itm.rooms_le ks (Book.room left [2, (t.length : Int), (b.length : Int)]) h1.1
    simp only [Itm.room, Itm.bulk]
    refine ⟨h2.1, fun h0 => ?_⟩
    have h3 := h2.2 h0
    rcases h1.2 with e | ⟨e, e0⟩
    · omega
    · omega
theorem Itm.rooms_le : ∀ (ks : List Itm) (left : Int), left ≤ 10000 → Itm.rooms left ks ≤ 10000 ∧ (0 ≤ Itm.rooms left ks → 0 ≤ left ∧ (Itm.bulks ks : Int) ≤ left - Itm.rooms left ks)
  | [], left, hl => by simp only [Itm.rooms, Itm.bulks]; exact ⟨hl, fun h => ⟨h, by omega⟩⟩
  | k :: r, left, hl => by
    simp only [Itm.rooms, Itm.bulks]
    split
    · exact ⟨hl, fun h => by omega⟩
    · have h1 := Itm.room_le k left hl
      have h2 := Itm.rooms_le r (Itm.room left k) h1.1
      refine ⟨h2.1, fun h0 => ?_⟩
      have h3 := h2.2 h0
      have h4 := h1.2 h3.1
      exact ⟨by omega, by omega⟩
end
theorem Itm.small_bulk (it : Itm) (h : 0 ≤ Itm.room 1500 it) : Itm.bulk it ≤ 1500 := by
  have := (Itm.room_le it 1500 (by omega)).2 h; omega
theorem book_item.l1_ok (n : Nat) (it : Itv) (hn : Itm.bulks it.kids < n) : ∀ (m i : Nat) (left : Int), i + m = it.kids.length → left ≤ 10000 → (i : Int) + left ≤ 10000 → book_item.l1 n left i it = some [.i .i64 (Itm.rooms left (it.kids.drop i))] := by
  intro m
  induction m with
  | zero =>
    intro i left hi hl hil
    refine book_item.l1_in _ _ _ _ ?_
    intro v1 e1 v2 e2 v3 e3 v4 e4
    simp only [Bool.not_or_self, ck_true]
    rw [e2, decide_eq_false (by omega), cond_false, cond_false, List.drop_of_length_le (by omega)]; rfl
  | succ m ih =>
    intro i left hi hl hil
    refine book_item.l1_in _ _ _ _ ?_
    intro v1 e1 v2 e2 v3 e3 v4 e4
    simp only [Bool.not_or_self, ck_true]
    have hi' : i < it.kids.length := by omega
    have hb' := Itm.bulks_at it.kids i hi'
    rw [Int.toNat_natCast, Itm.of_val] at e3
    rw [e2, decide_eq_true (by omega), cond_true, drop_cons hi' (STy.dflt .il), Itm.rooms]
    by_cases a : left < 0
    · rw [decide_eq_false (by omega), cond_false, if_pos a]
    · rw [decide_eq_true (by omega), cond_true, if_neg a, ck_of (idx_ok (by omega) (by omega)), Int.toNat_natCast, Itm.of_val, ck_of (by rw [decide_eq_true hl, decide_eq_true (by omega)]; rfl), show v4 = ((i + 1 : Nat) : Int) by rw [e4, i64_in _ (by omega)]; omega, e3]
      have hr := Itm.room_le (it.kids.getD i (STy.dflt .il)) left hl
      have hp := Itm.bulk_pos (it.kids.getD i (STy.dflt .il))
      refine ih _ _ (by omega) hr.1 ?_
      by_cases z : 0 ≤ Itm.room left (it.kids.getD i (STy.dflt .il))
      · have := hr.2 z; omega
      · omega
theorem book_item.goal (n : Nat) (left : Int) (it : Itv) (hp : ((decide (left ≤ 10000)) && decide ((Itm.bulk (Itm.of it)) < n + 1)) = true) : book_item.F n left it = some [.i .i64 (Itm.room left (Itm.of it))] := by
  simp only [Bool.and_eq_true, decide_eq_true_eq] at hp
  obtain ⟨hl, hn⟩ := hp
  rw [Itm.bulk_of] at hn
  refine book_item.F_in _ _ _ ?_
  intro v1 e1 v2 e2 v3 e3
  have h3 := Itm.room3 left 2 it.text.length it.bytes.length (by omega) (by omega) (by omega) hl
  have c3 : (decide (left ≤ 10000 ∧ v3.length ≤ 10) && v3.all (fun s => decide (0 ≤ s))) = true := by
    rw [e3, e1, e2]; simp; omega
  rw [ck_of c3, e3, e1, e2]
  have := book_item.l1_ok n it (by omega) it.kids.length 0 (Book.room left [2, (it.text.length : Int), (it.bytes.length : Int)]) (by omega) h3.1 (by have := h3.1; omega)
  simp only [Itm.of, Itm.room]
  exact this
theorem book_SmallItem.goal (it : Itv) : book_SmallItem.F it = some [.b (decide (0 ≤ Itm.room 1500 (Itm.of it)))] := by
  refine book_SmallItem.F_in _ ?_
  intro v1 e1
  rw [ck_of (decide_eq_true (by omega)), e1]
theorem book_Place.goal (k n : Int) (hp : decide (1 ≤ n ∧ n ≤ 1099511627776) = true) : book_Place.F k n = some [.i .i64 (k % n)] := by
  have h := of_decide_eq_true hp
  refine book_Place.F_in _ _ ?_
  intro v1 e1
  have h1 := Int.tmod_lt_of_pos k (show 0 < n by omega)
  have h2 : -n < Int.tmod k n := by
    have := Int.tmod_lt_of_pos (-k) (show 0 < n by omega)
    rw [Int.neg_tmod] at this; omega
  have hv : v1 = Int.tmod k n + n := by rw [e1, i64_in _ (by omega)]
  rw [show (!decide (n = 0)) = true by simp; omega, ck_true, ck_true, hv]
  congr 3
  rw [Int.tmod_eq_emod_of_nonneg (by omega), Int.add_emod_right]
  have := Int.emod_emod_of_dvd k (Int.dvd_refl n)
  rw [Int.tmod_eq_emod]
  split
  · rw [show (((0 : Nat) : Int)) = 0 from rfl, Int.sub_zero]; exact Int.emod_emod_of_dvd _ (Int.dvd_refl _)
  · rw [show (n.natAbs : Int) = n by omega, Int.sub_emod, Int.emod_self, Int.sub_zero, Int.emod_emod_of_dvd _ (Int.dvd_refl _), Int.emod_emod_of_dvd _ (Int.dvd_refl _)]
theorem ref5_Same.goal (f g : Flt) (hp : decide (f.path.length ≤ 1099511627776) = true) : ref5_Same.F f g = some [.b (decide (f.err = g.err ∧ f.at_ = g.at_ ∧ f.path = g.path))] := by
  refine ref5_Same.F_in _ _ ?_
  intro v1 e1 v2 e2
  simp only [hp, Bool.and_true, Bool.and_self, Bool.not_or_self, ck_true]
  rw [e2, e1]
  by_cases a : f.err = g.err <;> by_cases b : f.at_ = g.at_ <;> by_cases c : f.path = g.path <;> simp [a, b, c]
theorem law29_awake.goal : law29_awake.F = some [.b true] := by
  refine law29_awake.F_in ?_
  intro v1 e1 v2 e2 v3 e3 v4 e4 v5 e5 v6 e6 v7 e7 v8 e8
  have c2 : v2 = 0 := by rw [e2]; decide +kernel
  have c1 : v1 = [208, 223] := by rw [e1]; decide +kernel
  have c5 : v5 = 3 := by rw [e5, e3]; decide +kernel
  have c7 : v7 = 0 := by rw [e7, e3]; decide +kernel
  simp only [Bool.not_or_self, ck_true]
  rw [ck_of (by decide +kernel), ck_of (by rw [e3]; rfl), e8, e6, e4, c2, c1, c5, c7]
  rfl
mutual
theorem Itm.same_refl : ∀ (a : Itm), Itm.same a a = true
  | .mk k n b t ks => by rw [Itm.same]; simp [Itm.sames_refl ks]
theorem Itm.sames_refl : ∀ (l : List Itm), Itm.sames l l = true
  | [] => by rw [Itm.sames]
  | k :: r => by rw [Itm.sames, Itm.same_refl k, Itm.sames_refl r]; rfl
end
theorem Itm.sames_len : ∀ (a b : List Itm), a.length ≠ b.length → Itm.sames a b = false
  | [], [], h => (h rfl).elim
  | [], _ :: _, _ => by rw [Itm.sames]
  | _ :: _, [], _ => by rw [Itm.sames]
  | k :: r, k' :: r', h => by rw [Itm.sames, Itm.sames_len r r' (fun e => h (by simp [e])), Bool.and_false]
theorem ref28_Same.l1_ok (n : Nat) (a b : Itv) (hb : Itm.bulks a.kids ≤ 1099511627776) (hn : Itm.bulks a.kids < n) (hl : a.kids.length = b.kids.length) : ∀ (m i : Nat), i + m = a.kids.length → ref28_Same.l1 n i a b = some [.b (Itm.sames (a.kids.drop i) (b.kids.drop i))] := by
  have hk := Itm.bulk_kids a.kids
  intro m
  induction m with
  | zero =>
    intro i hi
    refine ref28_Same.l1_in _ _ _ _ ?_
    intro v1 e1 v2 e2 v3 e3
    rw [decide_eq_false (by omega), cond_false, List.drop_of_length_le (by omega), List.drop_of_length_le (by omega), Itm.sames]
  | succ m ih =>
    intro i hi
    refine ref28_Same.l1_in _ _ _ _ ?_
    intro v1 e1 v2 e2 v3 e3
    have hi' : i < a.kids.length := by omega
    have hi2 : i < b.kids.length := by omega
    have hb' := Itm.bulks_at a.kids i hi'
    rw [Int.toNat_natCast, Itm.of_val, Itm.of_val] at e2
    rw [decide_eq_true (by omega), cond_true, ck_of (idx_ok (by omega) (by omega)), ck_of (idx_ok (by omega) (by omega)), Int.toNat_natCast, Itm.of_val, ck_of (by rw [decide_eq_true (by omega), decide_eq_true (by omega)]; rfl), drop_cons hi' (STy.dflt .il), drop_cons hi2 (STy.dflt .il), Itm.sames, ← e2]
    cases v2 with
    | false => rfl
    | true => rw [Bool.not_true, cond_false, Bool.true_and, show v3 = ((i + 1 : Nat) : Int) by rw [e3, i64_in _ (by omega)]; omega, ih _ (by omega)]
theorem ref28_Same.goal (n : Nat) (a b : Itv) (hp : ((decide (Itm.bulk (Itm.of a) ≤ 1099511627776)) && decide ((Itm.bulk (Itm.of a)) < n + 1)) = true) : ref28_Same.F n a b = some [.b (Itm.same (Itm.of a) (Itm.of b))] := by
  simp only [Bool.and_eq_true, decide_eq_true_eq] at hp
  obtain ⟨h, hn⟩ := hp
  rw [Itm.bulk_of] at h hn
  refine ref28_Same.F_in _ _ _ ?_
  intro v1 e1 v2 e2 v3 e3 v4 e4 v5 e5 v6 e6 v7 e7
  have c1 : ((!decide (a.kind = b.kind)) || v1) = true := by rw [e1]; cases decide (a.kind = b.kind) <;> rfl
  simp only [Bool.not_or_self, Bool.or_not_self, Bool.and_self, ck_true, c1]
  rw [e7, e4, e3, e2, e5, e6]
  simp only [Itm.of, Itm.same]
  by_cases a1 : a.kind = b.kind
  · by_cases a2 : a.n = b.n
    · by_cases a3 : a.text = b.text
      · by_cases a4 : a.bytes = b.bytes
        · by_cases a5 : a.kids.length = b.kids.length
          · have hl := ref28_Same.l1_ok n a b (by omega) (by omega) a5 a.kids.length 0 (by omega)
            rw [decide_eq_true a1, decide_eq_true a2, decide_eq_true a3, decide_eq_true a4, decide_eq_true (show (a.kids.length : Int) = b.kids.length by omega)]
            simpa using hl
          · rw [decide_eq_false (show ¬ (a.kids.length : Int) = b.kids.length by omega), Itm.sames_len _ _ a5]
            simp [a1, a2, a3, a4]
        · simp [a4]
      · simp [a3]
    · simp [a2]
  · simp [a1]
mutual
theorem Itm.nest_le : ∀ (a : Itm), Itm.nest a ≤ Itm.bulk a
  | .mk k n b t ks => by have := Itm.nests_le ks; simp only [Itm.nest, Itm.bulk]; omega
theorem Itm.nests_le : ∀ (l : List Itm), Itm.nests l ≤ Itm.bulks l
  | [] => Nat.le_refl _
  | k :: r => by have := Itm.nest_le k; have := Itm.nests_le r; simp only [Itm.nests, Itm.bulks]; omega
end
theorem law29_nest.l1_ok (n : Nat) (it : Itv) (hb : Itm.bulks it.kids ≤ 1099511627776) (hn : Itm.bulks it.kids < n) : ∀ (m i : Nat) (x : Nat), i + m = it.kids.length → x ≤ 1099511627776 → law29_nest.l1 n x i it = some [.i .i64 ((max x (Itm.nests (it.kids.drop i)) + 1 : Nat) : Int)] := by
  have hk := Itm.bulk_kids it.kids
  intro m
  induction m with
  | zero =>
    intro i x hi hx
    refine law29_nest.l1_in _ _ _ _ ?_
    intro v1 e1 v2 e2 v3 e3 v4 e4
    rw [decide_eq_false (by omega), cond_false, List.drop_of_length_le (by omega), e4, i64_in _ (by omega), show Itm.nests [] = 0 from rfl, Nat.max_zero]; rfl
  | succ m ih =>
    intro i x hi hx
    refine law29_nest.l1_in _ _ _ _ ?_
    intro v1 e1 v2 e2 v3 e3 v4 e4
    have hi' : i < it.kids.length := by omega
    have hb' := Itm.bulks_at it.kids i hi'
    have hne := Itm.nest_le (it.kids.getD i (STy.dflt .il))
    rw [Int.toNat_natCast, Itm.of_val] at e2
    rw [decide_eq_true (by omega), cond_true, ck_of (idx_ok (by omega) (by omega)), Int.toNat_natCast, Itm.of_val, ck_of (by rw [decide_eq_true (by omega), decide_eq_true (by omega)]; rfl), maxI_max, e2, show max (x : Int) (Itm.nest (it.kids.getD i (STy.dflt .il)) : Int) = ((max x (Itm.nest (it.kids.getD i (STy.dflt .il))) : Nat) : Int) by omega, show v3 = ((i + 1 : Nat) : Int) by rw [e3, i64_in _ (by omega)]; omega, ih _ _ (by omega) (by omega), drop_cons hi' (STy.dflt .il), Itm.nests, Nat.max_assoc]
theorem law29_nest.goal (n : Nat) (it : Itv) (hp : ((decide (Itm.bulk (Itm.of it) ≤ 1099511627776)) && decide ((Itm.bulk (Itm.of it)) < n + 1)) = true) : law29_nest.F n it = some [.i .i64 (Itm.nest (Itm.of it) : Int)] := by
  simp only [Bool.and_eq_true, decide_eq_true_eq] at hp
  obtain ⟨h, hn⟩ := hp
  rw [Itm.bulk_of] at h hn
  rw [law29_nest.F_eq]
  have := law29_nest.l1_ok n it (by omega) (by omega) it.kids.length 0 0 (by omega) (by omega)
  rw [show Itm.nest (Itm.of it) = Itm.nests it.kids + 1 by rw [Itm.of, Itm.nest]]
  rw [show max 0 (Itm.nests (it.kids.drop 0)) = Itm.nests it.kids by rw [List.drop_zero]; omega] at this
  exact this
theorem Itm.bulks_append : ∀ (a b : List Itm), Itm.bulks (a ++ b) = Itm.bulks a + Itm.bulks b
  | [], b => by simp [Itm.bulks]
  | k :: r, b => by rw [List.cons_append, Itm.bulks, Itm.bulks, Itm.bulks_append r b]; omega
theorem Mp.kids_bulk (b : Str) (f : Int → Mp.Got) (hp : ∀ q : Int, 0 ≤ q → q ≤ b.length → q ≤ (f q).pos ∧ (f q).pos ≤ b.length ∧ ((f q).err = 0 → q < (f q).pos)) (hf : ∀ q : Int, 0 ≤ q → q ≤ b.length → (f q).err = 0 → (Itm.bulk (f q).it : Int) ≤ (f q).pos - q) : ∀ (n : Nat) (it : Itm) (q : Int), 0 ≤ q → q ≤ b.length → (Mp.kids f it n q).err = 0 →
    (Itm.bulk (Mp.kids f it n q).it : Int) ≤ Itm.bulk it + ((Mp.kids f it n q).pos - q) := by
  intro n
  induction n with
  | zero => intro it q _ _ _; simp only [Mp.kids]; omega
  | succ n ih =>
    intro it q h0 h1 he
    rw [Mp.kids] at he ⊢
    by_cases a : (f q).err = 0
    · rw [if_neg (fun h => h a)] at he ⊢
      obtain ⟨p1, p2, p3⟩ := hp q h0 h1
      have h2 := hf q h0 h1 a
      have h3 := ih _ _ (by omega) p2 he
      have h4 : Itm.bulk (.mk it.kind it.n it.bytes it.text (it.kids ++ [(f q).it])) = Itm.bulk it + Itm.bulk (f q).it := by
        cases it
        simp only [Itm.bulk, Itm.kind, Itm.n, Itm.bytes, Itm.text, Itm.kids, Itm.bulks_append, Itm.bulks]; omega
      rw [h4] at h3; omega
    · rw [if_pos a] at he; exact (a he).elim
theorem Mp.end_bulk (b : Str) (sub : Int → Mp.Got) (hp : ∀ q : Int, 0 ≤ q → q ≤ b.length → q ≤ (sub q).pos ∧ (sub q).pos ≤ b.length ∧ ((sub q).err = 0 → q < (sub q).pos)) (hf : ∀ q : Int, 0 ≤ q → q ≤ b.length → (sub q).err = 0 → (Itm.bulk (sub q).it : Int) ≤ (sub q).pos - q) (p c k : Int) (n : UInt64) (long : Int) (t : UInt64) (q : Int) (h0 : 0 ≤ q) (h1 : q ≤ b.length) :
    (Mp.readEnd b sub p c k n long t q).err = 0 → (Itm.bulk (Mp.readEnd b sub p c k n long t q).it : Int) ≤ 1 + ((Mp.readEnd b sub p c k n long t q).pos - q) := by
  have num : ∀ (k : Int) (n : UInt64) (f : Int), (Mp.num (.mk k n [] [] []) p c f q).err = 0 → (Itm.bulk (Mp.num (.mk k n [] [] []) p c f q).it : Int) ≤ 1 + ((Mp.num (.mk k n [] [] []) p c f q).pos - q) := by
    intro k n f h
    unfold Mp.num at h ⊢
    by_cases a : f = c
    · rw [if_neg (fun h => h a)]; simp [Itm.bulk, Itm.bulks]
    · rw [if_pos a] at h; cases h
  have row : ∀ (k : Int) (t : UInt64) (m : Nat), (Mp.row b (.mk k t [] [] []) p q m).err = 0 → (Itm.bulk (Mp.row b (.mk k t [] [] []) p q m).it : Int) ≤ 1 + ((Mp.row b (.mk k t [] [] []) p q m).pos - q) := by
    intro k t m h
    unfold Mp.row at h ⊢
    by_cases a : (m : Int) < 0 ∨ (b.length : Int) - q < m
    · rw [if_pos a] at h; cases h
    rw [if_neg a] at h ⊢
    have hl : ((b.drop q.toNat).take (m : Int).toNat).length ≤ m := by rw [List.length_take]; omega
    by_cases a4 : (Itm.mk k t [] [] []).kind ≠ 4
    · rw [if_pos a4]
      simp only [Itm.bulk, Itm.kids, Itm.text, Itm.bulks, List.length_nil]; omega
    · rw [if_neg a4] at h ⊢
      by_cases a5 : Utf.whole ((b.drop q.toNat).take (m : Int).toNat) = true
      · rw [if_pos a5]
        simp only [Itm.bulk, Itm.kids, Itm.bytes, Itm.bulks, List.length_nil]; omega
      · rw [if_neg a5] at h; cases h
  unfold Mp.readEnd
  repeat' split
  all_goals intro h
  all_goals first
    | exact num _ _ _ h
    | exact row _ _ _ h
    | (have := Mp.kids_bulk b sub hp hf _ _ q h0 h1 h; simp only [Itm.bulk, Itm.bulks, List.length_nil] at this; omega)
    | (simp only [Itm.bulk, Itm.bulks, List.length_nil]; omega)
    | cases h
theorem Mp.read_bulk (b : Str) : ∀ (d : Nat) (p : Int), 0 ≤ p → p ≤ b.length → (Mp.read b d p).err = 0 → (Itm.bulk (Mp.read b d p).it : Int) ≤ (Mp.read b d p).pos - p := by
  intro d
  induction d with
  | zero => intro p _ _ h; cases h
  | succ d ih =>
    intro p h0 h1
    rw [Mp.read]
    by_cases g1 : (b.length : Int) ≤ p
    · rw [if_pos g1]; intro h; cases h
    rw [if_neg g1]
    have hc := Mp.first_kinds ((b.getD p.toNat 0).toNat : Int) ⟨by omega, by have := (b.getD p.toNat 0).toNat_lt; omega⟩
    generalize Mp.first ((b.getD p.toNat 0).toNat : Int) = F at hc
    obtain ⟨k, n0, long⟩ := F
    simp only at hc ⊢
    obtain ⟨_, hl, _⟩ := hc
    unfold Mp.readAt
    by_cases g2 : k = 0
    · rw [if_pos g2]; intro h; cases h
    rw [if_neg g2]
    by_cases g3 : (b.length : Int) - (p + 1) < long
    · rw [if_pos g3]; intro h; cases h
    rw [if_neg g3]
    unfold Mp.readTail
    by_cases g4 : k = 10
    · rw [if_pos g4]
      by_cases g5 : (b.length : Int) - (p + 1 + long) < 1
      · rw [if_pos g5]; intro h; cases h
      rw [if_neg g5]
      intro h
      have := Mp.end_bulk b _ (Mp.read_pos b d) ih _ _ _ _ _ _ _ (by omega) (by omega) h
      omega
    · rw [if_neg g4]
      intro h
      have := Mp.end_bulk b _ (Mp.read_pos b d) ih _ _ _ _ _ _ _ (by omega) (by omega) h
      omega
theorem Mp.dec_bulk (b : Str) (depth : Int) : Itm.bulk (Mp.dec b depth).1 ≤ b.length + 1 := by
  unfold Mp.dec
  split
  · simp only [Mp.zero, Itm.bulk, Itm.bulks, List.length_nil]; omega
  simp only
  split
  · simp only [Mp.zero, Itm.bulk, Itm.bulks, List.length_nil]; omega
  split
  · simp only [Mp.zero, Itm.bulk, Itm.bulks, List.length_nil]; omega
  · rename_i a _
    have h := Mp.read_bulk b depth.toNat 0 (by omega) (by omega) (Classical.byContradiction fun h => a h)
    have := (Mp.read_pos b depth.toNat 0 (by omega) (by omega)).2.1
    show Itm.bulk (Mp.read b depth.toNat 0).it ≤ b.length + 1
    omega
theorem Mp.dec_path (b : Str) (depth : Int) : (Mp.dec b depth).2.path = [] := by
  unfold Mp.dec
  dsimp only
  repeat' split
  all_goals rfl
end Go.Eng
namespace Go.Eng
open Go.RowKit Go.Maps Go.Proofs
set_option maxRecDepth 100000
set_option maxHeartbeats 1000000
theorem wpList_insert_own {H : Type} {P : Program} (w : World) {ops : Array Oper} {rest : List Oper} {o : Oper} {a : Act} {Q : Exit → Act → World → Prop}
    (hg : o.guard = none) (m x v : Operand) (t : TypeId) (hop : o.op = Op.insert t m x v)
    (k e : TypeId) (K : Keyed P k) (ht : P.underlying t = some (.map k e)) (R : Value → Option (DataW H × List MemPlace)) (b n : Nat) (D : DataW H)
    (hm : a.eval m = .map (some b)) (hown : w.ownsMap P k R b n D) (hn : n < maxLen) (key val : Value) (kl : Lit) (hx : a.eval x = key) (hv : a.eval v = val) (hkey : keyOf P k key = some kl)
    (d : DataW H) (ps : List MemPlace) (hval : R val = some (d, ps))
    (hK : ∀ w', w'.ownsMap P k R b (n + 1) (D.put kl d) → w.grownBy w' (some b) → wpList P ops Q rest (a.put o.dst undef) w') :
    wpList P ops Q (o :: rest) a w := by
  refine wpList_plain hg fun K' hK' => ?_
  obtain ⟨w', hrun, r1, r2⟩ := hown.update K ht hn hkey hval
  unfold Oper.wp
  simp [execOp, hop, hm, hx, hv, hrun, Result.andThen]
  exact hK' _ _ (hK w' r1 r2)
theorem alloc_size (w : World) (o : Obj) : (w.alloc o).heap.size = w.heap.size + 1 := Array.size_push ..
theorem sz_l3 : Keyed Try.prog 3 := int_keyed Try.underlying3
theorem sz_z3 (w : World) : (zeroValue 3).run Try.prog w = .ok (.int .i64 0) w := by kernel_rfl
structure Sz (w w' : World) : Prop where
  b : w'.heap[w.heap.size]? = some (.cells #[.int .i64 0, .int .i64 0] 67)
  o : Below w.heap.size w w'
  s : w.heap.size + 1 ≤ w'.heap.size
theorem Sz.c0 {w w' : World} (h : Sz w w') : w'.cell? ⟨w.heap.size, 0, none⟩ = some (.int .i64 0) := by simp [World.cell?, h.b]
theorem Sz.c1 {w w' : World} (h : Sz w w') : w'.cell? ⟨w.heap.size, 1, none⟩ = some (.int .i64 0) := by simp [World.cell?, h.b]
theorem Sz.f {w w' : World} (h : Sz w w') (i : Nat) : w'.frozen? ⟨w.heap.size, i, none⟩ = false := by simp [World.frozen?, h.b]
theorem sz_start (w : World) : Sz w ((w.alloc (.cells #[.int .i64 0, .int .i64 0] 67)).alloc (.map #[] 0)) := by
  refine ⟨?_, ((Below.refl _ _).alloc (Nat.le_refl _) _).alloc (by rw [alloc_size]; omega) _, by rw [alloc_size, alloc_size]; omega⟩
  rw [Below.heap_alloc _ _ _ (by rw [alloc_size]; omega)]
  exact Array.getElem?_push_size
theorem sz_step {w w1 w2 : World} (h : Sz w w1) (hg : w1.grownBy w2 (some (w.heap.size + 1))) : Sz w w2 :=
  ⟨(hg.block _ (by have := h.s; omega) (by simp)).trans h.b, h.o.grown hg (by have := h.s; omega) (fun k e => by cases e; omega), Nat.le_trans h.s hg.size⟩
theorem sz_p (n : Int) (h : (Lit.int .i64 n).wf = true) : plainElem (H := Unit) Try.prog 3 (.int .i64 n) = some (.lit (.int .i64 n), []) := plainElem_int Try.underlying3 h
theorem sz_made (w : World) (o : Obj) : ((w.alloc o).alloc (.map #[] 0)).ownsMap Try.prog 3 (plainElem (H := Unit) Try.prog 3) (w.heap.size + 1) 0 (.map []) := by
  have := World.ownsMap_made (H := Unit) (w.alloc o) Try.prog 3 (plainElem Try.prog 3)
  rw [alloc_size] at this; exact this
theorem sz_res (tmps : Array Value) (W : World) (B : Nat) (x y : Int) (ht : tmps[4]?.getD undef = .pointer (some ⟨B,0,none⟩)) (hb : W.heap[B]? = some (.cells #[.int .i64 x, .int .i64 y] 67)) : (results Try.f41 tmps).run Try.prog W = .ok (.agg #[.int .i64 x, .int .i64 y]) W := by
  have c0 : W.cell? ⟨B, 0, none⟩ = some (.int .i64 x) := by simp [World.cell?, hb]
  have c1 : W.cell? ⟨B, 1, none⟩ = some (.int .i64 y) := by simp [World.cell?, hb]
  simp [results, Try.results41, go_sem, ht, c0, c1]
theorem sz_set {w3 : World} {B : Nat} {x y : Int} (hb : w3.heap[B]? = some (.cells #[.int .i64 0, .int .i64 0] 67)) : ((w3.setCell ⟨B, 0, none⟩ (.int .i64 x)).setCell ⟨B, 1, none⟩ (.int .i64 y)).heap[B]? = some (.cells #[.int .i64 x, .int .i64 y] 67) := by
  simp [World.setCell, Array.getElem?_modify, hb]
theorem sz_fin {a : Act} {Q : Ending → World → Prop} {W : World} {B : Nat} {x y : Int} (ht : a.tmps[4]?.getD undef = .pointer (some ⟨B, 0, none⟩)) (hd : a.defers = []) (hb : W.heap[B]? = some (.cells #[.int .i64 x, .int .i64 y] 67)) (hQ : Q (.returned (.agg #[.int .i64 x, .int .i64 y])) W) : bodyPost Try.prog Try.f41 Q .ret a W :=
  bodyPost_ret (sz_res a.tmps W B x y ht hb) hd hQ
theorem sz_one (w : World) (o : Obj) : (w.alloc o).heap[w.heap.size]? = some o := Array.getElem?_push_size
theorem sz_eq {a b : Int} {p : Int × Int} (h : (a, b) = p) : Ending.returned (.agg #[.int .i64 a, .int .i64 b]) = .returned (.agg #[.int .i64 p.1, .int .i64 p.2]) := by cases h; rfl
theorem sz_wrap {n : Int} (h0 : 0 ≤ n) (h1 : n < 4294967296) : wrap64 n = n := by simp only [wrap64]; omega
theorem szt0 {n : Int} (h : n < 32) : (160 + n, 0) = Mp.sized 4 n := by simp [Mp.sized, Mp.fixed, Mp.fix, Mp.tab, Mp.base]; omega
theorem szt1 {n : Int} (h : 32 ≤ n) (h2 : n < 256) : (217, 1) = Mp.sized 4 n := by simp [Mp.sized, Mp.fixed, Mp.fix, Mp.tab, Mp.base]; rw [if_neg (by omega), if_pos h2]
theorem szt2 {n : Int} (h : 256 ≤ n) (h2 : n < 65536) : (218, 2) = Mp.sized 4 n := by simp [Mp.sized, Mp.fixed, Mp.fix, Mp.tab, Mp.base]; rw [if_neg (by omega), if_neg (by omega), if_pos h2]
theorem szt3 {n : Int} (h : 65536 ≤ n) : (219, 4) = Mp.sized 4 n := by simp [Mp.sized, Mp.fixed, Mp.fix, Mp.tab, Mp.base]; rw [if_neg (by omega), if_neg (by omega), if_neg (by omega)]
theorem szb1 {n : Int} (h0 : 0 ≤ n) (h2 : n < 256) : (196, 1) = Mp.sized 3 n := by simp [Mp.sized, Mp.fixed, Mp.fix, Mp.tab, Mp.base]; rw [if_neg (by omega), if_pos h2]
theorem szb2 {n : Int} (h : 256 ≤ n) (h2 : n < 65536) : (197, 2) = Mp.sized 3 n := by simp [Mp.sized, Mp.fixed, Mp.fix, Mp.tab, Mp.base]; rw [if_neg (by omega), if_neg (by omega), if_pos h2]
theorem szb3 {n : Int} (h : 65536 ≤ n) : (198, 4) = Mp.sized 3 n := by simp [Mp.sized, Mp.fixed, Mp.fix, Mp.tab, Mp.base]; rw [if_neg (by omega), if_neg (by omega), if_neg (by omega)]
theorem sze1 {n : Int} (h : (n == 1) = true) : (212, 0) = Mp.sized 10 n := by rw [beq_iff_eq] at h; subst h; rfl
theorem sze2 {n : Int} (h : (n == 2) = true) : (213, 0) = Mp.sized 10 n := by rw [beq_iff_eq] at h; subst h; rfl
theorem sze4 {n : Int} (h : (n == 4) = true) : (214, 0) = Mp.sized 10 n := by rw [beq_iff_eq] at h; subst h; rfl
theorem sze8 {n : Int} (h : (n == 8) = true) : (215, 0) = Mp.sized 10 n := by rw [beq_iff_eq] at h; subst h; rfl
theorem sze16 {n : Int} (h : (n == 16) = true) : (216, 0) = Mp.sized 10 n := by rw [beq_iff_eq] at h; subst h; rfl
theorem szen {n a b : Int} (h0 : 0 ≤ n) (h1 : (n == 1) = false) (h2 : (n == 2) = false) (h3 : (n == 4) = false) (h4 : (n == 8) = false) (h5 : (n == 16) = false) (h : (n < 256 ∧ a = 199 ∧ b = 1) ∨ (256 ≤ n ∧ n < 65536 ∧ a = 200 ∧ b = 2) ∨ (65536 ≤ n ∧ a = 201 ∧ b = 4)) : (a, b) = Mp.sized 10 n := by
  simp at h1 h2 h3 h4 h5
  simp [Mp.sized, Mp.fixed, Mp.fix, Mp.tab, Mp.base, h1, h2, h3, h4, h5]
  rw [if_neg (by omega)]
  rcases h with ⟨h, rfl, rfl⟩ | ⟨h, h', rfl, rfl⟩ | ⟨h, rfl, rfl⟩
  · rw [if_pos h]
  · rw [if_neg (by omega), if_pos h']
  · rw [if_neg (by omega), if_neg (by omega)]
theorem szl50 {n : Int} (h : n < 16) : (144 + n, 0) = Mp.sized 5 n := by simp [Mp.sized, Mp.fixed, Mp.fix, Mp.tab, Mp.base]; omega
theorem szl51 {n : Int} (h : 16 ≤ n) (h2 : n < 65536) : (220, 2) = Mp.sized 5 n := by simp [Mp.sized, Mp.fixed, Mp.fix, Mp.tab, Mp.base]; rw [if_neg (by omega), if_pos h2]
theorem szl52 {n : Int} (h : 65536 ≤ n) : (221, 4) = Mp.sized 5 n := by simp [Mp.sized, Mp.fixed, Mp.fix, Mp.tab, Mp.base]; rw [if_neg (by omega), if_neg (by omega)]
theorem szl60 {n : Int} (h : n < 16) : (128 + n, 0) = Mp.sized 6 n := by simp [Mp.sized, Mp.fixed, Mp.fix, Mp.tab, Mp.base]; omega
theorem szl61 {n : Int} (h : 16 ≤ n) (h2 : n < 65536) : (222, 2) = Mp.sized 6 n := by simp [Mp.sized, Mp.fixed, Mp.fix, Mp.tab, Mp.base]; rw [if_neg (by omega), if_pos h2]
theorem szl62 {n : Int} (h : 65536 ≤ n) : (223, 4) = Mp.sized 6 n := by simp [Mp.sized, Mp.fixed, Mp.fix, Mp.tab, Mp.base]; rw [if_neg (by omega), if_neg (by omega)]
theorem sz_c4 {c : Int} (hat : ((((DataW.map []).put (Lit.int .i64 4) (DataW.lit (H := Unit) (Lit.int .i64 160))).put (Lit.int .i64 5) (DataW.lit (Lit.int .i64 144))).put (Lit.int .i64 6) (DataW.lit (Lit.int .i64 128))).atKey (Lit.int .i64 4) (DataW.lit (Lit.int .i64 0)) = DataW.lit (Lit.int .i64 c)) : c = 160 := by
  have e : ((((DataW.map []).put (Lit.int .i64 4) (DataW.lit (H := Unit) (Lit.int .i64 160))).put (Lit.int .i64 5) (DataW.lit (Lit.int .i64 144))).put (Lit.int .i64 6) (DataW.lit (Lit.int .i64 128))).atKey (Lit.int .i64 4) (DataW.lit (Lit.int .i64 0)) = DataW.lit (Lit.int .i64 160) := rfl
  rw [e] at hat; cases hat; rfl
theorem sz_c5 {c : Int} (hat : ((((DataW.map []).put (Lit.int .i64 4) (DataW.lit (H := Unit) (Lit.int .i64 160))).put (Lit.int .i64 5) (DataW.lit (Lit.int .i64 144))).put (Lit.int .i64 6) (DataW.lit (Lit.int .i64 128))).atKey (Lit.int .i64 5) (DataW.lit (Lit.int .i64 0)) = DataW.lit (Lit.int .i64 c)) : c = 144 := by
  have e : ((((DataW.map []).put (Lit.int .i64 4) (DataW.lit (H := Unit) (Lit.int .i64 160))).put (Lit.int .i64 5) (DataW.lit (Lit.int .i64 144))).put (Lit.int .i64 6) (DataW.lit (Lit.int .i64 128))).atKey (Lit.int .i64 5) (DataW.lit (Lit.int .i64 0)) = DataW.lit (Lit.int .i64 144) := rfl
  rw [e] at hat; cases hat; rfl
theorem sz_c6 {c : Int} (hat : ((((DataW.map []).put (Lit.int .i64 4) (DataW.lit (H := Unit) (Lit.int .i64 160))).put (Lit.int .i64 5) (DataW.lit (Lit.int .i64 144))).put (Lit.int .i64 6) (DataW.lit (Lit.int .i64 128))).atKey (Lit.int .i64 6) (DataW.lit (Lit.int .i64 0)) = DataW.lit (Lit.int .i64 c)) : c = 128 := by
  have e : ((((DataW.map []).put (Lit.int .i64 4) (DataW.lit (H := Unit) (Lit.int .i64 160))).put (Lit.int .i64 5) (DataW.lit (Lit.int .i64 144))).put (Lit.int .i64 6) (DataW.lit (Lit.int .i64 128))).atKey (Lit.int .i64 6) (DataW.lit (Lit.int .i64 0)) = DataW.lit (Lit.int .i64 128) := rfl
  rw [e] at hat; cases hat; rfl
theorem sz_text (n : Int) (hn0 : 0 ≤ n) (hn1 : n < 4294967296) (w : World) : Calls Try.prog 41 #[.int .i64 4, .int .i64 n] w fun e w' => e = .returned (.agg #[.int .i64 (Mp.sized 4 n).1, .int .i64 (Mp.sized 4 n).2]) ∧ Below w.heap.size w w' := by
  have hmm := @run_makeMap Try.prog
  go_enter Try.func41, Try.ntmps41
  go_wp2_with (first
      | (refine wpList_insert_own _ rfl (.tmp 34) (.const (.int .i64 4)) (.const (.int .i64 160)) 93 rfl 3 3 sz_l3 Try.underlying93 (plainElem (H := Unit) Try.prog 3) ?hb1 0 ?hD1 ?hm1 ?ho1 ?hn1 (.int .i64 4) (.int .i64 160) (.int .i64 4) ?hx1 ?hv1 ?hk1 (.lit (.int .i64 160)) [] ?hp1 ?hK1
         case hm1 => rfl
         case ho1 => exact sz_made w _
         case hn1 => unfold maxLen; omega
         case hx1 => rfl
         case hv1 => rfl
         case hk1 => exact keyOf_int_mk Try.underlying3 (by decide)
         case hp1 => exact sz_p _ (by decide)
         intro w1 ho1 hg1
         have hz1 := sz_step (sz_start w) hg1)
      | (refine wpList_insert_own _ rfl (.tmp 34) (.const (.int .i64 5)) (.const (.int .i64 144)) 93 rfl 3 3 sz_l3 Try.underlying93 (plainElem (H := Unit) Try.prog 3) ?hb2 1 ?hD2 ?hm2 ?ho2 ?hn2 (.int .i64 5) (.int .i64 144) (.int .i64 5) ?hx2 ?hv2 ?hk2 (.lit (.int .i64 144)) [] ?hp2 ?hK2
         case hm2 => rfl
         case ho2 => exact ho1
         case hn2 => unfold maxLen; omega
         case hx2 => rfl
         case hv2 => rfl
         case hk2 => exact keyOf_int_mk Try.underlying3 (by decide)
         case hp2 => exact sz_p _ (by decide)
         intro w2 ho2 hg2
         have hz2 := sz_step hz1 hg2)
      | (refine wpList_insert_own _ rfl (.tmp 34) (.const (.int .i64 6)) (.const (.int .i64 128)) 93 rfl 3 3 sz_l3 Try.underlying93 (plainElem (H := Unit) Try.prog 3) ?hb3 2 ?hD3 ?hm3 ?ho3 ?hn3 (.int .i64 6) (.int .i64 128) (.int .i64 6) ?hx3 ?hv3 ?hk3 (.lit (.int .i64 128)) [] ?hp3 ?hK3
         case hm3 => rfl
         case ho3 => exact ho2
         case hn3 => unfold maxLen; omega
         case hx3 => rfl
         case hv3 => rfl
         case hk3 => exact keyOf_int_mk Try.underlying3 (by decide)
         case hp3 => exact sz_p _ (by decide)
         intro w3 ho3 hg3
         have hz3 := sz_step hz2 hg3
         have c0 := hz3.c0
         have c1 := hz3.c1
         have f0 := hz3.f 0
         have f1 := hz3.f 1)
      | (at_lookup
         refine wpList_lookup_own_int (H := Unit) _ rfl (.tmp 35) (.tmp 36) 93 rfl 3 3 .i64 sz_l3 Try.underlying93 Try.underlying3 (sz_z3 _) ?hb4 3 ?hD4 ?hm4 ?ho4 (.int .i64 4) (.int .i64 4) ?hx4 ?hk4 ?hK4
         case hk4 => exact keyOf_int_mk Try.underlying3 (by decide)
         case hm4 => rfl
         case ho4 => exact ho3
         case hx4 => rfl
         intro c hat hwc)
      | go_in)
  all_goals clear hmm
  all_goals first | refine sz_fin rfl rfl (sz_one _ _) ⟨?_, (Below.refl _ _).alloc (Nat.le_refl _) _⟩ | refine sz_fin rfl rfl (sz_set hz3.b) ⟨?_, (hz3.o.setCell (Nat.le_refl _) _).setCell (Nat.le_refl _) _⟩
  · have hc : c = 160 := sz_c4 hat
    subst hc
    rw [sz_wrap (by omega) (by omega)]
    exact sz_eq (szt0 (by omega))
  · exact sz_eq (szt1 (by omega) (by omega))
  · exact sz_eq (szt2 (by omega) (by omega))
  · exact sz_eq (szt3 (by omega))
theorem sz_ext (n : Int) (hn0 : 0 ≤ n) (hn1 : n < 4294967296) (w : World) : Calls Try.prog 41 #[.int .i64 10, .int .i64 n] w fun e w' => e = .returned (.agg #[.int .i64 (Mp.sized 10 n).1, .int .i64 (Mp.sized 10 n).2]) ∧ Below w.heap.size w w' := by
  have hmm := @run_makeMap Try.prog
  go_enter Try.func41, Try.ntmps41
  go_wp2_with (first
      | (refine wpList_insert_own _ rfl (.tmp 34) (.const (.int .i64 4)) (.const (.int .i64 160)) 93 rfl 3 3 sz_l3 Try.underlying93 (plainElem (H := Unit) Try.prog 3) ?hb1 0 ?hD1 ?hm1 ?ho1 ?hn1 (.int .i64 4) (.int .i64 160) (.int .i64 4) ?hx1 ?hv1 ?hk1 (.lit (.int .i64 160)) [] ?hp1 ?hK1
         case hm1 => rfl
         case ho1 => exact sz_made w _
         case hn1 => unfold maxLen; omega
         case hx1 => rfl
         case hv1 => rfl
         case hk1 => exact keyOf_int_mk Try.underlying3 (by decide)
         case hp1 => exact sz_p _ (by decide)
         intro w1 ho1 hg1
         have hz1 := sz_step (sz_start w) hg1)
      | (refine wpList_insert_own _ rfl (.tmp 34) (.const (.int .i64 5)) (.const (.int .i64 144)) 93 rfl 3 3 sz_l3 Try.underlying93 (plainElem (H := Unit) Try.prog 3) ?hb2 1 ?hD2 ?hm2 ?ho2 ?hn2 (.int .i64 5) (.int .i64 144) (.int .i64 5) ?hx2 ?hv2 ?hk2 (.lit (.int .i64 144)) [] ?hp2 ?hK2
         case hm2 => rfl
         case ho2 => exact ho1
         case hn2 => unfold maxLen; omega
         case hx2 => rfl
         case hv2 => rfl
         case hk2 => exact keyOf_int_mk Try.underlying3 (by decide)
         case hp2 => exact sz_p _ (by decide)
         intro w2 ho2 hg2
         have hz2 := sz_step hz1 hg2)
      | (refine wpList_insert_own _ rfl (.tmp 34) (.const (.int .i64 6)) (.const (.int .i64 128)) 93 rfl 3 3 sz_l3 Try.underlying93 (plainElem (H := Unit) Try.prog 3) ?hb3 2 ?hD3 ?hm3 ?ho3 ?hn3 (.int .i64 6) (.int .i64 128) (.int .i64 6) ?hx3 ?hv3 ?hk3 (.lit (.int .i64 128)) [] ?hp3 ?hK3
         case hm3 => rfl
         case ho3 => exact ho2
         case hn3 => unfold maxLen; omega
         case hx3 => rfl
         case hv3 => rfl
         case hk3 => exact keyOf_int_mk Try.underlying3 (by decide)
         case hp3 => exact sz_p _ (by decide)
         intro w3 ho3 hg3
         have hz3 := sz_step hz2 hg3
         have c0 := hz3.c0
         have c1 := hz3.c1
         have f0 := hz3.f 0
         have f1 := hz3.f 1)
      | (at_lookup
         refine wpList_lookup_own_int (H := Unit) _ rfl (.tmp 35) (.tmp 36) 93 rfl 3 3 .i64 sz_l3 Try.underlying93 Try.underlying3 (sz_z3 _) ?hb4 3 ?hD4 ?hm4 ?ho4 (.int .i64 10) (.int .i64 10) ?hx4 ?hk4 ?hK4
         case hk4 => exact keyOf_int_mk Try.underlying3 (by decide)
         case hm4 => rfl
         case ho4 => exact ho3
         case hx4 => rfl
         intro c hat hwc)
      | go_in)
  refine wp_loop_rounds 6 ?_
  rw [rounds_succ]
  go_wp2
  all_goals try rw [rounds_succ]
  all_goals try go_wp2
  all_goals try rw [rounds_succ]
  all_goals try go_wp2
  all_goals try rw [rounds_succ]
  all_goals try go_wp2
  all_goals try rw [rounds_succ]
  all_goals try go_wp2
  all_goals try rw [rounds_succ]
  all_goals try go_wp2
  all_goals clear hmm
  all_goals first | refine sz_fin rfl rfl (sz_one _ _) ⟨?_, (Below.refl _ _).alloc (Nat.le_refl _) _⟩ | refine sz_fin rfl rfl (sz_set hz3.b) ⟨?_, (hz3.o.setCell (Nat.le_refl _) _).setCell (Nat.le_refl _) _⟩
  · exact sz_eq (sze1 ‹_›)
  · exact sz_eq (sze2 ‹_›)
  · exact sz_eq (sze4 ‹_›)
  · exact sz_eq (sze8 ‹_›)
  · exact sz_eq (sze16 ‹_›)
  · exact sz_eq (szen hn0 ‹(n == 1) = false› ‹(n == 2) = false› ‹(n == 4) = false› ‹(n == 8) = false› ‹(n == 16) = false› (by simp; omega))
  · exact sz_eq (szen hn0 ‹(n == 1) = false› ‹(n == 2) = false› ‹(n == 4) = false› ‹(n == 8) = false› ‹(n == 16) = false› (by simp; omega))
  · exact sz_eq (szen hn0 ‹(n == 1) = false› ‹(n == 2) = false› ‹(n == 4) = false› ‹(n == 8) = false› ‹(n == 16) = false› (by simp; omega))
theorem sz_bytes (n : Int) (hn0 : 0 ≤ n) (hn1 : n < 4294967296) (w : World) : Calls Try.prog 41 #[.int .i64 3, .int .i64 n] w fun e w' => e = .returned (.agg #[.int .i64 (Mp.sized 3 n).1, .int .i64 (Mp.sized 3 n).2]) ∧ Below w.heap.size w w' := by
  have hmm := @run_makeMap Try.prog
  go_enter Try.func41, Try.ntmps41
  go_wp2_with (first
      | (refine wpList_insert_own _ rfl (.tmp 34) (.const (.int .i64 4)) (.const (.int .i64 160)) 93 rfl 3 3 sz_l3 Try.underlying93 (plainElem (H := Unit) Try.prog 3) ?hb1 0 ?hD1 ?hm1 ?ho1 ?hn1 (.int .i64 4) (.int .i64 160) (.int .i64 4) ?hx1 ?hv1 ?hk1 (.lit (.int .i64 160)) [] ?hp1 ?hK1
         case hm1 => rfl
         case ho1 => exact sz_made w _
         case hn1 => unfold maxLen; omega
         case hx1 => rfl
         case hv1 => rfl
         case hk1 => exact keyOf_int_mk Try.underlying3 (by decide)
         case hp1 => exact sz_p _ (by decide)
         intro w1 ho1 hg1
         have hz1 := sz_step (sz_start w) hg1)
      | (refine wpList_insert_own _ rfl (.tmp 34) (.const (.int .i64 5)) (.const (.int .i64 144)) 93 rfl 3 3 sz_l3 Try.underlying93 (plainElem (H := Unit) Try.prog 3) ?hb2 1 ?hD2 ?hm2 ?ho2 ?hn2 (.int .i64 5) (.int .i64 144) (.int .i64 5) ?hx2 ?hv2 ?hk2 (.lit (.int .i64 144)) [] ?hp2 ?hK2
         case hm2 => rfl
         case ho2 => exact ho1
         case hn2 => unfold maxLen; omega
         case hx2 => rfl
         case hv2 => rfl
         case hk2 => exact keyOf_int_mk Try.underlying3 (by decide)
         case hp2 => exact sz_p _ (by decide)
         intro w2 ho2 hg2
         have hz2 := sz_step hz1 hg2)
      | (refine wpList_insert_own _ rfl (.tmp 34) (.const (.int .i64 6)) (.const (.int .i64 128)) 93 rfl 3 3 sz_l3 Try.underlying93 (plainElem (H := Unit) Try.prog 3) ?hb3 2 ?hD3 ?hm3 ?ho3 ?hn3 (.int .i64 6) (.int .i64 128) (.int .i64 6) ?hx3 ?hv3 ?hk3 (.lit (.int .i64 128)) [] ?hp3 ?hK3
         case hm3 => rfl
         case ho3 => exact ho2
         case hn3 => unfold maxLen; omega
         case hx3 => rfl
         case hv3 => rfl
         case hk3 => exact keyOf_int_mk Try.underlying3 (by decide)
         case hp3 => exact sz_p _ (by decide)
         intro w3 ho3 hg3
         have hz3 := sz_step hz2 hg3
         have c0 := hz3.c0
         have c1 := hz3.c1
         have f0 := hz3.f 0
         have f1 := hz3.f 1)
      | (at_lookup
         refine wpList_lookup_own_int (H := Unit) _ rfl (.tmp 35) (.tmp 36) 93 rfl 3 3 .i64 sz_l3 Try.underlying93 Try.underlying3 (sz_z3 _) ?hb4 3 ?hD4 ?hm4 ?ho4 (.int .i64 3) (.int .i64 3) ?hx4 ?hk4 ?hK4
         case hk4 => exact keyOf_int_mk Try.underlying3 (by decide)
         case hm4 => rfl
         case ho4 => exact ho3
         case hx4 => rfl
         intro c hat hwc)
      | go_in)
  all_goals clear hmm
  all_goals first | refine sz_fin rfl rfl (sz_one _ _) ⟨?_, (Below.refl _ _).alloc (Nat.le_refl _) _⟩ | refine sz_fin rfl rfl (sz_set hz3.b) ⟨?_, (hz3.o.setCell (Nat.le_refl _) _).setCell (Nat.le_refl _) _⟩
  · exact sz_eq (szb1 (by omega) (by omega))
  · exact sz_eq (szb2 (by omega) (by omega))
  · exact sz_eq (szb3 (by omega))
theorem sz_list (n : Int) (hn0 : 0 ≤ n) (hn1 : n < 4294967296) (w : World) : Calls Try.prog 41 #[.int .i64 5, .int .i64 n] w fun e w' => e = .returned (.agg #[.int .i64 (Mp.sized 5 n).1, .int .i64 (Mp.sized 5 n).2]) ∧ Below w.heap.size w w' := by
  have hmm := @run_makeMap Try.prog
  go_enter Try.func41, Try.ntmps41
  go_wp2_with (first
      | (refine wpList_insert_own _ rfl (.tmp 34) (.const (.int .i64 4)) (.const (.int .i64 160)) 93 rfl 3 3 sz_l3 Try.underlying93 (plainElem (H := Unit) Try.prog 3) ?hb1 0 ?hD1 ?hm1 ?ho1 ?hn1 (.int .i64 4) (.int .i64 160) (.int .i64 4) ?hx1 ?hv1 ?hk1 (.lit (.int .i64 160)) [] ?hp1 ?hK1
         case hm1 => rfl
         case ho1 => exact sz_made w _
         case hn1 => unfold maxLen; omega
         case hx1 => rfl
         case hv1 => rfl
         case hk1 => exact keyOf_int_mk Try.underlying3 (by decide)
         case hp1 => exact sz_p _ (by decide)
         intro w1 ho1 hg1
         have hz1 := sz_step (sz_start w) hg1)
      | (refine wpList_insert_own _ rfl (.tmp 34) (.const (.int .i64 5)) (.const (.int .i64 144)) 93 rfl 3 3 sz_l3 Try.underlying93 (plainElem (H := Unit) Try.prog 3) ?hb2 1 ?hD2 ?hm2 ?ho2 ?hn2 (.int .i64 5) (.int .i64 144) (.int .i64 5) ?hx2 ?hv2 ?hk2 (.lit (.int .i64 144)) [] ?hp2 ?hK2
         case hm2 => rfl
         case ho2 => exact ho1
         case hn2 => unfold maxLen; omega
         case hx2 => rfl
         case hv2 => rfl
         case hk2 => exact keyOf_int_mk Try.underlying3 (by decide)
         case hp2 => exact sz_p _ (by decide)
         intro w2 ho2 hg2
         have hz2 := sz_step hz1 hg2)
      | (refine wpList_insert_own _ rfl (.tmp 34) (.const (.int .i64 6)) (.const (.int .i64 128)) 93 rfl 3 3 sz_l3 Try.underlying93 (plainElem (H := Unit) Try.prog 3) ?hb3 2 ?hD3 ?hm3 ?ho3 ?hn3 (.int .i64 6) (.int .i64 128) (.int .i64 6) ?hx3 ?hv3 ?hk3 (.lit (.int .i64 128)) [] ?hp3 ?hK3
         case hm3 => rfl
         case ho3 => exact ho2
         case hn3 => unfold maxLen; omega
         case hx3 => rfl
         case hv3 => rfl
         case hk3 => exact keyOf_int_mk Try.underlying3 (by decide)
         case hp3 => exact sz_p _ (by decide)
         intro w3 ho3 hg3
         have hz3 := sz_step hz2 hg3
         have c0 := hz3.c0
         have c1 := hz3.c1
         have f0 := hz3.f 0
         have f1 := hz3.f 1)
      | (at_lookup
         refine wpList_lookup_own_int (H := Unit) _ rfl (.tmp 35) (.tmp 36) 93 rfl 3 3 .i64 sz_l3 Try.underlying93 Try.underlying3 (sz_z3 _) ?hb4 3 ?hD4 ?hm4 ?ho4 (.int .i64 5) (.int .i64 5) ?hx4 ?hk4 ?hK4
         case hk4 => exact keyOf_int_mk Try.underlying3 (by decide)
         case hm4 => rfl
         case ho4 => exact ho3
         case hx4 => rfl
         intro c hat hwc)
      | go_in)
  all_goals clear hmm
  all_goals first | refine sz_fin rfl rfl (sz_one _ _) ⟨?_, (Below.refl _ _).alloc (Nat.le_refl _) _⟩ | refine sz_fin rfl rfl (sz_set hz3.b) ⟨?_, (hz3.o.setCell (Nat.le_refl _) _).setCell (Nat.le_refl _) _⟩
  · have hc : c = 144 := sz_c5 hat
    subst hc
    rw [sz_wrap (by omega) (by omega)]
    exact sz_eq (szl50 (by omega))
  · exact sz_eq (szl51 (by omega) (by omega))
  · exact sz_eq (szl52 (by omega))
theorem sz_map (n : Int) (hn0 : 0 ≤ n) (hn1 : n < 4294967296) (w : World) : Calls Try.prog 41 #[.int .i64 6, .int .i64 n] w fun e w' => e = .returned (.agg #[.int .i64 (Mp.sized 6 n).1, .int .i64 (Mp.sized 6 n).2]) ∧ Below w.heap.size w w' := by
  have hmm := @run_makeMap Try.prog
  go_enter Try.func41, Try.ntmps41
  go_wp2_with (first
      | (refine wpList_insert_own _ rfl (.tmp 34) (.const (.int .i64 4)) (.const (.int .i64 160)) 93 rfl 3 3 sz_l3 Try.underlying93 (plainElem (H := Unit) Try.prog 3) ?hb1 0 ?hD1 ?hm1 ?ho1 ?hn1 (.int .i64 4) (.int .i64 160) (.int .i64 4) ?hx1 ?hv1 ?hk1 (.lit (.int .i64 160)) [] ?hp1 ?hK1
         case hm1 => rfl
         case ho1 => exact sz_made w _
         case hn1 => unfold maxLen; omega
         case hx1 => rfl
         case hv1 => rfl
         case hk1 => exact keyOf_int_mk Try.underlying3 (by decide)
         case hp1 => exact sz_p _ (by decide)
         intro w1 ho1 hg1
         have hz1 := sz_step (sz_start w) hg1)
      | (refine wpList_insert_own _ rfl (.tmp 34) (.const (.int .i64 5)) (.const (.int .i64 144)) 93 rfl 3 3 sz_l3 Try.underlying93 (plainElem (H := Unit) Try.prog 3) ?hb2 1 ?hD2 ?hm2 ?ho2 ?hn2 (.int .i64 5) (.int .i64 144) (.int .i64 5) ?hx2 ?hv2 ?hk2 (.lit (.int .i64 144)) [] ?hp2 ?hK2
         case hm2 => rfl
         case ho2 => exact ho1
         case hn2 => unfold maxLen; omega
         case hx2 => rfl
         case hv2 => rfl
         case hk2 => exact keyOf_int_mk Try.underlying3 (by decide)
         case hp2 => exact sz_p _ (by decide)
         intro w2 ho2 hg2
         have hz2 := sz_step hz1 hg2)
      | (refine wpList_insert_own _ rfl (.tmp 34) (.const (.int .i64 6)) (.const (.int .i64 128)) 93 rfl 3 3 sz_l3 Try.underlying93 (plainElem (H := Unit) Try.prog 3) ?hb3 2 ?hD3 ?hm3 ?ho3 ?hn3 (.int .i64 6) (.int .i64 128) (.int .i64 6) ?hx3 ?hv3 ?hk3 (.lit (.int .i64 128)) [] ?hp3 ?hK3
         case hm3 => rfl
         case ho3 => exact ho2
         case hn3 => unfold maxLen; omega
         case hx3 => rfl
         case hv3 => rfl
         case hk3 => exact keyOf_int_mk Try.underlying3 (by decide)
         case hp3 => exact sz_p _ (by decide)
         intro w3 ho3 hg3
         have hz3 := sz_step hz2 hg3
         have c0 := hz3.c0
         have c1 := hz3.c1
         have f0 := hz3.f 0
         have f1 := hz3.f 1)
      | (at_lookup
         refine wpList_lookup_own_int (H := Unit) _ rfl (.tmp 35) (.tmp 36) 93 rfl 3 3 .i64 sz_l3 Try.underlying93 Try.underlying3 (sz_z3 _) ?hb4 3 ?hD4 ?hm4 ?ho4 (.int .i64 6) (.int .i64 6) ?hx4 ?hk4 ?hK4
         case hk4 => exact keyOf_int_mk Try.underlying3 (by decide)
         case hm4 => rfl
         case ho4 => exact ho3
         case hx4 => rfl
         intro c hat hwc)
      | go_in)
  all_goals clear hmm
  all_goals first | refine sz_fin rfl rfl (sz_one _ _) ⟨?_, (Below.refl _ _).alloc (Nat.le_refl _) _⟩ | refine sz_fin rfl rfl (sz_set hz3.b) ⟨?_, (hz3.o.setCell (Nat.le_refl _) _).setCell (Nat.le_refl _) _⟩
  · have hc : c = 128 := sz_c6 hat
    subst hc
    rw [sz_wrap (by omega) (by omega)]
    exact sz_eq (szl60 (by omega))
  · exact sz_eq (szl61 (by omega) (by omega))
  · exact sz_eq (szl62 (by omega))
theorem mp_sized.ok : SpecOK Go.Proofs.Try.prog (fun n => (noGl n).av) 41 (Ctr.fs (mp_sized.c, mp_sized.sg)) := by
  refine spec_plain fun ti to_ w R xs hc ha hR hgl => ?_
  unfold mp_sized.c at hc
  split at hc
  · rename_i k n
    obtain ⟨hp, rfl⟩ := hc
    simp only [Bool.and_eq_true, decide_eq_true_eq, Mp.sizeds] at hp
    obtain ⟨hk, h0, h1⟩ := hp
    have hxs : xs = [.int .i64 k, .int .i64 n] := by
      have hq : RepT R w [.v (.int .i64 k), .v (.int .i64 n)] xs := ha
      clear ha
      cases hq with
      | cons a1 q1 => cases q1 with
        | cons a2 q2 => cases q2; cases a1; cases a2; rfl
    subst hxs
    have fin : ∀ {S : Int × Int}, Calls Go.Proofs.Try.prog 41 #[.int .i64 k, .int .i64 n] w (fun e w' => e = .returned (.agg #[.int .i64 S.1, .int .i64 S.2]) ∧ Below w.heap.size w w') →
        Calls Go.Proofs.Try.prog 41 ⟨[.int .i64 k, .int .i64 n]⟩ w fun e w' => ∃ x, e = .returned x ∧ Below w.heap.size w w' ∧ ∀ R w', RepT R w' ([(TV.ag [.i .i64 S.1, .i .i64 S.2])].map TV.av) [x] := by
      intro S h
      refine h.mono ?_
      rintro e w' ⟨rfl, hb⟩
      exact ⟨_, rfl, hb, fun R w' => .cons (.ag (.cons rfl (.v _) (.cons rfl (.v _) .nil))) .nil⟩
    rcases hk with rfl | rfl | rfl | rfl | rfl
    · exact fin (sz_bytes n h0 h1 w)
    · exact fin (sz_text n h0 h1 w)
    · exact fin (sz_list n h0 h1 w)
    · exact fin (sz_map n h0 h1 w)
    · exact fin (sz_ext n h0 h1 w)
  · exact hc.elim
end Go.Eng

namespace Go.Eng
theorem utf_is.fit (r : Int) : ([.i .i64 r] : List TV).length = utf_is.d.np ∧ utf_is.d.run (envL noGl utf_is.env) [.i .i64 r] = some (([(.b (Utf.isRune r))] : List TV) ++ utf_is.d.ps.toList.map fun q => ([.i .i64 r] : List TV).getD q.1 .dead) :=
  ⟨by kernel_rfl, Eq.trans (b := utf_is.F r) (by kernel_rfl) (Eq.trans (utf_is.goal r) (by kernel_rfl))⟩
theorem utf_is.ok : SpecOK Go.Proofs.Try.prog (fun n => (noGl n).av) 71 (Ctr.fs (utf_is.c, utf_is.sg)) :=
  meets (l := utf_is.env) all_nil utf_is.chk (by
      intro ins outs h
      unfold utf_is.c at h
      split at h
      · cases h; exact utf_is.fit _
      · exact h.elim)
theorem utf_Rune.fit (b : List UInt8) (at_ : Int) (hp : (decide (b.length ≤ 1099511627776)) = true) : ([.sl .bs b, .i .i64 at_] : List TV).length = utf_Rune.d.np ∧ utf_Rune.d.run (envL noGl utf_Rune.env) [.sl .bs b, .i .i64 at_] = some (([(.i .i64 ((Utf.runeAt b at_).1)), (.i .i64 ((Utf.runeAt b at_).2))] : List TV) ++ utf_Rune.d.ps.toList.map fun q => ([.sl .bs b, .i .i64 at_] : List TV).getD q.1 .dead) :=
  ⟨by kernel_rfl, Eq.trans (b := utf_Rune.F b at_) (by kernel_rfl) (Eq.trans (utf_Rune.goal b at_ hp) (by kernel_rfl))⟩
theorem utf_Rune.ok : SpecOK Go.Proofs.Try.prog (fun n => (noGl n).av) 63 (Ctr.fs (utf_Rune.c, utf_Rune.sg)) :=
  meets (l := utf_Rune.env) (all_cons utf_is.ok all_nil) utf_Rune.chk (by
      intro ins outs h
      unfold utf_Rune.c at h
      split at h
      · obtain ⟨hp, rfl⟩ := h; exact utf_Rune.fit _ _ hp
      · exact h.elim)
theorem utf_look.fit (b : List UInt8) (hp : (decide (b.length ≤ 1099511627776)) = true) : ([.sl .bs b] : List TV).length = utf_look.d.np ∧ utf_look.d.run (envL noGl utf_look.env) [.sl .bs b] = some (([(.i .i64 (((Utf.look b).1 : Int))), (.i .i64 (((Utf.look b).2 : Int)))] : List TV) ++ utf_look.d.ps.toList.map fun q => ([.sl .bs b] : List TV).getD q.1 .dead) :=
  ⟨by kernel_rfl, Eq.trans (b := utf_look.F b) (by kernel_rfl) (Eq.trans (utf_look.goal b hp) (by kernel_rfl))⟩
theorem utf_look.ok : SpecOK Go.Proofs.Try.prog (fun n => (noGl n).av) 46 (Ctr.fs (utf_look.c, utf_look.sg)) :=
  meets (l := utf_look.env) (all_cons utf_Rune.ok all_nil) utf_look.chk (by
      intro ins outs h
      unfold utf_look.c at h
      split at h
      · obtain ⟨hp, rfl⟩ := h; exact utf_look.fit _ hp
      · exact h.elim)
theorem utf_Check.fit (b : List UInt8) (hp : (decide (b.length ≤ 1099511627776)) = true) : ([.sl .bs b] : List TV).length = utf_Check.d.np ∧ utf_Check.d.run (envL noGl utf_Check.env) [.sl .bs b] = some (([(.i .i64 (((Utf.look b).1 : Int))), (.b (Utf.whole b))] : List TV) ++ utf_Check.d.ps.toList.map fun q => ([.sl .bs b] : List TV).getD q.1 .dead) :=
  ⟨by kernel_rfl, Eq.trans (b := utf_Check.F b) (by kernel_rfl) (Eq.trans (utf_Check.goal b hp) (by kernel_rfl))⟩
theorem utf_Check.ok : SpecOK Go.Proofs.Try.prog (fun n => (noGl n).av) 27 (Ctr.fs (utf_Check.c, utf_Check.sg)) :=
  meets (l := utf_Check.env) (all_cons utf_look.ok all_nil) utf_Check.chk (by
      intro ins outs h
      unfold utf_Check.c at h
      split at h
      · obtain ⟨hp, rfl⟩ := h; exact utf_Check.fit _ hp
      · exact h.elim)
theorem ref2_Rune.fit (b : List UInt8) (at_ : Int) (hp : (decide (b.length ≤ 1099511627776)) = true) : ([.sl .bs b, .i .i64 at_] : List TV).length = ref2_Rune.d.np ∧ ref2_Rune.d.run (envL noGl ref2_Rune.env) [.sl .bs b, .i .i64 at_] = some (([(.i .i64 ((Utf.runeAt b at_).1)), (.i .i64 ((Utf.runeAt b at_).2))] : List TV) ++ ref2_Rune.d.ps.toList.map fun q => ([.sl .bs b, .i .i64 at_] : List TV).getD q.1 .dead) :=
  ⟨by kernel_rfl, Eq.trans (b := ref2_Rune.F b at_) (by kernel_rfl) (Eq.trans (ref2_Rune.goal b at_ hp) (by kernel_rfl))⟩
theorem ref2_Rune.ok : SpecOK Go.Proofs.Try.prog (fun n => (noGl n).av) 72 (Ctr.fs (ref2_Rune.c, ref2_Rune.sg)) :=
  meets (l := ref2_Rune.env) all_nil ref2_Rune.chk (by
      intro ins outs h
      unfold ref2_Rune.c at h
      split at h
      · obtain ⟨hp, rfl⟩ := h; exact ref2_Rune.fit _ _ hp
      · exact h.elim)
theorem ref2_Check.fit (b : List UInt8) (hp : (decide (b.length ≤ 1099511627776)) = true) : ([.sl .bs b] : List TV).length = ref2_Check.d.np ∧ ref2_Check.d.run (envL noGl ref2_Check.env) [.sl .bs b] = some (([(.i .i64 (((Utf.look b).1 : Int))), (.b (Utf.whole b))] : List TV) ++ ref2_Check.d.ps.toList.map fun q => ([.sl .bs b] : List TV).getD q.1 .dead) :=
  ⟨by kernel_rfl, Eq.trans (b := ref2_Check.F b) (by kernel_rfl) (Eq.trans (ref2_Check.goal b hp) (by kernel_rfl))⟩
theorem ref2_Check.ok : SpecOK Go.Proofs.Try.prog (fun n => (noGl n).av) 64 (Ctr.fs (ref2_Check.c, ref2_Check.sg)) :=
  meets (l := ref2_Check.env) (all_cons ref2_Rune.ok all_nil) ref2_Check.chk (by
      intro ins outs h
      unfold ref2_Check.c at h
      split at h
      · obtain ⟨hp, rfl⟩ := h; exact ref2_Check.fit _ hp
      · exact h.elim)
theorem ref2_Whole.fit (s : Str) (hp : (decide (s.length ≤ 1099511627776)) = true) : ([.s s] : List TV).length = ref2_Whole.d.np ∧ ref2_Whole.d.run (envL noGl ref2_Whole.env) [.s s] = some (([(.b (Utf.whole s))] : List TV) ++ ref2_Whole.d.ps.toList.map fun q => ([.s s] : List TV).getD q.1 .dead) :=
  ⟨by kernel_rfl, Eq.trans (b := ref2_Whole.F s) (by kernel_rfl) (Eq.trans (ref2_Whole.goal s hp) (by kernel_rfl))⟩
theorem ref2_Whole.ok : SpecOK Go.Proofs.Try.prog (fun n => (noGl n).av) 47 (Ctr.fs (ref2_Whole.c, ref2_Whole.sg)) :=
  meets (l := ref2_Whole.env) (all_cons ref2_Check.ok all_nil) ref2_Whole.chk (by
      intro ins outs h
      unfold ref2_Whole.c at h
      split at h
      · obtain ⟨hp, rfl⟩ := h; exact ref2_Whole.fit _ hp
      · exact h.elim)
theorem ref1_SameInts.fit (a : List Int) (b : List Int) (hp : (decide (a.length ≤ 1099511627776)) = true) : ([.sl .is a, .sl .is b] : List TV).length = ref1_SameInts.d.np ∧ ref1_SameInts.d.run (envL noGl ref1_SameInts.env) [.sl .is a, .sl .is b] = some (([(.b (decide (a = b)))] : List TV) ++ ref1_SameInts.d.ps.toList.map fun q => ([.sl .is a, .sl .is b] : List TV).getD q.1 .dead) :=
  ⟨by kernel_rfl, Eq.trans (b := ref1_SameInts.F a b) (by kernel_rfl) (Eq.trans (ref1_SameInts.goal a b hp) (by kernel_rfl))⟩
theorem ref1_SameInts.ok : SpecOK Go.Proofs.Try.prog (fun n => (noGl n).av) 35 (Ctr.fs (ref1_SameInts.c, ref1_SameInts.sg)) :=
  meets (l := ref1_SameInts.env) all_nil ref1_SameInts.chk (by
      intro ins outs h
      unfold ref1_SameInts.c at h
      split at h
      · obtain ⟨hp, rfl⟩ := h; exact ref1_SameInts.fit _ _ hp
      · exact h.elim)
theorem rd_At.fit (r_b : List UInt8) (r_at : Int) : ([.ro (.ag [.sl .bs r_b, .i .i64 r_at])] : List TV).length = rd_At.d.np ∧ rd_At.d.run (envL noGl rd_At.env) [.ro (.ag [.sl .bs r_b, .i .i64 r_at])] = some (([(.i .i64 ((((Rdr.mk r_b r_at)).at_)))] : List TV) ++ rd_At.d.ps.toList.map fun q => ([.ro (.ag [.sl .bs r_b, .i .i64 r_at])] : List TV).getD q.1 .dead) :=
  ⟨by kernel_rfl, Eq.trans (b := rd_At.F (Rdr.mk r_b r_at)) (by kernel_rfl) (Eq.trans (rd_At.goal (Rdr.mk r_b r_at)) (by kernel_rfl))⟩
theorem rd_At.ok : SpecOK Go.Proofs.Try.prog (fun n => (noGl n).av) 33 (Ctr.fs (rd_At.c, rd_At.sg)) :=
  meets (l := rd_At.env) all_nil rd_At.chk (by
      intro ins outs h
      unfold rd_At.c at h
      split at h
      · cases h; exact rd_At.fit _ _
      · exact h.elim)
theorem rd_Left.fit (r_b : List UInt8) (r_at : Int) (hp : (Cur.good (Rdr.mk r_b r_at)) = true) : ([.ro (.ag [.sl .bs r_b, .i .i64 r_at])] : List TV).length = rd_Left.d.np ∧ rd_Left.d.run (envL noGl rd_Left.env) [.ro (.ag [.sl .bs r_b, .i .i64 r_at])] = some (([(.i .i64 (Cur.left (Rdr.mk r_b r_at)))] : List TV) ++ rd_Left.d.ps.toList.map fun q => ([.ro (.ag [.sl .bs r_b, .i .i64 r_at])] : List TV).getD q.1 .dead) :=
  ⟨by kernel_rfl, Eq.trans (b := rd_Left.F (Rdr.mk r_b r_at)) (by kernel_rfl) (Eq.trans (rd_Left.goal (Rdr.mk r_b r_at) hp) (by kernel_rfl))⟩
theorem rd_Left.ok : SpecOK Go.Proofs.Try.prog (fun n => (noGl n).av) 32 (Ctr.fs (rd_Left.c, rd_Left.sg)) :=
  meets (l := rd_Left.env) all_nil rd_Left.chk (by
      intro ins outs h
      unfold rd_Left.c at h
      split at h
      · obtain ⟨hp, rfl⟩ := h; exact rd_Left.fit _ _ hp
      · exact h.elim)
theorem rd_Byte.fit (r_b : List UInt8) (r_at : Int) (hp : (Cur.good (Rdr.mk r_b r_at)) = true) : ([.ag [.sl .bs r_b, .i .i64 r_at]] : List TV).length = rd_Byte.d.np ∧ rd_Byte.d.run (envL noGl rd_Byte.env) [.ag [.sl .bs r_b, .i .i64 r_at]] = some (([(.i .i64 (Cur.byte (Rdr.mk r_b r_at))), (.b (Cur.more (Rdr.mk r_b r_at))), (.ag (Rdr.cells (Cur.adv (Rdr.mk r_b r_at) 1 (Cur.more (Rdr.mk r_b r_at)))))] : List TV) ++ rd_Byte.d.ps.toList.map fun q => ([.ag [.sl .bs r_b, .i .i64 r_at]] : List TV).getD q.1 .dead) :=
  ⟨by kernel_rfl, Eq.trans (b := rd_Byte.F (Rdr.mk r_b r_at)) (by kernel_rfl) (Eq.trans (rd_Byte.goal (Rdr.mk r_b r_at) hp) (by kernel_rfl))⟩
theorem rd_Byte.ok : SpecOK Go.Proofs.Try.prog (fun n => (noGl n).av) 48 (Ctr.fs (rd_Byte.c, rd_Byte.sg)) :=
  meets (l := rd_Byte.env) all_nil rd_Byte.chk (by
      intro ins outs h
      unfold rd_Byte.c at h
      split at h
      · obtain ⟨hp, rfl⟩ := h; exact rd_Byte.fit _ _ hp
      · exact h.elim)
theorem rd_next.fit (r_b : List UInt8) (r_at : Int) (n : Int) (hp : (Cur.good (Rdr.mk r_b r_at)) = true) : ([.ag [.sl .bs r_b, .i .i64 r_at], .i .i64 n] : List TV).length = rd_next.d.np ∧ rd_next.d.run (envL noGl rd_next.env) [.ag [.sl .bs r_b, .i .i64 r_at], .i .i64 n] = some (([(.sl .bs (Cur.nx (Rdr.mk r_b r_at) n (Cur.ok8 (Rdr.mk r_b r_at) n))), (.b (Cur.ok8 (Rdr.mk r_b r_at) n)), (.ag (Rdr.cells (Cur.adv (Rdr.mk r_b r_at) n (Cur.ok8 (Rdr.mk r_b r_at) n))))] : List TV) ++ rd_next.d.ps.toList.map fun q => ([.ag [.sl .bs r_b, .i .i64 r_at], .i .i64 n] : List TV).getD q.1 .dead) :=
  ⟨by kernel_rfl, Eq.trans (b := rd_next.F (Rdr.mk r_b r_at) n) (by kernel_rfl) (Eq.trans (rd_next.goal (Rdr.mk r_b r_at) n hp) (by kernel_rfl))⟩
theorem rd_next.ok : SpecOK Go.Proofs.Try.prog (fun n => (noGl n).av) 65 (Ctr.fs (rd_next.c, rd_next.sg)) :=
  meets (l := rd_next.env) (all_cons rd_Left.ok all_nil) rd_next.chk (by
      intro ins outs h
      unfold rd_next.c at h
      split at h
      · obtain ⟨hp, rfl⟩ := h; exact rd_next.fit _ _ _ hp
      · exact h.elim)
theorem rd_Take.fit (r_b : List UInt8) (r_at : Int) (n : Int) (hp : (Cur.good (Rdr.mk r_b r_at)) = true) : ([.ag [.sl .bs r_b, .i .i64 r_at], .i .i64 n] : List TV).length = rd_Take.d.np ∧ rd_Take.d.run (envL noGl rd_Take.env) [.ag [.sl .bs r_b, .i .i64 r_at], .i .i64 n] = some (([(.sl .bs (Cur.nx (Rdr.mk r_b r_at) n (Cur.okT (Rdr.mk r_b r_at) n))), (.b (Cur.okT (Rdr.mk r_b r_at) n)), (.ag (Rdr.cells (Cur.adv (Rdr.mk r_b r_at) n (Cur.okT (Rdr.mk r_b r_at) n))))] : List TV) ++ rd_Take.d.ps.toList.map fun q => ([.ag [.sl .bs r_b, .i .i64 r_at], .i .i64 n] : List TV).getD q.1 .dead) :=
  ⟨by kernel_rfl, Eq.trans (b := rd_Take.F (Rdr.mk r_b r_at) n) (by kernel_rfl) (Eq.trans (rd_Take.goal (Rdr.mk r_b r_at) n hp) (by kernel_rfl))⟩
theorem rd_Take.ok : SpecOK Go.Proofs.Try.prog (fun n => (noGl n).av) 66 (Ctr.fs (rd_Take.c, rd_Take.sg)) :=
  meets (l := rd_Take.env) (all_cons rd_Left.ok (all_cons clone_bs.ok all_nil)) rd_Take.chk (by
      intro ins outs h
      unfold rd_Take.c at h
      split at h
      · obtain ⟨hp, rfl⟩ := h; exact rd_Take.fit _ _ _ hp
      · exact h.elim)
theorem rd_High.fit (r_b : List UInt8) (r_at : Int) (n : Int) (hp : (Cur.good (Rdr.mk r_b r_at)) = true) : ([.ag [.sl .bs r_b, .i .i64 r_at], .i .i64 n] : List TV).length = rd_High.d.np ∧ rd_High.d.run (envL noGl rd_High.env) [.ag [.sl .bs r_b, .i .i64 r_at], .i .i64 n] = some (([(.u64 (Cur.be (Cur.nx (Rdr.mk r_b r_at) n (Cur.ok8 (Rdr.mk r_b r_at) n)))), (.b (Cur.ok8 (Rdr.mk r_b r_at) n)), (.ag (Rdr.cells (Cur.adv (Rdr.mk r_b r_at) n (Cur.ok8 (Rdr.mk r_b r_at) n))))] : List TV) ++ rd_High.d.ps.toList.map fun q => ([.ag [.sl .bs r_b, .i .i64 r_at], .i .i64 n] : List TV).getD q.1 .dead) :=
  ⟨by kernel_rfl, Eq.trans (b := rd_High.F (Rdr.mk r_b r_at) n) (by kernel_rfl) (Eq.trans (rd_High.goal (Rdr.mk r_b r_at) n hp) (by kernel_rfl))⟩
theorem rd_High.ok : SpecOK Go.Proofs.Try.prog (fun n => (noGl n).av) 50 (Ctr.fs (rd_High.c, rd_High.sg)) :=
  meets (l := rd_High.env) (all_cons rd_next.ok all_nil) rd_High.chk (by
      intro ins outs h
      unfold rd_High.c at h
      split at h
      · obtain ⟨hp, rfl⟩ := h; exact rd_High.fit _ _ _ hp
      · exact h.elim)
theorem cur_New.fit (b : List UInt8) (hp : (decide ((b).length ≤ 1099511627776)) = true) : ([.sl .bs b] : List TV).length = cur_New.d.np ∧ cur_New.d.run (envL noGl cur_New.env) [.sl .bs b] = some (([.pt, (.ag (Rdr.cells ((Rdr.mk b 0))))] : List TV) ++ cur_New.d.ps.toList.map fun q => ([.sl .bs b] : List TV).getD q.1 .dead) :=
  ⟨by kernel_rfl, Eq.trans (b := cur_New.F b) (by kernel_rfl) (Eq.trans (cur_New.goal b hp) (by kernel_rfl))⟩
theorem cur_New.ok : SpecOK Go.Proofs.Try.prog (fun n => (noGl n).av) 30 (Ctr.fs (cur_New.c, cur_New.sg)) :=
  meets (l := cur_New.env) (all_cons clone_bs.ok all_nil) cur_New.chk (by
      intro ins outs h
      unfold cur_New.c at h
      split at h
      · obtain ⟨hp, rfl⟩ := h; exact cur_New.fit _ hp
      · exact h.elim)
theorem cur_number.fit (n : Int) : ([.i .i64 n] : List TV).length = cur_number.d.np ∧ cur_number.d.run (envL noGl cur_number.env) [.i .i64 n] = some (([(.b (decide (1 ≤ n ∧ n ≤ 8)))] : List TV) ++ cur_number.d.ps.toList.map fun q => ([.i .i64 n] : List TV).getD q.1 .dead) :=
  ⟨by kernel_rfl, Eq.trans (b := cur_number.F n) (by kernel_rfl) (Eq.trans (cur_number.goal n) (by kernel_rfl))⟩
theorem cur_number.ok : SpecOK Go.Proofs.Try.prog (fun n => (noGl n).av) 67 (Ctr.fs (cur_number.c, cur_number.sg)) :=
  meets (l := cur_number.env) all_nil cur_number.chk (by
      intro ins outs h
      unfold cur_number.c at h
      split at h
      · cases h; exact cur_number.fit _
      · exact h.elim)
theorem cur_Lay.fit : ([] : List TV).length = cur_Lay.d.np ∧ cur_Lay.d.run (envL noGl cur_Lay.env) [] = some (([.pt, (.ag (Wtr.cells ((Wtr.mk []))))] : List TV) ++ cur_Lay.d.ps.toList.map fun q => ([] : List TV).getD q.1 .dead) :=
  ⟨by kernel_rfl, Eq.trans (b := cur_Lay.F ) (by kernel_rfl) (Eq.trans (cur_Lay.goal ) (by kernel_rfl))⟩
theorem cur_Lay.ok : SpecOK Go.Proofs.Try.prog (fun n => (noGl n).av) 22 (Ctr.fs (cur_Lay.c, cur_Lay.sg)) :=
  meets (l := cur_Lay.env) all_nil cur_Lay.chk (by
      intro ins outs h
      unfold cur_Lay.c at h
      split at h
      · cases h; exact cur_Lay.fit
      · exact h.elim)
theorem wr_Byte.fit (w_b : List UInt8) (v : Int) (hp : (decide (((Wtr.mk w_b)).b.length ≤ 1099511627776)) = true) : ([.ag [.sl .bs w_b], .i .i64 v] : List TV).length = wr_Byte.d.np ∧ wr_Byte.d.run (envL noGl wr_Byte.env) [.ag [.sl .bs w_b], .i .i64 v] = some (([(.ag (Wtr.cells ((Wtr.mk (((Wtr.mk w_b)).b ++ [UInt8.ofInt v])))))] : List TV) ++ wr_Byte.d.ps.toList.map fun q => ([.ag [.sl .bs w_b], .i .i64 v] : List TV).getD q.1 .dead) :=
  ⟨by kernel_rfl, Eq.trans (b := wr_Byte.F (Wtr.mk w_b) v) (by kernel_rfl) (Eq.trans (wr_Byte.goal (Wtr.mk w_b) v hp) (by kernel_rfl))⟩
theorem wr_Byte.ok : SpecOK Go.Proofs.Try.prog (fun n => (noGl n).av) 40 (Ctr.fs (wr_Byte.c, wr_Byte.sg)) :=
  meets (l := wr_Byte.env) all_nil wr_Byte.chk (by
      intro ins outs h
      unfold wr_Byte.c at h
      split at h
      · obtain ⟨hp, rfl⟩ := h; exact wr_Byte.fit _ _ hp
      · exact h.elim)
theorem wr_Raw.fit (w_b : List UInt8) (b : List UInt8) (hp : (decide (((Wtr.mk w_b)).b.length + (b).length ≤ 1099511627776)) = true) : ([.ag [.sl .bs w_b], .sl .bs b] : List TV).length = wr_Raw.d.np ∧ wr_Raw.d.run (envL noGl wr_Raw.env) [.ag [.sl .bs w_b], .sl .bs b] = some (([(.ag (Wtr.cells ((Wtr.mk (((Wtr.mk w_b)).b ++ b)))))] : List TV) ++ wr_Raw.d.ps.toList.map fun q => ([.ag [.sl .bs w_b], .sl .bs b] : List TV).getD q.1 .dead) :=
  ⟨by kernel_rfl, Eq.trans (b := wr_Raw.F (Wtr.mk w_b) b) (by kernel_rfl) (Eq.trans (wr_Raw.goal (Wtr.mk w_b) b hp) (by kernel_rfl))⟩
theorem wr_Raw.ok : SpecOK Go.Proofs.Try.prog (fun n => (noGl n).av) 42 (Ctr.fs (wr_Raw.c, wr_Raw.sg)) :=
  meets (l := wr_Raw.env) all_nil wr_Raw.chk (by
      intro ins outs h
      unfold wr_Raw.c at h
      split at h
      · obtain ⟨hp, rfl⟩ := h; exact wr_Raw.fit _ _ hp
      · exact h.elim)
theorem wr_High.fit (w_b : List UInt8) (v : UInt64) (n : Int) (hp : (decide (((Wtr.mk w_b)).b.length ≤ 1099511627776)) = true) : ([.ag [.sl .bs w_b], .u64 v, .i .i64 n] : List TV).length = wr_High.d.np ∧ wr_High.d.run (envL noGl wr_High.env) [.ag [.sl .bs w_b], .u64 v, .i .i64 n] = some (([(.ag (Wtr.cells ((Wtr.mk (((Wtr.mk w_b)).b ++ Cur.high v n)))))] : List TV) ++ wr_High.d.ps.toList.map fun q => ([.ag [.sl .bs w_b], .u64 v, .i .i64 n] : List TV).getD q.1 .dead) :=
  ⟨by kernel_rfl, Eq.trans (b := wr_High.F (Wtr.mk w_b) v n) (by kernel_rfl) (Eq.trans (wr_High.goal (Wtr.mk w_b) v n hp) (by kernel_rfl))⟩
theorem wr_High.ok : SpecOK Go.Proofs.Try.prog (fun n => (noGl n).av) 58 (Ctr.fs (wr_High.c, wr_High.sg)) :=
  meets (l := wr_High.env) (all_cons cur_number.ok all_nil) wr_High.chk (by
      intro ins outs h
      unfold wr_High.c at h
      split at h
      · obtain ⟨hp, rfl⟩ := h; exact wr_High.fit _ _ _ hp
      · exact h.elim)
theorem wr_Bytes.fit (w_b : List UInt8) (hp : (decide (((Wtr.mk w_b)).b.length ≤ 1099511627776)) = true) : ([.ag [.sl .bs w_b]] : List TV).length = wr_Bytes.d.np ∧ wr_Bytes.d.run (envL noGl wr_Bytes.env) [.ag [.sl .bs w_b]] = some (([(.sl .bs ((((Wtr.mk w_b)).b))), (.ag (Wtr.cells ((Wtr.mk w_b))))] : List TV) ++ wr_Bytes.d.ps.toList.map fun q => ([.ag [.sl .bs w_b]] : List TV).getD q.1 .dead) :=
  ⟨by kernel_rfl, Eq.trans (b := wr_Bytes.F (Wtr.mk w_b)) (by kernel_rfl) (Eq.trans (wr_Bytes.goal (Wtr.mk w_b) hp) (by kernel_rfl))⟩
theorem wr_Bytes.ok : SpecOK Go.Proofs.Try.prog (fun n => (noGl n).av) 24 (Ctr.fs (wr_Bytes.c, wr_Bytes.sg)) :=
  meets (l := wr_Bytes.env) (all_cons clone_bs.ok all_nil) wr_Bytes.chk (by
      intro ins outs h
      unfold wr_Bytes.c at h
      split at h
      · obtain ⟨hp, rfl⟩ := h; exact wr_Bytes.fit _ hp
      · exact h.elim)
theorem mp_few.fit (n : Int) (hp : (decide (0 ≤ n ∧ n ≤ 1099511627776)) = true) : ([.i .i64 n] : List TV).length = mp_few.d.np ∧ mp_few.d.run (envL noGl mp_few.env) [.i .i64 n] = some (([(.b (decide (n < 4294967296)))] : List TV) ++ mp_few.d.ps.toList.map fun q => ([.i .i64 n] : List TV).getD q.1 .dead) :=
  ⟨by kernel_rfl, Eq.trans (b := mp_few.F n) (by kernel_rfl) (Eq.trans (mp_few.goal n hp) (by kernel_rfl))⟩
theorem mp_few.ok : SpecOK Go.Proofs.Try.prog (fun n => (noGl n).av) 45 (Ctr.fs (mp_few.c, mp_few.sg)) :=
  meets (l := mp_few.env) all_nil mp_few.chk (by
      intro ins outs h
      unfold mp_few.c at h
      split at h
      · obtain ⟨hp, rfl⟩ := h; exact mp_few.fit _ hp
      · exact h.elim)
theorem mp_fields.fit (it_kind : Int) (it_n : UInt64) (it_bytes : List UInt8) (it_text : Str) (it_kids : List Itm) (hp : (decide (Itm.bulk (Itm.of (Itv.mk it_kind it_n it_bytes it_text it_kids)) ≤ 1099511627776)) = true) : ([.ag [.i .i64 it_kind, .u64 it_n, .sl .bs it_bytes, .s it_text, .sl .il it_kids]] : List TV).length = mp_fields.d.np ∧ mp_fields.d.run (envL noGl mp_fields.env) [.ag [.i .i64 it_kind, .u64 it_n, .sl .bs it_bytes, .s it_text, .sl .il it_kids]] = some (([(.b (Mp.fieldsOK (Itm.of (Itv.mk it_kind it_n it_bytes it_text it_kids))))] : List TV) ++ mp_fields.d.ps.toList.map fun q => ([.ag [.i .i64 it_kind, .u64 it_n, .sl .bs it_bytes, .s it_text, .sl .il it_kids]] : List TV).getD q.1 .dead) :=
  ⟨by kernel_rfl, Eq.trans (b := mp_fields.F (Itv.mk it_kind it_n it_bytes it_text it_kids)) (by kernel_rfl) (Eq.trans (mp_fields.goal (Itv.mk it_kind it_n it_bytes it_text it_kids) hp) (by kernel_rfl))⟩
theorem mp_fields.ok : SpecOK Go.Proofs.Try.prog (fun n => (noGl n).av) 26 (Ctr.fs (mp_fields.c, mp_fields.sg)) :=
  meets (l := mp_fields.env) (all_cons mp_few.ok all_nil) mp_fields.chk (by
      intro ins outs h
      unfold mp_fields.c at h
      split at h
      · obtain ⟨hp, rfl⟩ := h; exact mp_fields.fit _ _ _ _ _ hp
      · exact h.elim)
theorem mp_Check.fit (n : Nat) (it_kind : Int) (it_n : UInt64) (it_bytes : List UInt8) (it_text : Str) (it_kids : List Itm) (hp : ((decide (Itm.bulk (Itm.of (Itv.mk it_kind it_n it_bytes it_text it_kids)) ≤ 1099511627776)) && decide ((Itm.bulk (Itm.of (Itv.mk it_kind it_n it_bytes it_text it_kids))) < n + 1)) = true) : ([.ag [.i .i64 it_kind, .u64 it_n, .sl .bs it_bytes, .s it_text, .sl .il it_kids]] : List TV).length = mp_Check.d.np ∧ mp_Check.d.run (envL noGl (mp_Check.env n)) [.ag [.i .i64 it_kind, .u64 it_n, .sl .bs it_bytes, .s it_text, .sl .il it_kids]] = some (([(.i .i64 (Mp.chk (Itm.of (Itv.mk it_kind it_n it_bytes it_text it_kids))))] : List TV) ++ mp_Check.d.ps.toList.map fun q => ([.ag [.i .i64 it_kind, .u64 it_n, .sl .bs it_bytes, .s it_text, .sl .il it_kids]] : List TV).getD q.1 .dead) :=
  ⟨by kernel_rfl, Eq.trans (b := mp_Check.F n (Itv.mk it_kind it_n it_bytes it_text it_kids)) (by kernel_rfl) (Eq.trans (mp_Check.goal n (Itv.mk it_kind it_n it_bytes it_text it_kids) hp) (by kernel_rfl))⟩
theorem mcheck.oks : ∀ n : Nat, (SpecOK Go.Proofs.Try.prog (fun n => (noGl n).av) 13 (Ctr.fs (mp_Check.cn n, mp_Check.sg))) := by
  intro n
  induction n with
  | zero => exact spec_zero (by
      intro ti to_ h
      unfold mp_Check.cn at h
      split at h
      · obtain ⟨h, _⟩ := h; simp at h
      · exact h.elim)
  | succ n ih =>
    have ih0 := ih
    exact meets (l := mp_Check.env n) (all_cons ih0 (all_cons mp_fields.ok (all_cons utf_Check.ok all_nil))) (mp_Check.chk n) (by
      intro ins outs h
      unfold mp_Check.cn at h
      split at h
      · obtain ⟨hp, rfl⟩ := h; exact mp_Check.fit n _ _ _ _ _ hp
      · exact h.elim)
theorem mp_Check.ok : SpecOK Go.Proofs.Try.prog (fun n => (noGl n).av) 13 (Ctr.fs (mp_Check.c, mp_Check.sg)) := spec_sub fun ti to_ h => by
  unfold mp_Check.c at h
  split at h
  · obtain ⟨hp, rfl⟩ := h; exact ⟨mp_Check.cn (_ + 1), (mcheck.oks _), Bool.and_eq_true_iff.2 ⟨hp, decide_eq_true (Nat.lt_succ_self _)⟩, rfl⟩
  · exact h.elim
theorem mp_wrong.fit (e : Int) (at_ : Int) : ([.i .i64 e, .i .i64 at_] : List TV).length = mp_wrong.d.np ∧ mp_wrong.d.run (envL noGl mp_wrong.env) [.i .i64 e, .i .i64 at_] = some (([(.ag (Itv.cells (Itm.val (Mp.zero)))), (.ag (Flt.cells ((Flt.mk e at_ []))))] : List TV) ++ mp_wrong.d.ps.toList.map fun q => ([.i .i64 e, .i .i64 at_] : List TV).getD q.1 .dead) :=
  ⟨by kernel_rfl, Eq.trans (b := mp_wrong.F e at_) (by kernel_rfl) (Eq.trans (mp_wrong.goal e at_) (by kernel_rfl))⟩
theorem mp_wrong.ok : SpecOK Go.Proofs.Try.prog (fun n => (noGl n).av) 29 (Ctr.fs (mp_wrong.c, mp_wrong.sg)) :=
  meets (l := mp_wrong.env) all_nil mp_wrong.chk (by
      intro ins outs h
      unfold mp_wrong.c at h
      split at h
      · cases h; exact mp_wrong.fit _ _
      · exact h.elim)
theorem mp_unsigned.fit (n : UInt64) : ([.u64 n] : List TV).length = mp_unsigned.d.np ∧ mp_unsigned.d.run (envL noGl mp_unsigned.env) [.u64 n] = some (([(.ag [(.i .i64 (Mp.unsigned n).1), (.i .i64 (Mp.unsigned n).2)])] : List TV) ++ mp_unsigned.d.ps.toList.map fun q => ([.u64 n] : List TV).getD q.1 .dead) :=
  ⟨by kernel_rfl, Eq.trans (b := mp_unsigned.F n) (by kernel_rfl) (Eq.trans (mp_unsigned.goal n) (by kernel_rfl))⟩
theorem mp_unsigned.ok : SpecOK Go.Proofs.Try.prog (fun n => (noGl n).av) 38 (Ctr.fs (mp_unsigned.c, mp_unsigned.sg)) :=
  meets (l := mp_unsigned.env) all_nil mp_unsigned.chk (by
      intro ins outs h
      unfold mp_unsigned.c at h
      split at h
      · cases h; exact mp_unsigned.fit _
      · exact h.elim)
theorem mp_signed.fit (n : UInt64) : ([.u64 n] : List TV).length = mp_signed.d.np ∧ mp_signed.d.run (envL noGl mp_signed.env) [.u64 n] = some (([(.ag [(.i .i64 (Mp.signed n).1), (.i .i64 (Mp.signed n).2)])] : List TV) ++ mp_signed.d.ps.toList.map fun q => ([.u64 n] : List TV).getD q.1 .dead) :=
  ⟨by kernel_rfl, Eq.trans (b := mp_signed.F n) (by kernel_rfl) (Eq.trans (mp_signed.goal n) (by kernel_rfl))⟩
theorem mp_signed.ok : SpecOK Go.Proofs.Try.prog (fun n => (noGl n).av) 39 (Ctr.fs (mp_signed.c, mp_signed.sg)) :=
  meets (l := mp_signed.env) all_nil mp_signed.chk (by
      intro ins outs h
      unfold mp_signed.c at h
      split at h
      · cases h; exact mp_signed.fit _
      · exact h.elim)
theorem mp_put.fit (w_b : List UInt8) (f_at : Int) (f_end : Int) (n : UInt64) (hp : (decide (((Wtr.mk w_b)).b.length + 10 ≤ 1099511627776)) = true) : ([.ag [.sl .bs w_b], .ag [.i .i64 f_at, .i .i64 f_end], .u64 n] : List TV).length = mp_put.d.np ∧ mp_put.d.run (envL noGl mp_put.env) [.ag [.sl .bs w_b], .ag [.i .i64 f_at, .i .i64 f_end], .u64 n] = some (([(.ag (Wtr.cells ((Wtr.mk (((Wtr.mk w_b)).b ++ Mp.put (((Spn.mk f_at f_end)).at_, ((Spn.mk f_at f_end)).end_) n)))))] : List TV) ++ mp_put.d.ps.toList.map fun q => ([.ag [.sl .bs w_b], .ag [.i .i64 f_at, .i .i64 f_end], .u64 n] : List TV).getD q.1 .dead) :=
  ⟨by kernel_rfl, Eq.trans (b := mp_put.F (Wtr.mk w_b) (Spn.mk f_at f_end) n) (by kernel_rfl) (Eq.trans (mp_put.goal (Wtr.mk w_b) (Spn.mk f_at f_end) n hp) (by kernel_rfl))⟩
theorem mp_put.ok : SpecOK Go.Proofs.Try.prog (fun n => (noGl n).av) 37 (Ctr.fs (mp_put.c, mp_put.sg)) :=
  meets (l := mp_put.env) (all_cons wr_Byte.ok (all_cons wr_High.ok all_nil)) mp_put.chk (by
      intro ins outs h
      unfold mp_put.c at h
      split at h
      · obtain ⟨hp, rfl⟩ := h; exact mp_put.fit _ _ _ _ hp
      · exact h.elim)
theorem mp_lay.fit (n : Nat) (w_b : List UInt8) (it_kind : Int) (it_n : UInt64) (it_bytes : List UInt8) (it_text : Str) (it_kids : List Itm) (hp : ((decide (((Wtr.mk w_b)).b.length + 16 * Itm.bulk (Itm.of (Itv.mk it_kind it_n it_bytes it_text it_kids)) ≤ 1099511627776) && decide (Mp.chk (Itm.of (Itv.mk it_kind it_n it_bytes it_text it_kids)) = 0)) && decide ((Itm.bulk (Itm.of (Itv.mk it_kind it_n it_bytes it_text it_kids))) < n + 1)) = true) : ([.ag [.sl .bs w_b], .ag [.i .i64 it_kind, .u64 it_n, .sl .bs it_bytes, .s it_text, .sl .il it_kids]] : List TV).length = mp_lay.d.np ∧ mp_lay.d.run (envL noGl (mp_lay.env n)) [.ag [.sl .bs w_b], .ag [.i .i64 it_kind, .u64 it_n, .sl .bs it_bytes, .s it_text, .sl .il it_kids]] = some (([(.ag (Wtr.cells ((Wtr.mk (((Wtr.mk w_b)).b ++ Mp.lay (Itm.of (Itv.mk it_kind it_n it_bytes it_text it_kids)))))))] : List TV) ++ mp_lay.d.ps.toList.map fun q => ([.ag [.sl .bs w_b], .ag [.i .i64 it_kind, .u64 it_n, .sl .bs it_bytes, .s it_text, .sl .il it_kids]] : List TV).getD q.1 .dead) :=
  ⟨by kernel_rfl, Eq.trans (b := mp_lay.F n (Wtr.mk w_b) (Itv.mk it_kind it_n it_bytes it_text it_kids)) (by kernel_rfl) (Eq.trans (mp_lay.goal n (Wtr.mk w_b) (Itv.mk it_kind it_n it_bytes it_text it_kids) hp) (by kernel_rfl))⟩
theorem mlay.oks : ∀ n : Nat, (SpecOK Go.Proofs.Try.prog (fun n => (noGl n).av) 23 (Ctr.fs (mp_lay.cn n, mp_lay.sg))) := by
  intro n
  induction n with
  | zero => exact spec_zero (by
      intro ti to_ h
      unfold mp_lay.cn at h
      split at h
      · obtain ⟨h, _⟩ := h; simp at h
      · exact h.elim)
  | succ n ih =>
    have ih0 := ih
    exact meets (l := mp_lay.env n) (all_cons ih0 (all_cons mp_put.ok (all_cons mp_unsigned.ok (all_cons mp_signed.ok (all_cons wr_Byte.ok (all_cons mp_sized.ok (all_cons wr_Raw.ok all_nil))))))) (mp_lay.chk n) (by
      intro ins outs h
      unfold mp_lay.cn at h
      split at h
      · obtain ⟨hp, rfl⟩ := h; exact mp_lay.fit n _ _ _ _ _ _ hp
      · exact h.elim)
theorem mp_lay.ok : SpecOK Go.Proofs.Try.prog (fun n => (noGl n).av) 23 (Ctr.fs (mp_lay.c, mp_lay.sg)) := spec_sub fun ti to_ h => by
  unfold mp_lay.c at h
  split at h
  · obtain ⟨hp, rfl⟩ := h; exact ⟨mp_lay.cn (_ + 1), (mlay.oks _), Bool.and_eq_true_iff.2 ⟨hp, decide_eq_true (Nat.lt_succ_self _)⟩, rfl⟩
  · exact h.elim
theorem mp_Encode.fit (it_kind : Int) (it_n : UInt64) (it_bytes : List UInt8) (it_text : Str) (it_kids : List Itm) (hp : (decide (Itm.bulk (Itm.of (Itv.mk it_kind it_n it_bytes it_text it_kids)) ≤ 1073741824)) = true) : ([.ag [.i .i64 it_kind, .u64 it_n, .sl .bs it_bytes, .s it_text, .sl .il it_kids]] : List TV).length = mp_Encode.d.np ∧ mp_Encode.d.run (envL noGl mp_Encode.env) [.ag [.i .i64 it_kind, .u64 it_n, .sl .bs it_bytes, .s it_text, .sl .il it_kids]] = some (([(.sl .bs (Mp.enc (Itm.of (Itv.mk it_kind it_n it_bytes it_text it_kids)))), (.i .i64 (Mp.chk (Itm.of (Itv.mk it_kind it_n it_bytes it_text it_kids))))] : List TV) ++ mp_Encode.d.ps.toList.map fun q => ([.ag [.i .i64 it_kind, .u64 it_n, .sl .bs it_bytes, .s it_text, .sl .il it_kids]] : List TV).getD q.1 .dead) :=
  ⟨by kernel_rfl, Eq.trans (b := mp_Encode.F (Itv.mk it_kind it_n it_bytes it_text it_kids)) (by kernel_rfl) (Eq.trans (mp_Encode.goal (Itv.mk it_kind it_n it_bytes it_text it_kids) hp) (by kernel_rfl))⟩
theorem mp_Encode.ok : SpecOK Go.Proofs.Try.prog (fun n => (noGl n).av) 11 (Ctr.fs (mp_Encode.c, mp_Encode.sg)) :=
  meets (l := mp_Encode.env) (all_cons mp_Check.ok (all_cons cur_Lay.ok (all_cons mp_lay.ok (all_cons wr_Bytes.ok all_nil)))) mp_Encode.chk (by
      intro ins outs h
      unfold mp_Encode.c at h
      split at h
      · obtain ⟨hp, rfl⟩ := h; exact mp_Encode.fit _ _ _ _ _ hp
      · exact h.elim)
theorem mp_first.fit (c : Int) (hp : (decide (0 ≤ c ∧ c ≤ 255)) = true) : ([.i .i64 c] : List TV).length = mp_first.d.np ∧ mp_first.d.run (envL noGl mp_first.env) [.i .i64 c] = some (([(.i .i64 ((Mp.first c).1)), (.u64 ((Mp.first c).2.1)), (.i .i64 ((Mp.first c).2.2))] : List TV) ++ mp_first.d.ps.toList.map fun q => ([.i .i64 c] : List TV).getD q.1 .dead) :=
  ⟨by kernel_rfl, Eq.trans (b := mp_first.F c) (by kernel_rfl) (Eq.trans (mp_first.goal c hp) (by kernel_rfl))⟩
theorem mp_first.ok : SpecOK Go.Proofs.Try.prog (fun n => (noGl n).av) 49 (Ctr.fs (mp_first.c, mp_first.sg)) :=
  meets (l := mp_first.env) all_nil mp_first.chk (by
      intro ins outs h
      unfold mp_first.c at h
      split at h
      · obtain ⟨hp, rfl⟩ := h; exact mp_first.fit _ hp
      · exact h.elim)
theorem mp_number.fit (it_kind : Int) (it_n : UInt64) (it_bytes : List UInt8) (it_text : Str) (it_kids : List Itm) (p : Int) (c : Int) (f_at : Int) (f_end : Int) : ([.ag [.i .i64 it_kind, .u64 it_n, .sl .bs it_bytes, .s it_text, .sl .il it_kids], .i .i64 p, .i .i64 c, .ag [.i .i64 f_at, .i .i64 f_end]] : List TV).length = mp_number.d.np ∧ mp_number.d.run (envL noGl mp_number.env) [.ag [.i .i64 it_kind, .u64 it_n, .sl .bs it_bytes, .s it_text, .sl .il it_kids], .i .i64 p, .i .i64 c, .ag [.i .i64 f_at, .i .i64 f_end]] = some (([(.ag (Itv.cells (Itm.val ((Mp.num (Itm.of (Itv.mk it_kind it_n it_bytes it_text it_kids)) p c ((Spn.mk f_at f_end)).at_ 0).it)))), (.ag (Flt.cells ((Flt.mk (Mp.num (Itm.of (Itv.mk it_kind it_n it_bytes it_text it_kids)) p c ((Spn.mk f_at f_end)).at_ 0).err (Mp.num (Itm.of (Itv.mk it_kind it_n it_bytes it_text it_kids)) p c ((Spn.mk f_at f_end)).at_ 0).at_ []))))] : List TV) ++ mp_number.d.ps.toList.map fun q => ([.ag [.i .i64 it_kind, .u64 it_n, .sl .bs it_bytes, .s it_text, .sl .il it_kids], .i .i64 p, .i .i64 c, .ag [.i .i64 f_at, .i .i64 f_end]] : List TV).getD q.1 .dead) :=
  ⟨by kernel_rfl, Eq.trans (b := mp_number.F (Itv.mk it_kind it_n it_bytes it_text it_kids) p c (Spn.mk f_at f_end)) (by kernel_rfl) (Eq.trans (mp_number.goal (Itv.mk it_kind it_n it_bytes it_text it_kids) p c (Spn.mk f_at f_end)) (by kernel_rfl))⟩
theorem mp_number.ok : SpecOK Go.Proofs.Try.prog (fun n => (noGl n).av) 51 (Ctr.fs (mp_number.c, mp_number.sg)) :=
  meets (l := mp_number.env) (all_cons mp_wrong.ok all_nil) mp_number.chk (by
      intro ins outs h
      unfold mp_number.c at h
      split at h
      · cases h; exact mp_number.fit _ _ _ _ _ _ _ _ _
      · exact h.elim)
theorem mp_number.okw : SpecOK Go.Proofs.Try.prog (fun n => (noGl n).av) 51 (Ctr.fs (mp_number.cw, mp_number.sg)) := spec_wk rfl (by decide) mp_number.ok
theorem mp_row.fit (r_b : List UInt8) (r_at : Int) (it_kind : Int) (it_n : UInt64) (it_bytes : List UInt8) (it_text : Str) (it_kids : List Itm) (p : Int) (n : Int) (hp : (Cur.good (Rdr.mk r_b r_at)) = true) : ([.ag [.sl .bs r_b, .i .i64 r_at], .ag [.i .i64 it_kind, .u64 it_n, .sl .bs it_bytes, .s it_text, .sl .il it_kids], .i .i64 p, .i .i64 n] : List TV).length = mp_row.d.np ∧ mp_row.d.run (envL noGl mp_row.env) [.ag [.sl .bs r_b, .i .i64 r_at], .ag [.i .i64 it_kind, .u64 it_n, .sl .bs it_bytes, .s it_text, .sl .il it_kids], .i .i64 p, .i .i64 n] = some (([(.ag (Itv.cells (Itm.val ((Mp.row ((Rdr.mk r_b r_at)).b (Itm.of (Itv.mk it_kind it_n it_bytes it_text it_kids)) p ((Rdr.mk r_b r_at)).at_ n).it)))), (.ag (Flt.cells ((Flt.mk (Mp.row ((Rdr.mk r_b r_at)).b (Itm.of (Itv.mk it_kind it_n it_bytes it_text it_kids)) p ((Rdr.mk r_b r_at)).at_ n).err (Mp.row ((Rdr.mk r_b r_at)).b (Itm.of (Itv.mk it_kind it_n it_bytes it_text it_kids)) p ((Rdr.mk r_b r_at)).at_ n).at_ [])))), (.ag (Rdr.cells ((Rdr.mk ((Rdr.mk r_b r_at)).b (Mp.row ((Rdr.mk r_b r_at)).b (Itm.of (Itv.mk it_kind it_n it_bytes it_text it_kids)) p ((Rdr.mk r_b r_at)).at_ n).pos))))] : List TV) ++ mp_row.d.ps.toList.map fun q => ([.ag [.sl .bs r_b, .i .i64 r_at], .ag [.i .i64 it_kind, .u64 it_n, .sl .bs it_bytes, .s it_text, .sl .il it_kids], .i .i64 p, .i .i64 n] : List TV).getD q.1 .dead) :=
  ⟨by kernel_rfl, Eq.trans (b := mp_row.F (Rdr.mk r_b r_at) (Itv.mk it_kind it_n it_bytes it_text it_kids) p n) (by kernel_rfl) (Eq.trans (mp_row.goal (Rdr.mk r_b r_at) (Itv.mk it_kind it_n it_bytes it_text it_kids) p n hp) (by kernel_rfl))⟩
theorem mp_row.ok : SpecOK Go.Proofs.Try.prog (fun n => (noGl n).av) 53 (Ctr.fs (mp_row.c, mp_row.sg)) :=
  meets (l := mp_row.env) (all_cons utf_Check.ok (all_cons mp_wrong.ok (all_cons rd_Take.ok all_nil))) mp_row.chk (by
      intro ins outs h
      unfold mp_row.c at h
      split at h
      · obtain ⟨hp, rfl⟩ := h; exact mp_row.fit _ _ _ _ _ _ _ _ _ hp
      · exact h.elim)
theorem mp_row.okw : SpecOK Go.Proofs.Try.prog (fun n => (noGl n).av) 53 (Ctr.fs (mp_row.cw, mp_row.sg)) := spec_wk rfl (by decide) mp_row.ok
theorem mp_kids.fit (n : Nat) (r_b : List UInt8) (r_at : Int) (it_kind : Int) (it_n : UInt64) (it_text : Str) (m : Int) (depth : Int) (hp : ((Cur.good (Rdr.mk r_b r_at) && decide (0 ≤ m ∧ m ≤ 4294967296 ∧ 1 ≤ depth ∧ depth ≤ 1000)) && decide ((2 * (depth).toNat) < n + 1)) = true) : ([.ag [.sl .bs r_b, .i .i64 r_at], .ag [.i .i64 it_kind, .u64 it_n, .c (.slice none 0 0), .s it_text, .c (.slice none 0 0)], .i .i64 m, .i .i64 depth] : List TV).length = mp_kids.d.np ∧ mp_kids.d.run (envL noGl (mp_kids.env n)) [.ag [.sl .bs r_b, .i .i64 r_at], .ag [.i .i64 it_kind, .u64 it_n, .c (.slice none 0 0), .s it_text, .c (.slice none 0 0)], .i .i64 m, .i .i64 depth] = some (([(.ag (Itv.cells (Itm.val ((Mp.kids (Mp.read ((Rdr.mk r_b r_at)).b (depth - 1).toNat) (Itm.of (Itv.mk it_kind it_n [] it_text [])) (Mp.many ((Itv.mk it_kind it_n [] it_text [])).kind m) ((Rdr.mk r_b r_at)).at_).it)))), (.ag (Flt.cells ((Flt.mk (Mp.kids (Mp.read ((Rdr.mk r_b r_at)).b (depth - 1).toNat) (Itm.of (Itv.mk it_kind it_n [] it_text [])) (Mp.many ((Itv.mk it_kind it_n [] it_text [])).kind m) ((Rdr.mk r_b r_at)).at_).err (Mp.kids (Mp.read ((Rdr.mk r_b r_at)).b (depth - 1).toNat) (Itm.of (Itv.mk it_kind it_n [] it_text [])) (Mp.many ((Itv.mk it_kind it_n [] it_text [])).kind m) ((Rdr.mk r_b r_at)).at_).at_ [])))), (.ag (Rdr.cells ((Rdr.mk ((Rdr.mk r_b r_at)).b (Mp.kids (Mp.read ((Rdr.mk r_b r_at)).b (depth - 1).toNat) (Itm.of (Itv.mk it_kind it_n [] it_text [])) (Mp.many ((Itv.mk it_kind it_n [] it_text [])).kind m) ((Rdr.mk r_b r_at)).at_).pos))))] : List TV) ++ mp_kids.d.ps.toList.map fun q => ([.ag [.sl .bs r_b, .i .i64 r_at], .ag [.i .i64 it_kind, .u64 it_n, .c (.slice none 0 0), .s it_text, .c (.slice none 0 0)], .i .i64 m, .i .i64 depth] : List TV).getD q.1 .dead) :=
  ⟨by kernel_rfl, Eq.trans (b := mp_kids.F n (Rdr.mk r_b r_at) (Itv.mk it_kind it_n [] it_text []) m depth) (by kernel_rfl) (Eq.trans (mp_kids.goal n (Rdr.mk r_b r_at) (Itv.mk it_kind it_n [] it_text []) m depth hp) (by kernel_rfl))⟩
theorem mp_read.fit (n : Nat) (r_b : List UInt8) (r_at : Int) (depth : Int) (hp : ((Cur.good (Rdr.mk r_b r_at) && decide (0 ≤ depth ∧ depth ≤ 1000)) && decide ((2 * (depth).toNat + 1) < n + 1)) = true) : ([.ag [.sl .bs r_b, .i .i64 r_at], .i .i64 depth] : List TV).length = mp_read.d.np ∧ mp_read.d.run (envL noGl (mp_read.env n)) [.ag [.sl .bs r_b, .i .i64 r_at], .i .i64 depth] = some (([(.ag (Itv.cells (Itm.val ((Mp.read ((Rdr.mk r_b r_at)).b (depth).toNat ((Rdr.mk r_b r_at)).at_).it)))), (.ag (Flt.cells ((Flt.mk (Mp.read ((Rdr.mk r_b r_at)).b (depth).toNat ((Rdr.mk r_b r_at)).at_).err (Mp.read ((Rdr.mk r_b r_at)).b (depth).toNat ((Rdr.mk r_b r_at)).at_).at_ [])))), (.ag (Rdr.cells ((Rdr.mk ((Rdr.mk r_b r_at)).b (Mp.read ((Rdr.mk r_b r_at)).b (depth).toNat ((Rdr.mk r_b r_at)).at_).pos))))] : List TV) ++ mp_read.d.ps.toList.map fun q => ([.ag [.sl .bs r_b, .i .i64 r_at], .i .i64 depth] : List TV).getD q.1 .dead) :=
  ⟨by kernel_rfl, Eq.trans (b := mp_read.F n (Rdr.mk r_b r_at) depth) (by kernel_rfl) (Eq.trans (mp_read.goal n (Rdr.mk r_b r_at) depth hp) (by kernel_rfl))⟩
theorem mread.oks : ∀ n : Nat, (SpecOK Go.Proofs.Try.prog (fun n => (noGl n).av) 52 (Ctr.fs (mp_kids.cn n, mp_kids.sg))) ∧ (SpecOK Go.Proofs.Try.prog (fun n => (noGl n).av) 31 (Ctr.fs (mp_read.cn n, mp_read.sg))) := by
  intro n
  induction n with
  | zero => exact ⟨spec_zero (by
      intro ti to_ h
      unfold mp_kids.cn at h
      split at h
      · obtain ⟨h, _⟩ := h; simp at h
      · exact h.elim), spec_zero (by
      intro ti to_ h
      unfold mp_read.cn at h
      split at h
      · obtain ⟨h, _⟩ := h; simp at h
      · exact h.elim)⟩
  | succ n ih =>
    obtain ⟨ih0, ih1⟩ := ih
    exact ⟨meets (l := mp_kids.env n) (all_cons ih1 all_nil) (mp_kids.chk n) (by
      intro ins outs h
      unfold mp_kids.cn at h
      split at h
      · obtain ⟨hp, rfl⟩ := h; exact mp_kids.fit n _ _ _ _ _ _ _ hp
      · exact h.elim), meets (l := mp_read.env n) (all_cons mp_wrong.ok (all_cons rd_At.ok (all_cons mp_unsigned.ok (all_cons mp_signed.ok (all_cons mp_sized.ok (all_cons rd_Byte.ok (all_cons mp_first.ok (all_cons rd_High.ok (all_cons mp_number.okw (all_cons ih0 (all_cons mp_row.okw all_nil))))))))))) (mp_read.chk n) (by
      intro ins outs h
      unfold mp_read.cn at h
      split at h
      · obtain ⟨hp, rfl⟩ := h; exact mp_read.fit n _ _ _ hp
      · exact h.elim)⟩
theorem mp_kids.ok : SpecOK Go.Proofs.Try.prog (fun n => (noGl n).av) 52 (Ctr.fs (mp_kids.c, mp_kids.sg)) := spec_sub fun ti to_ h => by
  unfold mp_kids.c at h
  split at h
  · obtain ⟨hp, rfl⟩ := h; exact ⟨mp_kids.cn (_ + 1), (mread.oks _).1, Bool.and_eq_true_iff.2 ⟨hp, decide_eq_true (Nat.lt_succ_self _)⟩, rfl⟩
  · exact h.elim
theorem mp_read.ok : SpecOK Go.Proofs.Try.prog (fun n => (noGl n).av) 31 (Ctr.fs (mp_read.c, mp_read.sg)) := spec_sub fun ti to_ h => by
  unfold mp_read.c at h
  split at h
  · obtain ⟨hp, rfl⟩ := h; exact ⟨mp_read.cn (_ + 1), (mread.oks _).2, Bool.and_eq_true_iff.2 ⟨hp, decide_eq_true (Nat.lt_succ_self _)⟩, rfl⟩
  · exact h.elim
theorem mp_Decode.fit (b : List UInt8) (depth : Int) (hp : (decide ((b).length ≤ 1099511627776)) = true) : ([.sl .bs b, .i .i64 depth] : List TV).length = mp_Decode.d.np ∧ mp_Decode.d.run (envL noGl mp_Decode.env) [.sl .bs b, .i .i64 depth] = some (([(.ag (Itv.cells (Itm.val ((Mp.dec b depth).1)))), (.ag (Flt.cells ((Mp.dec b depth).2)))] : List TV) ++ mp_Decode.d.ps.toList.map fun q => ([.sl .bs b, .i .i64 depth] : List TV).getD q.1 .dead) :=
  ⟨by kernel_rfl, Eq.trans (b := mp_Decode.F b depth) (by kernel_rfl) (Eq.trans (mp_Decode.goal b depth hp) (by kernel_rfl))⟩
theorem mp_Decode.ok : SpecOK Go.Proofs.Try.prog (fun n => (noGl n).av) 15 (Ctr.fs (mp_Decode.c, mp_Decode.sg)) :=
  meets (l := mp_Decode.env) (all_cons mp_wrong.ok (all_cons cur_New.ok (all_cons mp_read.ok (all_cons rd_Left.ok (all_cons rd_At.ok all_nil))))) mp_Decode.chk (by
      intro ins outs h
      unfold mp_Decode.c at h
      split at h
      · obtain ⟨hp, rfl⟩ := h; exact mp_Decode.fit _ _ hp
      · exact h.elim)
theorem ref1_PutLow.fit (v : UInt64) (n : Int) (hp : (decide (0 ≤ n ∧ n ≤ 8)) = true) : ([.u64 v, .i .i64 n] : List TV).length = ref1_PutLow.d.np ∧ ref1_PutLow.d.run (envL noGl ref1_PutLow.env) [.u64 v, .i .i64 n] = some (([(.sl .bs (Cur.putLow v (n).toNat))] : List TV) ++ ref1_PutLow.d.ps.toList.map fun q => ([.u64 v, .i .i64 n] : List TV).getD q.1 .dead) :=
  ⟨by kernel_rfl, Eq.trans (b := ref1_PutLow.F v n) (by kernel_rfl) (Eq.trans (ref1_PutLow.goal v n hp) (by kernel_rfl))⟩
theorem ref1_PutLow.ok : SpecOK Go.Proofs.Try.prog (fun n => (noGl n).av) 70 (Ctr.fs (ref1_PutLow.c, ref1_PutLow.sg)) :=
  meets (l := ref1_PutLow.env) all_nil ref1_PutLow.chk (by
      intro ins outs h
      unfold ref1_PutLow.c at h
      split at h
      · obtain ⟨hp, rfl⟩ := h; exact ref1_PutLow.fit _ _ hp
      · exact h.elim)
theorem ref1_PutHigh.fit (v : UInt64) (n : Int) (hp : (decide (0 ≤ n ∧ n ≤ 8)) = true) : ([.u64 v, .i .i64 n] : List TV).length = ref1_PutHigh.d.np ∧ ref1_PutHigh.d.run (envL noGl ref1_PutHigh.env) [.u64 v, .i .i64 n] = some (([(.sl .bs (Cur.putHigh v (n).toNat))] : List TV) ++ ref1_PutHigh.d.ps.toList.map fun q => ([.u64 v, .i .i64 n] : List TV).getD q.1 .dead) :=
  ⟨by kernel_rfl, Eq.trans (b := ref1_PutHigh.F v n) (by kernel_rfl) (Eq.trans (ref1_PutHigh.goal v n hp) (by kernel_rfl))⟩
theorem ref1_PutHigh.ok : SpecOK Go.Proofs.Try.prog (fun n => (noGl n).av) 61 (Ctr.fs (ref1_PutHigh.c, ref1_PutHigh.sg)) :=
  meets (l := ref1_PutHigh.env) (all_cons ref1_PutLow.ok all_nil) ref1_PutHigh.chk (by
      intro ins outs h
      unfold ref1_PutHigh.c at h
      split at h
      · obtain ⟨hp, rfl⟩ := h; exact ref1_PutHigh.fit _ _ hp
      · exact h.elim)
theorem ref1_High.fit (b : List UInt8) (at_ : Int) (n : Int) (hp : (decide ((b).length ≤ 1099511627776)) = true) : ([.sl .bs b, .i .i64 at_, .i .i64 n] : List TV).length = ref1_High.d.np ∧ ref1_High.d.run (envL noGl ref1_High.env) [.sl .bs b, .i .i64 at_, .i .i64 n] = some (([(.u64 (Cur.be (Mp.rng b at_ n))), (.b (Mp.rngOK b at_ n))] : List TV) ++ ref1_High.d.ps.toList.map fun q => ([.sl .bs b, .i .i64 at_, .i .i64 n] : List TV).getD q.1 .dead) :=
  ⟨by kernel_rfl, Eq.trans (b := ref1_High.F b at_ n) (by kernel_rfl) (Eq.trans (ref1_High.goal b at_ n hp) (by kernel_rfl))⟩
theorem ref1_High.ok : SpecOK Go.Proofs.Try.prog (fun n => (noGl n).av) 55 (Ctr.fs (ref1_High.c, ref1_High.sg)) :=
  meets (l := ref1_High.env) all_nil ref1_High.chk (by
      intro ins outs h
      unfold ref1_High.c at h
      split at h
      · obtain ⟨hp, rfl⟩ := h; exact ref1_High.fit _ _ _ hp
      · exact h.elim)
theorem ref29_own.fit (it_kind : Int) (it_n : UInt64) (it_bytes : List UInt8) (it_text : Str) (it_kids : List Itm) (hp : (decide (Itm.bulk (Itm.of (Itv.mk it_kind it_n it_bytes it_text it_kids)) ≤ 1099511627776)) = true) : ([.ag [.i .i64 it_kind, .u64 it_n, .sl .bs it_bytes, .s it_text, .sl .il it_kids]] : List TV).length = ref29_own.d.np ∧ ref29_own.d.run (envL noGl ref29_own.env) [.ag [.i .i64 it_kind, .u64 it_n, .sl .bs it_bytes, .s it_text, .sl .il it_kids]] = some (([(.i .i64 (Mp.own (Itm.of (Itv.mk it_kind it_n it_bytes it_text it_kids))))] : List TV) ++ ref29_own.d.ps.toList.map fun q => ([.ag [.i .i64 it_kind, .u64 it_n, .sl .bs it_bytes, .s it_text, .sl .il it_kids]] : List TV).getD q.1 .dead) :=
  ⟨by kernel_rfl, Eq.trans (b := ref29_own.F (Itv.mk it_kind it_n it_bytes it_text it_kids)) (by kernel_rfl) (Eq.trans (ref29_own.goal (Itv.mk it_kind it_n it_bytes it_text it_kids) hp) (by kernel_rfl))⟩
theorem ref29_own.ok : SpecOK Go.Proofs.Try.prog (fun n => (noGl n).av) 28 (Ctr.fs (ref29_own.c, ref29_own.sg)) :=
  meets (l := ref29_own.env) (all_cons ref2_Whole.ok all_nil) ref29_own.chk (by
      intro ins outs h
      unfold ref29_own.c at h
      split at h
      · obtain ⟨hp, rfl⟩ := h; exact ref29_own.fit _ _ _ _ _ hp
      · exact h.elim)
theorem ref29_Check.fit (n : Nat) (it_kind : Int) (it_n : UInt64) (it_bytes : List UInt8) (it_text : Str) (it_kids : List Itm) (hp : ((decide (Itm.bulk (Itm.of (Itv.mk it_kind it_n it_bytes it_text it_kids)) ≤ 1099511627776)) && decide ((Itm.bulk (Itm.of (Itv.mk it_kind it_n it_bytes it_text it_kids))) < n + 1)) = true) : ([.ag [.i .i64 it_kind, .u64 it_n, .sl .bs it_bytes, .s it_text, .sl .il it_kids]] : List TV).length = ref29_Check.d.np ∧ ref29_Check.d.run (envL noGl (ref29_Check.env n)) [.ag [.i .i64 it_kind, .u64 it_n, .sl .bs it_bytes, .s it_text, .sl .il it_kids]] = some (([(.i .i64 (Mp.chk (Itm.of (Itv.mk it_kind it_n it_bytes it_text it_kids))))] : List TV) ++ ref29_Check.d.ps.toList.map fun q => ([.ag [.i .i64 it_kind, .u64 it_n, .sl .bs it_bytes, .s it_text, .sl .il it_kids]] : List TV).getD q.1 .dead) :=
  ⟨by kernel_rfl, Eq.trans (b := ref29_Check.F n (Itv.mk it_kind it_n it_bytes it_text it_kids)) (by kernel_rfl) (Eq.trans (ref29_Check.goal n (Itv.mk it_kind it_n it_bytes it_text it_kids) hp) (by kernel_rfl))⟩
theorem rcheck29.oks : ∀ n : Nat, (SpecOK Go.Proofs.Try.prog (fun n => (noGl n).av) 14 (Ctr.fs (ref29_Check.cn n, ref29_Check.sg))) := by
  intro n
  induction n with
  | zero => exact spec_zero (by
      intro ti to_ h
      unfold ref29_Check.cn at h
      split at h
      · obtain ⟨h, _⟩ := h; simp at h
      · exact h.elim)
  | succ n ih =>
    have ih0 := ih
    exact meets (l := ref29_Check.env n) (all_cons ih0 (all_cons ref29_own.ok all_nil)) (ref29_Check.chk n) (by
      intro ins outs h
      unfold ref29_Check.cn at h
      split at h
      · obtain ⟨hp, rfl⟩ := h; exact ref29_Check.fit n _ _ _ _ _ hp
      · exact h.elim)
theorem ref29_Check.ok : SpecOK Go.Proofs.Try.prog (fun n => (noGl n).av) 14 (Ctr.fs (ref29_Check.c, ref29_Check.sg)) := spec_sub fun ti to_ h => by
  unfold ref29_Check.c at h
  split at h
  · obtain ⟨hp, rfl⟩ := h; exact ⟨ref29_Check.cn (_ + 1), (rcheck29.oks _), Bool.and_eq_true_iff.2 ⟨hp, decide_eq_true (Nat.lt_succ_self _)⟩, rfl⟩
  · exact h.elim
theorem ref29_wide.fit (n : UInt64) : ([.u64 n] : List TV).length = ref29_wide.d.np ∧ ref29_wide.d.run (envL noGl ref29_wide.env) [.u64 n] = some (([(.i .i64 (Mp.wide n))] : List TV) ++ ref29_wide.d.ps.toList.map fun q => ([.u64 n] : List TV).getD q.1 .dead) :=
  ⟨by kernel_rfl, Eq.trans (b := ref29_wide.F n) (by kernel_rfl) (Eq.trans (ref29_wide.goal n) (by kernel_rfl))⟩
theorem ref29_wide.ok : SpecOK Go.Proofs.Try.prog (fun n => (noGl n).av) 68 (Ctr.fs (ref29_wide.c, ref29_wide.sg)) :=
  meets (l := ref29_wide.env) all_nil ref29_wide.chk (by
      intro ins outs h
      unfold ref29_wide.c at h
      split at h
      · cases h; exact ref29_wide.fit _
      · exact h.elim)
theorem ref29_step.fit (n : Int) : ([.i .i64 n] : List TV).length = ref29_step.d.np ∧ ref29_step.d.run (envL noGl ref29_step.env) [.i .i64 n] = some (([(.u8 (Mp.step n))] : List TV) ++ ref29_step.d.ps.toList.map fun q => ([.i .i64 n] : List TV).getD q.1 .dead) :=
  ⟨by kernel_rfl, Eq.trans (b := ref29_step.F n) (by kernel_rfl) (Eq.trans (ref29_step.goal n) (by kernel_rfl))⟩
theorem ref29_step.ok : SpecOK Go.Proofs.Try.prog (fun n => (noGl n).av) 69 (Ctr.fs (ref29_step.c, ref29_step.sg)) :=
  meets (l := ref29_step.env) all_nil ref29_step.chk (by
      intro ins outs h
      unfold ref29_step.c at h
      split at h
      · cases h; exact ref29_step.fit _
      · exact h.elim)
theorem ref29_form.fit (f : UInt8) (n : UInt64) (least : Int) (hp : (decide (least ≤ 8)) = true) : ([.u8 f, .u64 n, .i .i64 least] : List TV).length = ref29_form.d.np ∧ ref29_form.d.run (envL noGl ref29_form.env) [.u8 f, .u64 n, .i .i64 least] = some (([(.sl .bs (Mp.form f n least))] : List TV) ++ ref29_form.d.ps.toList.map fun q => ([.u8 f, .u64 n, .i .i64 least] : List TV).getD q.1 .dead) :=
  ⟨by kernel_rfl, Eq.trans (b := ref29_form.F f n least) (by kernel_rfl) (Eq.trans (ref29_form.goal f n least hp) (by kernel_rfl))⟩
theorem ref29_form.ok : SpecOK Go.Proofs.Try.prog (fun n => (noGl n).av) 59 (Ctr.fs (ref29_form.c, ref29_form.sg)) :=
  meets (l := ref29_form.env) (all_cons ref1_PutHigh.ok (all_cons ref29_wide.ok (all_cons ref29_step.ok all_nil))) ref29_form.chk (by
      intro ins outs h
      unfold ref29_form.c at h
      split at h
      · obtain ⟨hp, rfl⟩ := h; exact ref29_form.fit _ _ _ hp
      · exact h.elim)
theorem ref29_ext.fit (n : UInt64) (k : UInt64) : ([.u64 n, .u64 k] : List TV).length = ref29_ext.d.np ∧ ref29_ext.d.run (envL noGl ref29_ext.env) [.u64 n, .u64 k] = some (([(.sl .bs (Mp.ext n k))] : List TV) ++ ref29_ext.d.ps.toList.map fun q => ([.u64 n, .u64 k] : List TV).getD q.1 .dead) :=
  ⟨by kernel_rfl, Eq.trans (b := ref29_ext.F n k) (by kernel_rfl) (Eq.trans (ref29_ext.goal n k) (by kernel_rfl))⟩
theorem ref29_ext.ok : SpecOK Go.Proofs.Try.prog (fun n => (noGl n).av) 62 (Ctr.fs (ref29_ext.c, ref29_ext.sg)) :=
  meets (l := ref29_ext.env) (all_cons ref29_form.ok all_nil) ref29_ext.chk (by
      intro ins outs h
      unfold ref29_ext.c at h
      split at h
      · cases h; exact ref29_ext.fit _ _
      · exact h.elim)
theorem ref29_negative.fit (n : UInt64) : ([.u64 n] : List TV).length = ref29_negative.d.np ∧ ref29_negative.d.run (envL noGl ref29_negative.env) [.u64 n] = some (([(.sl .bs (Mp.put (Mp.signed n) (~~~ n)))] : List TV) ++ ref29_negative.d.ps.toList.map fun q => ([.u64 n] : List TV).getD q.1 .dead) :=
  ⟨by kernel_rfl, Eq.trans (b := ref29_negative.F n) (by kernel_rfl) (Eq.trans (ref29_negative.goal n) (by kernel_rfl))⟩
theorem ref29_negative.ok : SpecOK Go.Proofs.Try.prog (fun n => (noGl n).av) 60 (Ctr.fs (ref29_negative.c, ref29_negative.sg)) :=
  meets (l := ref29_negative.env) (all_cons ref1_PutHigh.ok all_nil) ref29_negative.chk (by
      intro ins outs h
      unfold ref29_negative.c at h
      split at h
      · cases h; exact ref29_negative.fit _
      · exact h.elim)
theorem ref29_head.fit (it_kind : Int) (it_n : UInt64) (it_bytes : List UInt8) (it_text : Str) (it_kids : List Itm) (hp : (decide (Itm.bulk (Itm.of (Itv.mk it_kind it_n it_bytes it_text it_kids)) ≤ 1099511627776) && decide (Mp.own (Itm.of (Itv.mk it_kind it_n it_bytes it_text it_kids)) = 0)) = true) : ([.ag [.i .i64 it_kind, .u64 it_n, .sl .bs it_bytes, .s it_text, .sl .il it_kids]] : List TV).length = ref29_head.d.np ∧ ref29_head.d.run (envL noGl ref29_head.env) [.ag [.i .i64 it_kind, .u64 it_n, .sl .bs it_bytes, .s it_text, .sl .il it_kids]] = some (([(.sl .bs (Mp.head (Itm.of (Itv.mk it_kind it_n it_bytes it_text it_kids))))] : List TV) ++ ref29_head.d.ps.toList.map fun q => ([.ag [.i .i64 it_kind, .u64 it_n, .sl .bs it_bytes, .s it_text, .sl .il it_kids]] : List TV).getD q.1 .dead) :=
  ⟨by kernel_rfl, Eq.trans (b := ref29_head.F (Itv.mk it_kind it_n it_bytes it_text it_kids)) (by kernel_rfl) (Eq.trans (ref29_head.goal (Itv.mk it_kind it_n it_bytes it_text it_kids) hp) (by kernel_rfl))⟩
theorem ref29_head.ok : SpecOK Go.Proofs.Try.prog (fun n => (noGl n).av) 44 (Ctr.fs (ref29_head.c, ref29_head.sg)) :=
  meets (l := ref29_head.env) (all_cons ref29_form.ok (all_cons ref29_negative.ok (all_cons ref1_PutHigh.ok (all_cons ref29_ext.ok all_nil)))) ref29_head.chk (by
      intro ins outs h
      unfold ref29_head.c at h
      split at h
      · obtain ⟨hp, rfl⟩ := h; exact ref29_head.fit _ _ _ _ _ hp
      · exact h.elim)
theorem ref29_lay.fit (n : Nat) (it_kind : Int) (it_n : UInt64) (it_bytes : List UInt8) (it_text : Str) (it_kids : List Itm) (hp : ((decide (16 * Itm.bulk (Itm.of (Itv.mk it_kind it_n it_bytes it_text it_kids)) ≤ 1099511627776) && decide (Mp.chk (Itm.of (Itv.mk it_kind it_n it_bytes it_text it_kids)) = 0)) && decide ((Itm.bulk (Itm.of (Itv.mk it_kind it_n it_bytes it_text it_kids))) < n + 1)) = true) : ([.ag [.i .i64 it_kind, .u64 it_n, .sl .bs it_bytes, .s it_text, .sl .il it_kids]] : List TV).length = ref29_lay.d.np ∧ ref29_lay.d.run (envL noGl (ref29_lay.env n)) [.ag [.i .i64 it_kind, .u64 it_n, .sl .bs it_bytes, .s it_text, .sl .il it_kids]] = some (([(.sl .bs (Mp.lay (Itm.of (Itv.mk it_kind it_n it_bytes it_text it_kids))))] : List TV) ++ ref29_lay.d.ps.toList.map fun q => ([.ag [.i .i64 it_kind, .u64 it_n, .sl .bs it_bytes, .s it_text, .sl .il it_kids]] : List TV).getD q.1 .dead) :=
  ⟨by kernel_rfl, Eq.trans (b := ref29_lay.F n (Itv.mk it_kind it_n it_bytes it_text it_kids)) (by kernel_rfl) (Eq.trans (ref29_lay.goal n (Itv.mk it_kind it_n it_bytes it_text it_kids) hp) (by kernel_rfl))⟩
theorem rlay29.oks : ∀ n : Nat, (SpecOK Go.Proofs.Try.prog (fun n => (noGl n).av) 25 (Ctr.fs (ref29_lay.cn n, ref29_lay.sg))) := by
  intro n
  induction n with
  | zero => exact spec_zero (by
      intro ti to_ h
      unfold ref29_lay.cn at h
      split at h
      · obtain ⟨h, _⟩ := h; simp at h
      · exact h.elim)
  | succ n ih =>
    have ih0 := ih
    exact meets (l := ref29_lay.env n) (all_cons ih0 (all_cons ref29_head.ok all_nil)) (ref29_lay.chk n) (by
      intro ins outs h
      unfold ref29_lay.cn at h
      split at h
      · obtain ⟨hp, rfl⟩ := h; exact ref29_lay.fit n _ _ _ _ _ hp
      · exact h.elim)
theorem ref29_lay.ok : SpecOK Go.Proofs.Try.prog (fun n => (noGl n).av) 25 (Ctr.fs (ref29_lay.c, ref29_lay.sg)) := spec_sub fun ti to_ h => by
  unfold ref29_lay.c at h
  split at h
  · obtain ⟨hp, rfl⟩ := h; exact ⟨ref29_lay.cn (_ + 1), (rlay29.oks _), Bool.and_eq_true_iff.2 ⟨hp, decide_eq_true (Nat.lt_succ_self _)⟩, rfl⟩
  · exact h.elim
theorem ref29_Encode.fit (it_kind : Int) (it_n : UInt64) (it_bytes : List UInt8) (it_text : Str) (it_kids : List Itm) (hp : (decide (Itm.bulk (Itm.of (Itv.mk it_kind it_n it_bytes it_text it_kids)) ≤ 1073741824)) = true) : ([.ag [.i .i64 it_kind, .u64 it_n, .sl .bs it_bytes, .s it_text, .sl .il it_kids]] : List TV).length = ref29_Encode.d.np ∧ ref29_Encode.d.run (envL noGl ref29_Encode.env) [.ag [.i .i64 it_kind, .u64 it_n, .sl .bs it_bytes, .s it_text, .sl .il it_kids]] = some (([(.sl .bs (Mp.enc (Itm.of (Itv.mk it_kind it_n it_bytes it_text it_kids)))), (.i .i64 (Mp.chk (Itm.of (Itv.mk it_kind it_n it_bytes it_text it_kids))))] : List TV) ++ ref29_Encode.d.ps.toList.map fun q => ([.ag [.i .i64 it_kind, .u64 it_n, .sl .bs it_bytes, .s it_text, .sl .il it_kids]] : List TV).getD q.1 .dead) :=
  ⟨by kernel_rfl, Eq.trans (b := ref29_Encode.F (Itv.mk it_kind it_n it_bytes it_text it_kids)) (by kernel_rfl) (Eq.trans (ref29_Encode.goal (Itv.mk it_kind it_n it_bytes it_text it_kids) hp) (by kernel_rfl))⟩
theorem ref29_Encode.ok : SpecOK Go.Proofs.Try.prog (fun n => (noGl n).av) 12 (Ctr.fs (ref29_Encode.c, ref29_Encode.sg)) :=
  meets (l := ref29_Encode.env) (all_cons ref29_Check.ok (all_cons ref29_lay.ok all_nil)) ref29_Encode.chk (by
      intro ins outs h
      unfold ref29_Encode.c at h
      split at h
      · obtain ⟨hp, rfl⟩ := h; exact ref29_Encode.fit _ _ _ _ _ hp
      · exact h.elim)
theorem ref29_first.fit (c : UInt8) : ([.u8 c] : List TV).length = ref29_first.d.np ∧ ref29_first.d.run (envL noGl ref29_first.env) [.u8 c] = some (([(.i .i64 ((Mp.first ((c).toNat : Int)).1)), (.u64 ((Mp.first ((c).toNat : Int)).2.1)), (.i .i64 ((Mp.first ((c).toNat : Int)).2.2)), (.i .i64 ((if (Mp.first ((c).toNat : Int)).1 = 10 then 1 else 0)))] : List TV) ++ ref29_first.d.ps.toList.map fun q => ([.u8 c] : List TV).getD q.1 .dead) :=
  ⟨by kernel_rfl, Eq.trans (b := ref29_first.F c) (by kernel_rfl) (Eq.trans (ref29_first.goal c) (by kernel_rfl))⟩
theorem ref29_first.ok : SpecOK Go.Proofs.Try.prog (fun n => (noGl n).av) 54 (Ctr.fs (ref29_first.c, ref29_first.sg)) :=
  meets (l := ref29_first.env) all_nil ref29_first.chk (by
      intro ins outs h
      unfold ref29_first.c at h
      split at h
      · cases h; exact ref29_first.fit _
      · exact h.elim)
theorem ref29_below.fit (n : UInt64) (size : Int) (hp : (decide (size = 1 ∨ size = 2 ∨ size = 4 ∨ size = 8)) = true) : ([.u64 n, .i .i64 size] : List TV).length = ref29_below.d.np ∧ ref29_below.d.run (envL noGl ref29_below.env) [.u64 n, .i .i64 size] = some (([(.u64 ((Mp.below n size).getD 0)), (.b ((Mp.below n size).isSome))] : List TV) ++ ref29_below.d.ps.toList.map fun q => ([.u64 n, .i .i64 size] : List TV).getD q.1 .dead) :=
  ⟨by kernel_rfl, Eq.trans (b := ref29_below.F n size) (by kernel_rfl) (Eq.trans (ref29_below.goal n size hp) (by kernel_rfl))⟩
theorem ref29_below.ok : SpecOK Go.Proofs.Try.prog (fun n => (noGl n).av) 56 (Ctr.fs (ref29_below.c, ref29_below.sg)) :=
  meets (l := ref29_below.env) all_nil ref29_below.chk (by
      intro ins outs h
      unfold ref29_below.c at h
      split at h
      · obtain ⟨hp, rfl⟩ := h; exact ref29_below.fit _ _ hp
      · exact h.elim)
theorem ref29_same.fit (b : List UInt8) (p : Int) (end_ : Int) (k : Int) (n : UInt64) (types : UInt64) (hp : (decide (0 ≤ p ∧ p ≤ end_ ∧ end_ ≤ (b).length ∧ (b).length ≤ 1099511627776) && decide (k = 1 ∨ k = 2 ∧ n < 9223372036854775808 ∨ k = 8 ∧ 20 ≤ n ∧ n ≤ 22 ∨ k = 9 ∨ k = 3 ∨ k = 4 ∨ k = 5 ∨ k = 6 ∨ k = 10)) = true) : ([.sl .bs b, .i .i64 p, .i .i64 end_, .i .i64 k, .u64 n, .u64 types] : List TV).length = ref29_same.d.np ∧ ref29_same.d.run (envL noGl ref29_same.env) [.sl .bs b, .i .i64 p, .i .i64 end_, .i .i64 k, .u64 n, .u64 types] = some (([(.b (decide (Mp.want k n types = ((b).drop (p).toNat).take ((end_) - (p)).toNat)))] : List TV) ++ ref29_same.d.ps.toList.map fun q => ([.sl .bs b, .i .i64 p, .i .i64 end_, .i .i64 k, .u64 n, .u64 types] : List TV).getD q.1 .dead) :=
  ⟨by kernel_rfl, Eq.trans (b := ref29_same.F b p end_ k n types) (by kernel_rfl) (Eq.trans (ref29_same.goal b p end_ k n types hp) (by kernel_rfl))⟩
theorem ref29_same.ok : SpecOK Go.Proofs.Try.prog (fun n => (noGl n).av) 57 (Ctr.fs (ref29_same.c, ref29_same.sg)) :=
  meets (l := ref29_same.env) (all_cons ref29_head.ok (all_cons ref29_form.ok (all_cons ref29_ext.ok all_nil))) ref29_same.chk (by
      intro ins outs h
      unfold ref29_same.c at h
      split at h
      · obtain ⟨hp, rfl⟩ := h; exact ref29_same.fit _ _ _ _ _ _ hp
      · exact h.elim)
theorem ref29_read.fit (n : Nat) (b : List UInt8) (p : Int) (within : Int) (depth : Int) (hp : ((decide ((b).length ≤ 1099511627776 ∧ 0 ≤ p ∧ 0 ≤ within ∧ within ≤ depth ∧ depth ≤ 1000)) && decide (((depth - within).toNat) < n + 1)) = true) : ([.sl .bs b, .i .i64 p, .i .i64 within, .i .i64 depth] : List TV).length = ref29_read.d.np ∧ ref29_read.d.run (envL noGl (ref29_read.env n)) [.sl .bs b, .i .i64 p, .i .i64 within, .i .i64 depth] = some (([(.ag (Itv.cells (Itm.val ((Mp.read b (depth - within).toNat p).it)))), (.i .i64 ((Mp.next b (depth - within).toNat p))), (.ag (Flt.cells ((Flt.mk (Mp.read b (depth - within).toNat p).err (Mp.read b (depth - within).toNat p).at_ []))))] : List TV) ++ ref29_read.d.ps.toList.map fun q => ([.sl .bs b, .i .i64 p, .i .i64 within, .i .i64 depth] : List TV).getD q.1 .dead) :=
  ⟨by kernel_rfl, Eq.trans (b := ref29_read.F n b p within depth) (by kernel_rfl) (Eq.trans (ref29_read.goal n b p within depth hp) (by kernel_rfl))⟩
theorem rread29.oks : ∀ n : Nat, (SpecOK Go.Proofs.Try.prog (fun n => (noGl n).av) 34 (Ctr.fs (ref29_read.cn n, ref29_read.sg))) := by
  intro n
  induction n with
  | zero => exact spec_zero (by
      intro ti to_ h
      unfold ref29_read.cn at h
      split at h
      · obtain ⟨h, _⟩ := h; simp at h
      · exact h.elim)
  | succ n ih =>
    have ih0 := ih
    exact meets (l := ref29_read.env n) (all_cons ih0 (all_cons ref2_Whole.ok (all_cons ref29_first.ok (all_cons ref1_High.ok (all_cons ref29_below.ok (all_cons ref29_same.ok all_nil)))))) (ref29_read.chk n) (by
      intro ins outs h
      unfold ref29_read.cn at h
      split at h
      · obtain ⟨hp, rfl⟩ := h; exact ref29_read.fit n _ _ _ _ hp
      · exact h.elim)
theorem ref29_read.ok : SpecOK Go.Proofs.Try.prog (fun n => (noGl n).av) 34 (Ctr.fs (ref29_read.c, ref29_read.sg)) := spec_sub fun ti to_ h => by
  unfold ref29_read.c at h
  split at h
  · obtain ⟨hp, rfl⟩ := h; exact ⟨ref29_read.cn (_ + 1), (rread29.oks _), Bool.and_eq_true_iff.2 ⟨hp, decide_eq_true (Nat.lt_succ_self _)⟩, rfl⟩
  · exact h.elim
theorem ref29_Decode.fit (b : List UInt8) (depth : Int) (hp : (decide ((b).length ≤ 1099511627776)) = true) : ([.sl .bs b, .i .i64 depth] : List TV).length = ref29_Decode.d.np ∧ ref29_Decode.d.run (envL noGl ref29_Decode.env) [.sl .bs b, .i .i64 depth] = some (([(.ag (Itv.cells (Itm.val ((Mp.dec b depth).1)))), (.ag (Flt.cells ((Mp.dec b depth).2)))] : List TV) ++ ref29_Decode.d.ps.toList.map fun q => ([.sl .bs b, .i .i64 depth] : List TV).getD q.1 .dead) :=
  ⟨by kernel_rfl, Eq.trans (b := ref29_Decode.F b depth) (by kernel_rfl) (Eq.trans (ref29_Decode.goal b depth hp) (by kernel_rfl))⟩
theorem ref29_Decode.ok : SpecOK Go.Proofs.Try.prog (fun n => (noGl n).av) 16 (Ctr.fs (ref29_Decode.c, ref29_Decode.sg)) :=
  meets (l := ref29_Decode.env) (all_cons ref29_read.ok all_nil) ref29_Decode.chk (by
      intro ins outs h
      unfold ref29_Decode.c at h
      split at h
      · obtain ⟨hp, rfl⟩ := h; exact ref29_Decode.fit _ _ hp
      · exact h.elim)
theorem ref5_Same.fit (f_err : Int) (f_at : Int) (f_path : List Int) (g_err : Int) (g_at : Int) (g_path : List Int) (hp : (decide (((Flt.mk f_err f_at f_path)).path.length ≤ 1099511627776)) = true) : ([.ag [.i .i64 f_err, .i .i64 f_at, .sl .is f_path], .ag [.i .i64 g_err, .i .i64 g_at, .sl .is g_path]] : List TV).length = ref5_Same.d.np ∧ ref5_Same.d.run (envL noGl ref5_Same.env) [.ag [.i .i64 f_err, .i .i64 f_at, .sl .is f_path], .ag [.i .i64 g_err, .i .i64 g_at, .sl .is g_path]] = some (([(.b (decide (((Flt.mk f_err f_at f_path)).err = ((Flt.mk g_err g_at g_path)).err ∧ ((Flt.mk f_err f_at f_path)).at_ = ((Flt.mk g_err g_at g_path)).at_ ∧ ((Flt.mk f_err f_at f_path)).path = ((Flt.mk g_err g_at g_path)).path)))] : List TV) ++ ref5_Same.d.ps.toList.map fun q => ([.ag [.i .i64 f_err, .i .i64 f_at, .sl .is f_path], .ag [.i .i64 g_err, .i .i64 g_at, .sl .is g_path]] : List TV).getD q.1 .dead) :=
  ⟨by kernel_rfl, Eq.trans (b := ref5_Same.F (Flt.mk f_err f_at f_path) (Flt.mk g_err g_at g_path)) (by kernel_rfl) (Eq.trans (ref5_Same.goal (Flt.mk f_err f_at f_path) (Flt.mk g_err g_at g_path) hp) (by kernel_rfl))⟩
theorem ref5_Same.ok : SpecOK Go.Proofs.Try.prog (fun n => (noGl n).av) 17 (Ctr.fs (ref5_Same.c, ref5_Same.sg)) :=
  meets (l := ref5_Same.env) (all_cons ref1_SameInts.ok all_nil) ref5_Same.chk (by
      intro ins outs h
      unfold ref5_Same.c at h
      split at h
      · obtain ⟨hp, rfl⟩ := h; exact ref5_Same.fit _ _ _ _ _ _ hp
      · exact h.elim)
theorem ref28_Same.fit (n : Nat) (a_kind : Int) (a_n : UInt64) (a_bytes : List UInt8) (a_text : Str) (a_kids : List Itm) (b_kind : Int) (b_n : UInt64) (b_bytes : List UInt8) (b_text : Str) (b_kids : List Itm) (hp : ((decide (Itm.bulk (Itm.of (Itv.mk a_kind a_n a_bytes a_text a_kids)) ≤ 1099511627776)) && decide ((Itm.bulk (Itm.of (Itv.mk a_kind a_n a_bytes a_text a_kids))) < n + 1)) = true) : ([.ag [.i .i64 a_kind, .u64 a_n, .sl .bs a_bytes, .s a_text, .sl .il a_kids], .ag [.i .i64 b_kind, .u64 b_n, .sl .bs b_bytes, .s b_text, .sl .il b_kids]] : List TV).length = ref28_Same.d.np ∧ ref28_Same.d.run (envL noGl (ref28_Same.env n)) [.ag [.i .i64 a_kind, .u64 a_n, .sl .bs a_bytes, .s a_text, .sl .il a_kids], .ag [.i .i64 b_kind, .u64 b_n, .sl .bs b_bytes, .s b_text, .sl .il b_kids]] = some (([(.b (Itm.same (Itm.of (Itv.mk a_kind a_n a_bytes a_text a_kids)) (Itm.of (Itv.mk b_kind b_n b_bytes b_text b_kids))))] : List TV) ++ ref28_Same.d.ps.toList.map fun q => ([.ag [.i .i64 a_kind, .u64 a_n, .sl .bs a_bytes, .s a_text, .sl .il a_kids], .ag [.i .i64 b_kind, .u64 b_n, .sl .bs b_bytes, .s b_text, .sl .il b_kids]] : List TV).getD q.1 .dead) :=
  ⟨by kernel_rfl, Eq.trans (b := ref28_Same.F n (Itv.mk a_kind a_n a_bytes a_text a_kids) (Itv.mk b_kind b_n b_bytes b_text b_kids)) (by kernel_rfl) (Eq.trans (ref28_Same.goal n (Itv.mk a_kind a_n a_bytes a_text a_kids) (Itv.mk b_kind b_n b_bytes b_text b_kids) hp) (by kernel_rfl))⟩
theorem rsame28.oks : ∀ n : Nat, (SpecOK Go.Proofs.Try.prog (fun n => (noGl n).av) 18 (Ctr.fs (ref28_Same.cn n, ref28_Same.sg))) := by
  intro n
  induction n with
  | zero => exact spec_zero (by
      intro ti to_ h
      unfold ref28_Same.cn at h
      split at h
      · obtain ⟨h, _⟩ := h; simp at h
      · exact h.elim)
  | succ n ih =>
    have ih0 := ih
    exact meets (l := ref28_Same.env n) (all_cons ih0 all_nil) (ref28_Same.chk n) (by
      intro ins outs h
      unfold ref28_Same.cn at h
      split at h
      · obtain ⟨hp, rfl⟩ := h; exact ref28_Same.fit n _ _ _ _ _ _ _ _ _ _ hp
      · exact h.elim)
theorem ref28_Same.ok : SpecOK Go.Proofs.Try.prog (fun n => (noGl n).av) 18 (Ctr.fs (ref28_Same.c, ref28_Same.sg)) := spec_sub fun ti to_ h => by
  unfold ref28_Same.c at h
  split at h
  · obtain ⟨hp, rfl⟩ := h; exact ⟨ref28_Same.cn (_ + 1), (rsame28.oks _), Bool.and_eq_true_iff.2 ⟨hp, decide_eq_true (Nat.lt_succ_self _)⟩, rfl⟩
  · exact h.elim
theorem book_Room.fit (left : Int) (sizes : List Int) (hp : (decide (left ≤ 10000 ∧ sizes.length ≤ 10) && sizes.all (fun s => decide (0 ≤ s))) = true) : ([.i .i64 left, .sl .is sizes] : List TV).length = book_Room.d.np ∧ book_Room.d.run (envL noGl book_Room.env) [.i .i64 left, .sl .is sizes] = some (([(.i .i64 (Book.room left sizes))] : List TV) ++ book_Room.d.ps.toList.map fun q => ([.i .i64 left, .sl .is sizes] : List TV).getD q.1 .dead) :=
  ⟨by kernel_rfl, Eq.trans (b := book_Room.F left sizes) (by kernel_rfl) (Eq.trans (book_Room.goal left sizes hp) (by kernel_rfl))⟩
theorem book_Room.ok : SpecOK Go.Proofs.Try.prog (fun n => (noGl n).av) 36 (Ctr.fs (book_Room.c, book_Room.sg)) :=
  meets (l := book_Room.env) all_nil book_Room.chk (by
      intro ins outs h
      unfold book_Room.c at h
      split at h
      · obtain ⟨hp, rfl⟩ := h; exact book_Room.fit _ _ hp
      · exact h.elim)
theorem book_item.fit (n : Nat) (left : Int) (it_kind : Int) (it_n : UInt64) (it_bytes : List UInt8) (it_text : Str) (it_kids : List Itm) (hp : ((decide (left ≤ 10000)) && decide ((Itm.bulk (Itm.of (Itv.mk it_kind it_n it_bytes it_text it_kids))) < n + 1)) = true) : ([.i .i64 left, .ag [.i .i64 it_kind, .u64 it_n, .sl .bs it_bytes, .s it_text, .sl .il it_kids]] : List TV).length = book_item.d.np ∧ book_item.d.run (envL noGl (book_item.env n)) [.i .i64 left, .ag [.i .i64 it_kind, .u64 it_n, .sl .bs it_bytes, .s it_text, .sl .il it_kids]] = some (([(.i .i64 (Itm.room left (Itm.of (Itv.mk it_kind it_n it_bytes it_text it_kids))))] : List TV) ++ book_item.d.ps.toList.map fun q => ([.i .i64 left, .ag [.i .i64 it_kind, .u64 it_n, .sl .bs it_bytes, .s it_text, .sl .il it_kids]] : List TV).getD q.1 .dead) :=
  ⟨by kernel_rfl, Eq.trans (b := book_item.F n left (Itv.mk it_kind it_n it_bytes it_text it_kids)) (by kernel_rfl) (Eq.trans (book_item.goal n left (Itv.mk it_kind it_n it_bytes it_text it_kids) hp) (by kernel_rfl))⟩
theorem bitem.oks : ∀ n : Nat, (SpecOK Go.Proofs.Try.prog (fun n => (noGl n).av) 21 (Ctr.fs (book_item.cn n, book_item.sg))) := by
  intro n
  induction n with
  | zero => exact spec_zero (by
      intro ti to_ h
      unfold book_item.cn at h
      split at h
      · obtain ⟨h, _⟩ := h; simp at h
      · exact h.elim)
  | succ n ih =>
    have ih0 := ih
    exact meets (l := book_item.env n) (all_cons ih0 (all_cons book_Room.ok all_nil)) (book_item.chk n) (by
      intro ins outs h
      unfold book_item.cn at h
      split at h
      · obtain ⟨hp, rfl⟩ := h; exact book_item.fit n _ _ _ _ _ _ hp
      · exact h.elim)
theorem book_item.ok : SpecOK Go.Proofs.Try.prog (fun n => (noGl n).av) 21 (Ctr.fs (book_item.c, book_item.sg)) := spec_sub fun ti to_ h => by
  unfold book_item.c at h
  split at h
  · obtain ⟨hp, rfl⟩ := h; exact ⟨book_item.cn (_ + 1), (bitem.oks _), Bool.and_eq_true_iff.2 ⟨hp, decide_eq_true (Nat.lt_succ_self _)⟩, rfl⟩
  · exact h.elim
theorem book_SmallItem.fit (it_kind : Int) (it_n : UInt64) (it_bytes : List UInt8) (it_text : Str) (it_kids : List Itm) : ([.ag [.i .i64 it_kind, .u64 it_n, .sl .bs it_bytes, .s it_text, .sl .il it_kids]] : List TV).length = book_SmallItem.d.np ∧ book_SmallItem.d.run (envL noGl book_SmallItem.env) [.ag [.i .i64 it_kind, .u64 it_n, .sl .bs it_bytes, .s it_text, .sl .il it_kids]] = some (([(.b (decide (0 ≤ Itm.room 1500 (Itm.of (Itv.mk it_kind it_n it_bytes it_text it_kids)))))] : List TV) ++ book_SmallItem.d.ps.toList.map fun q => ([.ag [.i .i64 it_kind, .u64 it_n, .sl .bs it_bytes, .s it_text, .sl .il it_kids]] : List TV).getD q.1 .dead) :=
  ⟨by kernel_rfl, Eq.trans (b := book_SmallItem.F (Itv.mk it_kind it_n it_bytes it_text it_kids)) (by kernel_rfl) (Eq.trans (book_SmallItem.goal (Itv.mk it_kind it_n it_bytes it_text it_kids)) (by kernel_rfl))⟩
theorem book_SmallItem.ok : SpecOK Go.Proofs.Try.prog (fun n => (noGl n).av) 10 (Ctr.fs (book_SmallItem.c, book_SmallItem.sg)) :=
  meets (l := book_SmallItem.env) (all_cons book_item.ok all_nil) book_SmallItem.chk (by
      intro ins outs h
      unfold book_SmallItem.c at h
      split at h
      · cases h; exact book_SmallItem.fit _ _ _ _ _
      · exact h.elim)
theorem book_Place.fit (k : Int) (n : Int) (hp : (decide (1 ≤ n ∧ n ≤ 1099511627776)) = true) : ([.i .i64 k, .i .i64 n] : List TV).length = book_Place.d.np ∧ book_Place.d.run (envL noGl book_Place.env) [.i .i64 k, .i .i64 n] = some (([(.i .i64 ((k % n)))] : List TV) ++ book_Place.d.ps.toList.map fun q => ([.i .i64 k, .i .i64 n] : List TV).getD q.1 .dead) :=
  ⟨by kernel_rfl, Eq.trans (b := book_Place.F k n) (by kernel_rfl) (Eq.trans (book_Place.goal k n hp) (by kernel_rfl))⟩
theorem book_Place.ok : SpecOK Go.Proofs.Try.prog (fun n => (noGl n).av) 20 (Ctr.fs (book_Place.c, book_Place.sg)) :=
  meets (l := book_Place.env) all_nil book_Place.chk (by
      intro ins outs h
      unfold book_Place.c at h
      split at h
      · obtain ⟨hp, rfl⟩ := h; exact book_Place.fit _ _ hp
      · exact h.elim)
theorem law29_nest.fit (n : Nat) (it_kind : Int) (it_n : UInt64) (it_bytes : List UInt8) (it_text : Str) (it_kids : List Itm) (hp : ((decide (Itm.bulk (Itm.of (Itv.mk it_kind it_n it_bytes it_text it_kids)) ≤ 1099511627776)) && decide ((Itm.bulk (Itm.of (Itv.mk it_kind it_n it_bytes it_text it_kids))) < n + 1)) = true) : ([.ag [.i .i64 it_kind, .u64 it_n, .sl .bs it_bytes, .s it_text, .sl .il it_kids]] : List TV).length = law29_nest.d.np ∧ law29_nest.d.run (envL noGl (law29_nest.env n)) [.ag [.i .i64 it_kind, .u64 it_n, .sl .bs it_bytes, .s it_text, .sl .il it_kids]] = some (([(.i .i64 ((Itm.nest (Itm.of (Itv.mk it_kind it_n it_bytes it_text it_kids)) : Int)))] : List TV) ++ law29_nest.d.ps.toList.map fun q => ([.ag [.i .i64 it_kind, .u64 it_n, .sl .bs it_bytes, .s it_text, .sl .il it_kids]] : List TV).getD q.1 .dead) :=
  ⟨by kernel_rfl, Eq.trans (b := law29_nest.F n (Itv.mk it_kind it_n it_bytes it_text it_kids)) (by kernel_rfl) (Eq.trans (law29_nest.goal n (Itv.mk it_kind it_n it_bytes it_text it_kids) hp) (by kernel_rfl))⟩
theorem lnest.oks : ∀ n : Nat, (SpecOK Go.Proofs.Try.prog (fun n => (noGl n).av) 19 (Ctr.fs (law29_nest.cn n, law29_nest.sg))) := by
  intro n
  induction n with
  | zero => exact spec_zero (by
      intro ti to_ h
      unfold law29_nest.cn at h
      split at h
      · obtain ⟨h, _⟩ := h; simp at h
      · exact h.elim)
  | succ n ih =>
    have ih0 := ih
    exact meets (l := law29_nest.env n) (all_cons ih0 all_nil) (law29_nest.chk n) (by
      intro ins outs h
      unfold law29_nest.cn at h
      split at h
      · obtain ⟨hp, rfl⟩ := h; exact law29_nest.fit n _ _ _ _ _ hp
      · exact h.elim)
theorem law29_nest.ok : SpecOK Go.Proofs.Try.prog (fun n => (noGl n).av) 19 (Ctr.fs (law29_nest.c, law29_nest.sg)) := spec_sub fun ti to_ h => by
  unfold law29_nest.c at h
  split at h
  · obtain ⟨hp, rfl⟩ := h; exact ⟨law29_nest.cn (_ + 1), (lnest.oks _), Bool.and_eq_true_iff.2 ⟨hp, decide_eq_true (Nat.lt_succ_self _)⟩, rfl⟩
  · exact h.elim
theorem law29_awake.fit : ([] : List TV).length = law29_awake.d.np ∧ law29_awake.d.run (envL noGl law29_awake.env) [] = some (([(.b (true))] : List TV) ++ law29_awake.d.ps.toList.map fun q => ([] : List TV).getD q.1 .dead) :=
  ⟨by kernel_rfl, Eq.trans (b := law29_awake.F ) (by kernel_rfl) (Eq.trans (law29_awake.goal ) (by kernel_rfl))⟩
theorem law29_awake.ok : SpecOK Go.Proofs.Try.prog (fun n => (noGl n).av) 9 (Ctr.fs (law29_awake.c, law29_awake.sg)) :=
  meets (l := law29_awake.env) (all_cons mp_Encode.ok (all_cons mp_Decode.ok all_nil)) law29_awake.chk (by
      intro ins outs h
      unfold law29_awake.c at h
      split at h
      · cases h; exact law29_awake.fit
      · exact h.elim)
end Go.Eng
namespace Go.Eng
noncomputable section
def MpackReads.sg : FSig := {}
def MpackReads.c : Ctr := fun l => match l with
  | [.sl .bs b, .i .i64 depth] => .ok [(.b (true))]
  | _ => .err
end
noncomputable section
def MpackReads.env : List (Nat × (Ctr × FSig)) := [(9, (law29_awake.c, law29_awake.sg)), (15, (mp_Decode.c, mp_Decode.sg)), (16, (ref29_Decode.c, ref29_Decode.sg)), (17, (ref5_Same.c, ref5_Same.sg)), (18, (ref28_Same.c, ref28_Same.sg))]
def MpackReads.E : TEnv := envL noGl MpackReads.env
def MpackReads.m : TM := .seq (.reg [
    ⟨.k .mv, [.c (.b false)], [4], none⟩]) none (.seq (.seq (.reg [
    ⟨.k (.call 9 (.plain 0 1)), [], [9], none⟩,
    ⟨.k (.un .not), [.s 9], [10], none⟩]) none (.cond (.s 10) [] (.seq (.reg [
    ⟨.k .mv, [.c (.b false)], [4], none⟩]) none .ret) .skip)) none (.seq (.seq (.reg [
    ⟨.k .mv, [.s 0], [11], none⟩,
    ⟨.k .len, [.s 11], [12], none⟩,
    ⟨.k (.bin .gtr), [.s 12, .c (.i .i64 (2000 : Int))], [13], none⟩]) none (.cond (.s 13) [] (.seq (.reg [
    ⟨.k .mv, [.c (.b true)], [4], none⟩]) none .ret) .skip)) none (.seq (.reg [
    ⟨.k .mv, [.s 0], [15], none⟩,
    ⟨.k .mv, [.s 1], [16], none⟩,
    ⟨.k (.call 15 (.plain 2 2)), [.s 15, .s 16], [17], none⟩,
    ⟨.k .mv, [.s 17], [14], none⟩,
    ⟨.k (.ex 0), [.s 14], [18], none⟩,
    ⟨.k (.ex 1), [.s 14], [19], none⟩,
    ⟨.al 1034 [(.i .i64 (0 : Int)), (.u64 (0 : UInt64)), (.sl .bs ([] : List UInt8)), (.s ([] : Str)), (.sl .il ([] : List Itm))] [], [.s 1034], [5, 1034], none⟩,
    ⟨.al 1035 [(.i .i64 (0 : Int)), (.i .i64 (0 : Int)), (.sl .is ([] : List Int))] [], [.s 1035], [6, 1035], none⟩,
    ⟨.k (.st 1034 0 5), [.s 5, .s 1034, .s 18], [1034], none⟩,
    ⟨.k (.st 1035 0 3), [.s 6, .s 1035, .s 19], [1035], none⟩]) none (.seq (.reg [
    ⟨.k .mv, [.s 0], [21], none⟩,
    ⟨.k .mv, [.s 1], [22], none⟩,
    ⟨.k (.call 16 (.plain 2 2)), [.s 21, .s 22], [23], none⟩,
    ⟨.k .mv, [.s 23], [20], none⟩,
    ⟨.k (.ex 0), [.s 20], [24], none⟩,
    ⟨.k (.ex 1), [.s 20], [25], none⟩,
    ⟨.al 1036 [(.i .i64 (0 : Int)), (.u64 (0 : UInt64)), (.sl .bs ([] : List UInt8)), (.s ([] : Str)), (.sl .il ([] : List Itm))] [], [.s 1036], [7, 1036], none⟩,
    ⟨.al 1037 [(.i .i64 (0 : Int)), (.i .i64 (0 : Int)), (.sl .is ([] : List Int))] [], [.s 1037], [8, 1037], none⟩,
    ⟨.k (.st 1036 0 5), [.s 7, .s 1036, .s 24], [1036], none⟩,
    ⟨.k (.st 1037 0 3), [.s 8, .s 1037, .s 25], [1037], none⟩]) none (.seq (.reg [
    ⟨.k (.ld 1035 0 3 true), [.s 6, .s 1035], [26], none⟩,
    ⟨.k (.ld 1037 0 3 true), [.s 8, .s 1037], [27], none⟩,
    ⟨.k (.call 17 (.plain 2 1)), [.s 26, .s 27], [28], none⟩,
    ⟨.k .mv, [.s 28], [29], none⟩,
    ⟨.k (.ld 1034 0 5 true), [.s 5, .s 1034], [30], some (29, true)⟩,
    ⟨.k (.ld 1036 0 5 true), [.s 7, .s 1036], [31], some (29, true)⟩,
    ⟨.k (.call 18 (.plain 2 1)), [.s 30, .s 31], [32], some (29, true)⟩,
    ⟨.k .pick, [.s 29, .s 32, .c (.b false)], [33], none⟩,
    ⟨.k .mv, [.s 33], [4], none⟩]) none .ret)))))
def MpackReads.d : TFD := { np := 2, m := MpackReads.m, ref := none, tips := [], res := [.t 4], own := [], new := none, tnew := [] }
noncomputable def MpackReads.F (b : List UInt8) (depth : Int) : Option (List TV) := MpackReads.d.run MpackReads.E [(.sl .bs b), (.i .i64 depth)]
theorem MpackReads.F_in (b : List UInt8) (depth : Int) {ρ : Option (List TV)} (K : ∀ (v1 : Bool) (h1 : v1 = (decide ((((Mp.dec b depth).2)).err = (((Mp.dec b depth).2)).err ∧ (((Mp.dec b depth).2)).at_ = (((Mp.dec b depth).2)).at_ ∧ (((Mp.dec b depth).2)).path = (((Mp.dec b depth).2)).path))) (v2 : Bool) (h2 : v2 = (Itm.same (Itm.of (Itm.val ((Mp.dec b depth).1))) (Itm.of (Itm.val ((Mp.dec b depth).1))))), cond (!(true))
    (some [(.b false)])
    (cond (decide ((2000 : Int) < ((b).length : Int)))
    (some [(.b true)])
    (ck (decide ((b).length ≤ 1099511627776)) (ck (decide ((b).length ≤ 1099511627776)) (ck (decide ((((Mp.dec b depth).2)).path.length ≤ 1099511627776)) (ck (!v1 || ((v1 && v1) && (decide (Itm.bulk (Itm.of (Itm.val ((Mp.dec b depth).1))) ≤ 1099511627776)))) (ck (!v1 || v1) (some [(.b (cond v1 v2 false))]))))))) = ρ) : MpackReads.F b depth = ρ := Eq.trans (by kernel_rfl) (K _ rfl _ rfl)
theorem MpackReads.chk : ((Go.Proofs.Try.prog.funcs[4]?).any fun fn => chkF Go.Proofs.Try.prog (fun k => ((envL noGl MpackReads.env).fs k).2) fn MpackReads.d.erase) = true := by kernel_rfl
end
end Go.Eng
namespace Go.Eng
open Go.IntWalk
theorem MpackReads.goal (b : Str) (depth : Int) : MpackReads.F b depth = some [.b true] := by
  refine MpackReads.F_in _ _ ?_
  intro v1 e1 v2 e2
  rw [Bool.not_true, cond_false]
  by_cases a : (2000 : Int) < b.length
  · rw [decide_eq_true a]; rfl
  have hb := Mp.dec_bulk b depth
  rw [Itm.of_val, Itm.same_refl] at e2
  have e1' : v1 = true := by rw [e1]; exact decide_eq_true ⟨rfl, rfl, rfl⟩
  rw [decide_eq_false a, cond_false, ck_of (decide_eq_true (by omega)), ck_of (decide_eq_true (by omega)), ck_of (decide_eq_true (by rw [Mp.dec_path]; decide)), Itm.of_val, e1', e2, ck_of (by rw [decide_eq_true (by omega)]; rfl)]
  rfl
end Go.Eng
namespace Go.Eng
theorem MpackReads.fit (b : List UInt8) (depth : Int) : ([.sl .bs b, .i .i64 depth] : List TV).length = MpackReads.d.np ∧ MpackReads.d.run (envL noGl MpackReads.env) [.sl .bs b, .i .i64 depth] = some (([(.b (true))] : List TV) ++ MpackReads.d.ps.toList.map fun q => ([.sl .bs b, .i .i64 depth] : List TV).getD q.1 .dead) :=
  ⟨by kernel_rfl, Eq.trans (b := MpackReads.F b depth) (by kernel_rfl) (Eq.trans (MpackReads.goal b depth) (by kernel_rfl))⟩
theorem MpackReads.ok : SpecOK Go.Proofs.Try.prog (fun n => (noGl n).av) 4 (Ctr.fs (MpackReads.c, MpackReads.sg)) :=
  meets (l := MpackReads.env) (all_cons law29_awake.ok (all_cons mp_Decode.ok (all_cons ref29_Decode.ok (all_cons ref5_Same.ok (all_cons ref28_Same.ok all_nil))))) MpackReads.chk (by
      intro ins outs h
      unfold MpackReads.c at h
      split at h
      · cases h; exact MpackReads.fit _ _
      · exact h.elim)
end Go.Eng
