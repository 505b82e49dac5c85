/- What the hexa functions give: plain proofs over their equations. -/
import Derived.Test.YtenbejbhjgkibaaHexaG
import Derived.IntWalk
set_option linter.unusedVariables false
set_option linter.unusedSimpArgs false
namespace Go.Eng
open Go.IntWalk

theorem u8_le {a b : UInt8} : a ≤ b ↔ a.toNat ≤ b.toNat := UInt8.le_iff_toNat_le
theorem u8_lt {a b : UInt8} : a < b ↔ a.toNat < b.toNat := UInt8.lt_iff_toNat_lt

theorem digit_of (c : UInt8) : (cond (cond (decide ((48 : UInt8) ≤ c)) (decide (c ≤ (57 : UInt8))) false)
    (some [TV.i .i64 (IntKind.i64.wrap (((c - (48 : UInt8))).toNat : Int))])
    (cond (cond (decide ((97 : UInt8) ≤ c)) (decide (c ≤ (102 : UInt8))) false)
    (some [(.i .i64 (IntKind.i64.wrap ((IntKind.i64.wrap (((c - (97 : UInt8))).toNat : Int)) + (10 : Int))))])
    (cond (cond (decide ((65 : UInt8) ≤ c)) (decide (c ≤ (70 : UInt8))) false)
    (some [(.i .i64 (IntKind.i64.wrap ((IntKind.i64.wrap (((c - (65 : UInt8))).toNat : Int)) + (10 : Int))))])
    (some [(.i .i64 (-1 : Int))])))) = some [.i .i64 (Hexa.digit c)] := by
  have hb := c.toNat_lt
  have e : ∀ k : UInt8, k ≤ c → (c - k).toNat = c.toNat - k.toNat := fun k hk => UInt8.toNat_sub_of_le _ _ hk
  unfold Hexa.digit
  by_cases h1 : 48 ≤ c.toNat ∧ c.toNat ≤ 57
  · have h2 : (48 : UInt8) ≤ c := u8_le.2 h1.1
    have h3 : c ≤ (57 : UInt8) := u8_le.2 h1.2
    rw [if_pos h1]
    simp only [h2, h3, decide_true, cond_true, e _ h2]
    rw [i64_in _ (by simp; omega)]
    simp; omega
  · have g1 : (cond (decide ((48 : UInt8) ≤ c)) (decide (c ≤ (57 : UInt8))) false) = false := by
      simp only [u8_le]
      simp; omega
    rw [if_neg h1, g1]
    simp only [cond_false]
    by_cases h4 : 97 ≤ c.toNat ∧ c.toNat ≤ 102
    · have h2 : (97 : UInt8) ≤ c := u8_le.2 h4.1
      have h3 : c ≤ (102 : UInt8) := u8_le.2 h4.2
      rw [if_pos h4]
      simp only [h2, h3, decide_true, cond_true, e _ h2]
      rw [i64_in (((c.toNat - (97 : UInt8).toNat : Nat)) : Int) (by simp; omega), i64_in _ (by simp; omega)]
      simp; omega
    · have g2 : (cond (decide ((97 : UInt8) ≤ c)) (decide (c ≤ (102 : UInt8))) false) = false := by
        simp only [u8_le]
        simp; omega
      rw [if_neg h4, g2]
      simp only [cond_false]
      by_cases h5 : 65 ≤ c.toNat ∧ c.toNat ≤ 70
      · have h2 : (65 : UInt8) ≤ c := u8_le.2 h5.1
        have h3 : c ≤ (70 : UInt8) := u8_le.2 h5.2
        rw [if_pos h5]
        simp only [h2, h3, decide_true, cond_true, e _ h2]
        rw [i64_in (((c.toNat - (65 : UInt8).toNat : Nat)) : Int) (by simp; omega), i64_in _ (by simp; omega)]
        simp; omega
      · have g3 : (cond (decide ((65 : UInt8) ≤ c)) (decide (c ≤ (70 : UInt8))) false) = false := by
          simp only [u8_le]
          simp; omega
        rw [if_neg h5, g3]
        rfl

theorem hexa_digit.goal (c : UInt8) : hexa_digit.F c = some [.i .i64 (Hexa.digit c)] := by
  rw [hexa_digit.F_eq]
  simp only [Bool.not_or_self, ck_true]
  exact digit_of c
theorem ref3_digit.goal (c : UInt8) : ref3_digit.F c = some [.i .i64 (Hexa.digit c)] := by
  rw [ref3_digit.F_eq]
  simp only [Bool.not_or_self, ck_true]
  exact digit_of c

/-! ## Rows that are gone through -/
theorem at_mid {A : Type} (pre : List A) (x : A) (r : List A) (d : A) : List.getD (pre ++ x :: r) ((pre.length : Int)).toNat d = x := by
  simp [List.getD_eq_getElem?_getD]
theorem at_midN {A : Type} (pre : List A) (x : A) (r : List A) (d : A) : List.getD (pre ++ x :: r) pre.length d = x := by
  simp [List.getD_eq_getElem?_getD]
theorem at_mid1 {A : Type} (pre : List A) (x y : A) (r : List A) (d : A) : List.getD (pre ++ x :: y :: r) ((pre.length : Int) + 1).toNat d = y := by
  have : ((pre.length : Int) + 1).toNat = pre.length + 1 := by omega
  rw [this]
  simp [List.getD_eq_getElem?_getD]
theorem idx_mid {A : Type} (pre : List A) (x : A) (r : List A) : idxOK (pre.length : Int) (pre ++ x :: r).length = true := by simp [idxOK]; omega
theorem idx_mid1 {A : Type} (pre : List A) (x y : A) (r : List A) : idxOK ((pre.length : Int) + 1) (pre ++ x :: y :: r).length = true := by simp [idxOK]; omega
theorem ap_small {n b : Nat} (h : n * b ≤ 140737488355328) (h2 : n ≤ 9223372036854775807) : apOK n b = true := by
  rw [apOK_iff]; exact ⟨by unfold maxLen; omega, h⟩

theorem shr4 (x : UInt8) : ((shr8 x ((4 : UInt64)).toNat).toNat : Int).toNat = x.toNat / 16 := by
  have := x.toNat_lt
  simp [shr8, UInt8.toNat_ofNat']; omega
theorem and15 (x : UInt8) : (((x &&& (15 : UInt8))).toNat : Int).toNat = x.toNat % 16 := by
  have : x.toNat &&& 15 = x.toNat % 16 := Nat.and_two_pow_sub_one_eq_mod x.toNat 4
  simp [UInt8.toNat_and, this]
  omega
theorem sign_idx (n : Nat) (h : n < 16) : idxOK (n : Int) (([48, 49, 50, 51, 52, 53, 54, 55, 56, 57, 97, 98, 99, 100, 101, 102] : Str)).length = true := by simp [idxOK]; omega

theorem hexa_Text.l1_ok : ∀ (r pre acc : Str), (pre ++ r).length ≤ 1099511627776 → acc.length = 2 * pre.length →
    hexa_Text.l1 acc (pre ++ r) ((pre ++ r).length : Int) (pre.length : Int) = some [.s (acc ++ Hexa.text r)]
  | [], pre, acc, h1, h2 => by
    rw [hexa_Text.l1_eq]
    simp [Hexa.text]
  | x :: r, pre, acc, h1, h2 => by
    have hx := x.toNat_lt
    have hl : pre.length + (r.length + 1) ≤ 1099511627776 := by simpa using h1
    have e1 : ((shr8 x ((4 : UInt64)).toNat).toNat : Int) = ((x.toNat / 16 : Nat) : Int) := by have := shr4 x; omega
    have e2 : (((x &&& (15 : UInt8))).toNat : Int) = ((x.toNat % 16 : Nat) : Int) := by have := and15 x; omega
    have ew : IntKind.i64.wrap ((pre.length : Int) + 1) = ((pre ++ [x]).length : Int) := by rw [i64_in _ (by omega)]; simp
    rw [hexa_Text.l1_eq]
    have hc : decide ((pre.length : Int) < ((pre ++ x :: r).length : Int)) = true := by simp; omega
    rw [hc]
    simp only [cond_true, at_mid, at_midN, idx_mid, ck_true, e1, e2, sign_idx _ (show x.toNat / 16 < 16 by omega), sign_idx _ (show x.toNat % 16 < 16 by omega), Int.toNat_natCast, ew]
    rw [ap_small (by simp; omega) (by simp; omega), ck_true]
    have ih := hexa_Text.l1_ok r (pre ++ [x]) (acc ++ Hexa.two x) (by simpa using h1) (by simp [Hexa.two, h2]; omega)
    rw [show pre ++ [x] ++ r = pre ++ x :: r by simp] at ih
    rw [show Hexa.text (x :: r) = Hexa.two x ++ Hexa.text r from rfl, ← List.append_assoc]
    exact ih

theorem hexa_Text.goal (b : Str) (hp : decide (b.length ≤ 1099511627776) = true) : hexa_Text.F b = some [.s (Hexa.text b)] := by
  have hp : b.length ≤ 1099511627776 := by simpa using hp
  rw [hexa_Text.F_eq]
  have e : mkOK (0 : Int) (IntKind.i64.wrap ((2 : Int) * ((b).length : Int))) 1 = true := by
    rw [i64_in _ (by omega), mkOK_iff]; unfold maxLen; omega
  rw [e, ck_true]
  exact hexa_Text.l1_ok b [] [] (by simpa using hp) rfl

theorem ref3_Hex.l1_ok : ∀ (r pre acc : Str), (pre ++ r).length ≤ 1099511627776 → acc.length = 2 * pre.length →
    ref3_Hex.l1 (pre ++ r) acc (pre.length : Int) = some [.s (acc ++ Hexa.text r)]
  | [], pre, acc, h1, h2 => by
    rw [ref3_Hex.l1_eq]
    simp [Hexa.text]
  | x :: r, pre, acc, h1, h2 => by
    have hx := x.toNat_lt
    have hl : pre.length + (r.length + 1) ≤ 1099511627776 := by simpa using h1
    have e1 : (((x / (16 : UInt8))).toNat : Int) = ((x.toNat / 16 : Nat) : Int) := by simp [UInt8.toNat_div]
    have e2 : (((x % (16 : UInt8))).toNat : Int) = ((x.toNat % 16 : Nat) : Int) := by simp [UInt8.toNat_mod]
    have e3 : (!decide ((16 : UInt8) = 0)) = true := by decide
    have ew : IntKind.i64.wrap ((pre.length : Int) + 1) = ((pre ++ [x]).length : Int) := by rw [i64_in _ (by omega)]; simp
    rw [ref3_Hex.l1_eq]
    have hc : decide ((pre.length : Int) < ((pre ++ x :: r).length : Int)) = true := by simp; omega
    rw [hc]
    simp only [cond_true, at_mid, at_midN, idx_mid, ck_true, e1, e2, e3, sign_idx _ (show x.toNat / 16 < 16 by omega), sign_idx _ (show x.toNat % 16 < 16 by omega), Int.toNat_natCast, ew]
    rw [ap_small (by simp; omega) (by simp; omega), ck_true]
    have ih := ref3_Hex.l1_ok r (pre ++ [x]) (acc ++ Hexa.two x) (by simpa using h1) (by simp [Hexa.two, h2]; omega)
    rw [show pre ++ [x] ++ r = pre ++ x :: r by simp] at ih
    rw [show Hexa.text (x :: r) = Hexa.two x ++ Hexa.text r from rfl, ← List.append_assoc]
    exact ih

theorem ref3_Hex.goal (b : Str) (hp : decide (b.length ≤ 1099511627776) = true) : ref3_Hex.F b = some [.s (Hexa.text b)] := by
  have hp : b.length ≤ 1099511627776 := by simpa using hp
  rw [ref3_Hex.F_eq]
  exact ref3_Hex.l1_ok b [] [] (by simpa using hp) rfl

theorem u8_ofInt_nat (n : Nat) : UInt8.ofInt (n : Int) = UInt8.ofNat n := by
  apply UInt8.toNat_inj.1
  have := u8_ofInt (n : Int)
  rw [wrap_u8'] at this
  rw [UInt8.toNat_ofNat']
  omega
theorem digit_range (c : UInt8) : -1 ≤ Hexa.digit c ∧ Hexa.digit c ≤ 15 := by
  unfold Hexa.digit; split <;> (try split) <;> (try split) <;> omega

theorem or4 (a b : Nat) (ha : a < 16) (hb : b < 16) : intBitsV .or .i64 (a * 16 : Nat) b = ((a * 16 + b : Nat) : Int) := by
  have key : ∀ a < 16, ∀ b < 16, intBitsV .or .i64 ((a * 16 : Nat) : Int) (b : Nat) = ((a * 16 + b : Nat) : Int) := by decide
  exact key a ha b hb

theorem even_mid {pre r : Str} (hp : pre.length % 2 = 0) : (decide ((pre.length : Int) < ((pre ++ r).length : Int))) = !r.isEmpty := by
  cases r <;> simp
  omega

theorem hexa_Bytes.l1_ok : ∀ (r : Str) (pre acc : Str), (pre ++ r).length ≤ 1099511627776 → acc.length ≤ pre.length → r.length % 2 = 0 →
    hexa_Bytes.l1 (pre ++ r) acc (pre.length : Int) = some [.sl .bs (((Hexa.bytes r).map (acc ++ ·)).getD []), .b (Hexa.bytes r).isSome]
  | [], pre, acc, h1, h2, h3 => by
    rw [hexa_Bytes.l1_eq]
    simp [Hexa.bytes]
  | [x], pre, acc, h1, h2, h3 => by simp at h3
  | x :: y :: r, pre, acc, h1, h2, h3 => by
    have hl : pre.length + (r.length + 2) ≤ 1099511627776 := by simpa using h1
    have w1 : IntKind.i64.wrap ((pre.length : Int) + 1) = (pre.length : Int) + 1 := i64_in _ (by omega)
    have w2 : IntKind.i64.wrap ((pre.length : Int) + 2) = ((pre ++ [x, y]).length : Int) := by rw [i64_in _ (by omega)]; simp
    have hx := digit_range x
    have hy := digit_range y
    rw [hexa_Bytes.l1_eq]
    have hc : decide ((pre.length : Int) < ((pre ++ x :: y :: r).length : Int)) = true := by simp; omega
    rw [hc]
    simp only [cond_true, at_mid, at_mid1, idx_mid, idx_mid1, ck_true, w1, w2, Bool.not_or_self, Bool.or_not_self]
    by_cases hd : Hexa.digit x < 0 ∨ Hexa.digit y < 0
    · have : (cond (decide (Hexa.digit x < 0)) true (decide (Hexa.digit y < 0))) = true := by
        rcases hd with h | h
        · simp [h]
        · simp [h]
      rw [this]
      simp [Hexa.bytes, hd]
    · have hd1 : ¬ Hexa.digit x < 0 := fun h => hd (.inl h)
      have hd2 : ¬ Hexa.digit y < 0 := fun h => hd (.inr h)
      obtain ⟨a, ha⟩ := Int.eq_ofNat_of_zero_le (show 0 ≤ Hexa.digit x by omega)
      obtain ⟨b, hb⟩ := Int.eq_ofNat_of_zero_le (show 0 ≤ Hexa.digit y by omega)
      have ev : (UInt8.ofInt (intBitsV .or .i64 (IntKind.i64.wrap (Hexa.digit x * 2 ^ (min (((4 : UInt64)).toNat) (IntKind.i64.bits)))) (Hexa.digit y))) = UInt8.ofNat ((Hexa.digit x).toNat * 16 + (Hexa.digit y).toNat) := by
        have e4 : min (((4 : UInt64)).toNat) (IntKind.i64.bits) = 4 := rfl
        rw [e4, ha, hb, i64_in _ (by omega), show ((a : Int) * 2 ^ 4) = ((a * 16 : Nat) : Int) by omega, or4 a b (by omega) (by omega), u8_ofInt_nat]
        rfl
      simp only [ev, hd1, hd2, decide_false, cond_false]
      rw [ap_small (by simp; omega) (by simp; omega), ck_true]
      have ih := hexa_Bytes.l1_ok r (pre ++ [x, y]) (acc ++ [UInt8.ofNat ((Hexa.digit x).toNat * 16 + (Hexa.digit y).toNat)]) (by simpa using h1) (by simp; omega) (by simp at h3; omega)
      rw [show pre ++ [x, y] ++ r = pre ++ x :: y :: r by simp] at ih
      rw [ih]
      simp only [Hexa.bytes, hd, if_false]
      cases Hexa.bytes r <;> simp

theorem bytes_odd : ∀ s : Str, s.length % 2 = 1 → Hexa.bytes s = none
  | [], h => by simp at h
  | [_], _ => rfl
  | x :: y :: r, h => by
    have := bytes_odd r (by simp at h; omega)
    simp [Hexa.bytes, this]

theorem tmod2 (s : Str) : Int.tmod (s.length : Int) 2 = ((s.length % 2 : Nat) : Int) := by rw [Int.tmod_eq_emod_of_nonneg (by omega)]; omega
theorem hexa_Bytes.goal (s : Str) (hp : decide (s.length ≤ 1099511627776) = true) : hexa_Bytes.F s = some [.sl .bs ((Hexa.bytes s).getD []), .b (Hexa.bytes s).isSome] := by
  have hp : s.length ≤ 1099511627776 := by simpa using hp
  rw [hexa_Bytes.F_eq]
  have e0 : (!decide ((2 : Int) = 0)) = true := by decide
  simp only [e0, ck_true, tmod2]
  by_cases h : s.length % 2 = 0
  · have e : mkOK (0 : Int) (IntKind.i64.wrap (Int.tdiv ((s).length : Int) (2 : Int))) 1 = true := by
      rw [i64_quo _ _ (by omega), mkOK_iff]; unfold maxLen; omega
    rw [e, h]
    have := hexa_Bytes.l1_ok s [] [] (by simpa using hp) (Nat.le_refl _) h
    simp at this ⊢
    rw [ck_true]
    exact this
  · have h1 : s.length % 2 = 1 := by omega
    rw [h1, bytes_odd s h1]
    simp

theorem ref3_Unhex.l1_ok : ∀ (r : Str) (pre acc : Str), (pre ++ r).length ≤ 1099511627776 → acc.length ≤ pre.length → r.length % 2 = 0 →
    ref3_Unhex.l1 (pre ++ r) acc (pre.length : Int) = some [.sl .bs (((Hexa.bytes r).map (acc ++ ·)).getD []), .b (Hexa.bytes r).isSome]
  | [], pre, acc, h1, h2, h3 => by
    rw [ref3_Unhex.l1_eq]
    simp [Hexa.bytes]
  | [x], pre, acc, h1, h2, h3 => by simp at h3
  | x :: y :: r, pre, acc, h1, h2, h3 => by
    have hl : pre.length + (r.length + 2) ≤ 1099511627776 := by simpa using h1
    have w1 : IntKind.i64.wrap ((pre.length : Int) + 1) = (pre.length : Int) + 1 := i64_in _ (by omega)
    have w2 : IntKind.i64.wrap ((pre.length : Int) + 2) = ((pre ++ [x, y]).length : Int) := by rw [i64_in _ (by omega)]; simp
    have hx := digit_range x
    have hy := digit_range y
    rw [ref3_Unhex.l1_eq]
    have hc : decide ((pre.length : Int) < ((pre ++ x :: y :: r).length : Int)) = true := by simp; omega
    rw [hc]
    simp only [cond_true, at_mid, at_mid1, idx_mid, idx_mid1, ck_true, w1, w2, Bool.not_or_self, Bool.or_not_self]
    by_cases hd : Hexa.digit x < 0 ∨ Hexa.digit y < 0
    · have : (cond (decide (Hexa.digit x < 0)) true (decide (Hexa.digit y < 0))) = true := by
        rcases hd with h | h
        · simp [h]
        · simp [h]
      rw [this]
      simp [Hexa.bytes, hd]
    · have hd1 : ¬ Hexa.digit x < 0 := fun h => hd (.inl h)
      have hd2 : ¬ Hexa.digit y < 0 := fun h => hd (.inr h)
      obtain ⟨a, ha⟩ := Int.eq_ofNat_of_zero_le (show 0 ≤ Hexa.digit x by omega)
      obtain ⟨b, hb⟩ := Int.eq_ofNat_of_zero_le (show 0 ≤ Hexa.digit y by omega)
      have ev : (UInt8.ofInt (IntKind.i64.wrap (IntKind.i64.wrap (Hexa.digit x * (16 : Int)) + Hexa.digit y))) = UInt8.ofNat ((Hexa.digit x).toNat * 16 + (Hexa.digit y).toNat) := by
        rw [ha, hb, i64_in ((a : Int) * 16) (by omega), i64_in _ (by omega), show ((a : Int) * 16 + b) = ((a * 16 + b : Nat) : Int) by omega, u8_ofInt_nat]
        rfl
      simp only [ev, hd1, hd2, decide_false, cond_false]
      rw [ap_small (by simp; omega) (by simp; omega), ck_true]
      have ih := ref3_Unhex.l1_ok r (pre ++ [x, y]) (acc ++ [UInt8.ofNat ((Hexa.digit x).toNat * 16 + (Hexa.digit y).toNat)]) (by simpa using h1) (by simp; omega) (by simp at h3; omega)
      rw [show pre ++ [x, y] ++ r = pre ++ x :: y :: r by simp] at ih
      rw [ih]
      simp only [Hexa.bytes, hd, if_false]
      cases Hexa.bytes r <;> simp


theorem ref3_Unhex.goal (s : Str) (hp : decide (s.length ≤ 1099511627776) = true) : ref3_Unhex.F s = some [.sl .bs ((Hexa.bytes s).getD []), .b (Hexa.bytes s).isSome] := by
  have hp : s.length ≤ 1099511627776 := by simpa using hp
  rw [ref3_Unhex.F_eq]
  have e0 : (!decide ((2 : Int) = 0)) = true := by decide
  simp only [e0, ck_true, tmod2]
  by_cases h : s.length % 2 = 0
  · rw [h]
    have := ref3_Unhex.l1_ok s [] [] (by simpa using hp) (Nat.le_refl _) h
    simp at this ⊢
    exact this
  · have h1 : s.length % 2 = 1 := by omega
    rw [h1, bytes_odd s h1]
    simp

theorem law3_awake.goal : law3_awake.F = some [.b true] := by
  rw [law3_awake.F_eq]
  kernel_rfl

theorem small_of {A : Type} {s : List A} {n : Nat} (h : s.length ≤ n) (hn : n ≤ 1099511627776) : decide (s.length ≤ 1099511627776) = true := by simp; omega
theorem text_append (a b : Str) : Hexa.text (a ++ b) = Hexa.text a ++ Hexa.text b := by
  induction a with
  | nil => rfl
  | cons x a ih => simp [Hexa.text, ih]
theorem text_length (a : Str) : (Hexa.text a).length = 2 * a.length := by
  induction a with
  | nil => rfl
  | cons x a ih => simp [Hexa.text, Hexa.two, ih]; omega

theorem HexaTells.goal (b : List UInt8) (s : Str) : HexaTells.F b s = some [.b true] := by
  rw [HexaTells.F_eq]
  simp only [Bool.not_true, cond_false, Bool.not_or_self, Bool.or_not_self, ck_true, Bool.and_self, decide_true, cond_true, beq_self_eq_true, Bool.false_or]
  by_cases h : b.length ≤ 1000 ∧ s.length ≤ 1000
  · have h1 : decide ((1000 : Int) < (b.length : Int)) = false := by simp; omega
    have h2 : decide ((1000 : Int) < (s.length : Int)) = false := by simp; omega
    simp only [h1, h2, cond_false, small_of h.1 (by decide), small_of h.2 (by decide), ck_true, Bool.false_or]
  · have : (cond (decide ((1000 : Int) < (b.length : Int))) true (decide ((1000 : Int) < (s.length : Int)))) = true := by
      simp; omega
    rw [this, cond_true]

theorem HexaJoins.goal (a b : List UInt8) : HexaJoins.F a b = some [.b true] := by
  rw [HexaJoins.F_eq]
  simp only [Bool.not_true, cond_false, Bool.not_or_self, Bool.or_not_self, ck_true, List.nil_append, text_append, decide_true, Bool.false_or, Bool.not_false]
  by_cases h : a.length ≤ 500 ∧ b.length ≤ 500
  · have h1 : decide ((500 : Int) < (a.length : Int)) = false := by simp; omega
    have h2 : decide ((500 : Int) < (b.length : Int)) = false := by simp; omega
    have h3 : (a ++ b).length ≤ 1000 := by simp; omega
    simp only [h1, h2, cond_false, small_of h.1 (by decide), small_of h.2 (by decide), small_of h3 (by decide), ck_true]
    rw [ap_small (by simp <;> omega) (by simp <;> omega), ap_small (by simp <;> omega) (by omega)]
    have : decide ((Hexa.text a).length + (Hexa.text b).length ≤ 9223372036854775807) = true := by simp [text_length]; omega
    rw [this]
    rfl
  · have : (cond (decide ((500 : Int) < (a.length : Int))) true (decide ((500 : Int) < (b.length : Int)))) = true := by
      simp; omega
    rw [this, cond_true]
end Go.Eng
