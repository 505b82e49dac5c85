/- HexaBack, HexaSpoilt: by hand. -/
import Derived.Test.YtenbejbhjgkibaaHexaG2
set_option linter.unusedVariables false
set_option linter.unusedSimpArgs false
namespace Go.Eng
open Go.IntWalk
namespace Hexa
def up (c : UInt8) : UInt8 := if 97 ≤ c ∧ c ≤ 102 then c - 32 else c
theorem digit_sign : ∀ n : Nat, n < 16 → digit (sign n) = n ∧ digit (up (sign n)) = n := by decide
theorem bytes_two (x : UInt8) (r : Str) : bytes (two x ++ r) = (bytes r).map (x :: ·) := by
  have hx := x.toNat_lt
  have h1 := (digit_sign (x.toNat / 16) (by omega)).1
  have h2 := (digit_sign (x.toNat % 16) (by omega)).1
  simp only [two, List.cons_append, List.nil_append, bytes, h1, h2]
  rw [if_neg (by omega)]
  have : UInt8.ofNat (((x.toNat / 16 : Nat) : Int).toNat * 16 + ((x.toNat % 16 : Nat) : Int).toNat) = x := by
    rw [Int.toNat_natCast, Int.toNat_natCast, show x.toNat / 16 * 16 + x.toNat % 16 = x.toNat by omega]; simp
  rw [this]
theorem bytes_text : ∀ b : Str, bytes (text b) = some b
  | [] => rfl
  | x :: r => by rw [text, bytes_two, bytes_text r]; rfl
theorem bytes_up : ∀ b : Str, bytes ((text b).map up) = some b
  | [] => rfl
  | x :: r => by
    have hx := x.toNat_lt
    have h1 := (digit_sign (x.toNat / 16) (by omega)).2
    have h2 := (digit_sign (x.toNat % 16) (by omega)).2
    simp only [text, two, List.cons_append, List.nil_append, List.map_cons, bytes, h1, h2]
    rw [if_neg (by omega), bytes_up r]
    have : UInt8.ofNat (((x.toNat / 16 : Nat) : Int).toNat * 16 + ((x.toNat % 16 : Nat) : Int).toNat) = x := by
      rw [Int.toNat_natCast, Int.toNat_natCast, show x.toNat / 16 * 16 + x.toNat % 16 = x.toNat by omega]; simp
    rw [this]; rfl
theorem isSome_iff : ∀ s : Str, s.length % 2 = 0 → ((bytes s).isSome = true ↔ ∀ c ∈ s, 0 ≤ digit c)
  | [], _ => by simp [bytes]
  | [_], h => by simp at h
  | x :: y :: r, h => by
    have ih := isSome_iff r (by simp at h; omega)
    simp only [bytes, List.mem_cons, forall_eq_or_imp]
    by_cases hd : digit x < 0 ∨ digit y < 0
    · rw [if_pos hd]
      constructor
      · intro h; cases h
      · rintro ⟨h1, h2, _⟩; omega
    · rw [if_neg hd]
      have h1 : 0 ≤ digit x := by omega
      have h2 : 0 ≤ digit y := by omega
      simp only [Option.isSome_map, ih, h1, h2, true_and]
theorem text_digits (b : Str) : ∀ c ∈ text b, 0 ≤ digit c := by
  have : (text b).length % 2 = 0 := by rw [text_length]; omega
  exact (isSome_iff _ this).1 (by rw [bytes_text]; rfl)
theorem set_digits (l : Str) (h : ∀ c ∈ l, 0 ≤ digit c) (i : Nat) (hi : i < l.length) (x : UInt8) : (∀ c ∈ l.set i x, 0 ≤ digit c) ↔ 0 ≤ digit x := by
  constructor
  · intro h'
    exact h' x (List.mem_iff_getElem.2 ⟨i, by simpa using hi, by simp⟩)
  · intro hx c hc
    rcases List.mem_or_eq_of_mem_set hc with hc | rfl
    · exact h c hc
    · exact hx
set_option maxRecDepth 100000 in
theorem is_digit (c : UInt8) : (cond (cond (cond (decide ((48 : UInt8) ≤ c)) (decide (c ≤ (57 : UInt8))) false) true (cond (decide ((97 : UInt8) ≤ c)) (decide (c ≤ (102 : UInt8))) false)) true (cond (decide ((65 : UInt8) ≤ c)) (decide (c ≤ (70 : UInt8))) false)) = decide (0 ≤ digit c) := by
  have key : ∀ n : Fin 256, (cond (cond (cond (decide ((48 : UInt8) ≤ UInt8.ofNat n)) (decide (UInt8.ofNat n ≤ (57 : UInt8))) false) true (cond (decide ((97 : UInt8) ≤ UInt8.ofNat n)) (decide (UInt8.ofNat n ≤ (102 : UInt8))) false)) true (cond (decide ((65 : UInt8) ≤ UInt8.ofNat n)) (decide (UInt8.ofNat n ≤ (70 : UInt8))) false)) = decide (0 ≤ digit (UInt8.ofNat n)) := by decide
  have := key ⟨c.toNat, c.toNat_lt⟩
  simpa using this
end Hexa

theorem set_mid {A : Type} (pre : List A) (x y : A) (r : List A) : List.set (pre ++ x :: r) ((pre.length : Int)).toNat y = pre ++ y :: r := by simp
theorem up_cond (x : UInt8) : (cond (decide ((97 : UInt8) ≤ x)) (decide (x ≤ (102 : UInt8))) false) = decide (97 ≤ x ∧ x ≤ 102) := by
  by_cases h1 : (97 : UInt8) ≤ x <;> by_cases h2 : x ≤ (102 : UInt8) <;> simp [h1, h2]

theorem HexaBack.l1_ok (b : Str) (hb : b.length ≤ 500) : ∀ (r pre : Str), (pre ++ r).length ≤ 1000 → Hexa.bytes (pre ++ r.map Hexa.up) = some b →
    HexaBack.l1 b (Hexa.text b) (pre.length : Int) (pre ++ r) = some [.b true]
  | [], pre, h1, h2 => by
    rw [HexaBack.l1_eq]
    simp only [List.map_nil, List.append_nil] at h2 h1 ⊢
    have hw : IntKind.i64.wrap ((2 : Int) * (b.length : Int)) = 2 * (b.length : Int) := i64_in _ (by omega)
    have e1 : decide ((Hexa.text b).length ≤ 1099511627776) = true := by rw [text_length]; simp; omega
    have e2 : decide (pre.length ≤ 1099511627776) = true := by simp; omega
    simp only [Hexa.bytes_text, h2, hw, text_length]
    simp
    rw [decide_eq_true (show 2 * b.length ≤ 1099511627776 by omega), decide_eq_true (show pre.length ≤ 1099511627776 by omega)]
    rfl
  | x :: r, pre, h1, h2 => by
    have hl : pre.length + (r.length + 1) ≤ 1000 := by simpa using h1
    have w1 : IntKind.i64.wrap ((pre.length : Int) + 1) = ((pre ++ [Hexa.up x]).length : Int) := by rw [i64_in _ (by omega)]; simp
    have ih := HexaBack.l1_ok b hb r (pre ++ [Hexa.up x]) (by simp; omega) (by simpa using h2)
    rw [HexaBack.l1_eq]
    have hc : decide ((pre.length : Int) < ((pre ++ x :: r).length : Int)) = true := by simp; omega
    have hd : decide (((pre.length : Int)).toNat < (pre ++ x :: r).length) = true := by simp
    rw [hc]
    simp only [cond_true, at_mid, idx_mid, hd, set_mid, ck_true, Bool.and_true, Bool.and_self, Bool.not_or_self, up_cond]
    by_cases hu : 97 ≤ x ∧ x ≤ 102
    · rw [decide_eq_true hu, cond_true, HexaBack.j2_eq, w1]
      have : x - 32 = Hexa.up x := by simp [Hexa.up, hu]
      rw [this]
      simpa using ih
    · rw [decide_eq_false hu, cond_false, HexaBack.j2_eq, w1]
      have : Hexa.up x = x := by simp [Hexa.up, hu]
      rw [this] at ih ⊢
      simpa using ih

theorem HexaBack.goal (b : List UInt8) : HexaBack.F b = some [.b true] := by
  rw [HexaBack.F_eq]
  simp only [Bool.not_true, cond_false]
  by_cases h : b.length ≤ 500
  · have h1 : decide ((500 : Int) < (b.length : Int)) = false := by simp; omega
    have h2 : lenOK (Hexa.text b).length = true := by rw [lenOK_iff, text_length]; unfold maxLen; omega
    simp only [h1, cond_false, small_of h (by decide), h2, ck_true]
    have := HexaBack.l1_ok b h (Hexa.text b) [] (by simp [text_length]; omega) (by simpa using Hexa.bytes_up b)
    simpa using this
  · have : decide ((500 : Int) < (b.length : Int)) = true := by simp; omega
    rw [this, cond_true]

theorem guard_and (c t : Bool) : (!c || (c && (!t || (c && t)))) = true := by cases c <;> cases t <;> rfl
theorem guard_or (c t : Bool) : (!c || (c && (t || (c && !t)))) = true := by cases c <;> cases t <;> rfl
theorem HexaSpoilt.goal (b : List UInt8) (at_ : Int) (by_ : UInt8) : HexaSpoilt.F b at_ by_ = some [.b true] := by
  rw [HexaSpoilt.F_eq]
  simp only [Bool.not_true, cond_false, Bool.not_or_self, Bool.or_not_self, Bool.and_self, guard_and, guard_or, ck_true, Hexa.is_digit]
  by_cases hc : 1 ≤ b.length ∧ b.length ≤ 500 ∧ 0 ≤ at_ ∧ at_ < 2 * (b.length : Int)
  · obtain ⟨c1, c2, c3, c4⟩ := hc
    have hw : IntKind.i64.wrap ((2 : Int) * (b.length : Int)) = 2 * (b.length : Int) := i64_in _ (by omega)
    have hl := text_length b
    have e0 : (cond (cond (cond (decide ((b.length : Int) < 1)) true (decide (500 < (b.length : Int)))) true (decide (at_ < 0))) true (decide (2 * (b.length : Int) ≤ at_))) = false := by
      rw [decide_eq_false (show ¬ (b.length : Int) < 1 by omega), decide_eq_false (show ¬ 500 < (b.length : Int) by omega), decide_eq_false (show ¬ at_ < 0 by omega), decide_eq_false (show ¬ 2 * (b.length : Int) ≤ at_ by omega)]; rfl
    have e1 : lenOK (Hexa.text b).length = true := by rw [lenOK_iff, hl]; unfold maxLen; omega
    have e2 : (!decide (((Hexa.text b).length : Int) = 2 * (b.length : Int))) = false := by rw [hl]; simp
    have e3 : idxOK at_ (Hexa.text b).length = true := by rw [idxOK_iff, hl]; omega
    have hi : at_.toNat < (Hexa.text b).length := by rw [hl]; omega
    have hsl : (List.set (Hexa.text b) at_.toNat by_).length = 2 * b.length := by rw [List.length_set, hl]
    have e4 : decide ((List.set (Hexa.text b) at_.toNat by_).length ≤ 1099511627776) = true := by rw [hsl]; simp; omega
    have e5 : decide ((List.set (Hexa.text b) at_.toNat by_).length + ([48] : Str).length ≤ 9223372036854775807) = true := by rw [hsl]; simp; omega
    have e6 : decide ((List.set (Hexa.text b) at_.toNat by_ ++ ([48] : Str)).length ≤ 1099511627776) = true := by rw [List.length_append, hsl]; simp; omega
    have e7 : Hexa.bytes (List.set (Hexa.text b) at_.toNat by_ ++ ([48] : Str)) = none := bytes_odd _ (by rw [List.length_append, hsl]; simp)
    have e8 : (Hexa.bytes (List.set (Hexa.text b) at_.toNat by_)).isSome = decide (0 ≤ Hexa.digit by_) := by
      rw [Bool.eq_iff_iff, Hexa.isSome_iff _ (by rw [hsl]; omega), Hexa.set_digits _ (Hexa.text_digits b) _ hi]; simp
    simp only [hw, e0, e1, e2, e3, e4, e5, e6, e7, e8, decide_eq_true hi, small_of c2 (by decide), ck_true, cond_false, beq_self_eq_true, cond_true, Option.isSome_none, Bool.not_false, Bool.true_and, Bool.or_not_self, Bool.not_true, Bool.false_or]
    by_cases hd : 0 ≤ Hexa.digit by_
    · simp [hd]
    · have : Hexa.bytes (List.set (Hexa.text b) at_.toNat by_) = none := by
        cases h : Hexa.bytes (List.set (Hexa.text b) at_.toNat by_) with
        | none => rfl
        | some x => rw [h] at e8; simp [hd] at e8
      simp [hd, this]
  · by_cases hl : b.length ≤ 500
    · have hw : IntKind.i64.wrap ((2 : Int) * (b.length : Int)) = 2 * (b.length : Int) := i64_in _ (by omega)
      rw [hw]
      have : (cond (cond (cond (decide ((b.length : Int) < 1)) true (decide (500 < (b.length : Int)))) true (decide (at_ < 0))) true (decide (2 * (b.length : Int) ≤ at_))) = true := by
        simp; omega
      rw [this, cond_true]
    · have : decide ((500 : Int) < (b.length : Int)) = true := by simp; omega
      rw [this]
      simp
end Go.Eng
