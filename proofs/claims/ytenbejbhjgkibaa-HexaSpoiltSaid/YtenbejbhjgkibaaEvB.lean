/- Operations on typed values: what they give, and under which condition. -/
import Derived.Test.YtenbejbhjgkibaaEvA
set_option linter.unusedVariables false
set_option linter.unusedSimpArgs false
namespace Go.Eng

/-- What an operation gives: values; values under a condition; or it is none that is known. -/
inductive Res where
  | ok (ws : List TV)
  | if_ (p : Bool) (ws : List TV)
  | err

/-- So it is, if the condition holds. -/
def ck {R : Type} (p : Bool) (x : Option R) : Option R := cond p x none
theorem ck_true {R : Type} (x : Option R) : ck true x = x := rfl
theorem ck_some {R : Type} {p : Bool} {x : Option R} {r : R} : ck p x = some r ↔ p = true ∧ x = some r := by cases p <;> simp [ck]

/-- The number of a kind that n wraps round to. -/
def intTV (k : IntKind) (n : Int) : TV :=
  match k with
  | .u8 => .u8 (UInt8.ofInt n)
  | .u16 => .u16 (UInt16.ofInt n)
  | .u32 => .u32 (UInt32.ofInt n)
  | .u64 => .u64 (UInt64.ofInt n)
  | k => .i k (k.wrap n)

/-- A number's kind and value. -/
def TV.int? : TV → Option (IntKind × Int)
  | .u8 n => some (.u8, n.toNat)
  | .u16 n => some (.u16, n.toNat)
  | .u32 n => some (.u32, n.toNat)
  | .u64 n => some (.u64, n.toNat)
  | .i k n => some (k, n)
  | _ => none

theorem TV.int?_av {x : TV} {k : IntKind} {n : Int} (h : x.int? = some (k, n)) : x.av = .v (.int k n) := by
  cases x <;> simp [TV.int?] at h <;> obtain ⟨rfl, rfl⟩ := h <;> rfl

theorem emod_toNat (n : Int) (m : Nat) (h : 0 < m) : (((n % (m : Int)).toNat % m : Nat) : Int) = n % m := by
  have h1 : 0 ≤ n % (m : Int) := Int.emod_nonneg _ (by omega)
  have h2 : n % (m : Int) < m := Int.emod_lt_of_pos _ (by omega)
  rw [Nat.mod_eq_of_lt (by omega)]; omega
theorem u8_ofInt (n : Int) : ((UInt8.ofInt n).toNat : Int) = IntKind.u8.wrap n := by
  have : IntKind.u8.wrap n = n % (256 : Nat) := by simp [IntKind.wrap, IntKind.bits, IntKind.signed]
  rw [this, UInt8.ofInt, UInt8.toNat_ofNat']; exact emod_toNat n 256 (by decide)
theorem u16_ofInt (n : Int) : ((UInt16.ofInt n).toNat : Int) = IntKind.u16.wrap n := by
  have : IntKind.u16.wrap n = n % (65536 : Nat) := by simp [IntKind.wrap, IntKind.bits, IntKind.signed]
  rw [this, UInt16.ofInt, UInt16.toNat_ofNat']; exact emod_toNat n 65536 (by decide)
theorem u32_ofInt (n : Int) : ((UInt32.ofInt n).toNat : Int) = IntKind.u32.wrap n := by
  have : IntKind.u32.wrap n = n % (4294967296 : Nat) := by simp [IntKind.wrap, IntKind.bits, IntKind.signed]
  rw [this, UInt32.ofInt, UInt32.toNat_ofNat']; exact emod_toNat n 4294967296 (by decide)
theorem u64_ofInt (n : Int) : ((UInt64.ofInt n).toNat : Int) = IntKind.u64.wrap n := by
  have : IntKind.u64.wrap n = n % (18446744073709551616 : Nat) := by simp [IntKind.wrap, IntKind.bits, IntKind.signed]
  rw [this, UInt64.ofInt, UInt64.toNat_ofNat']; exact emod_toNat n 18446744073709551616 (by decide)

theorem intTV_av (k : IntKind) (n : Int) : (intTV k n).av = .v (.int k (k.wrap n)) := by
  cases k <;> simp only [intTV, TV.av, byteAV, u64AV, AV.v.injEq, Value.int.injEq, true_and]
  · exact u8_ofInt n
  · exact u16_ofInt n
  · exact u32_ofInt n
  · exact u64_ofInt n

/-! ## uint8 -/
def bin8 (o : BinOp) (a b : UInt8) : Res :=
  match o with
  | .add => .ok [.u8 (a + b)]
  | .sub => .ok [.u8 (a - b)]
  | .mul => .ok [.u8 (a * b)]
  | .quo => .if_ (!decide (b = 0)) [.u8 (a / b)]
  | .rem => .if_ (!decide (b = 0)) [.u8 (a % b)]
  | .and => .ok [.u8 (a &&& b)]
  | .or => .ok [.u8 (a ||| b)]
  | .xor => .ok [.u8 (a ^^^ b)]
  | .andNot => .ok [.u8 (a &&& ~~~b)]
  | .eql => .ok [.b (decide (a = b))]
  | .neq => .ok [.b (!decide (a = b))]
  | .lss => .ok [.b (decide (a < b))]
  | .leq => .ok [.b (decide (a ≤ b))]
  | .gtr => .ok [.b (decide (b < a))]
  | .geq => .ok [.b (decide (b ≤ a))]
  | _ => .err
def shl8 (a : UInt8) (n : Nat) : UInt8 := UInt8.ofNat (a.toNat * 2 ^ n)
def shr8 (a : UInt8) (n : Nat) : UInt8 := UInt8.ofNat (a.toNat / 2 ^ n)
theorem wrap_u8' (n : Int) : IntKind.u8.wrap n = n % 256 := by simp [IntKind.wrap, IntKind.bits, IntKind.signed]
theorem ofInt_u8 (a : UInt8) : BitVec.ofInt 8 (a.toNat : Int) = a.toBitVec := by
  apply BitVec.eq_of_toNat_eq
  rw [BitVec.toNat_ofInt]
  have := a.toNat_lt
  simp only [UInt8.toNat] at this ⊢
  omega

/-! ## uint16 -/
def bin16 (o : BinOp) (a b : UInt16) : Res :=
  match o with
  | .add => .ok [.u16 (a + b)]
  | .sub => .ok [.u16 (a - b)]
  | .mul => .ok [.u16 (a * b)]
  | .quo => .if_ (!decide (b = 0)) [.u16 (a / b)]
  | .rem => .if_ (!decide (b = 0)) [.u16 (a % b)]
  | .and => .ok [.u16 (a &&& b)]
  | .or => .ok [.u16 (a ||| b)]
  | .xor => .ok [.u16 (a ^^^ b)]
  | .andNot => .ok [.u16 (a &&& ~~~b)]
  | .eql => .ok [.b (decide (a = b))]
  | .neq => .ok [.b (!decide (a = b))]
  | .lss => .ok [.b (decide (a < b))]
  | .leq => .ok [.b (decide (a ≤ b))]
  | .gtr => .ok [.b (decide (b < a))]
  | .geq => .ok [.b (decide (b ≤ a))]
  | _ => .err
def shl16 (a : UInt16) (n : Nat) : UInt16 := UInt16.ofNat (a.toNat * 2 ^ n)
def shr16 (a : UInt16) (n : Nat) : UInt16 := UInt16.ofNat (a.toNat / 2 ^ n)
theorem wrap_u16' (n : Int) : IntKind.u16.wrap n = n % 65536 := by simp [IntKind.wrap, IntKind.bits, IntKind.signed]
theorem ofInt_u16 (a : UInt16) : BitVec.ofInt 16 (a.toNat : Int) = a.toBitVec := by
  apply BitVec.eq_of_toNat_eq
  rw [BitVec.toNat_ofInt]
  have := a.toNat_lt
  simp only [UInt16.toNat] at this ⊢
  omega

/-! ## uint32 -/
def bin32 (o : BinOp) (a b : UInt32) : Res :=
  match o with
  | .add => .ok [.u32 (a + b)]
  | .sub => .ok [.u32 (a - b)]
  | .mul => .ok [.u32 (a * b)]
  | .quo => .if_ (!decide (b = 0)) [.u32 (a / b)]
  | .rem => .if_ (!decide (b = 0)) [.u32 (a % b)]
  | .and => .ok [.u32 (a &&& b)]
  | .or => .ok [.u32 (a ||| b)]
  | .xor => .ok [.u32 (a ^^^ b)]
  | .andNot => .ok [.u32 (a &&& ~~~b)]
  | .eql => .ok [.b (decide (a = b))]
  | .neq => .ok [.b (!decide (a = b))]
  | .lss => .ok [.b (decide (a < b))]
  | .leq => .ok [.b (decide (a ≤ b))]
  | .gtr => .ok [.b (decide (b < a))]
  | .geq => .ok [.b (decide (b ≤ a))]
  | _ => .err
def shl32 (a : UInt32) (n : Nat) : UInt32 := UInt32.ofNat (a.toNat * 2 ^ n)
def shr32 (a : UInt32) (n : Nat) : UInt32 := UInt32.ofNat (a.toNat / 2 ^ n)
theorem wrap_u32' (n : Int) : IntKind.u32.wrap n = n % 4294967296 := by simp [IntKind.wrap, IntKind.bits, IntKind.signed]
theorem ofInt_u32 (a : UInt32) : BitVec.ofInt 32 (a.toNat : Int) = a.toBitVec := by
  apply BitVec.eq_of_toNat_eq
  rw [BitVec.toNat_ofInt]
  have := a.toNat_lt
  simp only [UInt32.toNat] at this ⊢
  omega

/-! ## uint64 -/
def bin64 (o : BinOp) (a b : UInt64) : Res :=
  match o with
  | .add => .ok [.u64 (a + b)]
  | .sub => .ok [.u64 (a - b)]
  | .mul => .ok [.u64 (a * b)]
  | .quo => .if_ (!decide (b = 0)) [.u64 (a / b)]
  | .rem => .if_ (!decide (b = 0)) [.u64 (a % b)]
  | .and => .ok [.u64 (a &&& b)]
  | .or => .ok [.u64 (a ||| b)]
  | .xor => .ok [.u64 (a ^^^ b)]
  | .andNot => .ok [.u64 (a &&& ~~~b)]
  | .eql => .ok [.b (decide (a = b))]
  | .neq => .ok [.b (!decide (a = b))]
  | .lss => .ok [.b (decide (a < b))]
  | .leq => .ok [.b (decide (a ≤ b))]
  | .gtr => .ok [.b (decide (b < a))]
  | .geq => .ok [.b (decide (b ≤ a))]
  | _ => .err
def shl64 (a : UInt64) (n : Nat) : UInt64 := UInt64.ofNat (a.toNat * 2 ^ n)
def shr64 (a : UInt64) (n : Nat) : UInt64 := UInt64.ofNat (a.toNat / 2 ^ n)
theorem wrap_u64' (n : Int) : IntKind.u64.wrap n = n % 18446744073709551616 := by simp [IntKind.wrap, IntKind.bits, IntKind.signed]
theorem ofInt_u64 (a : UInt64) : BitVec.ofInt 64 (a.toNat : Int) = a.toBitVec := by
  apply BitVec.eq_of_toNat_eq
  rw [BitVec.toNat_ofInt]
  have := a.toNat_lt
  simp only [UInt64.toNat] at this ⊢
  omega

def Res.holds : Res → List TV → Prop
  | .ok ws, r => r = ws
  | .if_ p ws, r => p = true ∧ r = ws
  | .err, _ => False

theorem bin8_ok {o : BinOp} {a b : UInt8} {ws : List TV} (h : (bin8 o a b).holds ws) : ∃ x : TV, ws = [x] ∧ ∃ v, x.av = .v v ∧ binV o (.int .u8 a.toNat) (.int .u8 b.toNat) = some v := by
  have ha := a.toNat_lt
  have hb := b.toNat_lt
  cases o <;> simp only [bin8, Res.holds] at h <;> first | exact h.elim | skip
  all_goals first
    | (obtain ⟨hp, rfl⟩ := h; refine ⟨_, rfl, _, rfl, ?_⟩; simp only [Bool.not_eq_true', decide_eq_false_iff_not] at hp
       have hb0 : (b.toNat : Int) ≠ 0 := fun e => hp (UInt8.toNat_inj.1 (by simpa using e))
       simp only [binV, if_true, hb0, if_false, Option.some.injEq, Value.int.injEq, true_and, UInt8.toNat_div, UInt8.toNat_mod, wrap_u8', Int.tdiv_eq_ediv_of_nonneg (Int.natCast_nonneg a.toNat), Int.tmod_eq_emod_of_nonneg (Int.natCast_nonneg a.toNat)]
       first | (rw [← Int.natCast_ediv]; have := Nat.div_le_self a.toNat b.toNat; generalize a.toNat / b.toNat = q at this ⊢; omega) | omega)
    | (subst h; refine ⟨_, rfl, _, rfl, ?_⟩
       simp only [binV, if_true, Option.some.injEq, Value.int.injEq, Value.bool.injEq, true_and, wrap_u8', intBitsV, IntKind.bits, ofInt_u8, UInt8.toNat_add, UInt8.toNat_sub, UInt8.toNat_mul]
       first | omega | (rw [Int.emod_eq_of_lt (by omega) (by have := (a &&& b).toNat_lt; simp only [UInt8.toNat] at this ⊢; simp only [UInt8.toBitVec_and] at this; omega)]; rfl)
             | (rw [Int.emod_eq_of_lt (by omega) (by have := (a ||| b).toNat_lt; simp only [UInt8.toNat] at this ⊢; simp only [UInt8.toBitVec_or] at this; omega)]; rfl)
             | (rw [Int.emod_eq_of_lt (by omega) (by have := (a ^^^ b).toNat_lt; simp only [UInt8.toNat] at this ⊢; simp only [UInt8.toBitVec_xor] at this; omega)]; rfl)
             | (rw [Int.emod_eq_of_lt (by omega) (by have := (a &&& ~~~b).toNat_lt; simp only [UInt8.toNat] at this ⊢; simp only [UInt8.toBitVec_and, UInt8.toBitVec_not] at this; omega)]; rfl)
             | (rw [Bool.eq_iff_iff]; simp [UInt8.lt_iff_toNat_lt, UInt8.le_iff_toNat_le, ← UInt8.toNat_inj]; omega)
             | (rw [Bool.eq_iff_iff]; simp [UInt8.lt_iff_toNat_lt, UInt8.le_iff_toNat_le, ← UInt8.toNat_inj]))

theorem bin16_ok {o : BinOp} {a b : UInt16} {ws : List TV} (h : (bin16 o a b).holds ws) : ∃ x : TV, ws = [x] ∧ ∃ v, x.av = .v v ∧ binV o (.int .u16 a.toNat) (.int .u16 b.toNat) = some v := by
  have ha := a.toNat_lt
  have hb := b.toNat_lt
  cases o <;> simp only [bin16, Res.holds] at h <;> first | exact h.elim | skip
  all_goals first
    | (obtain ⟨hp, rfl⟩ := h; refine ⟨_, rfl, _, rfl, ?_⟩; simp only [Bool.not_eq_true', decide_eq_false_iff_not] at hp
       have hb0 : (b.toNat : Int) ≠ 0 := fun e => hp (UInt16.toNat_inj.1 (by simpa using e))
       simp only [binV, if_true, hb0, if_false, Option.some.injEq, Value.int.injEq, true_and, UInt16.toNat_div, UInt16.toNat_mod, wrap_u16', Int.tdiv_eq_ediv_of_nonneg (Int.natCast_nonneg a.toNat), Int.tmod_eq_emod_of_nonneg (Int.natCast_nonneg a.toNat)]
       first | (rw [← Int.natCast_ediv]; have := Nat.div_le_self a.toNat b.toNat; generalize a.toNat / b.toNat = q at this ⊢; omega) | omega)
    | (subst h; refine ⟨_, rfl, _, rfl, ?_⟩
       simp only [binV, if_true, Option.some.injEq, Value.int.injEq, Value.bool.injEq, true_and, wrap_u16', intBitsV, IntKind.bits, ofInt_u16, UInt16.toNat_add, UInt16.toNat_sub, UInt16.toNat_mul]
       first | omega | (rw [Int.emod_eq_of_lt (by omega) (by have := (a &&& b).toNat_lt; simp only [UInt16.toNat] at this ⊢; simp only [UInt16.toBitVec_and] at this; omega)]; rfl)
             | (rw [Int.emod_eq_of_lt (by omega) (by have := (a ||| b).toNat_lt; simp only [UInt16.toNat] at this ⊢; simp only [UInt16.toBitVec_or] at this; omega)]; rfl)
             | (rw [Int.emod_eq_of_lt (by omega) (by have := (a ^^^ b).toNat_lt; simp only [UInt16.toNat] at this ⊢; simp only [UInt16.toBitVec_xor] at this; omega)]; rfl)
             | (rw [Int.emod_eq_of_lt (by omega) (by have := (a &&& ~~~b).toNat_lt; simp only [UInt16.toNat] at this ⊢; simp only [UInt16.toBitVec_and, UInt16.toBitVec_not] at this; omega)]; rfl)
             | (rw [Bool.eq_iff_iff]; simp [UInt16.lt_iff_toNat_lt, UInt16.le_iff_toNat_le, ← UInt16.toNat_inj]; omega)
             | (rw [Bool.eq_iff_iff]; simp [UInt16.lt_iff_toNat_lt, UInt16.le_iff_toNat_le, ← UInt16.toNat_inj]))

theorem bin32_ok {o : BinOp} {a b : UInt32} {ws : List TV} (h : (bin32 o a b).holds ws) : ∃ x : TV, ws = [x] ∧ ∃ v, x.av = .v v ∧ binV o (.int .u32 a.toNat) (.int .u32 b.toNat) = some v := by
  have ha := a.toNat_lt
  have hb := b.toNat_lt
  cases o <;> simp only [bin32, Res.holds] at h <;> first | exact h.elim | skip
  all_goals first
    | (obtain ⟨hp, rfl⟩ := h; refine ⟨_, rfl, _, rfl, ?_⟩; simp only [Bool.not_eq_true', decide_eq_false_iff_not] at hp
       have hb0 : (b.toNat : Int) ≠ 0 := fun e => hp (UInt32.toNat_inj.1 (by simpa using e))
       simp only [binV, if_true, hb0, if_false, Option.some.injEq, Value.int.injEq, true_and, UInt32.toNat_div, UInt32.toNat_mod, wrap_u32', Int.tdiv_eq_ediv_of_nonneg (Int.natCast_nonneg a.toNat), Int.tmod_eq_emod_of_nonneg (Int.natCast_nonneg a.toNat)]
       first | (rw [← Int.natCast_ediv]; have := Nat.div_le_self a.toNat b.toNat; generalize a.toNat / b.toNat = q at this ⊢; omega) | omega)
    | (subst h; refine ⟨_, rfl, _, rfl, ?_⟩
       simp only [binV, if_true, Option.some.injEq, Value.int.injEq, Value.bool.injEq, true_and, wrap_u32', intBitsV, IntKind.bits, ofInt_u32, UInt32.toNat_add, UInt32.toNat_sub, UInt32.toNat_mul]
       first | omega | (rw [Int.emod_eq_of_lt (by omega) (by have := (a &&& b).toNat_lt; simp only [UInt32.toNat] at this ⊢; simp only [UInt32.toBitVec_and] at this; omega)]; rfl)
             | (rw [Int.emod_eq_of_lt (by omega) (by have := (a ||| b).toNat_lt; simp only [UInt32.toNat] at this ⊢; simp only [UInt32.toBitVec_or] at this; omega)]; rfl)
             | (rw [Int.emod_eq_of_lt (by omega) (by have := (a ^^^ b).toNat_lt; simp only [UInt32.toNat] at this ⊢; simp only [UInt32.toBitVec_xor] at this; omega)]; rfl)
             | (rw [Int.emod_eq_of_lt (by omega) (by have := (a &&& ~~~b).toNat_lt; simp only [UInt32.toNat] at this ⊢; simp only [UInt32.toBitVec_and, UInt32.toBitVec_not] at this; omega)]; rfl)
             | (rw [Bool.eq_iff_iff]; simp [UInt32.lt_iff_toNat_lt, UInt32.le_iff_toNat_le, ← UInt32.toNat_inj]; omega)
             | (rw [Bool.eq_iff_iff]; simp [UInt32.lt_iff_toNat_lt, UInt32.le_iff_toNat_le, ← UInt32.toNat_inj]))

theorem bin64_ok {o : BinOp} {a b : UInt64} {ws : List TV} (h : (bin64 o a b).holds ws) : ∃ x : TV, ws = [x] ∧ ∃ v, x.av = .v v ∧ binV o (.int .u64 a.toNat) (.int .u64 b.toNat) = some v := by
  have ha := a.toNat_lt
  have hb := b.toNat_lt
  cases o <;> simp only [bin64, Res.holds] at h <;> first | exact h.elim | skip
  all_goals first
    | (obtain ⟨hp, rfl⟩ := h; refine ⟨_, rfl, _, rfl, ?_⟩; simp only [Bool.not_eq_true', decide_eq_false_iff_not] at hp
       have hb0 : (b.toNat : Int) ≠ 0 := fun e => hp (UInt64.toNat_inj.1 (by simpa using e))
       simp only [binV, if_true, hb0, if_false, Option.some.injEq, Value.int.injEq, true_and, UInt64.toNat_div, UInt64.toNat_mod, wrap_u64', Int.tdiv_eq_ediv_of_nonneg (Int.natCast_nonneg a.toNat), Int.tmod_eq_emod_of_nonneg (Int.natCast_nonneg a.toNat)]
       first | (rw [← Int.natCast_ediv]; have := Nat.div_le_self a.toNat b.toNat; generalize a.toNat / b.toNat = q at this ⊢; omega) | omega)
    | (subst h; refine ⟨_, rfl, _, rfl, ?_⟩
       simp only [binV, if_true, Option.some.injEq, Value.int.injEq, Value.bool.injEq, true_and, wrap_u64', intBitsV, IntKind.bits, ofInt_u64, UInt64.toNat_add, UInt64.toNat_sub, UInt64.toNat_mul]
       first | omega | (rw [Int.emod_eq_of_lt (by omega) (by have := (a &&& b).toNat_lt; simp only [UInt64.toNat] at this ⊢; simp only [UInt64.toBitVec_and] at this; omega)]; rfl)
             | (rw [Int.emod_eq_of_lt (by omega) (by have := (a ||| b).toNat_lt; simp only [UInt64.toNat] at this ⊢; simp only [UInt64.toBitVec_or] at this; omega)]; rfl)
             | (rw [Int.emod_eq_of_lt (by omega) (by have := (a ^^^ b).toNat_lt; simp only [UInt64.toNat] at this ⊢; simp only [UInt64.toBitVec_xor] at this; omega)]; rfl)
             | (rw [Int.emod_eq_of_lt (by omega) (by have := (a &&& ~~~b).toNat_lt; simp only [UInt64.toNat] at this ⊢; simp only [UInt64.toBitVec_and, UInt64.toBitVec_not] at this; omega)]; rfl)
             | (rw [Bool.eq_iff_iff]; simp [UInt64.lt_iff_toNat_lt, UInt64.le_iff_toNat_le, ← UInt64.toNat_inj]; omega)
             | (rw [Bool.eq_iff_iff]; simp [UInt64.lt_iff_toNat_lt, UInt64.le_iff_toNat_le, ← UInt64.toNat_inj]))
end Go.Eng
