/- Operations on typed values, all of them. -/
import Derived.Test.YtenbejbhjgkibaaEvB
import Derived.Laws.Strings
set_option linter.unusedVariables false
set_option linter.unusedSimpArgs false
namespace Go.Eng

/-! ## Binary and unary operations -/
def binI (o : BinOp) (k : IntKind) (a b : Int) : Res :=
  match o with
  | .add => .ok [.i k (k.wrap (a + b))]
  | .sub => .ok [.i k (k.wrap (a - b))]
  | .mul => .ok [.i k (k.wrap (a * b))]
  | .quo => .if_ (!decide (b = 0)) [.i k (k.wrap (a.tdiv b))]
  | .rem => .if_ (!decide (b = 0)) [.i k (a.tmod b)]
  | .and => .ok [.i k (intBitsV .and k a b)]
  | .or => .ok [.i k (intBitsV .or k a b)]
  | .xor => .ok [.i k (intBitsV .xor k a b)]
  | .andNot => .ok [.i k (intBitsV .andNot k a b)]
  | .eql => .ok [.b (decide (a = b))]
  | .neq => .ok [.b (!decide (a = b))]
  | .lss => .ok [.b (decide (a < b))]
  | .leq => .ok [.b (decide (a ≤ b))]
  | .gtr => .ok [.b (decide (b < a))]
  | .geq => .ok [.b (decide (b ≤ a))]
  | _ => .err
def binS (o : BinOp) (a b : Str) : Res :=
  match o with
  | .add => .if_ (decide (a.length + b.length ≤ 9223372036854775807)) [.s (a ++ b)]
  | .eql => .ok [.b (decide (a = b))]
  | .neq => .ok [.b (!decide (a = b))]
  | _ => .err
/-- How far a number is shifted. -/
def TV.count : TV → Option (Option Bool × Nat)
  | .u8 n => some (none, n.toNat)
  | .u16 n => some (none, n.toNat)
  | .u32 n => some (none, n.toNat)
  | .u64 n => some (none, n.toNat)
  | .i _ n => some (some (decide (0 ≤ n)), n.toNat)
  | _ => none
def Res.under (p : Option Bool) (ws : List TV) : Res :=
  match p with
  | none => .ok ws
  | some p => .if_ p ws
def shlT (x y : TV) : Res :=
  match y.count with
  | some (p, n) => match x with
    | .u8 a => .under p [.u8 (shl8 a n)]
    | .u16 a => .under p [.u16 (shl16 a n)]
    | .u32 a => .under p [.u32 (shl32 a n)]
    | .u64 a => .under p [.u64 (shl64 a n)]
    | .i k a => .under p [.i k (k.wrap (a * 2 ^ (min n k.bits)))]
    | _ => .err
  | none => .err
def shrT (x y : TV) : Res :=
  match y.count with
  | some (p, n) => match x with
    | .u8 a => .under p [.u8 (shr8 a n)]
    | .u16 a => .under p [.u16 (shr16 a n)]
    | .u32 a => .under p [.u32 (shr32 a n)]
    | .u64 a => .under p [.u64 (shr64 a n)]
    | .i k a => .under p [.i k (a.fdiv (2 ^ (min n k.bits)))]
    | _ => .err
  | none => .err
def isShift : BinOp → Option Bool
  | .shl => some true
  | .shr => some false
  | _ => none
def binT (o : BinOp) (x y : TV) : Res :=
  match isShift o with
  | some true => shlT x y
  | some false => shrT x y
  | none => match x, y with
    | .u8 a, .u8 b => bin8 o a b
    | .u16 a, .u16 b => bin16 o a b
    | .u32 a, .u32 b => bin32 o a b
    | .u64 a, .u64 b => bin64 o a b
    | .i k a, .i k' b => if k = k' then binI o k a b else .err
    | .s a, .s b => binS o a b
    | _, _ => .err
def unT (o : UnOp) (x : TV) : Res :=
  match o, x with
  | .neg, .u8 a => .ok [.u8 (0 - a)]
  | .neg, .u16 a => .ok [.u16 (0 - a)]
  | .neg, .u32 a => .ok [.u32 (0 - a)]
  | .neg, .u64 a => .ok [.u64 (0 - a)]
  | .neg, .i k a => .ok [.i k (k.wrap (0 - a))]
  | .xor, .u8 a => .ok [.u8 (~~~a)]
  | .xor, .u16 a => .ok [.u16 (~~~a)]
  | .xor, .u32 a => .ok [.u32 (~~~a)]
  | .xor, .u64 a => .ok [.u64 (~~~a)]
  | .xor, .i k a => .ok [.i k (intBitsV .xor k (if k.signed then -1 else k.max) a)]
  | .not, .b a => .ok [.b !a]
  | _, _ => .err

theorem shl_nat {a n b m : Nat} (hm : m = 2 ^ b) : (a * 2 ^ (min n b)) % m = (a * 2 ^ n) % m := by
  subst hm
  by_cases h : n ≤ b
  · rw [Nat.min_eq_left h]
  · rw [Nat.min_eq_right (by omega), show n = b + (n - b) by omega, Nat.pow_add, ← Nat.mul_assoc, Nat.mul_mod_left, Nat.mul_right_comm, Nat.mul_mod_left]
theorem shr_nat {a n b m : Nat} (hm : m = 2 ^ b) (ha : a < m) : a / 2 ^ (min n b) = (a / 2 ^ n) % m := by
  subst hm
  rw [Nat.mod_eq_of_lt (Nat.lt_of_le_of_lt (Nat.div_le_self _ _) ha)]
  by_cases h : n ≤ b
  · rw [Nat.min_eq_left h]
  · rw [Nat.min_eq_right (by omega), Nat.div_eq_of_lt ha, Nat.div_eq_of_lt (Nat.lt_of_lt_of_le ha (Nat.pow_le_pow_right (by omega) (by omega)))]
theorem toList_of (l : Str) : ByteArray.toList ⟨⟨l⟩⟩ = l := by rw [ByteArray.toList_eq]

/-- What a value reads as has this shape. -/
def Res.gives (r : Res) (P : AV → Prop) : Prop := ∀ ws, r.holds ws → ∃ x : TV, ws = [x] ∧ P x.av
def BinP (o : BinOp) (x y : TV) (z : AV) : Prop := ∃ a b v, x.av = .v a ∧ y.av = .v b ∧ binV o a b = some v ∧ z = .v v

theorem under_holds {p : Option Bool} {ws r : List TV} (h : (Res.under p ws).holds r) : r = ws ∧ ∀ b, p = some b → b = true := by
  cases p with
  | none => exact ⟨h, fun _ e => by cases e⟩
  | some p => exact ⟨h.2, fun _ e => by cases e; exact h.1⟩

theorem count_av {y : TV} {p : Option Bool} {n : Nat} (h : y.count = some (p, n)) (hp : ∀ b, p = some b → b = true) : ∃ k m, y.av = .v (.int k m) ∧ 0 ≤ m ∧ m.toNat = n := by
  cases y <;> simp [TV.count] at h <;> obtain ⟨rfl, rfl⟩ := h
  · exact ⟨_, _, rfl, by omega, by omega⟩
  · exact ⟨_, _, rfl, by omega, by omega⟩
  · exact ⟨_, _, rfl, by omega, by omega⟩
  · exact ⟨_, _, rfl, by omega, by omega⟩
  · rename_i k m
    have := hp _ rfl
    exact ⟨_, _, rfl, by simpa using this, rfl⟩

theorem shl8_ok (a : UInt8) (n : Nat) : IntKind.u8.wrap ((a.toNat : Int) * 2 ^ (min n 8)) = ((shl8 a n).toNat : Int) := by
  rw [wrap_u8', shl8, UInt8.toNat_ofNat', show ((a.toNat : Int) * 2 ^ (min n 8)) = ((a.toNat * 2 ^ (min n 8) : Nat) : Int) by simp]
  have := shl_nat (a := a.toNat) (n := n) (b := 8) (m := 256) (by decide)
  rw [show (2 ^ 8 : Nat) = 256 by decide]
  omega
theorem shr8_ok (a : UInt8) (n : Nat) : IntKind.u8.wrap ((a.toNat : Int).fdiv (2 ^ (min n 8))) = ((shr8 a n).toNat : Int) := by
  rw [wrap_u8', shr8, UInt8.toNat_ofNat', Int.fdiv_eq_ediv_of_nonneg _ (Int.le_of_lt (Int.pow_pos (by decide))), show ((a.toNat : Int) / 2 ^ (min n 8)) = ((a.toNat / 2 ^ (min n 8) : Nat) : Int) by simp]
  have := shr_nat (a := a.toNat) (n := n) (b := 8) (m := 256) (by decide) (by have := a.toNat_lt; simpa using this)
  rw [show (2 ^ 8 : Nat) = 256 by decide]
  omega

theorem shl16_ok (a : UInt16) (n : Nat) : IntKind.u16.wrap ((a.toNat : Int) * 2 ^ (min n 16)) = ((shl16 a n).toNat : Int) := by
  rw [wrap_u16', shl16, UInt16.toNat_ofNat', show ((a.toNat : Int) * 2 ^ (min n 16)) = ((a.toNat * 2 ^ (min n 16) : Nat) : Int) by simp]
  have := shl_nat (a := a.toNat) (n := n) (b := 16) (m := 65536) (by decide)
  rw [show (2 ^ 16 : Nat) = 65536 by decide]
  omega
theorem shr16_ok (a : UInt16) (n : Nat) : IntKind.u16.wrap ((a.toNat : Int).fdiv (2 ^ (min n 16))) = ((shr16 a n).toNat : Int) := by
  rw [wrap_u16', shr16, UInt16.toNat_ofNat', Int.fdiv_eq_ediv_of_nonneg _ (Int.le_of_lt (Int.pow_pos (by decide))), show ((a.toNat : Int) / 2 ^ (min n 16)) = ((a.toNat / 2 ^ (min n 16) : Nat) : Int) by simp]
  have := shr_nat (a := a.toNat) (n := n) (b := 16) (m := 65536) (by decide) (by have := a.toNat_lt; simpa using this)
  rw [show (2 ^ 16 : Nat) = 65536 by decide]
  omega

theorem shl32_ok (a : UInt32) (n : Nat) : IntKind.u32.wrap ((a.toNat : Int) * 2 ^ (min n 32)) = ((shl32 a n).toNat : Int) := by
  rw [wrap_u32', shl32, UInt32.toNat_ofNat', show ((a.toNat : Int) * 2 ^ (min n 32)) = ((a.toNat * 2 ^ (min n 32) : Nat) : Int) by simp]
  have := shl_nat (a := a.toNat) (n := n) (b := 32) (m := 4294967296) (by decide)
  rw [show (2 ^ 32 : Nat) = 4294967296 by decide]
  omega
theorem shr32_ok (a : UInt32) (n : Nat) : IntKind.u32.wrap ((a.toNat : Int).fdiv (2 ^ (min n 32))) = ((shr32 a n).toNat : Int) := by
  rw [wrap_u32', shr32, UInt32.toNat_ofNat', Int.fdiv_eq_ediv_of_nonneg _ (Int.le_of_lt (Int.pow_pos (by decide))), show ((a.toNat : Int) / 2 ^ (min n 32)) = ((a.toNat / 2 ^ (min n 32) : Nat) : Int) by simp]
  have := shr_nat (a := a.toNat) (n := n) (b := 32) (m := 4294967296) (by decide) (by have := a.toNat_lt; simpa using this)
  rw [show (2 ^ 32 : Nat) = 4294967296 by decide]
  omega

theorem shl64_ok (a : UInt64) (n : Nat) : IntKind.u64.wrap ((a.toNat : Int) * 2 ^ (min n 64)) = ((shl64 a n).toNat : Int) := by
  rw [wrap_u64', shl64, UInt64.toNat_ofNat', show ((a.toNat : Int) * 2 ^ (min n 64)) = ((a.toNat * 2 ^ (min n 64) : Nat) : Int) by simp]
  have := shl_nat (a := a.toNat) (n := n) (b := 64) (m := 18446744073709551616) (by decide)
  rw [show (2 ^ 64 : Nat) = 18446744073709551616 by decide]
  omega
theorem shr64_ok (a : UInt64) (n : Nat) : IntKind.u64.wrap ((a.toNat : Int).fdiv (2 ^ (min n 64))) = ((shr64 a n).toNat : Int) := by
  rw [wrap_u64', shr64, UInt64.toNat_ofNat', Int.fdiv_eq_ediv_of_nonneg _ (Int.le_of_lt (Int.pow_pos (by decide))), show ((a.toNat : Int) / 2 ^ (min n 64)) = ((a.toNat / 2 ^ (min n 64) : Nat) : Int) by simp]
  have := shr_nat (a := a.toNat) (n := n) (b := 64) (m := 18446744073709551616) (by decide) (by have := a.toNat_lt; simpa using this)
  rw [show (2 ^ 64 : Nat) = 18446744073709551616 by decide]
  omega

theorem shrI_in {w : Nat} {m : Int} (a : Nat) (k : Nat) (h : (a : Int) < m) : 0 ≤ (a : Int).fdiv (2 ^ k) ∧ (a : Int).fdiv (2 ^ k) < m := by
  rw [Int.fdiv_eq_ediv_of_nonneg _ (Int.le_of_lt (Int.pow_pos (by decide)))]
  refine ⟨Int.ediv_nonneg (by omega) (Int.le_of_lt (Int.pow_pos (by decide))), ?_⟩
  rw [show ((a : Int) / 2 ^ k) = ((a / 2 ^ k : Nat) : Int) by simp]
  have := Nat.div_le_self a (2 ^ k)
  omega

theorem shlT_ok (x y : TV) : (shlT x y).gives (BinP .shl x y) := by
  intro ws h
  unfold shlT at h
  split at h
  · rename_i p n hc
    have key : ∀ {r : TV} {u : IntKind} {a : Int}, (Res.under p [r]).holds ws → x.av = .v (.int u a) → r.av = .v (.int u (u.wrap (a * 2 ^ (min n u.bits)))) → ∃ z : TV, ws = [z] ∧ BinP .shl x y z.av := by
      intro r u a h hx hr
      obtain ⟨rfl, hp⟩ := under_holds h
      obtain ⟨k, m, h1, h2, rfl⟩ := count_av hc hp
      refine ⟨_, rfl, _, _, _, hx, h1, ?_, hr⟩
      simp only [binV, Int.not_lt.2 h2, if_false]
    split at h
    · exact key h rfl (by rw [show IntKind.u8.bits = 8 from rfl, shl8_ok]; rfl)
    · exact key h rfl (by rw [show IntKind.u16.bits = 16 from rfl, shl16_ok]; rfl)
    · exact key h rfl (by rw [show IntKind.u32.bits = 32 from rfl, shl32_ok]; rfl)
    · exact key h rfl (by rw [show IntKind.u64.bits = 64 from rfl, shl64_ok]; rfl)
    · exact key h rfl rfl
    · exact h.elim
  · exact h.elim
theorem shrT_ok (x y : TV) : (shrT x y).gives (BinP .shr x y) := by
  intro ws h
  unfold shrT at h
  split at h
  · rename_i p n hc
    have key : ∀ {r : TV} {u : IntKind} {a : Int}, (Res.under p [r]).holds ws → x.av = .v (.int u a) → r.av = .v (.int u (a.fdiv (2 ^ (min n u.bits)))) → ∃ z : TV, ws = [z] ∧ BinP .shr x y z.av := by
      intro r u a h hx hr
      obtain ⟨rfl, hp⟩ := under_holds h
      obtain ⟨k, m, h1, h2, rfl⟩ := count_av hc hp
      refine ⟨_, rfl, _, _, _, hx, h1, ?_, hr⟩
      simp only [binV, Int.not_lt.2 h2, if_false]
    split at h
    · rename_i a
      have q := shrI_in (w := 0) a.toNat (min n 8) (m := 256) (by have := a.toNat_lt; simp at this; omega)
      exact key h rfl (by rw [show IntKind.u8.bits = 8 from rfl]; simp only [TV.av, byteAV]; rw [← shr8_ok, wrap_u8', Int.emod_eq_of_lt q.1 q.2])
    · rename_i a
      have q := shrI_in (w := 0) a.toNat (min n 16) (m := 65536) (by have := a.toNat_lt; simp at this; omega)
      exact key h rfl (by rw [show IntKind.u16.bits = 16 from rfl]; simp only [TV.av]; rw [← shr16_ok, wrap_u16', Int.emod_eq_of_lt q.1 q.2])
    · rename_i a
      have q := shrI_in (w := 0) a.toNat (min n 32) (m := 4294967296) (by have := a.toNat_lt; simp at this; omega)
      exact key h rfl (by rw [show IntKind.u32.bits = 32 from rfl]; simp only [TV.av]; rw [← shr32_ok, wrap_u32', Int.emod_eq_of_lt q.1 q.2])
    · rename_i a
      have q := shrI_in (w := 0) a.toNat (min n 64) (m := 18446744073709551616) (by have := a.toNat_lt; simp at this; omega)
      exact key h rfl (by rw [show IntKind.u64.bits = 64 from rfl]; simp only [TV.av, u64AV]; rw [← shr64_ok, wrap_u64', Int.emod_eq_of_lt q.1 q.2])
    · exact key h rfl rfl
    · exact h.elim
  · exact h.elim

theorem binI_ok {o : BinOp} {k : IntKind} {a b : Int} {ws : List TV} (h : (binI o k a b).holds ws) : ∃ x : TV, ws = [x] ∧ ∃ v, x.av = .v v ∧ binV o (.int k a) (.int k b) = some v := by
  cases o <;> simp only [binI, Res.holds] at h <;> first | exact h.elim | skip
  all_goals first
    | (obtain ⟨hp, rfl⟩ := h; refine ⟨_, rfl, _, rfl, ?_⟩; simp only [Bool.not_eq_true', decide_eq_false_iff_not] at hp; simp only [binV, if_true, hp, if_false])
    | (subst h; refine ⟨_, rfl, _, rfl, ?_⟩; simp only [binV, if_true, Option.some.injEq, Value.bool.injEq]; first | done | (rw [Bool.eq_iff_iff]; simp))
theorem binS_ok {o : BinOp} {a b : Str} {ws : List TV} (h : (binS o a b).holds ws) : ∃ x : TV, ws = [x] ∧ ∃ v, x.av = .v v ∧ binV o (.string ⟨⟨a⟩⟩) (.string ⟨⟨b⟩⟩) = some v := by
  cases o <;> simp only [binS, Res.holds] at h <;> first | exact h.elim | skip
  · obtain ⟨hp, rfl⟩ := h
    refine ⟨_, rfl, _, rfl, ?_⟩
    simp only [binV]
    have hp : a.length + b.length ≤ 9223372036854775807 := by simpa using hp
    rw [if_neg]
    · simp only [Option.some.injEq, Value.string.injEq]
      apply ByteArray.ext
      apply Array.ext'
      simp
    · have : IntKind.i64.max = 9223372036854775807 := by decide
      rw [this]
      simp only [ByteArray.size, Array.size]
      omega
  · subst h
    refine ⟨_, rfl, _, rfl, ?_⟩
    simp only [binV, toList_of, Option.some.injEq, Value.bool.injEq]
    rw [Bool.eq_iff_iff]; simp
  · subst h
    refine ⟨_, rfl, _, rfl, ?_⟩
    simp only [binV, toList_of, Option.some.injEq, Value.bool.injEq]
    rw [Bool.eq_iff_iff]; simp

theorem binT_ok (o : BinOp) (x y : TV) : (binT o x y).gives (BinP o x y) := by
  intro ws h
  unfold binT at h
  split at h
  · rename_i e
    have : o = .shl := by cases o <;> simp [isShift] at e ⊢
    subst this
    exact shlT_ok x y ws h
  · rename_i e
    have : o = .shr := by cases o <;> simp [isShift] at e ⊢
    subst this
    exact shrT_ok x y ws h
  · split at h
    · obtain ⟨x, h1, v, h2, h3⟩ := bin8_ok h; exact ⟨x, h1, _, _, v, rfl, rfl, h3, h2⟩
    · obtain ⟨x, h1, v, h2, h3⟩ := bin16_ok h; exact ⟨x, h1, _, _, v, rfl, rfl, h3, h2⟩
    · obtain ⟨x, h1, v, h2, h3⟩ := bin32_ok h; exact ⟨x, h1, _, _, v, rfl, rfl, h3, h2⟩
    · obtain ⟨x, h1, v, h2, h3⟩ := bin64_ok h; exact ⟨x, h1, _, _, v, rfl, rfl, h3, h2⟩
    · split at h
      · rename_i e
        subst e
        obtain ⟨x, h1, v, h2, h3⟩ := binI_ok h; exact ⟨x, h1, _, _, v, rfl, rfl, h3, h2⟩
      · exact h.elim
    · obtain ⟨x, h1, v, h2, h3⟩ := binS_ok h; exact ⟨x, h1, _, _, v, rfl, rfl, h3, h2⟩
    · exact h.elim

theorem not8_ok (a : UInt8) : intBitsV .xor .u8 (if IntKind.u8.signed then -1 else IntKind.u8.max) a.toNat = ((~~~a).toNat : Int) := by
  have em : (if IntKind.u8.signed then (-1 : Int) else IntKind.u8.max) = 255 := by decide
  have e : BitVec.ofInt 8 255 = BitVec.allOnes 8 := by decide
  rw [em]
  simp only [intBitsV, IntKind.bits]
  rw [e, ofInt_u8, wrap_u8']
  show (((BitVec.allOnes 8 ^^^ a.toBitVec : BitVec 8).toNat : Int)) % 256 = _
  rw [BitVec.allOnes_xor]
  have := (~~~a).toNat_lt
  simp only [UInt8.toNat, UInt8.toBitVec_not] at this ⊢
  omega
theorem not16_ok (a : UInt16) : intBitsV .xor .u16 (if IntKind.u16.signed then -1 else IntKind.u16.max) a.toNat = ((~~~a).toNat : Int) := by
  have em : (if IntKind.u16.signed then (-1 : Int) else IntKind.u16.max) = 65535 := by decide
  have e : BitVec.ofInt 16 65535 = BitVec.allOnes 16 := by decide
  rw [em]
  simp only [intBitsV, IntKind.bits]
  rw [e, ofInt_u16, wrap_u16']
  show (((BitVec.allOnes 16 ^^^ a.toBitVec : BitVec 16).toNat : Int)) % 65536 = _
  rw [BitVec.allOnes_xor]
  have := (~~~a).toNat_lt
  simp only [UInt16.toNat, UInt16.toBitVec_not] at this ⊢
  omega
theorem not32_ok (a : UInt32) : intBitsV .xor .u32 (if IntKind.u32.signed then -1 else IntKind.u32.max) a.toNat = ((~~~a).toNat : Int) := by
  have em : (if IntKind.u32.signed then (-1 : Int) else IntKind.u32.max) = 4294967295 := by decide
  have e : BitVec.ofInt 32 4294967295 = BitVec.allOnes 32 := by decide
  rw [em]
  simp only [intBitsV, IntKind.bits]
  rw [e, ofInt_u32, wrap_u32']
  show (((BitVec.allOnes 32 ^^^ a.toBitVec : BitVec 32).toNat : Int)) % 4294967296 = _
  rw [BitVec.allOnes_xor]
  have := (~~~a).toNat_lt
  simp only [UInt32.toNat, UInt32.toBitVec_not] at this ⊢
  omega
theorem not64_ok (a : UInt64) : intBitsV .xor .u64 (if IntKind.u64.signed then -1 else IntKind.u64.max) a.toNat = ((~~~a).toNat : Int) := by
  have em : (if IntKind.u64.signed then (-1 : Int) else IntKind.u64.max) = 18446744073709551615 := by decide
  have e : BitVec.ofInt 64 18446744073709551615 = BitVec.allOnes 64 := by decide
  rw [em]
  simp only [intBitsV, IntKind.bits]
  rw [e, ofInt_u64, wrap_u64']
  show (((BitVec.allOnes 64 ^^^ a.toBitVec : BitVec 64).toNat : Int)) % 18446744073709551616 = _
  rw [BitVec.allOnes_xor]
  have := (~~~a).toNat_lt
  simp only [UInt64.toNat, UInt64.toBitVec_not] at this ⊢
  omega

theorem unT_ok (o : UnOp) (x : TV) : (unT o x).gives (fun z => ∃ a v, x.av = .v a ∧ unV o a = some v ∧ z = .v v) := by
  intro ws h
  unfold unT at h
  split at h <;> first
    | exact h.elim
    | (cases h; exact ⟨_, rfl, _, _, rfl, rfl, rfl⟩)
    | (cases h; refine ⟨_, rfl, _, _, rfl, rfl, ?_⟩
       rename_i a
       have := a.toNat_lt
       simp only [TV.av, byteAV, u64AV, AV.v.injEq, Value.int.injEq, true_and]
       first
         | (rw [wrap_u8', UInt8.toNat_sub]; simp; omega)
         | (rw [wrap_u16', UInt16.toNat_sub]; simp; omega)
         | (rw [wrap_u32', UInt32.toNat_sub]; simp; omega)
         | (rw [wrap_u64', UInt64.toNat_sub]; simp; omega)
         | exact (not8_ok a).symm | exact (not16_ok a).symm | exact (not32_ok a).symm | exact (not64_ok a).symm)
end Go.Eng
