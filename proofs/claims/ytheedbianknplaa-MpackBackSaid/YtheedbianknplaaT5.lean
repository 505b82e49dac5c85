/- Texts of my own, one behind the other: MpP5, MpP6, MpP7, MpP8, MpP9, MpP10, MpP11, MpP12, MpP13, MpP14, Sized, MpP, MpOK, MpR1, MpR2, MpR3, MpLBack, MpQBack, MpOKBack. -/
import Derived.Test.YtheedbianknplaaT4
import Derived.WalkKit
import Derived.WalkSpells
import Derived.WalkLawsBesides
import Derived.ChangeSlices
import Derived.Maps.OwnOps
set_option linter.unusedVariables false
set_option linter.unusedSimpArgs false
namespace Go.Eng
open Go.IntWalk
theorem Cur.be_lt : ∀ (l : Str) (x : UInt64) (k : Nat), x.toNat < 256 ^ k → k + l.length ≤ 8 → (l.foldl (fun v y => v * 256 + y.toUInt64) x).toNat < 256 ^ (k + l.length)
  | [], x, k, h, _ => by simpa using h
  | y :: l, x, k, h, hl => by
    rw [List.foldl_cons, List.length_cons, show k + (l.length + 1) = (k + 1) + l.length by omega]
    refine Cur.be_lt l _ (k + 1) ?_ (by simp at hl; omega)
    have hy := y.toNat_lt
    have h8 : k + 1 ≤ 8 := by simp at hl; omega
    have hp : 256 ^ (k + 1) ≤ 256 ^ 8 := Nat.pow_le_pow_right (by omega) h8
    rw [UInt64.toNat_add, UInt64.toNat_mul, UInt8.toNat_toUInt64, show (256 : UInt64).toNat = 256 from rfl, Nat.pow_succ]
    rw [Nat.pow_succ] at hp
    omega
theorem Cur.be_bound (l : Str) (n : Nat) (h : l.length = n) (hn : n ≤ 8) : (Cur.be l).toNat < 256 ^ n := by
  have := Cur.be_lt l 0 0 (by simp) (by omega)
  rw [Nat.zero_add, h] at this
  exact this
theorem mp_kids.l2_ok (n : Nat) (b : Str) (hb : b.length ≤ 1099511627776) (depth : Int) (hd : 1 ≤ depth ∧ depth ≤ 1000) (hn : 2 * depth.toNat < n + 1) (M : Int) (hM : M ≤ 8589934592) (kind : Int) (u : UInt64) (t : Str) (x7 : Itv) (x8 : Flt) :
    ∀ (k : Nat) (i : Int) (acc : List Itm) (q : Int), 0 ≤ i → i + k = M → 0 ≤ q → q ≤ b.length → (acc.length : Int) ≤ q →
      mp_kids.l2 n depth M i kind u t acc x7 x8 ⟨b, q⟩ = some [.ag (Itv.cells (Itm.val (Mp.kids (Mp.read b (depth - 1).toNat) (Itm.mk kind u [] t acc) k q).it)), .ag (Flt.cells (Flt.mk (Mp.kids (Mp.read b (depth - 1).toNat) (Itm.mk kind u [] t acc) k q).err (Mp.kids (Mp.read b (depth - 1).toNat) (Itm.mk kind u [] t acc) k q).at_ [])), .ag (Rdr.cells (Rdr.mk b (Mp.kids (Mp.read b (depth - 1).toNat) (Itm.mk kind u [] t acc) k q).pos))] := by
  intro k
  induction k with
  | zero =>
    intro i acc q hi0 hi h0 h1 ha
    refine mp_kids.l2_in _ _ _ _ _ _ _ _ _ _ _ ?_
    intro v1 e1 v2 e2 v3 e3 v4 e4 v5 e5
    rw [decide_eq_false (by omega), cond_false]; rfl
  | succ k ih =>
    intro i acc q hi0 hi h0 h1 ha
    refine mp_kids.l2_in _ _ _ _ _ _ _ _ _ _ _ ?_
    intro v1 e1 v2 e2 v3 e3 v4 e4 v5 e5
    have e1' : v1 = depth - 1 := by rw [e1, i64_in _ (by omega)]
    obtain ⟨g1, g2, g3⟩ := Mp.read_pos b (depth - 1).toNat q h0 h1
    rw [e1'] at e2 e3 e4
    simp only [Itm.of_val] at e2 e3 e4
    rw [decide_eq_true (by omega), cond_true, ck_of (by rw [Cur.good_iff.2 ⟨h0, h1, hb⟩, decide_eq_true (by omega), decide_eq_true (by omega)]; rfl), Mp.kids, e2]
    by_cases a : (Mp.read b (depth - 1).toNat q).err = 0
    · rw [decide_eq_true a, Bool.not_true, cond_false, if_neg (fun h => h a), e4]
      have := g3 a
      rw [ck_of (big_ap (by simp only [List.length_singleton]; omega) (by simp only [List.length_singleton]; omega)), show v5 = i + 1 by rw [e5, i64_in _ (by omega)], e3]
      exact ih (i + 1) (acc ++ [(Mp.read b (depth - 1).toNat q).it]) _ (by omega) (by omega) (by omega) g2 (by rw [List.length_append, List.length_singleton]; omega)
    · rw [decide_eq_false a, Bool.not_false, cond_true, if_pos a, e3]; rfl
theorem mp_kids.goal (n : Nat) (r : Rdr) (it : Itv) (m depth : Int) (hp : ((Cur.good r && decide (0 ≤ m ∧ m ≤ 4294967296 ∧ 1 ≤ depth ∧ depth ≤ 1000)) && decide ((2 * depth.toNat) < n + 1)) = true) :
    mp_kids.F n r it m depth = some [.ag (Itv.cells (Itm.val (Mp.kids (Mp.read r.b (depth - 1).toNat) (Itm.mk it.kind it.n [] it.text []) (Mp.many it.kind m) r.at_).it)), .ag (Flt.cells (Flt.mk (Mp.kids (Mp.read r.b (depth - 1).toNat) (Itm.mk it.kind it.n [] it.text []) (Mp.many it.kind m) r.at_).err (Mp.kids (Mp.read r.b (depth - 1).toNat) (Itm.mk it.kind it.n [] it.text []) (Mp.many it.kind m) r.at_).at_ [])), .ag (Rdr.cells (Rdr.mk r.b (Mp.kids (Mp.read r.b (depth - 1).toNat) (Itm.mk it.kind it.n [] it.text []) (Mp.many it.kind m) r.at_).pos))] := by
  simp only [Bool.and_eq_true, decide_eq_true_eq] at hp
  obtain ⟨⟨hg, hm⟩, hn⟩ := hp
  obtain ⟨h0, h1, h2⟩ := Cur.good_iff.1 hg
  refine mp_kids.F_in _ _ _ _ _ ?_
  intro v1 e1
  have e1' : v1 = m * 2 := by rw [e1, i64_in _ (by omega)]
  unfold Mp.many
  by_cases a : it.kind = 6
  · rw [decide_eq_true a, cond_true, if_pos a, mp_kids.j1_eq]
    exact mp_kids.l2_ok n r.b h2 depth (by omega) (by omega) v1 (by omega) _ _ _ _ _ _ 0 [] _ (by omega) (by omega) h0 h1 h0
  · rw [decide_eq_false a, cond_false, if_neg a, mp_kids.j1_eq]
    exact mp_kids.l2_ok n r.b h2 depth (by omega) (by omega) m (by omega) _ _ _ _ _ _ 0 [] _ (by omega) (by omega) h0 h1 h0
theorem shl_toNat (n : UInt64) (k : Nat) : (shl64 n k).toNat = n.toNat * 2 ^ k % 18446744073709551616 := by
  rw [shl64, UInt64.toNat_ofNat']
theorem not_u64 (v : UInt64) : (~~~ v).toNat = 18446744073709551615 - v.toNat := by
  have := v.toNat_lt
  have h : UInt64.size = 18446744073709551616 := rfl
  rw [UInt64.toNat_not]; omega
theorem u64_int (n : Int) : (UInt64.ofInt n).toNat = (n % 18446744073709551616).toNat := by
  have h := u64_ofInt n
  rw [wrap_u64'] at h; omega
theorem Mp.below_eq (n : UInt64) (long : Int) (hl : long = 1 ∨ long = 2 ∨ long = 4 ∨ long = 8) (hn : n.toNat < 256 ^ long.toNat) (s : Int) (hs : s = 64 - 8 * long) (v : UInt64)
    (hv : v = ~~~ (UInt64.ofInt (Int.fdiv (IntKind.i64.wrap ((shl64 n s.toNat).toNat : Int)) (2 ^ (min s.toNat IntKind.i64.bits))))) :
    match Mp.below n long with | none => 9223372036854775808 ≤ v | some m => v = m ∧ ¬ 9223372036854775808 ≤ v := by
  have hw := n.toNat_lt
  have key : ∀ (top : UInt64) (k L : Nat), s.toNat = k → k + L = 64 → 0 < L → top.toNat = 2 ^ (L - 1) → n.toNat < 2 ^ L → (match (if n < top then none else some (top - 1 - (n - top)) : Option UInt64) with | none => 9223372036854775808 ≤ v | some m => v = m ∧ ¬ 9223372036854775808 ≤ v) := by
    intro top k L hk hkL hL ht hnL
    have hb : (2 : Nat) ^ (k + (L - 1)) = 2 ^ 63 := by rw [show k + (L - 1) = 63 by omega]
    rw [Nat.pow_add] at hb
    have hkp : 0 < 2 ^ k := Nat.pow_pos (by omega)
    have hLp : 0 < 2 ^ (L - 1) := Nat.pow_pos (by omega)
    have h2L : 2 ^ L = 2 * 2 ^ (L - 1) := by
      have e : L = (L - 1) + 1 := by omega
      conv => lhs; rw [e, Nat.pow_succ]
      omega
    have hmul : n.toNat * 2 ^ k < 18446744073709551616 := by
      have : n.toNat * 2 ^ k < 2 ^ L * 2 ^ k := Nat.mul_lt_mul_of_pos_right hnL hkp
      rw [h2L, Nat.mul_assoc, Nat.mul_comm (2 ^ (L - 1)), hb] at this
      exact this
    have hsh : (shl64 n s.toNat).toNat = n.toNat * 2 ^ k := by rw [shl_toNat, hk, Nat.mod_eq_of_lt hmul]
    have hmin : min s.toNat IntKind.i64.bits = k := by rw [hk]; show min k 64 = k; omega
    rw [hsh, hmin] at hv
    have hcast : ((2 : Int) ^ k) = ((2 ^ k : Nat) : Int) := by rw [Int.natCast_pow]; rfl
    rw [hcast] at hv
    have hvn : v.toNat = 18446744073709551615 - (UInt64.ofInt (Int.fdiv (IntKind.i64.wrap ((n.toNat * 2 ^ k : Nat) : Int)) ((2 ^ k : Nat) : Int))).toNat := by rw [hv, not_u64]
    by_cases a : n < top
    · rw [if_pos a]
      have a' := UInt64.lt_iff_toNat_lt.1 a
      rw [ht] at a'
      have hsmall : n.toNat * 2 ^ k < 9223372036854775808 := by
        have : n.toNat * 2 ^ k < 2 ^ (L - 1) * 2 ^ k := Nat.mul_lt_mul_of_pos_right a' hkp
        rw [Nat.mul_comm (2 ^ (L - 1)), hb] at this
        exact this
      rw [i64_in _ (by omega), Int.fdiv_eq_ediv_of_nonneg _ (by omega), show ((n.toNat * 2 ^ k : Nat) : Int) / ((2 ^ k : Nat) : Int) = ((n.toNat * 2 ^ k / 2 ^ k : Nat) : Int) from rfl, Nat.mul_div_cancel _ hkp, u64_nat, Nat.mod_eq_of_lt hw] at hvn
      have hL63 : 2 ^ (L - 1) ≤ 2 ^ 63 := Nat.pow_le_pow_right (by omega) (by omega)
      show 9223372036854775808 ≤ v
      rw [UInt64.le_iff_toNat_le, hvn, show (9223372036854775808 : UInt64).toNat = 9223372036854775808 from rfl]
      omega
    · rw [if_neg a]
      have a' : 2 ^ (L - 1) ≤ n.toNat := by rw [← ht]; exact Nat.le_of_not_lt fun h => a (UInt64.lt_iff_toNat_lt.2 h)
      have hbig : 9223372036854775808 ≤ n.toNat * 2 ^ k := by
        have : 2 ^ (L - 1) * 2 ^ k ≤ n.toNat * 2 ^ k := Nat.mul_le_mul_right _ a'
        rw [Nat.mul_comm (2 ^ (L - 1)), hb] at this
        exact this
      have hwr : IntKind.i64.wrap ((n.toNat * 2 ^ k : Nat) : Int) = ((n.toNat : Int) - ((2 ^ L : Nat) : Int)) * ((2 ^ k : Nat) : Int) := by
        rw [IntKind.wrap_i64, Int.sub_mul, show ((2 ^ L : Nat) : Int) * ((2 ^ k : Nat) : Int) = ((2 ^ L * 2 ^ k : Nat) : Int) by simp, h2L, Nat.mul_assoc, Nat.mul_comm (2 ^ (L - 1)), hb, show (n.toNat : Int) * ((2 ^ k : Nat) : Int) = ((n.toNat * 2 ^ k : Nat) : Int) by simp]
        omega
      have hL64 : 2 ^ L ≤ 2 ^ 64 := Nat.pow_le_pow_right (by omega) (by omega)
      rw [hwr, Int.mul_fdiv_cancel _ (by omega), u64_int] at hvn
      have e1 : (1 : UInt64).toNat = 1 := rfl
      have hm : (top - 1 - (n - top)).toNat = 2 ^ L - 1 - n.toNat := by
        have h1 : (top - 1).toNat = 2 ^ (L - 1) - 1 := by
          rw [UInt64.toNat_sub_of_le _ _ (by rw [UInt64.le_iff_toNat_le, ht, e1]; omega), ht, e1]
        have h2 : (n - top).toNat = n.toNat - 2 ^ (L - 1) := by
          rw [UInt64.toNat_sub_of_le _ _ (by rw [UInt64.le_iff_toNat_le, ht]; exact a'), ht]
        rw [UInt64.toNat_sub_of_le _ _ (by rw [UInt64.le_iff_toNat_le, h1, h2]; omega), h1, h2]; omega
      refine ⟨UInt64.toNat_inj.1 ?_, fun h => ?_⟩
      · rw [hm, hvn]; omega
      · rw [UInt64.le_iff_toNat_le, hvn, show (9223372036854775808 : UInt64).toNat = 9223372036854775808 from rfl] at h
        omega
  unfold Mp.below
  rcases hl with rfl | rfl | rfl | rfl
  · exact key 128 56 8 (by omega) rfl (by decide) rfl (by simpa using hn)
  · exact key 32768 48 16 (by omega) rfl (by decide) rfl (by simpa using hn)
  · exact key 2147483648 32 32 (by omega) rfl (by decide) rfl (by simpa using hn)
  · exact key 9223372036854775808 0 64 (by omega) rfl (by decide) rfl (by simpa using hn)
section
variable {n : Nat} {depth p c k long q : Int} {u t : UInt64} {b : Str}
def Mp.Got.tvs (b : Str) (g : Mp.Got) : List TV := [.ag (Itv.cells (Itm.val g.it)), .ag (Flt.cells (Flt.mk g.err g.at_ [])), .ag (Rdr.cells (Rdr.mk b g.pos))]
theorem mp_read.j4_ok (x3 : Itv) (x4 : Flt) (v : UInt64) (x6 : UInt64) (hv : match (none : Option UInt64) with | none => True | some _ => True) :
    mp_read.j4 n p c v x3 x4 k x6 [] ⟨b, q⟩ = some (Mp.Got.tvs b (if 9223372036854775808 ≤ v then Mp.bad 3 p q else Mp.num (.mk k v [] [] []) p c (Mp.signed v).1 q)) := by
  refine mp_read.j4_in _ _ _ _ _ _ _ _ _ _ ?_
  intro v1 e1
  by_cases a : 9223372036854775808 ≤ v
  · rw [decide_eq_true a, cond_true, if_pos a]; rfl
  · rw [decide_eq_false a, cond_false, if_neg a, e1]
    simp only [Mp.num, Itm.of]
    split <;> rfl
theorem mp_read.j3_ok (x8 : Itv) (x9 : Flt) (hd : 1 ≤ depth ∧ depth ≤ 1000) (hn : 2 * depth.toNat < n) (hb : b.length ≤ 1099511627776) (hq : 0 ≤ q ∧ q ≤ b.length)
    (hk : k = 1 ∨ k = 2 ∨ k = 3 ∨ k = 4 ∨ k = 5 ∨ k = 6 ∨ k = 8 ∨ k = 9 ∨ k = 10) (hl : long = 0 ∨ long = 1 ∨ long = 2 ∨ long = 4 ∨ long = 8)
    (hu : long ≠ 0 → u.toNat < 256 ^ long.toNat) (hu0 : long = 0 → u.toNat ≤ 127) (h8 : long = 8 → k = 1 ∨ k = 2 ∨ k = 9) :
    mp_read.j3 n depth p c k u long k (decide (k = 8 ∨ k = 9)) x8 x9 k t [] ⟨b, q⟩ = some (Mp.Got.tvs b (Mp.readEnd b (Mp.read b (depth - 1).toNat) p c k u long t q)) := by
  refine mp_read.j3_in _ _ _ _ _ _ _ _ _ _ _ _ _ _ _ ?_
  intro v1 e1 v2 e2 v3 e3 v4 e4 v5 e5 v6 e6 v7 e7 v8 e8 v9 e9 v10 e10 v11 e11 v12 e12 v13 e13
  have hg : Cur.good ⟨b, q⟩ = true := Cur.good_iff.2 ⟨hq.1, hq.2, hb⟩
  unfold Mp.readEnd
  by_cases a : k = 8 ∨ k = 9
  · rw [decide_eq_true a, cond_true, if_pos a]; rfl
  rw [decide_eq_false a, cond_false, if_neg a]
  by_cases a1 : k = 1
  · rw [decide_eq_true a1, cond_true, if_pos a1, e1]
    simp only [Mp.num, Itm.of]
    split <;> rfl
  rw [decide_eq_false a1, cond_false, if_neg a1]
  by_cases a2 : k = 2
  · rw [decide_eq_true a2, cond_true, if_pos a2]
    by_cases a3 : long = 0
    · rw [decide_eq_false (by omega), cond_false, if_pos a3, mp_read.j4_ok _ _ _ _ trivial, if_neg (fun h => by
        have := UInt64.le_iff_toNat_le.1 h
        have := hu0 a3
        rw [show (9223372036854775808 : UInt64).toNat = 9223372036854775808 from rfl] at *
        omega)]
    · have hl' : long = 1 ∨ long = 2 ∨ long = 4 ∨ long = 8 := by omega
      have e3' : v3 = 64 - 8 * long := by rw [e3, e2, i64_in (8 * long) (by omega), i64_in _ (by omega)]
      have hB := Mp.below_eq u long hl' (hu a3) v3 e3' _ rfl
      rw [decide_eq_true (by omega), cond_true, if_neg a3, ck_of (decide_eq_true (by omega)), ck_of (decide_eq_true (by omega)), mp_read.j4_ok _ _ _ _ trivial, e5, e4]
      cases hbl : Mp.below u long with
      | none => rw [hbl] at hB; rw [if_pos hB]
      | some m => rw [hbl] at hB; rw [if_neg hB.2, hB.1]
  rw [decide_eq_false a2, cond_false, if_neg a2]
  have hu32 : u.toNat < 4294967296 := by
    by_cases a3 : long = 0
    · have := hu0 a3; omega
    · have hq3 := hu a3
      have h124 : long = 1 ∨ long = 2 ∨ long = 4 := by
        rcases hl with h | h | h | h | h
        · exact (a3 h).elim
        · exact .inl h
        · exact .inr (.inl h)
        · exact .inr (.inr h)
        · have := h8 h; omega
      rcases h124 with h | h | h <;> rw [h] at hq3 <;> simp at hq3 <;> omega
  have e6' : v6 = (u.toNat : Int) := by rw [e6, i64_in _ (by omega)]
  have hs : Mp.sizeds k = true := by unfold Mp.sizeds; exact decide_eq_true (by omega)
  rw [ck_of (by rw [hs, decide_eq_true (by omega)]; rfl)]
  have h7 : (!decide ((Mp.sized k v6).1 = c) || v7) = true := by rw [e7]; cases decide ((Mp.sized k v6).1 = c) <;> rfl
  simp only [Bool.not_or_self, ck_true]
  rw [ck_of h7, e8, e6']
  by_cases a4 : (Mp.sized k u.toNat).1 ≠ c ∨ 127 < t
  · rw [if_pos a4, show (cond (!decide ((Mp.sized k u.toNat).1 = c)) true (decide (127 < t))) = true by
      by_cases a5 : (Mp.sized k u.toNat).1 = c
      · rw [decide_eq_true a5]; simpa using a4.resolve_left (fun h => h a5)
      · rw [decide_eq_false a5]; rfl]; rfl
  · have a5 : (Mp.sized k u.toNat).1 = c := Classical.byContradiction fun h => a4 (.inl h)
    have a6 : ¬ 127 < t := fun h => a4 (.inr h)
    rw [if_neg a4, a5, decide_eq_true rfl, decide_eq_false a6]
    simp only [Bool.not_true, cond_false, Bool.or_not_self, ck_true]
    rw [e9]
    by_cases k5 : k = 5
    · rw [decide_eq_true k5, cond_true, cond_true, if_pos k5, ck_of (by rw [hg, decide_eq_true (by omega), decide_eq_true (by omega)]; rfl), e10, e11, e6', show Mp.many (Itv.kind ⟨k, t, [], [], []⟩) (u.toNat : Int) = u.toNat by unfold Mp.many; rw [if_neg (by show ¬ k = 6; omega)]; omega]
      rfl
    rw [decide_eq_false k5, cond_false, if_neg k5]
    by_cases k6 : k = 6
    · rw [decide_eq_true k6, cond_true, if_pos k6, ck_of (by rw [hg, decide_eq_true (by omega), decide_eq_true (by omega)]; rfl), e10, e11, e6', show Mp.many (Itv.kind ⟨k, t, [], [], []⟩) (u.toNat : Int) = 2 * u.toNat by unfold Mp.many; rw [if_pos (by show k = 6; omega)]; omega]
      rfl
    rw [decide_eq_false k6, cond_false, if_neg k6, ck_of hg, e12, e13, e6']
    rfl
theorem u8_u64 (v : UInt8) : UInt64.ofInt ((v.toNat : Nat) : Int) = v.toUInt64 := by
  apply UInt64.toNat_inj.1
  have := v.toNat_lt
  rw [u64_nat, UInt8.toNat_toUInt64]; omega
theorem mp_read.j1_ok (x6 : Itv) (x7 : Flt) (hd : 1 ≤ depth ∧ depth ≤ 1000) (hn : 2 * depth.toNat < n) (hb : b.length ≤ 1099511627776) (hq : 0 ≤ q ∧ q ≤ b.length)
    (hk : k = 1 ∨ k = 2 ∨ k = 3 ∨ k = 4 ∨ k = 5 ∨ k = 6 ∨ k = 8 ∨ k = 9 ∨ k = 10) (hl : long = 0 ∨ long = 1 ∨ long = 2 ∨ long = 4 ∨ long = 8)
    (hu : long ≠ 0 → u.toNat < 256 ^ long.toNat) (hu0 : long = 0 → u.toNat ≤ 127) (h8 : long = 8 → k = 1 ∨ k = 2 ∨ k = 9) :
    mp_read.j1 n depth p c k u long x6 x7 ⟨b, q⟩ = some (Mp.Got.tvs b (Mp.readTail b (Mp.read b (depth - 1).toNat) p c k u long q)) := by
  have hg : Cur.good ⟨b, q⟩ = true := Cur.good_iff.2 ⟨hq.1, hq.2, hb⟩
  have two : ∀ (t : UInt64) (q' : Int), 0 ≤ q' ∧ q' ≤ b.length → mp_read.j2 n depth p c k u long x6 x7 k t [] ⟨b, q'⟩ = some (Mp.Got.tvs b (Mp.readEnd b (Mp.read b (depth - 1).toNat) p c k u long t q')) := by
    intro t q' hq'
    rw [mp_read.j2_eq]
    have J := mp_read.j3_ok (n := n) (depth := depth) (p := p) (c := c) (k := k) (long := long) (q := q') (u := u) (t := t) (b := b) x6 x7 hd hn hb hq' hk hl hu hu0 h8
    by_cases a : k = 8
    · rw [decide_eq_true a, cond_true, ← J]
      congr 1
      exact (decide_eq_true (Or.inl a)).symm
    · rw [decide_eq_false a, cond_false, ← J]
      congr 1
      by_cases a9 : k = 9
      · rw [decide_eq_true a9]; exact (decide_eq_true (Or.inr a9)).symm
      · rw [decide_eq_false a9]; exact (decide_eq_false (by omega)).symm
  rw [mp_read.j1_eq, Mp.readTail]
  by_cases a : k = 10
  · rw [decide_eq_true a, cond_true, if_pos a, ck_of hg]
    by_cases m : q < b.length
    · rw [show Cur.more ⟨b, q⟩ = true from decide_eq_true m, Bool.not_true, cond_false, if_neg (by omega), show Cur.byte ⟨b, q⟩ = ((b.getD q.toNat 0).toNat : Int) from if_pos m, u8_u64]
      exact two _ (q + 1) (by omega)
    · rw [show Cur.more ⟨b, q⟩ = false from decide_eq_false m, Bool.not_false, cond_true, if_pos (by omega)]; rfl
  · rw [decide_eq_false a, cond_false, if_neg a]
    exact two 0 q hq
end
theorem mp_read.goal (n : Nat) (r : Rdr) (depth : Int) (hp : ((Cur.good r && decide (0 ≤ depth ∧ depth ≤ 1000)) && decide ((2 * depth.toNat + 1) < n + 1)) = true) :
    mp_read.F n r depth = some [.ag (Itv.cells (Itm.val (Mp.read r.b depth.toNat r.at_).it)), .ag (Flt.cells (Flt.mk (Mp.read r.b depth.toNat r.at_).err (Mp.read r.b depth.toNat r.at_).at_ [])), .ag (Rdr.cells (Rdr.mk r.b (Mp.read r.b depth.toNat r.at_).pos))] := by
  simp only [Bool.and_eq_true, decide_eq_true_eq] at hp
  obtain ⟨⟨hg, hd⟩, hn⟩ := hp
  obtain ⟨h0, h1, h2⟩ := Cur.good_iff.1 hg
  obtain ⟨b, p⟩ := r
  simp only at h0 h1 h2 ⊢
  show mp_read.F n ⟨b, p⟩ depth = some (Mp.Got.tvs b (Mp.read b depth.toNat p))
  refine mp_read.F_in _ _ _ ?_
  intro v1 e1 v2 e2 v3 e3 v4 e4 v5 e5 v6 e6 v7 e7 v8 e8 v9 e9
  by_cases a : depth = 0
  · rw [decide_eq_true a, cond_true, a, e1]; rfl
  obtain ⟨d, rfl⟩ : ∃ d : Nat, depth = (d : Int) + 1 := ⟨(depth - 1).toNat, by omega⟩
  rw [decide_eq_false a, cond_false, ck_of hg, show ((d : Int) + 1).toNat = d + 1 by omega, Mp.read]
  by_cases m : p < b.length
  · have hm : Cur.more ⟨b, p⟩ = true := decide_eq_true m
    have hby : Cur.byte ⟨b, p⟩ = ((b.getD p.toNat 0).toNat : Int) := if_pos m
    have hc : 0 ≤ ((b.getD p.toNat 0).toNat : Int) ∧ ((b.getD p.toNat 0).toNat : Int) ≤ 255 := ⟨by omega, by have := (b.getD p.toNat 0).toNat_lt; omega⟩
    rw [hby] at e3 e4 e5
    rw [hm] at e7 e8 e9
    have had : Cur.adv ⟨b, p⟩ 1 true = ⟨b, p + 1⟩ := rfl
    rw [had] at e7 e8 e9
    obtain ⟨F1, F2, F3, F4, F5⟩ := Mp.first_kinds _ hc
    rw [hm, Bool.not_true, cond_false, hby, had, ck_of (decide_eq_true hc), if_neg (by omega), ← e3, ← e4, ← e5, Mp.readAt]
    rw [← e3, ← e4, ← e5] at *
    by_cases k0 : v3 = 0
    · rw [decide_eq_true k0, cond_true, if_pos k0, e6]; rfl
    rw [decide_eq_false k0, cond_false, if_neg k0]
    have hg' : Cur.good ⟨b, p + 1⟩ = true := Cur.good_iff.2 ⟨by show 0 ≤ p + 1; omega, by show p + 1 ≤ (b.length : Int); omega, h2⟩
    by_cases l0 : v5 = 0
    · rw [decide_eq_false (by omega), cond_false, if_neg (by omega), if_pos l0, l0, Int.add_zero]
      have J := mp_read.j1_ok (n := n) (depth := (d : Int) + 1) (p := p) (c := ((b.getD p.toNat 0).toNat : Int)) (k := v3) (long := 0) (q := p + 1) (u := v4) (b := b) ⟨0, 0, [], [], []⟩ ⟨0, 0, []⟩ (by omega) (by omega) h2 (by omega) (by omega) (by omega) (fun h => (h rfl).elim) (fun _ => F4 l0) (fun h => by omega)
      rw [show ((d : Int) + 1 - 1).toNat = d by omega] at J
      exact J
    · rw [decide_eq_true (by omega), cond_true, ck_of hg']
      have h8' : v8 = !decide ((b.length : Int) - (p + 1) < v5) := by
        rw [e8, Cur.ok8]
        by_cases x : (b.length : Int) - (p + 1) < v5
        · rw [decide_eq_true x]; exact decide_eq_false (by show ¬ (1 ≤ v5 ∧ v5 ≤ 8 ∧ v5 ≤ (b.length : Int) - (p + 1)); omega)
        · rw [decide_eq_false x]; exact decide_eq_true (by show 1 ≤ v5 ∧ v5 ≤ 8 ∧ v5 ≤ (b.length : Int) - (p + 1); omega)
      rw [← e8] at e7 e9
      by_cases x : (b.length : Int) - (p + 1) < v5
      · rw [decide_eq_true x] at h8'
        rw [if_pos x, h8', e2, e9, h8']; rfl
      · rw [decide_eq_false x] at h8'
        rw [if_neg x, if_neg l0, h8', e9, e7, h8', Bool.not_false, Bool.not_true, cond_false]
        have hbl := Cur.be_bound ((b.drop (p + 1).toNat).take v5.toNat) v5.toNat (by rw [List.length_take, List.length_drop]; omega) (by omega)
        have J := mp_read.j1_ok (n := n) (depth := (d : Int) + 1) (p := p) (c := ((b.getD p.toNat 0).toNat : Int)) (k := v3) (long := v5) (q := p + 1 + v5) (u := Cur.be ((b.drop (p + 1).toNat).take v5.toNat)) (b := b) ⟨0, 0, [], [], []⟩ ⟨0, 0, []⟩ (by omega) (by omega) h2 (by omega) (by omega) F2 (fun _ => hbl) (fun h => (l0 h).elim) F3
        rw [show ((d : Int) + 1 - 1).toNat = d by omega] at J
        exact J
  · have hm : Cur.more ⟨b, p⟩ = false := decide_eq_false m
    rw [hm, Bool.not_false, cond_true, if_pos (by omega), e2]; rfl
theorem mp_Decode.goal (b : Str) (depth : Int) (hp : decide (b.length ≤ 1099511627776) = true) : mp_Decode.F b depth = some [.ag (Itv.cells (Itm.val (Mp.dec b depth).1)), .ag (Flt.cells (Mp.dec b depth).2)] := by
  have hb := of_decide_eq_true hp
  refine mp_Decode.F_in _ _ ?_
  intro v1 e1 v2 e2 v3 e3 v4 e4 v5 e5
  simp only [Bool.not_or_self, Bool.or_not_self, ck_true]
  have e1' : v1 = decide (depth < 0 ∨ 1000 < depth) := by
    rw [e1]
    by_cases a : depth < 0 <;> by_cases b : 1000 < depth <;> simp [a, b]
  rw [e1', Mp.dec]
  by_cases a : depth < 0 ∨ 1000 < depth
  · rw [decide_eq_true a, cond_true, if_pos a, e2]
  have hg : Cur.good ⟨b, 0⟩ = true := Cur.good_iff.2 ⟨Int.le_refl _, by show (0 : Int) ≤ (b.length : Int); omega, hb⟩
  obtain ⟨g1, g2, _⟩ := Mp.read_pos b depth.toNat 0 (Int.le_refl _) (by omega)
  simp only at e3 e4
  rw [decide_eq_false a, cond_false, if_neg a, ck_of hp, ck_of (by rw [hg, decide_eq_true (by omega)]; rfl), e3]
  by_cases x : (Mp.read b depth.toNat 0).err = 0
  · have hg4 : Cur.good v4 = true := by rw [e4]; exact Cur.good_iff.2 ⟨g1, g2, hb⟩
    rw [decide_eq_true x, Bool.not_true, cond_false, if_neg (fun h => h x), ck_of hg4, e5, e4]
    by_cases y : (Mp.read b depth.toNat 0).pos < b.length
    · rw [decide_eq_true (by show 0 < (b.length : Int) - (Mp.read b depth.toNat 0).pos; omega), cond_true, if_pos y]
    · rw [decide_eq_false (by show ¬ 0 < (b.length : Int) - (Mp.read b depth.toNat 0).pos; omega), cond_false, if_neg y]; rfl
  · rw [decide_eq_false x, Bool.not_false, cond_true, if_pos x]; rfl
end Go.Eng
namespace Go.Eng
open Go.IntWalk
theorem maxI_max (a b : Int) : maxI a b = max a b := by unfold maxI; omega
end Go.Eng
namespace Go.Eng
open Go.IntWalk
theorem u64_small {n : Nat} (h : n < 4294967296) : (UInt64.ofNat n).toNat = n := by rw [UInt64.toNat_ofNat']; omega
theorem Mp.sized_text (m : Int) : Mp.sized 4 m = if m < 32 then (160 + m, 0) else if m < 256 then (217, 1) else if m < 65536 then (218, 2) else (219, 4) := by simp [Mp.sized, Mp.fixed, Mp.fix, Mp.tab, Mp.base]
theorem Mp.sized_bytes (m : Int) (h : 0 ≤ m) : Mp.sized 3 m = if m < 256 then (196, 1) else if m < 65536 then (197, 2) else (198, 4) := by
  have : ¬ m < 0 := by omega
  simp [Mp.sized, Mp.fixed, Mp.fix, Mp.tab, Mp.base, this]
theorem Mp.sized_list (m : Int) : Mp.sized 5 m = if m < 16 then (144 + m, 0) else if m < 65536 then (220, 2) else (221, 4) := by simp [Mp.sized, Mp.fixed, Mp.fix, Mp.tab, Mp.base]
theorem Mp.sized_map (m : Int) : Mp.sized 6 m = if m < 16 then (128 + m, 0) else if m < 65536 then (222, 2) else (223, 4) := by simp [Mp.sized, Mp.fixed, Mp.fix, Mp.tab, Mp.base]
theorem Mp.sized_ext (m : Int) (h : 0 ≤ m) (h1 : m ≠ 1) (h2 : m ≠ 2) (h4 : m ≠ 4) (h8 : m ≠ 8) (h16 : m ≠ 16) : Mp.sized 10 m = if m < 256 then (199, 1) else if m < 65536 then (200, 2) else (201, 4) := by
  have : ¬ m < 0 := by omega
  simp [Mp.sized, Mp.fixed, Mp.fix, Mp.tab, Mp.base, this, h1, h2, h4, h8, h16]
end Go.Eng
namespace Go.Eng
open Go.IntWalk
theorem Cur.be_snoc (l : Str) (y : UInt8) : Cur.be (l ++ [y]) = Cur.be l * 256 + y.toUInt64 := by
  rw [Cur.be, List.foldl_append]; rfl
theorem Cur.be_put : ∀ (n : Nat) (v : UInt64), n ≤ 8 → (Cur.be (Cur.putHigh v n)).toNat = v.toNat % 256 ^ n
  | 0, v, _ => by rw [Nat.pow_zero, Nat.mod_one]; rfl
  | n + 1, v, hn => by
    have ih := Cur.be_put n (v / 256) (by omega)
    have hp : 256 ^ n ≤ 256 ^ 7 := Nat.pow_le_pow_right (by omega) (by omega)
    have h1 : Cur.putHigh v (n + 1) = Cur.putHigh (v / 256) n ++ [v.toUInt8] := by rw [Cur.putHigh, Cur.putLow, List.reverse_cons]; rfl
    have hlt : (v / 256).toNat % 256 ^ n < 256 ^ n := Nat.mod_lt _ (Nat.pow_pos (by omega))
    rw [h1, Cur.be_snoc, UInt64.toNat_add, UInt64.toNat_mul, ih, UInt8.toNat_toUInt64, UInt64.toNat_toUInt8, show (256 : UInt64).toNat = 256 from rfl]
    rw [UInt64.toNat_div, show (256 : UInt64).toNat = 256 from rfl] at hlt ⊢
    have hm : v.toNat % 256 ^ (n + 1) = v.toNat % 256 + 256 * (v.toNat / 256 % 256 ^ n) := by rw [Nat.pow_succ, Nat.mul_comm (256 ^ n), Nat.mod_mul]
    have h8 : v.toNat % 2 ^ 8 = v.toNat % 256 := rfl
    rw [hm, h8]; omega
theorem ofInt_toNat (n : UInt64) : UInt64.ofInt (n.toNat : Int) = n := by
  apply UInt64.toNat_inj.1
  have := n.toNat_lt
  rw [u64_nat]; omega
theorem Mp.first_unsigned (n : UInt64) : Mp.first (Mp.unsigned n).1 = (1, if (Mp.unsigned n).2 = 0 then n else 0, (Mp.unsigned n).2) ∧ 0 ≤ (Mp.unsigned n).1 ∧ (Mp.unsigned n).1 ≤ 255 ∧ ((Mp.unsigned n).2 ≠ 0 → n.toNat < 256 ^ (Mp.unsigned n).2.toNat) := by
  unfold Mp.unsigned
  have hlt := n.toNat_lt
  by_cases a : n < 128
  · have h := UInt64.lt_iff_toNat_lt.1 a
    simp at h
    rw [if_pos a]
    refine ⟨?_, by show (0 : Int) ≤ _; omega, by show (n.toNat : Int) ≤ 255; omega, fun h => (h rfl).elim⟩
    show Mp.first (n.toNat : Int) = (1, n, 0)
    rw [Mp.first, if_pos (by omega), ofInt_toNat]
  rw [if_neg a]
  by_cases a : n < 256
  · have h := UInt64.lt_iff_toNat_lt.1 a
    rw [if_pos a]; exact ⟨rfl, by decide, by decide, fun _ => h⟩
  rw [if_neg a]
  by_cases a : n < 65536
  · have h := UInt64.lt_iff_toNat_lt.1 a
    rw [if_pos a]; exact ⟨rfl, by decide, by decide, fun _ => h⟩
  rw [if_neg a]
  by_cases a : n < 4294967296
  · have h := UInt64.lt_iff_toNat_lt.1 a
    rw [if_pos a]; exact ⟨rfl, by decide, by decide, fun _ => h⟩
  rw [if_neg a]; exact ⟨rfl, by decide, by decide, fun _ => hlt⟩
theorem Mp.first_signed (n : UInt64) : Mp.first (Mp.signed n).1 = (2, if (Mp.signed n).2 = 0 then n else 0, (Mp.signed n).2) ∧ 0 ≤ (Mp.signed n).1 ∧ (Mp.signed n).1 ≤ 255 ∧ ((Mp.signed n).2 = 1 ∧ n.toNat < 128 ∨ (Mp.signed n).2 = 2 ∧ n.toNat < 32768 ∨ (Mp.signed n).2 = 4 ∧ n.toNat < 2147483648 ∨ (Mp.signed n).2 = 8 ∨ (Mp.signed n).2 = 0 ∧ n.toNat < 32) := by
  unfold Mp.signed
  by_cases a : n < 32
  · have h := UInt64.lt_iff_toNat_lt.1 a
    simp at h
    rw [if_pos a]
    refine ⟨?_, by show (0 : Int) ≤ 255 - (n.toNat : Int); omega, by show 255 - (n.toNat : Int) ≤ 255; omega, .inr (.inr (.inr (.inr ⟨rfl, h⟩)))⟩
    show Mp.first (255 - (n.toNat : Int)) = (2, n, 0)
    rw [Mp.first, if_neg (by omega), if_neg (by omega), if_neg (by omega), if_neg (by omega), if_pos (by omega), show 255 - (255 - (n.toNat : Int)) = (n.toNat : Int) by omega, ofInt_toNat]
  rw [if_neg a]
  by_cases a : n < 128
  · have h := UInt64.lt_iff_toNat_lt.1 a
    rw [if_pos a]; exact ⟨rfl, by decide, by decide, .inl ⟨rfl, h⟩⟩
  rw [if_neg a]
  by_cases a : n < 32768
  · have h := UInt64.lt_iff_toNat_lt.1 a
    rw [if_pos a]; exact ⟨rfl, by decide, by decide, .inr (.inl ⟨rfl, h⟩)⟩
  rw [if_neg a]
  by_cases a : n < 2147483648
  · have h := UInt64.lt_iff_toNat_lt.1 a
    rw [if_pos a]; exact ⟨rfl, by decide, by decide, .inr (.inr (.inl ⟨rfl, h⟩))⟩
  rw [if_neg a]; exact ⟨rfl, by decide, by decide, .inr (.inr (.inr (.inl rfl)))⟩
theorem Mp.first_sized (k : Int) (hk : k = 3 ∨ k = 4 ∨ k = 5 ∨ k = 6 ∨ k = 10) (m : Nat) (h : m < 4294967296) :
    Mp.first (Mp.sized k m).1 = (k, if (Mp.sized k m).2 = 0 then UInt64.ofNat m else 0, (Mp.sized k m).2) ∧ 0 ≤ (Mp.sized k m).1 ∧ (Mp.sized k m).1 ≤ 255 ∧ ((Mp.sized k m).2 ≠ 0 → m < 256 ^ (Mp.sized k m).2.toNat) := by
  have big : ∀ (f1 f2 f4 : Int), Mp.first f1 = (k, 0, 1) → Mp.first f2 = (k, 0, 2) → Mp.first f4 = (k, 0, 4) → (0 ≤ f1 ∧ f1 ≤ 255) → (0 ≤ f2 ∧ f2 ≤ 255) → (0 ≤ f4 ∧ f4 ≤ 255) → ∀ S : Int × Int, S = (if (m : Int) < 256 then (f1, 1) else if (m : Int) < 65536 then (f2, 2) else (f4, 4)) →
      Mp.first S.1 = (k, if S.2 = 0 then UInt64.ofNat m else 0, S.2) ∧ 0 ≤ S.1 ∧ S.1 ≤ 255 ∧ (S.2 ≠ 0 → m < 256 ^ S.2.toNat) := by
    intro f1 f2 f4 h1 h2 h4 b1 b2 b4 S hS
    by_cases a : (m : Int) < 256
    · rw [if_pos a] at hS; subst hS; exact ⟨h1, b1.1, b1.2, fun _ => by show m < 256; omega⟩
    rw [if_neg a] at hS
    by_cases a : (m : Int) < 65536
    · rw [if_pos a] at hS; subst hS; exact ⟨h2, b2.1, b2.2, fun _ => by show m < 65536; omega⟩
    rw [if_neg a] at hS; subst hS; exact ⟨h4, b4.1, b4.2, fun _ => h⟩
  have big2 : ∀ (f2 f4 : Int), Mp.first f2 = (k, 0, 2) → Mp.first f4 = (k, 0, 4) → (0 ≤ f2 ∧ f2 ≤ 255) → (0 ≤ f4 ∧ f4 ≤ 255) → ∀ S : Int × Int, S = (if (m : Int) < 65536 then (f2, 2) else (f4, 4)) →
      Mp.first S.1 = (k, if S.2 = 0 then UInt64.ofNat m else 0, S.2) ∧ 0 ≤ S.1 ∧ S.1 ≤ 255 ∧ (S.2 ≠ 0 → m < 256 ^ S.2.toNat) := by
    intro f2 f4 h2 h4 b2 b4 S hS
    by_cases a : (m : Int) < 65536
    · rw [if_pos a] at hS; subst hS; exact ⟨h2, b2.1, b2.2, fun _ => by show m < 65536; omega⟩
    rw [if_neg a] at hS; subst hS; exact ⟨h4, b4.1, b4.2, fun _ => h⟩
  rcases hk with rfl | rfl | rfl | rfl | rfl
  · exact big 196 197 198 rfl rfl rfl (by omega) (by omega) (by omega) _ (Mp.sized_bytes _ (by omega))
  · by_cases a : (m : Int) < 32
    · rw [Mp.sized_text, if_pos a]
      refine ⟨?_, by show 0 ≤ 160 + (m : Int); omega, by show 160 + (m : Int) ≤ 255; omega, fun h => (h rfl).elim⟩
      show Mp.first (160 + (m : Int)) = (4, UInt64.ofNat m, 0)
      rw [Mp.first, if_neg (by omega), if_neg (by omega), if_neg (by omega), if_pos (by omega), show 160 + (m : Int) - 160 = m by omega, u64_nat']
    · exact big 217 218 219 rfl rfl rfl (by omega) (by omega) (by omega) _ (by rw [Mp.sized_text, if_neg a])
  · by_cases a : (m : Int) < 16
    · rw [Mp.sized_list, if_pos a]
      refine ⟨?_, by show 0 ≤ 144 + (m : Int); omega, by show 144 + (m : Int) ≤ 255; omega, fun h => (h rfl).elim⟩
      show Mp.first (144 + (m : Int)) = (5, UInt64.ofNat m, 0)
      rw [Mp.first, if_neg (by omega), if_neg (by omega), if_pos (by omega), show 144 + (m : Int) - 144 = m by omega, u64_nat']
    · exact big2 220 221 rfl rfl (by omega) (by omega) _ (by rw [Mp.sized_list, if_neg a])
  · by_cases a : (m : Int) < 16
    · rw [Mp.sized_map, if_pos a]
      refine ⟨?_, by show 0 ≤ 128 + (m : Int); omega, by show 128 + (m : Int) ≤ 255; omega, fun h => (h rfl).elim⟩
      show Mp.first (128 + (m : Int)) = (6, UInt64.ofNat m, 0)
      rw [Mp.first, if_neg (by omega), if_pos (by omega), show 128 + (m : Int) - 128 = m by omega, u64_nat']
    · exact big2 222 223 rfl rfl (by omega) (by omega) _ (by rw [Mp.sized_map, if_neg a])
  · by_cases a : m = 1 ∨ m = 2 ∨ m = 4 ∨ m = 8 ∨ m = 16
    · rcases a with rfl | rfl | rfl | rfl | rfl <;> exact ⟨rfl, by decide, by decide, fun h => (h rfl).elim⟩
    · exact big 199 200 201 rfl rfl rfl (by omega) (by omega) (by omega) _ (Mp.sized_ext _ (by omega) (by omega) (by omega) (by omega) (by omega) (by omega))
end Go.Eng
namespace Go.Eng
open Go.IntWalk
section
variable {c : UInt8} {L : Str} {u : UInt64} {k : Int} {n0 : UInt64} {long : Int}
structure Mp.Says (c : UInt8) (L : Str) (u : UInt64) (k : Int) (n0 : UInt64) (long : Int) : Prop where
  f : Mp.first (c.toNat : Int) = (k, n0, long)
  k0 : k ≠ 0
  l : L.length = long.toNat
  u : u = if long = 0 then n0 else Cur.be L
theorem Mp.Says.long' (h : Mp.Says c L u k n0 long) : long = 0 ∨ long = 1 ∨ long = 2 ∨ long = 4 ∨ long = 8 := by
  have := (Mp.first_kinds (c.toNat : Int) ⟨by omega, by have := c.toNat_lt; omega⟩).2.1
  rw [h.f] at this; exact this
end
end Go.Eng
namespace Go.Eng
open Go.IntWalk
section
variable {n : Nat} {b : Str} {p w d k q : Int} {u t : UInt64}
def Mp.body (b : Str) (f : Int → Mp.Got) (p k : Int) (u t : UInt64) (q : Int) : Mp.Got :=
  if k = 4 ∨ k = 3 ∨ k = 10 then Mp.row b (.mk k t [] [] []) p q u.toNat
  else if k = 6 then Mp.kids f (.mk k 0 [] [] []) (2 * u.toNat) q
  else if k = 5 then Mp.kids f (.mk k 0 [] [] []) u.toNat q
  else ⟨.mk k u [] [] [], 0, 0, q⟩
end
end Go.Eng
namespace Go.Eng
open Go.IntWalk
section
variable {c : UInt8} {L : Str} {u : UInt64} {k : Int} {n0 : UInt64} {long : Int}
theorem Mp.Says.kinds (h : Mp.Says c L u k n0 long) : (k = 1 ∨ k = 2 ∨ k = 3 ∨ k = 4 ∨ k = 5 ∨ k = 6 ∨ k = 8 ∨ k = 9 ∨ k = 10) ∧ (long = 8 → k = 1 ∨ k = 2 ∨ k = 9) ∧ (long = 0 → u.toNat ≤ 127) ∧ (k = 2 → long = 0 → u.toNat ≤ 31) := by
  have hc : 0 ≤ (c.toNat : Int) ∧ (c.toNat : Int) ≤ 255 := ⟨by omega, by have := c.toNat_lt; omega⟩
  obtain ⟨F1, _, F3, F4, F5⟩ := Mp.first_kinds _ hc
  rw [h.f] at F1 F3 F4 F5
  simp only at F1 F3 F4 F5
  have hk0 := h.k0
  refine ⟨by omega, F3, fun a => ?_, fun a b => ?_⟩
  · rw [h.u, if_pos a]; exact F4 a
  · rw [h.u, if_pos b]; exact F5 a b
theorem Mp.Says.u8 (h : Mp.Says c L u k n0 long) : long ≠ 0 → u.toNat < 256 ^ long.toNat := by
  intro a
  have hl := h.long'
  rw [h.u, if_neg a]
  exact Cur.be_bound L long.toNat h.l (by omega)
theorem Mp.Says.u32 (h : Mp.Says c L u k n0 long) (hk : k = 4 ∨ k = 3 ∨ k = 10 ∨ k = 5 ∨ k = 6) : u.toNat < 4294967296 := by
  obtain ⟨_, F3, F4, _⟩ := h.kinds
  by_cases a3 : long = 0
  · have := F4 a3; omega
  · have hq3 := h.u8 a3
    have h124 : long = 1 ∨ long = 2 ∨ long = 4 := by
      rcases h.long' with h | h | h | h | h
      · exact (a3 h).elim
      · exact .inl h
      · exact .inr (.inl h)
      · exact .inr (.inr h)
      · have := F3 h; omega
    clear F3 F4 hk a3
    rcases h124 with h | h | h
    · rw [h] at hq3; exact Nat.lt_trans hq3 (by decide)
    · rw [h] at hq3; exact Nat.lt_trans hq3 (by decide)
    · rw [h] at hq3; exact hq3
end
section
variable {n : Nat} {b : Str} {p w d k : Int} {u n0 : UInt64} {long : Int}
end
end Go.Eng
namespace Go.Eng
open Go.IntWalk
theorem book_Room.l1_ok (sizes : List Int) (hl : sizes.length ≤ 10) (hs : ∀ s ∈ sizes, 0 ≤ s) : ∀ (m i : Nat) (left : Int), i + m = sizes.length → left ≤ 10000 → book_Room.l1 left sizes i = some [.i .i64 (Book.room left (sizes.drop i))] := by
  intro m
  induction m with
  | zero =>
    intro i left hi hle
    refine book_Room.l1_in _ _ _ ?_
    intro v1 h1 v2 h2 v3 h3
    rw [decide_eq_false (by omega), cond_false, List.drop_of_length_le (by omega)]; rfl
  | succ m ih =>
    intro i left hi hle
    refine book_Room.l1_in _ _ _ ?_
    intro v1 h1 v2 h2 v3 h3
    rw [Int.toNat_natCast] at h1
    have h0 : 0 ≤ v1 := hs v1 (by rw [h1, List.getD_eq_getElem?_getD, List.getElem?_eq_getElem (show i < sizes.length by omega)]; simp)
    rw [decide_eq_true (by omega), cond_true, show idxOK (i : Int) sizes.length = true from idx_ok (by omega) (by omega), drop_cons (l := sizes) (i := i) (by omega) 0, ← h1, Book.room]
    simp only [Bool.and_self, Bool.and_true, Bool.not_or_self, Bool.or_not_self, ck_true]
    by_cases a : left < 0 ∨ left < v1
    · rw [if_pos a, show v2 = true by rw [h2]; by_cases b : left < 0 <;> simp [b]; omega]; rfl
    · rw [if_neg a, show v2 = false by rw [h2]; by_cases b : left < 0 <;> simp [b] <;> omega, cond_false, show v3 = ((i + 1 : Nat) : Int) by rw [h3, i64_in _ (by omega)]; omega, i64_in _ (by omega), ih _ _ (by omega) (by omega)]
theorem book_Room.goal (left : Int) (sizes : List Int) (hp : (decide (left ≤ 10000 ∧ sizes.length ≤ 10) && sizes.all (fun s => decide (0 ≤ s))) = true) : book_Room.F left sizes = some [.i .i64 (Book.room left sizes)] := by
  simp only [Bool.and_eq_true, decide_eq_true_eq, List.all_eq_true] at hp
  rw [book_Room.F_eq]
  exact book_Room.l1_ok sizes hp.1.2 hp.2 sizes.length 0 left (by omega) hp.1.1
theorem Itm.room3 (left a b c : Int) (ha : 0 ≤ a) (hb : 0 ≤ b) (hc : 0 ≤ c) (hl : left ≤ 10000) :
    Book.room left [a, b, c] ≤ 10000 ∧ (Book.room left [a, b, c] = -1 ∨ (Book.room left [a, b, c] = left - a - b - c ∧ 0 ≤ left - a - b - c)) := by
  simp only [Book.room]
  split
  · omega
  · split
    · omega
    · split <;> omega
mutual
theorem Itm.room_le : ∀ (it : Itm) (left : Int), left ≤ 10000 → Itm.room left it ≤ 10000 ∧ (0 ≤ Itm.room left it → (Itm.bulk it : Int) ≤ left - Itm.room left it)
  | .mk k n b t ks, left, hl => by
    have h1 := Itm.room3 left 2 t.length b.length (by omega) (by omega) (by omega) hl
    have h2 := Itm.rooms_le ks (Book.room left [2, (t.length : Int), (b.length : Int)]) h1.1
    simp only [Itm.room, Itm.bulk]
    refine ⟨h2.1, fun h0 => ?_⟩
    have h3 := h2.2 h0
    rcases h1.2 with e | ⟨e, e0⟩
    · omega
    · omega
theorem Itm.rooms_le : ∀ (ks : List Itm) (left : Int), left ≤ 10000 → Itm.rooms left ks ≤ 10000 ∧ (0 ≤ Itm.rooms left ks → 0 ≤ left ∧ (Itm.bulks ks : Int) ≤ left - Itm.rooms left ks)
  | [], left, hl => by simp only [Itm.rooms, Itm.bulks]; exact ⟨hl, fun h => ⟨h, by omega⟩⟩
  | k :: r, left, hl => by
    simp only [Itm.rooms, Itm.bulks]
    split
    · exact ⟨hl, fun h => by omega⟩
    · have h1 := Itm.room_le k left hl
      have h2 := Itm.rooms_le r (Itm.room left k) h1.1
      refine ⟨h2.1, fun h0 => ?_⟩
      have h3 := h2.2 h0
      have h4 := h1.2 h3.1
      exact ⟨by omega, by omega⟩
end
theorem Itm.small_bulk (it : Itm) (h : 0 ≤ Itm.room 1500 it) : Itm.bulk it ≤ 1500 := by
  have := (Itm.room_le it 1500 (by omega)).2 h; omega
theorem book_item.l1_ok (n : Nat) (it : Itv) (hn : Itm.bulks it.kids < n) : ∀ (m i : Nat) (left : Int), i + m = it.kids.length → left ≤ 10000 → (i : Int) + left ≤ 10000 → book_item.l1 n left i it = some [.i .i64 (Itm.rooms left (it.kids.drop i))] := by
  intro m
  induction m with
  | zero =>
    intro i left hi hl hil
    refine book_item.l1_in _ _ _ _ ?_
    intro v1 e1 v2 e2 v3 e3 v4 e4
    simp only [Bool.not_or_self, ck_true]
    rw [e2, decide_eq_false (by omega), cond_false, cond_false, List.drop_of_length_le (by omega)]; rfl
  | succ m ih =>
    intro i left hi hl hil
    refine book_item.l1_in _ _ _ _ ?_
    intro v1 e1 v2 e2 v3 e3 v4 e4
    simp only [Bool.not_or_self, ck_true]
    have hi' : i < it.kids.length := by omega
    have hb' := Itm.bulks_at it.kids i hi'
    rw [Int.toNat_natCast, Itm.of_val] at e3
    rw [e2, decide_eq_true (by omega), cond_true, drop_cons hi' (STy.dflt .il), Itm.rooms]
    by_cases a : left < 0
    · rw [decide_eq_false (by omega), cond_false, if_pos a]
    · rw [decide_eq_true (by omega), cond_true, if_neg a, ck_of (idx_ok (by omega) (by omega)), Int.toNat_natCast, Itm.of_val, ck_of (by rw [decide_eq_true hl, decide_eq_true (by omega)]; rfl), show v4 = ((i + 1 : Nat) : Int) by rw [e4, i64_in _ (by omega)]; omega, e3]
      have hr := Itm.room_le (it.kids.getD i (STy.dflt .il)) left hl
      have hp := Itm.bulk_pos (it.kids.getD i (STy.dflt .il))
      refine ih _ _ (by omega) hr.1 ?_
      by_cases z : 0 ≤ Itm.room left (it.kids.getD i (STy.dflt .il))
      · have := hr.2 z; omega
      · omega
theorem book_item.goal (n : Nat) (left : Int) (it : Itv) (hp : ((decide (left ≤ 10000)) && decide ((Itm.bulk (Itm.of it)) < n + 1)) = true) : book_item.F n left it = some [.i .i64 (Itm.room left (Itm.of it))] := by
  simp only [Bool.and_eq_true, decide_eq_true_eq] at hp
  obtain ⟨hl, hn⟩ := hp
  rw [Itm.bulk_of] at hn
  refine book_item.F_in _ _ _ ?_
  intro v1 e1 v2 e2 v3 e3
  have h3 := Itm.room3 left 2 it.text.length it.bytes.length (by omega) (by omega) (by omega) hl
  have c3 : (decide (left ≤ 10000 ∧ v3.length ≤ 10) && v3.all (fun s => decide (0 ≤ s))) = true := by
    rw [e3, e1, e2]; simp; omega
  rw [ck_of c3, e3, e1, e2]
  have := book_item.l1_ok n it (by omega) it.kids.length 0 (Book.room left [2, (it.text.length : Int), (it.bytes.length : Int)]) (by omega) h3.1 (by have := h3.1; omega)
  simp only [Itm.of, Itm.room]
  exact this
theorem book_SmallItem.goal (it : Itv) : book_SmallItem.F it = some [.b (decide (0 ≤ Itm.room 1500 (Itm.of it)))] := by
  refine book_SmallItem.F_in _ ?_
  intro v1 e1
  rw [ck_of (decide_eq_true (by omega)), e1]
theorem law29_awake.goal : law29_awake.F = some [.b true] := by
  refine law29_awake.F_in ?_
  intro v1 e1 v2 e2 v3 e3 v4 e4 v5 e5 v6 e6 v7 e7 v8 e8
  have c2 : v2 = 0 := by rw [e2]; decide +kernel
  have c1 : v1 = [208, 223] := by rw [e1]; decide +kernel
  have c5 : v5 = 3 := by rw [e5, e3]; decide +kernel
  have c7 : v7 = 0 := by rw [e7, e3]; decide +kernel
  simp only [Bool.not_or_self, ck_true]
  rw [ck_of (by decide +kernel), ck_of (by rw [e3]; rfl), e8, e6, e4, c2, c1, c5, c7]
  rfl
mutual
theorem Itm.same_refl : ∀ (a : Itm), Itm.same a a = true
  | .mk k n b t ks => by rw [Itm.same]; simp [Itm.sames_refl ks]
theorem Itm.sames_refl : ∀ (l : List Itm), Itm.sames l l = true
  | [] => by rw [Itm.sames]
  | k :: r => by rw [Itm.sames, Itm.same_refl k, Itm.sames_refl r]; rfl
end
theorem Itm.sames_len : ∀ (a b : List Itm), a.length ≠ b.length → Itm.sames a b = false
  | [], [], h => (h rfl).elim
  | [], _ :: _, _ => by rw [Itm.sames]
  | _ :: _, [], _ => by rw [Itm.sames]
  | k :: r, k' :: r', h => by rw [Itm.sames, Itm.sames_len r r' (fun e => h (by simp [e])), Bool.and_false]
theorem ref28_Same.l1_ok (n : Nat) (a b : Itv) (hb : Itm.bulks a.kids ≤ 1099511627776) (hn : Itm.bulks a.kids < n) (hl : a.kids.length = b.kids.length) : ∀ (m i : Nat), i + m = a.kids.length → ref28_Same.l1 n i a b = some [.b (Itm.sames (a.kids.drop i) (b.kids.drop i))] := by
  have hk := Itm.bulk_kids a.kids
  intro m
  induction m with
  | zero =>
    intro i hi
    refine ref28_Same.l1_in _ _ _ _ ?_
    intro v1 e1 v2 e2 v3 e3
    rw [decide_eq_false (by omega), cond_false, List.drop_of_length_le (by omega), List.drop_of_length_le (by omega), Itm.sames]
  | succ m ih =>
    intro i hi
    refine ref28_Same.l1_in _ _ _ _ ?_
    intro v1 e1 v2 e2 v3 e3
    have hi' : i < a.kids.length := by omega
    have hi2 : i < b.kids.length := by omega
    have hb' := Itm.bulks_at a.kids i hi'
    rw [Int.toNat_natCast, Itm.of_val, Itm.of_val] at e2
    rw [decide_eq_true (by omega), cond_true, ck_of (idx_ok (by omega) (by omega)), ck_of (idx_ok (by omega) (by omega)), Int.toNat_natCast, Itm.of_val, ck_of (by rw [decide_eq_true (by omega), decide_eq_true (by omega)]; rfl), drop_cons hi' (STy.dflt .il), drop_cons hi2 (STy.dflt .il), Itm.sames, ← e2]
    cases v2 with
    | false => rfl
    | true => rw [Bool.not_true, cond_false, Bool.true_and, show v3 = ((i + 1 : Nat) : Int) by rw [e3, i64_in _ (by omega)]; omega, ih _ (by omega)]
theorem ref28_Same.goal (n : Nat) (a b : Itv) (hp : ((decide (Itm.bulk (Itm.of a) ≤ 1099511627776)) && decide ((Itm.bulk (Itm.of a)) < n + 1)) = true) : ref28_Same.F n a b = some [.b (Itm.same (Itm.of a) (Itm.of b))] := by
  simp only [Bool.and_eq_true, decide_eq_true_eq] at hp
  obtain ⟨h, hn⟩ := hp
  rw [Itm.bulk_of] at h hn
  refine ref28_Same.F_in _ _ _ ?_
  intro v1 e1 v2 e2 v3 e3 v4 e4 v5 e5 v6 e6 v7 e7
  have c1 : ((!decide (a.kind = b.kind)) || v1) = true := by rw [e1]; cases decide (a.kind = b.kind) <;> rfl
  simp only [Bool.not_or_self, Bool.or_not_self, Bool.and_self, ck_true, c1]
  rw [e7, e4, e3, e2, e5, e6]
  simp only [Itm.of, Itm.same]
  by_cases a1 : a.kind = b.kind
  · by_cases a2 : a.n = b.n
    · by_cases a3 : a.text = b.text
      · by_cases a4 : a.bytes = b.bytes
        · by_cases a5 : a.kids.length = b.kids.length
          · have hl := ref28_Same.l1_ok n a b (by omega) (by omega) a5 a.kids.length 0 (by omega)
            rw [decide_eq_true a1, decide_eq_true a2, decide_eq_true a3, decide_eq_true a4, decide_eq_true (show (a.kids.length : Int) = b.kids.length by omega)]
            simpa using hl
          · rw [decide_eq_false (show ¬ (a.kids.length : Int) = b.kids.length by omega), Itm.sames_len _ _ a5]
            simp [a1, a2, a3, a4]
        · simp [a4]
      · simp [a3]
    · simp [a2]
  · simp [a1]
mutual
theorem Itm.nest_le : ∀ (a : Itm), Itm.nest a ≤ Itm.bulk a
  | .mk k n b t ks => by have := Itm.nests_le ks; simp only [Itm.nest, Itm.bulk]; omega
theorem Itm.nests_le : ∀ (l : List Itm), Itm.nests l ≤ Itm.bulks l
  | [] => Nat.le_refl _
  | k :: r => by have := Itm.nest_le k; have := Itm.nests_le r; simp only [Itm.nests, Itm.bulks]; omega
end
theorem law29_nest.l1_ok (n : Nat) (it : Itv) (hb : Itm.bulks it.kids ≤ 1099511627776) (hn : Itm.bulks it.kids < n) : ∀ (m i : Nat) (x : Nat), i + m = it.kids.length → x ≤ 1099511627776 → law29_nest.l1 n x i it = some [.i .i64 ((max x (Itm.nests (it.kids.drop i)) + 1 : Nat) : Int)] := by
  have hk := Itm.bulk_kids it.kids
  intro m
  induction m with
  | zero =>
    intro i x hi hx
    refine law29_nest.l1_in _ _ _ _ ?_
    intro v1 e1 v2 e2 v3 e3 v4 e4
    rw [decide_eq_false (by omega), cond_false, List.drop_of_length_le (by omega), e4, i64_in _ (by omega), show Itm.nests [] = 0 from rfl, Nat.max_zero]; rfl
  | succ m ih =>
    intro i x hi hx
    refine law29_nest.l1_in _ _ _ _ ?_
    intro v1 e1 v2 e2 v3 e3 v4 e4
    have hi' : i < it.kids.length := by omega
    have hb' := Itm.bulks_at it.kids i hi'
    have hne := Itm.nest_le (it.kids.getD i (STy.dflt .il))
    rw [Int.toNat_natCast, Itm.of_val] at e2
    rw [decide_eq_true (by omega), cond_true, ck_of (idx_ok (by omega) (by omega)), Int.toNat_natCast, Itm.of_val, ck_of (by rw [decide_eq_true (by omega), decide_eq_true (by omega)]; rfl), maxI_max, e2, show max (x : Int) (Itm.nest (it.kids.getD i (STy.dflt .il)) : Int) = ((max x (Itm.nest (it.kids.getD i (STy.dflt .il))) : Nat) : Int) by omega, show v3 = ((i + 1 : Nat) : Int) by rw [e3, i64_in _ (by omega)]; omega, ih _ _ (by omega) (by omega), drop_cons hi' (STy.dflt .il), Itm.nests, Nat.max_assoc]
theorem law29_nest.goal (n : Nat) (it : Itv) (hp : ((decide (Itm.bulk (Itm.of it) ≤ 1099511627776)) && decide ((Itm.bulk (Itm.of it)) < n + 1)) = true) : law29_nest.F n it = some [.i .i64 (Itm.nest (Itm.of it) : Int)] := by
  simp only [Bool.and_eq_true, decide_eq_true_eq] at hp
  obtain ⟨h, hn⟩ := hp
  rw [Itm.bulk_of] at h hn
  rw [law29_nest.F_eq]
  have := law29_nest.l1_ok n it (by omega) (by omega) it.kids.length 0 0 (by omega) (by omega)
  rw [show Itm.nest (Itm.of it) = Itm.nests it.kids + 1 by rw [Itm.of, Itm.nest]]
  rw [show max 0 (Itm.nests (it.kids.drop 0)) = Itm.nests it.kids by rw [List.drop_zero]; omega] at this
  exact this
end Go.Eng
namespace Go.Eng
open Go.RowKit Go.Maps Go.Proofs
set_option maxRecDepth 100000
set_option maxHeartbeats 1000000
theorem wpList_insert_own {H : Type} {P : Program} (w : World) {ops : Array Oper} {rest : List Oper} {o : Oper} {a : Act} {Q : Exit → Act → World → Prop}
    (hg : o.guard = none) (m x v : Operand) (t : TypeId) (hop : o.op = Op.insert t m x v)
    (k e : TypeId) (K : Keyed P k) (ht : P.underlying t = some (.map k e)) (R : Value → Option (DataW H × List MemPlace)) (b n : Nat) (D : DataW H)
    (hm : a.eval m = .map (some b)) (hown : w.ownsMap P k R b n D) (hn : n < maxLen) (key val : Value) (kl : Lit) (hx : a.eval x = key) (hv : a.eval v = val) (hkey : keyOf P k key = some kl)
    (d : DataW H) (ps : List MemPlace) (hval : R val = some (d, ps))
    (hK : ∀ w', w'.ownsMap P k R b (n + 1) (D.put kl d) → w.grownBy w' (some b) → wpList P ops Q rest (a.put o.dst undef) w') :
    wpList P ops Q (o :: rest) a w := by
  refine wpList_plain hg fun K' hK' => ?_
  obtain ⟨w', hrun, r1, r2⟩ := hown.update K ht hn hkey hval
  unfold Oper.wp
  simp [execOp, hop, hm, hx, hv, hrun, Result.andThen]
  exact hK' _ _ (hK w' r1 r2)
theorem alloc_size (w : World) (o : Obj) : (w.alloc o).heap.size = w.heap.size + 1 := Array.size_push ..
theorem sz_l3 : Keyed Try.prog 3 := int_keyed Try.underlying3
theorem sz_z3 (w : World) : (zeroValue 3).run Try.prog w = .ok (.int .i64 0) w := by kernel_rfl
structure Sz (w w' : World) : Prop where
  b : w'.heap[w.heap.size]? = some (.cells #[.int .i64 0, .int .i64 0] 67)
  o : Below w.heap.size w w'
  s : w.heap.size + 1 ≤ w'.heap.size
theorem Sz.c0 {w w' : World} (h : Sz w w') : w'.cell? ⟨w.heap.size, 0, none⟩ = some (.int .i64 0) := by simp [World.cell?, h.b]
theorem Sz.c1 {w w' : World} (h : Sz w w') : w'.cell? ⟨w.heap.size, 1, none⟩ = some (.int .i64 0) := by simp [World.cell?, h.b]
theorem Sz.f {w w' : World} (h : Sz w w') (i : Nat) : w'.frozen? ⟨w.heap.size, i, none⟩ = false := by simp [World.frozen?, h.b]
theorem sz_start (w : World) : Sz w ((w.alloc (.cells #[.int .i64 0, .int .i64 0] 67)).alloc (.map #[] 0)) := by
  refine ⟨?_, ((Below.refl _ _).alloc (Nat.le_refl _) _).alloc (by rw [alloc_size]; omega) _, by rw [alloc_size, alloc_size]; omega⟩
  rw [Below.heap_alloc _ _ _ (by rw [alloc_size]; omega)]
  exact Array.getElem?_push_size
theorem sz_step {w w1 w2 : World} (h : Sz w w1) (hg : w1.grownBy w2 (some (w.heap.size + 1))) : Sz w w2 :=
  ⟨(hg.block _ (by have := h.s; omega) (by simp)).trans h.b, h.o.grown hg (by have := h.s; omega) (fun k e => by cases e; omega), Nat.le_trans h.s hg.size⟩
theorem sz_p (n : Int) (h : (Lit.int .i64 n).wf = true) : plainElem (H := Unit) Try.prog 3 (.int .i64 n) = some (.lit (.int .i64 n), []) := plainElem_int Try.underlying3 h
theorem sz_made (w : World) (o : Obj) : ((w.alloc o).alloc (.map #[] 0)).ownsMap Try.prog 3 (plainElem (H := Unit) Try.prog 3) (w.heap.size + 1) 0 (.map []) := by
  have := World.ownsMap_made (H := Unit) (w.alloc o) Try.prog 3 (plainElem Try.prog 3)
  rw [alloc_size] at this; exact this
theorem sz_res (tmps : Array Value) (W : World) (B : Nat) (x y : Int) (ht : tmps[4]?.getD undef = .pointer (some ⟨B,0,none⟩)) (hb : W.heap[B]? = some (.cells #[.int .i64 x, .int .i64 y] 67)) : (results Try.f41 tmps).run Try.prog W = .ok (.agg #[.int .i64 x, .int .i64 y]) W := by
  have c0 : W.cell? ⟨B, 0, none⟩ = some (.int .i64 x) := by simp [World.cell?, hb]
  have c1 : W.cell? ⟨B, 1, none⟩ = some (.int .i64 y) := by simp [World.cell?, hb]
  simp [results, Try.results41, go_sem, ht, c0, c1]
theorem sz_set {w3 : World} {B : Nat} {x y : Int} (hb : w3.heap[B]? = some (.cells #[.int .i64 0, .int .i64 0] 67)) : ((w3.setCell ⟨B, 0, none⟩ (.int .i64 x)).setCell ⟨B, 1, none⟩ (.int .i64 y)).heap[B]? = some (.cells #[.int .i64 x, .int .i64 y] 67) := by
  simp [World.setCell, Array.getElem?_modify, hb]
theorem sz_fin {a : Act} {Q : Ending → World → Prop} {W : World} {B : Nat} {x y : Int} (ht : a.tmps[4]?.getD undef = .pointer (some ⟨B, 0, none⟩)) (hd : a.defers = []) (hb : W.heap[B]? = some (.cells #[.int .i64 x, .int .i64 y] 67)) (hQ : Q (.returned (.agg #[.int .i64 x, .int .i64 y])) W) : bodyPost Try.prog Try.f41 Q .ret a W :=
  bodyPost_ret (sz_res a.tmps W B x y ht hb) hd hQ
theorem sz_one (w : World) (o : Obj) : (w.alloc o).heap[w.heap.size]? = some o := Array.getElem?_push_size
theorem sz_eq {a b : Int} {p : Int × Int} (h : (a, b) = p) : Ending.returned (.agg #[.int .i64 a, .int .i64 b]) = .returned (.agg #[.int .i64 p.1, .int .i64 p.2]) := by cases h; rfl
theorem sz_wrap {n : Int} (h0 : 0 ≤ n) (h1 : n < 4294967296) : wrap64 n = n := by simp only [wrap64]; omega
theorem szt0 {n : Int} (h : n < 32) : (160 + n, 0) = Mp.sized 4 n := by simp [Mp.sized, Mp.fixed, Mp.fix, Mp.tab, Mp.base]; omega
theorem szt1 {n : Int} (h : 32 ≤ n) (h2 : n < 256) : (217, 1) = Mp.sized 4 n := by simp [Mp.sized, Mp.fixed, Mp.fix, Mp.tab, Mp.base]; rw [if_neg (by omega), if_pos h2]
theorem szt2 {n : Int} (h : 256 ≤ n) (h2 : n < 65536) : (218, 2) = Mp.sized 4 n := by simp [Mp.sized, Mp.fixed, Mp.fix, Mp.tab, Mp.base]; rw [if_neg (by omega), if_neg (by omega), if_pos h2]
theorem szt3 {n : Int} (h : 65536 ≤ n) : (219, 4) = Mp.sized 4 n := by simp [Mp.sized, Mp.fixed, Mp.fix, Mp.tab, Mp.base]; rw [if_neg (by omega), if_neg (by omega), if_neg (by omega)]
theorem szb1 {n : Int} (h0 : 0 ≤ n) (h2 : n < 256) : (196, 1) = Mp.sized 3 n := by simp [Mp.sized, Mp.fixed, Mp.fix, Mp.tab, Mp.base]; rw [if_neg (by omega), if_pos h2]
theorem szb2 {n : Int} (h : 256 ≤ n) (h2 : n < 65536) : (197, 2) = Mp.sized 3 n := by simp [Mp.sized, Mp.fixed, Mp.fix, Mp.tab, Mp.base]; rw [if_neg (by omega), if_neg (by omega), if_pos h2]
theorem szb3 {n : Int} (h : 65536 ≤ n) : (198, 4) = Mp.sized 3 n := by simp [Mp.sized, Mp.fixed, Mp.fix, Mp.tab, Mp.base]; rw [if_neg (by omega), if_neg (by omega), if_neg (by omega)]
theorem sze1 {n : Int} (h : (n == 1) = true) : (212, 0) = Mp.sized 10 n := by rw [beq_iff_eq] at h; subst h; rfl
theorem sze2 {n : Int} (h : (n == 2) = true) : (213, 0) = Mp.sized 10 n := by rw [beq_iff_eq] at h; subst h; rfl
theorem sze4 {n : Int} (h : (n == 4) = true) : (214, 0) = Mp.sized 10 n := by rw [beq_iff_eq] at h; subst h; rfl
theorem sze8 {n : Int} (h : (n == 8) = true) : (215, 0) = Mp.sized 10 n := by rw [beq_iff_eq] at h; subst h; rfl
theorem sze16 {n : Int} (h : (n == 16) = true) : (216, 0) = Mp.sized 10 n := by rw [beq_iff_eq] at h; subst h; rfl
theorem szen {n a b : Int} (h0 : 0 ≤ n) (h1 : (n == 1) = false) (h2 : (n == 2) = false) (h3 : (n == 4) = false) (h4 : (n == 8) = false) (h5 : (n == 16) = false) (h : (n < 256 ∧ a = 199 ∧ b = 1) ∨ (256 ≤ n ∧ n < 65536 ∧ a = 200 ∧ b = 2) ∨ (65536 ≤ n ∧ a = 201 ∧ b = 4)) : (a, b) = Mp.sized 10 n := by
  simp at h1 h2 h3 h4 h5
  simp [Mp.sized, Mp.fixed, Mp.fix, Mp.tab, Mp.base, h1, h2, h3, h4, h5]
  rw [if_neg (by omega)]
  rcases h with ⟨h, rfl, rfl⟩ | ⟨h, h', rfl, rfl⟩ | ⟨h, rfl, rfl⟩
  · rw [if_pos h]
  · rw [if_neg (by omega), if_pos h']
  · rw [if_neg (by omega), if_neg (by omega)]
theorem szl50 {n : Int} (h : n < 16) : (144 + n, 0) = Mp.sized 5 n := by simp [Mp.sized, Mp.fixed, Mp.fix, Mp.tab, Mp.base]; omega
theorem szl51 {n : Int} (h : 16 ≤ n) (h2 : n < 65536) : (220, 2) = Mp.sized 5 n := by simp [Mp.sized, Mp.fixed, Mp.fix, Mp.tab, Mp.base]; rw [if_neg (by omega), if_pos h2]
theorem szl52 {n : Int} (h : 65536 ≤ n) : (221, 4) = Mp.sized 5 n := by simp [Mp.sized, Mp.fixed, Mp.fix, Mp.tab, Mp.base]; rw [if_neg (by omega), if_neg (by omega)]
theorem szl60 {n : Int} (h : n < 16) : (128 + n, 0) = Mp.sized 6 n := by simp [Mp.sized, Mp.fixed, Mp.fix, Mp.tab, Mp.base]; omega
theorem szl61 {n : Int} (h : 16 ≤ n) (h2 : n < 65536) : (222, 2) = Mp.sized 6 n := by simp [Mp.sized, Mp.fixed, Mp.fix, Mp.tab, Mp.base]; rw [if_neg (by omega), if_pos h2]
theorem szl62 {n : Int} (h : 65536 ≤ n) : (223, 4) = Mp.sized 6 n := by simp [Mp.sized, Mp.fixed, Mp.fix, Mp.tab, Mp.base]; rw [if_neg (by omega), if_neg (by omega)]
theorem sz_c4 {c : Int} (hat : ((((DataW.map []).put (Lit.int .i64 4) (DataW.lit (H := Unit) (Lit.int .i64 160))).put (Lit.int .i64 5) (DataW.lit (Lit.int .i64 144))).put (Lit.int .i64 6) (DataW.lit (Lit.int .i64 128))).atKey (Lit.int .i64 4) (DataW.lit (Lit.int .i64 0)) = DataW.lit (Lit.int .i64 c)) : c = 160 := by
  have e : ((((DataW.map []).put (Lit.int .i64 4) (DataW.lit (H := Unit) (Lit.int .i64 160))).put (Lit.int .i64 5) (DataW.lit (Lit.int .i64 144))).put (Lit.int .i64 6) (DataW.lit (Lit.int .i64 128))).atKey (Lit.int .i64 4) (DataW.lit (Lit.int .i64 0)) = DataW.lit (Lit.int .i64 160) := rfl
  rw [e] at hat; cases hat; rfl
theorem sz_c5 {c : Int} (hat : ((((DataW.map []).put (Lit.int .i64 4) (DataW.lit (H := Unit) (Lit.int .i64 160))).put (Lit.int .i64 5) (DataW.lit (Lit.int .i64 144))).put (Lit.int .i64 6) (DataW.lit (Lit.int .i64 128))).atKey (Lit.int .i64 5) (DataW.lit (Lit.int .i64 0)) = DataW.lit (Lit.int .i64 c)) : c = 144 := by
  have e : ((((DataW.map []).put (Lit.int .i64 4) (DataW.lit (H := Unit) (Lit.int .i64 160))).put (Lit.int .i64 5) (DataW.lit (Lit.int .i64 144))).put (Lit.int .i64 6) (DataW.lit (Lit.int .i64 128))).atKey (Lit.int .i64 5) (DataW.lit (Lit.int .i64 0)) = DataW.lit (Lit.int .i64 144) := rfl
  rw [e] at hat; cases hat; rfl
theorem sz_c6 {c : Int} (hat : ((((DataW.map []).put (Lit.int .i64 4) (DataW.lit (H := Unit) (Lit.int .i64 160))).put (Lit.int .i64 5) (DataW.lit (Lit.int .i64 144))).put (Lit.int .i64 6) (DataW.lit (Lit.int .i64 128))).atKey (Lit.int .i64 6) (DataW.lit (Lit.int .i64 0)) = DataW.lit (Lit.int .i64 c)) : c = 128 := by
  have e : ((((DataW.map []).put (Lit.int .i64 4) (DataW.lit (H := Unit) (Lit.int .i64 160))).put (Lit.int .i64 5) (DataW.lit (Lit.int .i64 144))).put (Lit.int .i64 6) (DataW.lit (Lit.int .i64 128))).atKey (Lit.int .i64 6) (DataW.lit (Lit.int .i64 0)) = DataW.lit (Lit.int .i64 128) := rfl
  rw [e] at hat; cases hat; rfl
theorem sz_text (n : Int) (hn0 : 0 ≤ n) (hn1 : n < 4294967296) (w : World) : Calls Try.prog 41 #[.int .i64 4, .int .i64 n] w fun e w' => e = .returned (.agg #[.int .i64 (Mp.sized 4 n).1, .int .i64 (Mp.sized 4 n).2]) ∧ Below w.heap.size w w' := by
  have hmm := @run_makeMap Try.prog
  go_enter Try.func41, Try.ntmps41
  go_wp2_with (first
      | (refine wpList_insert_own _ rfl (.tmp 34) (.const (.int .i64 4)) (.const (.int .i64 160)) 93 rfl 3 3 sz_l3 Try.underlying93 (plainElem (H := Unit) Try.prog 3) ?hb1 0 ?hD1 ?hm1 ?ho1 ?hn1 (.int .i64 4) (.int .i64 160) (.int .i64 4) ?hx1 ?hv1 ?hk1 (.lit (.int .i64 160)) [] ?hp1 ?hK1
         case hm1 => rfl
         case ho1 => exact sz_made w _
         case hn1 => unfold maxLen; omega
         case hx1 => rfl
         case hv1 => rfl
         case hk1 => exact keyOf_int_mk Try.underlying3 (by decide)
         case hp1 => exact sz_p _ (by decide)
         intro w1 ho1 hg1
         have hz1 := sz_step (sz_start w) hg1)
      | (refine wpList_insert_own _ rfl (.tmp 34) (.const (.int .i64 5)) (.const (.int .i64 144)) 93 rfl 3 3 sz_l3 Try.underlying93 (plainElem (H := Unit) Try.prog 3) ?hb2 1 ?hD2 ?hm2 ?ho2 ?hn2 (.int .i64 5) (.int .i64 144) (.int .i64 5) ?hx2 ?hv2 ?hk2 (.lit (.int .i64 144)) [] ?hp2 ?hK2
         case hm2 => rfl
         case ho2 => exact ho1
         case hn2 => unfold maxLen; omega
         case hx2 => rfl
         case hv2 => rfl
         case hk2 => exact keyOf_int_mk Try.underlying3 (by decide)
         case hp2 => exact sz_p _ (by decide)
         intro w2 ho2 hg2
         have hz2 := sz_step hz1 hg2)
      | (refine wpList_insert_own _ rfl (.tmp 34) (.const (.int .i64 6)) (.const (.int .i64 128)) 93 rfl 3 3 sz_l3 Try.underlying93 (plainElem (H := Unit) Try.prog 3) ?hb3 2 ?hD3 ?hm3 ?ho3 ?hn3 (.int .i64 6) (.int .i64 128) (.int .i64 6) ?hx3 ?hv3 ?hk3 (.lit (.int .i64 128)) [] ?hp3 ?hK3
         case hm3 => rfl
         case ho3 => exact ho2
         case hn3 => unfold maxLen; omega
         case hx3 => rfl
         case hv3 => rfl
         case hk3 => exact keyOf_int_mk Try.underlying3 (by decide)
         case hp3 => exact sz_p _ (by decide)
         intro w3 ho3 hg3
         have hz3 := sz_step hz2 hg3
         have c0 := hz3.c0
         have c1 := hz3.c1
         have f0 := hz3.f 0
         have f1 := hz3.f 1)
      | (at_lookup
         refine wpList_lookup_own_int (H := Unit) _ rfl (.tmp 35) (.tmp 36) 93 rfl 3 3 .i64 sz_l3 Try.underlying93 Try.underlying3 (sz_z3 _) ?hb4 3 ?hD4 ?hm4 ?ho4 (.int .i64 4) (.int .i64 4) ?hx4 ?hk4 ?hK4
         case hk4 => exact keyOf_int_mk Try.underlying3 (by decide)
         case hm4 => rfl
         case ho4 => exact ho3
         case hx4 => rfl
         intro c hat hwc)
      | go_in)
  all_goals clear hmm
  all_goals first | refine sz_fin rfl rfl (sz_one _ _) ⟨?_, (Below.refl _ _).alloc (Nat.le_refl _) _⟩ | refine sz_fin rfl rfl (sz_set hz3.b) ⟨?_, (hz3.o.setCell (Nat.le_refl _) _).setCell (Nat.le_refl _) _⟩
  · have hc : c = 160 := sz_c4 hat
    subst hc
    rw [sz_wrap (by omega) (by omega)]
    exact sz_eq (szt0 (by omega))
  · exact sz_eq (szt1 (by omega) (by omega))
  · exact sz_eq (szt2 (by omega) (by omega))
  · exact sz_eq (szt3 (by omega))
theorem sz_ext (n : Int) (hn0 : 0 ≤ n) (hn1 : n < 4294967296) (w : World) : Calls Try.prog 41 #[.int .i64 10, .int .i64 n] w fun e w' => e = .returned (.agg #[.int .i64 (Mp.sized 10 n).1, .int .i64 (Mp.sized 10 n).2]) ∧ Below w.heap.size w w' := by
  have hmm := @run_makeMap Try.prog
  go_enter Try.func41, Try.ntmps41
  go_wp2_with (first
      | (refine wpList_insert_own _ rfl (.tmp 34) (.const (.int .i64 4)) (.const (.int .i64 160)) 93 rfl 3 3 sz_l3 Try.underlying93 (plainElem (H := Unit) Try.prog 3) ?hb1 0 ?hD1 ?hm1 ?ho1 ?hn1 (.int .i64 4) (.int .i64 160) (.int .i64 4) ?hx1 ?hv1 ?hk1 (.lit (.int .i64 160)) [] ?hp1 ?hK1
         case hm1 => rfl
         case ho1 => exact sz_made w _
         case hn1 => unfold maxLen; omega
         case hx1 => rfl
         case hv1 => rfl
         case hk1 => exact keyOf_int_mk Try.underlying3 (by decide)
         case hp1 => exact sz_p _ (by decide)
         intro w1 ho1 hg1
         have hz1 := sz_step (sz_start w) hg1)
      | (refine wpList_insert_own _ rfl (.tmp 34) (.const (.int .i64 5)) (.const (.int .i64 144)) 93 rfl 3 3 sz_l3 Try.underlying93 (plainElem (H := Unit) Try.prog 3) ?hb2 1 ?hD2 ?hm2 ?ho2 ?hn2 (.int .i64 5) (.int .i64 144) (.int .i64 5) ?hx2 ?hv2 ?hk2 (.lit (.int .i64 144)) [] ?hp2 ?hK2
         case hm2 => rfl
         case ho2 => exact ho1
         case hn2 => unfold maxLen; omega
         case hx2 => rfl
         case hv2 => rfl
         case hk2 => exact keyOf_int_mk Try.underlying3 (by decide)
         case hp2 => exact sz_p _ (by decide)
         intro w2 ho2 hg2
         have hz2 := sz_step hz1 hg2)
      | (refine wpList_insert_own _ rfl (.tmp 34) (.const (.int .i64 6)) (.const (.int .i64 128)) 93 rfl 3 3 sz_l3 Try.underlying93 (plainElem (H := Unit) Try.prog 3) ?hb3 2 ?hD3 ?hm3 ?ho3 ?hn3 (.int .i64 6) (.int .i64 128) (.int .i64 6) ?hx3 ?hv3 ?hk3 (.lit (.int .i64 128)) [] ?hp3 ?hK3
         case hm3 => rfl
         case ho3 => exact ho2
         case hn3 => unfold maxLen; omega
         case hx3 => rfl
         case hv3 => rfl
         case hk3 => exact keyOf_int_mk Try.underlying3 (by decide)
         case hp3 => exact sz_p _ (by decide)
         intro w3 ho3 hg3
         have hz3 := sz_step hz2 hg3
         have c0 := hz3.c0
         have c1 := hz3.c1
         have f0 := hz3.f 0
         have f1 := hz3.f 1)
      | (at_lookup
         refine wpList_lookup_own_int (H := Unit) _ rfl (.tmp 35) (.tmp 36) 93 rfl 3 3 .i64 sz_l3 Try.underlying93 Try.underlying3 (sz_z3 _) ?hb4 3 ?hD4 ?hm4 ?ho4 (.int .i64 10) (.int .i64 10) ?hx4 ?hk4 ?hK4
         case hk4 => exact keyOf_int_mk Try.underlying3 (by decide)
         case hm4 => rfl
         case ho4 => exact ho3
         case hx4 => rfl
         intro c hat hwc)
      | go_in)
  refine wp_loop_rounds 6 ?_
  rw [rounds_succ]
  go_wp2
  all_goals try rw [rounds_succ]
  all_goals try go_wp2
  all_goals try rw [rounds_succ]
  all_goals try go_wp2
  all_goals try rw [rounds_succ]
  all_goals try go_wp2
  all_goals try rw [rounds_succ]
  all_goals try go_wp2
  all_goals try rw [rounds_succ]
  all_goals try go_wp2
  all_goals clear hmm
  all_goals first | refine sz_fin rfl rfl (sz_one _ _) ⟨?_, (Below.refl _ _).alloc (Nat.le_refl _) _⟩ | refine sz_fin rfl rfl (sz_set hz3.b) ⟨?_, (hz3.o.setCell (Nat.le_refl _) _).setCell (Nat.le_refl _) _⟩
  · exact sz_eq (sze1 ‹_›)
  · exact sz_eq (sze2 ‹_›)
  · exact sz_eq (sze4 ‹_›)
  · exact sz_eq (sze8 ‹_›)
  · exact sz_eq (sze16 ‹_›)
  · exact sz_eq (szen hn0 ‹(n == 1) = false› ‹(n == 2) = false› ‹(n == 4) = false› ‹(n == 8) = false› ‹(n == 16) = false› (by simp; omega))
  · exact sz_eq (szen hn0 ‹(n == 1) = false› ‹(n == 2) = false› ‹(n == 4) = false› ‹(n == 8) = false› ‹(n == 16) = false› (by simp; omega))
  · exact sz_eq (szen hn0 ‹(n == 1) = false› ‹(n == 2) = false› ‹(n == 4) = false› ‹(n == 8) = false› ‹(n == 16) = false› (by simp; omega))
theorem sz_bytes (n : Int) (hn0 : 0 ≤ n) (hn1 : n < 4294967296) (w : World) : Calls Try.prog 41 #[.int .i64 3, .int .i64 n] w fun e w' => e = .returned (.agg #[.int .i64 (Mp.sized 3 n).1, .int .i64 (Mp.sized 3 n).2]) ∧ Below w.heap.size w w' := by
  have hmm := @run_makeMap Try.prog
  go_enter Try.func41, Try.ntmps41
  go_wp2_with (first
      | (refine wpList_insert_own _ rfl (.tmp 34) (.const (.int .i64 4)) (.const (.int .i64 160)) 93 rfl 3 3 sz_l3 Try.underlying93 (plainElem (H := Unit) Try.prog 3) ?hb1 0 ?hD1 ?hm1 ?ho1 ?hn1 (.int .i64 4) (.int .i64 160) (.int .i64 4) ?hx1 ?hv1 ?hk1 (.lit (.int .i64 160)) [] ?hp1 ?hK1
         case hm1 => rfl
         case ho1 => exact sz_made w _
         case hn1 => unfold maxLen; omega
         case hx1 => rfl
         case hv1 => rfl
         case hk1 => exact keyOf_int_mk Try.underlying3 (by decide)
         case hp1 => exact sz_p _ (by decide)
         intro w1 ho1 hg1
         have hz1 := sz_step (sz_start w) hg1)
      | (refine wpList_insert_own _ rfl (.tmp 34) (.const (.int .i64 5)) (.const (.int .i64 144)) 93 rfl 3 3 sz_l3 Try.underlying93 (plainElem (H := Unit) Try.prog 3) ?hb2 1 ?hD2 ?hm2 ?ho2 ?hn2 (.int .i64 5) (.int .i64 144) (.int .i64 5) ?hx2 ?hv2 ?hk2 (.lit (.int .i64 144)) [] ?hp2 ?hK2
         case hm2 => rfl
         case ho2 => exact ho1
         case hn2 => unfold maxLen; omega
         case hx2 => rfl
         case hv2 => rfl
         case hk2 => exact keyOf_int_mk Try.underlying3 (by decide)
         case hp2 => exact sz_p _ (by decide)
         intro w2 ho2 hg2
         have hz2 := sz_step hz1 hg2)
      | (refine wpList_insert_own _ rfl (.tmp 34) (.const (.int .i64 6)) (.const (.int .i64 128)) 93 rfl 3 3 sz_l3 Try.underlying93 (plainElem (H := Unit) Try.prog 3) ?hb3 2 ?hD3 ?hm3 ?ho3 ?hn3 (.int .i64 6) (.int .i64 128) (.int .i64 6) ?hx3 ?hv3 ?hk3 (.lit (.int .i64 128)) [] ?hp3 ?hK3
         case hm3 => rfl
         case ho3 => exact ho2
         case hn3 => unfold maxLen; omega
         case hx3 => rfl
         case hv3 => rfl
         case hk3 => exact keyOf_int_mk Try.underlying3 (by decide)
         case hp3 => exact sz_p _ (by decide)
         intro w3 ho3 hg3
         have hz3 := sz_step hz2 hg3
         have c0 := hz3.c0
         have c1 := hz3.c1
         have f0 := hz3.f 0
         have f1 := hz3.f 1)
      | (at_lookup
         refine wpList_lookup_own_int (H := Unit) _ rfl (.tmp 35) (.tmp 36) 93 rfl 3 3 .i64 sz_l3 Try.underlying93 Try.underlying3 (sz_z3 _) ?hb4 3 ?hD4 ?hm4 ?ho4 (.int .i64 3) (.int .i64 3) ?hx4 ?hk4 ?hK4
         case hk4 => exact keyOf_int_mk Try.underlying3 (by decide)
         case hm4 => rfl
         case ho4 => exact ho3
         case hx4 => rfl
         intro c hat hwc)
      | go_in)
  all_goals clear hmm
  all_goals first | refine sz_fin rfl rfl (sz_one _ _) ⟨?_, (Below.refl _ _).alloc (Nat.le_refl _) _⟩ | refine sz_fin rfl rfl (sz_set hz3.b) ⟨?_, (hz3.o.setCell (Nat.le_refl _) _).setCell (Nat.le_refl _) _⟩
  · exact sz_eq (szb1 (by omega) (by omega))
  · exact sz_eq (szb2 (by omega) (by omega))
  · exact sz_eq (szb3 (by omega))
theorem sz_list (n : Int) (hn0 : 0 ≤ n) (hn1 : n < 4294967296) (w : World) : Calls Try.prog 41 #[.int .i64 5, .int .i64 n] w fun e w' => e = .returned (.agg #[.int .i64 (Mp.sized 5 n).1, .int .i64 (Mp.sized 5 n).2]) ∧ Below w.heap.size w w' := by
  have hmm := @run_makeMap Try.prog
  go_enter Try.func41, Try.ntmps41
  go_wp2_with (first
      | (refine wpList_insert_own _ rfl (.tmp 34) (.const (.int .i64 4)) (.const (.int .i64 160)) 93 rfl 3 3 sz_l3 Try.underlying93 (plainElem (H := Unit) Try.prog 3) ?hb1 0 ?hD1 ?hm1 ?ho1 ?hn1 (.int .i64 4) (.int .i64 160) (.int .i64 4) ?hx1 ?hv1 ?hk1 (.lit (.int .i64 160)) [] ?hp1 ?hK1
         case hm1 => rfl
         case ho1 => exact sz_made w _
         case hn1 => unfold maxLen; omega
         case hx1 => rfl
         case hv1 => rfl
         case hk1 => exact keyOf_int_mk Try.underlying3 (by decide)
         case hp1 => exact sz_p _ (by decide)
         intro w1 ho1 hg1
         have hz1 := sz_step (sz_start w) hg1)
      | (refine wpList_insert_own _ rfl (.tmp 34) (.const (.int .i64 5)) (.const (.int .i64 144)) 93 rfl 3 3 sz_l3 Try.underlying93 (plainElem (H := Unit) Try.prog 3) ?hb2 1 ?hD2 ?hm2 ?ho2 ?hn2 (.int .i64 5) (.int .i64 144) (.int .i64 5) ?hx2 ?hv2 ?hk2 (.lit (.int .i64 144)) [] ?hp2 ?hK2
         case hm2 => rfl
         case ho2 => exact ho1
         case hn2 => unfold maxLen; omega
         case hx2 => rfl
         case hv2 => rfl
         case hk2 => exact keyOf_int_mk Try.underlying3 (by decide)
         case hp2 => exact sz_p _ (by decide)
         intro w2 ho2 hg2
         have hz2 := sz_step hz1 hg2)
      | (refine wpList_insert_own _ rfl (.tmp 34) (.const (.int .i64 6)) (.const (.int .i64 128)) 93 rfl 3 3 sz_l3 Try.underlying93 (plainElem (H := Unit) Try.prog 3) ?hb3 2 ?hD3 ?hm3 ?ho3 ?hn3 (.int .i64 6) (.int .i64 128) (.int .i64 6) ?hx3 ?hv3 ?hk3 (.lit (.int .i64 128)) [] ?hp3 ?hK3
         case hm3 => rfl
         case ho3 => exact ho2
         case hn3 => unfold maxLen; omega
         case hx3 => rfl
         case hv3 => rfl
         case hk3 => exact keyOf_int_mk Try.underlying3 (by decide)
         case hp3 => exact sz_p _ (by decide)
         intro w3 ho3 hg3
         have hz3 := sz_step hz2 hg3
         have c0 := hz3.c0
         have c1 := hz3.c1
         have f0 := hz3.f 0
         have f1 := hz3.f 1)
      | (at_lookup
         refine wpList_lookup_own_int (H := Unit) _ rfl (.tmp 35) (.tmp 36) 93 rfl 3 3 .i64 sz_l3 Try.underlying93 Try.underlying3 (sz_z3 _) ?hb4 3 ?hD4 ?hm4 ?ho4 (.int .i64 5) (.int .i64 5) ?hx4 ?hk4 ?hK4
         case hk4 => exact keyOf_int_mk Try.underlying3 (by decide)
         case hm4 => rfl
         case ho4 => exact ho3
         case hx4 => rfl
         intro c hat hwc)
      | go_in)
  all_goals clear hmm
  all_goals first | refine sz_fin rfl rfl (sz_one _ _) ⟨?_, (Below.refl _ _).alloc (Nat.le_refl _) _⟩ | refine sz_fin rfl rfl (sz_set hz3.b) ⟨?_, (hz3.o.setCell (Nat.le_refl _) _).setCell (Nat.le_refl _) _⟩
  · have hc : c = 144 := sz_c5 hat
    subst hc
    rw [sz_wrap (by omega) (by omega)]
    exact sz_eq (szl50 (by omega))
  · exact sz_eq (szl51 (by omega) (by omega))
  · exact sz_eq (szl52 (by omega))
theorem sz_map (n : Int) (hn0 : 0 ≤ n) (hn1 : n < 4294967296) (w : World) : Calls Try.prog 41 #[.int .i64 6, .int .i64 n] w fun e w' => e = .returned (.agg #[.int .i64 (Mp.sized 6 n).1, .int .i64 (Mp.sized 6 n).2]) ∧ Below w.heap.size w w' := by
  have hmm := @run_makeMap Try.prog
  go_enter Try.func41, Try.ntmps41
  go_wp2_with (first
      | (refine wpList_insert_own _ rfl (.tmp 34) (.const (.int .i64 4)) (.const (.int .i64 160)) 93 rfl 3 3 sz_l3 Try.underlying93 (plainElem (H := Unit) Try.prog 3) ?hb1 0 ?hD1 ?hm1 ?ho1 ?hn1 (.int .i64 4) (.int .i64 160) (.int .i64 4) ?hx1 ?hv1 ?hk1 (.lit (.int .i64 160)) [] ?hp1 ?hK1
         case hm1 => rfl
         case ho1 => exact sz_made w _
         case hn1 => unfold maxLen; omega
         case hx1 => rfl
         case hv1 => rfl
         case hk1 => exact keyOf_int_mk Try.underlying3 (by decide)
         case hp1 => exact sz_p _ (by decide)
         intro w1 ho1 hg1
         have hz1 := sz_step (sz_start w) hg1)
      | (refine wpList_insert_own _ rfl (.tmp 34) (.const (.int .i64 5)) (.const (.int .i64 144)) 93 rfl 3 3 sz_l3 Try.underlying93 (plainElem (H := Unit) Try.prog 3) ?hb2 1 ?hD2 ?hm2 ?ho2 ?hn2 (.int .i64 5) (.int .i64 144) (.int .i64 5) ?hx2 ?hv2 ?hk2 (.lit (.int .i64 144)) [] ?hp2 ?hK2
         case hm2 => rfl
         case ho2 => exact ho1
         case hn2 => unfold maxLen; omega
         case hx2 => rfl
         case hv2 => rfl
         case hk2 => exact keyOf_int_mk Try.underlying3 (by decide)
         case hp2 => exact sz_p _ (by decide)
         intro w2 ho2 hg2
         have hz2 := sz_step hz1 hg2)
      | (refine wpList_insert_own _ rfl (.tmp 34) (.const (.int .i64 6)) (.const (.int .i64 128)) 93 rfl 3 3 sz_l3 Try.underlying93 (plainElem (H := Unit) Try.prog 3) ?hb3 2 ?hD3 ?hm3 ?ho3 ?hn3 (.int .i64 6) (.int .i64 128) (.int .i64 6) ?hx3 ?hv3 ?hk3 (.lit (.int .i64 128)) [] ?hp3 ?hK3
         case hm3 => rfl
         case ho3 => exact ho2
         case hn3 => unfold maxLen; omega
         case hx3 => rfl
         case hv3 => rfl
         case hk3 => exact keyOf_int_mk Try.underlying3 (by decide)
         case hp3 => exact sz_p _ (by decide)
         intro w3 ho3 hg3
         have hz3 := sz_step hz2 hg3
         have c0 := hz3.c0
         have c1 := hz3.c1
         have f0 := hz3.f 0
         have f1 := hz3.f 1)
      | (at_lookup
         refine wpList_lookup_own_int (H := Unit) _ rfl (.tmp 35) (.tmp 36) 93 rfl 3 3 .i64 sz_l3 Try.underlying93 Try.underlying3 (sz_z3 _) ?hb4 3 ?hD4 ?hm4 ?ho4 (.int .i64 6) (.int .i64 6) ?hx4 ?hk4 ?hK4
         case hk4 => exact keyOf_int_mk Try.underlying3 (by decide)
         case hm4 => rfl
         case ho4 => exact ho3
         case hx4 => rfl
         intro c hat hwc)
      | go_in)
  all_goals clear hmm
  all_goals first | refine sz_fin rfl rfl (sz_one _ _) ⟨?_, (Below.refl _ _).alloc (Nat.le_refl _) _⟩ | refine sz_fin rfl rfl (sz_set hz3.b) ⟨?_, (hz3.o.setCell (Nat.le_refl _) _).setCell (Nat.le_refl _) _⟩
  · have hc : c = 128 := sz_c6 hat
    subst hc
    rw [sz_wrap (by omega) (by omega)]
    exact sz_eq (szl60 (by omega))
  · exact sz_eq (szl61 (by omega) (by omega))
  · exact sz_eq (szl62 (by omega))
theorem mp_sized.ok : SpecOK Go.Proofs.Try.prog (fun n => (noGl n).av) 41 (Ctr.fs (mp_sized.c, mp_sized.sg)) := by
  refine spec_plain fun ti to_ w R xs hc ha hR hgl => ?_
  unfold mp_sized.c at hc
  split at hc
  · rename_i k n
    obtain ⟨hp, rfl⟩ := hc
    simp only [Bool.and_eq_true, decide_eq_true_eq, Mp.sizeds] at hp
    obtain ⟨hk, h0, h1⟩ := hp
    have hxs : xs = [.int .i64 k, .int .i64 n] := by
      have hq : RepT R w [.v (.int .i64 k), .v (.int .i64 n)] xs := ha
      clear ha
      cases hq with
      | cons a1 q1 => cases q1 with
        | cons a2 q2 => cases q2; cases a1; cases a2; rfl
    subst hxs
    have fin : ∀ {S : Int × Int}, Calls Go.Proofs.Try.prog 41 #[.int .i64 k, .int .i64 n] w (fun e w' => e = .returned (.agg #[.int .i64 S.1, .int .i64 S.2]) ∧ Below w.heap.size w w') →
        Calls Go.Proofs.Try.prog 41 ⟨[.int .i64 k, .int .i64 n]⟩ w fun e w' => ∃ x, e = .returned x ∧ Below w.heap.size w w' ∧ ∀ R w', RepT R w' ([(TV.ag [.i .i64 S.1, .i .i64 S.2])].map TV.av) [x] := by
      intro S h
      refine h.mono ?_
      rintro e w' ⟨rfl, hb⟩
      exact ⟨_, rfl, hb, fun R w' => .cons (.ag (.cons rfl (.v _) (.cons rfl (.v _) .nil))) .nil⟩
    rcases hk with rfl | rfl | rfl | rfl | rfl
    · exact fin (sz_bytes n h0 h1 w)
    · exact fin (sz_text n h0 h1 w)
    · exact fin (sz_list n h0 h1 w)
    · exact fin (sz_map n h0 h1 w)
    · exact fin (sz_ext n h0 h1 w)
  · exact hc.elim
end Go.Eng
namespace Go.Eng
theorem utf_is.fit (r : Int) : ([.i .i64 r] : List TV).length = utf_is.d.np ∧ utf_is.d.run (envL noGl utf_is.env) [.i .i64 r] = some (([(.b (Utf.isRune r))] : List TV) ++ utf_is.d.ps.toList.map fun q => ([.i .i64 r] : List TV).getD q.1 .dead) :=
  ⟨by kernel_rfl, Eq.trans (b := utf_is.F r) (by kernel_rfl) (Eq.trans (utf_is.goal r) (by kernel_rfl))⟩
theorem utf_is.ok : SpecOK Go.Proofs.Try.prog (fun n => (noGl n).av) 71 (Ctr.fs (utf_is.c, utf_is.sg)) :=
  meets (l := utf_is.env) all_nil utf_is.chk (by
      intro ins outs h
      unfold utf_is.c at h
      split at h
      · cases h; exact utf_is.fit _
      · exact h.elim)
theorem utf_Rune.fit (b : List UInt8) (at_ : Int) (hp : (decide (b.length ≤ 1099511627776)) = true) : ([.sl .bs b, .i .i64 at_] : List TV).length = utf_Rune.d.np ∧ utf_Rune.d.run (envL noGl utf_Rune.env) [.sl .bs b, .i .i64 at_] = some (([(.i .i64 ((Utf.runeAt b at_).1)), (.i .i64 ((Utf.runeAt b at_).2))] : List TV) ++ utf_Rune.d.ps.toList.map fun q => ([.sl .bs b, .i .i64 at_] : List TV).getD q.1 .dead) :=
  ⟨by kernel_rfl, Eq.trans (b := utf_Rune.F b at_) (by kernel_rfl) (Eq.trans (utf_Rune.goal b at_ hp) (by kernel_rfl))⟩
theorem utf_Rune.ok : SpecOK Go.Proofs.Try.prog (fun n => (noGl n).av) 63 (Ctr.fs (utf_Rune.c, utf_Rune.sg)) :=
  meets (l := utf_Rune.env) (all_cons utf_is.ok all_nil) utf_Rune.chk (by
      intro ins outs h
      unfold utf_Rune.c at h
      split at h
      · obtain ⟨hp, rfl⟩ := h; exact utf_Rune.fit _ _ hp
      · exact h.elim)
theorem utf_look.fit (b : List UInt8) (hp : (decide (b.length ≤ 1099511627776)) = true) : ([.sl .bs b] : List TV).length = utf_look.d.np ∧ utf_look.d.run (envL noGl utf_look.env) [.sl .bs b] = some (([(.i .i64 (((Utf.look b).1 : Int))), (.i .i64 (((Utf.look b).2 : Int)))] : List TV) ++ utf_look.d.ps.toList.map fun q => ([.sl .bs b] : List TV).getD q.1 .dead) :=
  ⟨by kernel_rfl, Eq.trans (b := utf_look.F b) (by kernel_rfl) (Eq.trans (utf_look.goal b hp) (by kernel_rfl))⟩
theorem utf_look.ok : SpecOK Go.Proofs.Try.prog (fun n => (noGl n).av) 46 (Ctr.fs (utf_look.c, utf_look.sg)) :=
  meets (l := utf_look.env) (all_cons utf_Rune.ok all_nil) utf_look.chk (by
      intro ins outs h
      unfold utf_look.c at h
      split at h
      · obtain ⟨hp, rfl⟩ := h; exact utf_look.fit _ hp
      · exact h.elim)
theorem utf_Check.fit (b : List UInt8) (hp : (decide (b.length ≤ 1099511627776)) = true) : ([.sl .bs b] : List TV).length = utf_Check.d.np ∧ utf_Check.d.run (envL noGl utf_Check.env) [.sl .bs b] = some (([(.i .i64 (((Utf.look b).1 : Int))), (.b (Utf.whole b))] : List TV) ++ utf_Check.d.ps.toList.map fun q => ([.sl .bs b] : List TV).getD q.1 .dead) :=
  ⟨by kernel_rfl, Eq.trans (b := utf_Check.F b) (by kernel_rfl) (Eq.trans (utf_Check.goal b hp) (by kernel_rfl))⟩
theorem utf_Check.ok : SpecOK Go.Proofs.Try.prog (fun n => (noGl n).av) 27 (Ctr.fs (utf_Check.c, utf_Check.sg)) :=
  meets (l := utf_Check.env) (all_cons utf_look.ok all_nil) utf_Check.chk (by
      intro ins outs h
      unfold utf_Check.c at h
      split at h
      · obtain ⟨hp, rfl⟩ := h; exact utf_Check.fit _ hp
      · exact h.elim)
theorem rd_At.fit (r_b : List UInt8) (r_at : Int) : ([.ro (.ag [.sl .bs r_b, .i .i64 r_at])] : List TV).length = rd_At.d.np ∧ rd_At.d.run (envL noGl rd_At.env) [.ro (.ag [.sl .bs r_b, .i .i64 r_at])] = some (([(.i .i64 ((((Rdr.mk r_b r_at)).at_)))] : List TV) ++ rd_At.d.ps.toList.map fun q => ([.ro (.ag [.sl .bs r_b, .i .i64 r_at])] : List TV).getD q.1 .dead) :=
  ⟨by kernel_rfl, Eq.trans (b := rd_At.F (Rdr.mk r_b r_at)) (by kernel_rfl) (Eq.trans (rd_At.goal (Rdr.mk r_b r_at)) (by kernel_rfl))⟩
theorem rd_At.ok : SpecOK Go.Proofs.Try.prog (fun n => (noGl n).av) 33 (Ctr.fs (rd_At.c, rd_At.sg)) :=
  meets (l := rd_At.env) all_nil rd_At.chk (by
      intro ins outs h
      unfold rd_At.c at h
      split at h
      · cases h; exact rd_At.fit _ _
      · exact h.elim)
theorem rd_Left.fit (r_b : List UInt8) (r_at : Int) (hp : (Cur.good (Rdr.mk r_b r_at)) = true) : ([.ro (.ag [.sl .bs r_b, .i .i64 r_at])] : List TV).length = rd_Left.d.np ∧ rd_Left.d.run (envL noGl rd_Left.env) [.ro (.ag [.sl .bs r_b, .i .i64 r_at])] = some (([(.i .i64 (Cur.left (Rdr.mk r_b r_at)))] : List TV) ++ rd_Left.d.ps.toList.map fun q => ([.ro (.ag [.sl .bs r_b, .i .i64 r_at])] : List TV).getD q.1 .dead) :=
  ⟨by kernel_rfl, Eq.trans (b := rd_Left.F (Rdr.mk r_b r_at)) (by kernel_rfl) (Eq.trans (rd_Left.goal (Rdr.mk r_b r_at) hp) (by kernel_rfl))⟩
theorem rd_Left.ok : SpecOK Go.Proofs.Try.prog (fun n => (noGl n).av) 32 (Ctr.fs (rd_Left.c, rd_Left.sg)) :=
  meets (l := rd_Left.env) all_nil rd_Left.chk (by
      intro ins outs h
      unfold rd_Left.c at h
      split at h
      · obtain ⟨hp, rfl⟩ := h; exact rd_Left.fit _ _ hp
      · exact h.elim)
theorem rd_Byte.fit (r_b : List UInt8) (r_at : Int) (hp : (Cur.good (Rdr.mk r_b r_at)) = true) : ([.ag [.sl .bs r_b, .i .i64 r_at]] : List TV).length = rd_Byte.d.np ∧ rd_Byte.d.run (envL noGl rd_Byte.env) [.ag [.sl .bs r_b, .i .i64 r_at]] = some (([(.i .i64 (Cur.byte (Rdr.mk r_b r_at))), (.b (Cur.more (Rdr.mk r_b r_at))), (.ag (Rdr.cells (Cur.adv (Rdr.mk r_b r_at) 1 (Cur.more (Rdr.mk r_b r_at)))))] : List TV) ++ rd_Byte.d.ps.toList.map fun q => ([.ag [.sl .bs r_b, .i .i64 r_at]] : List TV).getD q.1 .dead) :=
  ⟨by kernel_rfl, Eq.trans (b := rd_Byte.F (Rdr.mk r_b r_at)) (by kernel_rfl) (Eq.trans (rd_Byte.goal (Rdr.mk r_b r_at) hp) (by kernel_rfl))⟩
theorem rd_Byte.ok : SpecOK Go.Proofs.Try.prog (fun n => (noGl n).av) 48 (Ctr.fs (rd_Byte.c, rd_Byte.sg)) :=
  meets (l := rd_Byte.env) all_nil rd_Byte.chk (by
      intro ins outs h
      unfold rd_Byte.c at h
      split at h
      · obtain ⟨hp, rfl⟩ := h; exact rd_Byte.fit _ _ hp
      · exact h.elim)
theorem rd_next.fit (r_b : List UInt8) (r_at : Int) (n : Int) (hp : (Cur.good (Rdr.mk r_b r_at)) = true) : ([.ag [.sl .bs r_b, .i .i64 r_at], .i .i64 n] : List TV).length = rd_next.d.np ∧ rd_next.d.run (envL noGl rd_next.env) [.ag [.sl .bs r_b, .i .i64 r_at], .i .i64 n] = some (([(.sl .bs (Cur.nx (Rdr.mk r_b r_at) n (Cur.ok8 (Rdr.mk r_b r_at) n))), (.b (Cur.ok8 (Rdr.mk r_b r_at) n)), (.ag (Rdr.cells (Cur.adv (Rdr.mk r_b r_at) n (Cur.ok8 (Rdr.mk r_b r_at) n))))] : List TV) ++ rd_next.d.ps.toList.map fun q => ([.ag [.sl .bs r_b, .i .i64 r_at], .i .i64 n] : List TV).getD q.1 .dead) :=
  ⟨by kernel_rfl, Eq.trans (b := rd_next.F (Rdr.mk r_b r_at) n) (by kernel_rfl) (Eq.trans (rd_next.goal (Rdr.mk r_b r_at) n hp) (by kernel_rfl))⟩
theorem rd_next.ok : SpecOK Go.Proofs.Try.prog (fun n => (noGl n).av) 65 (Ctr.fs (rd_next.c, rd_next.sg)) :=
  meets (l := rd_next.env) (all_cons rd_Left.ok all_nil) rd_next.chk (by
      intro ins outs h
      unfold rd_next.c at h
      split at h
      · obtain ⟨hp, rfl⟩ := h; exact rd_next.fit _ _ _ hp
      · exact h.elim)
theorem rd_Take.fit (r_b : List UInt8) (r_at : Int) (n : Int) (hp : (Cur.good (Rdr.mk r_b r_at)) = true) : ([.ag [.sl .bs r_b, .i .i64 r_at], .i .i64 n] : List TV).length = rd_Take.d.np ∧ rd_Take.d.run (envL noGl rd_Take.env) [.ag [.sl .bs r_b, .i .i64 r_at], .i .i64 n] = some (([(.sl .bs (Cur.nx (Rdr.mk r_b r_at) n (Cur.okT (Rdr.mk r_b r_at) n))), (.b (Cur.okT (Rdr.mk r_b r_at) n)), (.ag (Rdr.cells (Cur.adv (Rdr.mk r_b r_at) n (Cur.okT (Rdr.mk r_b r_at) n))))] : List TV) ++ rd_Take.d.ps.toList.map fun q => ([.ag [.sl .bs r_b, .i .i64 r_at], .i .i64 n] : List TV).getD q.1 .dead) :=
  ⟨by kernel_rfl, Eq.trans (b := rd_Take.F (Rdr.mk r_b r_at) n) (by kernel_rfl) (Eq.trans (rd_Take.goal (Rdr.mk r_b r_at) n hp) (by kernel_rfl))⟩
theorem rd_Take.ok : SpecOK Go.Proofs.Try.prog (fun n => (noGl n).av) 66 (Ctr.fs (rd_Take.c, rd_Take.sg)) :=
  meets (l := rd_Take.env) (all_cons rd_Left.ok (all_cons clone_bs.ok all_nil)) rd_Take.chk (by
      intro ins outs h
      unfold rd_Take.c at h
      split at h
      · obtain ⟨hp, rfl⟩ := h; exact rd_Take.fit _ _ _ hp
      · exact h.elim)
theorem rd_High.fit (r_b : List UInt8) (r_at : Int) (n : Int) (hp : (Cur.good (Rdr.mk r_b r_at)) = true) : ([.ag [.sl .bs r_b, .i .i64 r_at], .i .i64 n] : List TV).length = rd_High.d.np ∧ rd_High.d.run (envL noGl rd_High.env) [.ag [.sl .bs r_b, .i .i64 r_at], .i .i64 n] = some (([(.u64 (Cur.be (Cur.nx (Rdr.mk r_b r_at) n (Cur.ok8 (Rdr.mk r_b r_at) n)))), (.b (Cur.ok8 (Rdr.mk r_b r_at) n)), (.ag (Rdr.cells (Cur.adv (Rdr.mk r_b r_at) n (Cur.ok8 (Rdr.mk r_b r_at) n))))] : List TV) ++ rd_High.d.ps.toList.map fun q => ([.ag [.sl .bs r_b, .i .i64 r_at], .i .i64 n] : List TV).getD q.1 .dead) :=
  ⟨by kernel_rfl, Eq.trans (b := rd_High.F (Rdr.mk r_b r_at) n) (by kernel_rfl) (Eq.trans (rd_High.goal (Rdr.mk r_b r_at) n hp) (by kernel_rfl))⟩
theorem rd_High.ok : SpecOK Go.Proofs.Try.prog (fun n => (noGl n).av) 50 (Ctr.fs (rd_High.c, rd_High.sg)) :=
  meets (l := rd_High.env) (all_cons rd_next.ok all_nil) rd_High.chk (by
      intro ins outs h
      unfold rd_High.c at h
      split at h
      · obtain ⟨hp, rfl⟩ := h; exact rd_High.fit _ _ _ hp
      · exact h.elim)
theorem cur_New.fit (b : List UInt8) (hp : (decide ((b).length ≤ 1099511627776)) = true) : ([.sl .bs b] : List TV).length = cur_New.d.np ∧ cur_New.d.run (envL noGl cur_New.env) [.sl .bs b] = some (([.pt, (.ag (Rdr.cells ((Rdr.mk b 0))))] : List TV) ++ cur_New.d.ps.toList.map fun q => ([.sl .bs b] : List TV).getD q.1 .dead) :=
  ⟨by kernel_rfl, Eq.trans (b := cur_New.F b) (by kernel_rfl) (Eq.trans (cur_New.goal b hp) (by kernel_rfl))⟩
theorem cur_New.ok : SpecOK Go.Proofs.Try.prog (fun n => (noGl n).av) 30 (Ctr.fs (cur_New.c, cur_New.sg)) :=
  meets (l := cur_New.env) (all_cons clone_bs.ok all_nil) cur_New.chk (by
      intro ins outs h
      unfold cur_New.c at h
      split at h
      · obtain ⟨hp, rfl⟩ := h; exact cur_New.fit _ hp
      · exact h.elim)
theorem cur_number.fit (n : Int) : ([.i .i64 n] : List TV).length = cur_number.d.np ∧ cur_number.d.run (envL noGl cur_number.env) [.i .i64 n] = some (([(.b (decide (1 ≤ n ∧ n ≤ 8)))] : List TV) ++ cur_number.d.ps.toList.map fun q => ([.i .i64 n] : List TV).getD q.1 .dead) :=
  ⟨by kernel_rfl, Eq.trans (b := cur_number.F n) (by kernel_rfl) (Eq.trans (cur_number.goal n) (by kernel_rfl))⟩
theorem cur_number.ok : SpecOK Go.Proofs.Try.prog (fun n => (noGl n).av) 67 (Ctr.fs (cur_number.c, cur_number.sg)) :=
  meets (l := cur_number.env) all_nil cur_number.chk (by
      intro ins outs h
      unfold cur_number.c at h
      split at h
      · cases h; exact cur_number.fit _
      · exact h.elim)
theorem cur_Lay.fit : ([] : List TV).length = cur_Lay.d.np ∧ cur_Lay.d.run (envL noGl cur_Lay.env) [] = some (([.pt, (.ag (Wtr.cells ((Wtr.mk []))))] : List TV) ++ cur_Lay.d.ps.toList.map fun q => ([] : List TV).getD q.1 .dead) :=
  ⟨by kernel_rfl, Eq.trans (b := cur_Lay.F ) (by kernel_rfl) (Eq.trans (cur_Lay.goal ) (by kernel_rfl))⟩
theorem cur_Lay.ok : SpecOK Go.Proofs.Try.prog (fun n => (noGl n).av) 22 (Ctr.fs (cur_Lay.c, cur_Lay.sg)) :=
  meets (l := cur_Lay.env) all_nil cur_Lay.chk (by
      intro ins outs h
      unfold cur_Lay.c at h
      split at h
      · cases h; exact cur_Lay.fit
      · exact h.elim)
theorem wr_Byte.fit (w_b : List UInt8) (v : Int) (hp : (decide (((Wtr.mk w_b)).b.length ≤ 1099511627776)) = true) : ([.ag [.sl .bs w_b], .i .i64 v] : List TV).length = wr_Byte.d.np ∧ wr_Byte.d.run (envL noGl wr_Byte.env) [.ag [.sl .bs w_b], .i .i64 v] = some (([(.ag (Wtr.cells ((Wtr.mk (((Wtr.mk w_b)).b ++ [UInt8.ofInt v])))))] : List TV) ++ wr_Byte.d.ps.toList.map fun q => ([.ag [.sl .bs w_b], .i .i64 v] : List TV).getD q.1 .dead) :=
  ⟨by kernel_rfl, Eq.trans (b := wr_Byte.F (Wtr.mk w_b) v) (by kernel_rfl) (Eq.trans (wr_Byte.goal (Wtr.mk w_b) v hp) (by kernel_rfl))⟩
theorem wr_Byte.ok : SpecOK Go.Proofs.Try.prog (fun n => (noGl n).av) 40 (Ctr.fs (wr_Byte.c, wr_Byte.sg)) :=
  meets (l := wr_Byte.env) all_nil wr_Byte.chk (by
      intro ins outs h
      unfold wr_Byte.c at h
      split at h
      · obtain ⟨hp, rfl⟩ := h; exact wr_Byte.fit _ _ hp
      · exact h.elim)
theorem wr_Raw.fit (w_b : List UInt8) (b : List UInt8) (hp : (decide (((Wtr.mk w_b)).b.length + (b).length ≤ 1099511627776)) = true) : ([.ag [.sl .bs w_b], .sl .bs b] : List TV).length = wr_Raw.d.np ∧ wr_Raw.d.run (envL noGl wr_Raw.env) [.ag [.sl .bs w_b], .sl .bs b] = some (([(.ag (Wtr.cells ((Wtr.mk (((Wtr.mk w_b)).b ++ b)))))] : List TV) ++ wr_Raw.d.ps.toList.map fun q => ([.ag [.sl .bs w_b], .sl .bs b] : List TV).getD q.1 .dead) :=
  ⟨by kernel_rfl, Eq.trans (b := wr_Raw.F (Wtr.mk w_b) b) (by kernel_rfl) (Eq.trans (wr_Raw.goal (Wtr.mk w_b) b hp) (by kernel_rfl))⟩
theorem wr_Raw.ok : SpecOK Go.Proofs.Try.prog (fun n => (noGl n).av) 42 (Ctr.fs (wr_Raw.c, wr_Raw.sg)) :=
  meets (l := wr_Raw.env) all_nil wr_Raw.chk (by
      intro ins outs h
      unfold wr_Raw.c at h
      split at h
      · obtain ⟨hp, rfl⟩ := h; exact wr_Raw.fit _ _ hp
      · exact h.elim)
theorem wr_High.fit (w_b : List UInt8) (v : UInt64) (n : Int) (hp : (decide (((Wtr.mk w_b)).b.length ≤ 1099511627776)) = true) : ([.ag [.sl .bs w_b], .u64 v, .i .i64 n] : List TV).length = wr_High.d.np ∧ wr_High.d.run (envL noGl wr_High.env) [.ag [.sl .bs w_b], .u64 v, .i .i64 n] = some (([(.ag (Wtr.cells ((Wtr.mk (((Wtr.mk w_b)).b ++ Cur.high v n)))))] : List TV) ++ wr_High.d.ps.toList.map fun q => ([.ag [.sl .bs w_b], .u64 v, .i .i64 n] : List TV).getD q.1 .dead) :=
  ⟨by kernel_rfl, Eq.trans (b := wr_High.F (Wtr.mk w_b) v n) (by kernel_rfl) (Eq.trans (wr_High.goal (Wtr.mk w_b) v n hp) (by kernel_rfl))⟩
theorem wr_High.ok : SpecOK Go.Proofs.Try.prog (fun n => (noGl n).av) 58 (Ctr.fs (wr_High.c, wr_High.sg)) :=
  meets (l := wr_High.env) (all_cons cur_number.ok all_nil) wr_High.chk (by
      intro ins outs h
      unfold wr_High.c at h
      split at h
      · obtain ⟨hp, rfl⟩ := h; exact wr_High.fit _ _ _ hp
      · exact h.elim)
theorem wr_Bytes.fit (w_b : List UInt8) (hp : (decide (((Wtr.mk w_b)).b.length ≤ 1099511627776)) = true) : ([.ag [.sl .bs w_b]] : List TV).length = wr_Bytes.d.np ∧ wr_Bytes.d.run (envL noGl wr_Bytes.env) [.ag [.sl .bs w_b]] = some (([(.sl .bs ((((Wtr.mk w_b)).b))), (.ag (Wtr.cells ((Wtr.mk w_b))))] : List TV) ++ wr_Bytes.d.ps.toList.map fun q => ([.ag [.sl .bs w_b]] : List TV).getD q.1 .dead) :=
  ⟨by kernel_rfl, Eq.trans (b := wr_Bytes.F (Wtr.mk w_b)) (by kernel_rfl) (Eq.trans (wr_Bytes.goal (Wtr.mk w_b) hp) (by kernel_rfl))⟩
theorem wr_Bytes.ok : SpecOK Go.Proofs.Try.prog (fun n => (noGl n).av) 24 (Ctr.fs (wr_Bytes.c, wr_Bytes.sg)) :=
  meets (l := wr_Bytes.env) (all_cons clone_bs.ok all_nil) wr_Bytes.chk (by
      intro ins outs h
      unfold wr_Bytes.c at h
      split at h
      · obtain ⟨hp, rfl⟩ := h; exact wr_Bytes.fit _ hp
      · exact h.elim)
theorem mp_few.fit (n : Int) (hp : (decide (0 ≤ n ∧ n ≤ 1099511627776)) = true) : ([.i .i64 n] : List TV).length = mp_few.d.np ∧ mp_few.d.run (envL noGl mp_few.env) [.i .i64 n] = some (([(.b (decide (n < 4294967296)))] : List TV) ++ mp_few.d.ps.toList.map fun q => ([.i .i64 n] : List TV).getD q.1 .dead) :=
  ⟨by kernel_rfl, Eq.trans (b := mp_few.F n) (by kernel_rfl) (Eq.trans (mp_few.goal n hp) (by kernel_rfl))⟩
theorem mp_few.ok : SpecOK Go.Proofs.Try.prog (fun n => (noGl n).av) 45 (Ctr.fs (mp_few.c, mp_few.sg)) :=
  meets (l := mp_few.env) all_nil mp_few.chk (by
      intro ins outs h
      unfold mp_few.c at h
      split at h
      · obtain ⟨hp, rfl⟩ := h; exact mp_few.fit _ hp
      · exact h.elim)
theorem mp_fields.fit (it_kind : Int) (it_n : UInt64) (it_bytes : List UInt8) (it_text : Str) (it_kids : List Itm) (hp : (decide (Itm.bulk (Itm.of (Itv.mk it_kind it_n it_bytes it_text it_kids)) ≤ 1099511627776)) = true) : ([.ag [.i .i64 it_kind, .u64 it_n, .sl .bs it_bytes, .s it_text, .sl .il it_kids]] : List TV).length = mp_fields.d.np ∧ mp_fields.d.run (envL noGl mp_fields.env) [.ag [.i .i64 it_kind, .u64 it_n, .sl .bs it_bytes, .s it_text, .sl .il it_kids]] = some (([(.b (Mp.fieldsOK (Itm.of (Itv.mk it_kind it_n it_bytes it_text it_kids))))] : List TV) ++ mp_fields.d.ps.toList.map fun q => ([.ag [.i .i64 it_kind, .u64 it_n, .sl .bs it_bytes, .s it_text, .sl .il it_kids]] : List TV).getD q.1 .dead) :=
  ⟨by kernel_rfl, Eq.trans (b := mp_fields.F (Itv.mk it_kind it_n it_bytes it_text it_kids)) (by kernel_rfl) (Eq.trans (mp_fields.goal (Itv.mk it_kind it_n it_bytes it_text it_kids) hp) (by kernel_rfl))⟩
theorem mp_fields.ok : SpecOK Go.Proofs.Try.prog (fun n => (noGl n).av) 26 (Ctr.fs (mp_fields.c, mp_fields.sg)) :=
  meets (l := mp_fields.env) (all_cons mp_few.ok all_nil) mp_fields.chk (by
      intro ins outs h
      unfold mp_fields.c at h
      split at h
      · obtain ⟨hp, rfl⟩ := h; exact mp_fields.fit _ _ _ _ _ hp
      · exact h.elim)
theorem mp_Check.fit (n : Nat) (it_kind : Int) (it_n : UInt64) (it_bytes : List UInt8) (it_text : Str) (it_kids : List Itm) (hp : ((decide (Itm.bulk (Itm.of (Itv.mk it_kind it_n it_bytes it_text it_kids)) ≤ 1099511627776)) && decide ((Itm.bulk (Itm.of (Itv.mk it_kind it_n it_bytes it_text it_kids))) < n + 1)) = true) : ([.ag [.i .i64 it_kind, .u64 it_n, .sl .bs it_bytes, .s it_text, .sl .il it_kids]] : List TV).length = mp_Check.d.np ∧ mp_Check.d.run (envL noGl (mp_Check.env n)) [.ag [.i .i64 it_kind, .u64 it_n, .sl .bs it_bytes, .s it_text, .sl .il it_kids]] = some (([(.i .i64 (Mp.chk (Itm.of (Itv.mk it_kind it_n it_bytes it_text it_kids))))] : List TV) ++ mp_Check.d.ps.toList.map fun q => ([.ag [.i .i64 it_kind, .u64 it_n, .sl .bs it_bytes, .s it_text, .sl .il it_kids]] : List TV).getD q.1 .dead) :=
  ⟨by kernel_rfl, Eq.trans (b := mp_Check.F n (Itv.mk it_kind it_n it_bytes it_text it_kids)) (by kernel_rfl) (Eq.trans (mp_Check.goal n (Itv.mk it_kind it_n it_bytes it_text it_kids) hp) (by kernel_rfl))⟩
theorem mcheck.oks : ∀ n : Nat, (SpecOK Go.Proofs.Try.prog (fun n => (noGl n).av) 13 (Ctr.fs (mp_Check.cn n, mp_Check.sg))) := by
  intro n
  induction n with
  | zero => exact spec_zero (by
      intro ti to_ h
      unfold mp_Check.cn at h
      split at h
      · obtain ⟨h, _⟩ := h; simp at h
      · exact h.elim)
  | succ n ih =>
    have ih0 := ih
    exact meets (l := mp_Check.env n) (all_cons ih0 (all_cons mp_fields.ok (all_cons utf_Check.ok all_nil))) (mp_Check.chk n) (by
      intro ins outs h
      unfold mp_Check.cn at h
      split at h
      · obtain ⟨hp, rfl⟩ := h; exact mp_Check.fit n _ _ _ _ _ hp
      · exact h.elim)
theorem mp_Check.ok : SpecOK Go.Proofs.Try.prog (fun n => (noGl n).av) 13 (Ctr.fs (mp_Check.c, mp_Check.sg)) := spec_sub fun ti to_ h => by
  unfold mp_Check.c at h
  split at h
  · obtain ⟨hp, rfl⟩ := h; exact ⟨mp_Check.cn (_ + 1), (mcheck.oks _), Bool.and_eq_true_iff.2 ⟨hp, decide_eq_true (Nat.lt_succ_self _)⟩, rfl⟩
  · exact h.elim
theorem mp_wrong.fit (e : Int) (at_ : Int) : ([.i .i64 e, .i .i64 at_] : List TV).length = mp_wrong.d.np ∧ mp_wrong.d.run (envL noGl mp_wrong.env) [.i .i64 e, .i .i64 at_] = some (([(.ag (Itv.cells (Itm.val (Mp.zero)))), (.ag (Flt.cells ((Flt.mk e at_ []))))] : List TV) ++ mp_wrong.d.ps.toList.map fun q => ([.i .i64 e, .i .i64 at_] : List TV).getD q.1 .dead) :=
  ⟨by kernel_rfl, Eq.trans (b := mp_wrong.F e at_) (by kernel_rfl) (Eq.trans (mp_wrong.goal e at_) (by kernel_rfl))⟩
theorem mp_wrong.ok : SpecOK Go.Proofs.Try.prog (fun n => (noGl n).av) 29 (Ctr.fs (mp_wrong.c, mp_wrong.sg)) :=
  meets (l := mp_wrong.env) all_nil mp_wrong.chk (by
      intro ins outs h
      unfold mp_wrong.c at h
      split at h
      · cases h; exact mp_wrong.fit _ _
      · exact h.elim)
theorem mp_unsigned.fit (n : UInt64) : ([.u64 n] : List TV).length = mp_unsigned.d.np ∧ mp_unsigned.d.run (envL noGl mp_unsigned.env) [.u64 n] = some (([(.ag [(.i .i64 (Mp.unsigned n).1), (.i .i64 (Mp.unsigned n).2)])] : List TV) ++ mp_unsigned.d.ps.toList.map fun q => ([.u64 n] : List TV).getD q.1 .dead) :=
  ⟨by kernel_rfl, Eq.trans (b := mp_unsigned.F n) (by kernel_rfl) (Eq.trans (mp_unsigned.goal n) (by kernel_rfl))⟩
theorem mp_unsigned.ok : SpecOK Go.Proofs.Try.prog (fun n => (noGl n).av) 38 (Ctr.fs (mp_unsigned.c, mp_unsigned.sg)) :=
  meets (l := mp_unsigned.env) all_nil mp_unsigned.chk (by
      intro ins outs h
      unfold mp_unsigned.c at h
      split at h
      · cases h; exact mp_unsigned.fit _
      · exact h.elim)
theorem mp_signed.fit (n : UInt64) : ([.u64 n] : List TV).length = mp_signed.d.np ∧ mp_signed.d.run (envL noGl mp_signed.env) [.u64 n] = some (([(.ag [(.i .i64 (Mp.signed n).1), (.i .i64 (Mp.signed n).2)])] : List TV) ++ mp_signed.d.ps.toList.map fun q => ([.u64 n] : List TV).getD q.1 .dead) :=
  ⟨by kernel_rfl, Eq.trans (b := mp_signed.F n) (by kernel_rfl) (Eq.trans (mp_signed.goal n) (by kernel_rfl))⟩
theorem mp_signed.ok : SpecOK Go.Proofs.Try.prog (fun n => (noGl n).av) 39 (Ctr.fs (mp_signed.c, mp_signed.sg)) :=
  meets (l := mp_signed.env) all_nil mp_signed.chk (by
      intro ins outs h
      unfold mp_signed.c at h
      split at h
      · cases h; exact mp_signed.fit _
      · exact h.elim)
theorem mp_put.fit (w_b : List UInt8) (f_at : Int) (f_end : Int) (n : UInt64) (hp : (decide (((Wtr.mk w_b)).b.length + 10 ≤ 1099511627776)) = true) : ([.ag [.sl .bs w_b], .ag [.i .i64 f_at, .i .i64 f_end], .u64 n] : List TV).length = mp_put.d.np ∧ mp_put.d.run (envL noGl mp_put.env) [.ag [.sl .bs w_b], .ag [.i .i64 f_at, .i .i64 f_end], .u64 n] = some (([(.ag (Wtr.cells ((Wtr.mk (((Wtr.mk w_b)).b ++ Mp.put (((Spn.mk f_at f_end)).at_, ((Spn.mk f_at f_end)).end_) n)))))] : List TV) ++ mp_put.d.ps.toList.map fun q => ([.ag [.sl .bs w_b], .ag [.i .i64 f_at, .i .i64 f_end], .u64 n] : List TV).getD q.1 .dead) :=
  ⟨by kernel_rfl, Eq.trans (b := mp_put.F (Wtr.mk w_b) (Spn.mk f_at f_end) n) (by kernel_rfl) (Eq.trans (mp_put.goal (Wtr.mk w_b) (Spn.mk f_at f_end) n hp) (by kernel_rfl))⟩
theorem mp_put.ok : SpecOK Go.Proofs.Try.prog (fun n => (noGl n).av) 37 (Ctr.fs (mp_put.c, mp_put.sg)) :=
  meets (l := mp_put.env) (all_cons wr_Byte.ok (all_cons wr_High.ok all_nil)) mp_put.chk (by
      intro ins outs h
      unfold mp_put.c at h
      split at h
      · obtain ⟨hp, rfl⟩ := h; exact mp_put.fit _ _ _ _ hp
      · exact h.elim)
theorem mp_lay.fit (n : Nat) (w_b : List UInt8) (it_kind : Int) (it_n : UInt64) (it_bytes : List UInt8) (it_text : Str) (it_kids : List Itm) (hp : ((decide (((Wtr.mk w_b)).b.length + 16 * Itm.bulk (Itm.of (Itv.mk it_kind it_n it_bytes it_text it_kids)) ≤ 1099511627776) && decide (Mp.chk (Itm.of (Itv.mk it_kind it_n it_bytes it_text it_kids)) = 0)) && decide ((Itm.bulk (Itm.of (Itv.mk it_kind it_n it_bytes it_text it_kids))) < n + 1)) = true) : ([.ag [.sl .bs w_b], .ag [.i .i64 it_kind, .u64 it_n, .sl .bs it_bytes, .s it_text, .sl .il it_kids]] : List TV).length = mp_lay.d.np ∧ mp_lay.d.run (envL noGl (mp_lay.env n)) [.ag [.sl .bs w_b], .ag [.i .i64 it_kind, .u64 it_n, .sl .bs it_bytes, .s it_text, .sl .il it_kids]] = some (([(.ag (Wtr.cells ((Wtr.mk (((Wtr.mk w_b)).b ++ Mp.lay (Itm.of (Itv.mk it_kind it_n it_bytes it_text it_kids)))))))] : List TV) ++ mp_lay.d.ps.toList.map fun q => ([.ag [.sl .bs w_b], .ag [.i .i64 it_kind, .u64 it_n, .sl .bs it_bytes, .s it_text, .sl .il it_kids]] : List TV).getD q.1 .dead) :=
  ⟨by kernel_rfl, Eq.trans (b := mp_lay.F n (Wtr.mk w_b) (Itv.mk it_kind it_n it_bytes it_text it_kids)) (by kernel_rfl) (Eq.trans (mp_lay.goal n (Wtr.mk w_b) (Itv.mk it_kind it_n it_bytes it_text it_kids) hp) (by kernel_rfl))⟩
theorem mlay.oks : ∀ n : Nat, (SpecOK Go.Proofs.Try.prog (fun n => (noGl n).av) 23 (Ctr.fs (mp_lay.cn n, mp_lay.sg))) := by
  intro n
  induction n with
  | zero => exact spec_zero (by
      intro ti to_ h
      unfold mp_lay.cn at h
      split at h
      · obtain ⟨h, _⟩ := h; simp at h
      · exact h.elim)
  | succ n ih =>
    have ih0 := ih
    exact meets (l := mp_lay.env n) (all_cons ih0 (all_cons mp_put.ok (all_cons mp_unsigned.ok (all_cons mp_signed.ok (all_cons wr_Byte.ok (all_cons mp_sized.ok (all_cons wr_Raw.ok all_nil))))))) (mp_lay.chk n) (by
      intro ins outs h
      unfold mp_lay.cn at h
      split at h
      · obtain ⟨hp, rfl⟩ := h; exact mp_lay.fit n _ _ _ _ _ _ hp
      · exact h.elim)
theorem mp_lay.ok : SpecOK Go.Proofs.Try.prog (fun n => (noGl n).av) 23 (Ctr.fs (mp_lay.c, mp_lay.sg)) := spec_sub fun ti to_ h => by
  unfold mp_lay.c at h
  split at h
  · obtain ⟨hp, rfl⟩ := h; exact ⟨mp_lay.cn (_ + 1), (mlay.oks _), Bool.and_eq_true_iff.2 ⟨hp, decide_eq_true (Nat.lt_succ_self _)⟩, rfl⟩
  · exact h.elim
theorem mp_Encode.fit (it_kind : Int) (it_n : UInt64) (it_bytes : List UInt8) (it_text : Str) (it_kids : List Itm) (hp : (decide (Itm.bulk (Itm.of (Itv.mk it_kind it_n it_bytes it_text it_kids)) ≤ 1073741824)) = true) : ([.ag [.i .i64 it_kind, .u64 it_n, .sl .bs it_bytes, .s it_text, .sl .il it_kids]] : List TV).length = mp_Encode.d.np ∧ mp_Encode.d.run (envL noGl mp_Encode.env) [.ag [.i .i64 it_kind, .u64 it_n, .sl .bs it_bytes, .s it_text, .sl .il it_kids]] = some (([(.sl .bs (Mp.enc (Itm.of (Itv.mk it_kind it_n it_bytes it_text it_kids)))), (.i .i64 (Mp.chk (Itm.of (Itv.mk it_kind it_n it_bytes it_text it_kids))))] : List TV) ++ mp_Encode.d.ps.toList.map fun q => ([.ag [.i .i64 it_kind, .u64 it_n, .sl .bs it_bytes, .s it_text, .sl .il it_kids]] : List TV).getD q.1 .dead) :=
  ⟨by kernel_rfl, Eq.trans (b := mp_Encode.F (Itv.mk it_kind it_n it_bytes it_text it_kids)) (by kernel_rfl) (Eq.trans (mp_Encode.goal (Itv.mk it_kind it_n it_bytes it_text it_kids) hp) (by kernel_rfl))⟩
theorem mp_Encode.ok : SpecOK Go.Proofs.Try.prog (fun n => (noGl n).av) 11 (Ctr.fs (mp_Encode.c, mp_Encode.sg)) :=
  meets (l := mp_Encode.env) (all_cons mp_Check.ok (all_cons cur_Lay.ok (all_cons mp_lay.ok (all_cons wr_Bytes.ok all_nil)))) mp_Encode.chk (by
      intro ins outs h
      unfold mp_Encode.c at h
      split at h
      · obtain ⟨hp, rfl⟩ := h; exact mp_Encode.fit _ _ _ _ _ hp
      · exact h.elim)
theorem mp_first.fit (c : Int) (hp : (decide (0 ≤ c ∧ c ≤ 255)) = true) : ([.i .i64 c] : List TV).length = mp_first.d.np ∧ mp_first.d.run (envL noGl mp_first.env) [.i .i64 c] = some (([(.i .i64 ((Mp.first c).1)), (.u64 ((Mp.first c).2.1)), (.i .i64 ((Mp.first c).2.2))] : List TV) ++ mp_first.d.ps.toList.map fun q => ([.i .i64 c] : List TV).getD q.1 .dead) :=
  ⟨by kernel_rfl, Eq.trans (b := mp_first.F c) (by kernel_rfl) (Eq.trans (mp_first.goal c hp) (by kernel_rfl))⟩
theorem mp_first.ok : SpecOK Go.Proofs.Try.prog (fun n => (noGl n).av) 49 (Ctr.fs (mp_first.c, mp_first.sg)) :=
  meets (l := mp_first.env) all_nil mp_first.chk (by
      intro ins outs h
      unfold mp_first.c at h
      split at h
      · obtain ⟨hp, rfl⟩ := h; exact mp_first.fit _ hp
      · exact h.elim)
theorem mp_number.fit (it_kind : Int) (it_n : UInt64) (it_bytes : List UInt8) (it_text : Str) (it_kids : List Itm) (p : Int) (c : Int) (f_at : Int) (f_end : Int) : ([.ag [.i .i64 it_kind, .u64 it_n, .sl .bs it_bytes, .s it_text, .sl .il it_kids], .i .i64 p, .i .i64 c, .ag [.i .i64 f_at, .i .i64 f_end]] : List TV).length = mp_number.d.np ∧ mp_number.d.run (envL noGl mp_number.env) [.ag [.i .i64 it_kind, .u64 it_n, .sl .bs it_bytes, .s it_text, .sl .il it_kids], .i .i64 p, .i .i64 c, .ag [.i .i64 f_at, .i .i64 f_end]] = some (([(.ag (Itv.cells (Itm.val ((Mp.num (Itm.of (Itv.mk it_kind it_n it_bytes it_text it_kids)) p c ((Spn.mk f_at f_end)).at_ 0).it)))), (.ag (Flt.cells ((Flt.mk (Mp.num (Itm.of (Itv.mk it_kind it_n it_bytes it_text it_kids)) p c ((Spn.mk f_at f_end)).at_ 0).err (Mp.num (Itm.of (Itv.mk it_kind it_n it_bytes it_text it_kids)) p c ((Spn.mk f_at f_end)).at_ 0).at_ []))))] : List TV) ++ mp_number.d.ps.toList.map fun q => ([.ag [.i .i64 it_kind, .u64 it_n, .sl .bs it_bytes, .s it_text, .sl .il it_kids], .i .i64 p, .i .i64 c, .ag [.i .i64 f_at, .i .i64 f_end]] : List TV).getD q.1 .dead) :=
  ⟨by kernel_rfl, Eq.trans (b := mp_number.F (Itv.mk it_kind it_n it_bytes it_text it_kids) p c (Spn.mk f_at f_end)) (by kernel_rfl) (Eq.trans (mp_number.goal (Itv.mk it_kind it_n it_bytes it_text it_kids) p c (Spn.mk f_at f_end)) (by kernel_rfl))⟩
theorem mp_number.ok : SpecOK Go.Proofs.Try.prog (fun n => (noGl n).av) 51 (Ctr.fs (mp_number.c, mp_number.sg)) :=
  meets (l := mp_number.env) (all_cons mp_wrong.ok all_nil) mp_number.chk (by
      intro ins outs h
      unfold mp_number.c at h
      split at h
      · cases h; exact mp_number.fit _ _ _ _ _ _ _ _ _
      · exact h.elim)
theorem mp_number.okw : SpecOK Go.Proofs.Try.prog (fun n => (noGl n).av) 51 (Ctr.fs (mp_number.cw, mp_number.sg)) := spec_wk rfl (by decide) mp_number.ok
theorem mp_row.fit (r_b : List UInt8) (r_at : Int) (it_kind : Int) (it_n : UInt64) (it_bytes : List UInt8) (it_text : Str) (it_kids : List Itm) (p : Int) (n : Int) (hp : (Cur.good (Rdr.mk r_b r_at)) = true) : ([.ag [.sl .bs r_b, .i .i64 r_at], .ag [.i .i64 it_kind, .u64 it_n, .sl .bs it_bytes, .s it_text, .sl .il it_kids], .i .i64 p, .i .i64 n] : List TV).length = mp_row.d.np ∧ mp_row.d.run (envL noGl mp_row.env) [.ag [.sl .bs r_b, .i .i64 r_at], .ag [.i .i64 it_kind, .u64 it_n, .sl .bs it_bytes, .s it_text, .sl .il it_kids], .i .i64 p, .i .i64 n] = some (([(.ag (Itv.cells (Itm.val ((Mp.row ((Rdr.mk r_b r_at)).b (Itm.of (Itv.mk it_kind it_n it_bytes it_text it_kids)) p ((Rdr.mk r_b r_at)).at_ n).it)))), (.ag (Flt.cells ((Flt.mk (Mp.row ((Rdr.mk r_b r_at)).b (Itm.of (Itv.mk it_kind it_n it_bytes it_text it_kids)) p ((Rdr.mk r_b r_at)).at_ n).err (Mp.row ((Rdr.mk r_b r_at)).b (Itm.of (Itv.mk it_kind it_n it_bytes it_text it_kids)) p ((Rdr.mk r_b r_at)).at_ n).at_ [])))), (.ag (Rdr.cells ((Rdr.mk ((Rdr.mk r_b r_at)).b (Mp.row ((Rdr.mk r_b r_at)).b (Itm.of (Itv.mk it_kind it_n it_bytes it_text it_kids)) p ((Rdr.mk r_b r_at)).at_ n).pos))))] : List TV) ++ mp_row.d.ps.toList.map fun q => ([.ag [.sl .bs r_b, .i .i64 r_at], .ag [.i .i64 it_kind, .u64 it_n, .sl .bs it_bytes, .s it_text, .sl .il it_kids], .i .i64 p, .i .i64 n] : List TV).getD q.1 .dead) :=
  ⟨by kernel_rfl, Eq.trans (b := mp_row.F (Rdr.mk r_b r_at) (Itv.mk it_kind it_n it_bytes it_text it_kids) p n) (by kernel_rfl) (Eq.trans (mp_row.goal (Rdr.mk r_b r_at) (Itv.mk it_kind it_n it_bytes it_text it_kids) p n hp) (by kernel_rfl))⟩
theorem mp_row.ok : SpecOK Go.Proofs.Try.prog (fun n => (noGl n).av) 53 (Ctr.fs (mp_row.c, mp_row.sg)) :=
  meets (l := mp_row.env) (all_cons utf_Check.ok (all_cons mp_wrong.ok (all_cons rd_Take.ok all_nil))) mp_row.chk (by
      intro ins outs h
      unfold mp_row.c at h
      split at h
      · obtain ⟨hp, rfl⟩ := h; exact mp_row.fit _ _ _ _ _ _ _ _ _ hp
      · exact h.elim)
theorem mp_row.okw : SpecOK Go.Proofs.Try.prog (fun n => (noGl n).av) 53 (Ctr.fs (mp_row.cw, mp_row.sg)) := spec_wk rfl (by decide) mp_row.ok
theorem mp_kids.fit (n : Nat) (r_b : List UInt8) (r_at : Int) (it_kind : Int) (it_n : UInt64) (it_text : Str) (m : Int) (depth : Int) (hp : ((Cur.good (Rdr.mk r_b r_at) && decide (0 ≤ m ∧ m ≤ 4294967296 ∧ 1 ≤ depth ∧ depth ≤ 1000)) && decide ((2 * (depth).toNat) < n + 1)) = true) : ([.ag [.sl .bs r_b, .i .i64 r_at], .ag [.i .i64 it_kind, .u64 it_n, .c (.slice none 0 0), .s it_text, .c (.slice none 0 0)], .i .i64 m, .i .i64 depth] : List TV).length = mp_kids.d.np ∧ mp_kids.d.run (envL noGl (mp_kids.env n)) [.ag [.sl .bs r_b, .i .i64 r_at], .ag [.i .i64 it_kind, .u64 it_n, .c (.slice none 0 0), .s it_text, .c (.slice none 0 0)], .i .i64 m, .i .i64 depth] = some (([(.ag (Itv.cells (Itm.val ((Mp.kids (Mp.read ((Rdr.mk r_b r_at)).b (depth - 1).toNat) (Itm.of (Itv.mk it_kind it_n [] it_text [])) (Mp.many ((Itv.mk it_kind it_n [] it_text [])).kind m) ((Rdr.mk r_b r_at)).at_).it)))), (.ag (Flt.cells ((Flt.mk (Mp.kids (Mp.read ((Rdr.mk r_b r_at)).b (depth - 1).toNat) (Itm.of (Itv.mk it_kind it_n [] it_text [])) (Mp.many ((Itv.mk it_kind it_n [] it_text [])).kind m) ((Rdr.mk r_b r_at)).at_).err (Mp.kids (Mp.read ((Rdr.mk r_b r_at)).b (depth - 1).toNat) (Itm.of (Itv.mk it_kind it_n [] it_text [])) (Mp.many ((Itv.mk it_kind it_n [] it_text [])).kind m) ((Rdr.mk r_b r_at)).at_).at_ [])))), (.ag (Rdr.cells ((Rdr.mk ((Rdr.mk r_b r_at)).b (Mp.kids (Mp.read ((Rdr.mk r_b r_at)).b (depth - 1).toNat) (Itm.of (Itv.mk it_kind it_n [] it_text [])) (Mp.many ((Itv.mk it_kind it_n [] it_text [])).kind m) ((Rdr.mk r_b r_at)).at_).pos))))] : List TV) ++ mp_kids.d.ps.toList.map fun q => ([.ag [.sl .bs r_b, .i .i64 r_at], .ag [.i .i64 it_kind, .u64 it_n, .c (.slice none 0 0), .s it_text, .c (.slice none 0 0)], .i .i64 m, .i .i64 depth] : List TV).getD q.1 .dead) :=
  ⟨by kernel_rfl, Eq.trans (b := mp_kids.F n (Rdr.mk r_b r_at) (Itv.mk it_kind it_n [] it_text []) m depth) (by kernel_rfl) (Eq.trans (mp_kids.goal n (Rdr.mk r_b r_at) (Itv.mk it_kind it_n [] it_text []) m depth hp) (by kernel_rfl))⟩
theorem mp_read.fit (n : Nat) (r_b : List UInt8) (r_at : Int) (depth : Int) (hp : ((Cur.good (Rdr.mk r_b r_at) && decide (0 ≤ depth ∧ depth ≤ 1000)) && decide ((2 * (depth).toNat + 1) < n + 1)) = true) : ([.ag [.sl .bs r_b, .i .i64 r_at], .i .i64 depth] : List TV).length = mp_read.d.np ∧ mp_read.d.run (envL noGl (mp_read.env n)) [.ag [.sl .bs r_b, .i .i64 r_at], .i .i64 depth] = some (([(.ag (Itv.cells (Itm.val ((Mp.read ((Rdr.mk r_b r_at)).b (depth).toNat ((Rdr.mk r_b r_at)).at_).it)))), (.ag (Flt.cells ((Flt.mk (Mp.read ((Rdr.mk r_b r_at)).b (depth).toNat ((Rdr.mk r_b r_at)).at_).err (Mp.read ((Rdr.mk r_b r_at)).b (depth).toNat ((Rdr.mk r_b r_at)).at_).at_ [])))), (.ag (Rdr.cells ((Rdr.mk ((Rdr.mk r_b r_at)).b (Mp.read ((Rdr.mk r_b r_at)).b (depth).toNat ((Rdr.mk r_b r_at)).at_).pos))))] : List TV) ++ mp_read.d.ps.toList.map fun q => ([.ag [.sl .bs r_b, .i .i64 r_at], .i .i64 depth] : List TV).getD q.1 .dead) :=
  ⟨by kernel_rfl, Eq.trans (b := mp_read.F n (Rdr.mk r_b r_at) depth) (by kernel_rfl) (Eq.trans (mp_read.goal n (Rdr.mk r_b r_at) depth hp) (by kernel_rfl))⟩
theorem mread.oks : ∀ n : Nat, (SpecOK Go.Proofs.Try.prog (fun n => (noGl n).av) 52 (Ctr.fs (mp_kids.cn n, mp_kids.sg))) ∧ (SpecOK Go.Proofs.Try.prog (fun n => (noGl n).av) 31 (Ctr.fs (mp_read.cn n, mp_read.sg))) := by
  intro n
  induction n with
  | zero => exact ⟨spec_zero (by
      intro ti to_ h
      unfold mp_kids.cn at h
      split at h
      · obtain ⟨h, _⟩ := h; simp at h
      · exact h.elim), spec_zero (by
      intro ti to_ h
      unfold mp_read.cn at h
      split at h
      · obtain ⟨h, _⟩ := h; simp at h
      · exact h.elim)⟩
  | succ n ih =>
    obtain ⟨ih0, ih1⟩ := ih
    exact ⟨meets (l := mp_kids.env n) (all_cons ih1 all_nil) (mp_kids.chk n) (by
      intro ins outs h
      unfold mp_kids.cn at h
      split at h
      · obtain ⟨hp, rfl⟩ := h; exact mp_kids.fit n _ _ _ _ _ _ _ hp
      · exact h.elim), meets (l := mp_read.env n) (all_cons mp_wrong.ok (all_cons rd_At.ok (all_cons mp_unsigned.ok (all_cons mp_signed.ok (all_cons mp_sized.ok (all_cons rd_Byte.ok (all_cons mp_first.ok (all_cons rd_High.ok (all_cons mp_number.okw (all_cons ih0 (all_cons mp_row.okw all_nil))))))))))) (mp_read.chk n) (by
      intro ins outs h
      unfold mp_read.cn at h
      split at h
      · obtain ⟨hp, rfl⟩ := h; exact mp_read.fit n _ _ _ hp
      · exact h.elim)⟩
theorem mp_read.ok : SpecOK Go.Proofs.Try.prog (fun n => (noGl n).av) 31 (Ctr.fs (mp_read.c, mp_read.sg)) := spec_sub fun ti to_ h => by
  unfold mp_read.c at h
  split at h
  · obtain ⟨hp, rfl⟩ := h; exact ⟨mp_read.cn (_ + 1), (mread.oks _).2, Bool.and_eq_true_iff.2 ⟨hp, decide_eq_true (Nat.lt_succ_self _)⟩, rfl⟩
  · exact h.elim
theorem mp_Decode.fit (b : List UInt8) (depth : Int) (hp : (decide ((b).length ≤ 1099511627776)) = true) : ([.sl .bs b, .i .i64 depth] : List TV).length = mp_Decode.d.np ∧ mp_Decode.d.run (envL noGl mp_Decode.env) [.sl .bs b, .i .i64 depth] = some (([(.ag (Itv.cells (Itm.val ((Mp.dec b depth).1)))), (.ag (Flt.cells ((Mp.dec b depth).2)))] : List TV) ++ mp_Decode.d.ps.toList.map fun q => ([.sl .bs b, .i .i64 depth] : List TV).getD q.1 .dead) :=
  ⟨by kernel_rfl, Eq.trans (b := mp_Decode.F b depth) (by kernel_rfl) (Eq.trans (mp_Decode.goal b depth hp) (by kernel_rfl))⟩
theorem mp_Decode.ok : SpecOK Go.Proofs.Try.prog (fun n => (noGl n).av) 15 (Ctr.fs (mp_Decode.c, mp_Decode.sg)) :=
  meets (l := mp_Decode.env) (all_cons mp_wrong.ok (all_cons cur_New.ok (all_cons mp_read.ok (all_cons rd_Left.ok (all_cons rd_At.ok all_nil))))) mp_Decode.chk (by
      intro ins outs h
      unfold mp_Decode.c at h
      split at h
      · obtain ⟨hp, rfl⟩ := h; exact mp_Decode.fit _ _ hp
      · exact h.elim)
theorem ref28_Same.fit (n : Nat) (a_kind : Int) (a_n : UInt64) (a_bytes : List UInt8) (a_text : Str) (a_kids : List Itm) (b_kind : Int) (b_n : UInt64) (b_bytes : List UInt8) (b_text : Str) (b_kids : List Itm) (hp : ((decide (Itm.bulk (Itm.of (Itv.mk a_kind a_n a_bytes a_text a_kids)) ≤ 1099511627776)) && decide ((Itm.bulk (Itm.of (Itv.mk a_kind a_n a_bytes a_text a_kids))) < n + 1)) = true) : ([.ag [.i .i64 a_kind, .u64 a_n, .sl .bs a_bytes, .s a_text, .sl .il a_kids], .ag [.i .i64 b_kind, .u64 b_n, .sl .bs b_bytes, .s b_text, .sl .il b_kids]] : List TV).length = ref28_Same.d.np ∧ ref28_Same.d.run (envL noGl (ref28_Same.env n)) [.ag [.i .i64 a_kind, .u64 a_n, .sl .bs a_bytes, .s a_text, .sl .il a_kids], .ag [.i .i64 b_kind, .u64 b_n, .sl .bs b_bytes, .s b_text, .sl .il b_kids]] = some (([(.b (Itm.same (Itm.of (Itv.mk a_kind a_n a_bytes a_text a_kids)) (Itm.of (Itv.mk b_kind b_n b_bytes b_text b_kids))))] : List TV) ++ ref28_Same.d.ps.toList.map fun q => ([.ag [.i .i64 a_kind, .u64 a_n, .sl .bs a_bytes, .s a_text, .sl .il a_kids], .ag [.i .i64 b_kind, .u64 b_n, .sl .bs b_bytes, .s b_text, .sl .il b_kids]] : List TV).getD q.1 .dead) :=
  ⟨by kernel_rfl, Eq.trans (b := ref28_Same.F n (Itv.mk a_kind a_n a_bytes a_text a_kids) (Itv.mk b_kind b_n b_bytes b_text b_kids)) (by kernel_rfl) (Eq.trans (ref28_Same.goal n (Itv.mk a_kind a_n a_bytes a_text a_kids) (Itv.mk b_kind b_n b_bytes b_text b_kids) hp) (by kernel_rfl))⟩
theorem rsame28.oks : ∀ n : Nat, (SpecOK Go.Proofs.Try.prog (fun n => (noGl n).av) 18 (Ctr.fs (ref28_Same.cn n, ref28_Same.sg))) := by
  intro n
  induction n with
  | zero => exact spec_zero (by
      intro ti to_ h
      unfold ref28_Same.cn at h
      split at h
      · obtain ⟨h, _⟩ := h; simp at h
      · exact h.elim)
  | succ n ih =>
    have ih0 := ih
    exact meets (l := ref28_Same.env n) (all_cons ih0 all_nil) (ref28_Same.chk n) (by
      intro ins outs h
      unfold ref28_Same.cn at h
      split at h
      · obtain ⟨hp, rfl⟩ := h; exact ref28_Same.fit n _ _ _ _ _ _ _ _ _ _ hp
      · exact h.elim)
theorem ref28_Same.ok : SpecOK Go.Proofs.Try.prog (fun n => (noGl n).av) 18 (Ctr.fs (ref28_Same.c, ref28_Same.sg)) := spec_sub fun ti to_ h => by
  unfold ref28_Same.c at h
  split at h
  · obtain ⟨hp, rfl⟩ := h; exact ⟨ref28_Same.cn (_ + 1), (rsame28.oks _), Bool.and_eq_true_iff.2 ⟨hp, decide_eq_true (Nat.lt_succ_self _)⟩, rfl⟩
  · exact h.elim
theorem book_Room.fit (left : Int) (sizes : List Int) (hp : (decide (left ≤ 10000 ∧ sizes.length ≤ 10) && sizes.all (fun s => decide (0 ≤ s))) = true) : ([.i .i64 left, .sl .is sizes] : List TV).length = book_Room.d.np ∧ book_Room.d.run (envL noGl book_Room.env) [.i .i64 left, .sl .is sizes] = some (([(.i .i64 (Book.room left sizes))] : List TV) ++ book_Room.d.ps.toList.map fun q => ([.i .i64 left, .sl .is sizes] : List TV).getD q.1 .dead) :=
  ⟨by kernel_rfl, Eq.trans (b := book_Room.F left sizes) (by kernel_rfl) (Eq.trans (book_Room.goal left sizes hp) (by kernel_rfl))⟩
theorem book_Room.ok : SpecOK Go.Proofs.Try.prog (fun n => (noGl n).av) 36 (Ctr.fs (book_Room.c, book_Room.sg)) :=
  meets (l := book_Room.env) all_nil book_Room.chk (by
      intro ins outs h
      unfold book_Room.c at h
      split at h
      · obtain ⟨hp, rfl⟩ := h; exact book_Room.fit _ _ hp
      · exact h.elim)
theorem book_item.fit (n : Nat) (left : Int) (it_kind : Int) (it_n : UInt64) (it_bytes : List UInt8) (it_text : Str) (it_kids : List Itm) (hp : ((decide (left ≤ 10000)) && decide ((Itm.bulk (Itm.of (Itv.mk it_kind it_n it_bytes it_text it_kids))) < n + 1)) = true) : ([.i .i64 left, .ag [.i .i64 it_kind, .u64 it_n, .sl .bs it_bytes, .s it_text, .sl .il it_kids]] : List TV).length = book_item.d.np ∧ book_item.d.run (envL noGl (book_item.env n)) [.i .i64 left, .ag [.i .i64 it_kind, .u64 it_n, .sl .bs it_bytes, .s it_text, .sl .il it_kids]] = some (([(.i .i64 (Itm.room left (Itm.of (Itv.mk it_kind it_n it_bytes it_text it_kids))))] : List TV) ++ book_item.d.ps.toList.map fun q => ([.i .i64 left, .ag [.i .i64 it_kind, .u64 it_n, .sl .bs it_bytes, .s it_text, .sl .il it_kids]] : List TV).getD q.1 .dead) :=
  ⟨by kernel_rfl, Eq.trans (b := book_item.F n left (Itv.mk it_kind it_n it_bytes it_text it_kids)) (by kernel_rfl) (Eq.trans (book_item.goal n left (Itv.mk it_kind it_n it_bytes it_text it_kids) hp) (by kernel_rfl))⟩
theorem bitem.oks : ∀ n : Nat, (SpecOK Go.Proofs.Try.prog (fun n => (noGl n).av) 21 (Ctr.fs (book_item.cn n, book_item.sg))) := by
  intro n
  induction n with
  | zero => exact spec_zero (by
      intro ti to_ h
      unfold book_item.cn at h
      split at h
      · obtain ⟨h, _⟩ := h; simp at h
      · exact h.elim)
  | succ n ih =>
    have ih0 := ih
    exact meets (l := book_item.env n) (all_cons ih0 (all_cons book_Room.ok all_nil)) (book_item.chk n) (by
      intro ins outs h
      unfold book_item.cn at h
      split at h
      · obtain ⟨hp, rfl⟩ := h; exact book_item.fit n _ _ _ _ _ _ hp
      · exact h.elim)
theorem book_item.ok : SpecOK Go.Proofs.Try.prog (fun n => (noGl n).av) 21 (Ctr.fs (book_item.c, book_item.sg)) := spec_sub fun ti to_ h => by
  unfold book_item.c at h
  split at h
  · obtain ⟨hp, rfl⟩ := h; exact ⟨book_item.cn (_ + 1), (bitem.oks _), Bool.and_eq_true_iff.2 ⟨hp, decide_eq_true (Nat.lt_succ_self _)⟩, rfl⟩
  · exact h.elim
theorem book_SmallItem.fit (it_kind : Int) (it_n : UInt64) (it_bytes : List UInt8) (it_text : Str) (it_kids : List Itm) : ([.ag [.i .i64 it_kind, .u64 it_n, .sl .bs it_bytes, .s it_text, .sl .il it_kids]] : List TV).length = book_SmallItem.d.np ∧ book_SmallItem.d.run (envL noGl book_SmallItem.env) [.ag [.i .i64 it_kind, .u64 it_n, .sl .bs it_bytes, .s it_text, .sl .il it_kids]] = some (([(.b (decide (0 ≤ Itm.room 1500 (Itm.of (Itv.mk it_kind it_n it_bytes it_text it_kids)))))] : List TV) ++ book_SmallItem.d.ps.toList.map fun q => ([.ag [.i .i64 it_kind, .u64 it_n, .sl .bs it_bytes, .s it_text, .sl .il it_kids]] : List TV).getD q.1 .dead) :=
  ⟨by kernel_rfl, Eq.trans (b := book_SmallItem.F (Itv.mk it_kind it_n it_bytes it_text it_kids)) (by kernel_rfl) (Eq.trans (book_SmallItem.goal (Itv.mk it_kind it_n it_bytes it_text it_kids)) (by kernel_rfl))⟩
theorem book_SmallItem.ok : SpecOK Go.Proofs.Try.prog (fun n => (noGl n).av) 10 (Ctr.fs (book_SmallItem.c, book_SmallItem.sg)) :=
  meets (l := book_SmallItem.env) (all_cons book_item.ok all_nil) book_SmallItem.chk (by
      intro ins outs h
      unfold book_SmallItem.c at h
      split at h
      · cases h; exact book_SmallItem.fit _ _ _ _ _
      · exact h.elim)
theorem law29_nest.fit (n : Nat) (it_kind : Int) (it_n : UInt64) (it_bytes : List UInt8) (it_text : Str) (it_kids : List Itm) (hp : ((decide (Itm.bulk (Itm.of (Itv.mk it_kind it_n it_bytes it_text it_kids)) ≤ 1099511627776)) && decide ((Itm.bulk (Itm.of (Itv.mk it_kind it_n it_bytes it_text it_kids))) < n + 1)) = true) : ([.ag [.i .i64 it_kind, .u64 it_n, .sl .bs it_bytes, .s it_text, .sl .il it_kids]] : List TV).length = law29_nest.d.np ∧ law29_nest.d.run (envL noGl (law29_nest.env n)) [.ag [.i .i64 it_kind, .u64 it_n, .sl .bs it_bytes, .s it_text, .sl .il it_kids]] = some (([(.i .i64 ((Itm.nest (Itm.of (Itv.mk it_kind it_n it_bytes it_text it_kids)) : Int)))] : List TV) ++ law29_nest.d.ps.toList.map fun q => ([.ag [.i .i64 it_kind, .u64 it_n, .sl .bs it_bytes, .s it_text, .sl .il it_kids]] : List TV).getD q.1 .dead) :=
  ⟨by kernel_rfl, Eq.trans (b := law29_nest.F n (Itv.mk it_kind it_n it_bytes it_text it_kids)) (by kernel_rfl) (Eq.trans (law29_nest.goal n (Itv.mk it_kind it_n it_bytes it_text it_kids) hp) (by kernel_rfl))⟩
theorem lnest.oks : ∀ n : Nat, (SpecOK Go.Proofs.Try.prog (fun n => (noGl n).av) 19 (Ctr.fs (law29_nest.cn n, law29_nest.sg))) := by
  intro n
  induction n with
  | zero => exact spec_zero (by
      intro ti to_ h
      unfold law29_nest.cn at h
      split at h
      · obtain ⟨h, _⟩ := h; simp at h
      · exact h.elim)
  | succ n ih =>
    have ih0 := ih
    exact meets (l := law29_nest.env n) (all_cons ih0 all_nil) (law29_nest.chk n) (by
      intro ins outs h
      unfold law29_nest.cn at h
      split at h
      · obtain ⟨hp, rfl⟩ := h; exact law29_nest.fit n _ _ _ _ _ hp
      · exact h.elim)
theorem law29_nest.ok : SpecOK Go.Proofs.Try.prog (fun n => (noGl n).av) 19 (Ctr.fs (law29_nest.c, law29_nest.sg)) := spec_sub fun ti to_ h => by
  unfold law29_nest.c at h
  split at h
  · obtain ⟨hp, rfl⟩ := h; exact ⟨law29_nest.cn (_ + 1), (lnest.oks _), Bool.and_eq_true_iff.2 ⟨hp, decide_eq_true (Nat.lt_succ_self _)⟩, rfl⟩
  · exact h.elim
theorem law29_awake.fit : ([] : List TV).length = law29_awake.d.np ∧ law29_awake.d.run (envL noGl law29_awake.env) [] = some (([(.b (true))] : List TV) ++ law29_awake.d.ps.toList.map fun q => ([] : List TV).getD q.1 .dead) :=
  ⟨by kernel_rfl, Eq.trans (b := law29_awake.F ) (by kernel_rfl) (Eq.trans (law29_awake.goal ) (by kernel_rfl))⟩
theorem law29_awake.ok : SpecOK Go.Proofs.Try.prog (fun n => (noGl n).av) 9 (Ctr.fs (law29_awake.c, law29_awake.sg)) :=
  meets (l := law29_awake.env) (all_cons mp_Encode.ok (all_cons mp_Decode.ok all_nil)) law29_awake.chk (by
      intro ins outs h
      unfold law29_awake.c at h
      split at h
      · cases h; exact law29_awake.fit
      · exact h.elim)
end Go.Eng
namespace Go.Eng
open Go.IntWalk
theorem Mp.head_read (pre rest : Str) (f : Int × Int) (x : UInt64) (k : Int) (n0 : UInt64) (d : Nat) (h0 : 0 ≤ f.1 ∧ f.1 ≤ 255) (hf : Mp.first f.1 = (k, n0, f.2)) (hk : k ≠ 0) (hl : f.2 = 0 ∨ f.2 = 1 ∨ f.2 = 2 ∨ f.2 = 4 ∨ f.2 = 8) :
    Mp.read (pre ++ (Mp.put f x ++ rest)) (d + 1) pre.length = Mp.readTail (pre ++ (Mp.put f x ++ rest)) (Mp.read (pre ++ (Mp.put f x ++ rest)) d) pre.length f.1 k (if f.2 = 0 then n0 else Cur.be (Cur.high x f.2)) f.2 ((pre.length : Int) + 1 + f.2) := by
  have hh : (Cur.high x f.2).length = f.2.toNat := by
    unfold Cur.high
    split
    · rw [Cur.putHigh_len]
    · have : f.2 = 0 := by omega
      rw [this]; rfl
  generalize hb : pre ++ (Mp.put f x ++ rest) = b
  have hlen : b.length = pre.length + (1 + f.2.toNat) + rest.length := by
    rw [← hb]; simp only [List.length_append, Mp.put, List.length_cons, hh]; omega
  have hc : b.getD pre.length 0 = UInt8.ofInt f.1 := by
    rw [← hb, List.getD_eq_getElem?_getD, List.getElem?_append_right (Nat.le_refl _), Nat.sub_self]; rfl
  have hcn : ((UInt8.ofInt f.1).toNat : Int) = f.1 := by
    obtain ⟨m, hm⟩ : ∃ m : Nat, f.1 = m := ⟨f.1.toNat, by omega⟩
    rw [hm, u8_nat]; omega
  have hd : (b.drop (pre.length + 1)).take f.2.toNat = Cur.high x f.2 := by
    rw [← hb, show pre ++ (Mp.put f x ++ rest) = (pre ++ [UInt8.ofInt f.1]) ++ (Cur.high x f.2 ++ rest) by simp [Mp.put], List.drop_left' (by simp), List.take_left' hh]
  rw [Mp.read, if_neg (by omega), Int.toNat_natCast, hc, hcn, hf, Mp.readAt, if_neg hk, if_neg (by simp only; omega), show ((pre.length : Int) + 1).toNat = pre.length + 1 by omega, hd]
theorem Mp.put_length (f : Int × Int) (x : UInt64) (hl : f.2 = 0 ∨ f.2 = 1 ∨ f.2 = 2 ∨ f.2 = 4 ∨ f.2 = 8) : (Mp.put f x).length = 1 + f.2.toNat := by
  rw [Mp.put, List.length_cons]
  unfold Cur.high
  split
  · rw [Cur.putHigh_len]; omega
  · have : f.2 = 0 := by omega
    rw [this]; rfl
theorem Cur.be_high (x : UInt64) (long : Int) (hl : long = 1 ∨ long = 2 ∨ long = 4 ∨ long = 8) : (Cur.be (Cur.high x long)).toNat = x.toNat % 256 ^ long.toNat := by
  rw [Cur.high, if_pos (by omega), Cur.be_put _ _ (by omega)]
theorem Mp.back_num (n : UInt64) (x : UInt64) (long : Int) (hl : long = 0 ∨ long = 1 ∨ long = 2 ∨ long = 4 ∨ long = 8) (h : long ≠ 0 → n.toNat < 256 ^ long.toNat) : (if long = 0 then (if long = 0 then n else 0) else Cur.be (Cur.high n long)) = n := by
  by_cases a : long = 0
  · rw [if_pos a, if_pos a]
  · rw [if_neg a]
    apply UInt64.toNat_inj.1
    rw [Cur.be_high _ _ (by omega), Nat.mod_eq_of_lt (h a)]
theorem Mp.back_signed (n : UInt64) (hn : n.toNat < 9223372036854775808) (h0 : (Mp.signed n).2 ≠ 0) : Mp.below (Cur.be (Cur.high (~~~ n) (Mp.signed n).2)) (Mp.signed n).2 = some n := by
  obtain ⟨_, _, _, hc⟩ := Mp.first_signed n
  have key : ∀ (top : UInt64) (N : Nat) (long : Int), long.toNat = N → (long = 1 ∨ long = 2 ∨ long = 4 ∨ long = 8) → 2 * top.toNat = 256 ^ N → N ≤ 8 → n.toNat < top.toNat →
      (if Cur.be (Cur.high (~~~ n) long) < top then none else some (top - 1 - (Cur.be (Cur.high (~~~ n) long) - top)) : Option UInt64) = some n := by
    intro top N long hN hl ht h8 hnt
    subst hN
    have hu := Cur.be_high (~~~ n) long hl
    generalize Cur.be (Cur.high (~~~ n) long) = u at hu ⊢
    have hp8 : 256 ^ long.toNat ≤ 256 ^ 8 := Nat.pow_le_pow_right (by omega) h8
    obtain ⟨d, hd⟩ : ∃ d, 18446744073709551616 = 256 ^ long.toNat * d := ⟨256 ^ (8 - long.toNat), by rw [← Nat.pow_add, show long.toNat + (8 - long.toNat) = 8 by omega]⟩
    have hd1 : 1 ≤ d := by
      rcases Nat.eq_zero_or_pos d with q | q
      · subst q; simp at hd
      · exact q
    obtain ⟨d', rfl⟩ : ∃ d', d = d' + 1 := ⟨d - 1, by omega⟩
    have hu' : u.toNat = 256 ^ long.toNat - 1 - n.toNat := by
      rw [hu, not_u64, show 18446744073709551615 - n.toNat = (256 ^ long.toNat - 1 - n.toNat) + 256 ^ long.toNat * d' by rw [Nat.mul_add, Nat.mul_one] at hd; omega, Nat.add_mul_mod_self_left, Nat.mod_eq_of_lt (by omega)]
    have e1 : (1 : UInt64).toNat = 1 := rfl
    rw [if_neg (by rw [UInt64.lt_iff_toNat_lt, hu']; omega)]
    congr 1
    apply UInt64.toNat_inj.1
    have h1 : (top - 1).toNat = top.toNat - 1 := by rw [UInt64.toNat_sub_of_le _ _ (by rw [UInt64.le_iff_toNat_le, e1]; omega), e1]
    have h2 : (u - top).toNat = u.toNat - top.toNat := UInt64.toNat_sub_of_le _ _ (by rw [UInt64.le_iff_toNat_le, hu']; omega)
    rw [UInt64.toNat_sub_of_le _ _ (by rw [UInt64.le_iff_toNat_le, h1, h2, hu']; omega), h1, h2, hu']; omega
  unfold Mp.below
  rcases hc with ⟨e, h⟩ | ⟨e, h⟩ | ⟨e, h⟩ | e | ⟨e, h⟩
  · rw [e]; exact key 128 1 1 rfl (by omega) rfl (by omega) h
  · rw [e]; exact key 32768 2 2 rfl (by omega) rfl (by omega) h
  · rw [e]; exact key 2147483648 4 4 rfl (by omega) rfl (by omega) h
  · rw [e]; exact key 9223372036854775808 8 8 rfl (by omega) rfl (by omega) hn
  · exact (h0 e).elim
end Go.Eng
namespace Go.Eng
open Go.IntWalk
theorem Mp.num_self (it : Itm) (p c q : Int) : Mp.num it p c c q = ⟨it, 0, 0, q⟩ := by
  unfold Mp.num; rw [if_neg (fun h => h rfl)]
theorem Mp.row_read (b : Str) (it : Itm) (p q : Int) (m : Nat) (hq : 0 ≤ q) (h : q + m ≤ b.length) : Mp.row b it p q m = (if it.kind ≠ 4 then ⟨.mk it.kind it.n ((b.drop q.toNat).take m) it.text it.kids, 0, 0, q + m⟩ else if Utf.whole ((b.drop q.toNat).take m) then ⟨.mk it.kind it.n it.bytes ((b.drop q.toNat).take m) it.kids, 0, 0, q + m⟩ else Mp.bad 4 p (q + m)) := by
  unfold Mp.row; rw [if_neg (by omega), Int.toNat_natCast]
mutual
theorem Mp.read_lay : ∀ (it : Itm) (d : Nat) (pre rest : Str), Mp.chk it = 0 → Itm.nest it ≤ d → Mp.read (pre ++ (Mp.lay it ++ rest)) d pre.length = ⟨it, 0, 0, (pre.length : Int) + (Mp.lay it).length⟩
  | .mk k n b t ks, 0, pre, rest, hc, hn => by simp only [Itm.nest] at hn; omega
  | .mk k n b t ks, d + 1, pre, rest, hc, hn => by
    obtain ⟨ho, hcs⟩ := Mp.chk0 ⟨k, n, b, t, ks⟩ hc
    obtain ⟨p1, p2, p3, p4, p5, p6, p7, p8, p9, p10, p11, p12, p13, p14⟩ := Mp.own0 ⟨k, n, b, t, ks⟩ ho
    simp only at p1 p2 p3 p4 p5 p6 p7 p8 p9 p10 p11 p12 p13 p14 hcs
    simp only [Itm.nest] at hn
    have K := fun (pre' : Str) (t' : UInt64) => Mp.kids_lay ks d pre' rest k t' [] hcs (by omega)
    have hk' : k = 1 ∨ k = 2 ∨ k = 3 ∨ k = 4 ∨ k = 5 ∨ k = 6 ∨ k = 8 ∨ k = 9 ∨ k = 10 := by omega
    rcases hk' with rfl | rfl | rfl | rfl | rfl | rfl | rfl | rfl | rfl
    · have h3 := p3 (by decide) (by decide)
      have h4 := p4 (by decide)
      have h5 := p5 (by decide) (by decide)
      subst h3 h4 h5
      obtain ⟨f, b0, b1, hL⟩ := Mp.first_unsigned n
      have hl : (Mp.unsigned n).2 = 0 ∨ (Mp.unsigned n).2 = 1 ∨ (Mp.unsigned n).2 = 2 ∨ (Mp.unsigned n).2 = 4 ∨ (Mp.unsigned n).2 = 8 := by
        have := (Mp.first_kinds _ ⟨b0, b1⟩).2.1; rw [f] at this; exact this
      rw [show Mp.lay (.mk 1 n [] [] []) = Mp.put (Mp.unsigned n) n by simp [Mp.lay, Mp.head, Mp.lays], Mp.head_read pre rest _ n 1 _ d ⟨b0, b1⟩ f (by decide) hl, Mp.back_num n n _ hl hL, Mp.readTail, if_neg (by decide), Mp.readEnd, if_neg (by decide), if_pos rfl, Mp.num_self, Mp.put_length _ _ hl]
      congr 1; omega
    · have h3 := p3 (by decide) (by decide)
      have h4 := p4 (by decide)
      have h5 := p5 (by decide) (by decide)
      subst h3 h4 h5
      obtain ⟨f, b0, b1, _⟩ := Mp.first_signed n
      have hl : (Mp.signed n).2 = 0 ∨ (Mp.signed n).2 = 1 ∨ (Mp.signed n).2 = 2 ∨ (Mp.signed n).2 = 4 ∨ (Mp.signed n).2 = 8 := by
        have := (Mp.first_kinds _ ⟨b0, b1⟩).2.1; rw [f] at this; exact this
      rw [show Mp.lay (.mk 2 n [] [] []) = Mp.put (Mp.signed n) (~~~ n) by simp [Mp.lay, Mp.head, Mp.lays], Mp.head_read pre rest _ (~~~ n) 2 _ d ⟨b0, b1⟩ f (by decide) hl, Mp.readTail, if_neg (by decide), Mp.readEnd, if_neg (by decide), if_neg (by decide), if_pos rfl, Mp.put_length _ _ hl]
      by_cases a : (Mp.signed n).2 = 0
      · simp only [if_pos a, Mp.num_self]
        congr 1; omega
      · simp only [if_neg a]
        rw [Mp.back_signed n (UInt64.lt_iff_toNat_lt.1 (p6 rfl)) a]
        simp only [Mp.num_self]
        congr 1; omega
    · have h4 := p4 (by decide)
      have h5 := p5 (by decide) (by decide)
      have h2 := p2 (by decide)
      subst h4 h5 h2
      obtain ⟨f, b0, b1, hL⟩ := Mp.first_sized 3 (by decide) b.length p10
      have hl : (Mp.sized 3 b.length).2 = 0 ∨ (Mp.sized 3 b.length).2 = 1 ∨ (Mp.sized 3 b.length).2 = 2 ∨ (Mp.sized 3 b.length).2 = 4 ∨ (Mp.sized 3 b.length).2 = 8 := by
        have := (Mp.first_kinds _ ⟨b0, b1⟩).2.1; rw [f] at this; simp only at this; exact this
      have hN := u64_small p10
      have hpl := Mp.put_length (Mp.sized 3 b.length) (UInt64.ofNat b.length) hl
      have e : pre ++ (Mp.lay (.mk 3 0 b [] []) ++ rest) = pre ++ (Mp.put (Mp.sized 3 b.length) (UInt64.ofNat b.length) ++ (b ++ rest)) := by simp [Mp.lay, Mp.head, Mp.lays]
      have el : (Mp.lay (.mk 3 0 b [] [])).length = 1 + (Mp.sized 3 b.length).2.toNat + b.length := by simp [Mp.lay, Mp.head, Mp.lays, hpl]
      rw [e, el, Mp.head_read pre (b ++ rest) _ _ 3 _ d ⟨b0, b1⟩ f (by decide) hl, Mp.back_num _ (UInt64.ofNat b.length) _ hl (by rw [hN]; exact hL), Mp.readTail, if_neg (by decide), Mp.readEnd, if_neg (by decide), if_neg (by decide), if_neg (by decide), hN, if_neg (by simp), if_neg (by decide), if_neg (by decide), Mp.row_read _ _ _ _ _ (by omega) (by simp [hpl]; omega), if_pos (by decide)]
      have hs : ((pre ++ (Mp.put (Mp.sized 3 b.length) (UInt64.ofNat b.length) ++ (b ++ rest))).drop ((pre.length : Int) + 1 + (Mp.sized 3 b.length).2).toNat).take b.length = b := by
        rw [← List.append_assoc, List.drop_left' (by rw [List.length_append, hpl]; omega), List.take_left' rfl]
      rw [hs]
      simp only [Itm.kind, Itm.n, Itm.text, Itm.kids]
      refine congrArg (Mp.Got.mk _ 0 0) ?_
      omega
    · have h3 := p3 (by decide) (by decide)
      have h5 := p5 (by decide) (by decide)
      have h2 := p2 (by decide)
      subst h3 h5 h2
      obtain ⟨f, b0, b1, hL⟩ := Mp.first_sized 4 (by decide) t.length p11
      have hl : (Mp.sized 4 t.length).2 = 0 ∨ (Mp.sized 4 t.length).2 = 1 ∨ (Mp.sized 4 t.length).2 = 2 ∨ (Mp.sized 4 t.length).2 = 4 ∨ (Mp.sized 4 t.length).2 = 8 := by
        have := (Mp.first_kinds _ ⟨b0, b1⟩).2.1; rw [f] at this; simp only at this; exact this
      have hN := u64_small p11
      have hpl := Mp.put_length (Mp.sized 4 t.length) (UInt64.ofNat t.length) hl
      have e : pre ++ (Mp.lay (.mk 4 0 [] t []) ++ rest) = pre ++ (Mp.put (Mp.sized 4 t.length) (UInt64.ofNat t.length) ++ (t ++ rest)) := by simp [Mp.lay, Mp.head, Mp.lays]
      have el : (Mp.lay (.mk 4 0 [] t [])).length = 1 + (Mp.sized 4 t.length).2.toNat + t.length := by simp [Mp.lay, Mp.head, Mp.lays, hpl]
      rw [e, el, Mp.head_read pre (t ++ rest) _ _ 4 _ d ⟨b0, b1⟩ f (by decide) hl, Mp.back_num _ (UInt64.ofNat t.length) _ hl (by rw [hN]; exact hL), Mp.readTail, if_neg (by decide), Mp.readEnd, if_neg (by decide), if_neg (by decide), if_neg (by decide), hN, if_neg (by simp), if_neg (by decide), if_neg (by decide), Mp.row_read _ _ _ _ _ (by omega) (by simp [hpl]; omega), if_neg (by decide)]
      have hs : ((pre ++ (Mp.put (Mp.sized 4 t.length) (UInt64.ofNat t.length) ++ (t ++ rest))).drop ((pre.length : Int) + 1 + (Mp.sized 4 t.length).2).toNat).take t.length = t := by
        rw [← List.append_assoc, List.drop_left' (by rw [List.length_append, hpl]; omega), List.take_left' rfl]
      rw [hs, if_pos p14]
      simp only [Itm.kind, Itm.n, Itm.bytes, Itm.kids]
      refine congrArg (Mp.Got.mk _ 0 0) ?_
      omega
    · have h3 := p3 (by decide) (by decide)
      have h4 := p4 (by decide)
      have h2 := p2 (by decide)
      subst h3 h4 h2
      have q12 := p12 rfl
      obtain ⟨f, b0, b1, hL⟩ := Mp.first_sized 5 (by decide) ks.length q12
      have hl : (Mp.sized 5 ks.length).2 = 0 ∨ (Mp.sized 5 ks.length).2 = 1 ∨ (Mp.sized 5 ks.length).2 = 2 ∨ (Mp.sized 5 ks.length).2 = 4 ∨ (Mp.sized 5 ks.length).2 = 8 := by
        have := (Mp.first_kinds _ ⟨b0, b1⟩).2.1; rw [f] at this; simp only at this; exact this
      have hN := u64_small q12
      have hpl := Mp.put_length (Mp.sized 5 ks.length) (UInt64.ofNat ks.length) hl
      have e : pre ++ (Mp.lay (.mk 5 0 [] [] ks) ++ rest) = pre ++ (Mp.put (Mp.sized 5 ks.length) (UInt64.ofNat ks.length) ++ (Mp.lays ks ++ rest)) := by simp [Mp.lay, Mp.head]
      have el : (Mp.lay (.mk 5 0 [] [] ks)).length = 1 + (Mp.sized 5 ks.length).2.toNat + (Mp.lays ks).length := by simp [Mp.lay, Mp.head, hpl]
      rw [e, el, Mp.head_read pre _ _ _ 5 _ d ⟨b0, b1⟩ f (by decide) hl, Mp.back_num _ (UInt64.ofNat ks.length) _ hl (by rw [hN]; exact hL), Mp.readTail, if_neg (by decide), Mp.readEnd, if_neg (by decide), if_neg (by decide), if_neg (by decide), hN, if_neg (by simp), if_pos rfl]
      have hK := K (pre ++ Mp.put (Mp.sized 5 ks.length) (UInt64.ofNat ks.length)) 0
      rw [List.append_assoc, List.length_append, hpl, show ((pre.length + (1 + (Mp.sized 5 ks.length).2.toNat) : Nat) : Int) = (pre.length : Int) + 1 + (Mp.sized 5 ks.length).2 by omega] at hK
      rw [hK, List.nil_append]
      refine congrArg (Mp.Got.mk _ 0 0) ?_
      omega
    · have h3 := p3 (by decide) (by decide)
      have h4 := p4 (by decide)
      have h2 := p2 (by decide)
      subst h3 h4 h2
      have q9 := p9 rfl
      obtain ⟨f, b0, b1, hL⟩ := Mp.first_sized 6 (by decide) (ks.length / 2) p13
      have hl : (Mp.sized 6 (ks.length / 2 : Nat)).2 = 0 ∨ (Mp.sized 6 (ks.length / 2 : Nat)).2 = 1 ∨ (Mp.sized 6 (ks.length / 2 : Nat)).2 = 2 ∨ (Mp.sized 6 (ks.length / 2 : Nat)).2 = 4 ∨ (Mp.sized 6 (ks.length / 2 : Nat)).2 = 8 := by
        have := (Mp.first_kinds _ ⟨b0, b1⟩).2.1; rw [f] at this; simp only at this; exact this
      have hN := u64_small p13
      have hpl := Mp.put_length (Mp.sized 6 (ks.length / 2 : Nat)) (UInt64.ofNat (ks.length / 2)) hl
      have e : pre ++ (Mp.lay (.mk 6 0 [] [] ks) ++ rest) = pre ++ (Mp.put (Mp.sized 6 (ks.length / 2 : Nat)) (UInt64.ofNat (ks.length / 2)) ++ (Mp.lays ks ++ rest)) := by simp only [Mp.lay, Mp.head, List.append_nil, List.append_assoc]; rfl
      have el : (Mp.lay (.mk 6 0 [] [] ks)).length = 1 + (Mp.sized 6 (ks.length / 2 : Nat)).2.toNat + (Mp.lays ks).length := by
        have : Mp.lay (.mk 6 0 [] [] ks) = Mp.put (Mp.sized 6 (ks.length / 2 : Nat)) (UInt64.ofNat (ks.length / 2)) ++ Mp.lays ks := by simp only [Mp.lay, Mp.head, List.append_nil]; rfl
        rw [this, List.length_append, hpl]
      rw [e, el, Mp.head_read pre _ _ _ 6 _ d ⟨b0, b1⟩ f (by decide) hl, Mp.back_num _ (UInt64.ofNat (ks.length / 2)) _ hl (by rw [hN]; exact hL), Mp.readTail, if_neg (by decide), Mp.readEnd, if_neg (by decide), if_neg (by decide), if_neg (by decide), hN, if_neg (by simp), if_neg (by decide), if_pos rfl, show 2 * (ks.length / 2) = ks.length by omega]
      have hK := K (pre ++ Mp.put (Mp.sized 6 (ks.length / 2 : Nat)) (UInt64.ofNat (ks.length / 2))) 0
      rw [List.append_assoc, List.length_append, hpl, show ((pre.length + (1 + (Mp.sized 6 (ks.length / 2 : Nat)).2.toNat) : Nat) : Int) = (pre.length : Int) + 1 + (Mp.sized 6 (ks.length / 2 : Nat)).2 by omega] at hK
      rw [hK, List.nil_append]
      refine congrArg (Mp.Got.mk _ 0 0) ?_
      omega
    · have h3 := p3 (by decide) (by decide)
      have h4 := p4 (by decide)
      have h5 := p5 (by decide) (by decide)
      subst h3 h4 h5
      obtain ⟨q1, q2⟩ := p7 rfl
      have hu : n = 20 ∨ n = 21 ∨ n = 22 := by
        have a := UInt64.le_iff_toNat_le.1 q1
        have b := UInt64.le_iff_toNat_le.1 q2
        simp at a b
        have : n.toNat = 20 ∨ n.toNat = 21 ∨ n.toNat = 22 := by omega
        rcases this with h | h | h
        · exact .inl (UInt64.toNat_inj.1 h)
        · exact .inr (.inl (UInt64.toNat_inj.1 h))
        · exact .inr (.inr (UInt64.toNat_inj.1 h))
      have key : ∀ (c : Int) (m : UInt64), Mp.first c = (8, m, 0) → 0 ≤ c ∧ c ≤ 255 → Mp.lay (.mk 8 m [] [] []) = Mp.put (c, 0) 0 → Mp.read (pre ++ (Mp.lay (.mk 8 m [] [] []) ++ rest)) (d + 1) pre.length = ⟨.mk 8 m [] [] [], 0, 0, (pre.length : Int) + (Mp.lay (.mk 8 m [] [] [])).length⟩ := by
        intro c m hf hc hlay
        rw [hlay, Mp.head_read pre rest (c, 0) 0 8 m d hc hf (by decide) (.inl rfl), if_pos rfl, Mp.readTail, if_neg (by decide), Mp.readEnd, if_pos (by decide), Mp.put_length _ _ (.inl rfl)]
        refine congrArg (Mp.Got.mk _ 0 0) ?_
        simp only; omega
      rcases hu with rfl | rfl | rfl
      · exact key 194 20 rfl (by decide) rfl
      · exact key 195 21 rfl (by decide) rfl
      · exact key 192 22 rfl (by decide) rfl
    · have h3 := p3 (by decide) (by decide)
      have h4 := p4 (by decide)
      have h5 := p5 (by decide) (by decide)
      subst h3 h4 h5
      have hlay : Mp.lay (.mk 9 n [] [] []) = Mp.put (203, 8) n := by simp [Mp.lay, Mp.head, Mp.lays]
      have hv : (if (8 : Int) = 0 then (0 : UInt64) else Cur.be (Cur.high n 8)) = n := by
        rw [if_neg (by decide)]
        apply UInt64.toNat_inj.1
        have := n.toNat_lt
        rw [Cur.be_high _ _ (by decide)]
        exact Nat.mod_eq_of_lt this
      rw [hlay, Mp.head_read pre rest (203, 8) n 9 0 d (by decide) rfl (by decide) (by decide), hv, Mp.readTail, if_neg (by decide), Mp.readEnd, if_pos (by decide), Mp.put_length _ _ (by decide)]
      refine congrArg (Mp.Got.mk _ 0 0) ?_
      simp only; omega
    · have h4 := p4 (by decide)
      have h5 := p5 (by decide) (by decide)
      subst h4 h5
      have h127 := UInt64.le_iff_toNat_le.1 (p8 rfl)
      simp at h127
      obtain ⟨f, b0, b1, hL⟩ := Mp.first_sized 10 (by decide) b.length p10
      have hl : (Mp.sized 10 b.length).2 = 0 ∨ (Mp.sized 10 b.length).2 = 1 ∨ (Mp.sized 10 b.length).2 = 2 ∨ (Mp.sized 10 b.length).2 = 4 ∨ (Mp.sized 10 b.length).2 = 8 := by
        have := (Mp.first_kinds _ ⟨b0, b1⟩).2.1; rw [f] at this; simp only at this; exact this
      have hN := u64_small p10
      have hpl := Mp.put_length (Mp.sized 10 b.length) (UInt64.ofNat b.length) hl
      have hlay : Mp.lay (.mk 10 n b [] []) = Mp.put (Mp.sized 10 b.length) (UInt64.ofNat b.length) ++ ([n.toUInt8] ++ b) := by simp [Mp.lay, Mp.head, Mp.lays]
      have e : pre ++ (Mp.lay (.mk 10 n b [] []) ++ rest) = pre ++ (Mp.put (Mp.sized 10 b.length) (UInt64.ofNat b.length) ++ ([n.toUInt8] ++ (b ++ rest))) := by rw [hlay]; simp
      have el : (Mp.lay (.mk 10 n b [] [])).length = 1 + (Mp.sized 10 b.length).2.toNat + 1 + b.length := by rw [hlay]; simp only [List.length_append, hpl, List.length_singleton]; omega
      have hlen : (pre ++ (Mp.put (Mp.sized 10 b.length) (UInt64.ofNat b.length) ++ ([n.toUInt8] ++ (b ++ rest)))).length = pre.length + (1 + (Mp.sized 10 b.length).2.toNat) + 1 + b.length + rest.length := by simp only [List.length_append, hpl, List.length_singleton]; omega
      have ht : (pre ++ (Mp.put (Mp.sized 10 b.length) (UInt64.ofNat b.length) ++ ([n.toUInt8] ++ (b ++ rest)))).getD ((pre.length : Int) + 1 + (Mp.sized 10 b.length).2).toNat 0 = n.toUInt8 := by
        rw [← List.append_assoc, List.getD_eq_getElem?_getD, List.getElem?_append_right (by rw [List.length_append, hpl]; omega), show ((pre.length : Int) + 1 + (Mp.sized 10 b.length).2).toNat - (pre ++ Mp.put (Mp.sized 10 b.length) (UInt64.ofNat b.length)).length = 0 by rw [List.length_append, hpl]; omega]; rfl
      have hs : ((pre ++ (Mp.put (Mp.sized 10 b.length) (UInt64.ofNat b.length) ++ ([n.toUInt8] ++ (b ++ rest)))).drop ((pre.length : Int) + 1 + (Mp.sized 10 b.length).2 + 1).toNat).take b.length = b := by
        rw [← List.append_assoc, ← List.append_assoc, List.drop_left' (by rw [List.length_append, List.length_append, hpl, List.length_singleton]; omega), List.take_left' rfl]
      have hnn : n.toUInt8.toUInt64 = n := by
        apply UInt64.toNat_inj.1
        rw [UInt8.toNat_toUInt64, UInt64.toNat_toUInt8]
        show n.toNat % 256 = n.toNat
        omega
      rw [e, el, Mp.head_read pre _ _ _ 10 _ d ⟨b0, b1⟩ f (by decide) hl, Mp.back_num _ (UInt64.ofNat b.length) _ hl (by rw [hN]; exact hL), Mp.readTail, if_pos rfl, if_neg (by rw [hlen]; omega), ht, hnn, Mp.readEnd, if_neg (by decide), if_neg (by decide), if_neg (by decide), hN, if_neg (by
        rintro (q | q)
        · exact q rfl
        · rw [UInt64.lt_iff_toNat_lt] at q; simp at q; omega), if_neg (by decide), if_neg (by decide), Mp.row_read _ _ _ _ _ (by omega) (by rw [hlen]; omega), if_pos (show (Itm.mk 10 n [] [] []).kind ≠ 4 from fun h => absurd (show (10 : Int) = 4 from h) (by decide)), hs]
      simp only [Itm.kind, Itm.n, Itm.text, Itm.kids]
      refine congrArg (Mp.Got.mk _ 0 0) ?_
      omega
theorem Mp.kids_lay : ∀ (ks : List Itm) (d : Nat) (pre rest : Str) (k : Int) (t : UInt64) (acc : List Itm), Mp.chks ks = 0 → Itm.nests ks ≤ d →
    Mp.kids (Mp.read (pre ++ (Mp.lays ks ++ rest)) d) (.mk k t [] [] acc) ks.length pre.length = ⟨.mk k t [] [] (acc ++ ks), 0, 0, (pre.length : Int) + (Mp.lays ks).length⟩
  | [], d, pre, rest, k, t, acc, _, _ => by simp [Mp.kids, Mp.lays]
  | x :: r, d, pre, rest, k, t, acc, hc, hn => by
    obtain ⟨c1, c2⟩ := Mp.chks_cons hc
    simp only [Itm.nests] at hn
    have h1 := Mp.read_lay x d pre (Mp.lays r ++ rest) c1 (by omega)
    have h2 := Mp.kids_lay r d (pre ++ Mp.lay x) rest k t (acc ++ [x]) c2 (by omega)
    have e : pre ++ (Mp.lays (x :: r) ++ rest) = pre ++ (Mp.lay x ++ (Mp.lays r ++ rest)) := by simp [Mp.lays]
    rw [e, List.length_cons, Mp.kids, h1, if_neg (fun h => h rfl)]
    rw [List.append_assoc, List.length_append, show ((pre.length + (Mp.lay x).length : Nat) : Int) = (pre.length : Int) + (Mp.lay x).length by omega] at h2
    simp only [Itm.kind, Itm.n, Itm.bytes, Itm.text, Itm.kids]
    rw [h2, List.append_assoc]
    congr 1
    · simp [Mp.lays]; omega
end
end Go.Eng
namespace Go.Eng
open Go.IntWalk
def Mp.cnt : Itm → Nat
  | .mk k _ b t ks => if k = 3 ∨ k = 10 then b.length else if k = 4 then t.length else if k = 5 then ks.length else ks.length / 2
theorem Mp.head_form (k : Int) (n : UInt64) (b t : Str) (ks : List Itm) (ho : Mp.own (.mk k n b t ks) = 0) : ∃ (f : Int × Int) (x n0 : UInt64) (ty : Str),
    Mp.head (.mk k n b t ks) = Mp.put f x ++ ty ∧ (0 ≤ f.1 ∧ f.1 ≤ 255) ∧ Mp.first f.1 = (k, n0, f.2) ∧ k ≠ 0 ∧ (f.2 = 0 ∨ f.2 = 1 ∨ f.2 = 2 ∨ f.2 = 4 ∨ f.2 = 8) ∧ ty = (if k = 10 then [n.toUInt8] else []) ∧
    (k = 3 ∨ k = 4 ∨ k = 5 ∨ k = 6 ∨ k = 10 → (if f.2 = 0 then n0 else Cur.be (Cur.high x f.2)) = UInt64.ofNat (Mp.cnt (.mk k n b t ks)) ∧ Mp.cnt (.mk k n b t ks) < 4294967296 ∧ f = Mp.sized k (Mp.cnt (.mk k n b t ks))) := by
  obtain ⟨p1, p2, p3, p4, p5, p6, p7, p8, p9, p10, p11, p12, p13, p14⟩ := Mp.own0 ⟨k, n, b, t, ks⟩ ho
  simp only at p1 p2 p3 p4 p5 p6 p7 p8 p9 p10 p11 p12 p13 p14
  have S : ∀ (m : Nat), m < 4294967296 → (k = 3 ∨ k = 4 ∨ k = 5 ∨ k = 6 ∨ k = 10) → Mp.cnt (.mk k n b t ks) = m → Mp.head (.mk k n b t ks) = Mp.put (Mp.sized k m) (UInt64.ofNat m) ++ (if k = 10 then [n.toUInt8] else []) →
      ∃ (f : Int × Int) (x n0 : UInt64) (ty : Str),
    Mp.head (.mk k n b t ks) = Mp.put f x ++ ty ∧ (0 ≤ f.1 ∧ f.1 ≤ 255) ∧ Mp.first f.1 = (k, n0, f.2) ∧ k ≠ 0 ∧ (f.2 = 0 ∨ f.2 = 1 ∨ f.2 = 2 ∨ f.2 = 4 ∨ f.2 = 8) ∧ ty = (if k = 10 then [n.toUInt8] else []) ∧
    (k = 3 ∨ k = 4 ∨ k = 5 ∨ k = 6 ∨ k = 10 → (if f.2 = 0 then n0 else Cur.be (Cur.high x f.2)) = UInt64.ofNat (Mp.cnt (.mk k n b t ks)) ∧ Mp.cnt (.mk k n b t ks) < 4294967296 ∧ f = Mp.sized k (Mp.cnt (.mk k n b t ks))) := by
    intro m hm hk hc hh
    obtain ⟨f, b0, b1, hL⟩ := Mp.first_sized k (by omega) m hm
    have hl : (Mp.sized k m).2 = 0 ∨ (Mp.sized k m).2 = 1 ∨ (Mp.sized k m).2 = 2 ∨ (Mp.sized k m).2 = 4 ∨ (Mp.sized k m).2 = 8 := by
      have := (Mp.first_kinds _ ⟨b0, b1⟩).2.1; rw [f] at this; simp only at this; exact this
    have hN := u64_small hm
    rw [hc]
    exact ⟨_, _, _, _, hh, ⟨b0, b1⟩, f, by omega, hl, rfl, fun _ => ⟨Mp.back_num _ (UInt64.ofNat m) _ hl (by rw [hN]; exact hL), hm, rfl⟩⟩
  have hk' : k = 1 ∨ k = 2 ∨ k = 3 ∨ k = 4 ∨ k = 5 ∨ k = 6 ∨ k = 8 ∨ k = 9 ∨ k = 10 := by omega
  rcases hk' with rfl | rfl | rfl | rfl | rfl | rfl | rfl | rfl | rfl
  · obtain ⟨f, b0, b1, hL⟩ := Mp.first_unsigned n
    exact ⟨Mp.unsigned n, n, _, [], by simp [Mp.head], ⟨b0, b1⟩, f, by decide, by
      have := (Mp.first_kinds _ ⟨b0, b1⟩).2.1; rw [f] at this; exact this, rfl, fun h => absurd h (by decide)⟩
  · obtain ⟨f, b0, b1, _⟩ := Mp.first_signed n
    exact ⟨Mp.signed n, ~~~ n, _, [], by simp [Mp.head], ⟨b0, b1⟩, f, by decide, by
      have := (Mp.first_kinds _ ⟨b0, b1⟩).2.1; rw [f] at this; exact this, rfl, fun h => absurd h (by decide)⟩
  · exact S b.length p10 (by omega) rfl (by simp [Mp.head])
  · exact S t.length p11 (by omega) rfl (by simp [Mp.head])
  · exact S ks.length (p12 rfl) (by omega) rfl (by simp [Mp.head])
  · exact S (ks.length / 2) p13 (by omega) rfl (by simp only [Mp.head]; exact (List.append_nil _).symm)
  · obtain ⟨q1, q2⟩ := p7 rfl
    have hu : n = 20 ∨ n = 21 ∨ n = 22 := by
      have a := UInt64.le_iff_toNat_le.1 q1
      have b := UInt64.le_iff_toNat_le.1 q2
      simp at a b
      have : n.toNat = 20 ∨ n.toNat = 21 ∨ n.toNat = 22 := by omega
      rcases this with h | h | h
      · exact .inl (UInt64.toNat_inj.1 h)
      · exact .inr (.inl (UInt64.toNat_inj.1 h))
      · exact .inr (.inr (UInt64.toNat_inj.1 h))
    rcases hu with rfl | rfl | rfl
    · exact ⟨(194, 0), 0, 20, [], rfl, by decide, rfl, by decide, .inl rfl, rfl, fun h => absurd h (by decide)⟩
    · exact ⟨(195, 0), 0, 21, [], rfl, by decide, rfl, by decide, .inl rfl, rfl, fun h => absurd h (by decide)⟩
    · exact ⟨(192, 0), 0, 22, [], rfl, by decide, rfl, by decide, .inl rfl, rfl, fun h => absurd h (by decide)⟩
  · exact ⟨(203, 8), n, 0, [], by simp [Mp.head], by decide, rfl, by decide, by decide, rfl, fun h => absurd h (by decide)⟩
  · exact S b.length p10 (by omega) rfl (by simp [Mp.head])
def Mp.behind (B : Str) (d : Nat) (p q : Int) : Itm → Mp.Got
  | .mk k n b t ks => if k = 5 ∨ k = 6 then Mp.kids (Mp.read B d) (.mk k 0 [] [] []) ks.length q else Mp.row B (.mk k (if k = 10 then n else 0) [] [] []) p q (Mp.cnt (.mk k n b t ks) : Nat)
theorem Mp.read_sized (k : Int) (n : UInt64) (b t : Str) (ks : List Itm) (d : Nat) (pre tail : Str) (ho : Mp.own (.mk k n b t ks) = 0) (hk : k = 3 ∨ k = 4 ∨ k = 5 ∨ k = 6 ∨ k = 10) :
    Mp.read (pre ++ (Mp.head (.mk k n b t ks) ++ tail)) (d + 1) pre.length = Mp.behind (pre ++ (Mp.head (.mk k n b t ks) ++ tail)) d pre.length ((pre.length : Int) + (Mp.head (.mk k n b t ks)).length) (.mk k n b t ks) := by
  obtain ⟨f, x, n0, ty, hh, hr, hf, k0, hl, hty, hS⟩ := Mp.head_form k n b t ks ho
  obtain ⟨hN, hm, hsz⟩ := hS hk
  have hpl := Mp.put_length f x hl
  have p9 := (Mp.own0 ⟨k, n, b, t, ks⟩ ho).2.2.2.2.2.2.2.2.1
  have p8 := (Mp.own0 ⟨k, n, b, t, ks⟩ ho).2.2.2.2.2.2.2.1
  simp only at p9 p8
  rw [hh, List.append_assoc, Mp.head_read pre (ty ++ tail) f x k n0 d hr hf k0 hl, hN]
  generalize hB : pre ++ (Mp.put f x ++ (ty ++ tail)) = B
  have hu := u64_small hm
  have hs1 : ¬ (Mp.sized k (((UInt64.ofNat (Mp.cnt (.mk k n b t ks))).toNat : Nat) : Int)).1 ≠ f.1 := by rw [hu, ← hsz]; exact fun h => h rfl
  have hn0 : k ≠ 8 ∧ k ≠ 9 ∧ k ≠ 1 ∧ k ≠ 2 := by omega
  by_cases k10 : k = 10
  · rw [if_pos k10] at hty
    have h127 := UInt64.le_iff_toNat_le.1 (p8 k10)
    simp at h127
    have hlen : B.length = pre.length + (1 + f.2.toNat) + 1 + tail.length := by rw [← hB, hty]; simp only [List.length_append, hpl, List.length_singleton]; omega
    have ht : B.getD ((pre.length : Int) + 1 + f.2).toNat 0 = n.toUInt8 := by
      rw [← hB, hty, ← List.append_assoc, List.getD_eq_getElem?_getD, List.getElem?_append_right (by rw [List.length_append, hpl]; omega), show ((pre.length : Int) + 1 + f.2).toNat - (pre ++ Mp.put f x).length = 0 by rw [List.length_append, hpl]; omega]; rfl
    have hnn : n.toUInt8.toUInt64 = n := by
      apply UInt64.toNat_inj.1
      rw [UInt8.toNat_toUInt64, UInt64.toNat_toUInt8]
      show n.toNat % 256 = n.toNat
      omega
    rw [Mp.readTail, if_pos k10, if_neg (by rw [hlen]; omega), ht, hnn, Mp.readEnd, if_neg (by omega), if_neg (by omega), if_neg (by omega), if_neg (by
        rintro (q | q)
        · exact hs1 q
        · rw [UInt64.lt_iff_toNat_lt] at q; simp at q; omega), if_neg (by omega), if_neg (by omega), hu, Mp.behind, if_neg (by omega), if_pos k10]
    congr 1
    rw [List.length_append, hpl, hty, List.length_singleton]; omega
  · rw [if_neg k10] at hty
    have hq : (pre.length : Int) + ((Mp.put f x ++ ty).length : Nat) = (pre.length : Int) + 1 + f.2 := by rw [List.length_append, hpl, hty, List.length_nil]; omega
    rw [Mp.readTail, if_neg k10, Mp.readEnd, if_neg (by omega), if_neg (by omega), if_neg (by omega), if_neg (by
        rintro (q | q)
        · exact hs1 q
        · exact absurd q (by decide)), hu, hq, Mp.behind]
    by_cases k5 : k = 5
    · subst k5; rw [if_pos rfl, if_pos (by decide)]; rfl
    by_cases k6 : k = 6
    · subst k6
      rw [if_neg (by decide), if_pos rfl, if_pos (by decide)]
      have := p9 rfl
      rw [show 2 * Mp.cnt (.mk 6 n b t ks) = ks.length by show 2 * (ks.length / 2) = ks.length; omega]
    · rw [if_neg k5, if_neg k6, if_neg (by omega), if_neg k10]
theorem Mp.lay_kids (k : Int) (n : UInt64) (b t : Str) (ks : List Itm) (ho : Mp.own (.mk k n b t ks) = 0) (hk : k = 5 ∨ k = 6) : Mp.lay (.mk k n b t ks) = Mp.head (.mk k n b t ks) ++ Mp.lays ks := by
  obtain ⟨p1, p2, p3, p4, p5, p6, p7, p8, p9, p10, p11, p12, p13, p14⟩ := Mp.own0 ⟨k, n, b, t, ks⟩ ho
  simp only at p3 p4
  rw [Mp.lay, p3 (by omega) (by omega), p4 (by omega), List.append_nil, List.append_nil]
mutual
theorem Mp.read_deep : ∀ (it : Itm) (d : Nat) (pre rest : Str), Mp.chk it = 0 → d < Itm.nest it → (Mp.read (pre ++ (Mp.lay it ++ rest)) d pre.length).err = 8
  | .mk k n b t ks, 0, pre, rest, _, _ => rfl
  | .mk k n b t ks, d + 1, pre, rest, hc, hn => by
    obtain ⟨ho, hcs⟩ := Mp.chk0 ⟨k, n, b, t, ks⟩ hc
    have p5 := (Mp.own0 ⟨k, n, b, t, ks⟩ ho).2.2.2.2.1
    simp only at p5 hcs
    simp only [Itm.nest] at hn
    have hk : k = 5 ∨ k = 6 := by
      by_cases a : k = 5
      · exact .inl a
      by_cases a' : k = 6
      · exact .inr a'
      rw [p5 a a'] at hn
      simp [Itm.nests] at hn
    have K := Mp.kids_deep ks d (pre ++ Mp.head (.mk k n b t ks)) rest k 0 [] hcs (by omega)
    rw [Mp.lay_kids k n b t ks ho hk, List.append_assoc, Mp.read_sized k n b t ks d pre _ ho (by omega), Mp.behind, if_pos hk]
    rw [List.append_assoc, List.length_append, show ((pre.length + (Mp.head (.mk k n b t ks)).length : Nat) : Int) = (pre.length : Int) + (Mp.head (.mk k n b t ks)).length by omega] at K
    exact K
theorem Mp.kids_deep : ∀ (ks : List Itm) (d : Nat) (pre rest : Str) (k : Int) (t : UInt64) (acc : List Itm), Mp.chks ks = 0 → d < Itm.nests ks →
    (Mp.kids (Mp.read (pre ++ (Mp.lays ks ++ rest)) d) (.mk k t [] [] acc) ks.length pre.length).err = 8
  | [], d, pre, rest, k, t, acc, _, hn => by simp [Itm.nests] at hn
  | x :: r, d, pre, rest, k, t, acc, hc, hn => by
    obtain ⟨c1, c2⟩ := Mp.chks_cons hc
    simp only [Itm.nests] at hn
    have e : pre ++ (Mp.lays (x :: r) ++ rest) = pre ++ (Mp.lay x ++ (Mp.lays r ++ rest)) := by simp [Mp.lays]
    rw [e, List.length_cons, Mp.kids]
    by_cases a : Itm.nest x ≤ d
    · have h1 := Mp.read_lay x d pre (Mp.lays r ++ rest) c1 a
      have h2 := Mp.kids_deep r d (pre ++ Mp.lay x) rest k t (acc ++ [x]) c2 (by omega)
      rw [h1, if_neg (fun h => h rfl)]
      rw [List.append_assoc, List.length_append, show ((pre.length + (Mp.lay x).length : Nat) : Int) = (pre.length : Int) + (Mp.lay x).length by omega] at h2
      exact h2
    · have h1 := Mp.read_deep x d pre (Mp.lays r ++ rest) c1 (by omega)
      rw [if_pos (by rw [h1]; decide)]
      exact h1
end
mutual
theorem Itm.room_nest : ∀ (it : Itm) (left : Int), left ≤ 10000 → 0 ≤ Itm.room left it → 2 * (Itm.nest it : Int) ≤ left - Itm.room left it
  | .mk k n b t ks, left, hl, h0 => by
    have h1 := Itm.room3 left 2 t.length b.length (by omega) (by omega) (by omega) hl
    have h2 := Itm.rooms_nest ks (Book.room left [2, (t.length : Int), (b.length : Int)]) h1.1
    have h3 := (Itm.rooms_le ks (Book.room left [2, (t.length : Int), (b.length : Int)]) h1.1).2
    simp only [Itm.room, Itm.nest] at h0 ⊢
    have h4 := h2 h0
    have h5 := h3 h0
    rcases h1.2 with e | ⟨e, e0⟩ <;> omega
theorem Itm.rooms_nest : ∀ (ks : List Itm) (left : Int), left ≤ 10000 → 0 ≤ Itm.rooms left ks → 2 * (Itm.nests ks : Int) ≤ left - Itm.rooms left ks
  | [], left, hl, h => by simp only [Itm.rooms, Itm.nests]; omega
  | k :: r, left, hl, h => by
    simp only [Itm.rooms, Itm.nests] at h ⊢
    split at h
    · omega
    · rename_i a
      rw [if_neg a]
      have h1 := Itm.room_le k left hl
      have h2 := Itm.rooms_le r (Itm.room left k) h1.1
      have h3 := h2.2 h
      have h4 := Itm.room_nest k left hl h3.1
      have h5 := Itm.rooms_nest r (Itm.room left k) h1.1 h
      omega
end
theorem Itm.small_nest (it : Itm) (h : 0 ≤ Itm.room 1500 it) : Itm.nest it ≤ 750 := by
  have := Itm.room_nest it 1500 (by omega) h; omega
theorem Mp.dec_lay (it : Itm) (depth : Int) (hc : Mp.chk it = 0) (hn : (Itm.nest it : Int) ≤ depth) (hd : depth ≤ 1000) : Mp.dec (Mp.lay it) depth = (it, ⟨0, 0, []⟩) := by
  have h := Mp.read_lay it depth.toNat [] [] hc (by omega)
  rw [List.nil_append, List.append_nil, show (([] : Str).length : Int) = 0 from rfl] at h
  unfold Mp.dec
  rw [if_neg (by omega)]
  simp only [h]
  rw [if_neg (fun h => h rfl), if_neg (by omega)]
theorem Mp.dec_deep (it : Itm) (depth : Int) (hc : Mp.chk it = 0) (h0 : 0 ≤ depth) (hn : depth < Itm.nest it) (hd : depth ≤ 1000) : (Mp.dec (Mp.lay it) depth).2.err = 8 := by
  have h := Mp.read_deep it depth.toNat [] [] hc (by omega)
  rw [List.nil_append, List.append_nil, show (([] : Str).length : Int) = 0 from rfl] at h
  unfold Mp.dec
  rw [if_neg (by omega)]
  simp only [h]
  rfl
end Go.Eng
namespace Go.Eng
noncomputable section
def MpackBack.sg : FSig := {}
def MpackBack.c : Ctr := fun l => match l with
  | [.ag [.i .i64 it_kind, .u64 it_n, .sl .bs it_bytes, .s it_text, .sl .il it_kids]] => .ok [(.b (true))]
  | _ => .err
end
noncomputable section
def MpackBack.env : List (Nat × (Ctr × FSig)) := [(9, (law29_awake.c, law29_awake.sg)), (10, (book_SmallItem.c, book_SmallItem.sg)), (11, (mp_Encode.c, mp_Encode.sg)), (15, (mp_Decode.c, mp_Decode.sg)), (18, (ref28_Same.c, ref28_Same.sg)), (19, (law29_nest.c, law29_nest.sg))]
def MpackBack.E : TEnv := envL noGl MpackBack.env
def MpackBack.m : TM := .seq (.reg [
    ⟨.k (.bx 1053), [.s 0, .s 1053], [1, 1053], none⟩,
    ⟨.k .mv, [.c (.b false)], [2], none⟩]) none (.seq (.seq (.reg [
    ⟨.k (.call 9 (.plain 0 1)), [], [10], none⟩,
    ⟨.k (.un .not), [.s 10], [11], none⟩]) none (.cond (.s 11) [] (.seq (.reg [
    ⟨.k .mv, [.c (.b false)], [2], none⟩]) none .ret) .skip)) none (.seq (.seq (.reg [
    ⟨.k (.ld 1053 0 5 true), [.s 1, .s 1053], [12], none⟩,
    ⟨.k (.call 10 (.plain 1 1)), [.s 12], [13], none⟩,
    ⟨.k (.un .not), [.s 13], [14], none⟩]) none (.cond (.s 14) [] (.seq (.reg [
    ⟨.k .mv, [.c (.b true)], [2], none⟩]) none .ret) .skip)) none (.seq (.reg [
    ⟨.k (.ld 1053 0 5 true), [.s 1, .s 1053], [16], none⟩,
    ⟨.k (.call 11 (.plain 1 2)), [.s 16], [17], none⟩,
    ⟨.k .mv, [.s 17], [15], none⟩,
    ⟨.k (.ex 0), [.s 15], [18], none⟩,
    ⟨.k (.ex 1), [.s 15], [19], none⟩,
    ⟨.k .mv, [.s 18], [3], none⟩,
    ⟨.k .mv, [.s 19], [4], none⟩]) none (.seq (.seq (.reg [
    ⟨.k .mv, [.s 4], [20], none⟩,
    ⟨.k (.bin .neq), [.s 20, .c (.i .i64 (0 : Int))], [21], none⟩]) none (.cond (.s 21) [] (.seq (.reg [
    ⟨.k .mv, [.s 3], [22], none⟩,
    ⟨.k .len, [.s 22], [23], none⟩,
    ⟨.k (.bin .eql), [.s 23, .c (.i .i64 (0 : Int))], [24], none⟩,
    ⟨.k .mv, [.s 24], [2], none⟩]) none .ret) .skip)) none (.seq (.reg [
    ⟨.k (.ld 1053 0 5 true), [.s 1, .s 1053], [25], none⟩,
    ⟨.k (.call 19 (.plain 1 1)), [.s 25], [26], none⟩,
    ⟨.k .mv, [.s 26], [5], none⟩]) none (.seq (.reg [
    ⟨.k .mv, [.s 3], [28], none⟩,
    ⟨.k .mv, [.s 5], [29], none⟩,
    ⟨.k (.call 15 (.plain 2 2)), [.s 28, .s 29], [30], none⟩,
    ⟨.k .mv, [.s 30], [27], none⟩,
    ⟨.k (.ex 0), [.s 27], [31], none⟩,
    ⟨.k (.ex 1), [.s 27], [32], none⟩,
    ⟨.al 1054 [(.i .i64 (0 : Int)), (.u64 (0 : UInt64)), (.sl .bs ([] : List UInt8)), (.s ([] : Str)), (.sl .il ([] : List Itm))] [], [.s 1054], [6, 1054], none⟩,
    ⟨.al 1055 [(.i .i64 (0 : Int)), (.i .i64 (0 : Int)), (.sl .is ([] : List Int))] [], [.s 1055], [7, 1055], none⟩,
    ⟨.k (.st 1054 0 5), [.s 6, .s 1054, .s 31], [1054], none⟩,
    ⟨.k (.st 1055 0 3), [.s 7, .s 1055, .s 32], [1055], none⟩]) none (.seq (.reg [
    ⟨.k .mv, [.s 3], [34], none⟩,
    ⟨.k .mv, [.s 5], [35], none⟩,
    ⟨.k (.bin .sub), [.s 35, .c (.i .i64 (1 : Int))], [36], none⟩,
    ⟨.k (.call 15 (.plain 2 2)), [.s 34, .s 36], [37], none⟩,
    ⟨.k .mv, [.s 37], [33], none⟩,
    ⟨.k (.ex 0), [.s 33], [38], none⟩,
    ⟨.k (.ex 1), [.s 33], [39], none⟩,
    ⟨.al 1056 [(.i .i64 (0 : Int)), (.u64 (0 : UInt64)), (.sl .bs ([] : List UInt8)), (.s ([] : Str)), (.sl .il ([] : List Itm))] [], [.s 1056], [8, 1056], none⟩,
    ⟨.al 1057 [(.i .i64 (0 : Int)), (.i .i64 (0 : Int)), (.sl .is ([] : List Int))] [], [.s 1057], [9, 1057], none⟩,
    ⟨.k (.st 1056 0 5), [.s 8, .s 1056, .s 38], [1056], none⟩,
    ⟨.k (.st 1057 0 3), [.s 9, .s 1057, .s 39], [1057], none⟩]) none (.seq (.reg [
    ⟨.k (.fa 1055 0 0), [.s 7], [40], none⟩,
    ⟨.k (.ld 1055 0 1 false), [.s 40, .s 1055], [41], none⟩,
    ⟨.k (.bin .eql), [.s 41, .c (.i .i64 (0 : Int))], [42], none⟩,
    ⟨.k .mv, [.s 42], [43], none⟩,
    ⟨.k (.ld 1054 0 5 true), [.s 6, .s 1054], [44], some (43, true)⟩,
    ⟨.k (.ld 1053 0 5 true), [.s 1, .s 1053], [45], some (43, true)⟩,
    ⟨.k (.call 18 (.plain 2 1)), [.s 44, .s 45], [46], some (43, true)⟩,
    ⟨.k .pick, [.s 43, .s 46, .c (.b false)], [47], none⟩,
    ⟨.k .mv, [.s 47], [48], none⟩,
    ⟨.k (.fa 1057 0 0), [.s 9], [49], some (48, true)⟩,
    ⟨.k (.ld 1057 0 1 false), [.s 49, .s 1057], [50], some (48, true)⟩,
    ⟨.k (.bin .eql), [.s 50, .c (.i .i64 (8 : Int))], [51], some (48, true)⟩,
    ⟨.k .pick, [.s 48, .s 51, .c (.b false)], [52], none⟩,
    ⟨.k .mv, [.s 52], [2], none⟩]) none .ret))))))))
def MpackBack.d : TFD := { np := 1, m := MpackBack.m, ref := none, tips := [], res := [.t 2], own := [], new := none, tnew := [] }
noncomputable def MpackBack.F (it : Itv) : Option (List TV) := MpackBack.d.run MpackBack.E [(.ag (Itv.cells it))]
theorem MpackBack.F_in (it : Itv) {ρ : Option (List TV)} (K : ∀ (v1 : Int) (h1 : v1 = (((Mp.enc (Itm.of it))).length : Int)) (v2 : Int) (h2 : v2 = ((Itm.nest (Itm.of it) : Int))) (v3 : Flt) (h3 : v3 = ((Mp.dec ((Mp.enc (Itm.of it))) v2).2)) (v4 : Int) (h4 : v4 = (IntKind.i64.wrap (v2 - (1 : Int)))) (v5 : Flt) (h5 : v5 = ((Mp.dec ((Mp.enc (Itm.of it))) v4).2)) (v6 : Bool) (h6 : v6 = (Itm.same (Itm.of (Itm.val ((Mp.dec ((Mp.enc (Itm.of it))) v2).1))) (Itm.of it))) (v7 : Bool) (h7 : v7 = (cond (decide ((Flt.err v3) = (0 : Int))) v6 false)) (v8 : Bool) (h8 : v8 = (cond v7 (decide ((Flt.err v5) = (8 : Int))) false)), cond (!(true))
    (some [(.b false)])
    (cond (!(decide (0 ≤ Itm.room 1500 (Itm.of it))))
    (some [(.b true)])
    (ck (decide (Itm.bulk (Itm.of it) ≤ 1073741824)) (cond (!decide ((Mp.chk (Itm.of it)) = (0 : Int)))
    (some [(.b (decide (v1 = (0 : Int))))])
    (ck (decide (Itm.bulk (Itm.of it) ≤ 1099511627776)) (ck (decide ((((Mp.enc (Itm.of it)))).length ≤ 1099511627776)) (ck (decide ((((Mp.enc (Itm.of it)))).length ≤ 1099511627776)) (ck (!(decide ((Flt.err v3) = (0 : Int))) || (((decide ((Flt.err v3) = (0 : Int))) && (decide ((Flt.err v3) = (0 : Int)))) && (decide (Itm.bulk (Itm.of (Itm.val ((Mp.dec ((Mp.enc (Itm.of it))) v2).1))) ≤ 1099511627776)))) (ck (!(decide ((Flt.err v3) = (0 : Int))) || (decide ((Flt.err v3) = (0 : Int)))) (ck (!v7 || v7) (ck (!v7 || v7) (ck (!v7 || v7) (some [(.b v8)])))))))))))) = ρ) : MpackBack.F it = ρ := Eq.trans (by kernel_rfl) (K _ rfl _ rfl _ rfl _ rfl _ rfl _ rfl _ rfl _ rfl)
theorem MpackBack.chk : ((Go.Proofs.Try.prog.funcs[5]?).any fun fn => chkF Go.Proofs.Try.prog (fun k => ((envL noGl MpackBack.env).fs k).2) fn MpackBack.d.erase) = true := by kernel_rfl
end
end Go.Eng
namespace Go.Eng
open Go.IntWalk
theorem MpackBack.goal (it : Itv) : MpackBack.F it = some [.b true] := by
  refine MpackBack.F_in _ ?_
  intro v1 e1 v2 e2 v3 e3 v4 e4 v5 e5 v6 e6 v7 e7 v8 e8
  rw [Bool.not_true, cond_false]
  by_cases a : 0 ≤ Itm.room 1500 (Itm.of it)
  · have hb := Itm.small_bulk _ a
    have hn := Itm.small_nest _ a
    rw [decide_eq_true a, Bool.not_true, cond_false, ck_of (decide_eq_true (by omega))]
    by_cases hc : Mp.chk (Itm.of it) = 0
    · have hl := Mp.lay_len (Itm.of it)
      have he : Mp.enc (Itm.of it) = Mp.lay (Itm.of it) := if_pos hc
      have hn1 : 1 ≤ Itm.nest (Itm.of it) := by obtain ⟨k, n, b, t, ks⟩ := it; simp only [Itm.of, Itm.nest]; omega
      have e4' : v4 = (Itm.nest (Itm.of it) : Int) - 1 := by rw [e4, e2, i64_in _ (by omega)]
      have D := Mp.dec_lay (Itm.of it) v2 hc (by rw [e2]; exact Int.le_refl _) (by omega)
      have D2 := Mp.dec_deep (Itm.of it) v4 hc (by omega) (by omega) (by omega)
      rw [he, D] at e3 e6
      rw [he] at e5
      rw [← e5] at D2
      subst e3
      simp only [Itm.of_val, Itm.same_refl] at e6
      simp only [he, D, Itm.of_val]
      have h7 : v7 = true := by rw [e7, e6]; rfl
      have h8 : v8 = true := by rw [e8, h7, D2]; rfl
      simp only [h7, h8, Bool.not_or_self, ck_true, Bool.and_self]
      rw [decide_eq_true hc, Bool.not_true, cond_false, ck_of (decide_eq_true (by omega)), ck_of (decide_eq_true (by omega)), ck_of (decide_eq_true (by omega)), ck_of (by rw [decide_eq_true (show Itm.bulk (Itm.of it) ≤ 1099511627776 by omega)]; rfl)]
    · rw [decide_eq_false hc, Bool.not_false, cond_true, e1, Mp.enc, if_neg hc]; rfl
  · rw [decide_eq_false a]; rfl
end Go.Eng
namespace Go.Eng
theorem MpackBack.fit (it_kind : Int) (it_n : UInt64) (it_bytes : List UInt8) (it_text : Str) (it_kids : List Itm) : ([.ag [.i .i64 it_kind, .u64 it_n, .sl .bs it_bytes, .s it_text, .sl .il it_kids]] : List TV).length = MpackBack.d.np ∧ MpackBack.d.run (envL noGl MpackBack.env) [.ag [.i .i64 it_kind, .u64 it_n, .sl .bs it_bytes, .s it_text, .sl .il it_kids]] = some (([(.b (true))] : List TV) ++ MpackBack.d.ps.toList.map fun q => ([.ag [.i .i64 it_kind, .u64 it_n, .sl .bs it_bytes, .s it_text, .sl .il it_kids]] : List TV).getD q.1 .dead) :=
  ⟨by kernel_rfl, Eq.trans (b := MpackBack.F (Itv.mk it_kind it_n it_bytes it_text it_kids)) (by kernel_rfl) (Eq.trans (MpackBack.goal (Itv.mk it_kind it_n it_bytes it_text it_kids)) (by kernel_rfl))⟩
theorem MpackBack.ok : SpecOK Go.Proofs.Try.prog (fun n => (noGl n).av) 5 (Ctr.fs (MpackBack.c, MpackBack.sg)) :=
  meets (l := MpackBack.env) (all_cons law29_awake.ok (all_cons book_SmallItem.ok (all_cons mp_Encode.ok (all_cons mp_Decode.ok (all_cons ref28_Same.ok (all_cons law29_nest.ok all_nil)))))) MpackBack.chk (by
      intro ins outs h
      unfold MpackBack.c at h
      split at h
      · cases h; exact MpackBack.fit _ _ _ _ _
      · exact h.elim)
end Go.Eng
