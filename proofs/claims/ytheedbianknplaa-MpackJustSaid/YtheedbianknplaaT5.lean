/- Texts of my own, one behind the other: MpP5, MpP6, MpP7, MpP8, MpP9, MpP10, MpP11, MpP12, MpP13, MpP14, Sized, MpP, MpOK, MpR1, MpR2, MpR4, MpLJust, MpQJust, MpOKJust. -/
import Derived.Test.YtheedbianknplaaT4
import Derived.WalkKit
import Derived.WalkSpells
import Derived.WalkLawsBesides
import Derived.ChangeSlices
import Derived.Maps.OwnOps
set_option linter.unusedVariables false
set_option linter.unusedSimpArgs false
namespace Go.Eng
open Go.IntWalk
theorem Cur.be_lt : ∀ (l : Str) (x : UInt64) (k : Nat), x.toNat < 256 ^ k → k + l.length ≤ 8 → (l.foldl (fun v y => v * 256 + y.toUInt64) x).toNat < 256 ^ (k + l.length)
  | [], x, k, h, _ => by simpa using h
  | y :: l, x, k, h, hl => by
    rw [List.foldl_cons, List.length_cons, show k + (l.length + 1) = (k + 1) + l.length by omega]
    refine Cur.be_lt l _ (k + 1) ?_ (by simp at hl; omega)
    have hy := y.toNat_lt
    have h8 : k + 1 ≤ 8 := by simp at hl; omega
    have hp : 256 ^ (k + 1) ≤ 256 ^ 8 := Nat.pow_le_pow_right (by omega) h8
    rw [UInt64.toNat_add, UInt64.toNat_mul, UInt8.toNat_toUInt64, show (256 : UInt64).toNat = 256 from rfl, Nat.pow_succ]
    rw [Nat.pow_succ] at hp
    omega
theorem Cur.be_bound (l : Str) (n : Nat) (h : l.length = n) (hn : n ≤ 8) : (Cur.be l).toNat < 256 ^ n := by
  have := Cur.be_lt l 0 0 (by simp) (by omega)
  rw [Nat.zero_add, h] at this
  exact this
theorem mp_kids.l2_ok (n : Nat) (b : Str) (hb : b.length ≤ 1099511627776) (depth : Int) (hd : 1 ≤ depth ∧ depth ≤ 1000) (hn : 2 * depth.toNat < n + 1) (M : Int) (hM : M ≤ 8589934592) (kind : Int) (u : UInt64) (t : Str) (x7 : Itv) (x8 : Flt) :
    ∀ (k : Nat) (i : Int) (acc : List Itm) (q : Int), 0 ≤ i → i + k = M → 0 ≤ q → q ≤ b.length → (acc.length : Int) ≤ q →
      mp_kids.l2 n depth M i kind u t acc x7 x8 ⟨b, q⟩ = some [.ag (Itv.cells (Itm.val (Mp.kids (Mp.read b (depth - 1).toNat) (Itm.mk kind u [] t acc) k q).it)), .ag (Flt.cells (Flt.mk (Mp.kids (Mp.read b (depth - 1).toNat) (Itm.mk kind u [] t acc) k q).err (Mp.kids (Mp.read b (depth - 1).toNat) (Itm.mk kind u [] t acc) k q).at_ [])), .ag (Rdr.cells (Rdr.mk b (Mp.kids (Mp.read b (depth - 1).toNat) (Itm.mk kind u [] t acc) k q).pos))] := by
  intro k
  induction k with
  | zero =>
    intro i acc q hi0 hi h0 h1 ha
    refine mp_kids.l2_in _ _ _ _ _ _ _ _ _ _ _ ?_
    intro v1 e1 v2 e2 v3 e3 v4 e4 v5 e5
    rw [decide_eq_false (by omega), cond_false]; rfl
  | succ k ih =>
    intro i acc q hi0 hi h0 h1 ha
    refine mp_kids.l2_in _ _ _ _ _ _ _ _ _ _ _ ?_
    intro v1 e1 v2 e2 v3 e3 v4 e4 v5 e5
    have e1' : v1 = depth - 1 := by rw [e1, i64_in _ (by omega)]
    obtain ⟨g1, g2, g3⟩ := Mp.read_pos b (depth - 1).toNat q h0 h1
    rw [e1'] at e2 e3 e4
    simp only [Itm.of_val] at e2 e3 e4
    rw [decide_eq_true (by omega), cond_true, ck_of (by rw [Cur.good_iff.2 ⟨h0, h1, hb⟩, decide_eq_true (by omega), decide_eq_true (by omega)]; rfl), Mp.kids, e2]
    by_cases a : (Mp.read b (depth - 1).toNat q).err = 0
    · rw [decide_eq_true a, Bool.not_true, cond_false, if_neg (fun h => h a), e4]
      have := g3 a
      rw [ck_of (big_ap (by simp only [List.length_singleton]; omega) (by simp only [List.length_singleton]; omega)), show v5 = i + 1 by rw [e5, i64_in _ (by omega)], e3]
      exact ih (i + 1) (acc ++ [(Mp.read b (depth - 1).toNat q).it]) _ (by omega) (by omega) (by omega) g2 (by rw [List.length_append, List.length_singleton]; omega)
    · rw [decide_eq_false a, Bool.not_false, cond_true, if_pos a, e3]; rfl
theorem mp_kids.goal (n : Nat) (r : Rdr) (it : Itv) (m depth : Int) (hp : ((Cur.good r && decide (0 ≤ m ∧ m ≤ 4294967296 ∧ 1 ≤ depth ∧ depth ≤ 1000)) && decide ((2 * depth.toNat) < n + 1)) = true) :
    mp_kids.F n r it m depth = some [.ag (Itv.cells (Itm.val (Mp.kids (Mp.read r.b (depth - 1).toNat) (Itm.mk it.kind it.n [] it.text []) (Mp.many it.kind m) r.at_).it)), .ag (Flt.cells (Flt.mk (Mp.kids (Mp.read r.b (depth - 1).toNat) (Itm.mk it.kind it.n [] it.text []) (Mp.many it.kind m) r.at_).err (Mp.kids (Mp.read r.b (depth - 1).toNat) (Itm.mk it.kind it.n [] it.text []) (Mp.many it.kind m) r.at_).at_ [])), .ag (Rdr.cells (Rdr.mk r.b (Mp.kids (Mp.read r.b (depth - 1).toNat) (Itm.mk it.kind it.n [] it.text []) (Mp.many it.kind m) r.at_).pos))] := by
  simp only [Bool.and_eq_true, decide_eq_true_eq] at hp
  obtain ⟨⟨hg, hm⟩, hn⟩ := hp
  obtain ⟨h0, h1, h2⟩ := Cur.good_iff.1 hg
  refine mp_kids.F_in _ _ _ _ _ ?_
  intro v1 e1
  have e1' : v1 = m * 2 := by rw [e1, i64_in _ (by omega)]
  unfold Mp.many
  by_cases a : it.kind = 6
  · rw [decide_eq_true a, cond_true, if_pos a, mp_kids.j1_eq]
    exact mp_kids.l2_ok n r.b h2 depth (by omega) (by omega) v1 (by omega) _ _ _ _ _ _ 0 [] _ (by omega) (by omega) h0 h1 h0
  · rw [decide_eq_false a, cond_false, if_neg a, mp_kids.j1_eq]
    exact mp_kids.l2_ok n r.b h2 depth (by omega) (by omega) m (by omega) _ _ _ _ _ _ 0 [] _ (by omega) (by omega) h0 h1 h0
theorem shl_toNat (n : UInt64) (k : Nat) : (shl64 n k).toNat = n.toNat * 2 ^ k % 18446744073709551616 := by
  rw [shl64, UInt64.toNat_ofNat']
theorem not_u64 (v : UInt64) : (~~~ v).toNat = 18446744073709551615 - v.toNat := by
  have := v.toNat_lt
  have h : UInt64.size = 18446744073709551616 := rfl
  rw [UInt64.toNat_not]; omega
theorem u64_int (n : Int) : (UInt64.ofInt n).toNat = (n % 18446744073709551616).toNat := by
  have h := u64_ofInt n
  rw [wrap_u64'] at h; omega
theorem Mp.below_eq (n : UInt64) (long : Int) (hl : long = 1 ∨ long = 2 ∨ long = 4 ∨ long = 8) (hn : n.toNat < 256 ^ long.toNat) (s : Int) (hs : s = 64 - 8 * long) (v : UInt64)
    (hv : v = ~~~ (UInt64.ofInt (Int.fdiv (IntKind.i64.wrap ((shl64 n s.toNat).toNat : Int)) (2 ^ (min s.toNat IntKind.i64.bits))))) :
    match Mp.below n long with | none => 9223372036854775808 ≤ v | some m => v = m ∧ ¬ 9223372036854775808 ≤ v := by
  have hw := n.toNat_lt
  have key : ∀ (top : UInt64) (k L : Nat), s.toNat = k → k + L = 64 → 0 < L → top.toNat = 2 ^ (L - 1) → n.toNat < 2 ^ L → (match (if n < top then none else some (top - 1 - (n - top)) : Option UInt64) with | none => 9223372036854775808 ≤ v | some m => v = m ∧ ¬ 9223372036854775808 ≤ v) := by
    intro top k L hk hkL hL ht hnL
    have hb : (2 : Nat) ^ (k + (L - 1)) = 2 ^ 63 := by rw [show k + (L - 1) = 63 by omega]
    rw [Nat.pow_add] at hb
    have hkp : 0 < 2 ^ k := Nat.pow_pos (by omega)
    have hLp : 0 < 2 ^ (L - 1) := Nat.pow_pos (by omega)
    have h2L : 2 ^ L = 2 * 2 ^ (L - 1) := by
      have e : L = (L - 1) + 1 := by omega
      conv => lhs; rw [e, Nat.pow_succ]
      omega
    have hmul : n.toNat * 2 ^ k < 18446744073709551616 := by
      have : n.toNat * 2 ^ k < 2 ^ L * 2 ^ k := Nat.mul_lt_mul_of_pos_right hnL hkp
      rw [h2L, Nat.mul_assoc, Nat.mul_comm (2 ^ (L - 1)), hb] at this
      exact this
    have hsh : (shl64 n s.toNat).toNat = n.toNat * 2 ^ k := by rw [shl_toNat, hk, Nat.mod_eq_of_lt hmul]
    have hmin : min s.toNat IntKind.i64.bits = k := by rw [hk]; show min k 64 = k; omega
    rw [hsh, hmin] at hv
    have hcast : ((2 : Int) ^ k) = ((2 ^ k : Nat) : Int) := by rw [Int.natCast_pow]; rfl
    rw [hcast] at hv
    have hvn : v.toNat = 18446744073709551615 - (UInt64.ofInt (Int.fdiv (IntKind.i64.wrap ((n.toNat * 2 ^ k : Nat) : Int)) ((2 ^ k : Nat) : Int))).toNat := by rw [hv, not_u64]
    by_cases a : n < top
    · rw [if_pos a]
      have a' := UInt64.lt_iff_toNat_lt.1 a
      rw [ht] at a'
      have hsmall : n.toNat * 2 ^ k < 9223372036854775808 := by
        have : n.toNat * 2 ^ k < 2 ^ (L - 1) * 2 ^ k := Nat.mul_lt_mul_of_pos_right a' hkp
        rw [Nat.mul_comm (2 ^ (L - 1)), hb] at this
        exact this
      rw [i64_in _ (by omega), Int.fdiv_eq_ediv_of_nonneg _ (by omega), show ((n.toNat * 2 ^ k : Nat) : Int) / ((2 ^ k : Nat) : Int) = ((n.toNat * 2 ^ k / 2 ^ k : Nat) : Int) from rfl, Nat.mul_div_cancel _ hkp, u64_nat, Nat.mod_eq_of_lt hw] at hvn
      have hL63 : 2 ^ (L - 1) ≤ 2 ^ 63 := Nat.pow_le_pow_right (by omega) (by omega)
      show 9223372036854775808 ≤ v
      rw [UInt64.le_iff_toNat_le, hvn, show (9223372036854775808 : UInt64).toNat = 9223372036854775808 from rfl]
      omega
    · rw [if_neg a]
      have a' : 2 ^ (L - 1) ≤ n.toNat := by rw [← ht]; exact Nat.le_of_not_lt fun h => a (UInt64.lt_iff_toNat_lt.2 h)
      have hbig : 9223372036854775808 ≤ n.toNat * 2 ^ k := by
        have : 2 ^ (L - 1) * 2 ^ k ≤ n.toNat * 2 ^ k := Nat.mul_le_mul_right _ a'
        rw [Nat.mul_comm (2 ^ (L - 1)), hb] at this
        exact this
      have hwr : IntKind.i64.wrap ((n.toNat * 2 ^ k : Nat) : Int) = ((n.toNat : Int) - ((2 ^ L : Nat) : Int)) * ((2 ^ k : Nat) : Int) := by
        rw [IntKind.wrap_i64, Int.sub_mul, show ((2 ^ L : Nat) : Int) * ((2 ^ k : Nat) : Int) = ((2 ^ L * 2 ^ k : Nat) : Int) by simp, h2L, Nat.mul_assoc, Nat.mul_comm (2 ^ (L - 1)), hb, show (n.toNat : Int) * ((2 ^ k : Nat) : Int) = ((n.toNat * 2 ^ k : Nat) : Int) by simp]
        omega
      have hL64 : 2 ^ L ≤ 2 ^ 64 := Nat.pow_le_pow_right (by omega) (by omega)
      rw [hwr, Int.mul_fdiv_cancel _ (by omega), u64_int] at hvn
      have e1 : (1 : UInt64).toNat = 1 := rfl
      have hm : (top - 1 - (n - top)).toNat = 2 ^ L - 1 - n.toNat := by
        have h1 : (top - 1).toNat = 2 ^ (L - 1) - 1 := by
          rw [UInt64.toNat_sub_of_le _ _ (by rw [UInt64.le_iff_toNat_le, ht, e1]; omega), ht, e1]
        have h2 : (n - top).toNat = n.toNat - 2 ^ (L - 1) := by
          rw [UInt64.toNat_sub_of_le _ _ (by rw [UInt64.le_iff_toNat_le, ht]; exact a'), ht]
        rw [UInt64.toNat_sub_of_le _ _ (by rw [UInt64.le_iff_toNat_le, h1, h2]; omega), h1, h2]; omega
      refine ⟨UInt64.toNat_inj.1 ?_, fun h => ?_⟩
      · rw [hm, hvn]; omega
      · rw [UInt64.le_iff_toNat_le, hvn, show (9223372036854775808 : UInt64).toNat = 9223372036854775808 from rfl] at h
        omega
  unfold Mp.below
  rcases hl with rfl | rfl | rfl | rfl
  · exact key 128 56 8 (by omega) rfl (by decide) rfl (by simpa using hn)
  · exact key 32768 48 16 (by omega) rfl (by decide) rfl (by simpa using hn)
  · exact key 2147483648 32 32 (by omega) rfl (by decide) rfl (by simpa using hn)
  · exact key 9223372036854775808 0 64 (by omega) rfl (by decide) rfl (by simpa using hn)
section
variable {n : Nat} {depth p c k long q : Int} {u t : UInt64} {b : Str}
def Mp.Got.tvs (b : Str) (g : Mp.Got) : List TV := [.ag (Itv.cells (Itm.val g.it)), .ag (Flt.cells (Flt.mk g.err g.at_ [])), .ag (Rdr.cells (Rdr.mk b g.pos))]
theorem mp_read.j4_ok (x3 : Itv) (x4 : Flt) (v : UInt64) (x6 : UInt64) (hv : match (none : Option UInt64) with | none => True | some _ => True) :
    mp_read.j4 n p c v x3 x4 k x6 [] ⟨b, q⟩ = some (Mp.Got.tvs b (if 9223372036854775808 ≤ v then Mp.bad 3 p q else Mp.num (.mk k v [] [] []) p c (Mp.signed v).1 q)) := by
  refine mp_read.j4_in _ _ _ _ _ _ _ _ _ _ ?_
  intro v1 e1
  by_cases a : 9223372036854775808 ≤ v
  · rw [decide_eq_true a, cond_true, if_pos a]; rfl
  · rw [decide_eq_false a, cond_false, if_neg a, e1]
    simp only [Mp.num, Itm.of]
    split <;> rfl
theorem mp_read.j3_ok (x8 : Itv) (x9 : Flt) (hd : 1 ≤ depth ∧ depth ≤ 1000) (hn : 2 * depth.toNat < n) (hb : b.length ≤ 1099511627776) (hq : 0 ≤ q ∧ q ≤ b.length)
    (hk : k = 1 ∨ k = 2 ∨ k = 3 ∨ k = 4 ∨ k = 5 ∨ k = 6 ∨ k = 8 ∨ k = 9 ∨ k = 10) (hl : long = 0 ∨ long = 1 ∨ long = 2 ∨ long = 4 ∨ long = 8)
    (hu : long ≠ 0 → u.toNat < 256 ^ long.toNat) (hu0 : long = 0 → u.toNat ≤ 127) (h8 : long = 8 → k = 1 ∨ k = 2 ∨ k = 9) :
    mp_read.j3 n depth p c k u long k (decide (k = 8 ∨ k = 9)) x8 x9 k t [] ⟨b, q⟩ = some (Mp.Got.tvs b (Mp.readEnd b (Mp.read b (depth - 1).toNat) p c k u long t q)) := by
  refine mp_read.j3_in _ _ _ _ _ _ _ _ _ _ _ _ _ _ _ ?_
  intro v1 e1 v2 e2 v3 e3 v4 e4 v5 e5 v6 e6 v7 e7 v8 e8 v9 e9 v10 e10 v11 e11 v12 e12 v13 e13
  have hg : Cur.good ⟨b, q⟩ = true := Cur.good_iff.2 ⟨hq.1, hq.2, hb⟩
  unfold Mp.readEnd
  by_cases a : k = 8 ∨ k = 9
  · rw [decide_eq_true a, cond_true, if_pos a]; rfl
  rw [decide_eq_false a, cond_false, if_neg a]
  by_cases a1 : k = 1
  · rw [decide_eq_true a1, cond_true, if_pos a1, e1]
    simp only [Mp.num, Itm.of]
    split <;> rfl
  rw [decide_eq_false a1, cond_false, if_neg a1]
  by_cases a2 : k = 2
  · rw [decide_eq_true a2, cond_true, if_pos a2]
    by_cases a3 : long = 0
    · rw [decide_eq_false (by omega), cond_false, if_pos a3, mp_read.j4_ok _ _ _ _ trivial, if_neg (fun h => by
        have := UInt64.le_iff_toNat_le.1 h
        have := hu0 a3
        rw [show (9223372036854775808 : UInt64).toNat = 9223372036854775808 from rfl] at *
        omega)]
    · have hl' : long = 1 ∨ long = 2 ∨ long = 4 ∨ long = 8 := by omega
      have e3' : v3 = 64 - 8 * long := by rw [e3, e2, i64_in (8 * long) (by omega), i64_in _ (by omega)]
      have hB := Mp.below_eq u long hl' (hu a3) v3 e3' _ rfl
      rw [decide_eq_true (by omega), cond_true, if_neg a3, ck_of (decide_eq_true (by omega)), ck_of (decide_eq_true (by omega)), mp_read.j4_ok _ _ _ _ trivial, e5, e4]
      cases hbl : Mp.below u long with
      | none => rw [hbl] at hB; rw [if_pos hB]
      | some m => rw [hbl] at hB; rw [if_neg hB.2, hB.1]
  rw [decide_eq_false a2, cond_false, if_neg a2]
  have hu32 : u.toNat < 4294967296 := by
    by_cases a3 : long = 0
    · have := hu0 a3; omega
    · have hq3 := hu a3
      have h124 : long = 1 ∨ long = 2 ∨ long = 4 := by
        rcases hl with h | h | h | h | h
        · exact (a3 h).elim
        · exact .inl h
        · exact .inr (.inl h)
        · exact .inr (.inr h)
        · have := h8 h; omega
      rcases h124 with h | h | h <;> rw [h] at hq3 <;> simp at hq3 <;> omega
  have e6' : v6 = (u.toNat : Int) := by rw [e6, i64_in _ (by omega)]
  have hs : Mp.sizeds k = true := by unfold Mp.sizeds; exact decide_eq_true (by omega)
  rw [ck_of (by rw [hs, decide_eq_true (by omega)]; rfl)]
  have h7 : (!decide ((Mp.sized k v6).1 = c) || v7) = true := by rw [e7]; cases decide ((Mp.sized k v6).1 = c) <;> rfl
  simp only [Bool.not_or_self, ck_true]
  rw [ck_of h7, e8, e6']
  by_cases a4 : (Mp.sized k u.toNat).1 ≠ c ∨ 127 < t
  · rw [if_pos a4, show (cond (!decide ((Mp.sized k u.toNat).1 = c)) true (decide (127 < t))) = true by
      by_cases a5 : (Mp.sized k u.toNat).1 = c
      · rw [decide_eq_true a5]; simpa using a4.resolve_left (fun h => h a5)
      · rw [decide_eq_false a5]; rfl]; rfl
  · have a5 : (Mp.sized k u.toNat).1 = c := Classical.byContradiction fun h => a4 (.inl h)
    have a6 : ¬ 127 < t := fun h => a4 (.inr h)
    rw [if_neg a4, a5, decide_eq_true rfl, decide_eq_false a6]
    simp only [Bool.not_true, cond_false, Bool.or_not_self, ck_true]
    rw [e9]
    by_cases k5 : k = 5
    · rw [decide_eq_true k5, cond_true, cond_true, if_pos k5, ck_of (by rw [hg, decide_eq_true (by omega), decide_eq_true (by omega)]; rfl), e10, e11, e6', show Mp.many (Itv.kind ⟨k, t, [], [], []⟩) (u.toNat : Int) = u.toNat by unfold Mp.many; rw [if_neg (by show ¬ k = 6; omega)]; omega]
      rfl
    rw [decide_eq_false k5, cond_false, if_neg k5]
    by_cases k6 : k = 6
    · rw [decide_eq_true k6, cond_true, if_pos k6, ck_of (by rw [hg, decide_eq_true (by omega), decide_eq_true (by omega)]; rfl), e10, e11, e6', show Mp.many (Itv.kind ⟨k, t, [], [], []⟩) (u.toNat : Int) = 2 * u.toNat by unfold Mp.many; rw [if_pos (by show k = 6; omega)]; omega]
      rfl
    rw [decide_eq_false k6, cond_false, if_neg k6, ck_of hg, e12, e13, e6']
    rfl
theorem u8_u64 (v : UInt8) : UInt64.ofInt ((v.toNat : Nat) : Int) = v.toUInt64 := by
  apply UInt64.toNat_inj.1
  have := v.toNat_lt
  rw [u64_nat, UInt8.toNat_toUInt64]; omega
theorem mp_read.j1_ok (x6 : Itv) (x7 : Flt) (hd : 1 ≤ depth ∧ depth ≤ 1000) (hn : 2 * depth.toNat < n) (hb : b.length ≤ 1099511627776) (hq : 0 ≤ q ∧ q ≤ b.length)
    (hk : k = 1 ∨ k = 2 ∨ k = 3 ∨ k = 4 ∨ k = 5 ∨ k = 6 ∨ k = 8 ∨ k = 9 ∨ k = 10) (hl : long = 0 ∨ long = 1 ∨ long = 2 ∨ long = 4 ∨ long = 8)
    (hu : long ≠ 0 → u.toNat < 256 ^ long.toNat) (hu0 : long = 0 → u.toNat ≤ 127) (h8 : long = 8 → k = 1 ∨ k = 2 ∨ k = 9) :
    mp_read.j1 n depth p c k u long x6 x7 ⟨b, q⟩ = some (Mp.Got.tvs b (Mp.readTail b (Mp.read b (depth - 1).toNat) p c k u long q)) := by
  have hg : Cur.good ⟨b, q⟩ = true := Cur.good_iff.2 ⟨hq.1, hq.2, hb⟩
  have two : ∀ (t : UInt64) (q' : Int), 0 ≤ q' ∧ q' ≤ b.length → mp_read.j2 n depth p c k u long x6 x7 k t [] ⟨b, q'⟩ = some (Mp.Got.tvs b (Mp.readEnd b (Mp.read b (depth - 1).toNat) p c k u long t q')) := by
    intro t q' hq'
    rw [mp_read.j2_eq]
    have J := mp_read.j3_ok (n := n) (depth := depth) (p := p) (c := c) (k := k) (long := long) (q := q') (u := u) (t := t) (b := b) x6 x7 hd hn hb hq' hk hl hu hu0 h8
    by_cases a : k = 8
    · rw [decide_eq_true a, cond_true, ← J]
      congr 1
      exact (decide_eq_true (Or.inl a)).symm
    · rw [decide_eq_false a, cond_false, ← J]
      congr 1
      by_cases a9 : k = 9
      · rw [decide_eq_true a9]; exact (decide_eq_true (Or.inr a9)).symm
      · rw [decide_eq_false a9]; exact (decide_eq_false (by omega)).symm
  rw [mp_read.j1_eq, Mp.readTail]
  by_cases a : k = 10
  · rw [decide_eq_true a, cond_true, if_pos a, ck_of hg]
    by_cases m : q < b.length
    · rw [show Cur.more ⟨b, q⟩ = true from decide_eq_true m, Bool.not_true, cond_false, if_neg (by omega), show Cur.byte ⟨b, q⟩ = ((b.getD q.toNat 0).toNat : Int) from if_pos m, u8_u64]
      exact two _ (q + 1) (by omega)
    · rw [show Cur.more ⟨b, q⟩ = false from decide_eq_false m, Bool.not_false, cond_true, if_pos (by omega)]; rfl
  · rw [decide_eq_false a, cond_false, if_neg a]
    exact two 0 q hq
end
theorem mp_read.goal (n : Nat) (r : Rdr) (depth : Int) (hp : ((Cur.good r && decide (0 ≤ depth ∧ depth ≤ 1000)) && decide ((2 * depth.toNat + 1) < n + 1)) = true) :
    mp_read.F n r depth = some [.ag (Itv.cells (Itm.val (Mp.read r.b depth.toNat r.at_).it)), .ag (Flt.cells (Flt.mk (Mp.read r.b depth.toNat r.at_).err (Mp.read r.b depth.toNat r.at_).at_ [])), .ag (Rdr.cells (Rdr.mk r.b (Mp.read r.b depth.toNat r.at_).pos))] := by
  simp only [Bool.and_eq_true, decide_eq_true_eq] at hp
  obtain ⟨⟨hg, hd⟩, hn⟩ := hp
  obtain ⟨h0, h1, h2⟩ := Cur.good_iff.1 hg
  obtain ⟨b, p⟩ := r
  simp only at h0 h1 h2 ⊢
  show mp_read.F n ⟨b, p⟩ depth = some (Mp.Got.tvs b (Mp.read b depth.toNat p))
  refine mp_read.F_in _ _ _ ?_
  intro v1 e1 v2 e2 v3 e3 v4 e4 v5 e5 v6 e6 v7 e7 v8 e8 v9 e9
  by_cases a : depth = 0
  · rw [decide_eq_true a, cond_true, a, e1]; rfl
  obtain ⟨d, rfl⟩ : ∃ d : Nat, depth = (d : Int) + 1 := ⟨(depth - 1).toNat, by omega⟩
  rw [decide_eq_false a, cond_false, ck_of hg, show ((d : Int) + 1).toNat = d + 1 by omega, Mp.read]
  by_cases m : p < b.length
  · have hm : Cur.more ⟨b, p⟩ = true := decide_eq_true m
    have hby : Cur.byte ⟨b, p⟩ = ((b.getD p.toNat 0).toNat : Int) := if_pos m
    have hc : 0 ≤ ((b.getD p.toNat 0).toNat : Int) ∧ ((b.getD p.toNat 0).toNat : Int) ≤ 255 := ⟨by omega, by have := (b.getD p.toNat 0).toNat_lt; omega⟩
    rw [hby] at e3 e4 e5
    rw [hm] at e7 e8 e9
    have had : Cur.adv ⟨b, p⟩ 1 true = ⟨b, p + 1⟩ := rfl
    rw [had] at e7 e8 e9
    obtain ⟨F1, F2, F3, F4, F5⟩ := Mp.first_kinds _ hc
    rw [hm, Bool.not_true, cond_false, hby, had, ck_of (decide_eq_true hc), if_neg (by omega), ← e3, ← e4, ← e5, Mp.readAt]
    rw [← e3, ← e4, ← e5] at *
    by_cases k0 : v3 = 0
    · rw [decide_eq_true k0, cond_true, if_pos k0, e6]; rfl
    rw [decide_eq_false k0, cond_false, if_neg k0]
    have hg' : Cur.good ⟨b, p + 1⟩ = true := Cur.good_iff.2 ⟨by show 0 ≤ p + 1; omega, by show p + 1 ≤ (b.length : Int); omega, h2⟩
    by_cases l0 : v5 = 0
    · rw [decide_eq_false (by omega), cond_false, if_neg (by omega), if_pos l0, l0, Int.add_zero]
      have J := mp_read.j1_ok (n := n) (depth := (d : Int) + 1) (p := p) (c := ((b.getD p.toNat 0).toNat : Int)) (k := v3) (long := 0) (q := p + 1) (u := v4) (b := b) ⟨0, 0, [], [], []⟩ ⟨0, 0, []⟩ (by omega) (by omega) h2 (by omega) (by omega) (by omega) (fun h => (h rfl).elim) (fun _ => F4 l0) (fun h => by omega)
      rw [show ((d : Int) + 1 - 1).toNat = d by omega] at J
      exact J
    · rw [decide_eq_true (by omega), cond_true, ck_of hg']
      have h8' : v8 = !decide ((b.length : Int) - (p + 1) < v5) := by
        rw [e8, Cur.ok8]
        by_cases x : (b.length : Int) - (p + 1) < v5
        · rw [decide_eq_true x]; exact decide_eq_false (by show ¬ (1 ≤ v5 ∧ v5 ≤ 8 ∧ v5 ≤ (b.length : Int) - (p + 1)); omega)
        · rw [decide_eq_false x]; exact decide_eq_true (by show 1 ≤ v5 ∧ v5 ≤ 8 ∧ v5 ≤ (b.length : Int) - (p + 1); omega)
      rw [← e8] at e7 e9
      by_cases x : (b.length : Int) - (p + 1) < v5
      · rw [decide_eq_true x] at h8'
        rw [if_pos x, h8', e2, e9, h8']; rfl
      · rw [decide_eq_false x] at h8'
        rw [if_neg x, if_neg l0, h8', e9, e7, h8', Bool.not_false, Bool.not_true, cond_false]
        have hbl := Cur.be_bound ((b.drop (p + 1).toNat).take v5.toNat) v5.toNat (by rw [List.length_take, List.length_drop]; omega) (by omega)
        have J := mp_read.j1_ok (n := n) (depth := (d : Int) + 1) (p := p) (c := ((b.getD p.toNat 0).toNat : Int)) (k := v3) (long := v5) (q := p + 1 + v5) (u := Cur.be ((b.drop (p + 1).toNat).take v5.toNat)) (b := b) ⟨0, 0, [], [], []⟩ ⟨0, 0, []⟩ (by omega) (by omega) h2 (by omega) (by omega) F2 (fun _ => hbl) (fun h => (l0 h).elim) F3
        rw [show ((d : Int) + 1 - 1).toNat = d by omega] at J
        exact J
  · have hm : Cur.more ⟨b, p⟩ = false := decide_eq_false m
    rw [hm, Bool.not_false, cond_true, if_pos (by omega), e2]; rfl
theorem mp_Decode.goal (b : Str) (depth : Int) (hp : decide (b.length ≤ 1099511627776) = true) : mp_Decode.F b depth = some [.ag (Itv.cells (Itm.val (Mp.dec b depth).1)), .ag (Flt.cells (Mp.dec b depth).2)] := by
  have hb := of_decide_eq_true hp
  refine mp_Decode.F_in _ _ ?_
  intro v1 e1 v2 e2 v3 e3 v4 e4 v5 e5
  simp only [Bool.not_or_self, Bool.or_not_self, ck_true]
  have e1' : v1 = decide (depth < 0 ∨ 1000 < depth) := by
    rw [e1]
    by_cases a : depth < 0 <;> by_cases b : 1000 < depth <;> simp [a, b]
  rw [e1', Mp.dec]
  by_cases a : depth < 0 ∨ 1000 < depth
  · rw [decide_eq_true a, cond_true, if_pos a, e2]
  have hg : Cur.good ⟨b, 0⟩ = true := Cur.good_iff.2 ⟨Int.le_refl _, by show (0 : Int) ≤ (b.length : Int); omega, hb⟩
  obtain ⟨g1, g2, _⟩ := Mp.read_pos b depth.toNat 0 (Int.le_refl _) (by omega)
  simp only at e3 e4
  rw [decide_eq_false a, cond_false, if_neg a, ck_of hp, ck_of (by rw [hg, decide_eq_true (by omega)]; rfl), e3]
  by_cases x : (Mp.read b depth.toNat 0).err = 0
  · have hg4 : Cur.good v4 = true := by rw [e4]; exact Cur.good_iff.2 ⟨g1, g2, hb⟩
    rw [decide_eq_true x, Bool.not_true, cond_false, if_neg (fun h => h x), ck_of hg4, e5, e4]
    by_cases y : (Mp.read b depth.toNat 0).pos < b.length
    · rw [decide_eq_true (by show 0 < (b.length : Int) - (Mp.read b depth.toNat 0).pos; omega), cond_true, if_pos y]
    · rw [decide_eq_false (by show ¬ 0 < (b.length : Int) - (Mp.read b depth.toNat 0).pos; omega), cond_false, if_neg y]; rfl
  · rw [decide_eq_false x, Bool.not_false, cond_true, if_pos x]; rfl
end Go.Eng
namespace Go.Eng
open Go.IntWalk
theorem maxI_max (a b : Int) : maxI a b = max a b := by unfold maxI; omega
end Go.Eng
namespace Go.Eng
open Go.IntWalk
theorem Mp.sized_text (m : Int) : Mp.sized 4 m = if m < 32 then (160 + m, 0) else if m < 256 then (217, 1) else if m < 65536 then (218, 2) else (219, 4) := by simp [Mp.sized, Mp.fixed, Mp.fix, Mp.tab, Mp.base]
theorem Mp.sized_bytes (m : Int) (h : 0 ≤ m) : Mp.sized 3 m = if m < 256 then (196, 1) else if m < 65536 then (197, 2) else (198, 4) := by
  have : ¬ m < 0 := by omega
  simp [Mp.sized, Mp.fixed, Mp.fix, Mp.tab, Mp.base, this]
theorem Mp.sized_list (m : Int) : Mp.sized 5 m = if m < 16 then (144 + m, 0) else if m < 65536 then (220, 2) else (221, 4) := by simp [Mp.sized, Mp.fixed, Mp.fix, Mp.tab, Mp.base]
theorem Mp.sized_map (m : Int) : Mp.sized 6 m = if m < 16 then (128 + m, 0) else if m < 65536 then (222, 2) else (223, 4) := by simp [Mp.sized, Mp.fixed, Mp.fix, Mp.tab, Mp.base]
theorem Mp.sized_ext (m : Int) (h : 0 ≤ m) (h1 : m ≠ 1) (h2 : m ≠ 2) (h4 : m ≠ 4) (h8 : m ≠ 8) (h16 : m ≠ 16) : Mp.sized 10 m = if m < 256 then (199, 1) else if m < 65536 then (200, 2) else (201, 4) := by
  have : ¬ m < 0 := by omega
  simp [Mp.sized, Mp.fixed, Mp.fix, Mp.tab, Mp.base, this, h1, h2, h4, h8, h16]
end Go.Eng
namespace Go.Eng
open Go.IntWalk
theorem Cur.putLow_mod : ∀ (n : Nat) (v w : UInt64), v.toNat % 256 ^ n = w.toNat % 256 ^ n → Cur.putLow v n = Cur.putLow w n
  | 0, _, _, _ => rfl
  | n + 1, v, w, h => by
    have hd : ∀ x : Nat, x % 256 ^ (n + 1) % 256 = x % 256 := fun x => Nat.mod_mod_of_dvd x ⟨256 ^ n, by rw [Nat.pow_succ, Nat.mul_comm]⟩
    have hq : ∀ x : Nat, x % 256 ^ (n + 1) / 256 = x / 256 % 256 ^ n := fun x => by rw [Nat.pow_succ, Nat.mul_comm, Nat.mod_mul_right_div_self]
    have h1 : v.toUInt8 = w.toUInt8 := by
      apply UInt8.toNat_inj.1
      rw [UInt64.toNat_toUInt8, UInt64.toNat_toUInt8]
      have a := hd v.toNat; have b := hd w.toNat
      rw [h] at a
      show v.toNat % 256 = w.toNat % 256
      omega
    have h2 : (v / 256).toNat % 256 ^ n = (w / 256).toNat % 256 ^ n := by
      rw [UInt64.toNat_div, UInt64.toNat_div, show (256 : UInt64).toNat = 256 from rfl, ← hq, ← hq, h]
    rw [Cur.putLow, Cur.putLow, h1, Cur.putLow_mod n _ _ h2]
theorem Cur.putHigh_mod (n : Nat) (v w : UInt64) (h : v.toNat % 256 ^ n = w.toNat % 256 ^ n) : Cur.putHigh v n = Cur.putHigh w n := by
  rw [Cur.putHigh, Cur.putHigh, Cur.putLow_mod n v w h]
theorem Cur.be_snoc (l : Str) (y : UInt8) : Cur.be (l ++ [y]) = Cur.be l * 256 + y.toUInt64 := by
  rw [Cur.be, List.foldl_append]; rfl
theorem Cur.put_be : ∀ (n : Nat) (l : Str), l.length = n → n ≤ 8 → Cur.putHigh (Cur.be l) n = l
  | 0, l, h, _ => by
    have : l = [] := List.eq_nil_of_length_eq_zero h
    subst this; rfl
  | n + 1, l, h, hn => by
    obtain ⟨l', y, rfl⟩ : ∃ l' y, l = l' ++ [y] := ⟨l.dropLast, l.getLast (by intro q; rw [q] at h; cases h), (List.dropLast_concat_getLast _).symm⟩
    have hl : l'.length = n := by simpa using h
    have hb := Cur.be_bound l' n hl (by omega)
    have hp : 256 ^ n ≤ 256 ^ 7 := Nat.pow_le_pow_right (by omega) (by omega)
    have hy := y.toNat_lt
    have hv : (Cur.be l' * 256 + y.toUInt64).toNat = (Cur.be l').toNat * 256 + y.toNat := by
      rw [UInt64.toNat_add, UInt64.toNat_mul, UInt8.toNat_toUInt64, show (256 : UInt64).toNat = 256 from rfl]; omega
    rw [Cur.be_snoc, Cur.putHigh, Cur.putLow, List.reverse_cons]
    have h1 : (Cur.be l' * 256 + y.toUInt64).toUInt8 = y := by
      apply UInt8.toNat_inj.1
      rw [UInt64.toNat_toUInt8, hv]; omega
    have h2 : (Cur.be l' * 256 + y.toUInt64) / 256 = Cur.be l' := by
      apply UInt64.toNat_inj.1
      rw [UInt64.toNat_div, hv, show (256 : UInt64).toNat = 256 from rfl]; omega
    rw [h1, h2]
    have := Cur.put_be n l' hl (by omega)
    rw [Cur.putHigh] at this
    rw [this]
theorem ofInt_toNat (n : UInt64) : UInt64.ofInt (n.toNat : Int) = n := by
  apply UInt64.toNat_inj.1
  have := n.toNat_lt
  rw [u64_nat]; omega
theorem Mp.first_unsigned (n : UInt64) : Mp.first (Mp.unsigned n).1 = (1, if (Mp.unsigned n).2 = 0 then n else 0, (Mp.unsigned n).2) ∧ 0 ≤ (Mp.unsigned n).1 ∧ (Mp.unsigned n).1 ≤ 255 ∧ ((Mp.unsigned n).2 ≠ 0 → n.toNat < 256 ^ (Mp.unsigned n).2.toNat) := by
  unfold Mp.unsigned
  have hlt := n.toNat_lt
  by_cases a : n < 128
  · have h := UInt64.lt_iff_toNat_lt.1 a
    simp at h
    rw [if_pos a]
    refine ⟨?_, by show (0 : Int) ≤ _; omega, by show (n.toNat : Int) ≤ 255; omega, fun h => (h rfl).elim⟩
    show Mp.first (n.toNat : Int) = (1, n, 0)
    rw [Mp.first, if_pos (by omega), ofInt_toNat]
  rw [if_neg a]
  by_cases a : n < 256
  · have h := UInt64.lt_iff_toNat_lt.1 a
    rw [if_pos a]; exact ⟨rfl, by decide, by decide, fun _ => h⟩
  rw [if_neg a]
  by_cases a : n < 65536
  · have h := UInt64.lt_iff_toNat_lt.1 a
    rw [if_pos a]; exact ⟨rfl, by decide, by decide, fun _ => h⟩
  rw [if_neg a]
  by_cases a : n < 4294967296
  · have h := UInt64.lt_iff_toNat_lt.1 a
    rw [if_pos a]; exact ⟨rfl, by decide, by decide, fun _ => h⟩
  rw [if_neg a]; exact ⟨rfl, by decide, by decide, fun _ => hlt⟩
theorem Mp.first_signed (n : UInt64) : Mp.first (Mp.signed n).1 = (2, if (Mp.signed n).2 = 0 then n else 0, (Mp.signed n).2) ∧ 0 ≤ (Mp.signed n).1 ∧ (Mp.signed n).1 ≤ 255 ∧ ((Mp.signed n).2 = 1 ∧ n.toNat < 128 ∨ (Mp.signed n).2 = 2 ∧ n.toNat < 32768 ∨ (Mp.signed n).2 = 4 ∧ n.toNat < 2147483648 ∨ (Mp.signed n).2 = 8 ∨ (Mp.signed n).2 = 0 ∧ n.toNat < 32) := by
  unfold Mp.signed
  by_cases a : n < 32
  · have h := UInt64.lt_iff_toNat_lt.1 a
    simp at h
    rw [if_pos a]
    refine ⟨?_, by show (0 : Int) ≤ 255 - (n.toNat : Int); omega, by show 255 - (n.toNat : Int) ≤ 255; omega, .inr (.inr (.inr (.inr ⟨rfl, h⟩)))⟩
    show Mp.first (255 - (n.toNat : Int)) = (2, n, 0)
    rw [Mp.first, if_neg (by omega), if_neg (by omega), if_neg (by omega), if_neg (by omega), if_pos (by omega), show 255 - (255 - (n.toNat : Int)) = (n.toNat : Int) by omega, ofInt_toNat]
  rw [if_neg a]
  by_cases a : n < 128
  · have h := UInt64.lt_iff_toNat_lt.1 a
    rw [if_pos a]; exact ⟨rfl, by decide, by decide, .inl ⟨rfl, h⟩⟩
  rw [if_neg a]
  by_cases a : n < 32768
  · have h := UInt64.lt_iff_toNat_lt.1 a
    rw [if_pos a]; exact ⟨rfl, by decide, by decide, .inr (.inl ⟨rfl, h⟩)⟩
  rw [if_neg a]
  by_cases a : n < 2147483648
  · have h := UInt64.lt_iff_toNat_lt.1 a
    rw [if_pos a]; exact ⟨rfl, by decide, by decide, .inr (.inr (.inl ⟨rfl, h⟩))⟩
  rw [if_neg a]; exact ⟨rfl, by decide, by decide, .inr (.inr (.inr (.inl rfl)))⟩
theorem Mp.first_sized (k : Int) (hk : k = 3 ∨ k = 4 ∨ k = 5 ∨ k = 6 ∨ k = 10) (m : Nat) (h : m < 4294967296) :
    Mp.first (Mp.sized k m).1 = (k, if (Mp.sized k m).2 = 0 then UInt64.ofNat m else 0, (Mp.sized k m).2) ∧ 0 ≤ (Mp.sized k m).1 ∧ (Mp.sized k m).1 ≤ 255 ∧ ((Mp.sized k m).2 ≠ 0 → m < 256 ^ (Mp.sized k m).2.toNat) := by
  have big : ∀ (f1 f2 f4 : Int), Mp.first f1 = (k, 0, 1) → Mp.first f2 = (k, 0, 2) → Mp.first f4 = (k, 0, 4) → (0 ≤ f1 ∧ f1 ≤ 255) → (0 ≤ f2 ∧ f2 ≤ 255) → (0 ≤ f4 ∧ f4 ≤ 255) → ∀ S : Int × Int, S = (if (m : Int) < 256 then (f1, 1) else if (m : Int) < 65536 then (f2, 2) else (f4, 4)) →
      Mp.first S.1 = (k, if S.2 = 0 then UInt64.ofNat m else 0, S.2) ∧ 0 ≤ S.1 ∧ S.1 ≤ 255 ∧ (S.2 ≠ 0 → m < 256 ^ S.2.toNat) := by
    intro f1 f2 f4 h1 h2 h4 b1 b2 b4 S hS
    by_cases a : (m : Int) < 256
    · rw [if_pos a] at hS; subst hS; exact ⟨h1, b1.1, b1.2, fun _ => by show m < 256; omega⟩
    rw [if_neg a] at hS
    by_cases a : (m : Int) < 65536
    · rw [if_pos a] at hS; subst hS; exact ⟨h2, b2.1, b2.2, fun _ => by show m < 65536; omega⟩
    rw [if_neg a] at hS; subst hS; exact ⟨h4, b4.1, b4.2, fun _ => h⟩
  have big2 : ∀ (f2 f4 : Int), Mp.first f2 = (k, 0, 2) → Mp.first f4 = (k, 0, 4) → (0 ≤ f2 ∧ f2 ≤ 255) → (0 ≤ f4 ∧ f4 ≤ 255) → ∀ S : Int × Int, S = (if (m : Int) < 65536 then (f2, 2) else (f4, 4)) →
      Mp.first S.1 = (k, if S.2 = 0 then UInt64.ofNat m else 0, S.2) ∧ 0 ≤ S.1 ∧ S.1 ≤ 255 ∧ (S.2 ≠ 0 → m < 256 ^ S.2.toNat) := by
    intro f2 f4 h2 h4 b2 b4 S hS
    by_cases a : (m : Int) < 65536
    · rw [if_pos a] at hS; subst hS; exact ⟨h2, b2.1, b2.2, fun _ => by show m < 65536; omega⟩
    rw [if_neg a] at hS; subst hS; exact ⟨h4, b4.1, b4.2, fun _ => h⟩
  rcases hk with rfl | rfl | rfl | rfl | rfl
  · exact big 196 197 198 rfl rfl rfl (by omega) (by omega) (by omega) _ (Mp.sized_bytes _ (by omega))
  · by_cases a : (m : Int) < 32
    · rw [Mp.sized_text, if_pos a]
      refine ⟨?_, by show 0 ≤ 160 + (m : Int); omega, by show 160 + (m : Int) ≤ 255; omega, fun h => (h rfl).elim⟩
      show Mp.first (160 + (m : Int)) = (4, UInt64.ofNat m, 0)
      rw [Mp.first, if_neg (by omega), if_neg (by omega), if_neg (by omega), if_pos (by omega), show 160 + (m : Int) - 160 = m by omega, u64_nat']
    · exact big 217 218 219 rfl rfl rfl (by omega) (by omega) (by omega) _ (by rw [Mp.sized_text, if_neg a])
  · by_cases a : (m : Int) < 16
    · rw [Mp.sized_list, if_pos a]
      refine ⟨?_, by show 0 ≤ 144 + (m : Int); omega, by show 144 + (m : Int) ≤ 255; omega, fun h => (h rfl).elim⟩
      show Mp.first (144 + (m : Int)) = (5, UInt64.ofNat m, 0)
      rw [Mp.first, if_neg (by omega), if_neg (by omega), if_pos (by omega), show 144 + (m : Int) - 144 = m by omega, u64_nat']
    · exact big2 220 221 rfl rfl (by omega) (by omega) _ (by rw [Mp.sized_list, if_neg a])
  · by_cases a : (m : Int) < 16
    · rw [Mp.sized_map, if_pos a]
      refine ⟨?_, by show 0 ≤ 128 + (m : Int); omega, by show 128 + (m : Int) ≤ 255; omega, fun h => (h rfl).elim⟩
      show Mp.first (128 + (m : Int)) = (6, UInt64.ofNat m, 0)
      rw [Mp.first, if_neg (by omega), if_pos (by omega), show 128 + (m : Int) - 128 = m by omega, u64_nat']
    · exact big2 222 223 rfl rfl (by omega) (by omega) _ (by rw [Mp.sized_map, if_neg a])
  · by_cases a : m = 1 ∨ m = 2 ∨ m = 4 ∨ m = 8 ∨ m = 16
    · rcases a with rfl | rfl | rfl | rfl | rfl <;> exact ⟨rfl, by decide, by decide, fun h => (h rfl).elim⟩
    · exact big 199 200 201 rfl rfl rfl (by omega) (by omega) (by omega) _ (Mp.sized_ext _ (by omega) (by omega) (by omega) (by omega) (by omega) (by omega))
end Go.Eng
namespace Go.Eng
open Go.IntWalk
theorem Mp.put_iff (f : Int × Int) (x : UInt64) (c : UInt8) (L : Str) (h0 : 0 ≤ f.1 ∧ f.1 ≤ 255) (h : f.1 = (c.toNat : Int) → Cur.high x f.2 = L) : (Mp.put f x = c :: L) ↔ f.1 = (c.toNat : Int) := by
  have hc : UInt8.ofInt f.1 = c ↔ f.1 = (c.toNat : Int) := by
    obtain ⟨m, hm⟩ : ∃ m : Nat, f.1 = m := ⟨f.1.toNat, by omega⟩
    rw [hm]
    constructor
    · intro q
      have := congrArg UInt8.toNat q
      rw [u8_nat] at this; omega
    · intro q
      apply UInt8.toNat_inj.1
      rw [u8_nat]; have := c.toNat_lt; omega
  rw [Mp.put]
  constructor
  · intro q; injection q with q1 q2; exact hc.1 q1
  · intro q; rw [hc.2 q, h q]
end Go.Eng
namespace Go.Eng
open Go.IntWalk
theorem Cur.high_eq (x : UInt64) (long : Int) (L : Str) (hl : long = 0 ∨ long = 1 ∨ long = 2 ∨ long = 4 ∨ long = 8) (hL : L.length = long.toNat) (hx : long ≠ 0 → x.toNat % 256 ^ long.toNat = (Cur.be L).toNat) : Cur.high x long = L := by
  by_cases a : long = 0
  · subst a
    have : L = [] := List.eq_nil_of_length_eq_zero hL
    subst this; rfl
  · have hb := Cur.be_bound L long.toNat hL (by omega)
    rw [Cur.high, if_pos (by omega), Cur.putHigh_mod long.toNat x (Cur.be L) (by rw [hx a, Nat.mod_eq_of_lt hb]), Cur.put_be _ _ hL (by omega)]
section
variable {c : UInt8} {L : Str} {u : UInt64} {k : Int} {n0 : UInt64} {long : Int}
structure Mp.Says (c : UInt8) (L : Str) (u : UInt64) (k : Int) (n0 : UInt64) (long : Int) : Prop where
  f : Mp.first (c.toNat : Int) = (k, n0, long)
  k0 : k ≠ 0
  l : L.length = long.toNat
  u : u = if long = 0 then n0 else Cur.be L
theorem Mp.Says.long' (h : Mp.Says c L u k n0 long) : long = 0 ∨ long = 1 ∨ long = 2 ∨ long = 4 ∨ long = 8 := by
  have := (Mp.first_kinds (c.toNat : Int) ⟨by omega, by have := c.toNat_lt; omega⟩).2.1
  rw [h.f] at this; exact this
theorem Mp.Says.uL (h : Mp.Says c L u k n0 long) : long ≠ 0 → u.toNat % 256 ^ long.toNat = (Cur.be L).toNat := by
  intro a
  have hl := h.long'
  have hb := Cur.be_bound L long.toNat h.l (by omega)
  rw [h.u, if_neg a, Nat.mod_eq_of_lt hb]
theorem Mp.want1 (h : Mp.Says c L u 1 n0 long) (ty : UInt64) : Mp.want 1 u ty = c :: L ↔ (Mp.unsigned u).1 = (c.toNat : Int) := by
  obtain ⟨f, b0, b1, _⟩ := Mp.first_unsigned u
  refine Mp.put_iff (Mp.unsigned u) u c L ⟨b0, b1⟩ fun q => ?_
  rw [q, h.f] at f
  injection f with _ f; injection f with _ f
  rw [← f]
  exact Cur.high_eq u long L h.long' h.l h.uL
theorem Mp.want2 (h : Mp.Says c L u 2 n0 long) (m : UInt64) (hm : if long = 0 then m = u else Mp.below u long = some m) (ty : UInt64) : Mp.want 2 m ty = c :: L ↔ (Mp.signed m).1 = (c.toNat : Int) := by
  obtain ⟨f, b0, b1, _⟩ := Mp.first_signed m
  refine Mp.put_iff (Mp.signed m) (~~~ m) c L ⟨b0, b1⟩ fun q => ?_
  rw [q, h.f] at f
  injection f with _ f; injection f with _ f
  rw [← f]
  refine Cur.high_eq (~~~ m) long L h.long' h.l fun a => ?_
  rw [if_neg a] at hm
  have hl := h.long'
  have hu := h.uL a
  have hb := Cur.be_bound L long.toNat h.l (by omega)
  have hub : u.toNat = (Cur.be L).toNat := by rw [h.u, if_neg a]
  rw [← hub] at hb ⊢
  have hlt := u.toNat_lt
  have key : ∀ (top : UInt64) (N : Nat), N = long.toNat → 2 * top.toNat = 256 ^ N → N ≤ 8 → 0 < N → (if u < top then none else some (top - 1 - (u - top)) : Option UInt64) = some m → (~~~ m).toNat % 256 ^ long.toNat = u.toNat := by
    intro top N hN ht h8 hN0 he
    subst hN
    split at he
    · cases he
    rename_i a'
    have a2 : top.toNat ≤ u.toNat := Nat.le_of_not_lt fun h => a' (UInt64.lt_iff_toNat_lt.2 h)
    injection he with he
    have hp1 : 256 ^ 1 ≤ 256 ^ long.toNat := Nat.pow_le_pow_right (by omega) hN0
    have hp8 : 256 ^ long.toNat ≤ 256 ^ 8 := Nat.pow_le_pow_right (by omega) h8
    have e1 : (1 : UInt64).toNat = 1 := rfl
    have h1 : (top - 1).toNat = top.toNat - 1 := by rw [UInt64.toNat_sub_of_le _ _ (by rw [UInt64.le_iff_toNat_le, e1]; omega), e1]
    have h2 : (u - top).toNat = u.toNat - top.toNat := UInt64.toNat_sub_of_le _ _ (UInt64.le_iff_toNat_le.2 a2)
    have hm' : m.toNat = 256 ^ long.toNat - 1 - u.toNat := by
      rw [← he, UInt64.toNat_sub_of_le _ _ (by rw [UInt64.le_iff_toNat_le, h1, h2]; omega), h1, h2]; omega
    obtain ⟨d, hd⟩ : ∃ d, 18446744073709551616 = 256 ^ long.toNat * d := ⟨256 ^ (8 - long.toNat), by rw [← Nat.pow_add, show long.toNat + (8 - long.toNat) = 8 by omega]⟩
    have hd1 : 1 ≤ d := by
      rcases Nat.eq_zero_or_pos d with q | q
      · subst q; simp at hd
      · exact q
    obtain ⟨d', rfl⟩ : ∃ d', d = d' + 1 := ⟨d - 1, by omega⟩
    rw [not_u64, hm', show 18446744073709551615 - (256 ^ long.toNat - 1 - u.toNat) = u.toNat + 256 ^ long.toNat * d' by rw [Nat.mul_add, Nat.mul_one] at hd; omega, Nat.add_mul_mod_self_left, Nat.mod_eq_of_lt hb]
  unfold Mp.below at hm
  rcases (by omega : long = 1 ∨ long = 2 ∨ long = 4 ∨ long = 8) with q | q | q | q
  · exact key 128 1 (by rw [q]; rfl) rfl (by omega) (by omega) (by simpa [q] using hm)
  · exact key 32768 2 (by rw [q]; rfl) rfl (by omega) (by omega) (by simpa [q] using hm)
  · exact key 2147483648 4 (by rw [q]; rfl) rfl (by omega) (by omega) (by simpa [q] using hm)
  · exact key 9223372036854775808 8 (by rw [q]; rfl) rfl (by omega) (by omega) (by simpa [q] using hm)
set_option maxRecDepth 100000 in
theorem Mp.first89 : ∀ m : Fin 256, ((Mp.first (m.val : Int)).1 = 8 → (Mp.first (m.val : Int)).2.2 = 0 ∧ (20 ≤ (Mp.first (m.val : Int)).2.1 ∧ (Mp.first (m.val : Int)).2.1 ≤ 22) ∧ Mp.head (.mk 8 (Mp.first (m.val : Int)).2.1 [] [] []) = [UInt8.ofNat m.val]) ∧ ((Mp.first (m.val : Int)).1 = 9 → m.val = 203 ∧ (Mp.first (m.val : Int)).2.2 = 8) := by decide +kernel
theorem Mp.want8 (h : Mp.Says c L u 8 n0 long) (ty : UInt64) : Mp.want 8 u ty = c :: L ∧ 20 ≤ u ∧ u ≤ 22 := by
  have q := (Mp.first89 ⟨c.toNat, c.toNat_lt⟩).1
  simp only [h.f] at q
  obtain ⟨q1, q2, q3⟩ := q trivial
  have hL := h.l
  have hu := h.u
  rw [q1] at hL hu
  rw [if_pos rfl] at hu
  have : L = [] := List.eq_nil_of_length_eq_zero hL
  subst this hu
  refine ⟨?_, q2⟩
  rw [show Mp.want 8 u ty = Mp.head (.mk 8 u [] [] []) from rfl, q3, UInt8.ofNat_toNat]
theorem Mp.want9 (h : Mp.Says c L u 9 n0 long) (ty : UInt64) : Mp.want 9 u ty = c :: L := by
  have q := (Mp.first89 ⟨c.toNat, c.toNat_lt⟩).2
  simp only [h.f] at q
  obtain ⟨q1, q2⟩ := q trivial
  have e := Cur.high_eq u long L h.long' h.l h.uL
  rw [q2] at e
  rw [show Mp.want 9 u ty = UInt8.ofInt 203 :: Cur.high u 8 from rfl, e]
  congr 1
  apply UInt8.toNat_inj.1
  rw [q1]; rfl
end
end Go.Eng
namespace Go.Eng
open Go.IntWalk
section
variable {n : Nat} {b : Str} {p w d k q : Int} {u t : UInt64}
def Mp.body (b : Str) (f : Int → Mp.Got) (p k : Int) (u t : UInt64) (q : Int) : Mp.Got :=
  if k = 4 ∨ k = 3 ∨ k = 10 then Mp.row b (.mk k t [] [] []) p q u.toNat
  else if k = 6 then Mp.kids f (.mk k 0 [] [] []) (2 * u.toNat) q
  else if k = 5 then Mp.kids f (.mk k 0 [] [] []) u.toNat q
  else ⟨.mk k u [] [] [], 0, 0, q⟩
end
end Go.Eng
namespace Go.Eng
open Go.IntWalk
section
variable {c : UInt8} {L : Str} {u : UInt64} {k : Int} {n0 : UInt64} {long : Int}
theorem Mp.Says.kinds (h : Mp.Says c L u k n0 long) : (k = 1 ∨ k = 2 ∨ k = 3 ∨ k = 4 ∨ k = 5 ∨ k = 6 ∨ k = 8 ∨ k = 9 ∨ k = 10) ∧ (long = 8 → k = 1 ∨ k = 2 ∨ k = 9) ∧ (long = 0 → u.toNat ≤ 127) ∧ (k = 2 → long = 0 → u.toNat ≤ 31) := by
  have hc : 0 ≤ (c.toNat : Int) ∧ (c.toNat : Int) ≤ 255 := ⟨by omega, by have := c.toNat_lt; omega⟩
  obtain ⟨F1, _, F3, F4, F5⟩ := Mp.first_kinds _ hc
  rw [h.f] at F1 F3 F4 F5
  simp only at F1 F3 F4 F5
  have hk0 := h.k0
  refine ⟨by omega, F3, fun a => ?_, fun a b => ?_⟩
  · rw [h.u, if_pos a]; exact F4 a
  · rw [h.u, if_pos b]; exact F5 a b
theorem Mp.Says.u8 (h : Mp.Says c L u k n0 long) : long ≠ 0 → u.toNat < 256 ^ long.toNat := by
  intro a
  have hl := h.long'
  rw [h.u, if_neg a]
  exact Cur.be_bound L long.toNat h.l (by omega)
theorem Mp.Says.u32 (h : Mp.Says c L u k n0 long) (hk : k = 4 ∨ k = 3 ∨ k = 10 ∨ k = 5 ∨ k = 6) : u.toNat < 4294967296 := by
  obtain ⟨_, F3, F4, _⟩ := h.kinds
  by_cases a3 : long = 0
  · have := F4 a3; omega
  · have hq3 := h.u8 a3
    have h124 : long = 1 ∨ long = 2 ∨ long = 4 := by
      rcases h.long' with h | h | h | h | h
      · exact (a3 h).elim
      · exact .inl h
      · exact .inr (.inl h)
      · exact .inr (.inr h)
      · have := F3 h; omega
    clear F3 F4 hk a3
    rcases h124 with h | h | h
    · rw [h] at hq3; exact Nat.lt_trans hq3 (by decide)
    · rw [h] at hq3; exact Nat.lt_trans hq3 (by decide)
    · rw [h] at hq3; exact hq3
end
section
variable {n : Nat} {b : Str} {p w d k : Int} {u n0 : UInt64} {long : Int}
end
theorem drop_take_split (b : Str) (p long : Nat) (h : p + 1 + long ≤ b.length) : (b.drop p).take (1 + long) = b.getD p 0 :: (b.drop (p + 1)).take long := by
  rw [drop_cons (show p < b.length by omega) 0, Nat.add_comm 1 long, List.take_succ_cons]
theorem getD_dropped (b : Str) (i j : Nat) : (b.drop i).getD j 0 = b.getD (i + j) 0 := by
  rw [List.getD_eq_getElem?_getD, List.getElem?_drop, List.getD_eq_getElem?_getD]
theorem take_snoc (l : Str) (m : Nat) (h : m < l.length) : l.take (m + 1) = l.take m ++ [l.getD m 0] := by
  rw [List.take_succ_eq_append_getElem h, List.getD_eq_getElem?_getD, List.getElem?_eq_getElem h]; rfl
end Go.Eng
namespace Go.Eng
open Go.IntWalk
theorem law29_awake.goal : law29_awake.F = some [.b true] := by
  refine law29_awake.F_in ?_
  intro v1 e1 v2 e2 v3 e3 v4 e4 v5 e5 v6 e6 v7 e7 v8 e8
  have c2 : v2 = 0 := by rw [e2]; decide +kernel
  have c1 : v1 = [208, 223] := by rw [e1]; decide +kernel
  have c5 : v5 = 3 := by rw [e5, e3]; decide +kernel
  have c7 : v7 = 0 := by rw [e7, e3]; decide +kernel
  simp only [Bool.not_or_self, ck_true]
  rw [ck_of (by decide +kernel), ck_of (by rw [e3]; rfl), e8, e6, e4, c2, c1, c5, c7]
  rfl
theorem Itm.sames_len : ∀ (a b : List Itm), a.length ≠ b.length → Itm.sames a b = false
  | [], [], h => (h rfl).elim
  | [], _ :: _, _ => by rw [Itm.sames]
  | _ :: _, [], _ => by rw [Itm.sames]
  | k :: r, k' :: r', h => by rw [Itm.sames, Itm.sames_len r r' (fun e => h (by simp [e])), Bool.and_false]
theorem ref28_Same.l1_ok (n : Nat) (a b : Itv) (hb : Itm.bulks a.kids ≤ 1099511627776) (hn : Itm.bulks a.kids < n) (hl : a.kids.length = b.kids.length) : ∀ (m i : Nat), i + m = a.kids.length → ref28_Same.l1 n i a b = some [.b (Itm.sames (a.kids.drop i) (b.kids.drop i))] := by
  have hk := Itm.bulk_kids a.kids
  intro m
  induction m with
  | zero =>
    intro i hi
    refine ref28_Same.l1_in _ _ _ _ ?_
    intro v1 e1 v2 e2 v3 e3
    rw [decide_eq_false (by omega), cond_false, List.drop_of_length_le (by omega), List.drop_of_length_le (by omega), Itm.sames]
  | succ m ih =>
    intro i hi
    refine ref28_Same.l1_in _ _ _ _ ?_
    intro v1 e1 v2 e2 v3 e3
    have hi' : i < a.kids.length := by omega
    have hi2 : i < b.kids.length := by omega
    have hb' := Itm.bulks_at a.kids i hi'
    rw [Int.toNat_natCast, Itm.of_val, Itm.of_val] at e2
    rw [decide_eq_true (by omega), cond_true, ck_of (idx_ok (by omega) (by omega)), ck_of (idx_ok (by omega) (by omega)), Int.toNat_natCast, Itm.of_val, ck_of (by rw [decide_eq_true (by omega), decide_eq_true (by omega)]; rfl), drop_cons hi' (STy.dflt .il), drop_cons hi2 (STy.dflt .il), Itm.sames, ← e2]
    cases v2 with
    | false => rfl
    | true => rw [Bool.not_true, cond_false, Bool.true_and, show v3 = ((i + 1 : Nat) : Int) by rw [e3, i64_in _ (by omega)]; omega, ih _ (by omega)]
theorem ref28_Same.goal (n : Nat) (a b : Itv) (hp : ((decide (Itm.bulk (Itm.of a) ≤ 1099511627776)) && decide ((Itm.bulk (Itm.of a)) < n + 1)) = true) : ref28_Same.F n a b = some [.b (Itm.same (Itm.of a) (Itm.of b))] := by
  simp only [Bool.and_eq_true, decide_eq_true_eq] at hp
  obtain ⟨h, hn⟩ := hp
  rw [Itm.bulk_of] at h hn
  refine ref28_Same.F_in _ _ _ ?_
  intro v1 e1 v2 e2 v3 e3 v4 e4 v5 e5 v6 e6 v7 e7
  have c1 : ((!decide (a.kind = b.kind)) || v1) = true := by rw [e1]; cases decide (a.kind = b.kind) <;> rfl
  simp only [Bool.not_or_self, Bool.or_not_self, Bool.and_self, ck_true, c1]
  rw [e7, e4, e3, e2, e5, e6]
  simp only [Itm.of, Itm.same]
  by_cases a1 : a.kind = b.kind
  · by_cases a2 : a.n = b.n
    · by_cases a3 : a.text = b.text
      · by_cases a4 : a.bytes = b.bytes
        · by_cases a5 : a.kids.length = b.kids.length
          · have hl := ref28_Same.l1_ok n a b (by omega) (by omega) a5 a.kids.length 0 (by omega)
            rw [decide_eq_true a1, decide_eq_true a2, decide_eq_true a3, decide_eq_true a4, decide_eq_true (show (a.kids.length : Int) = b.kids.length by omega)]
            simpa using hl
          · rw [decide_eq_false (show ¬ (a.kids.length : Int) = b.kids.length by omega), Itm.sames_len _ _ a5]
            simp [a1, a2, a3, a4]
        · simp [a4]
      · simp [a3]
    · simp [a2]
  · simp [a1]
mutual
theorem Itm.nest_le : ∀ (a : Itm), Itm.nest a ≤ Itm.bulk a
  | .mk k n b t ks => by have := Itm.nests_le ks; simp only [Itm.nest, Itm.bulk]; omega
theorem Itm.nests_le : ∀ (l : List Itm), Itm.nests l ≤ Itm.bulks l
  | [] => Nat.le_refl _
  | k :: r => by have := Itm.nest_le k; have := Itm.nests_le r; simp only [Itm.nests, Itm.bulks]; omega
end
theorem law29_nest.l1_ok (n : Nat) (it : Itv) (hb : Itm.bulks it.kids ≤ 1099511627776) (hn : Itm.bulks it.kids < n) : ∀ (m i : Nat) (x : Nat), i + m = it.kids.length → x ≤ 1099511627776 → law29_nest.l1 n x i it = some [.i .i64 ((max x (Itm.nests (it.kids.drop i)) + 1 : Nat) : Int)] := by
  have hk := Itm.bulk_kids it.kids
  intro m
  induction m with
  | zero =>
    intro i x hi hx
    refine law29_nest.l1_in _ _ _ _ ?_
    intro v1 e1 v2 e2 v3 e3 v4 e4
    rw [decide_eq_false (by omega), cond_false, List.drop_of_length_le (by omega), e4, i64_in _ (by omega), show Itm.nests [] = 0 from rfl, Nat.max_zero]; rfl
  | succ m ih =>
    intro i x hi hx
    refine law29_nest.l1_in _ _ _ _ ?_
    intro v1 e1 v2 e2 v3 e3 v4 e4
    have hi' : i < it.kids.length := by omega
    have hb' := Itm.bulks_at it.kids i hi'
    have hne := Itm.nest_le (it.kids.getD i (STy.dflt .il))
    rw [Int.toNat_natCast, Itm.of_val] at e2
    rw [decide_eq_true (by omega), cond_true, ck_of (idx_ok (by omega) (by omega)), Int.toNat_natCast, Itm.of_val, ck_of (by rw [decide_eq_true (by omega), decide_eq_true (by omega)]; rfl), maxI_max, e2, show max (x : Int) (Itm.nest (it.kids.getD i (STy.dflt .il)) : Int) = ((max x (Itm.nest (it.kids.getD i (STy.dflt .il))) : Nat) : Int) by omega, show v3 = ((i + 1 : Nat) : Int) by rw [e3, i64_in _ (by omega)]; omega, ih _ _ (by omega) (by omega), drop_cons hi' (STy.dflt .il), Itm.nests, Nat.max_assoc]
theorem law29_nest.goal (n : Nat) (it : Itv) (hp : ((decide (Itm.bulk (Itm.of it) ≤ 1099511627776)) && decide ((Itm.bulk (Itm.of it)) < n + 1)) = true) : law29_nest.F n it = some [.i .i64 (Itm.nest (Itm.of it) : Int)] := by
  simp only [Bool.and_eq_true, decide_eq_true_eq] at hp
  obtain ⟨h, hn⟩ := hp
  rw [Itm.bulk_of] at h hn
  rw [law29_nest.F_eq]
  have := law29_nest.l1_ok n it (by omega) (by omega) it.kids.length 0 0 (by omega) (by omega)
  rw [show Itm.nest (Itm.of it) = Itm.nests it.kids + 1 by rw [Itm.of, Itm.nest]]
  rw [show max 0 (Itm.nests (it.kids.drop 0)) = Itm.nests it.kids by rw [List.drop_zero]; omega] at this
  exact this
theorem Itm.bulks_append : ∀ (a b : List Itm), Itm.bulks (a ++ b) = Itm.bulks a + Itm.bulks b
  | [], b => by simp [Itm.bulks]
  | k :: r, b => by rw [List.cons_append, Itm.bulks, Itm.bulks, Itm.bulks_append r b]; omega
theorem Mp.kids_bulk (b : Str) (f : Int → Mp.Got) (hp : ∀ q : Int, 0 ≤ q → q ≤ b.length → q ≤ (f q).pos ∧ (f q).pos ≤ b.length ∧ ((f q).err = 0 → q < (f q).pos)) (hf : ∀ q : Int, 0 ≤ q → q ≤ b.length → (f q).err = 0 → (Itm.bulk (f q).it : Int) ≤ (f q).pos - q) : ∀ (n : Nat) (it : Itm) (q : Int), 0 ≤ q → q ≤ b.length → (Mp.kids f it n q).err = 0 →
    (Itm.bulk (Mp.kids f it n q).it : Int) ≤ Itm.bulk it + ((Mp.kids f it n q).pos - q) := by
  intro n
  induction n with
  | zero => intro it q _ _ _; simp only [Mp.kids]; omega
  | succ n ih =>
    intro it q h0 h1 he
    rw [Mp.kids] at he ⊢
    by_cases a : (f q).err = 0
    · rw [if_neg (fun h => h a)] at he ⊢
      obtain ⟨p1, p2, p3⟩ := hp q h0 h1
      have h2 := hf q h0 h1 a
      have h3 := ih _ _ (by omega) p2 he
      have h4 : Itm.bulk (.mk it.kind it.n it.bytes it.text (it.kids ++ [(f q).it])) = Itm.bulk it + Itm.bulk (f q).it := by
        cases it
        simp only [Itm.bulk, Itm.kind, Itm.n, Itm.bytes, Itm.text, Itm.kids, Itm.bulks_append, Itm.bulks]; omega
      rw [h4] at h3; omega
    · rw [if_pos a] at he; exact (a he).elim
theorem Mp.end_bulk (b : Str) (sub : Int → Mp.Got) (hp : ∀ q : Int, 0 ≤ q → q ≤ b.length → q ≤ (sub q).pos ∧ (sub q).pos ≤ b.length ∧ ((sub q).err = 0 → q < (sub q).pos)) (hf : ∀ q : Int, 0 ≤ q → q ≤ b.length → (sub q).err = 0 → (Itm.bulk (sub q).it : Int) ≤ (sub q).pos - q) (p c k : Int) (n : UInt64) (long : Int) (t : UInt64) (q : Int) (h0 : 0 ≤ q) (h1 : q ≤ b.length) :
    (Mp.readEnd b sub p c k n long t q).err = 0 → (Itm.bulk (Mp.readEnd b sub p c k n long t q).it : Int) ≤ 1 + ((Mp.readEnd b sub p c k n long t q).pos - q) := by
  have num : ∀ (k : Int) (n : UInt64) (f : Int), (Mp.num (.mk k n [] [] []) p c f q).err = 0 → (Itm.bulk (Mp.num (.mk k n [] [] []) p c f q).it : Int) ≤ 1 + ((Mp.num (.mk k n [] [] []) p c f q).pos - q) := by
    intro k n f h
    unfold Mp.num at h ⊢
    by_cases a : f = c
    · rw [if_neg (fun h => h a)]; simp [Itm.bulk, Itm.bulks]
    · rw [if_pos a] at h; cases h
  have row : ∀ (k : Int) (t : UInt64) (m : Nat), (Mp.row b (.mk k t [] [] []) p q m).err = 0 → (Itm.bulk (Mp.row b (.mk k t [] [] []) p q m).it : Int) ≤ 1 + ((Mp.row b (.mk k t [] [] []) p q m).pos - q) := by
    intro k t m h
    unfold Mp.row at h ⊢
    by_cases a : (m : Int) < 0 ∨ (b.length : Int) - q < m
    · rw [if_pos a] at h; cases h
    rw [if_neg a] at h ⊢
    have hl : ((b.drop q.toNat).take (m : Int).toNat).length ≤ m := by rw [List.length_take]; omega
    by_cases a4 : (Itm.mk k t [] [] []).kind ≠ 4
    · rw [if_pos a4]
      simp only [Itm.bulk, Itm.kids, Itm.text, Itm.bulks, List.length_nil]; omega
    · rw [if_neg a4] at h ⊢
      by_cases a5 : Utf.whole ((b.drop q.toNat).take (m : Int).toNat) = true
      · rw [if_pos a5]
        simp only [Itm.bulk, Itm.kids, Itm.bytes, Itm.bulks, List.length_nil]; omega
      · rw [if_neg a5] at h; cases h
  unfold Mp.readEnd
  repeat' split
  all_goals intro h
  all_goals first
    | exact num _ _ _ h
    | exact row _ _ _ h
    | (have := Mp.kids_bulk b sub hp hf _ _ q h0 h1 h; simp only [Itm.bulk, Itm.bulks, List.length_nil] at this; omega)
    | (simp only [Itm.bulk, Itm.bulks, List.length_nil]; omega)
    | cases h
theorem Mp.read_bulk (b : Str) : ∀ (d : Nat) (p : Int), 0 ≤ p → p ≤ b.length → (Mp.read b d p).err = 0 → (Itm.bulk (Mp.read b d p).it : Int) ≤ (Mp.read b d p).pos - p := by
  intro d
  induction d with
  | zero => intro p _ _ h; cases h
  | succ d ih =>
    intro p h0 h1
    rw [Mp.read]
    by_cases g1 : (b.length : Int) ≤ p
    · rw [if_pos g1]; intro h; cases h
    rw [if_neg g1]
    have hc := Mp.first_kinds ((b.getD p.toNat 0).toNat : Int) ⟨by omega, by have := (b.getD p.toNat 0).toNat_lt; omega⟩
    generalize Mp.first ((b.getD p.toNat 0).toNat : Int) = F at hc
    obtain ⟨k, n0, long⟩ := F
    simp only at hc ⊢
    obtain ⟨_, hl, _⟩ := hc
    unfold Mp.readAt
    by_cases g2 : k = 0
    · rw [if_pos g2]; intro h; cases h
    rw [if_neg g2]
    by_cases g3 : (b.length : Int) - (p + 1) < long
    · rw [if_pos g3]; intro h; cases h
    rw [if_neg g3]
    unfold Mp.readTail
    by_cases g4 : k = 10
    · rw [if_pos g4]
      by_cases g5 : (b.length : Int) - (p + 1 + long) < 1
      · rw [if_pos g5]; intro h; cases h
      rw [if_neg g5]
      intro h
      have := Mp.end_bulk b _ (Mp.read_pos b d) ih _ _ _ _ _ _ _ (by omega) (by omega) h
      omega
    · rw [if_neg g4]
      intro h
      have := Mp.end_bulk b _ (Mp.read_pos b d) ih _ _ _ _ _ _ _ (by omega) (by omega) h
      omega
theorem Mp.dec_bulk (b : Str) (depth : Int) : Itm.bulk (Mp.dec b depth).1 ≤ b.length + 1 := by
  unfold Mp.dec
  split
  · simp only [Mp.zero, Itm.bulk, Itm.bulks, List.length_nil]; omega
  simp only
  split
  · simp only [Mp.zero, Itm.bulk, Itm.bulks, List.length_nil]; omega
  split
  · simp only [Mp.zero, Itm.bulk, Itm.bulks, List.length_nil]; omega
  · rename_i a _
    have h := Mp.read_bulk b depth.toNat 0 (by omega) (by omega) (Classical.byContradiction fun h => a h)
    have := (Mp.read_pos b depth.toNat 0 (by omega) (by omega)).2.1
    show Itm.bulk (Mp.read b depth.toNat 0).it ≤ b.length + 1
    omega
theorem Mp.dec_path (b : Str) (depth : Int) : (Mp.dec b depth).2.path = [] := by
  unfold Mp.dec
  dsimp only
  repeat' split
  all_goals rfl
end Go.Eng
namespace Go.Eng
open Go.RowKit Go.Maps Go.Proofs
set_option maxRecDepth 100000
set_option maxHeartbeats 1000000
theorem wpList_insert_own {H : Type} {P : Program} (w : World) {ops : Array Oper} {rest : List Oper} {o : Oper} {a : Act} {Q : Exit → Act → World → Prop}
    (hg : o.guard = none) (m x v : Operand) (t : TypeId) (hop : o.op = Op.insert t m x v)
    (k e : TypeId) (K : Keyed P k) (ht : P.underlying t = some (.map k e)) (R : Value → Option (DataW H × List MemPlace)) (b n : Nat) (D : DataW H)
    (hm : a.eval m = .map (some b)) (hown : w.ownsMap P k R b n D) (hn : n < maxLen) (key val : Value) (kl : Lit) (hx : a.eval x = key) (hv : a.eval v = val) (hkey : keyOf P k key = some kl)
    (d : DataW H) (ps : List MemPlace) (hval : R val = some (d, ps))
    (hK : ∀ w', w'.ownsMap P k R b (n + 1) (D.put kl d) → w.grownBy w' (some b) → wpList P ops Q rest (a.put o.dst undef) w') :
    wpList P ops Q (o :: rest) a w := by
  refine wpList_plain hg fun K' hK' => ?_
  obtain ⟨w', hrun, r1, r2⟩ := hown.update K ht hn hkey hval
  unfold Oper.wp
  simp [execOp, hop, hm, hx, hv, hrun, Result.andThen]
  exact hK' _ _ (hK w' r1 r2)
theorem alloc_size (w : World) (o : Obj) : (w.alloc o).heap.size = w.heap.size + 1 := Array.size_push ..
theorem sz_l3 : Keyed Try.prog 3 := int_keyed Try.underlying3
theorem sz_z3 (w : World) : (zeroValue 3).run Try.prog w = .ok (.int .i64 0) w := by kernel_rfl
structure Sz (w w' : World) : Prop where
  b : w'.heap[w.heap.size]? = some (.cells #[.int .i64 0, .int .i64 0] 67)
  o : Below w.heap.size w w'
  s : w.heap.size + 1 ≤ w'.heap.size
theorem Sz.c0 {w w' : World} (h : Sz w w') : w'.cell? ⟨w.heap.size, 0, none⟩ = some (.int .i64 0) := by simp [World.cell?, h.b]
theorem Sz.c1 {w w' : World} (h : Sz w w') : w'.cell? ⟨w.heap.size, 1, none⟩ = some (.int .i64 0) := by simp [World.cell?, h.b]
theorem Sz.f {w w' : World} (h : Sz w w') (i : Nat) : w'.frozen? ⟨w.heap.size, i, none⟩ = false := by simp [World.frozen?, h.b]
theorem sz_start (w : World) : Sz w ((w.alloc (.cells #[.int .i64 0, .int .i64 0] 67)).alloc (.map #[] 0)) := by
  refine ⟨?_, ((Below.refl _ _).alloc (Nat.le_refl _) _).alloc (by rw [alloc_size]; omega) _, by rw [alloc_size, alloc_size]; omega⟩
  rw [Below.heap_alloc _ _ _ (by rw [alloc_size]; omega)]
  exact Array.getElem?_push_size
theorem sz_step {w w1 w2 : World} (h : Sz w w1) (hg : w1.grownBy w2 (some (w.heap.size + 1))) : Sz w w2 :=
  ⟨(hg.block _ (by have := h.s; omega) (by simp)).trans h.b, h.o.grown hg (by have := h.s; omega) (fun k e => by cases e; omega), Nat.le_trans h.s hg.size⟩
theorem sz_p (n : Int) (h : (Lit.int .i64 n).wf = true) : plainElem (H := Unit) Try.prog 3 (.int .i64 n) = some (.lit (.int .i64 n), []) := plainElem_int Try.underlying3 h
theorem sz_made (w : World) (o : Obj) : ((w.alloc o).alloc (.map #[] 0)).ownsMap Try.prog 3 (plainElem (H := Unit) Try.prog 3) (w.heap.size + 1) 0 (.map []) := by
  have := World.ownsMap_made (H := Unit) (w.alloc o) Try.prog 3 (plainElem Try.prog 3)
  rw [alloc_size] at this; exact this
theorem sz_res (tmps : Array Value) (W : World) (B : Nat) (x y : Int) (ht : tmps[4]?.getD undef = .pointer (some ⟨B,0,none⟩)) (hb : W.heap[B]? = some (.cells #[.int .i64 x, .int .i64 y] 67)) : (results Try.f41 tmps).run Try.prog W = .ok (.agg #[.int .i64 x, .int .i64 y]) W := by
  have c0 : W.cell? ⟨B, 0, none⟩ = some (.int .i64 x) := by simp [World.cell?, hb]
  have c1 : W.cell? ⟨B, 1, none⟩ = some (.int .i64 y) := by simp [World.cell?, hb]
  simp [results, Try.results41, go_sem, ht, c0, c1]
theorem sz_set {w3 : World} {B : Nat} {x y : Int} (hb : w3.heap[B]? = some (.cells #[.int .i64 0, .int .i64 0] 67)) : ((w3.setCell ⟨B, 0, none⟩ (.int .i64 x)).setCell ⟨B, 1, none⟩ (.int .i64 y)).heap[B]? = some (.cells #[.int .i64 x, .int .i64 y] 67) := by
  simp [World.setCell, Array.getElem?_modify, hb]
theorem sz_fin {a : Act} {Q : Ending → World → Prop} {W : World} {B : Nat} {x y : Int} (ht : a.tmps[4]?.getD undef = .pointer (some ⟨B, 0, none⟩)) (hd : a.defers = []) (hb : W.heap[B]? = some (.cells #[.int .i64 x, .int .i64 y] 67)) (hQ : Q (.returned (.agg #[.int .i64 x, .int .i64 y])) W) : bodyPost Try.prog Try.f41 Q .ret a W :=
  bodyPost_ret (sz_res a.tmps W B x y ht hb) hd hQ
theorem sz_one (w : World) (o : Obj) : (w.alloc o).heap[w.heap.size]? = some o := Array.getElem?_push_size
theorem sz_eq {a b : Int} {p : Int × Int} (h : (a, b) = p) : Ending.returned (.agg #[.int .i64 a, .int .i64 b]) = .returned (.agg #[.int .i64 p.1, .int .i64 p.2]) := by cases h; rfl
theorem sz_wrap {n : Int} (h0 : 0 ≤ n) (h1 : n < 4294967296) : wrap64 n = n := by simp only [wrap64]; omega
theorem szt0 {n : Int} (h : n < 32) : (160 + n, 0) = Mp.sized 4 n := by simp [Mp.sized, Mp.fixed, Mp.fix, Mp.tab, Mp.base]; omega
theorem szt1 {n : Int} (h : 32 ≤ n) (h2 : n < 256) : (217, 1) = Mp.sized 4 n := by simp [Mp.sized, Mp.fixed, Mp.fix, Mp.tab, Mp.base]; rw [if_neg (by omega), if_pos h2]
theorem szt2 {n : Int} (h : 256 ≤ n) (h2 : n < 65536) : (218, 2) = Mp.sized 4 n := by simp [Mp.sized, Mp.fixed, Mp.fix, Mp.tab, Mp.base]; rw [if_neg (by omega), if_neg (by omega), if_pos h2]
theorem szt3 {n : Int} (h : 65536 ≤ n) : (219, 4) = Mp.sized 4 n := by simp [Mp.sized, Mp.fixed, Mp.fix, Mp.tab, Mp.base]; rw [if_neg (by omega), if_neg (by omega), if_neg (by omega)]
theorem szb1 {n : Int} (h0 : 0 ≤ n) (h2 : n < 256) : (196, 1) = Mp.sized 3 n := by simp [Mp.sized, Mp.fixed, Mp.fix, Mp.tab, Mp.base]; rw [if_neg (by omega), if_pos h2]
theorem szb2 {n : Int} (h : 256 ≤ n) (h2 : n < 65536) : (197, 2) = Mp.sized 3 n := by simp [Mp.sized, Mp.fixed, Mp.fix, Mp.tab, Mp.base]; rw [if_neg (by omega), if_neg (by omega), if_pos h2]
theorem szb3 {n : Int} (h : 65536 ≤ n) : (198, 4) = Mp.sized 3 n := by simp [Mp.sized, Mp.fixed, Mp.fix, Mp.tab, Mp.base]; rw [if_neg (by omega), if_neg (by omega), if_neg (by omega)]
theorem sze1 {n : Int} (h : (n == 1) = true) : (212, 0) = Mp.sized 10 n := by rw [beq_iff_eq] at h; subst h; rfl
theorem sze2 {n : Int} (h : (n == 2) = true) : (213, 0) = Mp.sized 10 n := by rw [beq_iff_eq] at h; subst h; rfl
theorem sze4 {n : Int} (h : (n == 4) = true) : (214, 0) = Mp.sized 10 n := by rw [beq_iff_eq] at h; subst h; rfl
theorem sze8 {n : Int} (h : (n == 8) = true) : (215, 0) = Mp.sized 10 n := by rw [beq_iff_eq] at h; subst h; rfl
theorem sze16 {n : Int} (h : (n == 16) = true) : (216, 0) = Mp.sized 10 n := by rw [beq_iff_eq] at h; subst h; rfl
theorem szen {n a b : Int} (h0 : 0 ≤ n) (h1 : (n == 1) = false) (h2 : (n == 2) = false) (h3 : (n == 4) = false) (h4 : (n == 8) = false) (h5 : (n == 16) = false) (h : (n < 256 ∧ a = 199 ∧ b = 1) ∨ (256 ≤ n ∧ n < 65536 ∧ a = 200 ∧ b = 2) ∨ (65536 ≤ n ∧ a = 201 ∧ b = 4)) : (a, b) = Mp.sized 10 n := by
  simp at h1 h2 h3 h4 h5
  simp [Mp.sized, Mp.fixed, Mp.fix, Mp.tab, Mp.base, h1, h2, h3, h4, h5]
  rw [if_neg (by omega)]
  rcases h with ⟨h, rfl, rfl⟩ | ⟨h, h', rfl, rfl⟩ | ⟨h, rfl, rfl⟩
  · rw [if_pos h]
  · rw [if_neg (by omega), if_pos h']
  · rw [if_neg (by omega), if_neg (by omega)]
theorem szl50 {n : Int} (h : n < 16) : (144 + n, 0) = Mp.sized 5 n := by simp [Mp.sized, Mp.fixed, Mp.fix, Mp.tab, Mp.base]; omega
theorem szl51 {n : Int} (h : 16 ≤ n) (h2 : n < 65536) : (220, 2) = Mp.sized 5 n := by simp [Mp.sized, Mp.fixed, Mp.fix, Mp.tab, Mp.base]; rw [if_neg (by omega), if_pos h2]
theorem szl52 {n : Int} (h : 65536 ≤ n) : (221, 4) = Mp.sized 5 n := by simp [Mp.sized, Mp.fixed, Mp.fix, Mp.tab, Mp.base]; rw [if_neg (by omega), if_neg (by omega)]
theorem szl60 {n : Int} (h : n < 16) : (128 + n, 0) = Mp.sized 6 n := by simp [Mp.sized, Mp.fixed, Mp.fix, Mp.tab, Mp.base]; omega
theorem szl61 {n : Int} (h : 16 ≤ n) (h2 : n < 65536) : (222, 2) = Mp.sized 6 n := by simp [Mp.sized, Mp.fixed, Mp.fix, Mp.tab, Mp.base]; rw [if_neg (by omega), if_pos h2]
theorem szl62 {n : Int} (h : 65536 ≤ n) : (223, 4) = Mp.sized 6 n := by simp [Mp.sized, Mp.fixed, Mp.fix, Mp.tab, Mp.base]; rw [if_neg (by omega), if_neg (by omega)]
theorem sz_c4 {c : Int} (hat : ((((DataW.map []).put (Lit.int .i64 4) (DataW.lit (H := Unit) (Lit.int .i64 160))).put (Lit.int .i64 5) (DataW.lit (Lit.int .i64 144))).put (Lit.int .i64 6) (DataW.lit (Lit.int .i64 128))).atKey (Lit.int .i64 4) (DataW.lit (Lit.int .i64 0)) = DataW.lit (Lit.int .i64 c)) : c = 160 := by
  have e : ((((DataW.map []).put (Lit.int .i64 4) (DataW.lit (H := Unit) (Lit.int .i64 160))).put (Lit.int .i64 5) (DataW.lit (Lit.int .i64 144))).put (Lit.int .i64 6) (DataW.lit (Lit.int .i64 128))).atKey (Lit.int .i64 4) (DataW.lit (Lit.int .i64 0)) = DataW.lit (Lit.int .i64 160) := rfl
  rw [e] at hat; cases hat; rfl
theorem sz_c5 {c : Int} (hat : ((((DataW.map []).put (Lit.int .i64 4) (DataW.lit (H := Unit) (Lit.int .i64 160))).put (Lit.int .i64 5) (DataW.lit (Lit.int .i64 144))).put (Lit.int .i64 6) (DataW.lit (Lit.int .i64 128))).atKey (Lit.int .i64 5) (DataW.lit (Lit.int .i64 0)) = DataW.lit (Lit.int .i64 c)) : c = 144 := by
  have e : ((((DataW.map []).put (Lit.int .i64 4) (DataW.lit (H := Unit) (Lit.int .i64 160))).put (Lit.int .i64 5) (DataW.lit (Lit.int .i64 144))).put (Lit.int .i64 6) (DataW.lit (Lit.int .i64 128))).atKey (Lit.int .i64 5) (DataW.lit (Lit.int .i64 0)) = DataW.lit (Lit.int .i64 144) := rfl
  rw [e] at hat; cases hat; rfl
theorem sz_c6 {c : Int} (hat : ((((DataW.map []).put (Lit.int .i64 4) (DataW.lit (H := Unit) (Lit.int .i64 160))).put (Lit.int .i64 5) (DataW.lit (Lit.int .i64 144))).put (Lit.int .i64 6) (DataW.lit (Lit.int .i64 128))).atKey (Lit.int .i64 6) (DataW.lit (Lit.int .i64 0)) = DataW.lit (Lit.int .i64 c)) : c = 128 := by
  have e : ((((DataW.map []).put (Lit.int .i64 4) (DataW.lit (H := Unit) (Lit.int .i64 160))).put (Lit.int .i64 5) (DataW.lit (Lit.int .i64 144))).put (Lit.int .i64 6) (DataW.lit (Lit.int .i64 128))).atKey (Lit.int .i64 6) (DataW.lit (Lit.int .i64 0)) = DataW.lit (Lit.int .i64 128) := rfl
  rw [e] at hat; cases hat; rfl
theorem sz_text (n : Int) (hn0 : 0 ≤ n) (hn1 : n < 4294967296) (w : World) : Calls Try.prog 41 #[.int .i64 4, .int .i64 n] w fun e w' => e = .returned (.agg #[.int .i64 (Mp.sized 4 n).1, .int .i64 (Mp.sized 4 n).2]) ∧ Below w.heap.size w w' := by
  have hmm := @run_makeMap Try.prog
  go_enter Try.func41, Try.ntmps41
  go_wp2_with (first
      | (refine wpList_insert_own _ rfl (.tmp 34) (.const (.int .i64 4)) (.const (.int .i64 160)) 93 rfl 3 3 sz_l3 Try.underlying93 (plainElem (H := Unit) Try.prog 3) ?hb1 0 ?hD1 ?hm1 ?ho1 ?hn1 (.int .i64 4) (.int .i64 160) (.int .i64 4) ?hx1 ?hv1 ?hk1 (.lit (.int .i64 160)) [] ?hp1 ?hK1
         case hm1 => rfl
         case ho1 => exact sz_made w _
         case hn1 => unfold maxLen; omega
         case hx1 => rfl
         case hv1 => rfl
         case hk1 => exact keyOf_int_mk Try.underlying3 (by decide)
         case hp1 => exact sz_p _ (by decide)
         intro w1 ho1 hg1
         have hz1 := sz_step (sz_start w) hg1)
      | (refine wpList_insert_own _ rfl (.tmp 34) (.const (.int .i64 5)) (.const (.int .i64 144)) 93 rfl 3 3 sz_l3 Try.underlying93 (plainElem (H := Unit) Try.prog 3) ?hb2 1 ?hD2 ?hm2 ?ho2 ?hn2 (.int .i64 5) (.int .i64 144) (.int .i64 5) ?hx2 ?hv2 ?hk2 (.lit (.int .i64 144)) [] ?hp2 ?hK2
         case hm2 => rfl
         case ho2 => exact ho1
         case hn2 => unfold maxLen; omega
         case hx2 => rfl
         case hv2 => rfl
         case hk2 => exact keyOf_int_mk Try.underlying3 (by decide)
         case hp2 => exact sz_p _ (by decide)
         intro w2 ho2 hg2
         have hz2 := sz_step hz1 hg2)
      | (refine wpList_insert_own _ rfl (.tmp 34) (.const (.int .i64 6)) (.const (.int .i64 128)) 93 rfl 3 3 sz_l3 Try.underlying93 (plainElem (H := Unit) Try.prog 3) ?hb3 2 ?hD3 ?hm3 ?ho3 ?hn3 (.int .i64 6) (.int .i64 128) (.int .i64 6) ?hx3 ?hv3 ?hk3 (.lit (.int .i64 128)) [] ?hp3 ?hK3
         case hm3 => rfl
         case ho3 => exact ho2
         case hn3 => unfold maxLen; omega
         case hx3 => rfl
         case hv3 => rfl
         case hk3 => exact keyOf_int_mk Try.underlying3 (by decide)
         case hp3 => exact sz_p _ (by decide)
         intro w3 ho3 hg3
         have hz3 := sz_step hz2 hg3
         have c0 := hz3.c0
         have c1 := hz3.c1
         have f0 := hz3.f 0
         have f1 := hz3.f 1)
      | (at_lookup
         refine wpList_lookup_own_int (H := Unit) _ rfl (.tmp 35) (.tmp 36) 93 rfl 3 3 .i64 sz_l3 Try.underlying93 Try.underlying3 (sz_z3 _) ?hb4 3 ?hD4 ?hm4 ?ho4 (.int .i64 4) (.int .i64 4) ?hx4 ?hk4 ?hK4
         case hk4 => exact keyOf_int_mk Try.underlying3 (by decide)
         case hm4 => rfl
         case ho4 => exact ho3
         case hx4 => rfl
         intro c hat hwc)
      | go_in)
  all_goals clear hmm
  all_goals first | refine sz_fin rfl rfl (sz_one _ _) ⟨?_, (Below.refl _ _).alloc (Nat.le_refl _) _⟩ | refine sz_fin rfl rfl (sz_set hz3.b) ⟨?_, (hz3.o.setCell (Nat.le_refl _) _).setCell (Nat.le_refl _) _⟩
  · have hc : c = 160 := sz_c4 hat
    subst hc
    rw [sz_wrap (by omega) (by omega)]
    exact sz_eq (szt0 (by omega))
  · exact sz_eq (szt1 (by omega) (by omega))
  · exact sz_eq (szt2 (by omega) (by omega))
  · exact sz_eq (szt3 (by omega))
theorem sz_ext (n : Int) (hn0 : 0 ≤ n) (hn1 : n < 4294967296) (w : World) : Calls Try.prog 41 #[.int .i64 10, .int .i64 n] w fun e w' => e = .returned (.agg #[.int .i64 (Mp.sized 10 n).1, .int .i64 (Mp.sized 10 n).2]) ∧ Below w.heap.size w w' := by
  have hmm := @run_makeMap Try.prog
  go_enter Try.func41, Try.ntmps41
  go_wp2_with (first
      | (refine wpList_insert_own _ rfl (.tmp 34) (.const (.int .i64 4)) (.const (.int .i64 160)) 93 rfl 3 3 sz_l3 Try.underlying93 (plainElem (H := Unit) Try.prog 3) ?hb1 0 ?hD1 ?hm1 ?ho1 ?hn1 (.int .i64 4) (.int .i64 160) (.int .i64 4) ?hx1 ?hv1 ?hk1 (.lit (.int .i64 160)) [] ?hp1 ?hK1
         case hm1 => rfl
         case ho1 => exact sz_made w _
         case hn1 => unfold maxLen; omega
         case hx1 => rfl
         case hv1 => rfl
         case hk1 => exact keyOf_int_mk Try.underlying3 (by decide)
         case hp1 => exact sz_p _ (by decide)
         intro w1 ho1 hg1
         have hz1 := sz_step (sz_start w) hg1)
      | (refine wpList_insert_own _ rfl (.tmp 34) (.const (.int .i64 5)) (.const (.int .i64 144)) 93 rfl 3 3 sz_l3 Try.underlying93 (plainElem (H := Unit) Try.prog 3) ?hb2 1 ?hD2 ?hm2 ?ho2 ?hn2 (.int .i64 5) (.int .i64 144) (.int .i64 5) ?hx2 ?hv2 ?hk2 (.lit (.int .i64 144)) [] ?hp2 ?hK2
         case hm2 => rfl
         case ho2 => exact ho1
         case hn2 => unfold maxLen; omega
         case hx2 => rfl
         case hv2 => rfl
         case hk2 => exact keyOf_int_mk Try.underlying3 (by decide)
         case hp2 => exact sz_p _ (by decide)
         intro w2 ho2 hg2
         have hz2 := sz_step hz1 hg2)
      | (refine wpList_insert_own _ rfl (.tmp 34) (.const (.int .i64 6)) (.const (.int .i64 128)) 93 rfl 3 3 sz_l3 Try.underlying93 (plainElem (H := Unit) Try.prog 3) ?hb3 2 ?hD3 ?hm3 ?ho3 ?hn3 (.int .i64 6) (.int .i64 128) (.int .i64 6) ?hx3 ?hv3 ?hk3 (.lit (.int .i64 128)) [] ?hp3 ?hK3
         case hm3 => rfl
         case ho3 => exact ho2
         case hn3 => unfold maxLen; omega
         case hx3 => rfl
         case hv3 => rfl
         case hk3 => exact keyOf_int_mk Try.underlying3 (by decide)
         case hp3 => exact sz_p _ (by decide)
         intro w3 ho3 hg3
         have hz3 := sz_step hz2 hg3
         have c0 := hz3.c0
         have c1 := hz3.c1
         have f0 := hz3.f 0
         have f1 := hz3.f 1)
      | (at_lookup
         refine wpList_lookup_own_int (H := Unit) _ rfl (.tmp 35) (.tmp 36) 93 rfl 3 3 .i64 sz_l3 Try.underlying93 Try.underlying3 (sz_z3 _) ?hb4 3 ?hD4 ?hm4 ?ho4 (.int .i64 10) (.int .i64 10) ?hx4 ?hk4 ?hK4
         case hk4 => exact keyOf_int_mk Try.underlying3 (by decide)
         case hm4 => rfl
         case ho4 => exact ho3
         case hx4 => rfl
         intro c hat hwc)
      | go_in)
  refine wp_loop_rounds 6 ?_
  rw [rounds_succ]
  go_wp2
  all_goals try rw [rounds_succ]
  all_goals try go_wp2
  all_goals try rw [rounds_succ]
  all_goals try go_wp2
  all_goals try rw [rounds_succ]
  all_goals try go_wp2
  all_goals try rw [rounds_succ]
  all_goals try go_wp2
  all_goals try rw [rounds_succ]
  all_goals try go_wp2
  all_goals clear hmm
  all_goals first | refine sz_fin rfl rfl (sz_one _ _) ⟨?_, (Below.refl _ _).alloc (Nat.le_refl _) _⟩ | refine sz_fin rfl rfl (sz_set hz3.b) ⟨?_, (hz3.o.setCell (Nat.le_refl _) _).setCell (Nat.le_refl _) _⟩
  · exact sz_eq (sze1 ‹_›)
  · exact sz_eq (sze2 ‹_›)
  · exact sz_eq (sze4 ‹_›)
  · exact sz_eq (sze8 ‹_›)
  · exact sz_eq (sze16 ‹_›)
  · exact sz_eq (szen hn0 ‹(n == 1) = false› ‹(n == 2) = false› ‹(n == 4) = false› ‹(n == 8) = false› ‹(n == 16) = false› (by simp; omega))
  · exact sz_eq (szen hn0 ‹(n == 1) = false› ‹(n == 2) = false› ‹(n == 4) = false› ‹(n == 8) = false› ‹(n == 16) = false› (by simp; omega))
  · exact sz_eq (szen hn0 ‹(n == 1) = false› ‹(n == 2) = false› ‹(n == 4) = false› ‹(n == 8) = false› ‹(n == 16) = false› (by simp; omega))
theorem sz_bytes (n : Int) (hn0 : 0 ≤ n) (hn1 : n < 4294967296) (w : World) : Calls Try.prog 41 #[.int .i64 3, .int .i64 n] w fun e w' => e = .returned (.agg #[.int .i64 (Mp.sized 3 n).1, .int .i64 (Mp.sized 3 n).2]) ∧ Below w.heap.size w w' := by
  have hmm := @run_makeMap Try.prog
  go_enter Try.func41, Try.ntmps41
  go_wp2_with (first
      | (refine wpList_insert_own _ rfl (.tmp 34) (.const (.int .i64 4)) (.const (.int .i64 160)) 93 rfl 3 3 sz_l3 Try.underlying93 (plainElem (H := Unit) Try.prog 3) ?hb1 0 ?hD1 ?hm1 ?ho1 ?hn1 (.int .i64 4) (.int .i64 160) (.int .i64 4) ?hx1 ?hv1 ?hk1 (.lit (.int .i64 160)) [] ?hp1 ?hK1
         case hm1 => rfl
         case ho1 => exact sz_made w _
         case hn1 => unfold maxLen; omega
         case hx1 => rfl
         case hv1 => rfl
         case hk1 => exact keyOf_int_mk Try.underlying3 (by decide)
         case hp1 => exact sz_p _ (by decide)
         intro w1 ho1 hg1
         have hz1 := sz_step (sz_start w) hg1)
      | (refine wpList_insert_own _ rfl (.tmp 34) (.const (.int .i64 5)) (.const (.int .i64 144)) 93 rfl 3 3 sz_l3 Try.underlying93 (plainElem (H := Unit) Try.prog 3) ?hb2 1 ?hD2 ?hm2 ?ho2 ?hn2 (.int .i64 5) (.int .i64 144) (.int .i64 5) ?hx2 ?hv2 ?hk2 (.lit (.int .i64 144)) [] ?hp2 ?hK2
         case hm2 => rfl
         case ho2 => exact ho1
         case hn2 => unfold maxLen; omega
         case hx2 => rfl
         case hv2 => rfl
         case hk2 => exact keyOf_int_mk Try.underlying3 (by decide)
         case hp2 => exact sz_p _ (by decide)
         intro w2 ho2 hg2
         have hz2 := sz_step hz1 hg2)
      | (refine wpList_insert_own _ rfl (.tmp 34) (.const (.int .i64 6)) (.const (.int .i64 128)) 93 rfl 3 3 sz_l3 Try.underlying93 (plainElem (H := Unit) Try.prog 3) ?hb3 2 ?hD3 ?hm3 ?ho3 ?hn3 (.int .i64 6) (.int .i64 128) (.int .i64 6) ?hx3 ?hv3 ?hk3 (.lit (.int .i64 128)) [] ?hp3 ?hK3
         case hm3 => rfl
         case ho3 => exact ho2
         case hn3 => unfold maxLen; omega
         case hx3 => rfl
         case hv3 => rfl
         case hk3 => exact keyOf_int_mk Try.underlying3 (by decide)
         case hp3 => exact sz_p _ (by decide)
         intro w3 ho3 hg3
         have hz3 := sz_step hz2 hg3
         have c0 := hz3.c0
         have c1 := hz3.c1
         have f0 := hz3.f 0
         have f1 := hz3.f 1)
      | (at_lookup
         refine wpList_lookup_own_int (H := Unit) _ rfl (.tmp 35) (.tmp 36) 93 rfl 3 3 .i64 sz_l3 Try.underlying93 Try.underlying3 (sz_z3 _) ?hb4 3 ?hD4 ?hm4 ?ho4 (.int .i64 3) (.int .i64 3) ?hx4 ?hk4 ?hK4
         case hk4 => exact keyOf_int_mk Try.underlying3 (by decide)
         case hm4 => rfl
         case ho4 => exact ho3
         case hx4 => rfl
         intro c hat hwc)
      | go_in)
  all_goals clear hmm
  all_goals first | refine sz_fin rfl rfl (sz_one _ _) ⟨?_, (Below.refl _ _).alloc (Nat.le_refl _) _⟩ | refine sz_fin rfl rfl (sz_set hz3.b) ⟨?_, (hz3.o.setCell (Nat.le_refl _) _).setCell (Nat.le_refl _) _⟩
  · exact sz_eq (szb1 (by omega) (by omega))
  · exact sz_eq (szb2 (by omega) (by omega))
  · exact sz_eq (szb3 (by omega))
theorem sz_list (n : Int) (hn0 : 0 ≤ n) (hn1 : n < 4294967296) (w : World) : Calls Try.prog 41 #[.int .i64 5, .int .i64 n] w fun e w' => e = .returned (.agg #[.int .i64 (Mp.sized 5 n).1, .int .i64 (Mp.sized 5 n).2]) ∧ Below w.heap.size w w' := by
  have hmm := @run_makeMap Try.prog
  go_enter Try.func41, Try.ntmps41
  go_wp2_with (first
      | (refine wpList_insert_own _ rfl (.tmp 34) (.const (.int .i64 4)) (.const (.int .i64 160)) 93 rfl 3 3 sz_l3 Try.underlying93 (plainElem (H := Unit) Try.prog 3) ?hb1 0 ?hD1 ?hm1 ?ho1 ?hn1 (.int .i64 4) (.int .i64 160) (.int .i64 4) ?hx1 ?hv1 ?hk1 (.lit (.int .i64 160)) [] ?hp1 ?hK1
         case hm1 => rfl
         case ho1 => exact sz_made w _
         case hn1 => unfold maxLen; omega
         case hx1 => rfl
         case hv1 => rfl
         case hk1 => exact keyOf_int_mk Try.underlying3 (by decide)
         case hp1 => exact sz_p _ (by decide)
         intro w1 ho1 hg1
         have hz1 := sz_step (sz_start w) hg1)
      | (refine wpList_insert_own _ rfl (.tmp 34) (.const (.int .i64 5)) (.const (.int .i64 144)) 93 rfl 3 3 sz_l3 Try.underlying93 (plainElem (H := Unit) Try.prog 3) ?hb2 1 ?hD2 ?hm2 ?ho2 ?hn2 (.int .i64 5) (.int .i64 144) (.int .i64 5) ?hx2 ?hv2 ?hk2 (.lit (.int .i64 144)) [] ?hp2 ?hK2
         case hm2 => rfl
         case ho2 => exact ho1
         case hn2 => unfold maxLen; omega
         case hx2 => rfl
         case hv2 => rfl
         case hk2 => exact keyOf_int_mk Try.underlying3 (by decide)
         case hp2 => exact sz_p _ (by decide)
         intro w2 ho2 hg2
         have hz2 := sz_step hz1 hg2)
      | (refine wpList_insert_own _ rfl (.tmp 34) (.const (.int .i64 6)) (.const (.int .i64 128)) 93 rfl 3 3 sz_l3 Try.underlying93 (plainElem (H := Unit) Try.prog 3) ?hb3 2 ?hD3 ?hm3 ?ho3 ?hn3 (.int .i64 6) (.int .i64 128) (.int .i64 6) ?hx3 ?hv3 ?hk3 (.lit (.int .i64 128)) [] ?hp3 ?hK3
         case hm3 => rfl
         case ho3 => exact ho2
         case hn3 => unfold maxLen; omega
         case hx3 => rfl
         case hv3 => rfl
         case hk3 => exact keyOf_int_mk Try.underlying3 (by decide)
         case hp3 => exact sz_p _ (by decide)
         intro w3 ho3 hg3
         have hz3 := sz_step hz2 hg3
         have c0 := hz3.c0
         have c1 := hz3.c1
         have f0 := hz3.f 0
         have f1 := hz3.f 1)
      | (at_lookup
         refine wpList_lookup_own_int (H := Unit) _ rfl (.tmp 35) (.tmp 36) 93 rfl 3 3 .i64 sz_l3 Try.underlying93 Try.underlying3 (sz_z3 _) ?hb4 3 ?hD4 ?hm4 ?ho4 (.int .i64 5) (.int .i64 5) ?hx4 ?hk4 ?hK4
         case hk4 => exact keyOf_int_mk Try.underlying3 (by decide)
         case hm4 => rfl
         case ho4 => exact ho3
         case hx4 => rfl
         intro c hat hwc)
      | go_in)
  all_goals clear hmm
  all_goals first | refine sz_fin rfl rfl (sz_one _ _) ⟨?_, (Below.refl _ _).alloc (Nat.le_refl _) _⟩ | refine sz_fin rfl rfl (sz_set hz3.b) ⟨?_, (hz3.o.setCell (Nat.le_refl _) _).setCell (Nat.le_refl _) _⟩
  · have hc : c = 144 := sz_c5 hat
    subst hc
    rw [sz_wrap (by omega) (by omega)]
    exact sz_eq (szl50 (by omega))
  · exact sz_eq (szl51 (by omega) (by omega))
  · exact sz_eq (szl52 (by omega))
theorem sz_map (n : Int) (hn0 : 0 ≤ n) (hn1 : n < 4294967296) (w : World) : Calls Try.prog 41 #[.int .i64 6, .int .i64 n] w fun e w' => e = .returned (.agg #[.int .i64 (Mp.sized 6 n).1, .int .i64 (Mp.sized 6 n).2]) ∧ Below w.heap.size w w' := by
  have hmm := @run_makeMap Try.prog
  go_enter Try.func41, Try.ntmps41
  go_wp2_with (first
      | (refine wpList_insert_own _ rfl (.tmp 34) (.const (.int .i64 4)) (.const (.int .i64 160)) 93 rfl 3 3 sz_l3 Try.underlying93 (plainElem (H := Unit) Try.prog 3) ?hb1 0 ?hD1 ?hm1 ?ho1 ?hn1 (.int .i64 4) (.int .i64 160) (.int .i64 4) ?hx1 ?hv1 ?hk1 (.lit (.int .i64 160)) [] ?hp1 ?hK1
         case hm1 => rfl
         case ho1 => exact sz_made w _
         case hn1 => unfold maxLen; omega
         case hx1 => rfl
         case hv1 => rfl
         case hk1 => exact keyOf_int_mk Try.underlying3 (by decide)
         case hp1 => exact sz_p _ (by decide)
         intro w1 ho1 hg1
         have hz1 := sz_step (sz_start w) hg1)
      | (refine wpList_insert_own _ rfl (.tmp 34) (.const (.int .i64 5)) (.const (.int .i64 144)) 93 rfl 3 3 sz_l3 Try.underlying93 (plainElem (H := Unit) Try.prog 3) ?hb2 1 ?hD2 ?hm2 ?ho2 ?hn2 (.int .i64 5) (.int .i64 144) (.int .i64 5) ?hx2 ?hv2 ?hk2 (.lit (.int .i64 144)) [] ?hp2 ?hK2
         case hm2 => rfl
         case ho2 => exact ho1
         case hn2 => unfold maxLen; omega
         case hx2 => rfl
         case hv2 => rfl
         case hk2 => exact keyOf_int_mk Try.underlying3 (by decide)
         case hp2 => exact sz_p _ (by decide)
         intro w2 ho2 hg2
         have hz2 := sz_step hz1 hg2)
      | (refine wpList_insert_own _ rfl (.tmp 34) (.const (.int .i64 6)) (.const (.int .i64 128)) 93 rfl 3 3 sz_l3 Try.underlying93 (plainElem (H := Unit) Try.prog 3) ?hb3 2 ?hD3 ?hm3 ?ho3 ?hn3 (.int .i64 6) (.int .i64 128) (.int .i64 6) ?hx3 ?hv3 ?hk3 (.lit (.int .i64 128)) [] ?hp3 ?hK3
         case hm3 => rfl
         case ho3 => exact ho2
         case hn3 => unfold maxLen; omega
         case hx3 => rfl
         case hv3 => rfl
         case hk3 => exact keyOf_int_mk Try.underlying3 (by decide)
         case hp3 => exact sz_p _ (by decide)
         intro w3 ho3 hg3
         have hz3 := sz_step hz2 hg3
         have c0 := hz3.c0
         have c1 := hz3.c1
         have f0 := hz3.f 0
         have f1 := hz3.f 1)
      | (at_lookup
         refine wpList_lookup_own_int (H := Unit) _ rfl (.tmp 35) (.tmp 36) 93 rfl 3 3 .i64 sz_l3 Try.underlying93 Try.underlying3 (sz_z3 _) ?hb4 3 ?hD4 ?hm4 ?ho4 (.int .i64 6) (.int .i64 6) ?hx4 ?hk4 ?hK4
         case hk4 => exact keyOf_int_mk Try.underlying3 (by decide)
         case hm4 => rfl
         case ho4 => exact ho3
         case hx4 => rfl
         intro c hat hwc)
      | go_in)
  all_goals clear hmm
  all_goals first | refine sz_fin rfl rfl (sz_one _ _) ⟨?_, (Below.refl _ _).alloc (Nat.le_refl _) _⟩ | refine sz_fin rfl rfl (sz_set hz3.b) ⟨?_, (hz3.o.setCell (Nat.le_refl _) _).setCell (Nat.le_refl _) _⟩
  · have hc : c = 128 := sz_c6 hat
    subst hc
    rw [sz_wrap (by omega) (by omega)]
    exact sz_eq (szl60 (by omega))
  · exact sz_eq (szl61 (by omega) (by omega))
  · exact sz_eq (szl62 (by omega))
theorem mp_sized.ok : SpecOK Go.Proofs.Try.prog (fun n => (noGl n).av) 41 (Ctr.fs (mp_sized.c, mp_sized.sg)) := by
  refine spec_plain fun ti to_ w R xs hc ha hR hgl => ?_
  unfold mp_sized.c at hc
  split at hc
  · rename_i k n
    obtain ⟨hp, rfl⟩ := hc
    simp only [Bool.and_eq_true, decide_eq_true_eq, Mp.sizeds] at hp
    obtain ⟨hk, h0, h1⟩ := hp
    have hxs : xs = [.int .i64 k, .int .i64 n] := by
      have hq : RepT R w [.v (.int .i64 k), .v (.int .i64 n)] xs := ha
      clear ha
      cases hq with
      | cons a1 q1 => cases q1 with
        | cons a2 q2 => cases q2; cases a1; cases a2; rfl
    subst hxs
    have fin : ∀ {S : Int × Int}, Calls Go.Proofs.Try.prog 41 #[.int .i64 k, .int .i64 n] w (fun e w' => e = .returned (.agg #[.int .i64 S.1, .int .i64 S.2]) ∧ Below w.heap.size w w') →
        Calls Go.Proofs.Try.prog 41 ⟨[.int .i64 k, .int .i64 n]⟩ w fun e w' => ∃ x, e = .returned x ∧ Below w.heap.size w w' ∧ ∀ R w', RepT R w' ([(TV.ag [.i .i64 S.1, .i .i64 S.2])].map TV.av) [x] := by
      intro S h
      refine h.mono ?_
      rintro e w' ⟨rfl, hb⟩
      exact ⟨_, rfl, hb, fun R w' => .cons (.ag (.cons rfl (.v _) (.cons rfl (.v _) .nil))) .nil⟩
    rcases hk with rfl | rfl | rfl | rfl | rfl
    · exact fin (sz_bytes n h0 h1 w)
    · exact fin (sz_text n h0 h1 w)
    · exact fin (sz_list n h0 h1 w)
    · exact fin (sz_map n h0 h1 w)
    · exact fin (sz_ext n h0 h1 w)
  · exact hc.elim
end Go.Eng
namespace Go.Eng
theorem utf_is.fit (r : Int) : ([.i .i64 r] : List TV).length = utf_is.d.np ∧ utf_is.d.run (envL noGl utf_is.env) [.i .i64 r] = some (([(.b (Utf.isRune r))] : List TV) ++ utf_is.d.ps.toList.map fun q => ([.i .i64 r] : List TV).getD q.1 .dead) :=
  ⟨by kernel_rfl, Eq.trans (b := utf_is.F r) (by kernel_rfl) (Eq.trans (utf_is.goal r) (by kernel_rfl))⟩
theorem utf_is.ok : SpecOK Go.Proofs.Try.prog (fun n => (noGl n).av) 71 (Ctr.fs (utf_is.c, utf_is.sg)) :=
  meets (l := utf_is.env) all_nil utf_is.chk (by
      intro ins outs h
      unfold utf_is.c at h
      split at h
      · cases h; exact utf_is.fit _
      · exact h.elim)
theorem utf_Rune.fit (b : List UInt8) (at_ : Int) (hp : (decide (b.length ≤ 1099511627776)) = true) : ([.sl .bs b, .i .i64 at_] : List TV).length = utf_Rune.d.np ∧ utf_Rune.d.run (envL noGl utf_Rune.env) [.sl .bs b, .i .i64 at_] = some (([(.i .i64 ((Utf.runeAt b at_).1)), (.i .i64 ((Utf.runeAt b at_).2))] : List TV) ++ utf_Rune.d.ps.toList.map fun q => ([.sl .bs b, .i .i64 at_] : List TV).getD q.1 .dead) :=
  ⟨by kernel_rfl, Eq.trans (b := utf_Rune.F b at_) (by kernel_rfl) (Eq.trans (utf_Rune.goal b at_ hp) (by kernel_rfl))⟩
theorem utf_Rune.ok : SpecOK Go.Proofs.Try.prog (fun n => (noGl n).av) 63 (Ctr.fs (utf_Rune.c, utf_Rune.sg)) :=
  meets (l := utf_Rune.env) (all_cons utf_is.ok all_nil) utf_Rune.chk (by
      intro ins outs h
      unfold utf_Rune.c at h
      split at h
      · obtain ⟨hp, rfl⟩ := h; exact utf_Rune.fit _ _ hp
      · exact h.elim)
theorem utf_look.fit (b : List UInt8) (hp : (decide (b.length ≤ 1099511627776)) = true) : ([.sl .bs b] : List TV).length = utf_look.d.np ∧ utf_look.d.run (envL noGl utf_look.env) [.sl .bs b] = some (([(.i .i64 (((Utf.look b).1 : Int))), (.i .i64 (((Utf.look b).2 : Int)))] : List TV) ++ utf_look.d.ps.toList.map fun q => ([.sl .bs b] : List TV).getD q.1 .dead) :=
  ⟨by kernel_rfl, Eq.trans (b := utf_look.F b) (by kernel_rfl) (Eq.trans (utf_look.goal b hp) (by kernel_rfl))⟩
theorem utf_look.ok : SpecOK Go.Proofs.Try.prog (fun n => (noGl n).av) 46 (Ctr.fs (utf_look.c, utf_look.sg)) :=
  meets (l := utf_look.env) (all_cons utf_Rune.ok all_nil) utf_look.chk (by
      intro ins outs h
      unfold utf_look.c at h
      split at h
      · obtain ⟨hp, rfl⟩ := h; exact utf_look.fit _ hp
      · exact h.elim)
theorem utf_Check.fit (b : List UInt8) (hp : (decide (b.length ≤ 1099511627776)) = true) : ([.sl .bs b] : List TV).length = utf_Check.d.np ∧ utf_Check.d.run (envL noGl utf_Check.env) [.sl .bs b] = some (([(.i .i64 (((Utf.look b).1 : Int))), (.b (Utf.whole b))] : List TV) ++ utf_Check.d.ps.toList.map fun q => ([.sl .bs b] : List TV).getD q.1 .dead) :=
  ⟨by kernel_rfl, Eq.trans (b := utf_Check.F b) (by kernel_rfl) (Eq.trans (utf_Check.goal b hp) (by kernel_rfl))⟩
theorem utf_Check.ok : SpecOK Go.Proofs.Try.prog (fun n => (noGl n).av) 27 (Ctr.fs (utf_Check.c, utf_Check.sg)) :=
  meets (l := utf_Check.env) (all_cons utf_look.ok all_nil) utf_Check.chk (by
      intro ins outs h
      unfold utf_Check.c at h
      split at h
      · obtain ⟨hp, rfl⟩ := h; exact utf_Check.fit _ hp
      · exact h.elim)
theorem rd_At.fit (r_b : List UInt8) (r_at : Int) : ([.ro (.ag [.sl .bs r_b, .i .i64 r_at])] : List TV).length = rd_At.d.np ∧ rd_At.d.run (envL noGl rd_At.env) [.ro (.ag [.sl .bs r_b, .i .i64 r_at])] = some (([(.i .i64 ((((Rdr.mk r_b r_at)).at_)))] : List TV) ++ rd_At.d.ps.toList.map fun q => ([.ro (.ag [.sl .bs r_b, .i .i64 r_at])] : List TV).getD q.1 .dead) :=
  ⟨by kernel_rfl, Eq.trans (b := rd_At.F (Rdr.mk r_b r_at)) (by kernel_rfl) (Eq.trans (rd_At.goal (Rdr.mk r_b r_at)) (by kernel_rfl))⟩
theorem rd_At.ok : SpecOK Go.Proofs.Try.prog (fun n => (noGl n).av) 33 (Ctr.fs (rd_At.c, rd_At.sg)) :=
  meets (l := rd_At.env) all_nil rd_At.chk (by
      intro ins outs h
      unfold rd_At.c at h
      split at h
      · cases h; exact rd_At.fit _ _
      · exact h.elim)
theorem rd_Left.fit (r_b : List UInt8) (r_at : Int) (hp : (Cur.good (Rdr.mk r_b r_at)) = true) : ([.ro (.ag [.sl .bs r_b, .i .i64 r_at])] : List TV).length = rd_Left.d.np ∧ rd_Left.d.run (envL noGl rd_Left.env) [.ro (.ag [.sl .bs r_b, .i .i64 r_at])] = some (([(.i .i64 (Cur.left (Rdr.mk r_b r_at)))] : List TV) ++ rd_Left.d.ps.toList.map fun q => ([.ro (.ag [.sl .bs r_b, .i .i64 r_at])] : List TV).getD q.1 .dead) :=
  ⟨by kernel_rfl, Eq.trans (b := rd_Left.F (Rdr.mk r_b r_at)) (by kernel_rfl) (Eq.trans (rd_Left.goal (Rdr.mk r_b r_at) hp) (by kernel_rfl))⟩
theorem rd_Left.ok : SpecOK Go.Proofs.Try.prog (fun n => (noGl n).av) 32 (Ctr.fs (rd_Left.c, rd_Left.sg)) :=
  meets (l := rd_Left.env) all_nil rd_Left.chk (by
      intro ins outs h
      unfold rd_Left.c at h
      split at h
      · obtain ⟨hp, rfl⟩ := h; exact rd_Left.fit _ _ hp
      · exact h.elim)
theorem rd_Byte.fit (r_b : List UInt8) (r_at : Int) (hp : (Cur.good (Rdr.mk r_b r_at)) = true) : ([.ag [.sl .bs r_b, .i .i64 r_at]] : List TV).length = rd_Byte.d.np ∧ rd_Byte.d.run (envL noGl rd_Byte.env) [.ag [.sl .bs r_b, .i .i64 r_at]] = some (([(.i .i64 (Cur.byte (Rdr.mk r_b r_at))), (.b (Cur.more (Rdr.mk r_b r_at))), (.ag (Rdr.cells (Cur.adv (Rdr.mk r_b r_at) 1 (Cur.more (Rdr.mk r_b r_at)))))] : List TV) ++ rd_Byte.d.ps.toList.map fun q => ([.ag [.sl .bs r_b, .i .i64 r_at]] : List TV).getD q.1 .dead) :=
  ⟨by kernel_rfl, Eq.trans (b := rd_Byte.F (Rdr.mk r_b r_at)) (by kernel_rfl) (Eq.trans (rd_Byte.goal (Rdr.mk r_b r_at) hp) (by kernel_rfl))⟩
theorem rd_Byte.ok : SpecOK Go.Proofs.Try.prog (fun n => (noGl n).av) 48 (Ctr.fs (rd_Byte.c, rd_Byte.sg)) :=
  meets (l := rd_Byte.env) all_nil rd_Byte.chk (by
      intro ins outs h
      unfold rd_Byte.c at h
      split at h
      · obtain ⟨hp, rfl⟩ := h; exact rd_Byte.fit _ _ hp
      · exact h.elim)
theorem rd_next.fit (r_b : List UInt8) (r_at : Int) (n : Int) (hp : (Cur.good (Rdr.mk r_b r_at)) = true) : ([.ag [.sl .bs r_b, .i .i64 r_at], .i .i64 n] : List TV).length = rd_next.d.np ∧ rd_next.d.run (envL noGl rd_next.env) [.ag [.sl .bs r_b, .i .i64 r_at], .i .i64 n] = some (([(.sl .bs (Cur.nx (Rdr.mk r_b r_at) n (Cur.ok8 (Rdr.mk r_b r_at) n))), (.b (Cur.ok8 (Rdr.mk r_b r_at) n)), (.ag (Rdr.cells (Cur.adv (Rdr.mk r_b r_at) n (Cur.ok8 (Rdr.mk r_b r_at) n))))] : List TV) ++ rd_next.d.ps.toList.map fun q => ([.ag [.sl .bs r_b, .i .i64 r_at], .i .i64 n] : List TV).getD q.1 .dead) :=
  ⟨by kernel_rfl, Eq.trans (b := rd_next.F (Rdr.mk r_b r_at) n) (by kernel_rfl) (Eq.trans (rd_next.goal (Rdr.mk r_b r_at) n hp) (by kernel_rfl))⟩
theorem rd_next.ok : SpecOK Go.Proofs.Try.prog (fun n => (noGl n).av) 65 (Ctr.fs (rd_next.c, rd_next.sg)) :=
  meets (l := rd_next.env) (all_cons rd_Left.ok all_nil) rd_next.chk (by
      intro ins outs h
      unfold rd_next.c at h
      split at h
      · obtain ⟨hp, rfl⟩ := h; exact rd_next.fit _ _ _ hp
      · exact h.elim)
theorem rd_Take.fit (r_b : List UInt8) (r_at : Int) (n : Int) (hp : (Cur.good (Rdr.mk r_b r_at)) = true) : ([.ag [.sl .bs r_b, .i .i64 r_at], .i .i64 n] : List TV).length = rd_Take.d.np ∧ rd_Take.d.run (envL noGl rd_Take.env) [.ag [.sl .bs r_b, .i .i64 r_at], .i .i64 n] = some (([(.sl .bs (Cur.nx (Rdr.mk r_b r_at) n (Cur.okT (Rdr.mk r_b r_at) n))), (.b (Cur.okT (Rdr.mk r_b r_at) n)), (.ag (Rdr.cells (Cur.adv (Rdr.mk r_b r_at) n (Cur.okT (Rdr.mk r_b r_at) n))))] : List TV) ++ rd_Take.d.ps.toList.map fun q => ([.ag [.sl .bs r_b, .i .i64 r_at], .i .i64 n] : List TV).getD q.1 .dead) :=
  ⟨by kernel_rfl, Eq.trans (b := rd_Take.F (Rdr.mk r_b r_at) n) (by kernel_rfl) (Eq.trans (rd_Take.goal (Rdr.mk r_b r_at) n hp) (by kernel_rfl))⟩
theorem rd_Take.ok : SpecOK Go.Proofs.Try.prog (fun n => (noGl n).av) 66 (Ctr.fs (rd_Take.c, rd_Take.sg)) :=
  meets (l := rd_Take.env) (all_cons rd_Left.ok (all_cons clone_bs.ok all_nil)) rd_Take.chk (by
      intro ins outs h
      unfold rd_Take.c at h
      split at h
      · obtain ⟨hp, rfl⟩ := h; exact rd_Take.fit _ _ _ hp
      · exact h.elim)
theorem rd_High.fit (r_b : List UInt8) (r_at : Int) (n : Int) (hp : (Cur.good (Rdr.mk r_b r_at)) = true) : ([.ag [.sl .bs r_b, .i .i64 r_at], .i .i64 n] : List TV).length = rd_High.d.np ∧ rd_High.d.run (envL noGl rd_High.env) [.ag [.sl .bs r_b, .i .i64 r_at], .i .i64 n] = some (([(.u64 (Cur.be (Cur.nx (Rdr.mk r_b r_at) n (Cur.ok8 (Rdr.mk r_b r_at) n)))), (.b (Cur.ok8 (Rdr.mk r_b r_at) n)), (.ag (Rdr.cells (Cur.adv (Rdr.mk r_b r_at) n (Cur.ok8 (Rdr.mk r_b r_at) n))))] : List TV) ++ rd_High.d.ps.toList.map fun q => ([.ag [.sl .bs r_b, .i .i64 r_at], .i .i64 n] : List TV).getD q.1 .dead) :=
  ⟨by kernel_rfl, Eq.trans (b := rd_High.F (Rdr.mk r_b r_at) n) (by kernel_rfl) (Eq.trans (rd_High.goal (Rdr.mk r_b r_at) n hp) (by kernel_rfl))⟩
theorem rd_High.ok : SpecOK Go.Proofs.Try.prog (fun n => (noGl n).av) 50 (Ctr.fs (rd_High.c, rd_High.sg)) :=
  meets (l := rd_High.env) (all_cons rd_next.ok all_nil) rd_High.chk (by
      intro ins outs h
      unfold rd_High.c at h
      split at h
      · obtain ⟨hp, rfl⟩ := h; exact rd_High.fit _ _ _ hp
      · exact h.elim)
theorem cur_New.fit (b : List UInt8) (hp : (decide ((b).length ≤ 1099511627776)) = true) : ([.sl .bs b] : List TV).length = cur_New.d.np ∧ cur_New.d.run (envL noGl cur_New.env) [.sl .bs b] = some (([.pt, (.ag (Rdr.cells ((Rdr.mk b 0))))] : List TV) ++ cur_New.d.ps.toList.map fun q => ([.sl .bs b] : List TV).getD q.1 .dead) :=
  ⟨by kernel_rfl, Eq.trans (b := cur_New.F b) (by kernel_rfl) (Eq.trans (cur_New.goal b hp) (by kernel_rfl))⟩
theorem cur_New.ok : SpecOK Go.Proofs.Try.prog (fun n => (noGl n).av) 30 (Ctr.fs (cur_New.c, cur_New.sg)) :=
  meets (l := cur_New.env) (all_cons clone_bs.ok all_nil) cur_New.chk (by
      intro ins outs h
      unfold cur_New.c at h
      split at h
      · obtain ⟨hp, rfl⟩ := h; exact cur_New.fit _ hp
      · exact h.elim)
theorem cur_number.fit (n : Int) : ([.i .i64 n] : List TV).length = cur_number.d.np ∧ cur_number.d.run (envL noGl cur_number.env) [.i .i64 n] = some (([(.b (decide (1 ≤ n ∧ n ≤ 8)))] : List TV) ++ cur_number.d.ps.toList.map fun q => ([.i .i64 n] : List TV).getD q.1 .dead) :=
  ⟨by kernel_rfl, Eq.trans (b := cur_number.F n) (by kernel_rfl) (Eq.trans (cur_number.goal n) (by kernel_rfl))⟩
theorem cur_number.ok : SpecOK Go.Proofs.Try.prog (fun n => (noGl n).av) 67 (Ctr.fs (cur_number.c, cur_number.sg)) :=
  meets (l := cur_number.env) all_nil cur_number.chk (by
      intro ins outs h
      unfold cur_number.c at h
      split at h
      · cases h; exact cur_number.fit _
      · exact h.elim)
theorem cur_Lay.fit : ([] : List TV).length = cur_Lay.d.np ∧ cur_Lay.d.run (envL noGl cur_Lay.env) [] = some (([.pt, (.ag (Wtr.cells ((Wtr.mk []))))] : List TV) ++ cur_Lay.d.ps.toList.map fun q => ([] : List TV).getD q.1 .dead) :=
  ⟨by kernel_rfl, Eq.trans (b := cur_Lay.F ) (by kernel_rfl) (Eq.trans (cur_Lay.goal ) (by kernel_rfl))⟩
theorem cur_Lay.ok : SpecOK Go.Proofs.Try.prog (fun n => (noGl n).av) 22 (Ctr.fs (cur_Lay.c, cur_Lay.sg)) :=
  meets (l := cur_Lay.env) all_nil cur_Lay.chk (by
      intro ins outs h
      unfold cur_Lay.c at h
      split at h
      · cases h; exact cur_Lay.fit
      · exact h.elim)
theorem wr_Byte.fit (w_b : List UInt8) (v : Int) (hp : (decide (((Wtr.mk w_b)).b.length ≤ 1099511627776)) = true) : ([.ag [.sl .bs w_b], .i .i64 v] : List TV).length = wr_Byte.d.np ∧ wr_Byte.d.run (envL noGl wr_Byte.env) [.ag [.sl .bs w_b], .i .i64 v] = some (([(.ag (Wtr.cells ((Wtr.mk (((Wtr.mk w_b)).b ++ [UInt8.ofInt v])))))] : List TV) ++ wr_Byte.d.ps.toList.map fun q => ([.ag [.sl .bs w_b], .i .i64 v] : List TV).getD q.1 .dead) :=
  ⟨by kernel_rfl, Eq.trans (b := wr_Byte.F (Wtr.mk w_b) v) (by kernel_rfl) (Eq.trans (wr_Byte.goal (Wtr.mk w_b) v hp) (by kernel_rfl))⟩
theorem wr_Byte.ok : SpecOK Go.Proofs.Try.prog (fun n => (noGl n).av) 40 (Ctr.fs (wr_Byte.c, wr_Byte.sg)) :=
  meets (l := wr_Byte.env) all_nil wr_Byte.chk (by
      intro ins outs h
      unfold wr_Byte.c at h
      split at h
      · obtain ⟨hp, rfl⟩ := h; exact wr_Byte.fit _ _ hp
      · exact h.elim)
theorem wr_Raw.fit (w_b : List UInt8) (b : List UInt8) (hp : (decide (((Wtr.mk w_b)).b.length + (b).length ≤ 1099511627776)) = true) : ([.ag [.sl .bs w_b], .sl .bs b] : List TV).length = wr_Raw.d.np ∧ wr_Raw.d.run (envL noGl wr_Raw.env) [.ag [.sl .bs w_b], .sl .bs b] = some (([(.ag (Wtr.cells ((Wtr.mk (((Wtr.mk w_b)).b ++ b)))))] : List TV) ++ wr_Raw.d.ps.toList.map fun q => ([.ag [.sl .bs w_b], .sl .bs b] : List TV).getD q.1 .dead) :=
  ⟨by kernel_rfl, Eq.trans (b := wr_Raw.F (Wtr.mk w_b) b) (by kernel_rfl) (Eq.trans (wr_Raw.goal (Wtr.mk w_b) b hp) (by kernel_rfl))⟩
theorem wr_Raw.ok : SpecOK Go.Proofs.Try.prog (fun n => (noGl n).av) 42 (Ctr.fs (wr_Raw.c, wr_Raw.sg)) :=
  meets (l := wr_Raw.env) all_nil wr_Raw.chk (by
      intro ins outs h
      unfold wr_Raw.c at h
      split at h
      · obtain ⟨hp, rfl⟩ := h; exact wr_Raw.fit _ _ hp
      · exact h.elim)
theorem wr_High.fit (w_b : List UInt8) (v : UInt64) (n : Int) (hp : (decide (((Wtr.mk w_b)).b.length ≤ 1099511627776)) = true) : ([.ag [.sl .bs w_b], .u64 v, .i .i64 n] : List TV).length = wr_High.d.np ∧ wr_High.d.run (envL noGl wr_High.env) [.ag [.sl .bs w_b], .u64 v, .i .i64 n] = some (([(.ag (Wtr.cells ((Wtr.mk (((Wtr.mk w_b)).b ++ Cur.high v n)))))] : List TV) ++ wr_High.d.ps.toList.map fun q => ([.ag [.sl .bs w_b], .u64 v, .i .i64 n] : List TV).getD q.1 .dead) :=
  ⟨by kernel_rfl, Eq.trans (b := wr_High.F (Wtr.mk w_b) v n) (by kernel_rfl) (Eq.trans (wr_High.goal (Wtr.mk w_b) v n hp) (by kernel_rfl))⟩
theorem wr_High.ok : SpecOK Go.Proofs.Try.prog (fun n => (noGl n).av) 58 (Ctr.fs (wr_High.c, wr_High.sg)) :=
  meets (l := wr_High.env) (all_cons cur_number.ok all_nil) wr_High.chk (by
      intro ins outs h
      unfold wr_High.c at h
      split at h
      · obtain ⟨hp, rfl⟩ := h; exact wr_High.fit _ _ _ hp
      · exact h.elim)
theorem wr_Bytes.fit (w_b : List UInt8) (hp : (decide (((Wtr.mk w_b)).b.length ≤ 1099511627776)) = true) : ([.ag [.sl .bs w_b]] : List TV).length = wr_Bytes.d.np ∧ wr_Bytes.d.run (envL noGl wr_Bytes.env) [.ag [.sl .bs w_b]] = some (([(.sl .bs ((((Wtr.mk w_b)).b))), (.ag (Wtr.cells ((Wtr.mk w_b))))] : List TV) ++ wr_Bytes.d.ps.toList.map fun q => ([.ag [.sl .bs w_b]] : List TV).getD q.1 .dead) :=
  ⟨by kernel_rfl, Eq.trans (b := wr_Bytes.F (Wtr.mk w_b)) (by kernel_rfl) (Eq.trans (wr_Bytes.goal (Wtr.mk w_b) hp) (by kernel_rfl))⟩
theorem wr_Bytes.ok : SpecOK Go.Proofs.Try.prog (fun n => (noGl n).av) 24 (Ctr.fs (wr_Bytes.c, wr_Bytes.sg)) :=
  meets (l := wr_Bytes.env) (all_cons clone_bs.ok all_nil) wr_Bytes.chk (by
      intro ins outs h
      unfold wr_Bytes.c at h
      split at h
      · obtain ⟨hp, rfl⟩ := h; exact wr_Bytes.fit _ hp
      · exact h.elim)
theorem mp_few.fit (n : Int) (hp : (decide (0 ≤ n ∧ n ≤ 1099511627776)) = true) : ([.i .i64 n] : List TV).length = mp_few.d.np ∧ mp_few.d.run (envL noGl mp_few.env) [.i .i64 n] = some (([(.b (decide (n < 4294967296)))] : List TV) ++ mp_few.d.ps.toList.map fun q => ([.i .i64 n] : List TV).getD q.1 .dead) :=
  ⟨by kernel_rfl, Eq.trans (b := mp_few.F n) (by kernel_rfl) (Eq.trans (mp_few.goal n hp) (by kernel_rfl))⟩
theorem mp_few.ok : SpecOK Go.Proofs.Try.prog (fun n => (noGl n).av) 45 (Ctr.fs (mp_few.c, mp_few.sg)) :=
  meets (l := mp_few.env) all_nil mp_few.chk (by
      intro ins outs h
      unfold mp_few.c at h
      split at h
      · obtain ⟨hp, rfl⟩ := h; exact mp_few.fit _ hp
      · exact h.elim)
theorem mp_fields.fit (it_kind : Int) (it_n : UInt64) (it_bytes : List UInt8) (it_text : Str) (it_kids : List Itm) (hp : (decide (Itm.bulk (Itm.of (Itv.mk it_kind it_n it_bytes it_text it_kids)) ≤ 1099511627776)) = true) : ([.ag [.i .i64 it_kind, .u64 it_n, .sl .bs it_bytes, .s it_text, .sl .il it_kids]] : List TV).length = mp_fields.d.np ∧ mp_fields.d.run (envL noGl mp_fields.env) [.ag [.i .i64 it_kind, .u64 it_n, .sl .bs it_bytes, .s it_text, .sl .il it_kids]] = some (([(.b (Mp.fieldsOK (Itm.of (Itv.mk it_kind it_n it_bytes it_text it_kids))))] : List TV) ++ mp_fields.d.ps.toList.map fun q => ([.ag [.i .i64 it_kind, .u64 it_n, .sl .bs it_bytes, .s it_text, .sl .il it_kids]] : List TV).getD q.1 .dead) :=
  ⟨by kernel_rfl, Eq.trans (b := mp_fields.F (Itv.mk it_kind it_n it_bytes it_text it_kids)) (by kernel_rfl) (Eq.trans (mp_fields.goal (Itv.mk it_kind it_n it_bytes it_text it_kids) hp) (by kernel_rfl))⟩
theorem mp_fields.ok : SpecOK Go.Proofs.Try.prog (fun n => (noGl n).av) 26 (Ctr.fs (mp_fields.c, mp_fields.sg)) :=
  meets (l := mp_fields.env) (all_cons mp_few.ok all_nil) mp_fields.chk (by
      intro ins outs h
      unfold mp_fields.c at h
      split at h
      · obtain ⟨hp, rfl⟩ := h; exact mp_fields.fit _ _ _ _ _ hp
      · exact h.elim)
theorem mp_Check.fit (n : Nat) (it_kind : Int) (it_n : UInt64) (it_bytes : List UInt8) (it_text : Str) (it_kids : List Itm) (hp : ((decide (Itm.bulk (Itm.of (Itv.mk it_kind it_n it_bytes it_text it_kids)) ≤ 1099511627776)) && decide ((Itm.bulk (Itm.of (Itv.mk it_kind it_n it_bytes it_text it_kids))) < n + 1)) = true) : ([.ag [.i .i64 it_kind, .u64 it_n, .sl .bs it_bytes, .s it_text, .sl .il it_kids]] : List TV).length = mp_Check.d.np ∧ mp_Check.d.run (envL noGl (mp_Check.env n)) [.ag [.i .i64 it_kind, .u64 it_n, .sl .bs it_bytes, .s it_text, .sl .il it_kids]] = some (([(.i .i64 (Mp.chk (Itm.of (Itv.mk it_kind it_n it_bytes it_text it_kids))))] : List TV) ++ mp_Check.d.ps.toList.map fun q => ([.ag [.i .i64 it_kind, .u64 it_n, .sl .bs it_bytes, .s it_text, .sl .il it_kids]] : List TV).getD q.1 .dead) :=
  ⟨by kernel_rfl, Eq.trans (b := mp_Check.F n (Itv.mk it_kind it_n it_bytes it_text it_kids)) (by kernel_rfl) (Eq.trans (mp_Check.goal n (Itv.mk it_kind it_n it_bytes it_text it_kids) hp) (by kernel_rfl))⟩
theorem mcheck.oks : ∀ n : Nat, (SpecOK Go.Proofs.Try.prog (fun n => (noGl n).av) 13 (Ctr.fs (mp_Check.cn n, mp_Check.sg))) := by
  intro n
  induction n with
  | zero => exact spec_zero (by
      intro ti to_ h
      unfold mp_Check.cn at h
      split at h
      · obtain ⟨h, _⟩ := h; simp at h
      · exact h.elim)
  | succ n ih =>
    have ih0 := ih
    exact meets (l := mp_Check.env n) (all_cons ih0 (all_cons mp_fields.ok (all_cons utf_Check.ok all_nil))) (mp_Check.chk n) (by
      intro ins outs h
      unfold mp_Check.cn at h
      split at h
      · obtain ⟨hp, rfl⟩ := h; exact mp_Check.fit n _ _ _ _ _ hp
      · exact h.elim)
theorem mp_Check.ok : SpecOK Go.Proofs.Try.prog (fun n => (noGl n).av) 13 (Ctr.fs (mp_Check.c, mp_Check.sg)) := spec_sub fun ti to_ h => by
  unfold mp_Check.c at h
  split at h
  · obtain ⟨hp, rfl⟩ := h; exact ⟨mp_Check.cn (_ + 1), (mcheck.oks _), Bool.and_eq_true_iff.2 ⟨hp, decide_eq_true (Nat.lt_succ_self _)⟩, rfl⟩
  · exact h.elim
theorem mp_wrong.fit (e : Int) (at_ : Int) : ([.i .i64 e, .i .i64 at_] : List TV).length = mp_wrong.d.np ∧ mp_wrong.d.run (envL noGl mp_wrong.env) [.i .i64 e, .i .i64 at_] = some (([(.ag (Itv.cells (Itm.val (Mp.zero)))), (.ag (Flt.cells ((Flt.mk e at_ []))))] : List TV) ++ mp_wrong.d.ps.toList.map fun q => ([.i .i64 e, .i .i64 at_] : List TV).getD q.1 .dead) :=
  ⟨by kernel_rfl, Eq.trans (b := mp_wrong.F e at_) (by kernel_rfl) (Eq.trans (mp_wrong.goal e at_) (by kernel_rfl))⟩
theorem mp_wrong.ok : SpecOK Go.Proofs.Try.prog (fun n => (noGl n).av) 29 (Ctr.fs (mp_wrong.c, mp_wrong.sg)) :=
  meets (l := mp_wrong.env) all_nil mp_wrong.chk (by
      intro ins outs h
      unfold mp_wrong.c at h
      split at h
      · cases h; exact mp_wrong.fit _ _
      · exact h.elim)
theorem mp_unsigned.fit (n : UInt64) : ([.u64 n] : List TV).length = mp_unsigned.d.np ∧ mp_unsigned.d.run (envL noGl mp_unsigned.env) [.u64 n] = some (([(.ag [(.i .i64 (Mp.unsigned n).1), (.i .i64 (Mp.unsigned n).2)])] : List TV) ++ mp_unsigned.d.ps.toList.map fun q => ([.u64 n] : List TV).getD q.1 .dead) :=
  ⟨by kernel_rfl, Eq.trans (b := mp_unsigned.F n) (by kernel_rfl) (Eq.trans (mp_unsigned.goal n) (by kernel_rfl))⟩
theorem mp_unsigned.ok : SpecOK Go.Proofs.Try.prog (fun n => (noGl n).av) 38 (Ctr.fs (mp_unsigned.c, mp_unsigned.sg)) :=
  meets (l := mp_unsigned.env) all_nil mp_unsigned.chk (by
      intro ins outs h
      unfold mp_unsigned.c at h
      split at h
      · cases h; exact mp_unsigned.fit _
      · exact h.elim)
theorem mp_signed.fit (n : UInt64) : ([.u64 n] : List TV).length = mp_signed.d.np ∧ mp_signed.d.run (envL noGl mp_signed.env) [.u64 n] = some (([(.ag [(.i .i64 (Mp.signed n).1), (.i .i64 (Mp.signed n).2)])] : List TV) ++ mp_signed.d.ps.toList.map fun q => ([.u64 n] : List TV).getD q.1 .dead) :=
  ⟨by kernel_rfl, Eq.trans (b := mp_signed.F n) (by kernel_rfl) (Eq.trans (mp_signed.goal n) (by kernel_rfl))⟩
theorem mp_signed.ok : SpecOK Go.Proofs.Try.prog (fun n => (noGl n).av) 39 (Ctr.fs (mp_signed.c, mp_signed.sg)) :=
  meets (l := mp_signed.env) all_nil mp_signed.chk (by
      intro ins outs h
      unfold mp_signed.c at h
      split at h
      · cases h; exact mp_signed.fit _
      · exact h.elim)
theorem mp_put.fit (w_b : List UInt8) (f_at : Int) (f_end : Int) (n : UInt64) (hp : (decide (((Wtr.mk w_b)).b.length + 10 ≤ 1099511627776)) = true) : ([.ag [.sl .bs w_b], .ag [.i .i64 f_at, .i .i64 f_end], .u64 n] : List TV).length = mp_put.d.np ∧ mp_put.d.run (envL noGl mp_put.env) [.ag [.sl .bs w_b], .ag [.i .i64 f_at, .i .i64 f_end], .u64 n] = some (([(.ag (Wtr.cells ((Wtr.mk (((Wtr.mk w_b)).b ++ Mp.put (((Spn.mk f_at f_end)).at_, ((Spn.mk f_at f_end)).end_) n)))))] : List TV) ++ mp_put.d.ps.toList.map fun q => ([.ag [.sl .bs w_b], .ag [.i .i64 f_at, .i .i64 f_end], .u64 n] : List TV).getD q.1 .dead) :=
  ⟨by kernel_rfl, Eq.trans (b := mp_put.F (Wtr.mk w_b) (Spn.mk f_at f_end) n) (by kernel_rfl) (Eq.trans (mp_put.goal (Wtr.mk w_b) (Spn.mk f_at f_end) n hp) (by kernel_rfl))⟩
theorem mp_put.ok : SpecOK Go.Proofs.Try.prog (fun n => (noGl n).av) 37 (Ctr.fs (mp_put.c, mp_put.sg)) :=
  meets (l := mp_put.env) (all_cons wr_Byte.ok (all_cons wr_High.ok all_nil)) mp_put.chk (by
      intro ins outs h
      unfold mp_put.c at h
      split at h
      · obtain ⟨hp, rfl⟩ := h; exact mp_put.fit _ _ _ _ hp
      · exact h.elim)
theorem mp_lay.fit (n : Nat) (w_b : List UInt8) (it_kind : Int) (it_n : UInt64) (it_bytes : List UInt8) (it_text : Str) (it_kids : List Itm) (hp : ((decide (((Wtr.mk w_b)).b.length + 16 * Itm.bulk (Itm.of (Itv.mk it_kind it_n it_bytes it_text it_kids)) ≤ 1099511627776) && decide (Mp.chk (Itm.of (Itv.mk it_kind it_n it_bytes it_text it_kids)) = 0)) && decide ((Itm.bulk (Itm.of (Itv.mk it_kind it_n it_bytes it_text it_kids))) < n + 1)) = true) : ([.ag [.sl .bs w_b], .ag [.i .i64 it_kind, .u64 it_n, .sl .bs it_bytes, .s it_text, .sl .il it_kids]] : List TV).length = mp_lay.d.np ∧ mp_lay.d.run (envL noGl (mp_lay.env n)) [.ag [.sl .bs w_b], .ag [.i .i64 it_kind, .u64 it_n, .sl .bs it_bytes, .s it_text, .sl .il it_kids]] = some (([(.ag (Wtr.cells ((Wtr.mk (((Wtr.mk w_b)).b ++ Mp.lay (Itm.of (Itv.mk it_kind it_n it_bytes it_text it_kids)))))))] : List TV) ++ mp_lay.d.ps.toList.map fun q => ([.ag [.sl .bs w_b], .ag [.i .i64 it_kind, .u64 it_n, .sl .bs it_bytes, .s it_text, .sl .il it_kids]] : List TV).getD q.1 .dead) :=
  ⟨by kernel_rfl, Eq.trans (b := mp_lay.F n (Wtr.mk w_b) (Itv.mk it_kind it_n it_bytes it_text it_kids)) (by kernel_rfl) (Eq.trans (mp_lay.goal n (Wtr.mk w_b) (Itv.mk it_kind it_n it_bytes it_text it_kids) hp) (by kernel_rfl))⟩
theorem mlay.oks : ∀ n : Nat, (SpecOK Go.Proofs.Try.prog (fun n => (noGl n).av) 23 (Ctr.fs (mp_lay.cn n, mp_lay.sg))) := by
  intro n
  induction n with
  | zero => exact spec_zero (by
      intro ti to_ h
      unfold mp_lay.cn at h
      split at h
      · obtain ⟨h, _⟩ := h; simp at h
      · exact h.elim)
  | succ n ih =>
    have ih0 := ih
    exact meets (l := mp_lay.env n) (all_cons ih0 (all_cons mp_put.ok (all_cons mp_unsigned.ok (all_cons mp_signed.ok (all_cons wr_Byte.ok (all_cons mp_sized.ok (all_cons wr_Raw.ok all_nil))))))) (mp_lay.chk n) (by
      intro ins outs h
      unfold mp_lay.cn at h
      split at h
      · obtain ⟨hp, rfl⟩ := h; exact mp_lay.fit n _ _ _ _ _ _ hp
      · exact h.elim)
theorem mp_lay.ok : SpecOK Go.Proofs.Try.prog (fun n => (noGl n).av) 23 (Ctr.fs (mp_lay.c, mp_lay.sg)) := spec_sub fun ti to_ h => by
  unfold mp_lay.c at h
  split at h
  · obtain ⟨hp, rfl⟩ := h; exact ⟨mp_lay.cn (_ + 1), (mlay.oks _), Bool.and_eq_true_iff.2 ⟨hp, decide_eq_true (Nat.lt_succ_self _)⟩, rfl⟩
  · exact h.elim
theorem mp_Encode.fit (it_kind : Int) (it_n : UInt64) (it_bytes : List UInt8) (it_text : Str) (it_kids : List Itm) (hp : (decide (Itm.bulk (Itm.of (Itv.mk it_kind it_n it_bytes it_text it_kids)) ≤ 1073741824)) = true) : ([.ag [.i .i64 it_kind, .u64 it_n, .sl .bs it_bytes, .s it_text, .sl .il it_kids]] : List TV).length = mp_Encode.d.np ∧ mp_Encode.d.run (envL noGl mp_Encode.env) [.ag [.i .i64 it_kind, .u64 it_n, .sl .bs it_bytes, .s it_text, .sl .il it_kids]] = some (([(.sl .bs (Mp.enc (Itm.of (Itv.mk it_kind it_n it_bytes it_text it_kids)))), (.i .i64 (Mp.chk (Itm.of (Itv.mk it_kind it_n it_bytes it_text it_kids))))] : List TV) ++ mp_Encode.d.ps.toList.map fun q => ([.ag [.i .i64 it_kind, .u64 it_n, .sl .bs it_bytes, .s it_text, .sl .il it_kids]] : List TV).getD q.1 .dead) :=
  ⟨by kernel_rfl, Eq.trans (b := mp_Encode.F (Itv.mk it_kind it_n it_bytes it_text it_kids)) (by kernel_rfl) (Eq.trans (mp_Encode.goal (Itv.mk it_kind it_n it_bytes it_text it_kids) hp) (by kernel_rfl))⟩
theorem mp_Encode.ok : SpecOK Go.Proofs.Try.prog (fun n => (noGl n).av) 11 (Ctr.fs (mp_Encode.c, mp_Encode.sg)) :=
  meets (l := mp_Encode.env) (all_cons mp_Check.ok (all_cons cur_Lay.ok (all_cons mp_lay.ok (all_cons wr_Bytes.ok all_nil)))) mp_Encode.chk (by
      intro ins outs h
      unfold mp_Encode.c at h
      split at h
      · obtain ⟨hp, rfl⟩ := h; exact mp_Encode.fit _ _ _ _ _ hp
      · exact h.elim)
theorem mp_first.fit (c : Int) (hp : (decide (0 ≤ c ∧ c ≤ 255)) = true) : ([.i .i64 c] : List TV).length = mp_first.d.np ∧ mp_first.d.run (envL noGl mp_first.env) [.i .i64 c] = some (([(.i .i64 ((Mp.first c).1)), (.u64 ((Mp.first c).2.1)), (.i .i64 ((Mp.first c).2.2))] : List TV) ++ mp_first.d.ps.toList.map fun q => ([.i .i64 c] : List TV).getD q.1 .dead) :=
  ⟨by kernel_rfl, Eq.trans (b := mp_first.F c) (by kernel_rfl) (Eq.trans (mp_first.goal c hp) (by kernel_rfl))⟩
theorem mp_first.ok : SpecOK Go.Proofs.Try.prog (fun n => (noGl n).av) 49 (Ctr.fs (mp_first.c, mp_first.sg)) :=
  meets (l := mp_first.env) all_nil mp_first.chk (by
      intro ins outs h
      unfold mp_first.c at h
      split at h
      · obtain ⟨hp, rfl⟩ := h; exact mp_first.fit _ hp
      · exact h.elim)
theorem mp_number.fit (it_kind : Int) (it_n : UInt64) (it_bytes : List UInt8) (it_text : Str) (it_kids : List Itm) (p : Int) (c : Int) (f_at : Int) (f_end : Int) : ([.ag [.i .i64 it_kind, .u64 it_n, .sl .bs it_bytes, .s it_text, .sl .il it_kids], .i .i64 p, .i .i64 c, .ag [.i .i64 f_at, .i .i64 f_end]] : List TV).length = mp_number.d.np ∧ mp_number.d.run (envL noGl mp_number.env) [.ag [.i .i64 it_kind, .u64 it_n, .sl .bs it_bytes, .s it_text, .sl .il it_kids], .i .i64 p, .i .i64 c, .ag [.i .i64 f_at, .i .i64 f_end]] = some (([(.ag (Itv.cells (Itm.val ((Mp.num (Itm.of (Itv.mk it_kind it_n it_bytes it_text it_kids)) p c ((Spn.mk f_at f_end)).at_ 0).it)))), (.ag (Flt.cells ((Flt.mk (Mp.num (Itm.of (Itv.mk it_kind it_n it_bytes it_text it_kids)) p c ((Spn.mk f_at f_end)).at_ 0).err (Mp.num (Itm.of (Itv.mk it_kind it_n it_bytes it_text it_kids)) p c ((Spn.mk f_at f_end)).at_ 0).at_ []))))] : List TV) ++ mp_number.d.ps.toList.map fun q => ([.ag [.i .i64 it_kind, .u64 it_n, .sl .bs it_bytes, .s it_text, .sl .il it_kids], .i .i64 p, .i .i64 c, .ag [.i .i64 f_at, .i .i64 f_end]] : List TV).getD q.1 .dead) :=
  ⟨by kernel_rfl, Eq.trans (b := mp_number.F (Itv.mk it_kind it_n it_bytes it_text it_kids) p c (Spn.mk f_at f_end)) (by kernel_rfl) (Eq.trans (mp_number.goal (Itv.mk it_kind it_n it_bytes it_text it_kids) p c (Spn.mk f_at f_end)) (by kernel_rfl))⟩
theorem mp_number.ok : SpecOK Go.Proofs.Try.prog (fun n => (noGl n).av) 51 (Ctr.fs (mp_number.c, mp_number.sg)) :=
  meets (l := mp_number.env) (all_cons mp_wrong.ok all_nil) mp_number.chk (by
      intro ins outs h
      unfold mp_number.c at h
      split at h
      · cases h; exact mp_number.fit _ _ _ _ _ _ _ _ _
      · exact h.elim)
theorem mp_number.okw : SpecOK Go.Proofs.Try.prog (fun n => (noGl n).av) 51 (Ctr.fs (mp_number.cw, mp_number.sg)) := spec_wk rfl (by decide) mp_number.ok
theorem mp_row.fit (r_b : List UInt8) (r_at : Int) (it_kind : Int) (it_n : UInt64) (it_bytes : List UInt8) (it_text : Str) (it_kids : List Itm) (p : Int) (n : Int) (hp : (Cur.good (Rdr.mk r_b r_at)) = true) : ([.ag [.sl .bs r_b, .i .i64 r_at], .ag [.i .i64 it_kind, .u64 it_n, .sl .bs it_bytes, .s it_text, .sl .il it_kids], .i .i64 p, .i .i64 n] : List TV).length = mp_row.d.np ∧ mp_row.d.run (envL noGl mp_row.env) [.ag [.sl .bs r_b, .i .i64 r_at], .ag [.i .i64 it_kind, .u64 it_n, .sl .bs it_bytes, .s it_text, .sl .il it_kids], .i .i64 p, .i .i64 n] = some (([(.ag (Itv.cells (Itm.val ((Mp.row ((Rdr.mk r_b r_at)).b (Itm.of (Itv.mk it_kind it_n it_bytes it_text it_kids)) p ((Rdr.mk r_b r_at)).at_ n).it)))), (.ag (Flt.cells ((Flt.mk (Mp.row ((Rdr.mk r_b r_at)).b (Itm.of (Itv.mk it_kind it_n it_bytes it_text it_kids)) p ((Rdr.mk r_b r_at)).at_ n).err (Mp.row ((Rdr.mk r_b r_at)).b (Itm.of (Itv.mk it_kind it_n it_bytes it_text it_kids)) p ((Rdr.mk r_b r_at)).at_ n).at_ [])))), (.ag (Rdr.cells ((Rdr.mk ((Rdr.mk r_b r_at)).b (Mp.row ((Rdr.mk r_b r_at)).b (Itm.of (Itv.mk it_kind it_n it_bytes it_text it_kids)) p ((Rdr.mk r_b r_at)).at_ n).pos))))] : List TV) ++ mp_row.d.ps.toList.map fun q => ([.ag [.sl .bs r_b, .i .i64 r_at], .ag [.i .i64 it_kind, .u64 it_n, .sl .bs it_bytes, .s it_text, .sl .il it_kids], .i .i64 p, .i .i64 n] : List TV).getD q.1 .dead) :=
  ⟨by kernel_rfl, Eq.trans (b := mp_row.F (Rdr.mk r_b r_at) (Itv.mk it_kind it_n it_bytes it_text it_kids) p n) (by kernel_rfl) (Eq.trans (mp_row.goal (Rdr.mk r_b r_at) (Itv.mk it_kind it_n it_bytes it_text it_kids) p n hp) (by kernel_rfl))⟩
theorem mp_row.ok : SpecOK Go.Proofs.Try.prog (fun n => (noGl n).av) 53 (Ctr.fs (mp_row.c, mp_row.sg)) :=
  meets (l := mp_row.env) (all_cons utf_Check.ok (all_cons mp_wrong.ok (all_cons rd_Take.ok all_nil))) mp_row.chk (by
      intro ins outs h
      unfold mp_row.c at h
      split at h
      · obtain ⟨hp, rfl⟩ := h; exact mp_row.fit _ _ _ _ _ _ _ _ _ hp
      · exact h.elim)
theorem mp_row.okw : SpecOK Go.Proofs.Try.prog (fun n => (noGl n).av) 53 (Ctr.fs (mp_row.cw, mp_row.sg)) := spec_wk rfl (by decide) mp_row.ok
theorem mp_kids.fit (n : Nat) (r_b : List UInt8) (r_at : Int) (it_kind : Int) (it_n : UInt64) (it_text : Str) (m : Int) (depth : Int) (hp : ((Cur.good (Rdr.mk r_b r_at) && decide (0 ≤ m ∧ m ≤ 4294967296 ∧ 1 ≤ depth ∧ depth ≤ 1000)) && decide ((2 * (depth).toNat) < n + 1)) = true) : ([.ag [.sl .bs r_b, .i .i64 r_at], .ag [.i .i64 it_kind, .u64 it_n, .c (.slice none 0 0), .s it_text, .c (.slice none 0 0)], .i .i64 m, .i .i64 depth] : List TV).length = mp_kids.d.np ∧ mp_kids.d.run (envL noGl (mp_kids.env n)) [.ag [.sl .bs r_b, .i .i64 r_at], .ag [.i .i64 it_kind, .u64 it_n, .c (.slice none 0 0), .s it_text, .c (.slice none 0 0)], .i .i64 m, .i .i64 depth] = some (([(.ag (Itv.cells (Itm.val ((Mp.kids (Mp.read ((Rdr.mk r_b r_at)).b (depth - 1).toNat) (Itm.of (Itv.mk it_kind it_n [] it_text [])) (Mp.many ((Itv.mk it_kind it_n [] it_text [])).kind m) ((Rdr.mk r_b r_at)).at_).it)))), (.ag (Flt.cells ((Flt.mk (Mp.kids (Mp.read ((Rdr.mk r_b r_at)).b (depth - 1).toNat) (Itm.of (Itv.mk it_kind it_n [] it_text [])) (Mp.many ((Itv.mk it_kind it_n [] it_text [])).kind m) ((Rdr.mk r_b r_at)).at_).err (Mp.kids (Mp.read ((Rdr.mk r_b r_at)).b (depth - 1).toNat) (Itm.of (Itv.mk it_kind it_n [] it_text [])) (Mp.many ((Itv.mk it_kind it_n [] it_text [])).kind m) ((Rdr.mk r_b r_at)).at_).at_ [])))), (.ag (Rdr.cells ((Rdr.mk ((Rdr.mk r_b r_at)).b (Mp.kids (Mp.read ((Rdr.mk r_b r_at)).b (depth - 1).toNat) (Itm.of (Itv.mk it_kind it_n [] it_text [])) (Mp.many ((Itv.mk it_kind it_n [] it_text [])).kind m) ((Rdr.mk r_b r_at)).at_).pos))))] : List TV) ++ mp_kids.d.ps.toList.map fun q => ([.ag [.sl .bs r_b, .i .i64 r_at], .ag [.i .i64 it_kind, .u64 it_n, .c (.slice none 0 0), .s it_text, .c (.slice none 0 0)], .i .i64 m, .i .i64 depth] : List TV).getD q.1 .dead) :=
  ⟨by kernel_rfl, Eq.trans (b := mp_kids.F n (Rdr.mk r_b r_at) (Itv.mk it_kind it_n [] it_text []) m depth) (by kernel_rfl) (Eq.trans (mp_kids.goal n (Rdr.mk r_b r_at) (Itv.mk it_kind it_n [] it_text []) m depth hp) (by kernel_rfl))⟩
theorem mp_read.fit (n : Nat) (r_b : List UInt8) (r_at : Int) (depth : Int) (hp : ((Cur.good (Rdr.mk r_b r_at) && decide (0 ≤ depth ∧ depth ≤ 1000)) && decide ((2 * (depth).toNat + 1) < n + 1)) = true) : ([.ag [.sl .bs r_b, .i .i64 r_at], .i .i64 depth] : List TV).length = mp_read.d.np ∧ mp_read.d.run (envL noGl (mp_read.env n)) [.ag [.sl .bs r_b, .i .i64 r_at], .i .i64 depth] = some (([(.ag (Itv.cells (Itm.val ((Mp.read ((Rdr.mk r_b r_at)).b (depth).toNat ((Rdr.mk r_b r_at)).at_).it)))), (.ag (Flt.cells ((Flt.mk (Mp.read ((Rdr.mk r_b r_at)).b (depth).toNat ((Rdr.mk r_b r_at)).at_).err (Mp.read ((Rdr.mk r_b r_at)).b (depth).toNat ((Rdr.mk r_b r_at)).at_).at_ [])))), (.ag (Rdr.cells ((Rdr.mk ((Rdr.mk r_b r_at)).b (Mp.read ((Rdr.mk r_b r_at)).b (depth).toNat ((Rdr.mk r_b r_at)).at_).pos))))] : List TV) ++ mp_read.d.ps.toList.map fun q => ([.ag [.sl .bs r_b, .i .i64 r_at], .i .i64 depth] : List TV).getD q.1 .dead) :=
  ⟨by kernel_rfl, Eq.trans (b := mp_read.F n (Rdr.mk r_b r_at) depth) (by kernel_rfl) (Eq.trans (mp_read.goal n (Rdr.mk r_b r_at) depth hp) (by kernel_rfl))⟩
theorem mread.oks : ∀ n : Nat, (SpecOK Go.Proofs.Try.prog (fun n => (noGl n).av) 52 (Ctr.fs (mp_kids.cn n, mp_kids.sg))) ∧ (SpecOK Go.Proofs.Try.prog (fun n => (noGl n).av) 31 (Ctr.fs (mp_read.cn n, mp_read.sg))) := by
  intro n
  induction n with
  | zero => exact ⟨spec_zero (by
      intro ti to_ h
      unfold mp_kids.cn at h
      split at h
      · obtain ⟨h, _⟩ := h; simp at h
      · exact h.elim), spec_zero (by
      intro ti to_ h
      unfold mp_read.cn at h
      split at h
      · obtain ⟨h, _⟩ := h; simp at h
      · exact h.elim)⟩
  | succ n ih =>
    obtain ⟨ih0, ih1⟩ := ih
    exact ⟨meets (l := mp_kids.env n) (all_cons ih1 all_nil) (mp_kids.chk n) (by
      intro ins outs h
      unfold mp_kids.cn at h
      split at h
      · obtain ⟨hp, rfl⟩ := h; exact mp_kids.fit n _ _ _ _ _ _ _ hp
      · exact h.elim), meets (l := mp_read.env n) (all_cons mp_wrong.ok (all_cons rd_At.ok (all_cons mp_unsigned.ok (all_cons mp_signed.ok (all_cons mp_sized.ok (all_cons rd_Byte.ok (all_cons mp_first.ok (all_cons rd_High.ok (all_cons mp_number.okw (all_cons ih0 (all_cons mp_row.okw all_nil))))))))))) (mp_read.chk n) (by
      intro ins outs h
      unfold mp_read.cn at h
      split at h
      · obtain ⟨hp, rfl⟩ := h; exact mp_read.fit n _ _ _ hp
      · exact h.elim)⟩
theorem mp_read.ok : SpecOK Go.Proofs.Try.prog (fun n => (noGl n).av) 31 (Ctr.fs (mp_read.c, mp_read.sg)) := spec_sub fun ti to_ h => by
  unfold mp_read.c at h
  split at h
  · obtain ⟨hp, rfl⟩ := h; exact ⟨mp_read.cn (_ + 1), (mread.oks _).2, Bool.and_eq_true_iff.2 ⟨hp, decide_eq_true (Nat.lt_succ_self _)⟩, rfl⟩
  · exact h.elim
theorem mp_Decode.fit (b : List UInt8) (depth : Int) (hp : (decide ((b).length ≤ 1099511627776)) = true) : ([.sl .bs b, .i .i64 depth] : List TV).length = mp_Decode.d.np ∧ mp_Decode.d.run (envL noGl mp_Decode.env) [.sl .bs b, .i .i64 depth] = some (([(.ag (Itv.cells (Itm.val ((Mp.dec b depth).1)))), (.ag (Flt.cells ((Mp.dec b depth).2)))] : List TV) ++ mp_Decode.d.ps.toList.map fun q => ([.sl .bs b, .i .i64 depth] : List TV).getD q.1 .dead) :=
  ⟨by kernel_rfl, Eq.trans (b := mp_Decode.F b depth) (by kernel_rfl) (Eq.trans (mp_Decode.goal b depth hp) (by kernel_rfl))⟩
theorem mp_Decode.ok : SpecOK Go.Proofs.Try.prog (fun n => (noGl n).av) 15 (Ctr.fs (mp_Decode.c, mp_Decode.sg)) :=
  meets (l := mp_Decode.env) (all_cons mp_wrong.ok (all_cons cur_New.ok (all_cons mp_read.ok (all_cons rd_Left.ok (all_cons rd_At.ok all_nil))))) mp_Decode.chk (by
      intro ins outs h
      unfold mp_Decode.c at h
      split at h
      · obtain ⟨hp, rfl⟩ := h; exact mp_Decode.fit _ _ hp
      · exact h.elim)
theorem ref28_Same.fit (n : Nat) (a_kind : Int) (a_n : UInt64) (a_bytes : List UInt8) (a_text : Str) (a_kids : List Itm) (b_kind : Int) (b_n : UInt64) (b_bytes : List UInt8) (b_text : Str) (b_kids : List Itm) (hp : ((decide (Itm.bulk (Itm.of (Itv.mk a_kind a_n a_bytes a_text a_kids)) ≤ 1099511627776)) && decide ((Itm.bulk (Itm.of (Itv.mk a_kind a_n a_bytes a_text a_kids))) < n + 1)) = true) : ([.ag [.i .i64 a_kind, .u64 a_n, .sl .bs a_bytes, .s a_text, .sl .il a_kids], .ag [.i .i64 b_kind, .u64 b_n, .sl .bs b_bytes, .s b_text, .sl .il b_kids]] : List TV).length = ref28_Same.d.np ∧ ref28_Same.d.run (envL noGl (ref28_Same.env n)) [.ag [.i .i64 a_kind, .u64 a_n, .sl .bs a_bytes, .s a_text, .sl .il a_kids], .ag [.i .i64 b_kind, .u64 b_n, .sl .bs b_bytes, .s b_text, .sl .il b_kids]] = some (([(.b (Itm.same (Itm.of (Itv.mk a_kind a_n a_bytes a_text a_kids)) (Itm.of (Itv.mk b_kind b_n b_bytes b_text b_kids))))] : List TV) ++ ref28_Same.d.ps.toList.map fun q => ([.ag [.i .i64 a_kind, .u64 a_n, .sl .bs a_bytes, .s a_text, .sl .il a_kids], .ag [.i .i64 b_kind, .u64 b_n, .sl .bs b_bytes, .s b_text, .sl .il b_kids]] : List TV).getD q.1 .dead) :=
  ⟨by kernel_rfl, Eq.trans (b := ref28_Same.F n (Itv.mk a_kind a_n a_bytes a_text a_kids) (Itv.mk b_kind b_n b_bytes b_text b_kids)) (by kernel_rfl) (Eq.trans (ref28_Same.goal n (Itv.mk a_kind a_n a_bytes a_text a_kids) (Itv.mk b_kind b_n b_bytes b_text b_kids) hp) (by kernel_rfl))⟩
theorem rsame28.oks : ∀ n : Nat, (SpecOK Go.Proofs.Try.prog (fun n => (noGl n).av) 18 (Ctr.fs (ref28_Same.cn n, ref28_Same.sg))) := by
  intro n
  induction n with
  | zero => exact spec_zero (by
      intro ti to_ h
      unfold ref28_Same.cn at h
      split at h
      · obtain ⟨h, _⟩ := h; simp at h
      · exact h.elim)
  | succ n ih =>
    have ih0 := ih
    exact meets (l := ref28_Same.env n) (all_cons ih0 all_nil) (ref28_Same.chk n) (by
      intro ins outs h
      unfold ref28_Same.cn at h
      split at h
      · obtain ⟨hp, rfl⟩ := h; exact ref28_Same.fit n _ _ _ _ _ _ _ _ _ _ hp
      · exact h.elim)
theorem ref28_Same.ok : SpecOK Go.Proofs.Try.prog (fun n => (noGl n).av) 18 (Ctr.fs (ref28_Same.c, ref28_Same.sg)) := spec_sub fun ti to_ h => by
  unfold ref28_Same.c at h
  split at h
  · obtain ⟨hp, rfl⟩ := h; exact ⟨ref28_Same.cn (_ + 1), (rsame28.oks _), Bool.and_eq_true_iff.2 ⟨hp, decide_eq_true (Nat.lt_succ_self _)⟩, rfl⟩
  · exact h.elim
theorem law29_nest.fit (n : Nat) (it_kind : Int) (it_n : UInt64) (it_bytes : List UInt8) (it_text : Str) (it_kids : List Itm) (hp : ((decide (Itm.bulk (Itm.of (Itv.mk it_kind it_n it_bytes it_text it_kids)) ≤ 1099511627776)) && decide ((Itm.bulk (Itm.of (Itv.mk it_kind it_n it_bytes it_text it_kids))) < n + 1)) = true) : ([.ag [.i .i64 it_kind, .u64 it_n, .sl .bs it_bytes, .s it_text, .sl .il it_kids]] : List TV).length = law29_nest.d.np ∧ law29_nest.d.run (envL noGl (law29_nest.env n)) [.ag [.i .i64 it_kind, .u64 it_n, .sl .bs it_bytes, .s it_text, .sl .il it_kids]] = some (([(.i .i64 ((Itm.nest (Itm.of (Itv.mk it_kind it_n it_bytes it_text it_kids)) : Int)))] : List TV) ++ law29_nest.d.ps.toList.map fun q => ([.ag [.i .i64 it_kind, .u64 it_n, .sl .bs it_bytes, .s it_text, .sl .il it_kids]] : List TV).getD q.1 .dead) :=
  ⟨by kernel_rfl, Eq.trans (b := law29_nest.F n (Itv.mk it_kind it_n it_bytes it_text it_kids)) (by kernel_rfl) (Eq.trans (law29_nest.goal n (Itv.mk it_kind it_n it_bytes it_text it_kids) hp) (by kernel_rfl))⟩
theorem lnest.oks : ∀ n : Nat, (SpecOK Go.Proofs.Try.prog (fun n => (noGl n).av) 19 (Ctr.fs (law29_nest.cn n, law29_nest.sg))) := by
  intro n
  induction n with
  | zero => exact spec_zero (by
      intro ti to_ h
      unfold law29_nest.cn at h
      split at h
      · obtain ⟨h, _⟩ := h; simp at h
      · exact h.elim)
  | succ n ih =>
    have ih0 := ih
    exact meets (l := law29_nest.env n) (all_cons ih0 all_nil) (law29_nest.chk n) (by
      intro ins outs h
      unfold law29_nest.cn at h
      split at h
      · obtain ⟨hp, rfl⟩ := h; exact law29_nest.fit n _ _ _ _ _ hp
      · exact h.elim)
theorem law29_nest.ok : SpecOK Go.Proofs.Try.prog (fun n => (noGl n).av) 19 (Ctr.fs (law29_nest.c, law29_nest.sg)) := spec_sub fun ti to_ h => by
  unfold law29_nest.c at h
  split at h
  · obtain ⟨hp, rfl⟩ := h; exact ⟨law29_nest.cn (_ + 1), (lnest.oks _), Bool.and_eq_true_iff.2 ⟨hp, decide_eq_true (Nat.lt_succ_self _)⟩, rfl⟩
  · exact h.elim
theorem law29_awake.fit : ([] : List TV).length = law29_awake.d.np ∧ law29_awake.d.run (envL noGl law29_awake.env) [] = some (([(.b (true))] : List TV) ++ law29_awake.d.ps.toList.map fun q => ([] : List TV).getD q.1 .dead) :=
  ⟨by kernel_rfl, Eq.trans (b := law29_awake.F ) (by kernel_rfl) (Eq.trans (law29_awake.goal ) (by kernel_rfl))⟩
theorem law29_awake.ok : SpecOK Go.Proofs.Try.prog (fun n => (noGl n).av) 9 (Ctr.fs (law29_awake.c, law29_awake.sg)) :=
  meets (l := law29_awake.env) (all_cons mp_Encode.ok (all_cons mp_Decode.ok all_nil)) law29_awake.chk (by
      intro ins outs h
      unfold law29_awake.c at h
      split at h
      · cases h; exact law29_awake.fit
      · exact h.elim)
end Go.Eng
namespace Go.Eng
open Go.IntWalk
def cutOf (b : Str) (p q : Int) : Str := (b.drop p.toNat).take (q - p).toNat
theorem slice_app (b : Str) (p q r : Int) (h0 : 0 ≤ p) (h1 : p ≤ q) (h2 : q ≤ r) : cutOf b p r = cutOf b p q ++ cutOf b q r := by
  rw [cutOf, cutOf, cutOf, show (r - p).toNat = (q - p).toNat + (r - q).toNat by omega, List.take_add, List.drop_drop, show p.toNat + (q - p).toNat = q.toNat by omega]
def Mp.Just (b : Str) (d : Nat) (p : Int) (g : Mp.Got) : Prop := Mp.chk g.it = 0 ∧ Mp.lay g.it = cutOf b p g.pos ∧ Itm.nest g.it ≤ d
section
variable {c : UInt8} {L : Str} {u : UInt64} {k : Int} {n0 : UInt64} {long : Int}
theorem Mp.put_says (h : Mp.Says c L u k n0 long) (hk : k = 3 ∨ k = 4 ∨ k = 5 ∨ k = 6 ∨ k = 10) (hu : u.toNat < 4294967296) (he : (Mp.sized k u.toNat).1 = (c.toNat : Int)) : Mp.put (Mp.sized k u.toNat) u = c :: L := by
  obtain ⟨f, b0, b1, _⟩ := Mp.first_sized k (by omega) u.toNat hu
  refine (Mp.put_iff _ u c L ⟨b0, b1⟩ fun q => ?_).2 he
  rw [q, h.f] at f
  injection f with _ f; injection f with _ f
  rw [← f]
  exact Cur.high_eq u long L h.long' h.l h.uL
end
theorem Mp.num_err {it : Itm} {p c f q : Int} (h : (Mp.num it p c f q).err = 0) : f = c ∧ Mp.num it p c f q = ⟨it, 0, 0, q⟩ := by
  unfold Mp.num at h ⊢
  by_cases a : f = c
  · exact ⟨a, by rw [if_neg (fun h => h a)]⟩
  · rw [if_pos a] at h; cases h
theorem Mp.kids_just (b : Str) (d : Nat) (f : Int → Mp.Got) (hp : ∀ q : Int, 0 ≤ q → q ≤ b.length → q ≤ (f q).pos ∧ (f q).pos ≤ b.length ∧ ((f q).err = 0 → q < (f q).pos)) (hf : ∀ q : Int, 0 ≤ q → q ≤ b.length → (f q).err = 0 → Mp.Just b d q (f q)) : ∀ (n : Nat) (it : Itm) (q : Int), 0 ≤ q → q ≤ b.length → (Mp.kids f it n q).err = 0 →
    ∃ ks : List Itm, (Mp.kids f it n q).it = .mk it.kind it.n it.bytes it.text (it.kids ++ ks) ∧ ks.length = n ∧ Mp.chks ks = 0 ∧ Mp.lays ks = cutOf b q (Mp.kids f it n q).pos ∧ Itm.nests ks ≤ d ∧ q ≤ (Mp.kids f it n q).pos := by
  intro n
  induction n with
  | zero => intro it q h0 h1 _; refine ⟨[], ?_, rfl, rfl, ?_, Nat.zero_le _, Int.le_refl _⟩
            · cases it; simp [Mp.kids, Itm.kind, Itm.n, Itm.bytes, Itm.text, Itm.kids]
            · simp [Mp.kids, Mp.lays, cutOf]
  | succ n ih =>
    intro it q h0 h1 he
    rw [Mp.kids] at he ⊢
    by_cases a : (f q).err = 0
    · rw [if_neg (fun h => h a)] at he ⊢
      obtain ⟨p1, p2, p3⟩ := hp q h0 h1
      obtain ⟨j1, j2, j3⟩ := hf q h0 h1 a
      obtain ⟨ks, i1, i2, i3, i4, i5, i6⟩ := ih _ _ (by omega) p2 he
      refine ⟨(f q).it :: ks, ?_, by rw [List.length_cons, i2], ?_, ?_, ?_, by omega⟩
      · rw [i1]
        simp only [Itm.kind, Itm.n, Itm.bytes, Itm.text, Itm.kids]
        rw [List.append_assoc]; rfl
      · rw [Mp.chks, if_pos j1]; exact i3
      · rw [Mp.lays, j2, i4]
        exact (slice_app b q (f q).pos _ h0 p1 i6).symm
      · rw [Itm.nests]; omega
    · rw [if_pos a] at he; exact (a he).elim
theorem Mp.chk_leaf (k : Int) (n : UInt64) (b t : Str) (h : Mp.own (.mk k n b t []) = 0) : Mp.chk (.mk k n b t []) = 0 := by rw [Mp.chk, if_pos h]; rfl
theorem Mp.lay_leaf (k : Int) (n : UInt64) : Mp.lay (.mk k n [] [] []) = Mp.head (.mk k n [] [] []) := by simp [Mp.lay, Mp.lays]
theorem Mp.lenU (u : UInt64) : UInt64.ofNat u.toNat = u := UInt64.ofNat_toNat
theorem cutOf_len (b : Str) (q : Int) (n : Nat) (h : q + n ≤ b.length) (h0 : 0 ≤ q) : (cutOf b q (q + n)).length = n := by
  rw [cutOf, List.length_take, List.length_drop]; omega
theorem Mp.row_just {b : Str} {it : Itm} {p q : Int} {m : Nat} (h : (Mp.row b it p q m).err = 0) : q + m ≤ b.length ∧ (it.kind ≠ 4 → Mp.row b it p q m = ⟨.mk it.kind it.n (cutOf b q (q + m)) it.text it.kids, 0, 0, q + m⟩) ∧ (it.kind = 4 → Utf.whole (cutOf b q (q + m)) = true ∧ Mp.row b it p q m = ⟨.mk it.kind it.n it.bytes (cutOf b q (q + m)) it.kids, 0, 0, q + m⟩) := by
  unfold Mp.row at h ⊢
  have e : cutOf b q (q + m) = (b.drop q.toNat).take (m : Int).toNat := by rw [cutOf]; congr 1; omega
  rw [e]
  by_cases a : (m : Int) < 0 ∨ (b.length : Int) - q < m
  · rw [if_pos a] at h; cases h
  rw [if_neg a] at h ⊢
  refine ⟨by omega, fun k4 => by rw [if_pos k4], fun k4 => ?_⟩
  rw [if_neg (fun h => h k4)] at h ⊢
  by_cases a5 : Utf.whole ((b.drop q.toNat).take (m : Int).toNat) = true
  · exact ⟨a5, by rw [if_pos a5]⟩
  · rw [if_neg a5] at h; cases h
section
variable {c : UInt8} {L : Str} {u : UInt64} {k : Int} {n0 : UInt64} {long : Int}
theorem Mp.end_just (b : Str) (d : Nat) (sub : Int → Mp.Got) (hp : ∀ q : Int, 0 ≤ q → q ≤ b.length → q ≤ (sub q).pos ∧ (sub q).pos ≤ b.length ∧ ((sub q).err = 0 → q < (sub q).pos)) (hf : ∀ q : Int, 0 ≤ q → q ≤ b.length → (sub q).err = 0 → Mp.Just b d q (sub q))
    (hS : Mp.Says c L u k n0 long) (p q : Int) (h0 : 0 ≤ p) (hpq : p ≤ q) (hq : q ≤ b.length) (ty : UInt8) (hsl : cutOf b p q = c :: (L ++ if k = 10 then [ty] else []))
    (h : (Mp.readEnd b sub p (c.toNat : Int) k u long (if k = 10 then ty.toUInt64 else 0) q).err = 0) : Mp.Just b (d + 1) p (Mp.readEnd b sub p (c.toNat : Int) k u long (if k = 10 then ty.toUInt64 else 0) q) := by
  obtain ⟨F1, _, _, F5⟩ := hS.kinds
  have hu8 := hS.u8
  have hu32 := hS.u32
  have leaf : ∀ (n : UInt64), k ≠ 10 → Mp.own (.mk k n [] [] []) = 0 → Mp.head (.mk k n [] [] []) = c :: L → Mp.Just b (d + 1) p ⟨.mk k n [] [] [], 0, 0, q⟩ := by
    intro n k10 ho hh
    rw [if_neg k10, List.append_nil] at hsl
    exact ⟨Mp.chk_leaf _ _ _ _ ho, by rw [Mp.lay_leaf, hh, hsl], by simp [Itm.nest, Itm.nests]⟩
  have w0 : Utf.whole [] = true := by decide
  unfold Mp.readEnd at h ⊢
  by_cases k2 : k = 2
  · subst k2
    rw [if_neg (by decide), if_neg (by decide), if_pos rfl] at h ⊢
    have own2 : ∀ n : UInt64, n < 9223372036854775808 → Mp.own (.mk 2 n [] [] []) = 0 := by
      intro n hn
      have : ¬ (9223372036854775808 : UInt64) ≤ n := UInt64.not_le.2 hn
      simp [Mp.own, w0, this]
    by_cases a : long = 0
    · have hu31 := F5 rfl a
      rw [if_pos a] at h ⊢
      obtain ⟨e, g⟩ := Mp.num_err h
      rw [g]
      exact leaf u (by decide) (own2 u (by rw [UInt64.lt_iff_toNat_lt]; show u.toNat < 9223372036854775808; omega)) ((Mp.want2 hS u (by rw [if_pos a]) 0).2 e)
    · rw [if_neg a] at h ⊢
      cases hbl : Mp.below u long with
      | none => rw [hbl] at h; cases h
      | some m =>
        rw [hbl] at h
        have hl := hS.long'
        have hB := Mp.below_eq u long (by omega) (hu8 a) _ rfl _ rfl
        rw [hbl] at hB
        have hm63 : m < 9223372036854775808 := by
          rw [hB.1] at hB
          exact UInt64.not_le.1 hB.2
        obtain ⟨e, g⟩ := Mp.num_err h
        simp only
        rw [g]
        exact leaf m (by decide) (own2 m hm63) ((Mp.want2 hS m (by rw [if_neg a]; exact hbl) 0).2 e)
  by_cases k8 : k = 8
  · subst k8
    obtain ⟨w1, w2, w3⟩ := Mp.want8 hS 0
    rw [if_pos (by decide)]
    refine leaf u (by decide) ?_ w1
    have q1 : ¬ u < 20 := fun h => by
      have := UInt64.lt_iff_toNat_lt.1 h; have := UInt64.le_iff_toNat_le.1 w2; omega
    have q2 : ¬ 22 < u := fun h => by
      have := UInt64.lt_iff_toNat_lt.1 h; have := UInt64.le_iff_toNat_le.1 w3; omega
    simp [Mp.own, w0, q1, q2]
  by_cases k9 : k = 9
  · subst k9
    rw [if_pos (by decide)]
    exact leaf u (by decide) (by simp [Mp.own, w0]) (Mp.want9 hS 0)
  rw [if_neg (show ¬ (k = 8 ∨ k = 9) by omega)] at h ⊢
  by_cases k1 : k = 1
  · subst k1
    rw [if_pos rfl] at h ⊢
    obtain ⟨e, g⟩ := Mp.num_err h
    rw [g]
    exact leaf u (by decide) (by simp [Mp.own, w0]) ((Mp.want1 hS 0).2 e)
  rw [if_neg k1, if_neg k2] at h ⊢
  have hk : k = 3 ∨ k = 4 ∨ k = 5 ∨ k = 6 ∨ k = 10 := by omega
  have hu := hu32 (by omega)
  by_cases a : (Mp.sized k u.toNat).1 ≠ (c.toNat : Int) ∨ 127 < (if k = 10 then ty.toUInt64 else 0)
  · rw [if_pos a] at h; cases h
  rw [if_neg a] at h ⊢
  have he : (Mp.sized k u.toNat).1 = (c.toNat : Int) := Classical.byContradiction fun h => a (.inl h)
  have hput := Mp.put_says hS hk hu he
  by_cases k5 : k = 5
  · subst k5
    rw [if_neg (by decide), List.append_nil] at hsl
    simp only [show ((5 : Int) = 10) = False from propext ⟨by decide, False.elim⟩, if_false, if_true] at h ⊢
    obtain ⟨ks, i1, i2, i3, i4, i5, i6⟩ := Mp.kids_just b d sub hp hf _ _ q (by omega) hq h
    simp only [Itm.kind, Itm.n, Itm.bytes, Itm.text, Itm.kids, List.nil_append] at i1
    refine ⟨?_, ?_, ?_⟩
    · rw [i1, Mp.chk, if_pos (by simp [Mp.own, w0]; omega)]; exact i3
    · rw [i1, Mp.lay, List.append_nil, List.append_nil, i4, slice_app b p q _ h0 hpq i6]
      congr 1
      simp only [Mp.head, i2, Mp.lenU]
      exact hput.trans hsl.symm
    · rw [i1, Itm.nest]; omega
  by_cases k6 : k = 6
  · subst k6
    rw [if_neg (by decide), List.append_nil] at hsl
    simp only [show ((6 : Int) = 10) = False from propext ⟨by decide, False.elim⟩, show ((6 : Int) = 5) = False from propext ⟨by decide, False.elim⟩, if_false, if_true] at h ⊢
    obtain ⟨ks, i1, i2, i3, i4, i5, i6⟩ := Mp.kids_just b d sub hp hf _ _ q (by omega) hq h
    simp only [Itm.kind, Itm.n, Itm.bytes, Itm.text, Itm.kids, List.nil_append] at i1
    have i2' : ks.length / 2 = u.toNat := by omega
    refine ⟨?_, ?_, ?_⟩
    · rw [i1, Mp.chk, if_pos (by simp [Mp.own, w0]; omega)]; exact i3
    · rw [i1, Mp.lay, List.append_nil, List.append_nil, i4, slice_app b p q _ h0 hpq i6]
      congr 1
      have : Mp.head (.mk 6 0 [] [] ks) = Mp.put (Mp.sized 6 (ks.length / 2 : Nat)) (UInt64.ofNat (ks.length / 2)) := by simp only [Mp.head]; rfl
      rw [this, i2', Mp.lenU]
      exact hput.trans hsl.symm
    · rw [i1, Itm.nest]; omega
  rw [if_neg k5, if_neg k6] at h ⊢
  obtain ⟨r1, r2, r3⟩ := Mp.row_just h
  have hcl := cutOf_len b q u.toNat r1 (by omega)
  have hS2 := slice_app b p q (q + u.toNat) h0 hpq (by omega)
  by_cases k4 : k = 4
  · subst k4
    obtain ⟨r4, r5⟩ := r3 rfl
    rw [if_neg (by decide), List.append_nil] at hsl
    rw [r5]
    simp only [Itm.kind, Itm.n, Itm.bytes, Itm.text, Itm.kids, show ((4 : Int) = 10) = False from propext ⟨by decide, False.elim⟩, if_false]
    refine ⟨Mp.chk_leaf _ _ _ _ (by simp [Mp.own, r4, hcl]; omega), ?_, by simp [Itm.nest, Itm.nests]⟩
    simp only [Mp.lay, Mp.lays, List.append_nil]
    rw [hS2]
    congr 1
    simp only [Mp.head, hcl, Mp.lenU]
    exact hput.trans hsl.symm
  by_cases k10 : k = 10
  · subst k10
    rw [if_pos rfl] at hsl
    rw [r2 (show (10 : Int) ≠ 4 by decide)]
    simp only [Itm.kind, Itm.n, Itm.bytes, Itm.text, Itm.kids, if_true] at a ⊢
    have h127 : ¬ (127 : UInt64) < ty.toUInt64 := fun h => a (.inr h)
    refine ⟨Mp.chk_leaf _ _ _ _ (by simp [Mp.own, w0, hcl, h127]; omega), ?_, by simp [Itm.nest, Itm.nests]⟩
    simp only [Mp.lay, Mp.lays, List.append_nil]
    rw [hS2]
    congr 1
    have : Mp.head (.mk 10 ty.toUInt64 (cutOf b q (q + u.toNat)) [] []) = Mp.put (Mp.sized 10 (cutOf b q (q + u.toNat)).length) (UInt64.ofNat (cutOf b q (q + u.toNat)).length) ++ [ty.toUInt64.toUInt8] := by simp only [Mp.head]; rfl
    rw [this, hcl, Mp.lenU, hput, hsl]
    simp
  · have k3 : k = 3 := by omega
    subst k3
    rw [if_neg (by decide), List.append_nil] at hsl
    rw [r2 (show (3 : Int) ≠ 4 by decide)]
    simp only [Itm.kind, Itm.n, Itm.bytes, Itm.text, Itm.kids, show ((3 : Int) = 10) = False from propext ⟨by decide, False.elim⟩, if_false]
    refine ⟨Mp.chk_leaf _ _ _ _ (by simp [Mp.own, w0, hcl]; omega), ?_, by simp [Itm.nest, Itm.nests]⟩
    simp only [Mp.lay, Mp.lays, List.append_nil]
    rw [hS2]
    have hh : Mp.head (.mk 3 0 (cutOf b q (q + u.toNat)) [] []) = Mp.put (Mp.sized 3 u.toNat) u := by simp only [Mp.head, hcl, Mp.lenU]; rfl
    rw [hh, hput, hsl]
end
theorem Mp.read_just (b : Str) : ∀ (d : Nat) (p : Int), 0 ≤ p → p ≤ b.length → (Mp.read b d p).err = 0 → Mp.Just b d p (Mp.read b d p) := by
  intro d
  induction d with
  | zero => intro p _ _ h; cases h
  | succ d ih =>
    intro p h0 h1
    rw [Mp.read]
    by_cases g1 : (b.length : Int) ≤ p
    · rw [if_pos g1]; intro h; cases h
    rw [if_neg g1]
    have hc := Mp.first_kinds ((b.getD p.toNat 0).toNat : Int) ⟨by omega, by have := (b.getD p.toNat 0).toNat_lt; omega⟩
    generalize hF : Mp.first ((b.getD p.toNat 0).toNat : Int) = F at hc
    obtain ⟨k, n0, long⟩ := F
    simp only at hc ⊢
    obtain ⟨_, hl, _⟩ := hc
    unfold Mp.readAt
    by_cases g2 : k = 0
    · rw [if_pos g2]; intro h; cases h
    rw [if_neg g2]
    by_cases g3 : (b.length : Int) - (p + 1) < long
    · rw [if_pos g3]; intro h; cases h
    rw [if_neg g3]
    have hS : Mp.Says (b.getD p.toNat 0) ((b.drop (p + 1).toNat).take long.toNat) (if long = 0 then n0 else Cur.be ((b.drop (p + 1).toNat).take long.toNat)) k n0 long := ⟨hF, g2, by rw [List.length_take, List.length_drop]; omega, rfl⟩
    have hsl0 : ((b.drop p.toNat).take (1 + long.toNat)) = b.getD p.toNat 0 :: (b.drop (p + 1).toNat).take long.toNat := by
      rw [drop_take_split b p.toNat long.toNat (by omega), show (p + 1).toNat = p.toNat + 1 by omega]
    generalize (if long = 0 then n0 else Cur.be ((b.drop (p + 1).toNat).take long.toNat)) = u at hS
    unfold Mp.readTail
    by_cases g4 : k = 10
    · rw [if_pos g4]
      by_cases g5 : (b.length : Int) - (p + 1 + long) < 1
      · rw [if_pos g5]; intro h; cases h
      rw [if_neg g5]
      intro h
      have J := Mp.end_just b d _ (Mp.read_pos b d) ih hS p (p + 1 + long + 1) h0 (by omega) (by omega) (b.getD (p + 1 + long).toNat 0) (by
        rw [cutOf, if_pos g4, show (p + 1 + long + 1 - p).toNat = (1 + long.toNat) + 1 by omega, take_snoc _ _ (by rw [List.length_drop]; omega), hsl0, List.cons_append, getD_dropped, show p.toNat + (1 + long.toNat) = (p + 1 + long).toNat by omega])
      rw [if_pos g4] at J
      exact J h
    · rw [if_neg g4]
      intro h
      have J := Mp.end_just b d _ (Mp.read_pos b d) ih hS p (p + 1 + long) h0 (by omega) (by omega) 0 (by
        rw [cutOf, if_neg g4, List.append_nil, show (p + 1 + long - p).toNat = 1 + long.toNat by omega, hsl0])
      rw [if_neg g4] at J
      exact J h
theorem Mp.read_within (b : Str) : ∀ (d : Nat) (p : Int), 0 ≤ p → p ≤ b.length → 0 ≤ (Mp.read b d p).at_ ∧ (Mp.read b d p).at_ ≤ b.length := by
  have num : ∀ (it : Itm) (p c f q : Int), 0 ≤ p → p ≤ b.length → 0 ≤ (Mp.num it p c f q).at_ ∧ (Mp.num it p c f q).at_ ≤ b.length := by
    intro it p c f q h0 h1; unfold Mp.num; split
    · exact ⟨h0, h1⟩
    · exact ⟨Int.le_refl _, by simp only; omega⟩
  have row : ∀ (it : Itm) (p q n : Int), 0 ≤ p → p ≤ b.length → 0 ≤ (Mp.row b it p q n).at_ ∧ (Mp.row b it p q n).at_ ≤ b.length := by
    intro it p q n h0 h1
    unfold Mp.row
    repeat' split
    all_goals first
      | exact ⟨h0, h1⟩
      | exact ⟨Int.le_refl _, by simp only; omega⟩
  intro d
  induction d with
  | zero => intro p h0 h1; exact ⟨h0, h1⟩
  | succ d ih =>
    intro p h0 h1
    have kids : ∀ (n : Nat) (it : Itm) (q : Int), 0 ≤ q → q ≤ b.length → 0 ≤ (Mp.kids (Mp.read b d) it n q).at_ ∧ (Mp.kids (Mp.read b d) it n q).at_ ≤ b.length := by
      intro n
      induction n with
      | zero => intro it q _ _; exact ⟨Int.le_refl _, by simp only [Mp.kids]; omega⟩
      | succ n ih' =>
        intro it q h0 h1
        rw [Mp.kids]
        split
        · exact ih q h0 h1
        · obtain ⟨p1, p2, _⟩ := Mp.read_pos b d q h0 h1
          exact ih' _ _ (by omega) p2
    have fin : ∀ (c k : Int) (n : UInt64) (long : Int) (t : UInt64) (q : Int), 0 ≤ q → q ≤ b.length → 0 ≤ (Mp.readEnd b (Mp.read b d) p c k n long t q).at_ ∧ (Mp.readEnd b (Mp.read b d) p c k n long t q).at_ ≤ b.length := by
      intro c k n long t q q0 q1
      unfold Mp.readEnd
      repeat' split
      all_goals first
        | exact ⟨h0, h1⟩
        | exact num _ _ _ _ _ h0 h1
        | exact kids _ _ _ q0 q1
        | exact row _ _ _ _ h0 h1
        | exact ⟨Int.le_refl _, by simp only; omega⟩
    rw [Mp.read]
    have hl := (Mp.first_kinds ((b.getD p.toNat 0).toNat : Int) ⟨by omega, by have := (b.getD p.toNat 0).toNat_lt; omega⟩).2.1
    generalize Mp.first ((b.getD p.toNat 0).toNat : Int) = F at hl
    obtain ⟨k, n0, long⟩ := F
    simp only at hl ⊢
    unfold Mp.readAt Mp.readTail
    repeat' split
    all_goals first
      | exact ⟨h0, h1⟩
      | (refine fin _ _ _ _ _ _ ?_ ?_ <;> omega)
theorem Mp.dec_just (b : Str) (depth : Int) : ((Mp.dec b depth).2.err = 0 → Mp.chk (Mp.dec b depth).1 = 0 ∧ Mp.lay (Mp.dec b depth).1 = b ∧ (Itm.nest (Mp.dec b depth).1 : Int) ≤ depth) ∧
    ((Mp.dec b depth).2.err ≠ 0 → (Mp.dec b depth).1 = Mp.zero ∧ 0 ≤ (Mp.dec b depth).2.at_ ∧ (Mp.dec b depth).2.at_ ≤ b.length) := by
  unfold Mp.dec
  by_cases a : depth < 0 ∨ 1000 < depth
  · rw [if_pos a]; exact ⟨fun h => absurd h (by decide), fun _ => ⟨rfl, Int.le_refl _, by simp only; omega⟩⟩
  rw [if_neg a]
  have J := Mp.read_just b depth.toNat 0 (by omega) (by omega)
  have W := Mp.read_within b depth.toNat 0 (by omega) (by omega)
  have P := Mp.read_pos b depth.toNat 0 (by omega) (by omega)
  generalize Mp.read b depth.toNat 0 = g at J W P
  simp only
  by_cases e : g.err = 0
  · obtain ⟨j1, j2, j3⟩ := J e
    rw [if_neg (fun h => h e)]
    by_cases m : g.pos < b.length
    · rw [if_pos m]; exact ⟨fun h => absurd h (by simp), fun _ => ⟨rfl, by simp only; omega, by simp only; omega⟩⟩
    · rw [if_neg m]
      refine ⟨fun _ => ⟨j1, ?_, by simp only; omega⟩, fun h => (h rfl).elim⟩
      simp only
      rw [j2, cutOf, List.take_of_length_le (by simp only [List.length_drop]; omega)]; rfl
  · rw [if_pos e]
    exact ⟨fun h => (e h).elim, fun _ => ⟨rfl, W⟩⟩
end Go.Eng
namespace Go.Eng
noncomputable section
def MpackJust.sg : FSig := {}
def MpackJust.c : Ctr := fun l => match l with
  | [.sl .bs b, .i .i64 depth] => .ok [(.b (true))]
  | _ => .err
end
noncomputable section
def MpackJust.env : List (Nat × (Ctr × FSig)) := [(9, (law29_awake.c, law29_awake.sg)), (11, (mp_Encode.c, mp_Encode.sg)), (15, (mp_Decode.c, mp_Decode.sg)), (18, (ref28_Same.c, ref28_Same.sg)), (19, (law29_nest.c, law29_nest.sg))]
def MpackJust.E : TEnv := envL noGl MpackJust.env
def MpackJust.m : TM := .seq (.reg [
    ⟨.k .mv, [.c (.b false)], [4], none⟩]) none (.seq (.seq (.reg [
    ⟨.k (.call 9 (.plain 0 1)), [], [9], none⟩,
    ⟨.k (.un .not), [.s 9], [10], none⟩]) none (.cond (.s 10) [] (.seq (.reg [
    ⟨.k .mv, [.c (.b false)], [4], none⟩]) none .ret) .skip)) none (.seq (.seq (.reg [
    ⟨.k .mv, [.s 0], [11], none⟩,
    ⟨.k .len, [.s 11], [12], none⟩,
    ⟨.k (.bin .gtr), [.s 12, .c (.i .i64 (2000 : Int))], [13], none⟩]) none (.cond (.s 13) [] (.seq (.reg [
    ⟨.k .mv, [.c (.b true)], [4], none⟩]) none .ret) .skip)) none (.seq (.reg [
    ⟨.k .mv, [.s 0], [15], none⟩,
    ⟨.k .mv, [.s 1], [16], none⟩,
    ⟨.k (.call 15 (.plain 2 2)), [.s 15, .s 16], [17], none⟩,
    ⟨.k .mv, [.s 17], [14], none⟩,
    ⟨.k (.ex 0), [.s 14], [18], none⟩,
    ⟨.k (.ex 1), [.s 14], [19], none⟩,
    ⟨.al 1064 [(.i .i64 (0 : Int)), (.u64 (0 : UInt64)), (.sl .bs ([] : List UInt8)), (.s ([] : Str)), (.sl .il ([] : List Itm))] [], [.s 1064], [5, 1064], none⟩,
    ⟨.al 1065 [(.i .i64 (0 : Int)), (.i .i64 (0 : Int)), (.sl .is ([] : List Int))] [], [.s 1065], [6, 1065], none⟩,
    ⟨.k (.st 1064 0 5), [.s 5, .s 1064, .s 18], [1064], none⟩,
    ⟨.k (.st 1065 0 3), [.s 6, .s 1065, .s 19], [1065], none⟩]) none (.seq (.seq (.reg [
    ⟨.k (.fa 1065 0 0), [.s 6], [20], none⟩,
    ⟨.k (.ld 1065 0 1 false), [.s 20, .s 1065], [21], none⟩,
    ⟨.k (.bin .neq), [.s 21, .c (.i .i64 (0 : Int))], [22], none⟩]) none (.cond (.s 22) [] (.seq (.reg [
    ⟨.k (.fa 1065 0 1), [.s 6], [23], none⟩,
    ⟨.k (.ld 1065 1 1 false), [.s 23, .s 1065], [24], none⟩,
    ⟨.k (.bin .geq), [.s 24, .c (.i .i64 (0 : Int))], [25], none⟩,
    ⟨.k .mv, [.s 25], [26], none⟩,
    ⟨.k (.fa 1065 0 1), [.s 6], [27], some (26, true)⟩,
    ⟨.k (.ld 1065 1 1 false), [.s 27, .s 1065], [28], some (26, true)⟩,
    ⟨.k .mv, [.s 0], [29], some (26, true)⟩,
    ⟨.k .len, [.s 29], [30], some (26, true)⟩,
    ⟨.k (.bin .leq), [.s 28, .s 30], [31], some (26, true)⟩,
    ⟨.k .pick, [.s 26, .s 31, .c (.b false)], [32], none⟩,
    ⟨.k .mv, [.s 32], [33], none⟩,
    ⟨.k (.fa 1065 0 2), [.s 6], [34], some (33, true)⟩,
    ⟨.k (.ld 1065 2 1 false), [.s 34, .s 1065], [35], some (33, true)⟩,
    ⟨.k .len, [.s 35], [36], some (33, true)⟩,
    ⟨.k (.bin .eql), [.s 36, .c (.i .i64 (0 : Int))], [37], some (33, true)⟩,
    ⟨.k .pick, [.s 33, .s 37, .c (.b false)], [38], none⟩,
    ⟨.k .mv, [.s 38], [39], none⟩,
    ⟨.k (.ld 1064 0 5 true), [.s 5, .s 1064], [40], some (39, true)⟩,
    ⟨.bd [(.i .i64 (0 : Int)), (.u64 (0 : UInt64)), (.sl .bs ([] : List UInt8)), (.s ([] : Str)), (.sl .il ([] : List Itm))] [], [], [41], some (39, true)⟩,
    ⟨.k (.call 18 (.plain 2 1)), [.s 40, .s 41], [42], some (39, true)⟩,
    ⟨.k .pick, [.s 39, .s 42, .c (.b false)], [43], none⟩,
    ⟨.k .mv, [.s 43], [4], none⟩]) none .ret) .skip)) none (.seq (.reg [
    ⟨.k (.ld 1064 0 5 true), [.s 5, .s 1064], [45], none⟩,
    ⟨.k (.call 11 (.plain 1 2)), [.s 45], [46], none⟩,
    ⟨.k .mv, [.s 46], [44], none⟩,
    ⟨.k (.ex 0), [.s 44], [47], none⟩,
    ⟨.k (.ex 1), [.s 44], [48], none⟩,
    ⟨.k .mv, [.s 47], [7], none⟩,
    ⟨.k .mv, [.s 48], [8], none⟩]) none (.seq (.reg [
    ⟨.k .mv, [.s 8], [49], none⟩,
    ⟨.k (.bin .eql), [.s 49, .c (.i .i64 (0 : Int))], [50], none⟩,
    ⟨.k .mv, [.s 50], [51], none⟩,
    ⟨.k .mv, [.s 7], [52], some (51, true)⟩,
    ⟨.k .bs, [.s 52], [53], some (51, true)⟩,
    ⟨.k .mv, [.s 0], [54], some (51, true)⟩,
    ⟨.k .bs, [.s 54], [55], some (51, true)⟩,
    ⟨.k (.bin .eql), [.s 53, .s 55], [56], some (51, true)⟩,
    ⟨.k .pick, [.s 51, .s 56, .c (.b false)], [57], none⟩,
    ⟨.k .mv, [.s 57], [58], none⟩,
    ⟨.k (.ld 1064 0 5 true), [.s 5, .s 1064], [59], some (58, true)⟩,
    ⟨.k (.call 19 (.plain 1 1)), [.s 59], [60], some (58, true)⟩,
    ⟨.k .mv, [.s 1], [61], some (58, true)⟩,
    ⟨.k (.bin .leq), [.s 60, .s 61], [62], some (58, true)⟩,
    ⟨.k .pick, [.s 58, .s 62, .c (.b false)], [63], none⟩,
    ⟨.k .mv, [.s 63], [4], none⟩]) none .ret))))))
def MpackJust.d : TFD := { np := 2, m := MpackJust.m, ref := none, tips := [], res := [.t 4], own := [], new := none, tnew := [] }
noncomputable def MpackJust.F (b : List UInt8) (depth : Int) : Option (List TV) := MpackJust.d.run MpackJust.E [(.sl .bs b), (.i .i64 depth)]
theorem MpackJust.F_in (b : List UInt8) (depth : Int) {ρ : Option (List TV)} (K : ∀ (v1 : Int) (h1 : v1 = (Flt.err ((Mp.dec b depth).2))) (v2 : Int) (h2 : v2 = (Flt.at_ ((Mp.dec b depth).2))) (v3 : Bool) (h3 : v3 = (cond (decide ((0 : Int) ≤ v2)) (decide (v2 ≤ ((b).length : Int))) false)) (v4 : List Int) (h4 : v4 = (Flt.path ((Mp.dec b depth).2))) (v5 : Bool) (h5 : v5 = (cond v3 (decide (((v4).length : Int) = (0 : Int))) false)) (v6 : Bool) (h6 : v6 = (Itm.same (Itm.of (Itm.val ((Mp.dec b depth).1))) (Itm.of (Itv.mk (0 : Int) (0 : UInt64) ([] : List UInt8) ([] : Str) ([] : List Itm))))) (v7 : List UInt8) (h7 : v7 = (Mp.enc (Itm.of (Itm.val ((Mp.dec b depth).1))))) (v8 : Int) (h8 : v8 = (Mp.chk (Itm.of (Itm.val ((Mp.dec b depth).1))))) (v9 : Bool) (h9 : v9 = (cond (decide (v8 = (0 : Int))) (decide (v7 = b)) false)) (v10 : Int) (h10 : v10 = ((Itm.nest (Itm.of (Itm.val ((Mp.dec b depth).1))) : Int))) (v11 : Bool) (h11 : v11 = (cond v9 (decide (v10 ≤ depth)) false)), cond (!(true))
    (some [(.b false)])
    (cond (decide ((2000 : Int) < ((b).length : Int)))
    (some [(.b true)])
    (ck (decide ((b).length ≤ 1099511627776)) (cond (!decide (v1 = (0 : Int)))
    (ck (!(decide ((0 : Int) ≤ v2)) || (decide ((0 : Int) ≤ v2))) (ck (!(decide ((0 : Int) ≤ v2)) || (decide ((0 : Int) ≤ v2))) (ck (!(decide ((0 : Int) ≤ v2)) || ((decide ((0 : Int) ≤ v2)) && (decide ((0 : Int) ≤ v2)))) (ck (!(decide ((0 : Int) ≤ v2)) || (decide ((0 : Int) ≤ v2))) (ck (!v3 || v3) (ck (!v3 || v3) (ck (!v3 || v3) (ck (!v3 || v3) (ck (!v5 || ((v5 && v5) && (decide (Itm.bulk (Itm.of (Itm.val ((Mp.dec b depth).1))) ≤ 1099511627776)))) (ck (!v5 || v5) (some [(.b (cond v5 v6 false))])))))))))))
    (ck (decide (Itm.bulk (Itm.of (Itm.val ((Mp.dec b depth).1))) ≤ 1073741824)) (ck (!(decide (v8 = (0 : Int))) || (decide (v8 = (0 : Int)))) (ck (!(decide (v8 = (0 : Int))) || (decide (v8 = (0 : Int)))) (ck (!(decide (v8 = (0 : Int))) || ((decide (v8 = (0 : Int))) && (decide (v8 = (0 : Int))))) (ck (!(decide (v8 = (0 : Int))) || (decide (v8 = (0 : Int)))) (ck (!v9 || (v9 && (decide (Itm.bulk (Itm.of (Itm.val ((Mp.dec b depth).1))) ≤ 1099511627776)))) (ck (!v9 || (v9 && v9)) (ck (!v9 || v9) (some [(.b v11)])))))))))))) = ρ) : MpackJust.F b depth = ρ := Eq.trans (by kernel_rfl) (K _ rfl _ rfl _ rfl _ rfl _ rfl _ rfl _ rfl _ rfl _ rfl _ rfl _ rfl)
theorem MpackJust.chk : ((Go.Proofs.Try.prog.funcs[6]?).any fun fn => chkF Go.Proofs.Try.prog (fun k => ((envL noGl MpackJust.env).fs k).2) fn MpackJust.d.erase) = true := by kernel_rfl
end
end Go.Eng
namespace Go.Eng
open Go.IntWalk
theorem MpackJust.goal (b : Str) (depth : Int) : MpackJust.F b depth = some [.b true] := by
  refine MpackJust.F_in _ _ ?_
  intro v1 e1 v2 e2 v3 e3 v4 e4 v5 e5 v6 e6 v7 e7 v8 e8 v9 e9 v10 e10 v11 e11
  rw [Bool.not_true, cond_false]
  by_cases a : (2000 : Int) < b.length
  · rw [decide_eq_true a]; rfl
  have hb := Mp.dec_bulk b depth
  have hp := Mp.dec_path b depth
  obtain ⟨J1, J2⟩ := Mp.dec_just b depth
  rw [← e1] at J1 J2
  rw [← e2] at J2
  rw [hp] at e4
  rw [Itm.of_val] at *
  rw [decide_eq_false a, cond_false, ck_of (decide_eq_true (by omega))]
  by_cases e : v1 = 0
  · obtain ⟨j1, j2, j3⟩ := J1 e
    have h8 : v8 = 0 := by rw [e8]; exact j1
    have h7 : v7 = b := by rw [e7, Mp.enc, if_pos j1, j2]
    have h9 : v9 = true := by rw [e9, decide_eq_true h8, decide_eq_true h7]; rfl
    have h11 : v11 = true := by rw [e11, h9, e10, decide_eq_true j3]; rfl
    rw [decide_eq_true e, Bool.not_true, cond_false, ck_of (decide_eq_true (by omega))]
    simp only [h9, h11, Bool.not_or_self, Bool.and_self, Bool.true_and, ck_true]
    rw [ck_of (by rw [decide_eq_true (show Itm.bulk (Mp.dec b depth).1 ≤ 1099511627776 by omega)]; rfl)]
  · obtain ⟨j1, j2, j3⟩ := J2 e
    have h3 : v3 = true := by rw [e3, decide_eq_true j2, decide_eq_true j3]; rfl
    have h5 : v5 = true := by rw [e5, h3, e4]; rfl
    have h6 : v6 = true := by rw [e6, j1]; rfl
    rw [decide_eq_false e, Bool.not_false, cond_true]
    simp only [h3, h5, h6, Bool.not_or_self, Bool.and_self, Bool.true_and, ck_true, cond_true]
    rw [ck_of (by rw [decide_eq_true (show Itm.bulk (Mp.dec b depth).1 ≤ 1099511627776 by omega)]; rfl)]
end Go.Eng
namespace Go.Eng
theorem MpackJust.fit (b : List UInt8) (depth : Int) : ([.sl .bs b, .i .i64 depth] : List TV).length = MpackJust.d.np ∧ MpackJust.d.run (envL noGl MpackJust.env) [.sl .bs b, .i .i64 depth] = some (([(.b (true))] : List TV) ++ MpackJust.d.ps.toList.map fun q => ([.sl .bs b, .i .i64 depth] : List TV).getD q.1 .dead) :=
  ⟨by kernel_rfl, Eq.trans (b := MpackJust.F b depth) (by kernel_rfl) (Eq.trans (MpackJust.goal b depth) (by kernel_rfl))⟩
theorem MpackJust.ok : SpecOK Go.Proofs.Try.prog (fun n => (noGl n).av) 6 (Ctr.fs (MpackJust.c, MpackJust.sg)) :=
  meets (l := MpackJust.env) (all_cons law29_awake.ok (all_cons mp_Encode.ok (all_cons mp_Decode.ok (all_cons ref28_Same.ok (all_cons law29_nest.ok all_nil))))) MpackJust.chk (by
      intro ins outs h
      unfold MpackJust.c at h
      split at h
      · cases h; exact MpackJust.fit _ _
      · exact h.elim)
end Go.Eng
