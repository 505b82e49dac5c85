/- Texts of my own, one behind the other: MpG, MpP1, MpUtfP, MpP2, MpP3, MpP4, MpP5, MpP6, MpP7, MpP8, MpP9, MpP10, MpP11, MpP12, MpP13, MpP14, Sized, MpP. -/
import Derived.Test.YtheedbianknplaaT4
import Derived.WalkKit
import Derived.WalkSpells
import Derived.WalkLawsBesides
import Derived.ChangeSlices
import Derived.Maps.OwnOps
set_option linter.unusedVariables false
set_option linter.unusedSimpArgs false
namespace Go.Eng
noncomputable section
def ref1_PutHigh.env : List (Nat × (Ctr × FSig)) := [(70, (ref1_PutLow.c, ref1_PutLow.sg))]
def ref1_PutHigh.E : TEnv := envL noGl ref1_PutHigh.env
def ref1_PutHigh.m1 : TM := .seq (.seq (.reg [
    ⟨.k .mv, [.s 7], [14], none⟩,
    ⟨.k (.bin .geq), [.s 14, .c (.i .i64 (0 : Int))], [15], none⟩]) none (.cond (.s 15) [] .skip (.exit 0))) none (.seq (.block 1 [(6, .tip 103 1), (lk 103, .live 1)] (.reg [
    ⟨.k .mv, [.s 6], [18], none⟩,
    ⟨.k .mv, [.s 5], [19], none⟩,
    ⟨.k .mv, [.s 7], [20], none⟩,
    ⟨.k (.ix 1), [.s 19, .s 20], [21], none⟩,
    ⟨.k (.lr 1 false), [.s 21], [22], none⟩,
    ⟨.bl .bs 1, [.s 22], [23], none⟩,
    ⟨.k (.ap 101 103 1 1), [.s 18, .s 23, .s (lk 101), .s (lk 103)], [24, lk 101, lk 103], none⟩,
    ⟨.k .mv, [.s 24], [6], none⟩])) none (.reg [
    ⟨.k .mv, [.s 7], [16], none⟩,
    ⟨.k (.bin .sub), [.s 16, .c (.i .i64 (1 : Int))], [17], none⟩,
    ⟨.k .mv, [.s 17], [7], none⟩]))
def ref1_PutHigh.m : TM := .seq (.reg [
    ⟨.k .mv, [.c (.sl .bs ([] : List UInt8))], [4], none⟩]) none (.seq (.reg [
    ⟨.k .mv, [.s 0], [8], none⟩,
    ⟨.k .mv, [.s 1], [9], none⟩,
    ⟨.k (.call 70 (.plain 2 1)), [.s 8, .s 9], [10], none⟩,
    ⟨.k .mv, [.s 10], [5], none⟩]) none (.seq (.reg [
    ⟨.nl .bs 101, [.s (lk 101)], [6, lk 101], none⟩]) none (.seq (.seq (.reg [
    ⟨.k .mv, [.s 5], [11], none⟩,
    ⟨.k .len, [.s 11], [12], none⟩,
    ⟨.k (.bin .sub), [.s 12, .c (.i .i64 (1 : Int))], [13], none⟩,
    ⟨.k .mv, [.s 13], [7], none⟩]) none (.block 0 [(6, .tip 101 1), (lk 101, .live 1)] (.loop [5, 6, 7] [(6, .tip 101 1), (lk 101, .live 1)] ref1_PutHigh.m1))) none (.seq (.reg [
    ⟨.k .mv, [.s 6], [25], none⟩,
    ⟨.k .mv, [.s 25], [4], none⟩]) none .ret))))
def ref1_PutHigh.d : TFD := { np := 2, m := ref1_PutHigh.m, ref := none, tips := [], res := [.t 4], own := [], new := none, tnew := [] }
noncomputable def ref1_PutHigh.F (v : UInt64) (n : Int) : Option (List TV) := ref1_PutHigh.d.run ref1_PutHigh.E [(.u64 v), (.i .i64 n)]
noncomputable def ref1_PutHigh.k1 : Cont (List TV) := seqK (ev _ ref1_PutHigh.E (.seq (.reg [
    ⟨.k .mv, [.s 6], [25], none⟩,
    ⟨.k .mv, [.s 25], [4], none⟩]) none .ret)) none (endK ref1_PutHigh.d)
noncomputable def ref1_PutHigh.l1 (x0 : List UInt8) (x1 : List UInt8) (x2 : Int) : Option (List TV) := loopL (evO _ ref1_PutHigh.E ref1_PutHigh.m1) isN [5, 6, 7] (headT [5, 6, 7] [(.sl .bs x0), (.sl .bs x1), (.i .i64 x2)]) (blockK 0 ref1_PutHigh.k1)
theorem ref1_PutHigh.l1_in (x0 : List UInt8) (x1 : List UInt8) (x2 : Int) {ρ : Option (List TV)} (K : ∀ (v1 : UInt8) (h1 : v1 = (List.getD x0 (x2).toNat (0 : UInt8))) (v2 : Int) (h2 : v2 = (IntKind.i64.wrap (x2 - (1 : Int)))), cond (decide ((0 : Int) ≤ x2))
    (ck (idxOK x2 (x0).length) (ck (apOK ((x1).length + (([v1] : List UInt8)).length) 1) (ref1_PutHigh.l1 x0 (x1 ++ ([v1] : List UInt8)) v2)))
    (some [(.sl .bs x1)]) = ρ) : ref1_PutHigh.l1 x0 x1 x2 = ρ := ((ev_loop _ _ _ _ _ _).trans (by kernel_rfl)).trans (K _ rfl _ rfl)
theorem ref1_PutHigh.F_in (v : UInt64) (n : Int) {ρ : Option (List TV)} (K : ∀ (v1 : Int) (h1 : v1 = (((Cur.putLow v (n).toNat)).length : Int)) (v2 : Int) (h2 : v2 = (IntKind.i64.wrap (v1 - (1 : Int)))), ck (decide (0 ≤ n ∧ n ≤ 8)) (ref1_PutHigh.l1 (Cur.putLow v (n).toNat) ([] : List UInt8) v2) = ρ) : ref1_PutHigh.F v n = ρ := Eq.trans (by kernel_rfl) (K _ rfl _ rfl)
theorem ref1_PutHigh.chk : ((Go.Proofs.Try.prog.funcs[61]?).any fun fn => chkF Go.Proofs.Try.prog (fun k => ((envL noGl ref1_PutHigh.env).fs k).2) fn ref1_PutHigh.d.erase) = true := by kernel_rfl
end
noncomputable section
end
noncomputable section
def ref29_own.env : List (Nat × (Ctr × FSig)) := [(47, (ref2_Whole.c, ref2_Whole.sg))]
def ref29_own.E : TEnv := envL noGl ref29_own.env
def ref29_own.m : TM := .seq (.reg [
    ⟨.k (.bx 1165), [.s 0, .s 1165], [1, 1165], none⟩,
    ⟨.k .mv, [.c (.i .i64 (0 : Int))], [2], none⟩]) none (.seq (.reg [
    ⟨.k (.fa 1165 0 0), [.s 1], [4], none⟩,
    ⟨.k (.ld 1165 0 1 false), [.s 4, .s 1165], [5], none⟩,
    ⟨.k (.bin .neq), [.s 5, .c (.i .i64 (3 : Int))], [6], none⟩,
    ⟨.k .mv, [.s 6], [7], none⟩,
    ⟨.k (.fa 1165 0 0), [.s 1], [8], some (7, true)⟩,
    ⟨.k (.ld 1165 0 1 false), [.s 8, .s 1165], [9], some (7, true)⟩,
    ⟨.k (.bin .neq), [.s 9, .c (.i .i64 (4 : Int))], [10], some (7, true)⟩,
    ⟨.k .pick, [.s 7, .s 10, .c (.b false)], [11], none⟩,
    ⟨.k .mv, [.s 11], [12], none⟩,
    ⟨.k (.fa 1165 0 0), [.s 1], [13], some (12, true)⟩,
    ⟨.k (.ld 1165 0 1 false), [.s 13, .s 1165], [14], some (12, true)⟩,
    ⟨.k (.bin .neq), [.s 14, .c (.i .i64 (5 : Int))], [15], some (12, true)⟩,
    ⟨.k .pick, [.s 12, .s 15, .c (.b false)], [16], none⟩,
    ⟨.k .mv, [.s 16], [17], none⟩,
    ⟨.k (.fa 1165 0 0), [.s 1], [18], some (17, true)⟩,
    ⟨.k (.ld 1165 0 1 false), [.s 18, .s 1165], [19], some (17, true)⟩,
    ⟨.k (.bin .neq), [.s 19, .c (.i .i64 (6 : Int))], [20], some (17, true)⟩,
    ⟨.k .pick, [.s 17, .s 20, .c (.b false)], [21], none⟩,
    ⟨.k .mv, [.s 21], [3], none⟩]) none (.seq (.block 0 [] (.seq (.reg [
    ⟨.k (.fa 1165 0 0), [.s 1], [23], none⟩,
    ⟨.k (.ld 1165 0 1 false), [.s 23, .s 1165], [24], none⟩,
    ⟨.k (.bin .lss), [.s 24, .c (.i .i64 (1 : Int))], [25], none⟩,
    ⟨.k .mv, [.s 25], [26], none⟩,
    ⟨.k (.fa 1165 0 0), [.s 1], [27], some (26, false)⟩,
    ⟨.k (.ld 1165 0 1 false), [.s 27, .s 1165], [28], some (26, false)⟩,
    ⟨.k (.bin .gtr), [.s 28, .c (.i .i64 (10 : Int))], [29], some (26, false)⟩,
    ⟨.k .pick, [.s 26, .c (.b true), .s 29], [30], none⟩,
    ⟨.k .mv, [.s 30], [31], none⟩,
    ⟨.k (.fa 1165 0 0), [.s 1], [32], some (31, false)⟩,
    ⟨.k (.ld 1165 0 1 false), [.s 32, .s 1165], [33], some (31, false)⟩,
    ⟨.k (.bin .eql), [.s 33, .c (.i .i64 (7 : Int))], [34], some (31, false)⟩,
    ⟨.k .pick, [.s 31, .c (.b true), .s 34], [35], none⟩,
    ⟨.k .mv, [.s 35], [22], none⟩]) none (.cond (.s 22) [] (.seq (.reg [
    ⟨.k .mv, [.c (.i .i64 (5 : Int))], [2], none⟩]) none .ret) (.seq (.reg [
    ⟨.k .mv, [.s 3], [37], none⟩,
    ⟨.k (.un .not), [.s 37], [38], none⟩,
    ⟨.k .mv, [.s 38], [39], none⟩,
    ⟨.k (.fa 1165 0 1), [.s 1], [40], some (39, true)⟩,
    ⟨.k (.ld 1165 1 1 false), [.s 40, .s 1165], [41], some (39, true)⟩,
    ⟨.k (.bin .neq), [.s 41, .c (.u64 (0 : UInt64))], [42], some (39, true)⟩,
    ⟨.k .pick, [.s 39, .s 42, .c (.b false)], [43], none⟩,
    ⟨.k .mv, [.s 43], [44], none⟩,
    ⟨.k (.fa 1165 0 0), [.s 1], [45], some (44, false)⟩,
    ⟨.k (.ld 1165 0 1 false), [.s 45, .s 1165], [46], some (44, false)⟩,
    ⟨.k (.bin .neq), [.s 46, .c (.i .i64 (3 : Int))], [47], some (44, false)⟩,
    ⟨.k .mv, [.s 47], [48], some (44, false)⟩,
    ⟨.k (.fa 1165 0 0), [.s 1], [49], some (48, true)⟩,
    ⟨.k (.ld 1165 0 1 false), [.s 49, .s 1165], [50], some (48, true)⟩,
    ⟨.k (.bin .neq), [.s 50, .c (.i .i64 (10 : Int))], [51], some (48, true)⟩,
    ⟨.k .pick, [.s 48, .s 51, .c (.b false)], [52], some (44, false)⟩,
    ⟨.k .mv, [.s 52], [53], some (44, false)⟩,
    ⟨.k (.fa 1165 0 2), [.s 1], [54], some (53, true)⟩,
    ⟨.k (.ld 1165 2 1 false), [.s 54, .s 1165], [55], some (53, true)⟩,
    ⟨.k .len, [.s 55], [56], some (53, true)⟩,
    ⟨.k (.bin .gtr), [.s 56, .c (.i .i64 (0 : Int))], [57], some (53, true)⟩,
    ⟨.k .pick, [.s 53, .s 57, .c (.b false)], [58], some (44, false)⟩,
    ⟨.k .pick, [.s 44, .c (.b true), .s 58], [59], none⟩,
    ⟨.k .mv, [.s 59], [60], none⟩,
    ⟨.k (.fa 1165 0 0), [.s 1], [61], some (60, false)⟩,
    ⟨.k (.ld 1165 0 1 false), [.s 61, .s 1165], [62], some (60, false)⟩,
    ⟨.k (.bin .neq), [.s 62, .c (.i .i64 (4 : Int))], [63], some (60, false)⟩,
    ⟨.k .mv, [.s 63], [64], some (60, false)⟩,
    ⟨.k (.fa 1165 0 3), [.s 1], [65], some (64, true)⟩,
    ⟨.k (.ld 1165 3 1 false), [.s 65, .s 1165], [66], some (64, true)⟩,
    ⟨.k (.bin .neq), [.s 66, .c (.s ([] : Str))], [67], some (64, true)⟩,
    ⟨.k .pick, [.s 64, .s 67, .c (.b false)], [68], some (60, false)⟩,
    ⟨.k .pick, [.s 60, .c (.b true), .s 68], [69], none⟩,
    ⟨.k .mv, [.s 69], [36], none⟩]) none (.cond (.s 36) [] (.seq (.reg [
    ⟨.k .mv, [.c (.i .i64 (1 : Int))], [2], none⟩]) none .ret) (.seq (.reg [
    ⟨.k (.fa 1165 0 0), [.s 1], [71], none⟩,
    ⟨.k (.ld 1165 0 1 false), [.s 71, .s 1165], [72], none⟩,
    ⟨.k (.bin .neq), [.s 72, .c (.i .i64 (5 : Int))], [73], none⟩,
    ⟨.k .mv, [.s 73], [74], none⟩,
    ⟨.k (.fa 1165 0 0), [.s 1], [75], some (74, true)⟩,
    ⟨.k (.ld 1165 0 1 false), [.s 75, .s 1165], [76], some (74, true)⟩,
    ⟨.k (.bin .neq), [.s 76, .c (.i .i64 (6 : Int))], [77], some (74, true)⟩,
    ⟨.k .pick, [.s 74, .s 77, .c (.b false)], [78], none⟩,
    ⟨.k .mv, [.s 78], [79], none⟩,
    ⟨.k (.fa 1165 0 4), [.s 1], [80], some (79, true)⟩,
    ⟨.k (.ld 1165 4 1 false), [.s 80, .s 1165], [81], some (79, true)⟩,
    ⟨.k .len, [.s 81], [82], some (79, true)⟩,
    ⟨.k (.bin .gtr), [.s 82, .c (.i .i64 (0 : Int))], [83], some (79, true)⟩,
    ⟨.k .pick, [.s 79, .s 83, .c (.b false)], [84], none⟩,
    ⟨.k .mv, [.s 84], [70], none⟩]) none (.cond (.s 70) [] (.seq (.reg [
    ⟨.k .mv, [.c (.i .i64 (1 : Int))], [2], none⟩]) none .ret) (.seq (.reg [
    ⟨.k (.fa 1165 0 0), [.s 1], [86], none⟩,
    ⟨.k (.ld 1165 0 1 false), [.s 86, .s 1165], [87], none⟩,
    ⟨.k (.bin .eql), [.s 87, .c (.i .i64 (2 : Int))], [88], none⟩,
    ⟨.k .mv, [.s 88], [89], none⟩,
    ⟨.k (.fa 1165 0 1), [.s 1], [90], some (89, true)⟩,
    ⟨.k (.ld 1165 1 1 false), [.s 90, .s 1165], [91], some (89, true)⟩,
    ⟨.k (.bin .geq), [.s 91, .c (.u64 (9223372036854775808 : UInt64))], [92], some (89, true)⟩,
    ⟨.k .pick, [.s 89, .s 92, .c (.b false)], [93], none⟩,
    ⟨.k .mv, [.s 93], [94], none⟩,
    ⟨.k (.fa 1165 0 0), [.s 1], [95], some (94, false)⟩,
    ⟨.k (.ld 1165 0 1 false), [.s 95, .s 1165], [96], some (94, false)⟩,
    ⟨.k (.bin .eql), [.s 96, .c (.i .i64 (8 : Int))], [97], some (94, false)⟩,
    ⟨.k .mv, [.s 97], [98], some (94, false)⟩,
    ⟨.k (.fa 1165 0 1), [.s 1], [99], some (98, true)⟩,
    ⟨.k (.ld 1165 1 1 false), [.s 99, .s 1165], [100], some (98, true)⟩,
    ⟨.k (.bin .lss), [.s 100, .c (.u64 (20 : UInt64))], [101], some (98, true)⟩,
    ⟨.k .mv, [.s 101], [102], some (98, true)⟩,
    ⟨.k (.fa 1165 0 1), [.s 1], [103], some (102, false)⟩,
    ⟨.k (.ld 1165 1 1 false), [.s 103, .s 1165], [104], some (102, false)⟩,
    ⟨.k (.bin .gtr), [.s 104, .c (.u64 (22 : UInt64))], [105], some (102, false)⟩,
    ⟨.k .pick, [.s 102, .c (.b true), .s 105], [106], some (98, true)⟩,
    ⟨.k .pick, [.s 98, .s 106, .c (.b false)], [107], some (94, false)⟩,
    ⟨.k .pick, [.s 94, .c (.b true), .s 107], [108], none⟩,
    ⟨.k .mv, [.s 108], [109], none⟩,
    ⟨.k (.fa 1165 0 0), [.s 1], [110], some (109, false)⟩,
    ⟨.k (.ld 1165 0 1 false), [.s 110, .s 1165], [111], some (109, false)⟩,
    ⟨.k (.bin .eql), [.s 111, .c (.i .i64 (10 : Int))], [112], some (109, false)⟩,
    ⟨.k .mv, [.s 112], [113], some (109, false)⟩,
    ⟨.k (.fa 1165 0 1), [.s 1], [114], some (113, true)⟩,
    ⟨.k (.ld 1165 1 1 false), [.s 114, .s 1165], [115], some (113, true)⟩,
    ⟨.k (.bin .gtr), [.s 115, .c (.u64 (127 : UInt64))], [116], some (113, true)⟩,
    ⟨.k .pick, [.s 113, .s 116, .c (.b false)], [117], some (109, false)⟩,
    ⟨.k .pick, [.s 109, .c (.b true), .s 117], [118], none⟩,
    ⟨.k .mv, [.s 118], [119], none⟩,
    ⟨.k (.fa 1165 0 0), [.s 1], [120], some (119, false)⟩,
    ⟨.k (.ld 1165 0 1 false), [.s 120, .s 1165], [121], some (119, false)⟩,
    ⟨.k (.bin .eql), [.s 121, .c (.i .i64 (6 : Int))], [122], some (119, false)⟩,
    ⟨.k .mv, [.s 122], [123], some (119, false)⟩,
    ⟨.k (.fa 1165 0 4), [.s 1], [124], some (123, true)⟩,
    ⟨.k (.ld 1165 4 1 false), [.s 124, .s 1165], [125], some (123, true)⟩,
    ⟨.k .len, [.s 125], [126], some (123, true)⟩,
    ⟨.k (.bin .rem), [.s 126, .c (.i .i64 (2 : Int))], [127], some (123, true)⟩,
    ⟨.k (.bin .neq), [.s 127, .c (.i .i64 (0 : Int))], [128], some (123, true)⟩,
    ⟨.k .pick, [.s 123, .s 128, .c (.b false)], [129], some (119, false)⟩,
    ⟨.k .pick, [.s 119, .c (.b true), .s 129], [130], none⟩,
    ⟨.k .mv, [.s 130], [85], none⟩]) none (.cond (.s 85) [] (.seq (.reg [
    ⟨.k .mv, [.c (.i .i64 (1 : Int))], [2], none⟩]) none .ret) (.seq (.reg [
    ⟨.k (.fa 1165 0 2), [.s 1], [132], none⟩,
    ⟨.k (.ld 1165 2 1 false), [.s 132, .s 1165], [133], none⟩,
    ⟨.k .len, [.s 133], [134], none⟩,
    ⟨.k (.bin .geq), [.s 134, .c (.i .i64 (4294967296 : Int))], [135], none⟩,
    ⟨.k .mv, [.s 135], [136], none⟩,
    ⟨.k (.fa 1165 0 3), [.s 1], [137], some (136, false)⟩,
    ⟨.k (.ld 1165 3 1 false), [.s 137, .s 1165], [138], some (136, false)⟩,
    ⟨.k .lns, [.s 138], [139], some (136, false)⟩,
    ⟨.k (.bin .geq), [.s 139, .c (.i .i64 (4294967296 : Int))], [140], some (136, false)⟩,
    ⟨.k .pick, [.s 136, .c (.b true), .s 140], [141], none⟩,
    ⟨.k .mv, [.s 141], [142], none⟩,
    ⟨.k (.fa 1165 0 0), [.s 1], [143], some (142, false)⟩,
    ⟨.k (.ld 1165 0 1 false), [.s 143, .s 1165], [144], some (142, false)⟩,
    ⟨.k (.bin .eql), [.s 144, .c (.i .i64 (5 : Int))], [145], some (142, false)⟩,
    ⟨.k .mv, [.s 145], [146], some (142, false)⟩,
    ⟨.k (.fa 1165 0 4), [.s 1], [147], some (146, true)⟩,
    ⟨.k (.ld 1165 4 1 false), [.s 147, .s 1165], [148], some (146, true)⟩,
    ⟨.k .len, [.s 148], [149], some (146, true)⟩,
    ⟨.k (.bin .geq), [.s 149, .c (.i .i64 (4294967296 : Int))], [150], some (146, true)⟩,
    ⟨.k .pick, [.s 146, .s 150, .c (.b false)], [151], some (142, false)⟩,
    ⟨.k .pick, [.s 142, .c (.b true), .s 151], [152], none⟩,
    ⟨.k .mv, [.s 152], [153], none⟩,
    ⟨.k (.fa 1165 0 4), [.s 1], [154], some (153, false)⟩,
    ⟨.k (.ld 1165 4 1 false), [.s 154, .s 1165], [155], some (153, false)⟩,
    ⟨.k .len, [.s 155], [156], some (153, false)⟩,
    ⟨.k (.bin .quo), [.s 156, .c (.i .i64 (2 : Int))], [157], some (153, false)⟩,
    ⟨.k (.bin .geq), [.s 157, .c (.i .i64 (4294967296 : Int))], [158], some (153, false)⟩,
    ⟨.k .pick, [.s 153, .c (.b true), .s 158], [159], none⟩,
    ⟨.k .mv, [.s 159], [131], none⟩]) none (.cond (.s 131) [] (.seq (.reg [
    ⟨.k .mv, [.c (.i .i64 (1 : Int))], [2], none⟩]) none .ret) (.seq (.reg [
    ⟨.k (.fa 1165 0 3), [.s 1], [161], none⟩,
    ⟨.k (.ld 1165 3 1 false), [.s 161, .s 1165], [162], none⟩,
    ⟨.k (.call 47 (.plain 1 1)), [.s 162], [163], none⟩,
    ⟨.k (.un .not), [.s 163], [164], none⟩,
    ⟨.k .mv, [.s 164], [160], none⟩]) none (.cond (.s 160) [] (.seq (.reg [
    ⟨.k .mv, [.c (.i .i64 (4 : Int))], [2], none⟩]) none .ret) .skip))))))))))))) none (.seq (.reg [
    ⟨.k .mv, [.c (.i .i64 (0 : Int))], [2], none⟩]) none .ret)))
def ref29_own.d : TFD := { np := 1, m := ref29_own.m, ref := none, tips := [], res := [.t 2], own := [], new := none, tnew := [] }
noncomputable def ref29_own.F (it : Itv) : Option (List TV) := ref29_own.d.run ref29_own.E [(.ag (Itv.cells it))]
theorem ref29_own.F_in (it : Itv) {ρ : Option (List TV)} (K : ∀ (v1 : Bool) (h1 : v1 = (cond (!decide ((Itv.kind it) = (3 : Int))) (!decide ((Itv.kind it) = (4 : Int))) false)) (v2 : Bool) (h2 : v2 = (cond v1 (!decide ((Itv.kind it) = (5 : Int))) false)) (v3 : Bool) (h3 : v3 = (cond v2 (!decide ((Itv.kind it) = (6 : Int))) false)) (v4 : Bool) (h4 : v4 = (cond (decide ((Itv.kind it) < (1 : Int))) true (decide ((10 : Int) < (Itv.kind it))))) (v5 : Bool) (h5 : v5 = (cond v4 true (decide ((Itv.kind it) = (7 : Int))))) (v6 : Bool) (h6 : v6 = (cond (!v3) (!decide ((Itv.n it) = (0 : UInt64))) false)) (v7 : Bool) (h7 : v7 = ((!v6) && (!decide ((Itv.kind it) = (3 : Int))))) (v8 : Bool) (h8 : v8 = (cond (!decide ((Itv.kind it) = (3 : Int))) (!decide ((Itv.kind it) = (10 : Int))) false)) (v9 : Int) (h9 : v9 = (((Itv.bytes it)).length : Int)) (v10 : Bool) (h10 : v10 = (cond v8 (decide ((0 : Int) < v9)) false)) (v11 : Bool) (h11 : v11 = ((!(cond v6 true v10)) && (!decide ((Itv.kind it) = (4 : Int))))) (v12 : Bool) (h12 : v12 = (cond (!decide ((Itv.kind it) = (4 : Int))) (!decide ((Itv.text it) = ([] : Str))) false)) (v13 : Bool) (h13 : v13 = (cond (cond v6 true v10) true v12)) (v14 : Bool) (h14 : v14 = (cond (!decide ((Itv.kind it) = (5 : Int))) (!decide ((Itv.kind it) = (6 : Int))) false)) (v15 : Int) (h15 : v15 = (((Itv.kids it)).length : Int)) (v16 : Bool) (h16 : v16 = (cond v14 (decide ((0 : Int) < v15)) false)) (v17 : Bool) (h17 : v17 = (cond (decide ((Itv.kind it) = (2 : Int))) (decide ((9223372036854775808 : UInt64) ≤ (Itv.n it))) false)) (v18 : Bool) (h18 : v18 = ((!v17) && (decide ((Itv.kind it) = (8 : Int))))) (v19 : Bool) (h19 : v19 = (v18 && (!(decide ((Itv.n it) < (20 : UInt64)))))) (v20 : Bool) (h20 : v20 = (cond (decide ((Itv.n it) < (20 : UInt64))) true (decide ((22 : UInt64) < (Itv.n it))))) (v21 : Bool) (h21 : v21 = (cond (decide ((Itv.kind it) = (8 : Int))) v20 false)) (v22 : Bool) (h22 : v22 = ((!(cond v17 true v21)) && (decide ((Itv.kind it) = (10 : Int))))) (v23 : Bool) (h23 : v23 = (cond (decide ((Itv.kind it) = (10 : Int))) (decide ((127 : UInt64) < (Itv.n it))) false)) (v24 : Bool) (h24 : v24 = (cond (cond v17 true v21) true v23)) (v25 : Bool) (h25 : v25 = ((!v24) && (decide ((Itv.kind it) = (6 : Int))))) (v26 : Bool) (h26 : v26 = (cond (decide ((Itv.kind it) = (6 : Int))) (!decide ((Int.tmod v15 (2 : Int)) = (0 : Int))) false)) (v27 : Int) (h27 : v27 = (((Itv.text it)).length : Int)) (v28 : Bool) (h28 : v28 = (cond (decide ((4294967296 : Int) ≤ v9)) true (decide ((4294967296 : Int) ≤ v27)))) (v29 : Bool) (h29 : v29 = ((!v28) && (decide ((Itv.kind it) = (5 : Int))))) (v30 : Bool) (h30 : v30 = (cond (decide ((Itv.kind it) = (5 : Int))) (decide ((4294967296 : Int) ≤ v15)) false)) (v31 : Int) (h31 : v31 = (IntKind.i64.wrap (Int.tdiv v15 (2 : Int)))) (v32 : Bool) (h32 : v32 = (cond (cond v28 true v30) true (decide ((4294967296 : Int) ≤ v31)))) (v33 : Bool) (h33 : v33 = (!(Utf.whole ((Itv.text it))))), ck (!(!decide ((Itv.kind it) = (3 : Int))) || (!decide ((Itv.kind it) = (3 : Int)))) (ck (!(!decide ((Itv.kind it) = (3 : Int))) || (!decide ((Itv.kind it) = (3 : Int)))) (ck (!(!decide ((Itv.kind it) = (3 : Int))) || (!decide ((Itv.kind it) = (3 : Int)))) (ck (!v1 || v1) (ck (!v1 || v1) (ck (!v1 || v1) (ck (!v2 || v2) (ck (!v2 || v2) (ck (!v2 || v2) (ck (!(!(decide ((Itv.kind it) < (1 : Int)))) || (!(decide ((Itv.kind it) < (1 : Int))))) (ck (!(!(decide ((Itv.kind it) < (1 : Int)))) || (!(decide ((Itv.kind it) < (1 : Int))))) (ck ((decide ((Itv.kind it) < (1 : Int))) || (!(decide ((Itv.kind it) < (1 : Int))))) (ck (!(!v4) || (!v4)) (ck (!(!v4) || (!v4)) (ck (v4 || (!v4)) (cond v5
    (some [(.i .i64 (5 : Int))])
    (ck (!(!v3) || (!v3)) (ck (!(!v3) || (!v3)) (ck (!(!v3) || (!v3)) (ck (!(!v6) || (!v6)) (ck (!(!v6) || (!v6)) (ck (!(!v6) || (!v6)) (ck (!v7 || v7) (ck (!v7 || v7) (ck (!(!v6) || ((!v6) && (!(!decide ((Itv.kind it) = (3 : Int))) || v7))) (ck (!(!v6) || (!v6)) (ck (!((!v6) && v8) || ((!v6) && v8)) (ck (!((!v6) && v8) || ((!v6) && v8)) (ck (!((!v6) && v8) || ((!v6) && v8)) (ck (!(!v6) || ((!v6) && (!v8 || ((!v6) && v8)))) (ck (v6 || (!v6)) (ck (!(!(cond v6 true v10)) || (!(cond v6 true v10))) (ck (!(!(cond v6 true v10)) || (!(cond v6 true v10))) (ck (!(!(cond v6 true v10)) || (!(cond v6 true v10))) (ck (!v11 || v11) (ck (!v11 || v11) (ck (!(!(cond v6 true v10)) || ((!(cond v6 true v10)) && (!(!decide ((Itv.kind it) = (4 : Int))) || v11))) (ck ((cond v6 true v10) || (!(cond v6 true v10))) (cond v13
    (some [(.i .i64 (1 : Int))])
    (ck (!(!decide ((Itv.kind it) = (5 : Int))) || (!decide ((Itv.kind it) = (5 : Int)))) (ck (!(!decide ((Itv.kind it) = (5 : Int))) || (!decide ((Itv.kind it) = (5 : Int)))) (ck (!(!decide ((Itv.kind it) = (5 : Int))) || (!decide ((Itv.kind it) = (5 : Int)))) (ck (!v14 || v14) (ck (!v14 || v14) (ck (!v14 || v14) (ck (!v14 || v14) (cond v16
    (some [(.i .i64 (1 : Int))])
    (ck (!(decide ((Itv.kind it) = (2 : Int))) || (decide ((Itv.kind it) = (2 : Int)))) (ck (!(decide ((Itv.kind it) = (2 : Int))) || (decide ((Itv.kind it) = (2 : Int)))) (ck (!(decide ((Itv.kind it) = (2 : Int))) || (decide ((Itv.kind it) = (2 : Int)))) (ck (!(!v17) || (!v17)) (ck (!(!v17) || (!v17)) (ck (!(!v17) || (!v17)) (ck (!v18 || v18) (ck (!v18 || v18) (ck (!v18 || v18) (ck (!v19 || v19) (ck (!v19 || v19) (ck (!v18 || (v18 && ((decide ((Itv.n it) < (20 : UInt64))) || v19))) (ck (!(!v17) || ((!v17) && (!(decide ((Itv.kind it) = (8 : Int))) || v18))) (ck (v17 || (!v17)) (ck (!(!(cond v17 true v21)) || (!(cond v17 true v21))) (ck (!(!(cond v17 true v21)) || (!(cond v17 true v21))) (ck (!(!(cond v17 true v21)) || (!(cond v17 true v21))) (ck (!v22 || v22) (ck (!v22 || v22) (ck (!(!(cond v17 true v21)) || ((!(cond v17 true v21)) && (!(decide ((Itv.kind it) = (10 : Int))) || v22))) (ck ((cond v17 true v21) || (!(cond v17 true v21))) (ck (!(!v24) || (!v24)) (ck (!(!v24) || (!v24)) (ck (!(!v24) || (!v24)) (ck (!v25 || v25) (ck (!v25 || v25) (ck (!v25 || (v25 && (!decide ((2 : Int) = 0)))) (ck (!v25 || v25) (ck (!(!v24) || ((!v24) && (!(decide ((Itv.kind it) = (6 : Int))) || v25))) (ck (v24 || (!v24)) (cond (cond v24 true v26)
    (some [(.i .i64 (1 : Int))])
    (ck (!(!(decide ((4294967296 : Int) ≤ v9))) || (!(decide ((4294967296 : Int) ≤ v9)))) (ck (!(!(decide ((4294967296 : Int) ≤ v9))) || (!(decide ((4294967296 : Int) ≤ v9)))) (ck (!(!(decide ((4294967296 : Int) ≤ v9))) || (!(decide ((4294967296 : Int) ≤ v9)))) (ck ((decide ((4294967296 : Int) ≤ v9)) || (!(decide ((4294967296 : Int) ≤ v9)))) (ck (!(!v28) || (!v28)) (ck (!(!v28) || (!v28)) (ck (!(!v28) || (!v28)) (ck (!v29 || v29) (ck (!v29 || v29) (ck (!v29 || v29) (ck (!(!v28) || ((!v28) && (!(decide ((Itv.kind it) = (5 : Int))) || v29))) (ck (v28 || (!v28)) (ck (!(!(cond v28 true v30)) || (!(cond v28 true v30))) (ck (!(!(cond v28 true v30)) || (!(cond v28 true v30))) (ck (!(!(cond v28 true v30)) || ((!(cond v28 true v30)) && (!decide ((2 : Int) = 0)))) (ck (!(!(cond v28 true v30)) || (!(cond v28 true v30))) (ck ((cond v28 true v30) || (!(cond v28 true v30))) (cond v32
    (some [(.i .i64 (1 : Int))])
    (ck (decide (((Itv.text it)).length ≤ 1099511627776)) (cond v33
    (some [(.i .i64 (4 : Int))])
    (some [(.i .i64 (0 : Int))])))))))))))))))))))))))))))))))))))))))))))))))))))))))))))))))))))))))))))))))))))))))))))))))))) = ρ) : ref29_own.F it = ρ := Eq.trans (by kernel_rfl) (K _ rfl _ rfl _ rfl _ rfl _ rfl _ rfl _ rfl _ rfl _ rfl _ rfl _ rfl _ rfl _ rfl _ rfl _ rfl _ rfl _ rfl _ rfl _ rfl _ rfl _ rfl _ rfl _ rfl _ rfl _ rfl _ rfl _ rfl _ rfl _ rfl _ rfl _ rfl _ rfl _ rfl)
theorem ref29_own.chk : ((Go.Proofs.Try.prog.funcs[28]?).any fun fn => chkF Go.Proofs.Try.prog (fun k => ((envL noGl ref29_own.env).fs k).2) fn ref29_own.d.erase) = true := by kernel_rfl
end
noncomputable section
def ref29_Check.env (n : Nat) : List (Nat × (Ctr × FSig)) := [(14, (ref29_Check.cn n, ref29_Check.sg)), (28, (ref29_own.c, ref29_own.sg))]
def ref29_Check.E (n : Nat) : TEnv := envL noGl (ref29_Check.env n)
def ref29_Check.m1 : TM := .seq (.seq (.reg [
    ⟨.k .mv, [.s 4], [7], none⟩,
    ⟨.k (.fa 1025 0 4), [.s 1], [8], none⟩,
    ⟨.k (.ld 1025 4 1 false), [.s 8, .s 1025], [9], none⟩,
    ⟨.k .len, [.s 9], [10], none⟩,
    ⟨.k (.bin .lss), [.s 7, .s 10], [11], none⟩,
    ⟨.k .mv, [.s 11], [12], none⟩,
    ⟨.k .mv, [.s 3], [13], some (12, true)⟩,
    ⟨.k (.bin .eql), [.s 13, .c (.i .i64 (0 : Int))], [14], some (12, true)⟩,
    ⟨.k .pick, [.s 12, .s 14, .c (.b false)], [15], none⟩]) none (.cond (.s 15) [] .skip (.exit 0))) none (.seq (.block 1 [(1, .ptr 1025 0), (1025, .cl [])] (.reg [
    ⟨.k (.fa 1025 0 4), [.s 1], [18], none⟩,
    ⟨.k (.ld 1025 4 1 false), [.s 18, .s 1025], [19], none⟩,
    ⟨.k .mv, [.s 4], [20], none⟩,
    ⟨.k (.ix 5), [.s 19, .s 20], [21], none⟩,
    ⟨.k (.lr 5 true), [.s 21], [22], none⟩,
    ⟨.k (.call 14 (.plain 1 1)), [.s 22], [23], none⟩,
    ⟨.k .mv, [.s 23], [3], none⟩])) none (.reg [
    ⟨.k .mv, [.s 4], [16], none⟩,
    ⟨.k (.bin .add), [.s 16, .c (.i .i64 (1 : Int))], [17], none⟩,
    ⟨.k .mv, [.s 17], [4], none⟩]))
def ref29_Check.m : TM := .seq (.reg [
    ⟨.k (.bx 1025), [.s 0, .s 1025], [1, 1025], none⟩,
    ⟨.k .mv, [.c (.i .i64 (0 : Int))], [2], none⟩]) none (.seq (.reg [
    ⟨.k (.ld 1025 0 5 true), [.s 1, .s 1025], [5], none⟩,
    ⟨.k (.call 28 (.plain 1 1)), [.s 5], [6], none⟩,
    ⟨.k .mv, [.s 6], [3], none⟩]) none (.seq (.seq (.reg [
    ⟨.k .mv, [.c (.i .i64 (0 : Int))], [4], none⟩]) none (.block 0 [] (.loop [1, 3, 4, 1025] [(1, .ptr 1025 0), (1025, .cl [])] ref29_Check.m1))) none (.seq (.reg [
    ⟨.k .mv, [.s 3], [24], none⟩,
    ⟨.k .mv, [.s 24], [2], none⟩]) none .ret)))
def ref29_Check.d : TFD := { np := 1, m := ref29_Check.m, ref := none, tips := [], res := [.t 2], own := [], new := none, tnew := [] }
noncomputable def ref29_Check.F (n : Nat) (it : Itv) : Option (List TV) := ref29_Check.d.run (ref29_Check.E n) [(.ag (Itv.cells it))]
noncomputable def ref29_Check.k1 (n : Nat) : Cont (List TV) := seqK (ev _ (ref29_Check.E n) (.seq (.reg [
    ⟨.k .mv, [.s 3], [24], none⟩,
    ⟨.k .mv, [.s 24], [2], none⟩]) none .ret)) none (endK ref29_Check.d)
noncomputable def ref29_Check.l1 (n : Nat) (x0 : Int) (x1 : Int) (x2 : Itv) : Option (List TV) := loopL (evO _ (ref29_Check.E n) ref29_Check.m1) isN [1, 3, 4, 1025] (headT [1, 3, 4, 1025] [.pt, (.i .i64 x0), (.i .i64 x1), (.ag (Itv.cells x2))]) (blockK 0 (ref29_Check.k1 n))
theorem ref29_Check.l1_in (n : Nat) (x0 : Int) (x1 : Int) (x2 : Itv) {ρ : Option (List TV)} (K : ∀ (v1 : Int) (h1 : v1 = (((Itv.kids x2)).length : Int)) (v2 : Bool) (h2 : v2 = (cond (decide (x1 < v1)) (decide (x0 = (0 : Int))) false)) (v3 : Int) (h3 : v3 = (Mp.chk (Itm.of (Itm.val (List.getD (Itv.kids x2) (x1).toNat (STy.dflt .il)))))) (v4 : Int) (h4 : v4 = (IntKind.i64.wrap (x1 + (1 : Int)))), ck (!(decide (x1 < v1)) || (decide (x1 < v1))) (ck (!(decide (x1 < v1)) || (decide (x1 < v1))) (cond v2
    (ck (idxOK x1 ((Itv.kids x2)).length) (ck ((decide (Itm.bulk (Itm.of (Itm.val (List.getD (Itv.kids x2) (x1).toNat (STy.dflt .il)))) ≤ 1099511627776)) && decide ((Itm.bulk (Itm.of (Itm.val (List.getD (Itv.kids x2) (x1).toNat (STy.dflt .il))))) < n)) (ref29_Check.l1 n v3 v4 x2)))
    (some [(.i .i64 x0)]))) = ρ) : ref29_Check.l1 n x0 x1 x2 = ρ := ((ev_loop _ _ _ _ _ _).trans (by kernel_rfl)).trans (K _ rfl _ rfl _ rfl _ rfl)
theorem ref29_Check.F_eq (n : Nat) (it : Itv) : ref29_Check.F n it = ck (decide (Itm.bulk (Itm.of it) ≤ 1099511627776)) (ref29_Check.l1 n (Mp.own (Itm.of it)) (0 : Int) it) := by kernel_rfl
theorem ref29_Check.chk (n : Nat) : ((Go.Proofs.Try.prog.funcs[14]?).any fun fn => chkF Go.Proofs.Try.prog (fun k => ((envL noGl (ref29_Check.env n)).fs k).2) fn ref29_Check.d.erase) = true := by kernel_rfl
end
noncomputable section
def ref29_wide.env : List (Nat × (Ctr × FSig)) := []
def ref29_wide.E : TEnv := envL noGl ref29_wide.env
def ref29_wide.m : TM := .seq (.reg [
    ⟨.k .mv, [.c (.i .i64 (0 : Int))], [2], none⟩]) none (.seq (.block 0 [] (.seq (.reg [
    ⟨.k .mv, [.s 0], [4], none⟩,
    ⟨.k (.bin .lss), [.s 4, .c (.u64 (256 : UInt64))], [5], none⟩,
    ⟨.k .mv, [.s 5], [3], none⟩]) none (.cond (.s 3) [] (.seq (.reg [
    ⟨.k .mv, [.c (.i .i64 (1 : Int))], [2], none⟩]) none .ret) (.seq (.reg [
    ⟨.k .mv, [.s 0], [7], none⟩,
    ⟨.k (.bin .lss), [.s 7, .c (.u64 (65536 : UInt64))], [8], none⟩,
    ⟨.k .mv, [.s 8], [6], none⟩]) none (.cond (.s 6) [] (.seq (.reg [
    ⟨.k .mv, [.c (.i .i64 (2 : Int))], [2], none⟩]) none .ret) (.seq (.reg [
    ⟨.k .mv, [.s 0], [10], none⟩,
    ⟨.k (.bin .lss), [.s 10, .c (.u64 (4294967296 : UInt64))], [11], none⟩,
    ⟨.k .mv, [.s 11], [9], none⟩]) none (.cond (.s 9) [] (.seq (.reg [
    ⟨.k .mv, [.c (.i .i64 (4 : Int))], [2], none⟩]) none .ret) .skip))))))) none (.seq (.reg [
    ⟨.k .mv, [.c (.i .i64 (8 : Int))], [2], none⟩]) none .ret))
def ref29_wide.d : TFD := { np := 1, m := ref29_wide.m, ref := none, tips := [], res := [.t 2], own := [], new := none, tnew := [] }
noncomputable def ref29_wide.F (n : UInt64) : Option (List TV) := ref29_wide.d.run ref29_wide.E [(.u64 n)]
theorem ref29_wide.F_eq (n : UInt64) : ref29_wide.F n = cond (decide (n < (256 : UInt64)))
    (some [(.i .i64 (1 : Int))])
    (cond (decide (n < (65536 : UInt64)))
    (some [(.i .i64 (2 : Int))])
    (cond (decide (n < (4294967296 : UInt64)))
    (some [(.i .i64 (4 : Int))])
    (some [(.i .i64 (8 : Int))]))) := by kernel_rfl
theorem ref29_wide.chk : ((Go.Proofs.Try.prog.funcs[68]?).any fun fn => chkF Go.Proofs.Try.prog (fun k => ((envL noGl ref29_wide.env).fs k).2) fn ref29_wide.d.erase) = true := by kernel_rfl
end
noncomputable section
def ref29_step.env : List (Nat × (Ctr × FSig)) := []
def ref29_step.E : TEnv := envL noGl ref29_step.env
def ref29_step.m : TM := .seq (.reg [
    ⟨.k .mv, [.c (.u8 (0 : UInt8))], [2], none⟩]) none (.seq (.seq (.reg [
    ⟨.k .mv, [.s 0], [3], none⟩]) none (.block 0 [] (.seq (.reg [
    ⟨.k (.bin .eql), [.s 3, .c (.i .i64 (1 : Int))], [5], none⟩,
    ⟨.k .mv, [.s 5], [4], none⟩]) none (.cond (.s 4) [] (.seq (.reg [
    ⟨.k .mv, [.c (.u8 (0 : UInt8))], [2], none⟩]) none .ret) (.seq (.reg [
    ⟨.k (.bin .eql), [.s 3, .c (.i .i64 (2 : Int))], [7], none⟩,
    ⟨.k .mv, [.s 7], [6], none⟩]) none (.cond (.s 6) [] (.seq (.reg [
    ⟨.k .mv, [.c (.u8 (1 : UInt8))], [2], none⟩]) none .ret) (.seq (.reg [
    ⟨.k (.bin .eql), [.s 3, .c (.i .i64 (4 : Int))], [9], none⟩,
    ⟨.k .mv, [.s 9], [8], none⟩]) none (.cond (.s 8) [] (.seq (.reg [
    ⟨.k .mv, [.c (.u8 (2 : UInt8))], [2], none⟩]) none .ret) .skip)))))))) none (.seq (.reg [
    ⟨.k .mv, [.c (.u8 (3 : UInt8))], [2], none⟩]) none .ret))
def ref29_step.d : TFD := { np := 1, m := ref29_step.m, ref := none, tips := [], res := [.t 2], own := [], new := none, tnew := [] }
noncomputable def ref29_step.F (n : Int) : Option (List TV) := ref29_step.d.run ref29_step.E [(.i .i64 n)]
theorem ref29_step.F_eq (n : Int) : ref29_step.F n = cond (decide (n = (1 : Int)))
    (some [(.u8 (0 : UInt8))])
    (cond (decide (n = (2 : Int)))
    (some [(.u8 (1 : UInt8))])
    (cond (decide (n = (4 : Int)))
    (some [(.u8 (2 : UInt8))])
    (some [(.u8 (3 : UInt8))]))) := by kernel_rfl
theorem ref29_step.chk : ((Go.Proofs.Try.prog.funcs[69]?).any fun fn => chkF Go.Proofs.Try.prog (fun k => ((envL noGl ref29_step.env).fs k).2) fn ref29_step.d.erase) = true := by kernel_rfl
end
noncomputable section
def ref29_form.env : List (Nat × (Ctr × FSig)) := [(61, (ref1_PutHigh.c, ref1_PutHigh.sg)), (68, (ref29_wide.c, ref29_wide.sg)), (69, (ref29_step.c, ref29_step.sg))]
def ref29_form.E : TEnv := envL noGl ref29_form.env
def ref29_form.m : TM := .seq (.reg [
    ⟨.k .mv, [.c (.sl .bs ([] : List UInt8))], [6], none⟩]) none (.seq (.reg [
    ⟨.k .mv, [.s 1], [8], none⟩,
    ⟨.k (.call 68 (.plain 1 1)), [.s 8], [9], none⟩,
    ⟨.k .mv, [.s 2], [10], none⟩,
    ⟨.k .mx, [.s 9, .s 10], [11], none⟩,
    ⟨.k .mv, [.s 11], [7], none⟩]) none (.seq (.reg [
    ⟨.k .mv, [.s 0], [12], none⟩,
    ⟨.k .mv, [.s 7], [13], none⟩,
    ⟨.k (.call 69 (.plain 1 1)), [.s 13], [14], none⟩,
    ⟨.k (.bin .add), [.s 12, .s 14], [15], none⟩,
    ⟨.k .mv, [.s 2], [16], none⟩,
    ⟨.k (.call 69 (.plain 1 1)), [.s 16], [17], none⟩,
    ⟨.k (.bin .sub), [.s 15, .s 17], [18], none⟩,
    ⟨.blt .bs 1 101, [.s 18, .s (lk 101)], [19, lk 101], none⟩,
    ⟨.k .mv, [.s 1], [20], none⟩,
    ⟨.k .mv, [.s 7], [21], none⟩,
    ⟨.k (.call 61 (.plain 2 1)), [.s 20, .s 21], [22], none⟩,
    ⟨.k (.ap 101 102 1 1), [.s 19, .s 22, .s (lk 101), .s (lk 102)], [23, lk 101, lk 102], none⟩,
    ⟨.k .mv, [.s 23], [6], none⟩]) none .ret))
def ref29_form.d : TFD := { np := 3, m := ref29_form.m, ref := none, tips := [], res := [.t 6], own := [(0, 1)], new := none, tnew := [] }
noncomputable def ref29_form.F (f : UInt8) (n : UInt64) (least : Int) : Option (List TV) := ref29_form.d.run ref29_form.E [(.u8 f), (.u64 n), (.i .i64 least)]
theorem ref29_form.F_in (f : UInt8) (n : UInt64) (least : Int) {ρ : Option (List TV)} (K : ∀ (v1 : UInt8) (h1 : v1 = (Mp.step ((maxI (Mp.wide n) least)))) (v2 : List UInt8) (h2 : v2 = ([((f + v1) - (Mp.step least))] : List UInt8)) (v3 : List UInt8) (h3 : v3 = (Cur.putHigh n (((maxI (Mp.wide n) least))).toNat)), ck (decide (0 ≤ ((maxI (Mp.wide n) least)) ∧ ((maxI (Mp.wide n) least)) ≤ 8)) (ck (apOK ((v2).length + (v3).length) 1) (some [(.sl .bs (v2 ++ v3))])) = ρ) : ref29_form.F f n least = ρ := Eq.trans (by kernel_rfl) (K _ rfl _ rfl _ rfl)
theorem ref29_form.chk : ((Go.Proofs.Try.prog.funcs[59]?).any fun fn => chkF Go.Proofs.Try.prog (fun k => ((envL noGl ref29_form.env).fs k).2) fn ref29_form.d.erase) = true := by kernel_rfl
end
noncomputable section
def ref29_ext.env : List (Nat × (Ctr × FSig)) := [(59, (ref29_form.c, ref29_form.sg))]
def ref29_ext.E : TEnv := envL noGl ref29_ext.env
def ref29_ext.m : TM := .seq (.reg [
    ⟨.k .mv, [.c (.sl .bs ([] : List UInt8))], [4], none⟩]) none (.seq (.seq (.reg [
    ⟨.k .mv, [.s 0], [5], none⟩]) none (.block 0 [] (.seq (.reg [
    ⟨.k (.bin .eql), [.s 5, .c (.u64 (1 : UInt64))], [7], none⟩,
    ⟨.k .mv, [.s 7], [6], none⟩]) none (.cond (.s 6) [] (.seq (.reg [
    ⟨.k .mv, [.s 1], [8], none⟩,
    ⟨.k (.ci .u8), [.s 8], [9], none⟩,
    ⟨.blt .bs 2 101, [.c (.u8 (212 : UInt8)), .s 9, .s (lk 101)], [10, lk 101], none⟩,
    ⟨.k .mv, [.s 10], [4], none⟩]) none .ret) (.seq (.reg [
    ⟨.k (.bin .eql), [.s 5, .c (.u64 (2 : UInt64))], [12], none⟩,
    ⟨.k .mv, [.s 12], [11], none⟩]) none (.cond (.s 11) [] (.seq (.reg [
    ⟨.k .mv, [.s 1], [13], none⟩,
    ⟨.k (.ci .u8), [.s 13], [14], none⟩,
    ⟨.blt .bs 2 102, [.c (.u8 (213 : UInt8)), .s 14, .s (lk 102)], [15, lk 102], none⟩,
    ⟨.k .mv, [.s 15], [4], none⟩]) none .ret) (.seq (.reg [
    ⟨.k (.bin .eql), [.s 5, .c (.u64 (4 : UInt64))], [17], none⟩,
    ⟨.k .mv, [.s 17], [16], none⟩]) none (.cond (.s 16) [] (.seq (.reg [
    ⟨.k .mv, [.s 1], [18], none⟩,
    ⟨.k (.ci .u8), [.s 18], [19], none⟩,
    ⟨.blt .bs 2 103, [.c (.u8 (214 : UInt8)), .s 19, .s (lk 103)], [20, lk 103], none⟩,
    ⟨.k .mv, [.s 20], [4], none⟩]) none .ret) (.seq (.reg [
    ⟨.k (.bin .eql), [.s 5, .c (.u64 (8 : UInt64))], [22], none⟩,
    ⟨.k .mv, [.s 22], [21], none⟩]) none (.cond (.s 21) [] (.seq (.reg [
    ⟨.k .mv, [.s 1], [23], none⟩,
    ⟨.k (.ci .u8), [.s 23], [24], none⟩,
    ⟨.blt .bs 2 104, [.c (.u8 (215 : UInt8)), .s 24, .s (lk 104)], [25, lk 104], none⟩,
    ⟨.k .mv, [.s 25], [4], none⟩]) none .ret) (.seq (.reg [
    ⟨.k (.bin .eql), [.s 5, .c (.u64 (16 : UInt64))], [27], none⟩,
    ⟨.k .mv, [.s 27], [26], none⟩]) none (.cond (.s 26) [] (.seq (.reg [
    ⟨.k .mv, [.s 1], [28], none⟩,
    ⟨.k (.ci .u8), [.s 28], [29], none⟩,
    ⟨.blt .bs 2 105, [.c (.u8 (216 : UInt8)), .s 29, .s (lk 105)], [30, lk 105], none⟩,
    ⟨.k .mv, [.s 30], [4], none⟩]) none .ret) .skip)))))))))))) none (.seq (.reg [
    ⟨.k .mv, [.s 0], [31], none⟩,
    ⟨.k (.call 59 ⟨3, none, [], [], 1, [(0, 106, 1)], none, []⟩), [.c (.u8 (199 : UInt8)), .s 31, .c (.i .i64 (1 : Int)), .s (lk 106)], [32, lk 106], none⟩,
    ⟨.k .mv, [.s 1], [33], none⟩,
    ⟨.k (.ci .u8), [.s 33], [34], none⟩,
    ⟨.bl .bs 1, [.s 34], [35], none⟩,
    ⟨.k (.ap 106 108 1 1), [.s 32, .s 35, .s (lk 106), .s (lk 108)], [36, lk 106, lk 108], none⟩,
    ⟨.k .mv, [.s 36], [4], none⟩]) none .ret))
def ref29_ext.d : TFD := { np := 2, m := ref29_ext.m, ref := none, tips := [], res := [.t 4], own := [(0, 1)], new := none, tnew := [] }
noncomputable def ref29_ext.F (n : UInt64) (k : UInt64) : Option (List TV) := ref29_ext.d.run ref29_ext.E [(.u64 n), (.u64 k)]
theorem ref29_ext.F_in (n : UInt64) (k : UInt64) {ρ : Option (List TV)} (K : ∀ (v1 : UInt8) (h1 : v1 = (UInt8.ofInt ((k).toNat : Int))) (v2 : List UInt8) (h2 : v2 = ([(212 : UInt8), v1] : List UInt8)) (v3 : List UInt8) (h3 : v3 = ([(213 : UInt8), v1] : List UInt8)) (v4 : List UInt8) (h4 : v4 = ([(214 : UInt8), v1] : List UInt8)) (v5 : List UInt8) (h5 : v5 = ([(215 : UInt8), v1] : List UInt8)) (v6 : List UInt8) (h6 : v6 = ([(216 : UInt8), v1] : List UInt8)) (v7 : List UInt8) (h7 : v7 = (Mp.form ((199 : UInt8)) n ((1 : Int)))), cond (decide (n = (1 : UInt64)))
    (some [(.sl .bs v2)])
    (cond (decide (n = (2 : UInt64)))
    (some [(.sl .bs v3)])
    (cond (decide (n = (4 : UInt64)))
    (some [(.sl .bs v4)])
    (cond (decide (n = (8 : UInt64)))
    (some [(.sl .bs v5)])
    (cond (decide (n = (16 : UInt64)))
    (some [(.sl .bs v6)])
    (ck (decide (((1 : Int)) ≤ 8)) (ck (apOK ((v7).length + (([v1] : List UInt8)).length) 1) (some [(.sl .bs (v7 ++ ([v1] : List UInt8)))]))))))) = ρ) : ref29_ext.F n k = ρ := Eq.trans (by kernel_rfl) (K _ rfl _ rfl _ rfl _ rfl _ rfl _ rfl _ rfl)
theorem ref29_ext.chk : ((Go.Proofs.Try.prog.funcs[62]?).any fun fn => chkF Go.Proofs.Try.prog (fun k => ((envL noGl ref29_ext.env).fs k).2) fn ref29_ext.d.erase) = true := by kernel_rfl
end
noncomputable section
def ref29_negative.env : List (Nat × (Ctr × FSig)) := [(61, (ref1_PutHigh.c, ref1_PutHigh.sg))]
def ref29_negative.E : TEnv := envL noGl ref29_negative.env
def ref29_negative.m : TM := .seq (.reg [
    ⟨.k .mv, [.c (.sl .bs ([] : List UInt8))], [2], none⟩]) none (.seq (.block 0 [] (.seq (.reg [
    ⟨.k .mv, [.s 0], [4], none⟩,
    ⟨.k (.bin .lss), [.s 4, .c (.u64 (32 : UInt64))], [5], none⟩,
    ⟨.k .mv, [.s 5], [3], none⟩]) none (.cond (.s 3) [] (.seq (.reg [
    ⟨.k .mv, [.s 0], [6], none⟩,
    ⟨.k (.bin .sub), [.c (.u64 (255 : UInt64)), .s 6], [7], none⟩,
    ⟨.k (.ci .u8), [.s 7], [8], none⟩,
    ⟨.blt .bs 1 101, [.s 8, .s (lk 101)], [9, lk 101], none⟩,
    ⟨.k .mv, [.s 9], [2], none⟩]) none .ret) (.seq (.reg [
    ⟨.k .mv, [.s 0], [11], none⟩,
    ⟨.k (.bin .lss), [.s 11, .c (.u64 (128 : UInt64))], [12], none⟩,
    ⟨.k .mv, [.s 12], [10], none⟩]) none (.cond (.s 10) [] (.seq (.reg [
    ⟨.blt .bs 1 102, [.c (.u8 (208 : UInt8)), .s (lk 102)], [13, lk 102], none⟩,
    ⟨.k .mv, [.s 0], [14], none⟩,
    ⟨.k (.un .xor), [.s 14], [15], none⟩,
    ⟨.k (.call 61 (.plain 2 1)), [.s 15, .c (.i .i64 (1 : Int))], [16], none⟩,
    ⟨.k (.ap 102 103 1 1), [.s 13, .s 16, .s (lk 102), .s (lk 103)], [17, lk 102, lk 103], none⟩,
    ⟨.k .mv, [.s 17], [2], none⟩]) none .ret) (.seq (.reg [
    ⟨.k .mv, [.s 0], [19], none⟩,
    ⟨.k (.bin .lss), [.s 19, .c (.u64 (32768 : UInt64))], [20], none⟩,
    ⟨.k .mv, [.s 20], [18], none⟩]) none (.cond (.s 18) [] (.seq (.reg [
    ⟨.blt .bs 1 104, [.c (.u8 (209 : UInt8)), .s (lk 104)], [21, lk 104], none⟩,
    ⟨.k .mv, [.s 0], [22], none⟩,
    ⟨.k (.un .xor), [.s 22], [23], none⟩,
    ⟨.k (.call 61 (.plain 2 1)), [.s 23, .c (.i .i64 (2 : Int))], [24], none⟩,
    ⟨.k (.ap 104 105 1 1), [.s 21, .s 24, .s (lk 104), .s (lk 105)], [25, lk 104, lk 105], none⟩,
    ⟨.k .mv, [.s 25], [2], none⟩]) none .ret) (.seq (.reg [
    ⟨.k .mv, [.s 0], [27], none⟩,
    ⟨.k (.bin .lss), [.s 27, .c (.u64 (2147483648 : UInt64))], [28], none⟩,
    ⟨.k .mv, [.s 28], [26], none⟩]) none (.cond (.s 26) [] (.seq (.reg [
    ⟨.blt .bs 1 106, [.c (.u8 (210 : UInt8)), .s (lk 106)], [29, lk 106], none⟩,
    ⟨.k .mv, [.s 0], [30], none⟩,
    ⟨.k (.un .xor), [.s 30], [31], none⟩,
    ⟨.k (.call 61 (.plain 2 1)), [.s 31, .c (.i .i64 (4 : Int))], [32], none⟩,
    ⟨.k (.ap 106 107 1 1), [.s 29, .s 32, .s (lk 106), .s (lk 107)], [33, lk 106, lk 107], none⟩,
    ⟨.k .mv, [.s 33], [2], none⟩]) none .ret) .skip))))))))) none (.seq (.reg [
    ⟨.blt .bs 1 108, [.c (.u8 (211 : UInt8)), .s (lk 108)], [34, lk 108], none⟩,
    ⟨.k .mv, [.s 0], [35], none⟩,
    ⟨.k (.un .xor), [.s 35], [36], none⟩,
    ⟨.k (.call 61 (.plain 2 1)), [.s 36, .c (.i .i64 (8 : Int))], [37], none⟩,
    ⟨.k (.ap 108 109 1 1), [.s 34, .s 37, .s (lk 108), .s (lk 109)], [38, lk 108, lk 109], none⟩,
    ⟨.k .mv, [.s 38], [2], none⟩]) none .ret))
def ref29_negative.d : TFD := { np := 1, m := ref29_negative.m, ref := none, tips := [], res := [.t 2], own := [(0, 1)], new := none, tnew := [] }
noncomputable def ref29_negative.F (n : UInt64) : Option (List TV) := ref29_negative.d.run ref29_negative.E [(.u64 n)]
theorem ref29_negative.F_in (n : UInt64) {ρ : Option (List TV)} (K : ∀ (v1 : UInt8) (h1 : v1 = (UInt8.ofInt ((((255 : UInt64) - n)).toNat : Int))) (v2 : List UInt8) (h2 : v2 = ([(208 : UInt8)] : List UInt8)) (v3 : List UInt8) (h3 : v3 = (Cur.putHigh ((~~~n)) (((1 : Int))).toNat)) (v4 : List UInt8) (h4 : v4 = ([(209 : UInt8)] : List UInt8)) (v5 : List UInt8) (h5 : v5 = (Cur.putHigh ((~~~n)) (((2 : Int))).toNat)) (v6 : List UInt8) (h6 : v6 = ([(210 : UInt8)] : List UInt8)) (v7 : List UInt8) (h7 : v7 = (Cur.putHigh ((~~~n)) (((4 : Int))).toNat)) (v8 : List UInt8) (h8 : v8 = ([(211 : UInt8)] : List UInt8)) (v9 : List UInt8) (h9 : v9 = (Cur.putHigh ((~~~n)) (((8 : Int))).toNat)), cond (decide (n < (32 : UInt64)))
    (some [(.sl .bs ([v1] : List UInt8))])
    (cond (decide (n < (128 : UInt64)))
    (ck (decide (0 ≤ ((1 : Int)) ∧ ((1 : Int)) ≤ 8)) (ck (apOK ((v2).length + (v3).length) 1) (some [(.sl .bs (v2 ++ v3))])))
    (cond (decide (n < (32768 : UInt64)))
    (ck (decide (0 ≤ ((2 : Int)) ∧ ((2 : Int)) ≤ 8)) (ck (apOK ((v4).length + (v5).length) 1) (some [(.sl .bs (v4 ++ v5))])))
    (cond (decide (n < (2147483648 : UInt64)))
    (ck (decide (0 ≤ ((4 : Int)) ∧ ((4 : Int)) ≤ 8)) (ck (apOK ((v6).length + (v7).length) 1) (some [(.sl .bs (v6 ++ v7))])))
    (ck (decide (0 ≤ ((8 : Int)) ∧ ((8 : Int)) ≤ 8)) (ck (apOK ((v8).length + (v9).length) 1) (some [(.sl .bs (v8 ++ v9))])))))) = ρ) : ref29_negative.F n = ρ := Eq.trans (by kernel_rfl) (K _ rfl _ rfl _ rfl _ rfl _ rfl _ rfl _ rfl _ rfl _ rfl)
theorem ref29_negative.chk : ((Go.Proofs.Try.prog.funcs[60]?).any fun fn => chkF Go.Proofs.Try.prog (fun k => ((envL noGl ref29_negative.env).fs k).2) fn ref29_negative.d.erase) = true := by kernel_rfl
end
noncomputable section
def ref29_head.env : List (Nat × (Ctr × FSig)) := [(59, (ref29_form.c, ref29_form.sg)), (60, (ref29_negative.c, ref29_negative.sg)), (61, (ref1_PutHigh.c, ref1_PutHigh.sg)), (62, (ref29_ext.c, ref29_ext.sg))]
def ref29_head.E : TEnv := envL noGl ref29_head.env
def ref29_head.m : TM := .seq (.reg [
    ⟨.k (.bx 1105), [.s 0, .s 1105], [1, 1105], none⟩,
    ⟨.k .mv, [.c (.sl .bs ([] : List UInt8))], [2], none⟩]) none (.seq (.seq (.reg [
    ⟨.k (.fa 1105 0 0), [.s 1], [3], none⟩,
    ⟨.k (.ld 1105 0 1 false), [.s 3, .s 1105], [4], none⟩]) none (.block 0 [(1, .ptr 1105 0), (1105, .cl [])] (.seq (.reg [
    ⟨.k (.bin .eql), [.s 4, .c (.i .i64 (1 : Int))], [6], none⟩,
    ⟨.k .mv, [.s 6], [5], none⟩]) none (.cond (.s 5) [] (.seq (.seq (.reg [
    ⟨.k (.fa 1105 0 1), [.s 1], [7], none⟩,
    ⟨.k (.ld 1105 1 1 false), [.s 7, .s 1105], [8], none⟩,
    ⟨.k (.bin .lss), [.s 8, .c (.u64 (128 : UInt64))], [9], none⟩]) none (.cond (.s 9) [] (.seq (.reg [
    ⟨.k (.fa 1105 0 1), [.s 1], [10], none⟩,
    ⟨.k (.ld 1105 1 1 false), [.s 10, .s 1105], [11], none⟩,
    ⟨.k (.ci .u8), [.s 11], [12], none⟩,
    ⟨.blt .bs 1 101, [.s 12, .s (lk 101)], [13, lk 101], none⟩,
    ⟨.k .mv, [.s 13], [2], none⟩]) none .ret) .skip)) none (.seq (.reg [
    ⟨.k (.fa 1105 0 1), [.s 1], [14], none⟩,
    ⟨.k (.ld 1105 1 1 false), [.s 14, .s 1105], [15], none⟩,
    ⟨.k (.call 59 ⟨3, none, [], [], 1, [(0, 102, 1)], none, []⟩), [.c (.u8 (204 : UInt8)), .s 15, .c (.i .i64 (1 : Int)), .s (lk 102)], [16, lk 102], none⟩,
    ⟨.k .mv, [.s 16], [2], none⟩]) none .ret)) (.seq (.reg [
    ⟨.k (.bin .eql), [.s 4, .c (.i .i64 (2 : Int))], [18], none⟩,
    ⟨.k .mv, [.s 18], [17], none⟩]) none (.cond (.s 17) [] (.seq (.reg [
    ⟨.k (.fa 1105 0 1), [.s 1], [19], none⟩,
    ⟨.k (.ld 1105 1 1 false), [.s 19, .s 1105], [20], none⟩,
    ⟨.k (.call 60 ⟨1, none, [], [], 1, [(0, 103, 1)], none, []⟩), [.s 20, .s (lk 103)], [21, lk 103], none⟩,
    ⟨.k .mv, [.s 21], [2], none⟩]) none .ret) (.seq (.reg [
    ⟨.k (.bin .eql), [.s 4, .c (.i .i64 (8 : Int))], [23], none⟩,
    ⟨.k .mv, [.s 23], [22], none⟩]) none (.cond (.s 22) [] (.seq (.reg [
    ⟨.bl .bs 3, [.c (.u8 (194 : UInt8)), .c (.u8 (195 : UInt8)), .c (.u8 (192 : UInt8))], [24], none⟩,
    ⟨.k (.fa 1105 0 1), [.s 1], [25], none⟩,
    ⟨.k (.ld 1105 1 1 false), [.s 25, .s 1105], [26], none⟩,
    ⟨.k (.bin .sub), [.s 26, .c (.u64 (20 : UInt64))], [27], none⟩,
    ⟨.k (.ix 1), [.s 24, .s 27], [28], none⟩,
    ⟨.k (.lr 1 false), [.s 28], [29], none⟩,
    ⟨.blt .bs 1 105, [.s 29, .s (lk 105)], [30, lk 105], none⟩,
    ⟨.k .mv, [.s 30], [2], none⟩]) none .ret) (.seq (.reg [
    ⟨.k (.bin .eql), [.s 4, .c (.i .i64 (9 : Int))], [32], none⟩,
    ⟨.k .mv, [.s 32], [31], none⟩]) none (.cond (.s 31) [] (.seq (.reg [
    ⟨.blt .bs 1 106, [.c (.u8 (203 : UInt8)), .s (lk 106)], [33, lk 106], none⟩,
    ⟨.k (.fa 1105 0 1), [.s 1], [34], none⟩,
    ⟨.k (.ld 1105 1 1 false), [.s 34, .s 1105], [35], none⟩,
    ⟨.k (.call 61 (.plain 2 1)), [.s 35, .c (.i .i64 (8 : Int))], [36], none⟩,
    ⟨.k (.ap 106 107 1 1), [.s 33, .s 36, .s (lk 106), .s (lk 107)], [37, lk 106, lk 107], none⟩,
    ⟨.k .mv, [.s 37], [2], none⟩]) none .ret) (.seq (.reg [
    ⟨.k (.bin .eql), [.s 4, .c (.i .i64 (4 : Int))], [39], none⟩,
    ⟨.k .mv, [.s 39], [38], none⟩]) none (.cond (.s 38) [] (.seq (.seq (.reg [
    ⟨.k (.fa 1105 0 3), [.s 1], [40], none⟩,
    ⟨.k (.ld 1105 3 1 false), [.s 40, .s 1105], [41], none⟩,
    ⟨.k .lns, [.s 41], [42], none⟩,
    ⟨.k (.bin .lss), [.s 42, .c (.i .i64 (32 : Int))], [43], none⟩]) none (.cond (.s 43) [] (.seq (.reg [
    ⟨.k (.fa 1105 0 3), [.s 1], [44], none⟩,
    ⟨.k (.ld 1105 3 1 false), [.s 44, .s 1105], [45], none⟩,
    ⟨.k .lns, [.s 45], [46], none⟩,
    ⟨.k (.bin .add), [.c (.i .i64 (160 : Int)), .s 46], [47], none⟩,
    ⟨.k (.ci .u8), [.s 47], [48], none⟩,
    ⟨.blt .bs 1 108, [.s 48, .s (lk 108)], [49, lk 108], none⟩,
    ⟨.k .mv, [.s 49], [2], none⟩]) none .ret) .skip)) none (.seq (.reg [
    ⟨.k (.fa 1105 0 3), [.s 1], [50], none⟩,
    ⟨.k (.ld 1105 3 1 false), [.s 50, .s 1105], [51], none⟩,
    ⟨.k .lns, [.s 51], [52], none⟩,
    ⟨.k (.ci .u64), [.s 52], [53], none⟩,
    ⟨.k (.call 59 ⟨3, none, [], [], 1, [(0, 109, 1)], none, []⟩), [.c (.u8 (217 : UInt8)), .s 53, .c (.i .i64 (1 : Int)), .s (lk 109)], [54, lk 109], none⟩,
    ⟨.k .mv, [.s 54], [2], none⟩]) none .ret)) (.seq (.reg [
    ⟨.k (.bin .eql), [.s 4, .c (.i .i64 (3 : Int))], [56], none⟩,
    ⟨.k .mv, [.s 56], [55], none⟩]) none (.cond (.s 55) [] (.seq (.reg [
    ⟨.k (.fa 1105 0 2), [.s 1], [57], none⟩,
    ⟨.k (.ld 1105 2 1 false), [.s 57, .s 1105], [58], none⟩,
    ⟨.k .len, [.s 58], [59], none⟩,
    ⟨.k (.ci .u64), [.s 59], [60], none⟩,
    ⟨.k (.call 59 ⟨3, none, [], [], 1, [(0, 110, 1)], none, []⟩), [.c (.u8 (196 : UInt8)), .s 60, .c (.i .i64 (1 : Int)), .s (lk 110)], [61, lk 110], none⟩,
    ⟨.k .mv, [.s 61], [2], none⟩]) none .ret) (.seq (.reg [
    ⟨.k (.bin .eql), [.s 4, .c (.i .i64 (5 : Int))], [63], none⟩,
    ⟨.k .mv, [.s 63], [62], none⟩]) none (.cond (.s 62) [] (.seq (.seq (.reg [
    ⟨.k (.fa 1105 0 4), [.s 1], [64], none⟩,
    ⟨.k (.ld 1105 4 1 false), [.s 64, .s 1105], [65], none⟩,
    ⟨.k .len, [.s 65], [66], none⟩,
    ⟨.k (.bin .lss), [.s 66, .c (.i .i64 (16 : Int))], [67], none⟩]) none (.cond (.s 67) [] (.seq (.reg [
    ⟨.k (.fa 1105 0 4), [.s 1], [68], none⟩,
    ⟨.k (.ld 1105 4 1 false), [.s 68, .s 1105], [69], none⟩,
    ⟨.k .len, [.s 69], [70], none⟩,
    ⟨.k (.bin .add), [.c (.i .i64 (144 : Int)), .s 70], [71], none⟩,
    ⟨.k (.ci .u8), [.s 71], [72], none⟩,
    ⟨.blt .bs 1 111, [.s 72, .s (lk 111)], [73, lk 111], none⟩,
    ⟨.k .mv, [.s 73], [2], none⟩]) none .ret) .skip)) none (.seq (.reg [
    ⟨.k (.fa 1105 0 4), [.s 1], [74], none⟩,
    ⟨.k (.ld 1105 4 1 false), [.s 74, .s 1105], [75], none⟩,
    ⟨.k .len, [.s 75], [76], none⟩,
    ⟨.k (.ci .u64), [.s 76], [77], none⟩,
    ⟨.k (.call 59 ⟨3, none, [], [], 1, [(0, 112, 1)], none, []⟩), [.c (.u8 (220 : UInt8)), .s 77, .c (.i .i64 (2 : Int)), .s (lk 112)], [78, lk 112], none⟩,
    ⟨.k .mv, [.s 78], [2], none⟩]) none .ret)) (.seq (.reg [
    ⟨.k (.bin .eql), [.s 4, .c (.i .i64 (6 : Int))], [80], none⟩,
    ⟨.k .mv, [.s 80], [79], none⟩]) none (.cond (.s 79) [] (.seq (.seq (.reg [
    ⟨.k (.fa 1105 0 4), [.s 1], [81], none⟩,
    ⟨.k (.ld 1105 4 1 false), [.s 81, .s 1105], [82], none⟩,
    ⟨.k .len, [.s 82], [83], none⟩,
    ⟨.k (.bin .lss), [.s 83, .c (.i .i64 (32 : Int))], [84], none⟩]) none (.cond (.s 84) [] (.seq (.reg [
    ⟨.k (.fa 1105 0 4), [.s 1], [85], none⟩,
    ⟨.k (.ld 1105 4 1 false), [.s 85, .s 1105], [86], none⟩,
    ⟨.k .len, [.s 86], [87], none⟩,
    ⟨.k (.bin .quo), [.s 87, .c (.i .i64 (2 : Int))], [88], none⟩,
    ⟨.k (.bin .add), [.c (.i .i64 (128 : Int)), .s 88], [89], none⟩,
    ⟨.k (.ci .u8), [.s 89], [90], none⟩,
    ⟨.blt .bs 1 113, [.s 90, .s (lk 113)], [91, lk 113], none⟩,
    ⟨.k .mv, [.s 91], [2], none⟩]) none .ret) .skip)) none (.seq (.reg [
    ⟨.k (.fa 1105 0 4), [.s 1], [92], none⟩,
    ⟨.k (.ld 1105 4 1 false), [.s 92, .s 1105], [93], none⟩,
    ⟨.k .len, [.s 93], [94], none⟩,
    ⟨.k (.bin .quo), [.s 94, .c (.i .i64 (2 : Int))], [95], none⟩,
    ⟨.k (.ci .u64), [.s 95], [96], none⟩,
    ⟨.k (.call 59 ⟨3, none, [], [], 1, [(0, 114, 1)], none, []⟩), [.c (.u8 (222 : UInt8)), .s 96, .c (.i .i64 (2 : Int)), .s (lk 114)], [97, lk 114], none⟩,
    ⟨.k .mv, [.s 97], [2], none⟩]) none .ret)) .skip)))))))))))))))))) none (.seq (.reg [
    ⟨.k (.fa 1105 0 2), [.s 1], [98], none⟩,
    ⟨.k (.ld 1105 2 1 false), [.s 98, .s 1105], [99], none⟩,
    ⟨.k .len, [.s 99], [100], none⟩,
    ⟨.k (.ci .u64), [.s 100], [101], none⟩,
    ⟨.k (.fa 1105 0 1), [.s 1], [102], none⟩,
    ⟨.k (.ld 1105 1 1 false), [.s 102, .s 1105], [103], none⟩,
    ⟨.k (.call 62 ⟨2, none, [], [], 1, [(0, 115, 1)], none, []⟩), [.s 101, .s 103, .s (lk 115)], [104, lk 115], none⟩,
    ⟨.k .mv, [.s 104], [2], none⟩]) none .ret))
def ref29_head.d : TFD := { np := 1, m := ref29_head.m, ref := none, tips := [], res := [.t 2], own := [(0, 1)], new := none, tnew := [] }
noncomputable def ref29_head.F (it : Itv) : Option (List TV) := ref29_head.d.run ref29_head.E [(.ag (Itv.cells it))]
theorem ref29_head.F_in (it : Itv) {ρ : Option (List TV)} (K : ∀ (v1 : UInt8) (h1 : v1 = (UInt8.ofInt (((Itv.n it)).toNat : Int))) (v2 : List UInt8) (h2 : v2 = (Mp.form ((204 : UInt8)) ((Itv.n it)) ((1 : Int)))) (v3 : List UInt8) (h3 : v3 = (Mp.put (Mp.signed ((Itv.n it))) (~~~ ((Itv.n it))))) (v4 : List UInt8) (h4 : v4 = ([(194 : UInt8), (195 : UInt8), (192 : UInt8)] : List UInt8)) (v5 : UInt8) (h5 : v5 = (List.getD v4 (((((Itv.n it) - (20 : UInt64))).toNat : Int)).toNat (0 : UInt8))) (v6 : List UInt8) (h6 : v6 = ([(203 : UInt8)] : List UInt8)) (v7 : List UInt8) (h7 : v7 = (Cur.putHigh ((Itv.n it)) (((8 : Int))).toNat)) (v8 : Int) (h8 : v8 = (((Itv.text it)).length : Int)) (v9 : Int) (h9 : v9 = (IntKind.i64.wrap ((160 : Int) + v8))) (v10 : List UInt8) (h10 : v10 = ([(UInt8.ofInt v9)] : List UInt8)) (v11 : List UInt8) (h11 : v11 = (Mp.form ((217 : UInt8)) ((UInt64.ofInt v8)) ((1 : Int)))) (v12 : Int) (h12 : v12 = (((Itv.bytes it)).length : Int)) (v13 : List UInt8) (h13 : v13 = (Mp.form ((196 : UInt8)) ((UInt64.ofInt v12)) ((1 : Int)))) (v14 : Int) (h14 : v14 = (((Itv.kids it)).length : Int)) (v15 : Int) (h15 : v15 = (IntKind.i64.wrap ((144 : Int) + v14))) (v16 : List UInt8) (h16 : v16 = ([(UInt8.ofInt v15)] : List UInt8)) (v17 : List UInt8) (h17 : v17 = (Mp.form ((220 : UInt8)) ((UInt64.ofInt v14)) ((2 : Int)))) (v18 : Int) (h18 : v18 = (IntKind.i64.wrap (Int.tdiv v14 (2 : Int)))) (v19 : Int) (h19 : v19 = (IntKind.i64.wrap ((128 : Int) + v18))) (v20 : List UInt8) (h20 : v20 = ([(UInt8.ofInt v19)] : List UInt8)) (v21 : List UInt8) (h21 : v21 = (Mp.form ((222 : UInt8)) ((UInt64.ofInt v18)) ((2 : Int)))) (v22 : List UInt8) (h22 : v22 = (Mp.ext ((UInt64.ofInt v12)) ((Itv.n it)))), cond (decide ((Itv.kind it) = (1 : Int)))
    (cond (decide ((Itv.n it) < (128 : UInt64)))
    (some [(.sl .bs ([v1] : List UInt8))])
    (ck (decide (((1 : Int)) ≤ 8)) (some [(.sl .bs v2)])))
    (cond (decide ((Itv.kind it) = (2 : Int)))
    (some [(.sl .bs v3)])
    (cond (decide ((Itv.kind it) = (8 : Int)))
    (ck (idxOK ((((Itv.n it) - (20 : UInt64))).toNat : Int) (v4).length) (some [(.sl .bs ([v5] : List UInt8))]))
    (cond (decide ((Itv.kind it) = (9 : Int)))
    (ck (decide (0 ≤ ((8 : Int)) ∧ ((8 : Int)) ≤ 8)) (ck (apOK ((v6).length + (v7).length) 1) (some [(.sl .bs (v6 ++ v7))])))
    (cond (decide ((Itv.kind it) = (4 : Int)))
    (cond (decide (v8 < (32 : Int)))
    (some [(.sl .bs v10)])
    (ck (decide (((1 : Int)) ≤ 8)) (some [(.sl .bs v11)])))
    (cond (decide ((Itv.kind it) = (3 : Int)))
    (ck (decide (((1 : Int)) ≤ 8)) (some [(.sl .bs v13)]))
    (cond (decide ((Itv.kind it) = (5 : Int)))
    (cond (decide (v14 < (16 : Int)))
    (some [(.sl .bs v16)])
    (ck (decide (((2 : Int)) ≤ 8)) (some [(.sl .bs v17)])))
    (cond (decide ((Itv.kind it) = (6 : Int)))
    (cond (decide (v14 < (32 : Int)))
    (ck (!decide ((2 : Int) = 0)) (some [(.sl .bs v20)]))
    (ck (!decide ((2 : Int) = 0)) (ck (decide (((2 : Int)) ≤ 8)) (some [(.sl .bs v21)]))))
    (some [(.sl .bs v22)])))))))) = ρ) : ref29_head.F it = ρ := Eq.trans (by kernel_rfl) (K _ rfl _ rfl _ rfl _ rfl _ rfl _ rfl _ rfl _ rfl _ rfl _ rfl _ rfl _ rfl _ rfl _ rfl _ rfl _ rfl _ rfl _ rfl _ rfl _ rfl _ rfl _ rfl)
theorem ref29_head.chk : ((Go.Proofs.Try.prog.funcs[44]?).any fun fn => chkF Go.Proofs.Try.prog (fun k => ((envL noGl ref29_head.env).fs k).2) fn ref29_head.d.erase) = true := by kernel_rfl
end
noncomputable section
def ref29_lay.env (n : Nat) : List (Nat × (Ctr × FSig)) := [(25, (ref29_lay.cn n, ref29_lay.sg)), (44, (ref29_head.c, ref29_head.sg))]
def ref29_lay.E (n : Nat) : TEnv := envL noGl (ref29_lay.env n)
def ref29_lay.m1 : TM := .seq (.seq (.reg [
    ⟨.k .mv, [.s 4], [13], none⟩,
    ⟨.k (.fa 1029 0 4), [.s 1], [14], none⟩,
    ⟨.k (.ld 1029 4 1 false), [.s 14, .s 1029], [15], none⟩,
    ⟨.k .len, [.s 15], [16], none⟩,
    ⟨.k (.bin .lss), [.s 13, .s 16], [17], none⟩]) none (.cond (.s 17) [] .skip (.exit 0))) none (.seq (.block 1 [(1, .ptr 1029 0), (3, .tip 104 1), (1029, .cl []), (lk 104, .live 1)] (.reg [
    ⟨.k .mv, [.s 3], [20], none⟩,
    ⟨.k (.fa 1029 0 4), [.s 1], [21], none⟩,
    ⟨.k (.ld 1029 4 1 false), [.s 21, .s 1029], [22], none⟩,
    ⟨.k .mv, [.s 4], [23], none⟩,
    ⟨.k (.ix 5), [.s 22, .s 23], [24], none⟩,
    ⟨.k (.lr 5 true), [.s 24], [25], none⟩,
    ⟨.k (.call 25 (.plain 1 1)), [.s 25], [26], none⟩,
    ⟨.k (.ap 103 104 1 1), [.s 20, .s 26, .s (lk 103), .s (lk 104)], [27, lk 103, lk 104], none⟩,
    ⟨.k .mv, [.s 27], [3], none⟩])) none (.reg [
    ⟨.k .mv, [.s 4], [18], none⟩,
    ⟨.k (.bin .add), [.s 18, .c (.i .i64 (1 : Int))], [19], none⟩,
    ⟨.k .mv, [.s 19], [4], none⟩]))
def ref29_lay.m : TM := .seq (.reg [
    ⟨.k (.bx 1029), [.s 0, .s 1029], [1, 1029], none⟩,
    ⟨.k .mv, [.c (.sl .bs ([] : List UInt8))], [2], none⟩]) none (.seq (.reg [
    ⟨.k (.ld 1029 0 5 true), [.s 1, .s 1029], [5], none⟩,
    ⟨.k (.call 44 ⟨1, none, [], [], 1, [(0, 101, 1)], none, []⟩), [.s 5, .s (lk 101)], [6, lk 101], none⟩,
    ⟨.k (.fa 1029 0 2), [.s 1], [7], none⟩,
    ⟨.k (.ld 1029 2 1 false), [.s 7, .s 1029], [8], none⟩,
    ⟨.k (.ap 101 102 1 1), [.s 6, .s 8, .s (lk 101), .s (lk 102)], [9, lk 101, lk 102], none⟩,
    ⟨.k (.fa 1029 0 3), [.s 1], [10], none⟩,
    ⟨.k (.ld 1029 3 1 false), [.s 10, .s 1029], [11], none⟩,
    ⟨.k (.aps 102 103 1), [.s 9, .s 11, .s (lk 102), .s (lk 103)], [12, lk 102, lk 103], none⟩,
    ⟨.k .mv, [.s 12], [3], none⟩]) none (.seq (.seq (.reg [
    ⟨.k .mv, [.c (.i .i64 (0 : Int))], [4], none⟩]) none (.block 0 [(3, .tip 103 1), (lk 103, .live 1)] (.loop [1, 3, 4, 1029] [(1, .ptr 1029 0), (3, .tip 103 1), (1029, .cl []), (lk 103, .live 1)] ref29_lay.m1))) none (.seq (.reg [
    ⟨.k .mv, [.s 3], [28], none⟩,
    ⟨.k .mv, [.s 28], [2], none⟩]) none .ret)))
def ref29_lay.d : TFD := { np := 1, m := ref29_lay.m, ref := none, tips := [], res := [.t 2], own := [], new := none, tnew := [] }
noncomputable def ref29_lay.F (n : Nat) (it : Itv) : Option (List TV) := ref29_lay.d.run (ref29_lay.E n) [(.ag (Itv.cells it))]
noncomputable def ref29_lay.k1 (n : Nat) : Cont (List TV) := seqK (ev _ (ref29_lay.E n) (.seq (.reg [
    ⟨.k .mv, [.s 3], [28], none⟩,
    ⟨.k .mv, [.s 28], [2], none⟩]) none .ret)) none (endK ref29_lay.d)
noncomputable def ref29_lay.l1 (n : Nat) (x0 : List UInt8) (x1 : Int) (x2 : Itv) : Option (List TV) := loopL (evO _ (ref29_lay.E n) ref29_lay.m1) isN [1, 3, 4, 1029] (headT [1, 3, 4, 1029] [.pt, (.sl .bs x0), (.i .i64 x1), (.ag (Itv.cells x2))]) (blockK 0 (ref29_lay.k1 n))
theorem ref29_lay.l1_in (n : Nat) (x0 : List UInt8) (x1 : Int) (x2 : Itv) {ρ : Option (List TV)} (K : ∀ (v1 : Int) (h1 : v1 = (((Itv.kids x2)).length : Int)) (v2 : List UInt8) (h2 : v2 = (Mp.lay (Itm.of (Itm.val (List.getD (Itv.kids x2) (x1).toNat (STy.dflt .il)))))) (v3 : Int) (h3 : v3 = (IntKind.i64.wrap (x1 + (1 : Int)))), cond (decide (x1 < v1))
    (ck (idxOK x1 ((Itv.kids x2)).length) (ck ((decide (16 * Itm.bulk (Itm.of (Itm.val (List.getD (Itv.kids x2) (x1).toNat (STy.dflt .il)))) ≤ 1099511627776) && decide (Mp.chk (Itm.of (Itm.val (List.getD (Itv.kids x2) (x1).toNat (STy.dflt .il)))) = 0)) && decide ((Itm.bulk (Itm.of (Itm.val (List.getD (Itv.kids x2) (x1).toNat (STy.dflt .il))))) < n)) (ck (apOK ((x0).length + (v2).length) 1) (ref29_lay.l1 n (x0 ++ v2) v3 x2))))
    (some [(.sl .bs x0)]) = ρ) : ref29_lay.l1 n x0 x1 x2 = ρ := ((ev_loop _ _ _ _ _ _).trans (by kernel_rfl)).trans (K _ rfl _ rfl _ rfl)
theorem ref29_lay.F_in (n : Nat) (it : Itv) {ρ : Option (List TV)} (K : ∀ (v1 : List UInt8) (h1 : v1 = ((Mp.head (Itm.of it)) ++ (Itv.bytes it))), ck (decide (Itm.bulk (Itm.of it) ≤ 1099511627776) && decide (Mp.own (Itm.of it) = 0)) (ck (apOK (((Mp.head (Itm.of it))).length + ((Itv.bytes it)).length) 1) (ck (apOK ((v1).length + ((Itv.text it)).length) 1) (ref29_lay.l1 n (v1 ++ (Itv.text it)) (0 : Int) it))) = ρ) : ref29_lay.F n it = ρ := Eq.trans (by kernel_rfl) (K _ rfl)
theorem ref29_lay.chk (n : Nat) : ((Go.Proofs.Try.prog.funcs[25]?).any fun fn => chkF Go.Proofs.Try.prog (fun k => ((envL noGl (ref29_lay.env n)).fs k).2) fn ref29_lay.d.erase) = true := by kernel_rfl
end
noncomputable section
def ref29_Encode.env : List (Nat × (Ctr × FSig)) := [(14, (ref29_Check.c, ref29_Check.sg)), (25, (ref29_lay.c, ref29_lay.sg))]
def ref29_Encode.E : TEnv := envL noGl ref29_Encode.env
def ref29_Encode.m : TM := .seq (.reg [
    ⟨.k (.bx 1012), [.s 0, .s 1012], [1, 1012], none⟩,
    ⟨.k .mv, [.c (.sl .bs ([] : List UInt8))], [2], none⟩,
    ⟨.k .mv, [.c (.i .i64 (0 : Int))], [3], none⟩]) none (.seq (.reg [
    ⟨.k (.ld 1012 0 5 true), [.s 1, .s 1012], [5], none⟩,
    ⟨.k (.call 14 (.plain 1 1)), [.s 5], [6], none⟩,
    ⟨.k .mv, [.s 6], [4], none⟩]) none (.seq (.seq (.reg [
    ⟨.k .mv, [.s 4], [7], none⟩,
    ⟨.k (.bin .neq), [.s 7, .c (.i .i64 (0 : Int))], [8], none⟩]) none (.cond (.s 8) [] (.seq (.reg [
    ⟨.k .mv, [.s 4], [9], none⟩,
    ⟨.k .mv, [.c (.sl .bs ([] : List UInt8))], [2], none⟩,
    ⟨.k .mv, [.s 9], [3], none⟩]) none .ret) .skip)) none (.seq (.reg [
    ⟨.k (.ld 1012 0 5 true), [.s 1, .s 1012], [10], none⟩,
    ⟨.k (.call 25 (.plain 1 1)), [.s 10], [11], none⟩,
    ⟨.k .mv, [.s 11], [2], none⟩,
    ⟨.k .mv, [.c (.i .i64 (0 : Int))], [3], none⟩]) none .ret)))
def ref29_Encode.d : TFD := { np := 1, m := ref29_Encode.m, ref := none, tips := [], res := [.t 2, .t 3], own := [], new := none, tnew := [] }
noncomputable def ref29_Encode.F (it : Itv) : Option (List TV) := ref29_Encode.d.run ref29_Encode.E [(.ag (Itv.cells it))]
theorem ref29_Encode.F_eq (it : Itv) : ref29_Encode.F it = ck (decide (Itm.bulk (Itm.of it) ≤ 1099511627776)) (cond (!decide ((Mp.chk (Itm.of it)) = (0 : Int)))
    (some [(.sl .bs ([] : List UInt8)), (.i .i64 (Mp.chk (Itm.of it)))])
    (ck (decide (16 * Itm.bulk (Itm.of it) ≤ 1099511627776) && decide (Mp.chk (Itm.of it) = 0)) (some [(.sl .bs (Mp.lay (Itm.of it))), (.i .i64 (0 : Int))]))) := by kernel_rfl
theorem ref29_Encode.chk : ((Go.Proofs.Try.prog.funcs[12]?).any fun fn => chkF Go.Proofs.Try.prog (fun k => ((envL noGl ref29_Encode.env).fs k).2) fn ref29_Encode.d.erase) = true := by kernel_rfl
end
noncomputable section
end
noncomputable section
end
noncomputable section
end
noncomputable section
end
noncomputable section
end
noncomputable section
end
noncomputable section
end
noncomputable section
def book_Room.env : List (Nat × (Ctr × FSig)) := []
def book_Room.E : TEnv := envL noGl book_Room.env
def book_Room.m1 : TM := .seq (.seq (.reg [
    ⟨.k .mv, [.s 5], [6], none⟩,
    ⟨.k .mv, [.s 1], [7], none⟩,
    ⟨.k .len, [.s 7], [8], none⟩,
    ⟨.k (.bin .lss), [.s 6, .s 8], [9], none⟩]) none (.cond (.s 9) [] .skip (.exit 0))) none (.seq (.block 1 [] (.seq (.seq (.reg [
    ⟨.k .mv, [.s 0], [12], none⟩,
    ⟨.k (.bin .lss), [.s 12, .c (.i .i64 (0 : Int))], [13], none⟩,
    ⟨.k .mv, [.s 13], [14], none⟩,
    ⟨.k .mv, [.s 1], [15], some (14, false)⟩,
    ⟨.k .mv, [.s 5], [16], some (14, false)⟩,
    ⟨.k (.ix 1), [.s 15, .s 16], [17], some (14, false)⟩,
    ⟨.k (.lr 1 false), [.s 17], [18], some (14, false)⟩,
    ⟨.k .mv, [.s 0], [19], some (14, false)⟩,
    ⟨.k (.bin .gtr), [.s 18, .s 19], [20], some (14, false)⟩,
    ⟨.k .pick, [.s 14, .c (.b true), .s 20], [21], none⟩]) none (.cond (.s 21) [] (.seq (.reg [
    ⟨.k .mv, [.c (.i .i64 (-1 : Int))], [4], none⟩]) none .ret) .skip)) none (.reg [
    ⟨.k .mv, [.s 0], [22], none⟩,
    ⟨.k .mv, [.s 1], [23], none⟩,
    ⟨.k .mv, [.s 5], [24], none⟩,
    ⟨.k (.ix 1), [.s 23, .s 24], [25], none⟩,
    ⟨.k (.lr 1 false), [.s 25], [26], none⟩,
    ⟨.k (.bin .sub), [.s 22, .s 26], [27], none⟩,
    ⟨.k .mv, [.s 27], [0], none⟩]))) none (.reg [
    ⟨.k .mv, [.s 5], [10], none⟩,
    ⟨.k (.bin .add), [.s 10, .c (.i .i64 (1 : Int))], [11], none⟩,
    ⟨.k .mv, [.s 11], [5], none⟩]))
def book_Room.m : TM := .seq (.reg [
    ⟨.k .mv, [.c (.i .i64 (0 : Int))], [4], none⟩]) none (.seq (.seq (.reg [
    ⟨.k .mv, [.c (.i .i64 (0 : Int))], [5], none⟩]) none (.block 0 [] (.loop [0, 1, 5] [] book_Room.m1))) none (.seq (.reg [
    ⟨.k .mv, [.s 0], [28], none⟩,
    ⟨.k .mv, [.s 28], [4], none⟩]) none .ret))
def book_Room.d : TFD := { np := 2, m := book_Room.m, ref := none, tips := [], res := [.t 4], own := [], new := none, tnew := [] }
noncomputable def book_Room.F (left : Int) (sizes : List Int) : Option (List TV) := book_Room.d.run book_Room.E [(.i .i64 left), (.sl .is sizes)]
noncomputable def book_Room.k1 : Cont (List TV) := seqK (ev _ book_Room.E (.seq (.reg [
    ⟨.k .mv, [.s 0], [28], none⟩,
    ⟨.k .mv, [.s 28], [4], none⟩]) none .ret)) none (endK book_Room.d)
noncomputable def book_Room.l1 (x0 : Int) (x1 : List Int) (x2 : Int) : Option (List TV) := loopL (evO _ book_Room.E book_Room.m1) isN [0, 1, 5] (headT [0, 1, 5] [(.i .i64 x0), (.sl .is x1), (.i .i64 x2)]) (blockK 0 book_Room.k1)
theorem book_Room.l1_in (x0 : Int) (x1 : List Int) (x2 : Int) {ρ : Option (List TV)} (K : ∀ (v1 : Int) (h1 : v1 = (List.getD x1 (x2).toNat (0 : Int))) (v2 : Bool) (h2 : v2 = (cond (decide (x0 < (0 : Int))) true (decide (x0 < v1)))) (v3 : Int) (h3 : v3 = (IntKind.i64.wrap (x2 + (1 : Int)))), cond (decide (x2 < ((x1).length : Int)))
    (ck (!(!(decide (x0 < (0 : Int)))) || (((!(decide (x0 < (0 : Int)))) && (!(decide (x0 < (0 : Int))))) && (idxOK x2 (x1).length))) (ck (!(!(decide (x0 < (0 : Int)))) || (!(decide (x0 < (0 : Int))))) (ck (!(!(decide (x0 < (0 : Int)))) || ((!(decide (x0 < (0 : Int)))) && (!(decide (x0 < (0 : Int)))))) (ck ((decide (x0 < (0 : Int))) || (!(decide (x0 < (0 : Int))))) (cond v2
    (some [(.i .i64 (-1 : Int))])
    (ck (idxOK x2 (x1).length) (book_Room.l1 (IntKind.i64.wrap (x0 - v1)) x1 v3)))))))
    (some [(.i .i64 x0)]) = ρ) : book_Room.l1 x0 x1 x2 = ρ := ((ev_loop _ _ _ _ _ _).trans (by kernel_rfl)).trans (K _ rfl _ rfl _ rfl)
theorem book_Room.F_eq (left : Int) (sizes : List Int) : book_Room.F left sizes = book_Room.l1 left sizes (0 : Int) := by kernel_rfl
theorem book_Room.chk : ((Go.Proofs.Try.prog.funcs[36]?).any fun fn => chkF Go.Proofs.Try.prog (fun k => ((envL noGl book_Room.env).fs k).2) fn book_Room.d.erase) = true := by kernel_rfl
end
noncomputable section
def book_item.env (n : Nat) : List (Nat × (Ctr × FSig)) := [(21, (book_item.cn n, book_item.sg)), (36, (book_Room.c, book_Room.sg))]
def book_item.E (n : Nat) : TEnv := envL noGl (book_item.env n)
def book_item.m1 : TM := .seq (.seq (.reg [
    ⟨.k .mv, [.s 5], [15], none⟩,
    ⟨.k (.fa 1034 0 4), [.s 3], [16], none⟩,
    ⟨.k (.ld 1034 4 1 false), [.s 16, .s 1034], [17], none⟩,
    ⟨.k .len, [.s 17], [18], none⟩,
    ⟨.k (.bin .lss), [.s 15, .s 18], [19], none⟩,
    ⟨.k .mv, [.s 19], [20], none⟩,
    ⟨.k .mv, [.s 0], [21], some (20, true)⟩,
    ⟨.k (.bin .geq), [.s 21, .c (.i .i64 (0 : Int))], [22], some (20, true)⟩,
    ⟨.k .pick, [.s 20, .s 22, .c (.b false)], [23], none⟩]) none (.cond (.s 23) [] .skip (.exit 0))) none (.seq (.block 1 [(3, .ptr 1034 0), (1034, .cl [])] (.reg [
    ⟨.k .mv, [.s 0], [26], none⟩,
    ⟨.k (.fa 1034 0 4), [.s 3], [27], none⟩,
    ⟨.k (.ld 1034 4 1 false), [.s 27, .s 1034], [28], none⟩,
    ⟨.k .mv, [.s 5], [29], none⟩,
    ⟨.k (.ix 5), [.s 28, .s 29], [30], none⟩,
    ⟨.k (.lr 5 true), [.s 30], [31], none⟩,
    ⟨.k (.call 21 (.plain 2 1)), [.s 26, .s 31], [32], none⟩,
    ⟨.k .mv, [.s 32], [0], none⟩])) none (.reg [
    ⟨.k .mv, [.s 5], [24], none⟩,
    ⟨.k (.bin .add), [.s 24, .c (.i .i64 (1 : Int))], [25], none⟩,
    ⟨.k .mv, [.s 25], [5], none⟩]))
def book_item.m : TM := .seq (.reg [
    ⟨.k (.bx 1034), [.s 1, .s 1034], [3, 1034], none⟩,
    ⟨.k .mv, [.c (.i .i64 (0 : Int))], [4], none⟩]) none (.seq (.reg [
    ⟨.k .mv, [.s 0], [6], none⟩,
    ⟨.k (.fa 1034 0 3), [.s 3], [7], none⟩,
    ⟨.k (.ld 1034 3 1 false), [.s 7, .s 1034], [8], none⟩,
    ⟨.k .lns, [.s 8], [9], none⟩,
    ⟨.k (.fa 1034 0 2), [.s 3], [10], none⟩,
    ⟨.k (.ld 1034 2 1 false), [.s 10, .s 1034], [11], none⟩,
    ⟨.k .len, [.s 11], [12], none⟩,
    ⟨.bl .is 3, [.c (.i .i64 (2 : Int)), .s 9, .s 12], [13], none⟩,
    ⟨.k (.call 36 (.plain 2 1)), [.s 6, .s 13], [14], none⟩,
    ⟨.k .mv, [.s 14], [0], none⟩]) none (.seq (.seq (.reg [
    ⟨.k .mv, [.c (.i .i64 (0 : Int))], [5], none⟩]) none (.block 0 [] (.loop [0, 3, 5, 1034] [(3, .ptr 1034 0), (1034, .cl [])] book_item.m1))) none (.seq (.reg [
    ⟨.k .mv, [.s 0], [33], none⟩,
    ⟨.k .mv, [.s 33], [4], none⟩]) none .ret)))
def book_item.d : TFD := { np := 2, m := book_item.m, ref := none, tips := [], res := [.t 4], own := [], new := none, tnew := [] }
noncomputable def book_item.F (n : Nat) (left : Int) (it : Itv) : Option (List TV) := book_item.d.run (book_item.E n) [(.i .i64 left), (.ag (Itv.cells it))]
noncomputable def book_item.k1 (n : Nat) : Cont (List TV) := seqK (ev _ (book_item.E n) (.seq (.reg [
    ⟨.k .mv, [.s 0], [33], none⟩,
    ⟨.k .mv, [.s 33], [4], none⟩]) none .ret)) none (endK book_item.d)
noncomputable def book_item.l1 (n : Nat) (x0 : Int) (x1 : Int) (x2 : Itv) : Option (List TV) := loopL (evO _ (book_item.E n) book_item.m1) isN [0, 3, 5, 1034] (headT [0, 3, 5, 1034] [(.i .i64 x0), .pt, (.i .i64 x1), (.ag (Itv.cells x2))]) (blockK 0 (book_item.k1 n))
theorem book_item.l1_in (n : Nat) (x0 : Int) (x1 : Int) (x2 : Itv) {ρ : Option (List TV)} (K : ∀ (v1 : Int) (h1 : v1 = (((Itv.kids x2)).length : Int)) (v2 : Bool) (h2 : v2 = (cond (decide (x1 < v1)) (decide ((0 : Int) ≤ x0)) false)) (v3 : Int) (h3 : v3 = (Itm.room x0 (Itm.of (Itm.val (List.getD (Itv.kids x2) (x1).toNat (STy.dflt .il)))))) (v4 : Int) (h4 : v4 = (IntKind.i64.wrap (x1 + (1 : Int)))), ck (!(decide (x1 < v1)) || (decide (x1 < v1))) (ck (!(decide (x1 < v1)) || (decide (x1 < v1))) (cond v2
    (ck (idxOK x1 ((Itv.kids x2)).length) (ck ((decide (x0 ≤ 10000)) && decide ((Itm.bulk (Itm.of (Itm.val (List.getD (Itv.kids x2) (x1).toNat (STy.dflt .il))))) < n)) (book_item.l1 n v3 v4 x2)))
    (some [(.i .i64 x0)]))) = ρ) : book_item.l1 n x0 x1 x2 = ρ := ((ev_loop _ _ _ _ _ _).trans (by kernel_rfl)).trans (K _ rfl _ rfl _ rfl _ rfl)
theorem book_item.F_in (n : Nat) (left : Int) (it : Itv) {ρ : Option (List TV)} (K : ∀ (v1 : Int) (h1 : v1 = (((Itv.text it)).length : Int)) (v2 : Int) (h2 : v2 = (((Itv.bytes it)).length : Int)) (v3 : List Int) (h3 : v3 = ([(2 : Int), v1, v2] : List Int)), ck (decide (left ≤ 10000 ∧ v3.length ≤ 10) && v3.all (fun s => decide (0 ≤ s))) (book_item.l1 n (Book.room left v3) (0 : Int) it) = ρ) : book_item.F n left it = ρ := Eq.trans (by kernel_rfl) (K _ rfl _ rfl _ rfl)
theorem book_item.chk (n : Nat) : ((Go.Proofs.Try.prog.funcs[21]?).any fun fn => chkF Go.Proofs.Try.prog (fun k => ((envL noGl (book_item.env n)).fs k).2) fn book_item.d.erase) = true := by kernel_rfl
end
noncomputable section
def book_SmallItem.env : List (Nat × (Ctr × FSig)) := [(21, (book_item.c, book_item.sg))]
def book_SmallItem.E : TEnv := envL noGl book_SmallItem.env
def book_SmallItem.m : TM := .seq (.reg [
    ⟨.k (.bx 1006), [.s 0, .s 1006], [1, 1006], none⟩,
    ⟨.k .mv, [.c (.b false)], [2], none⟩]) none (.seq (.reg [
    ⟨.k (.ld 1006 0 5 true), [.s 1, .s 1006], [3], none⟩,
    ⟨.k (.call 21 (.plain 2 1)), [.c (.i .i64 (1500 : Int)), .s 3], [4], none⟩,
    ⟨.k (.bin .geq), [.s 4, .c (.i .i64 (0 : Int))], [5], none⟩,
    ⟨.k .mv, [.s 5], [2], none⟩]) none .ret)
def book_SmallItem.d : TFD := { np := 1, m := book_SmallItem.m, ref := none, tips := [], res := [.t 2], own := [], new := none, tnew := [] }
noncomputable def book_SmallItem.F (it : Itv) : Option (List TV) := book_SmallItem.d.run book_SmallItem.E [(.ag (Itv.cells it))]
theorem book_SmallItem.F_in (it : Itv) {ρ : Option (List TV)} (K : ∀ (v1 : Int) (h1 : v1 = (Itm.room ((1500 : Int)) (Itm.of it))), ck (decide (((1500 : Int)) ≤ 10000)) (some [(.b (decide ((0 : Int) ≤ v1)))]) = ρ) : book_SmallItem.F it = ρ := Eq.trans (by kernel_rfl) (K _ rfl)
theorem book_SmallItem.chk : ((Go.Proofs.Try.prog.funcs[10]?).any fun fn => chkF Go.Proofs.Try.prog (fun k => ((envL noGl book_SmallItem.env).fs k).2) fn book_SmallItem.d.erase) = true := by kernel_rfl
end
noncomputable section
def book_Place.env : List (Nat × (Ctr × FSig)) := []
def book_Place.E : TEnv := envL noGl book_Place.env
def book_Place.m : TM := .seq (.reg [
    ⟨.k .mv, [.c (.i .i64 (0 : Int))], [4], none⟩]) none (.seq (.reg [
    ⟨.k .mv, [.s 0], [5], none⟩,
    ⟨.k .mv, [.s 1], [6], none⟩,
    ⟨.k (.bin .rem), [.s 5, .s 6], [7], none⟩,
    ⟨.k .mv, [.s 1], [8], none⟩,
    ⟨.k (.bin .add), [.s 7, .s 8], [9], none⟩,
    ⟨.k .mv, [.s 1], [10], none⟩,
    ⟨.k (.bin .rem), [.s 9, .s 10], [11], none⟩,
    ⟨.k .mv, [.s 11], [4], none⟩]) none .ret)
def book_Place.d : TFD := { np := 2, m := book_Place.m, ref := none, tips := [], res := [.t 4], own := [], new := none, tnew := [] }
noncomputable def book_Place.F (k : Int) (n : Int) : Option (List TV) := book_Place.d.run book_Place.E [(.i .i64 k), (.i .i64 n)]
theorem book_Place.F_in (k : Int) (n : Int) {ρ : Option (List TV)} (K : ∀ (v1 : Int) (h1 : v1 = (IntKind.i64.wrap ((Int.tmod k n) + n))), ck (!decide (n = 0)) (ck (!decide (n = 0)) (some [(.i .i64 (Int.tmod v1 n))])) = ρ) : book_Place.F k n = ρ := Eq.trans (by kernel_rfl) (K _ rfl)
theorem book_Place.chk : ((Go.Proofs.Try.prog.funcs[20]?).any fun fn => chkF Go.Proofs.Try.prog (fun k => ((envL noGl book_Place.env).fs k).2) fn book_Place.d.erase) = true := by kernel_rfl
end
noncomputable section
end
noncomputable section
def law29_awake.env : List (Nat × (Ctr × FSig)) := [(11, (mp_Encode.c, mp_Encode.sg)), (15, (mp_Decode.c, mp_Decode.sg))]
def law29_awake.E : TEnv := envL noGl law29_awake.env
def law29_awake.m : TM := .seq (.reg [
    ⟨.k .mv, [.c (.b false)], [0], none⟩]) none (.seq (.reg [
    ⟨.bd [(.i .i64 (0 : Int)), (.u64 (0 : UInt64)), (.sl .bs ([] : List UInt8)), (.s ([] : Str)), (.sl .il ([] : List Itm))] [(0, 1), (1, 1)], [.c (.i .i64 (2 : Int)), .c (.u64 (32 : UInt64))], [6], none⟩,
    ⟨.k (.call 11 (.plain 1 2)), [.s 6], [7], none⟩,
    ⟨.k .mv, [.s 7], [5], none⟩,
    ⟨.k (.ex 0), [.s 5], [8], none⟩,
    ⟨.k (.ex 1), [.s 5], [9], none⟩,
    ⟨.k .mv, [.s 8], [1], none⟩,
    ⟨.k .mv, [.s 9], [2], none⟩]) none (.seq (.reg [
    ⟨.bl .bs 2, [.c (.u8 (204 : UInt8)), .c (.u8 (127 : UInt8))], [11], none⟩,
    ⟨.k (.call 15 (.plain 2 2)), [.s 11, .c (.i .i64 (5 : Int))], [12], none⟩,
    ⟨.k .mv, [.s 12], [10], none⟩,
    ⟨.k (.ex 0), [.s 10], [13], none⟩,
    ⟨.k (.ex 1), [.s 10], [14], none⟩,
    ⟨.al 1032 [(.i .i64 (0 : Int)), (.u64 (0 : UInt64)), (.sl .bs ([] : List UInt8)), (.s ([] : Str)), (.sl .il ([] : List Itm))] [], [.s 1032], [3, 1032], none⟩,
    ⟨.al 1033 [(.i .i64 (0 : Int)), (.i .i64 (0 : Int)), (.sl .is ([] : List Int))] [], [.s 1033], [4, 1033], none⟩,
    ⟨.k (.st 1032 0 5), [.s 3, .s 1032, .s 13], [1032], none⟩,
    ⟨.k (.st 1033 0 3), [.s 4, .s 1033, .s 14], [1033], none⟩]) none (.seq (.reg [
    ⟨.k .mv, [.s 2], [15], none⟩,
    ⟨.k (.bin .eql), [.s 15, .c (.i .i64 (0 : Int))], [16], none⟩,
    ⟨.k .mv, [.s 16], [17], none⟩,
    ⟨.k .mv, [.s 1], [18], some (17, true)⟩,
    ⟨.k .bs, [.s 18], [19], some (17, true)⟩,
    ⟨.k (.bin .eql), [.s 19, .c (.s ([208, 223] : Str))], [20], some (17, true)⟩,
    ⟨.k .pick, [.s 17, .s 20, .c (.b false)], [21], none⟩,
    ⟨.k .mv, [.s 21], [22], none⟩,
    ⟨.k (.fa 1033 0 0), [.s 4], [23], some (22, true)⟩,
    ⟨.k (.ld 1033 0 1 false), [.s 23, .s 1033], [24], some (22, true)⟩,
    ⟨.k (.bin .eql), [.s 24, .c (.i .i64 (3 : Int))], [25], some (22, true)⟩,
    ⟨.k .pick, [.s 22, .s 25, .c (.b false)], [26], none⟩,
    ⟨.k .mv, [.s 26], [27], none⟩,
    ⟨.k (.fa 1033 0 1), [.s 4], [28], some (27, true)⟩,
    ⟨.k (.ld 1033 1 1 false), [.s 28, .s 1033], [29], some (27, true)⟩,
    ⟨.k (.bin .eql), [.s 29, .c (.i .i64 (0 : Int))], [30], some (27, true)⟩,
    ⟨.k .pick, [.s 27, .s 30, .c (.b false)], [31], none⟩,
    ⟨.k .mv, [.s 31], [0], none⟩]) none .ret)))
def law29_awake.d : TFD := { np := 0, m := law29_awake.m, ref := none, tips := [], res := [.t 0], own := [], new := none, tnew := [] }
noncomputable def law29_awake.F  : Option (List TV) := law29_awake.d.run law29_awake.E []
theorem law29_awake.F_in  {ρ : Option (List TV)} (K : ∀ (v1 : List UInt8) (h1 : v1 = (Mp.enc (Itm.of (Itv.mk (2 : Int) (32 : UInt64) ([] : List UInt8) ([] : Str) ([] : List Itm))))) (v2 : Int) (h2 : v2 = (Mp.chk (Itm.of (Itv.mk (2 : Int) (32 : UInt64) ([] : List UInt8) ([] : Str) ([] : List Itm))))) (v3 : List UInt8) (h3 : v3 = ([(204 : UInt8), (127 : UInt8)] : List UInt8)) (v4 : Bool) (h4 : v4 = (cond (decide (v2 = (0 : Int))) (decide (v1 = ([208, 223] : Str))) false)) (v5 : Int) (h5 : v5 = (Flt.err ((Mp.dec v3 ((5 : Int))).2))) (v6 : Bool) (h6 : v6 = (cond v4 (decide (v5 = (3 : Int))) false)) (v7 : Int) (h7 : v7 = (Flt.at_ ((Mp.dec v3 ((5 : Int))).2))) (v8 : Bool) (h8 : v8 = (cond v6 (decide (v7 = (0 : Int))) false)), ck (decide (Itm.bulk (Itm.of (Itv.mk (2 : Int) (32 : UInt64) ([] : List UInt8) ([] : Str) ([] : List Itm))) ≤ 1073741824)) (ck (decide ((v3).length ≤ 1099511627776)) (ck (!(decide (v2 = (0 : Int))) || (decide (v2 = (0 : Int)))) (ck (!(decide (v2 = (0 : Int))) || (decide (v2 = (0 : Int)))) (ck (!(decide (v2 = (0 : Int))) || (decide (v2 = (0 : Int)))) (ck (!v4 || v4) (ck (!v4 || v4) (ck (!v4 || v4) (ck (!v6 || v6) (ck (!v6 || v6) (ck (!v6 || v6) (some [(.b v8)]))))))))))) = ρ) : law29_awake.F  = ρ := Eq.trans (by kernel_rfl) (K _ rfl _ rfl _ rfl _ rfl _ rfl _ rfl _ rfl _ rfl)
theorem law29_awake.chk : ((Go.Proofs.Try.prog.funcs[9]?).any fun fn => chkF Go.Proofs.Try.prog (fun k => ((envL noGl law29_awake.env).fs k).2) fn law29_awake.d.erase) = true := by kernel_rfl
end
end Go.Eng
namespace Go.Eng
open Go.IntWalk
theorem Cur.good_iff {r : Rdr} : Cur.good r = true ↔ 0 ≤ r.at_ ∧ r.at_ ≤ r.b.length ∧ r.b.length ≤ 1099511627776 := by simp [Cur.good]
theorem rd_At.goal (r : Rdr) : rd_At.F r = some [.i .i64 (r.at_)] := rd_At.F_eq r
theorem rd_Left.goal (r : Rdr) (hp : Cur.good r = true) : rd_Left.F r = some [.i .i64 (Cur.left r)] := by
  obtain ⟨h0, h1, h2⟩ := Cur.good_iff.1 hp
  refine rd_Left.F_in r ?_
  intro v1 e1
  rw [e1, i64_in _ (by omega)]; rfl
theorem rd_Byte.goal (r : Rdr) (hp : Cur.good r = true) : rd_Byte.F r = some [.i .i64 (Cur.byte r), .b (Cur.more r), .ag (Rdr.cells (Cur.adv r 1 (Cur.more r)))] := by
  obtain ⟨h0, h1, h2⟩ := Cur.good_iff.1 hp
  refine rd_Byte.F_in r ?_
  intro v1 e1 v2 e2 v3 e3 v4 e4
  by_cases h : r.at_ = (r.b.length : Int)
  · rw [decide_eq_true h, cond_true, Cur.byte, if_neg (by omega), Cur.more, decide_eq_false (by omega)]; rfl
  · rw [decide_eq_false h, cond_false]
    have e1' : v1 = r.at_ + 1 := by rw [e1, i64_in _ (by omega)]
    have e2' : v2 = r.at_ := by rw [e2, i64_in _ (by omega)]; omega
    rw [ck_of (idx_ok (by omega) (by omega)), Cur.byte, if_pos (by omega), Cur.more, decide_eq_true (by omega)]
    rw [e4, i64_in _ (by have := v3.toNat_lt; omega), e3, e2', e1']; rfl
theorem rd_next.goal (r : Rdr) (n : Int) (hp : Cur.good r = true) : rd_next.F r n = some [.sl .bs (Cur.nx r n (Cur.ok8 r n)), .b (Cur.ok8 r n), .ag (Rdr.cells (Cur.adv r n (Cur.ok8 r n)))] := by
  obtain ⟨h0, h1, h2⟩ := Cur.good_iff.1 hp
  refine rd_next.F_in r n ?_
  intro v1 e1 v2 e2 v3 e3 v4 e4
  simp only [hp, Bool.not_not, Bool.and_self, Bool.and_true, Bool.not_or_self, Bool.or_not_self, ck_true]
  have ev2 : v2 = !Cur.ok8 r n := by
    rw [e2, e1, Cur.ok8, Cur.left]
    by_cases a : n < 1 <;> by_cases b : 8 < n <;> by_cases c : (r.b.length : Int) - r.at_ < n <;> simp [a, b, c] <;> omega
  rw [ev2]
  cases ho : Cur.ok8 r n with
  | false => rfl
  | true =>
    have ho' : 1 ≤ n ∧ n ≤ 8 ∧ n ≤ r.b.length - r.at_ := by simpa [Cur.ok8] using ho
    have e3' : v3 = r.at_ + n := by rw [e3, i64_in _ (by omega)]
    have e5 : IntKind.i64.wrap (v3 - n) = r.at_ := by rw [e3', i64_in _ (by omega)]; omega
    rw [Bool.not_true, cond_false, e5, ck_of (cut_ok h0 (by omega) (by omega)), e4, e5, e3', Cur.nx, Cur.adv, cond_true, cond_true, show (r.at_ + n).toNat = r.at_.toNat + n.toNat by omega, List.drop_take, show r.at_.toNat + n.toNat - r.at_.toNat = n.toNat by omega]
    rfl
theorem rd_Take.goal (r : Rdr) (n : Int) (hp : Cur.good r = true) : rd_Take.F r n = some [.sl .bs (Cur.nx r n (Cur.okT r n)), .b (Cur.okT r n), .ag (Rdr.cells (Cur.adv r n (Cur.okT r n)))] := by
  obtain ⟨h0, h1, h2⟩ := Cur.good_iff.1 hp
  refine rd_Take.F_in r n ?_
  intro v1 e1 v2 e2 v3 e3
  simp only [hp, Bool.not_not, Bool.and_self, Bool.and_true, Bool.not_or_self, Bool.or_not_self, ck_true]
  have ev1 : v1 = !Cur.okT r n := by
    rw [e1, Cur.okT, Cur.left]
    by_cases a : n < 0 <;> by_cases c : (r.b.length : Int) - r.at_ < n <;> simp [a, c] <;> omega
  rw [ev1]
  cases ho : Cur.okT r n with
  | false => rfl
  | true =>
    have ho' : 0 ≤ n ∧ n ≤ r.b.length - r.at_ := by simpa [Cur.okT] using ho
    have e2' : v2 = r.at_ + n := by rw [e2, i64_in _ (by omega)]
    have e5 : IntKind.i64.wrap (v2 - n) = r.at_ := by rw [e2', i64_in _ (by omega)]; omega
    have e6 : v3 = (r.b.drop r.at_.toNat).take n.toNat := by
      rw [e3, e5, e2', show (r.at_ + n).toNat = r.at_.toNat + n.toNat by omega, List.drop_take, show r.at_.toNat + n.toNat - r.at_.toNat = n.toNat by omega]
    have e7 : v3.length ≤ 1099511627776 := by rw [e6, List.length_take, List.length_drop]; omega
    rw [Bool.not_true, cond_false, e5, ck_of (cut_ok h0 (by omega) (by omega)), ck_of (big_ap (by omega) (by omega)), e6, e2', Cur.nx, Cur.adv, cond_true, cond_true]
    rfl
theorem be_step (x : UInt64) (c : UInt8) : shl64 x 8 ||| UInt64.ofInt (c.toNat : Int) = x * 256 + c.toUInt64 := by
  apply UInt64.toNat_inj.1
  have hc := c.toNat_lt
  have hx := x.toNat_lt
  rw [UInt64.toNat_or, u64_nat, shl64, UInt64.toNat_add, UInt64.toNat_mul, UInt64.toNat_ofNat', UInt8.toNat_toUInt64]
  rw [Nat.mod_eq_of_lt (show c.toNat < 18446744073709551616 by omega)]
  have e : x.toNat * 2 ^ 8 % 2 ^ 64 = (x.toNat % 2 ^ 56) * 2 ^ 8 := by omega
  rw [e, or_add (k := 8) (by omega), show (256 : UInt64).toNat = 256 from rfl]
  omega
theorem rd_High.l1_ok (ok : Bool) (l : Str) (q : Rdr) (hl : l.length ≤ 1099511627776) : ∀ (m i : Nat) (x : UInt64), i + m = l.length → rd_High.l1 ok x l (l.length : Int) i q = some [.u64 ((l.drop i).foldl (fun v x => v * 256 + x.toUInt64) x), .b ok, .ag (Rdr.cells q)] := by
  intro m
  induction m with
  | zero =>
    intro i x hi
    refine rd_High.l1_in _ _ _ _ _ _ ?_
    intro v1 e1 v2 e2 v3 e3 v4 e4
    rw [decide_eq_false (by omega), cond_false, List.drop_of_length_le (by omega)]; rfl
  | succ m ih =>
    intro i x hi
    refine rd_High.l1_in _ _ _ _ _ _ ?_
    intro v1 e1 v2 e2 v3 e3 v4 e4
    rw [Int.toNat_natCast] at e1
    rw [decide_eq_true (by omega), cond_true, ck_of (idx_ok (by omega) (by omega)), drop_cons (l := l) (i := i) (by omega) 0, List.foldl_cons, ← e1, show v4 = ((i + 1 : Nat) : Int) by rw [e4, i64_in _ (by omega)]; omega, ih _ _ (by omega), e2, e3, show (8 : UInt64).toNat = 8 from rfl, be_step]
theorem Cur.nx_len (r : Rdr) (n : Int) (ok : Bool) : (Cur.nx r n ok).length ≤ r.b.length := by
  unfold Cur.nx; cases ok <;> simp <;> omega
theorem rd_High.goal (r : Rdr) (n : Int) (hp : Cur.good r = true) : rd_High.F r n = some [.u64 (Cur.be (Cur.nx r n (Cur.ok8 r n))), .b (Cur.ok8 r n), .ag (Rdr.cells (Cur.adv r n (Cur.ok8 r n)))] := by
  obtain ⟨h0, h1, h2⟩ := Cur.good_iff.1 hp
  refine rd_High.F_in r n ?_
  intro v1 e1
  rw [ck_of hp, e1]
  have := Cur.nx_len r n (Cur.ok8 r n)
  exact rd_High.l1_ok _ _ _ (by omega) _ 0 _ (Nat.zero_add _)
theorem cur_New.goal (b : Str) (hp : decide (b.length ≤ 1099511627776) = true) : cur_New.F b = some [.pt, .ag (Rdr.cells (Rdr.mk b 0))] := by
  have h := of_decide_eq_true hp
  rw [cur_New.F_eq, ck_of (big_ap (by omega) (by omega))]; rfl
theorem cur_number.goal (n : Int) : cur_number.F n = some [.b (decide (1 ≤ n ∧ n ≤ 8))] := by
  refine cur_number.F_in n ?_
  intro v1 e1
  simp only [Bool.not_or_self, ck_true, e1]
  by_cases a : 1 ≤ n <;> by_cases b : n ≤ 8 <;> simp [a, b]
theorem cur_Lay.goal : cur_Lay.F = some [.pt, .ag (Wtr.cells (Wtr.mk []))] := cur_Lay.F_eq
theorem wr_Byte.goal (w : Wtr) (v : Int) (hp : decide (w.b.length ≤ 1099511627776) = true) : wr_Byte.F w v = some [.ag (Wtr.cells (Wtr.mk (w.b ++ [UInt8.ofInt v])))] := by
  have h := of_decide_eq_true hp
  refine wr_Byte.F_in w v ?_
  intro v1 e1
  subst e1
  rw [ck_of (big_ap (by simp; omega) (by simp; omega))]; rfl
theorem wr_Raw.goal (w : Wtr) (b : Str) (hp : decide (w.b.length + b.length ≤ 1099511627776) = true) : wr_Raw.F w b = some [.ag (Wtr.cells (Wtr.mk (w.b ++ b)))] := by
  have h := of_decide_eq_true hp
  rw [wr_Raw.F_eq, ck_of (big_ap (by omega) (by omega))]; rfl
theorem shr_div (v : UInt64) (n : Nat) : shr64 (v / 256) (8 * n) = shr64 v (8 * (n + 1)) := by
  rw [shr64, shr64, UInt64.toNat_div, show (256 : UInt64).toNat = 2 ^ 8 from rfl, Nat.div_div_eq_div_mul, ← Nat.pow_add, show 8 + 8 * n = 8 * (n + 1) by omega]
theorem Cur.putLow_last : ∀ (n : Nat) (v : UInt64), Cur.putLow v (n + 1) = Cur.putLow v n ++ [(shr64 v (8 * n)).toUInt8]
  | 0, v => by
    have : shr64 v (8 * 0) = v := by rw [shr64]; simp
    rw [this]; rfl
  | n + 1, v => by
    rw [Cur.putLow, Cur.putLow_last n, Cur.putLow, shr_div]; rfl
theorem Cur.putHigh_succ (v : UInt64) (n : Nat) : Cur.putHigh v (n + 1) = (shr64 v (8 * n)).toUInt8 :: Cur.putHigh v n := by
  rw [Cur.putHigh, Cur.putLow_last, List.reverse_append]; rfl
theorem Cur.putLow_len : ∀ (n : Nat) (v : UInt64), (Cur.putLow v n).length = n
  | 0, _ => rfl
  | n + 1, v => by rw [Cur.putLow, List.length_cons, Cur.putLow_len n]
theorem Cur.putHigh_len (v : UInt64) (n : Nat) : (Cur.putHigh v n).length = n := by rw [Cur.putHigh, List.length_reverse, Cur.putLow_len]
theorem u8_of (v : UInt64) : UInt8.ofInt (v.toNat : Int) = v.toUInt8 := by
  apply UInt8.toNat_inj.1
  rw [u8_nat, UInt64.toNat_toUInt8]
theorem wr_High.l1_ok (v : UInt64) (n : Int) (hn : 1 ≤ n ∧ n ≤ 8) : ∀ (k : Nat) (w : Wtr), k ≤ 8 → w.b.length + k ≤ 1099511627786 → wr_High.l1 v n ((k : Int) - 1) w = some [.ag (Wtr.cells (Wtr.mk (w.b ++ Cur.putHigh v k)))] := by
  intro k
  induction k with
  | zero =>
    intro w _ _
    refine wr_High.l1_in _ _ _ _ ?_
    intro v1 e1 v2 e2 v3 e3 v4 e4 v5 e5
    simp only [Bool.not_or_self, ck_true]
    rw [e1, decide_eq_true hn, cond_true, decide_eq_false (by omega), cond_false, show Cur.putHigh v 0 = [] from rfl, List.append_nil]
  | succ k ih =>
    intro w hk hw
    refine wr_High.l1_in _ _ _ _ ?_
    intro v1 e1 v2 e2 v3 e3 v4 e4 v5 e5
    simp only [Bool.not_or_self, ck_true]
    have e2' : v2 = ((8 * k : Nat) : Int) := by rw [e2, i64_in _ (by omega)]; omega
    rw [e1, decide_eq_true hn, cond_true, decide_eq_true (by omega), cond_true, ck_of (decide_eq_true (by omega)), ck_of (big_ap (by simp; omega) (by simp; omega))]
    rw [show v5 = (k : Int) - 1 by rw [e5, i64_in _ (by omega)]; omega, ih _ (by omega) (by rw [e4]; simp; omega), e4, e3, e2', Int.toNat_natCast, u8_of, Cur.putHigh_succ, List.append_assoc]
    rfl
theorem wr_High.goal (w : Wtr) (v : UInt64) (n : Int) (hp : decide (w.b.length ≤ 1099511627776) = true) : wr_High.F w v n = some [.ag (Wtr.cells (Wtr.mk (w.b ++ Cur.high v n)))] := by
  have h := of_decide_eq_true hp
  refine wr_High.F_in w v n ?_
  intro v1 e1
  by_cases hn : 1 ≤ n ∧ n ≤ 8
  · rw [show v1 = ((n.toNat : Nat) : Int) - 1 by rw [e1, i64_in _ (by omega)]; omega, wr_High.l1_ok v n hn _ _ (by omega) (by omega), Cur.high, if_pos hn]
  · refine wr_High.l1_in _ _ _ _ ?_
    intro u1 f1 u2 f2 u3 f3 u4 f4 u5 f5
    simp only [Bool.not_or_self, ck_true]
    rw [f1, decide_eq_false hn, cond_false, cond_false, Cur.high, if_neg hn, List.append_nil]
theorem wr_Bytes.goal (w : Wtr) (hp : decide (w.b.length ≤ 1099511627776) = true) : wr_Bytes.F w = some [.sl .bs (w.b), .ag (Wtr.cells w)] := by
  have h := of_decide_eq_true hp
  rw [wr_Bytes.F_eq, ck_of (big_ap (by omega) (by omega))]
end Go.Eng
namespace Go.Eng
open Go.IntWalk
theorem utf_is.goal (r : Int) : utf_is.F r = some [.b (Utf.isRune r)] := by
  refine utf_is.F_in r ?_
  intro v1 h1 v2 h2 v3 h3
  subst h1 h2 h3
  by_cases a : 0 ≤ r <;> by_cases b : r ≤ 1114111 <;> by_cases c : r < 55296 <;> simp [ck, a, b, c, Utf.isRune]
theorem and192 : ∀ n, n < 256 → ((n &&& 192 = 128) ↔ (128 ≤ n ∧ n < 192)) := by decide +kernel
theorem and63 : ∀ n, n < 256 → (128 ≤ n ∧ n < 192) → n &&& 63 = n - 128 := by decide +kernel
theorem and31 : ∀ n, n < 256 → (192 ≤ n ∧ n < 224) → n &&& 31 = n - 192 := by decide +kernel
theorem and15 : ∀ n, n < 256 → (224 ≤ n ∧ n < 240) → n &&& 15 = n - 224 := by decide +kernel
theorem and7 : ∀ n, n < 256 → (240 ≤ n ∧ n < 248) → n &&& 7 = n - 240 := by decide +kernel
theorem u8lt (c : UInt8) : c.toNat < 256 := by have := c.toNat_lt; simpa using this
theorem cont_byte (c : UInt8) : decide ((c &&& (192 : UInt8)) = (128 : UInt8)) = decide (128 ≤ c.toNat ∧ c.toNat < 192) := by
  have h := and192 c.toNat (u8lt c)
  rw [Bool.eq_iff_iff]
  simp only [decide_eq_true_eq]
  rw [← h, ← UInt8.toNat_inj, UInt8.toNat_and]
  exact Iff.rfl
theorem low6 (c : UInt8) (h : 128 ≤ c.toNat ∧ c.toNat < 192) : ((c &&& (63 : UInt8)).toNat : Int) = ((c.toNat - 128 : Nat) : Int) := by
  rw [UInt8.toNat_and]
  exact congrArg _ (and63 c.toNat (u8lt c) h)
def mres (r : Option Nat) (more least : Nat) : Option (List TV) := match r with
  | some r => if r < least ∨ Utf.isRune r = false then some [.i .i64 0, .i .i64 0] else some [.i .i64 r, .i .i64 (more + 1 : Int)]
  | none => some [.i .i64 0, .i .i64 0]
theorem mres_eq (c : Nat) (more least : Nat) (l : Str) : mres (Utf.cont c more l) more least = some [.i .i64 (Utf.multi c more least l).1, .i .i64 (Utf.multi c more least l).2] := by
  unfold mres Utf.multi
  cases Utf.cont c more l with
  | none => rfl
  | some r => simp only; split <;> rfl
theorem utf_Rune.end_ (r : Nat) (more least : Nat) (hm : more < 8) :
    (ck (!(!(decide ((r : Int) < (least : Int)))) || (!(decide ((r : Int) < (least : Int))))) (ck (!(!(decide ((r : Int) < (least : Int)))) || (!(decide ((r : Int) < (least : Int))))) (ck ((decide ((r : Int) < (least : Int))) || (!(decide ((r : Int) < (least : Int))))) (cond (cond (decide ((r : Int) < (least : Int))) true (!(Utf.isRune r)))
    (utf_Rune.l1)
    (some [(.i .i64 (r : Int)), (.i .i64 (IntKind.i64.wrap ((more : Int) + (1 : Int))))]))))) = mres (some r) more least := by
  simp only [Bool.not_or_self, Bool.or_not_self, ck_true]
  rw [i64_in _ (by omega), utf_Rune.l1_eq]
  unfold mres
  by_cases h : r < least
  · simp [h]
  · simp only [show ¬ ((r : Int) < (least : Int)) by omega, decide_false, cond_false, h, false_or]
    cases Utf.isRune r <;> simp
theorem utf_Rune.l3_ok (b : Str) (at_ : Nat) (more least : Nat) (hm : more < 8) (hb : b.length ≤ 1099511627776) (hlt : at_ + more < b.length) : ∀ (k i r : Nat), i + k = more + 1 → r < 2 ^ (10 + 6 * i) →
    utf_Rune.l3 b at_ r more least i = mres (Utf.cont r k (b.drop (at_ + i))) more least := by
  intro k
  induction k with
  | zero =>
    intro i r hi hr
    refine utf_Rune.l3_in _ _ _ _ _ _ ?_
    intro v1 h1 v2 h2 v3 h3 v4 h4 v5 h5 v6 h6 v7 h7
    rw [show decide ((i : Int) ≤ (more : Int)) = false by simp; omega, cond_false]
    subst h6 h7
    rw [Utf.cont]
    exact utf_Rune.end_ r more least hm
  | succ k ih =>
    intro i r hi hr
    refine utf_Rune.l3_in _ _ _ _ _ _ ?_
    intro v1 h1 v2 h2 v3 h3 v4 h4 v5 h5 v6 h6 v7 h7
    have hw : IntKind.i64.wrap ((at_ : Int) + (i : Int)) = ((at_ + i : Nat) : Int) := by rw [i64_in _ (by omega)]; omega
    have hdr := drop_cons (l := b) (i := at_ + i) (by omega) 0
    rw [show decide ((i : Int) ≤ (more : Int)) = true by simp; omega, cond_true, hw]
    rw [hw, Int.toNat_natCast] at h1
    rw [ck_of (idx_ok (by omega) (by omega)), hdr, ← h1, Utf.cont, h2, cont_byte]
    by_cases hc : 128 ≤ v1.toNat ∧ v1.toNat < 192
    · rw [if_pos hc, decide_eq_true hc]
      simp only [Bool.not_true, cond_false]
      rw [ck_of (idx_ok (by omega) (by omega))]
      have hp : 2 ^ (10 + 6 * i) * 64 = 2 ^ (10 + 6 * (i + 1)) := by rw [show 10 + 6 * (i + 1) = (10 + 6 * i) + 6 by omega, Nat.pow_add 2 (10 + 6 * i) 6]
      have hp2 : 2 ^ (10 + 6 * (i + 1)) ≤ 2 ^ 58 := Nat.pow_le_pow_right (by omega) (by omega)
      have hr64 : r * 64 + 64 ≤ 2 ^ (10 + 6 * (i + 1)) := by
        rw [← hp]; have := Nat.mul_le_mul_right 64 (Nat.succ_le_of_lt hr); omega
      have e3 : v3 = ((r * 64 : Nat) : Int) := by
        rw [h3]
        have : (min (((6 : UInt64)).toNat) (IntKind.i64.bits)) = 6 := by decide
        rw [this, i64_in _ (by simp at hp2; omega)]; simp
      have e4 : v4 = ((v1.toNat - 128 : Nat) : Int) := by
        rw [h4, low6 v1 hc]; exact i64_in _ (by omega)
      have e5 : v5 = ((i + 1 : Nat) : Int) := by rw [h5, i64_in _ (by omega)]; omega
      have e6 : intBitsV .or .i64 v3 v4 = ((r * 64 + (v1.toNat - 128) : Nat) : Int) := by
        rw [e3, e4, or_i64 _ _ (by simp at hp2; omega) (by omega)]
        have := or_add (a := r) (b := v1.toNat - 128) (k := 6) (by simp; omega)
        simp at this
        rw [this]
      rw [e6, e5, ih (i + 1) _ (by omega) (by omega), Nat.add_assoc]
    · rw [if_neg hc, decide_eq_false hc]
      simp only [Bool.not_false, cond_true]
      rw [utf_Rune.l1_eq]; rfl
theorem utf_Rune.j2_ok (b : Str) (at_ : Nat) (r more least : Nat) (hm : 1 ≤ more ∧ more < 8) (hb : b.length ≤ 1099511627776) (hlt : at_ < b.length) (hr : r < 1024) :
    utf_Rune.j2 b at_ r more least = mres (Utf.cont r more (b.drop (at_ + 1))) more least := by
  have hcn : ∀ (k r : Nat) (l : Str), l.length < k → Utf.cont r k l = none := by
    intro k
    induction k with
    | zero => intro r l h; omega
    | succ k ih =>
      intro r l h
      cases l with
      | nil => rfl
      | cons c l => rw [Utf.cont]; split
                    · exact ih _ _ (by simp at h; omega)
                    · rfl
  have key := fun (h : at_ + more < b.length) => utf_Rune.l3_ok b at_ more least hm.2 hb h more 1 r (by omega) (by simp; omega)
  by_cases hx : at_ + more < b.length
  · rw [← key hx]
    refine utf_Rune.j2_in _ _ _ _ _ ?_
    intro v1 h1 v2 h2 v3 h3 v4 h4 v5 h5 v6 h6 v7 h7 v8 h8 v9 h9 v10 h10
    symm
    refine utf_Rune.l3_in _ _ _ _ _ _ ?_
    intro w1 k1 w2 k2 w3 k3 w4 k4 w5 k5 w6 k6 w7 k7
    have e1 : v1 = (b.length : Int) - at_ := by rw [h1]; exact i64_in _ (by omega)
    have e2 : v2 = (b.length : Int) - at_ - 1 := by rw [h2, e1]; exact i64_in _ (by omega)
    rw [show decide (v2 < (more : Int)) = false by simp; omega, cond_false]
    have a1 : ((1 : Nat) : Int) = 1 := rfl
    simp only [a1] at k1 k2 k3 k4 k5 k6 k7 ⊢
    subst h3; subst h4; subst h5; subst h6; subst h7; subst h8; subst h9; subst h10; subst k1; subst k2; subst k3; subst k4; subst k5; subst k6; subst k7
    rfl
  · refine utf_Rune.j2_in _ _ _ _ _ ?_
    intro v1 h1 v2 h2 v3 h3 v4 h4 v5 h5 v6 h6 v7 h7 v8 h8 v9 h9 v10 h10
    have e1 : v1 = (b.length : Int) - at_ := by rw [h1]; exact i64_in _ (by omega)
    have e2 : v2 = (b.length : Int) - at_ - 1 := by rw [h2, e1]; exact i64_in _ (by omega)
    rw [show decide (v2 < (more : Int)) = true by simp; omega, cond_true, utf_Rune.l1_eq, hcn _ _ _ (by simp; omega)]
    rfl
theorem rng (lo hi n : Nat) : (cond (decide ((lo : Int) ≤ (n : Int))) (decide ((n : Int) < (hi : Int))) false) = decide (lo ≤ n ∧ n < hi) := by
  by_cases a : lo ≤ n
  · rw [show decide ((lo : Int) ≤ (n : Int)) = true by simp; omega, cond_true, Bool.eq_iff_iff]; simp; omega
  · rw [show decide ((lo : Int) ≤ (n : Int)) = false by simp; omega, cond_false, decide_eq_false (by omega)]
theorem utf_Rune.goal (b : Str) (at_ : Int) (hp : decide (b.length ≤ 1099511627776) = true) : utf_Rune.F b at_ = some [.i .i64 (Utf.runeAt b at_).1, .i .i64 (Utf.runeAt b at_).2] := by
  have hb : b.length ≤ 1099511627776 := of_decide_eq_true hp
  refine utf_Rune.F_in b at_ ?_
  intro v1 h1 v2 h2 v3 h3 v4 h4 v5 h5 v6 h6 v7 h7 v8 h8 v9 h9
  unfold Utf.runeAt
  by_cases h0 : at_ < 0
  · subst h1
    simp [h0, ck, utf_Rune.l1_eq]
  · have hd0 : decide (at_ < 0) = false := decide_eq_false h0
    obtain ⟨i, rfl⟩ := Int.eq_ofNat_of_zero_le (show 0 ≤ at_ by omega)
    rw [hd0] at h1 ⊢
    subst h1
    simp only [Bool.not_false, Bool.not_true, Bool.false_or, Bool.or_true, ck_true, cond_false, Int.toNat_natCast] at h2 ⊢
    by_cases hl : b.length ≤ i
    · rw [show decide ((b.length : Int) ≤ (i : Int)) = true by simp; omega, if_pos (.inr (by omega)), cond_true, utf_Rune.l1_eq]; rfl
    · rw [show decide ((b.length : Int) ≤ (i : Int)) = false by simp; omega, if_neg (by omega), cond_false, ck_of (idx_ok (by omega) (by omega)), drop_cons (l := b) (i := i) (by omega) 0, ← h2, Utf.rune]
      have hc := u8lt v2
      have e3 : v3 = (v2.toNat : Int) := by rw [h3]; exact i64_in _ (by omega)
      have an : ∀ (m : Nat), m < 256 → intBitsV .and .i64 v3 m = ((v2.toNat &&& m : Nat) : Int) := fun m h => by rw [e3, and_i64 _ _ (by omega) (by omega)]
      have an1 : v5 = ((v2.toNat &&& 31 : Nat) : Int) := h5.trans (an 31 (by omega))
      have an2 : v7 = ((v2.toNat &&& 15 : Nat) : Int) := h7.trans (an 15 (by omega))
      have an3 : v9 = ((v2.toNat &&& 7 : Nat) : Int) := h9.trans (an 7 (by omega))
      have e4 : v4 = decide (192 ≤ v2.toNat ∧ v2.toNat < 224) := by rw [h4, e3]; exact rng 192 224 _
      have e6 : v6 = decide (224 ≤ v2.toNat ∧ v2.toNat < 240) := by rw [h6, e3]; exact rng 224 240 _
      have e8 : v8 = decide (240 ≤ v2.toNat ∧ v2.toNat < 248) := by rw [h8, e3]; exact rng 240 248 _
      have J : ∀ (r more least : Nat), 1 ≤ more ∧ more < 8 → r < 1024 → utf_Rune.j2 b i r more least = some [.i .i64 (Utf.multi r more least (b.drop (i + 1))).1, .i .i64 (Utf.multi r more least (b.drop (i + 1))).2] := fun r more least h1 h2 =>
        (utf_Rune.j2_ok b i r more least h1 hb (by omega) h2).trans (mres_eq _ _ _ _)
      simp only [Bool.not_or_self, ck_true]
      by_cases c1 : v2.toNat < 128
      · rw [if_pos c1, e3, show decide ((v2.toNat : Int) < 128) = true by simp; omega, cond_true]; rfl
      · rw [if_neg c1, show decide (v3 < (128 : Int)) = false by rw [e3]; simp; omega, cond_false, e4]
        by_cases c2 : 192 ≤ v2.toNat ∧ v2.toNat < 224
        · rw [if_pos c2, decide_eq_true c2, cond_true, an1, and31 _ hc c2]; exact J _ 1 128 (by omega) (by omega)
        · rw [if_neg c2, decide_eq_false c2, cond_false, e6]
          by_cases c3 : 224 ≤ v2.toNat ∧ v2.toNat < 240
          · rw [if_pos c3, decide_eq_true c3, cond_true, an2, and15 _ hc c3]; exact J _ 2 2048 (by omega) (by omega)
          · rw [if_neg c3, decide_eq_false c3, cond_false, e8]
            by_cases c4 : 240 ≤ v2.toNat ∧ v2.toNat < 248
            · rw [if_pos c4, decide_eq_true c4, cond_true, an3, and7 _ hc c4]; exact J _ 3 65536 (by omega) (by omega)
            · rw [if_neg c4, decide_eq_false c4, cond_false, utf_Rune.l1_eq]; rfl
theorem Utf.rune_size (l : Str) : 0 ≤ (Utf.rune l).2 ∧ (Utf.rune l).2 ≤ l.length := by
  have hcl : ∀ (k r q : Nat) (l : Str), Utf.cont r k l = some q → k ≤ l.length := by
    intro k
    induction k with
    | zero => intro r q l _; omega
    | succ k ih =>
      intro r q l h
      cases l with
      | nil => cases h
      | cons c l =>
        rw [Utf.cont] at h
        split at h
        · have := ih _ _ _ h; simp; omega
        · cases h
  have hmu : ∀ (r more least : Nat) (l : Str), 0 ≤ (Utf.multi r more least l).2 ∧ (Utf.multi r more least l).2 ≤ l.length + 1 := by
    intro r more least l
    unfold Utf.multi
    cases h : Utf.cont r more l with
    | none => simp; omega
    | some q =>
      have := hcl _ _ _ _ h
      simp only
      split <;> simp <;> omega
  cases l with
  | nil => exact ⟨by decide, by decide⟩
  | cons c l =>
    unfold Utf.rune
    simp only [List.length_cons]
    split
    · simp; omega
    · split
      · have := hmu (c.toNat - 192) 1 128 l; omega
      · split
        · have := hmu (c.toNat - 224) 2 2048 l; omega
        · split
          · have := hmu (c.toNat - 240) 3 65536 l; omega
          · simp; omega
theorem Utf.lookN_ge (l : Str) : ∀ n, l.length ≤ n → Utf.lookN n l = Utf.lookN l.length l := by
  have key : ∀ (m : Nat) (l : Str), l.length ≤ m → ∀ n, l.length ≤ n → Utf.lookN n l = Utf.lookN l.length l := by
    intro m
    induction m with
    | zero =>
      intro l hl n hn
      have : l = [] := List.length_eq_zero_iff.1 (by omega)
      subst this
      cases n with
      | zero => rfl
      | succ n => rfl
    | succ m ih =>
      intro l hl n hn
      cases h : l.length with
      | zero =>
        have : l = [] := List.length_eq_zero_iff.1 h
        subst this
        cases n <;> rfl
      | succ k =>
        cases n with
        | zero => omega
        | succ n =>
          unfold Utf.lookN
          have hs := Utf.rune_size l
          by_cases h0 : (Utf.rune l).2 = 0
          · rw [if_pos h0, if_pos h0]
          · rw [if_neg h0, if_neg h0]
            have hd : (l.drop (Utf.rune l).2.toNat).length ≤ k := by simp; omega
            rw [ih _ (by simp; omega) n (by simp; omega), ih _ (by simp; omega) k hd]
  exact fun n hn => key _ l (Nat.le_refl _) n hn
theorem Utf.look_step (l : Str) (h : (Utf.rune l).2 ≠ 0) : Utf.look l = ((Utf.look (l.drop (Utf.rune l).2.toNat)).1 + (Utf.rune l).2.toNat, (Utf.look (l.drop (Utf.rune l).2.toNat)).2 + 1) := by
  have hs := Utf.rune_size l
  unfold Utf.look
  cases hl : l.length with
  | zero => omega
  | succ k =>
    rw [Utf.lookN, if_neg h]
    simp only
    rw [Utf.lookN_ge _ k (by simp; omega)]
theorem Utf.look_none (l : Str) (h : (Utf.rune l).2 = 0) : Utf.look l = (0, 0) := by
  unfold Utf.look
  cases l.length with
  | zero => rfl
  | succ k => rw [Utf.lookN, if_pos h]
theorem Utf.runeAt_nat (b : Str) (i : Nat) (h : i < b.length) : Utf.runeAt b i = Utf.rune (b.drop i) := by
  unfold Utf.runeAt; rw [if_neg (by omega), Int.toNat_natCast]
theorem utf_look.l1_ok (b : Str) (hb : b.length ≤ 1099511627776) : ∀ (m i k : Nat), b.length - i ≤ m → i ≤ b.length → k ≤ i →
    utf_look.l1 b i k = some [.i .i64 ((i + (Utf.look (b.drop i)).1 : Nat) : Int), .i .i64 ((k + (Utf.look (b.drop i)).2 : Nat) : Int)] := by
  intro m
  induction m with
  | zero =>
    intro i k hm hi hk
    refine utf_look.l1_in _ _ _ ?_
    intro v1 h1 v2 h2
    rw [show decide ((i : Int) < (b.length : Int)) = false by simp; omega, cond_false, utf_look.j2_eq, List.drop_of_length_le (by omega)]
    rfl
  | succ m ih =>
    intro i k hm hi hk
    by_cases hlt : i < b.length
    · refine utf_look.l1_in _ _ _ ?_
      intro v1 h1 v2 h2
      rw [Utf.runeAt_nat b i hlt] at h1 ⊢
      have hs := Utf.rune_size (b.drop i)
      rw [List.length_drop] at hs
      rw [show decide ((i : Int) < (b.length : Int)) = true by simp; omega, cond_true, ck_of (decide_eq_true hb)]
      by_cases h0 : (Utf.rune (b.drop i)).2 = 0
      · rw [decide_eq_true h0, cond_true, utf_look.j2_eq, Utf.look_none _ h0]; rfl
      · rw [decide_eq_false h0, cond_false, Utf.look_step _ h0]
        have e1 : v1 = ((i + (Utf.rune (b.drop i)).2.toNat : Nat) : Int) := by rw [h1, i64_in _ (by omega)]; omega
        have e2 : v2 = ((k + 1 : Nat) : Int) := by rw [h2, i64_in _ (by omega)]; omega
        rw [e1, e2, ih _ _ (by omega) (by omega) (by omega), List.drop_drop]
        simp only [Option.some.injEq, List.cons.injEq, TV.i.injEq, true_and, and_true]
        exact ⟨by omega, by omega⟩
    · refine utf_look.l1_in _ _ _ ?_
      intro v1 h1 v2 h2
      rw [show decide ((i : Int) < (b.length : Int)) = false by simp; omega, cond_false, utf_look.j2_eq, List.drop_of_length_le (by omega)]
      rfl
theorem utf_look.goal (b : Str) (hp : decide (b.length ≤ 1099511627776) = true) : utf_look.F b = some [.i .i64 ((Utf.look b).1 : Int), .i .i64 ((Utf.look b).2 : Int)] := by
  rw [utf_look.F_eq]
  have := utf_look.l1_ok b (of_decide_eq_true hp) b.length 0 0 (by omega) (by omega) (by omega)
  simpa using this
theorem utf_Check.goal (b : Str) (hp : decide (b.length ≤ 1099511627776) = true) : utf_Check.F b = some [.i .i64 ((Utf.look b).1 : Int), .b (Utf.whole b)] := by
  have e : decide (((Utf.look b).1 : Int) = (b.length : Int)) = Utf.whole b := by unfold Utf.whole; rw [Bool.eq_iff_iff]; simp; omega
  rw [utf_Check.F_eq, ck_of hp, e]
theorem ref2_Rune.end_ (r : Nat) (more least : Nat) {v7 v9 : Bool} (h7 : v7 = (cond (decide ((r : Int) < (least : Int))) true (decide ((1114111 : Int) < (r : Int))))) (h9 : v9 = (cond (decide ((55296 : Int) ≤ (r : Int))) (decide ((r : Int) ≤ (57343 : Int))) false)) :
    cond (cond v7 true v9)
    (some [(.i .i64 (0 : Int)), (.i .i64 (0 : Int))])
    (some [(.i .i64 (r : Int)), (.i .i64 ((more + 1 : Nat) : Int))]) = mres (some r) more least := by
  have e : cond v7 true v9 = decide (r < least ∨ Utf.isRune r = false) := by
    subst h7 h9
    unfold Utf.isRune
    rw [Bool.eq_iff_iff]
    by_cases a : r < least
    · simp [a]
    · by_cases b : 1114111 < r
      · simp [a, show (1114111 : Int) < (r : Int) by omega] <;> omega
      · by_cases c : 55296 ≤ r
        · simp [a, show ¬ (1114111 : Int) < (r : Int) by omega, show (55296 : Int) ≤ (r : Int) by omega] <;> omega
        · simp [a, show ¬ (1114111 : Int) < (r : Int) by omega, show ¬ (55296 : Int) ≤ (r : Int) by omega] <;> omega
  rw [e]
  unfold mres
  by_cases h : r < least ∨ Utf.isRune r = false
  · rw [decide_eq_true h]; simp only [h, if_true, cond_true]
  · rw [decide_eq_false h]; simp only [h, if_false, cond_false]; rfl
theorem ck6 (a b c : Bool) (hc : c = (!a && b)) : (!(!a) || ((!a) && (!b || c))) = true := by subst hc; cases a <;> cases b <;> rfl
theorem ref2_Rune.l2_ok (b : Str) (at_ : Nat) (more least : Nat) (hm : more < 8) (hb : b.length ≤ 1099511627776) (hlt : at_ + more < b.length) : ∀ (k i r : Nat), i + k = more + 1 → r < 2 ^ (10 + 6 * i) →
    ref2_Rune.l2 b at_ ((more + 1 : Nat) : Int) r least i = mres (Utf.cont r k (b.drop (at_ + i))) more least := by
  intro k
  induction k with
  | zero =>
    intro i r hi hr
    refine ref2_Rune.l2_in _ _ _ _ _ _ ?_
    intro v1 h1 v2 h2 v3 h3 v4 h4 v5 h5 v6 h6 v7 h7 v8 h8 v9 h9
    rw [show decide ((i : Int) < ((more + 1 : Nat) : Int)) = false by simp; omega, cond_false]
    simp only [Bool.not_or_self, Bool.or_not_self, ck_true]
    rw [ck_of (ck6 _ _ _ h8), Utf.cont]
    exact ref2_Rune.end_ r more least h7 h9
  | succ k ih =>
    intro i r hi hr
    refine ref2_Rune.l2_in _ _ _ _ _ _ ?_
    intro v1 h1 v2 h2 v3 h3 v4 h4 v5 h5 v6 h6 v7 h7 v8 h8 v9 h9
    have hw : IntKind.i64.wrap ((at_ : Int) + (i : Int)) = ((at_ + i : Nat) : Int) := by rw [i64_in _ (by omega)]; omega
    have hdr := drop_cons (l := b) (i := at_ + i) (by omega) 0
    have hu := u8lt v1
    rw [show decide ((i : Int) < ((more + 1 : Nat) : Int)) = true by simp; omega, cond_true, hw]
    rw [hw, Int.toNat_natCast] at h1
    have e2 : v2 = (v1.toNat : Int) := by rw [h2]; exact i64_in _ (by omega)
    have e3 : v3 = !decide (128 ≤ v1.toNat ∧ v1.toNat < 192) := by
      rw [h3, e2, Bool.eq_iff_iff]
      by_cases a : v1.toNat < 128
      · simp [a]; omega
      · simp [show ¬ (v1.toNat : Int) < 128 by omega]; omega
    simp only [Bool.not_or_self, Bool.or_not_self, ck_true]
    rw [ck_of (idx_ok (by omega) (by omega)), hdr, ← h1, Utf.cont, e3]
    by_cases hc : 128 ≤ v1.toNat ∧ v1.toNat < 192
    · rw [if_pos hc, decide_eq_true hc]
      simp only [Bool.not_true, cond_false]
      have hp : 2 ^ (10 + 6 * i) * 64 = 2 ^ (10 + 6 * (i + 1)) := by rw [show 10 + 6 * (i + 1) = (10 + 6 * i) + 6 by omega, Nat.pow_add 2 (10 + 6 * i) 6]
      have hp2 : 2 ^ (10 + 6 * (i + 1)) ≤ 2 ^ 58 := Nat.pow_le_pow_right (by omega) (by omega)
      have hr64 : r * 64 + 64 ≤ 2 ^ (10 + 6 * (i + 1)) := by
        rw [← hp]; have := Nat.mul_le_mul_right 64 (Nat.succ_le_of_lt hr); omega
      simp at hp2
      have e4 : v4 = ((r * 64 : Nat) : Int) := by rw [h4, i64_in _ (by omega)]; simp
      have e5 : v5 = ((r * 64 + (v1.toNat - 128) : Nat) : Int) := by
        rw [h5, e4, e2, i64_in (((r * 64 : Nat) : Int) + (v1.toNat : Int)) (by omega), i64_in _ (by omega)]; omega
      have e6 : v6 = ((i + 1 : Nat) : Int) := by rw [h6, i64_in _ (by omega)]; omega
      rw [e5, e6, ih (i + 1) _ (by omega) (by omega), Nat.add_assoc]
    · rw [if_neg hc, decide_eq_false hc]
      simp only [Bool.not_false, cond_true]
      rfl
theorem Utf.cont_short : ∀ (k r : Nat) (l : Str), l.length < k → Utf.cont r k l = none := by
  intro k
  induction k with
  | zero => intro r l h; omega
  | succ k ih =>
    intro r l h
    cases l with
    | nil => rfl
    | cons c l =>
      rw [Utf.cont]
      split
      · exact ih _ _ (by simp at h; omega)
      · rfl
theorem ref2_Rune.j1_ok (b : Str) (at_ : Nat) (r more least : Nat) (hm : 1 ≤ more ∧ more < 8) (hb : b.length ≤ 1099511627776) (hlt : at_ < b.length) (hr : r < 1024) :
    ref2_Rune.j1 b at_ ((more + 1 : Nat) : Int) r least = mres (Utf.cont r more (b.drop (at_ + 1))) more least := by
  refine ref2_Rune.j1_in _ _ _ _ _ ?_
  intro v1 h1
  have e1 : v1 = (b.length : Int) - at_ := by rw [h1]; exact i64_in _ (by omega)
  by_cases hx : at_ + more < b.length
  · rw [show decide (v1 < ((more + 1 : Nat) : Int)) = false by rw [e1]; simp; omega, cond_false]
    exact ref2_Rune.l2_ok b at_ more least hm.2 hb hx more 1 r (by omega) (by simp; omega)
  · rw [show decide (v1 < ((more + 1 : Nat) : Int)) = true by rw [e1]; simp; omega, cond_true, Utf.cont_short _ _ _ (by simp; omega)]
    rfl
theorem ref2_Rune.goal (b : Str) (at_ : Int) (hp : decide (b.length ≤ 1099511627776) = true) : ref2_Rune.F b at_ = some [.i .i64 (Utf.runeAt b at_).1, .i .i64 (Utf.runeAt b at_).2] := by
  have hb : b.length ≤ 1099511627776 := of_decide_eq_true hp
  refine ref2_Rune.F_in b at_ ?_
  intro v1 h1 v2 h2 v3 h3 v4 h4 v5 h5 v6 h6 v7 h7 v8 h8 v9 h9
  unfold Utf.runeAt
  simp only [Bool.not_or_self, Bool.or_not_self, Bool.and_self, ck_true]
  by_cases h0 : at_ < 0
  · rw [h1, decide_eq_true h0, cond_true, cond_true, if_pos (.inl h0)]
  · rw [h1, decide_eq_false h0, cond_false]
    obtain ⟨i, rfl⟩ := Int.eq_ofNat_of_zero_le (show 0 ≤ at_ by omega)
    rw [Int.toNat_natCast] at h2
    by_cases hl : b.length ≤ i
    · rw [show decide ((b.length : Int) ≤ (i : Int)) = true by simp; omega, if_pos (.inr (by omega)), cond_true]
    · rw [show decide ((b.length : Int) ≤ (i : Int)) = false by simp; omega, if_neg (by omega), cond_false, ck_of (idx_ok (by omega) (by omega)), Int.toNat_natCast, drop_cons (l := b) (i := i) (by omega) 0, ← h2, Utf.rune]
      have hc := u8lt v2
      have e3 : v3 = (v2.toNat : Int) := by rw [h3]; exact i64_in _ (by omega)
      have e4 : v4 = decide (192 ≤ v2.toNat ∧ v2.toNat < 224) := by rw [h4, e3]; exact rng 192 224 _
      have e6 : v6 = decide (224 ≤ v2.toNat ∧ v2.toNat < 240) := by rw [h6, e3]; exact rng 224 240 _
      have e8 : v8 = decide (240 ≤ v2.toNat ∧ v2.toNat < 248) := by rw [h8, e3]; exact rng 240 248 _
      have J : ∀ (r more least : Nat), 1 ≤ more ∧ more < 8 → r < 1024 → ref2_Rune.j1 b i ((more + 1 : Nat) : Int) r least = some [.i .i64 (Utf.multi r more least (b.drop (i + 1))).1, .i .i64 (Utf.multi r more least (b.drop (i + 1))).2] := fun r more least h1 h2 =>
        (ref2_Rune.j1_ok b i r more least h1 hb (by omega) h2).trans (mres_eq _ _ _ _)
      by_cases c1 : v2.toNat < 128
      · rw [if_pos c1, e3, show decide ((v2.toNat : Int) < 128) = true by simp; omega, cond_true]
      · rw [if_neg c1, show decide (v3 < (128 : Int)) = false by rw [e3]; simp; omega, cond_false, e4]
        by_cases c2 : 192 ≤ v2.toNat ∧ v2.toNat < 224
        · rw [if_pos c2, decide_eq_true c2, cond_true, show v5 = ((v2.toNat - 192 : Nat) : Int) by rw [h5, e3, i64_in _ (by omega)]; omega]; exact J _ 1 128 (by omega) (by omega)
        · rw [if_neg c2, decide_eq_false c2, cond_false, e6]
          by_cases c3 : 224 ≤ v2.toNat ∧ v2.toNat < 240
          · rw [if_pos c3, decide_eq_true c3, cond_true, show v7 = ((v2.toNat - 224 : Nat) : Int) by rw [h7, e3, i64_in _ (by omega)]; omega]; exact J _ 2 2048 (by omega) (by omega)
          · rw [if_neg c3, decide_eq_false c3, cond_false, e8]
            by_cases c4 : 240 ≤ v2.toNat ∧ v2.toNat < 248
            · rw [if_pos c4, decide_eq_true c4, cond_true, show v9 = ((v2.toNat - 240 : Nat) : Int) by rw [h9, e3, i64_in _ (by omega)]; omega]; exact J _ 3 65536 (by omega) (by omega)
            · rw [if_neg c4, decide_eq_false c4, cond_false]
theorem ref2_Check.l1_ok (b : Str) (hb : b.length ≤ 1099511627776) : ∀ (m i : Nat), b.length - i ≤ m → i ≤ b.length →
    ref2_Check.l1 b i = some [.i .i64 ((i + (Utf.look (b.drop i)).1 : Nat) : Int), .b (decide (i + (Utf.look (b.drop i)).1 = b.length))] := by
  intro m
  induction m with
  | zero =>
    intro i hm hi
    refine ref2_Check.l1_in _ _ ?_
    intro v1 h1
    rw [show decide ((i : Int) < (b.length : Int)) = false by simp; omega, cond_false, List.drop_of_length_le (by omega)]
    have : (Utf.look []).1 = 0 := by decide
    rw [this, decide_eq_true (show i + 0 = b.length by omega), show i + 0 = b.length by omega]
  | succ m ih =>
    intro i hm hi
    refine ref2_Check.l1_in _ _ ?_
    intro v1 h1
    by_cases hlt : i < b.length
    · rw [Utf.runeAt_nat b i hlt] at h1 ⊢
      have hs := Utf.rune_size (b.drop i)
      rw [List.length_drop] at hs
      rw [show decide ((i : Int) < (b.length : Int)) = true by simp; omega, cond_true, ck_of (decide_eq_true hb)]
      by_cases h0 : (Utf.rune (b.drop i)).2 = 0
      · rw [decide_eq_true h0, cond_true, Utf.look_none _ h0, decide_eq_false (show ¬ i + (0, 0).1 = b.length by simp; omega)]; rfl
      · rw [decide_eq_false h0, cond_false, Utf.look_step _ h0]
        have e1 : v1 = ((i + (Utf.rune (b.drop i)).2.toNat : Nat) : Int) := by rw [h1, i64_in _ (by omega)]; omega
        rw [e1, ih _ (by omega) (by omega), List.drop_drop]
        simp only [Option.some.injEq, List.cons.injEq, TV.i.injEq, TV.b.injEq, true_and, and_true]
        refine ⟨by omega, ?_⟩
        rw [Bool.eq_iff_iff]; simp; omega
    · rw [show decide ((i : Int) < (b.length : Int)) = false by simp; omega, cond_false, List.drop_of_length_le (by omega)]
      have : (Utf.look []).1 = 0 := by decide
      rw [this, decide_eq_true (show i + 0 = b.length by omega), show i + 0 = b.length by omega]
theorem ref2_Check.goal (b : Str) (hp : decide (b.length ≤ 1099511627776) = true) : ref2_Check.F b = some [.i .i64 ((Utf.look b).1 : Int), .b (Utf.whole b)] := by
  rw [ref2_Check.F_eq]
  have := ref2_Check.l1_ok b (of_decide_eq_true hp) b.length 0 (by omega) (by omega)
  simpa [Utf.whole] using this
theorem ref2_Whole.goal (s : Str) (hp : decide (s.length ≤ 1099511627776) = true) : ref2_Whole.F s = some [.b (Utf.whole s)] := by
  rw [ref2_Whole.F_eq, ck_of (big_len (of_decide_eq_true hp)), ck_of hp]
end Go.Eng
namespace Go.Eng
open Go.IntWalk
mutual
theorem Itm.bulk_kids : ∀ (ks : List Itm), ks.length ≤ Itm.bulks ks
  | [] => Nat.le_refl _
  | k :: r => by
    have h1 := Itm.bulk_pos k
    have h2 := Itm.bulk_kids r
    simp only [Itm.bulks, List.length_cons]; omega
theorem Itm.bulk_pos : ∀ (k : Itm), 1 ≤ Itm.bulk k
  | .mk _ _ b t ks => by simp only [Itm.bulk]; omega
end
theorem Itm.bulks_at : ∀ (ks : List Itm) (i : Nat), i < ks.length → Itm.bulk (ks.getD i (STy.dflt .il)) ≤ Itm.bulks ks
  | [], _, h => by simp at h
  | k :: r, 0, _ => by simp only [List.getD_cons_zero, Itm.bulks]; omega
  | k :: r, i + 1, h => by
    have := Itm.bulks_at r i (by simpa using h)
    simp only [List.getD_cons_succ, Itm.bulks]; omega
theorem Itm.bulk_of (it : Itv) : Itm.bulk (Itm.of it) = 1 + it.bytes.length + it.text.length + Itm.bulks it.kids := by simp only [Itm.of, Itm.bulk]
theorem len0 {α : Type} (l : List α) : ((l.length : Int) = 0) = (l = []) := by
  simp
theorem lt32 (m : Nat) : ((m : Int) < 4294967296) = (m < 4294967296) := propext (by omega)
theorem eq0 (m : Nat) : ((m : Int) = 0) = (m = 0) := propext (by omega)
theorem mp_few.goal (n : Int) (hp : decide (0 ≤ n ∧ n ≤ 1099511627776) = true) : mp_few.F n = some [.b (decide (n < 4294967296))] := by
  have h := of_decide_eq_true hp
  obtain ⟨m, rfl⟩ : ∃ m : Nat, n = m := ⟨n.toNat, by omega⟩
  have e : (UInt64.ofInt (m : Int) < 4294967296) = ((m : Int) < 4294967296) := by
    rw [UInt64.lt_iff_toNat_lt, u64_nat, show (4294967296 : UInt64).toNat = 4294967296 from rfl]
    apply propext; omega
  rw [mp_few.F_eq]
  simp only [e]
theorem mp_fields.j2_ok (a b : Int) (ok : Bool) (it : Itv) : mp_fields.j2 a b ok it = some [.b (ok && decide (it.n = 0) && decide (b = 0) && decide (it.text = []) && decide (a = 0))] := by
  refine mp_fields.j2_in _ _ _ _ ?_
  intro v1 e1 v2 e2 v3 e3 v4 e4
  simp only [Bool.not_or_self, ck_true]
  rw [e4, e3, e2, e1]
  cases ok <;> simp [Bool.cond_false_right]
theorem mp_fields.goal (it : Itv) (hp : decide (Itm.bulk (Itm.of it) ≤ 1099511627776) = true) : mp_fields.F it = some [.b (Mp.fieldsOK (Itm.of it))] := by
  have h := of_decide_eq_true hp
  rw [Itm.bulk_of] at h
  have hk := Itm.bulk_kids it.kids
  obtain ⟨k, n, b, t, ks⟩ := it
  simp only at h hk
  refine mp_fields.F_in _ ?_
  intro v1 e1 v2 e2
  simp only at e1 e2
  have key : ∀ x4 : Bool, x4 = decide (k = 1 ∨ k = 9) → mp_fields.j1 v1 v2 true k x4 ⟨k, n, b, t, ks⟩ = some [.b (Mp.fieldsOK (Itm.of ⟨k, n, b, t, ks⟩))] := by
    intro x4 hx
    refine mp_fields.j1_in _ _ _ _ _ _ ?_
    intro u1 f1 u2 f2 u3 f3 u4 f4 u5 f5
    simp only at f1 f4 f5
    simp only [Bool.not_or_self, ck_true]
    subst e1 e2 f1
    have hdiv : Int.tdiv (ks.length : Int) 2 = ((ks.length / 2 : Nat) : Int) := rfl
    have hmod : Int.tmod (ks.length : Int) 2 = ((ks.length % 2 : Nat) : Int) := rfl
    rw [hdiv, i64_in _ (by omega)] at f2
    simp only [Mp.fieldsOK, Itm.of]
    by_cases k1 : k = 1 ∨ k = 9
    · rw [hx, decide_eq_true k1, cond_true, if_pos k1, mp_fields.j2_ok]
      simp [Bool.decide_and, len0, Bool.and_assoc]
    rw [hx, decide_eq_false k1, cond_false, if_neg k1]
    by_cases k2 : k = 2
    · rw [decide_eq_true k2, cond_true, if_pos k2, mp_fields.j2_ok]
      simp [Bool.decide_and, len0, Bool.and_assoc]
    rw [decide_eq_false k2, cond_false, if_neg k2]
    by_cases k3 : k = 3
    · rw [decide_eq_true k3, cond_true, if_pos k3, mp_fields.j2_ok, ck_of (decide_eq_true (by omega))]
      simp [Bool.decide_and, len0, lt32, Bool.and_assoc]
    rw [decide_eq_false k3, cond_false, if_neg k3]
    by_cases k4 : k = 4
    · rw [decide_eq_true k4, cond_true, if_pos k4, mp_fields.j2_ok, ck_of (decide_eq_true (by omega))]
      simp [Bool.decide_and, len0, lt32, Bool.and_assoc]
    rw [decide_eq_false k4, cond_false, if_neg k4]
    by_cases k5 : k = 5
    · rw [decide_eq_true k5, cond_true, if_pos k5, mp_fields.j2_ok, ck_of (decide_eq_true (by omega))]
      simp [Bool.decide_and, len0, lt32, Bool.and_assoc]
    rw [decide_eq_false k5, cond_false, if_neg k5]
    by_cases k6 : k = 6
    · rw [decide_eq_true k6, cond_true, if_pos k6, mp_fields.j2_ok, hmod]
      rw [show (decide (0 ≤ u2 ∧ u2 ≤ 1099511627776)) = true from decide_eq_true (by omega), show (!decide ((2 : Int) = 0)) = true from rfl]
      simp only [Bool.and_true, Bool.not_or_self, ck_true]
      rw [f3, hmod, f2]
      simp [Bool.decide_and, len0, lt32, eq0, Bool.and_assoc, Bool.cond_false_right]
      rw [show decide ((ks.length : Int) % 2 = 0) = decide (ks.length % 2 = 0) from decide_eq_decide.2 (by omega), show decide ((ks.length : Int) / 2 < 4294967296) = decide (ks.length / 2 < 4294967296) from decide_eq_decide.2 (by omega)]
    rw [decide_eq_false k6, cond_false, if_neg k6]
    by_cases k8 : k = 8
    · rw [decide_eq_true k8, cond_true, if_pos k8, mp_fields.j2_ok, f4]
      simp [Bool.decide_and, len0, Bool.and_assoc, Bool.cond_false_right]
    rw [decide_eq_false k8, cond_false, if_neg k8]
    by_cases k10 : k = 10
    · rw [decide_eq_true k10, cond_true, if_pos k10, mp_fields.j2_ok, f5]
      rw [show (decide (0 ≤ (b.length : Int) ∧ (b.length : Int) ≤ 1099511627776)) = true from decide_eq_true (by omega)]
      simp only [Bool.and_true, Bool.not_or_self, ck_true]
      simp [Bool.decide_and, len0, lt32, eq0, Bool.and_assoc, Bool.cond_false_right]
    rw [decide_eq_false k10, cond_false, if_neg k10, mp_fields.j2_ok]
    simp [Bool.decide_and, len0, Bool.and_assoc]
  by_cases k1 : k = 1
  · rw [decide_eq_true k1, cond_true]
    exact key _ (by simp [k1])
  · rw [decide_eq_false k1, cond_false]
    exact key _ (by simp [k1])
theorem Mp.own_eq (it : Itv) : Mp.own (Itm.of it) = if it.kind < 1 ∨ 10 < it.kind ∨ it.kind = 7 then 5 else if Mp.fieldsOK (Itm.of it) = false then 1 else if Utf.whole it.text then 0 else 4 := by
  obtain ⟨k, n, b, t, ks⟩ := it
  simp only [Mp.own, Mp.fieldsOK, Itm.of]
  by_cases h0 : k < 1 ∨ 10 < k ∨ k = 7
  · rw [if_pos h0, if_pos h0]
  rw [if_neg h0, if_neg h0]
  have hk : k = 1 ∨ k = 2 ∨ k = 3 ∨ k = 4 ∨ k = 5 ∨ k = 6 ∨ k = 8 ∨ k = 9 ∨ k = 10 := by omega
  have l0 : ∀ {α : Type} (l : List α), l = [] → l.length = 0 := fun l h => by rw [h]; rfl
  rcases hk with rfl | rfl | rfl | rfl | rfl | rfl | rfl | rfl | rfl <;> simp <;> grind
theorem Mp.chks_at : ∀ (ks : List Itm) (i : Nat), i < ks.length → Mp.chks (ks.drop i) = if Mp.chk (ks.getD i (STy.dflt .il)) = 0 then Mp.chks (ks.drop (i + 1)) else Mp.chk (ks.getD i (STy.dflt .il)) := by
  intro ks i h
  rw [drop_cons h (STy.dflt .il), Mp.chks]
theorem mp_Check.l1_ok (n : Nat) (ks : List Itm) (hb : Itm.bulks ks ≤ 1099511627776) (hn : Itm.bulks ks < n) : ∀ (m i : Nat), i + m = ks.length → mp_Check.l1 n ks (ks.length : Int) i = some [.i .i64 (Mp.chks (ks.drop i))] := by
  have hk := Itm.bulk_kids ks
  intro m
  induction m with
  | zero =>
    intro i hi
    refine mp_Check.l1_in _ _ _ _ ?_
    intro v1 e1 v2 e2
    rw [decide_eq_false (by omega), cond_false, List.drop_of_length_le (by omega)]; rfl
  | succ m ih =>
    intro i hi
    refine mp_Check.l1_in _ _ _ _ ?_
    intro v1 e1 v2 e2
    have hi' : i < ks.length := by omega
    have hb' := Itm.bulks_at ks i hi'
    rw [Int.toNat_natCast, Itm.of_val] at e1
    rw [decide_eq_true (by omega), cond_true, ck_of (idx_ok (by omega) (by omega)), Int.toNat_natCast, Itm.of_val, ck_of (by rw [decide_eq_true (by omega), decide_eq_true (by omega)]; rfl), Mp.chks_at ks i hi', ← e1]
    by_cases a : v1 = 0
    · rw [decide_eq_true a, Bool.not_true, cond_false, if_pos a, show v2 = ((i + 1 : Nat) : Int) by rw [e2, i64_in _ (by omega)]; omega, ih _ (by omega)]
    · rw [decide_eq_false a, Bool.not_false, cond_true, if_neg a]
theorem Mp.chk_of (it : Itv) : Mp.chk (Itm.of it) = if Mp.own (Itm.of it) = 0 then Mp.chks it.kids else Mp.own (Itm.of it) := by rw [Itm.of, Mp.chk]
theorem mp_Check.goal (n : Nat) (it : Itv) (hp : ((decide (Itm.bulk (Itm.of it) ≤ 1099511627776)) && decide ((Itm.bulk (Itm.of it)) < n + 1)) = true) : mp_Check.F n it = some [.i .i64 (Mp.chk (Itm.of it))] := by
  simp only [Bool.and_eq_true, decide_eq_true_eq] at hp
  obtain ⟨h, hn⟩ := hp
  rw [Itm.bulk_of] at h hn
  refine mp_Check.F_in _ _ ?_
  intro v1 e1 v2 e2 v3 e3 v4 e4 v5 e5
  simp only [Bool.not_or_self, Bool.or_not_self, ck_true]
  rw [ck_of (decide_eq_true (by rw [Itm.bulk_of]; omega)), ck_of (big_len (by omega)), ck_of (decide_eq_true (by omega)), e5, e4]
  have hl := mp_Check.l1_ok n it.kids (by omega) (by omega) it.kids.length 0 (by omega)
  rw [show mp_Check.l1 n it.kids (it.kids.length : Int) 0 = some [.i .i64 (Mp.chks it.kids)] from hl, Mp.chk_of, Mp.own_eq]
  have hv : v2 = decide (it.kind < 1 ∨ 10 < it.kind ∨ it.kind = 7) := by
    rw [e2, e1]
    by_cases a : it.kind < 1 <;> by_cases b : 10 < it.kind <;> by_cases c : it.kind = 7 <;> simp [a, b, c]
  rw [hv]
  by_cases h0 : it.kind < 1 ∨ 10 < it.kind ∨ it.kind = 7
  · rw [decide_eq_true h0, cond_true, if_pos h0]; rfl
  rw [decide_eq_false h0, cond_false, if_neg h0]
  cases hf : Mp.fieldsOK (Itm.of it) with
  | false => rfl
  | true =>
    cases hw : Utf.whole it.text <;> rfl
theorem mp_wrong.goal (e at_ : Int) : mp_wrong.F e at_ = some [.ag (Itv.cells (Itm.val Mp.zero)), .ag (Flt.cells (Flt.mk e at_ []))] := mp_wrong.F_eq e at_
theorem mp_unsigned.goal (n : UInt64) : mp_unsigned.F n = some [.ag [.i .i64 (Mp.unsigned n).1, .i .i64 (Mp.unsigned n).2]] := by
  refine mp_unsigned.F_in _ ?_
  intro v1 e1
  unfold Mp.unsigned
  by_cases a : n < 128
  · rw [decide_eq_true a, cond_true, if_pos a, e1, i64_in _ (by have := UInt64.lt_iff_toNat_lt.1 a; simp at this; omega)]
  rw [decide_eq_false a, cond_false, if_neg a]
  by_cases a : n < 256
  · rw [decide_eq_true a, cond_true, if_pos a]
  rw [decide_eq_false a, cond_false, if_neg a]
  by_cases a : n < 65536
  · rw [decide_eq_true a, cond_true, if_pos a]
  rw [decide_eq_false a, cond_false, if_neg a]
  by_cases a : n < 4294967296
  · rw [decide_eq_true a, cond_true, if_pos a]
  rw [decide_eq_false a, cond_false, if_neg a]
theorem mp_signed.goal (n : UInt64) : mp_signed.F n = some [.ag [.i .i64 (Mp.signed n).1, .i .i64 (Mp.signed n).2]] := by
  refine mp_signed.F_in _ ?_
  intro v1 e1 v2 e2
  unfold Mp.signed
  by_cases a : n < 32
  · have := UInt64.lt_iff_toNat_lt.1 a
    simp at this
    rw [decide_eq_true a, cond_true, if_pos a, e2, e1, i64_in (n.toNat : Int) (by omega), i64_in _ (by omega)]
  rw [decide_eq_false a, cond_false, if_neg a]
  by_cases a : n < 128
  · rw [decide_eq_true a, cond_true, if_pos a]
  rw [decide_eq_false a, cond_false, if_neg a]
  by_cases a : n < 32768
  · rw [decide_eq_true a, cond_true, if_pos a]
  rw [decide_eq_false a, cond_false, if_neg a]
  by_cases a : n < 2147483648
  · rw [decide_eq_true a, cond_true, if_pos a]
  rw [decide_eq_false a, cond_false, if_neg a]
theorem mp_put.goal (w : Wtr) (f : Spn) (n : UInt64) (hp : decide (w.b.length + 10 ≤ 1099511627776) = true) : mp_put.F w f n = some [.ag (Wtr.cells (Wtr.mk (w.b ++ Mp.put (f.at_, f.end_) n)))] := by
  have h := of_decide_eq_true hp
  refine mp_put.F_in _ _ _ ?_
  intro v1 e1 v2 e2
  rw [ck_of (decide_eq_true (by omega)), e2, e1, ck_of (decide_eq_true (by simp; omega))]
  simp [Mp.put]
theorem mp_number.goal (it : Itv) (p c : Int) (f : Spn) : mp_number.F it p c f = some [.ag (Itv.cells (Itm.val (Mp.num (Itm.of it) p c f.at_ 0).it)), .ag (Flt.cells (Flt.mk (Mp.num (Itm.of it) p c f.at_ 0).err (Mp.num (Itm.of it) p c f.at_ 0).at_ []))] := by
  rw [mp_number.F_eq, Mp.num]
  by_cases a : f.at_ = c
  · rw [decide_eq_true a, Bool.not_true, cond_false, if_neg (fun h => h a)]; rfl
  · rw [decide_eq_false a, Bool.not_false, cond_true, if_pos a]; rfl
end Go.Eng
namespace Go.Eng
open Go.IntWalk
theorem Mp.own0 (it : Itv) (h : Mp.own (Itm.of it) = 0) : (1 ≤ it.kind ∧ it.kind ≤ 10 ∧ it.kind ≠ 7) ∧ (it.kind = 3 ∨ it.kind = 4 ∨ it.kind = 5 ∨ it.kind = 6 → it.n = 0) ∧ (it.kind ≠ 3 → it.kind ≠ 10 → it.bytes = []) ∧ (it.kind ≠ 4 → it.text = []) ∧
    (it.kind ≠ 5 → it.kind ≠ 6 → it.kids = []) ∧ (it.kind = 2 → it.n < 9223372036854775808) ∧ (it.kind = 8 → 20 ≤ it.n ∧ it.n ≤ 22) ∧ (it.kind = 10 → it.n ≤ 127) ∧ (it.kind = 6 → it.kids.length % 2 = 0) ∧
    it.bytes.length < 4294967296 ∧ it.text.length < 4294967296 ∧ (it.kind = 5 → it.kids.length < 4294967296) ∧ it.kids.length / 2 < 4294967296 ∧ Utf.whole it.text = true := by
  obtain ⟨k, n, b, t, ks⟩ := it
  simp only [Mp.own, Itm.of] at h
  simp only
  by_cases h1 : k < 1 ∨ 10 < k ∨ k = 7
  · rw [if_pos h1] at h; cases h
  rw [if_neg h1] at h
  split at h
  · cases h
  rename_i h2
  split at h
  · cases h
  rename_i h3
  split at h
  · cases h
  rename_i h4
  split at h
  · cases h
  rename_i h5
  split at h
  · rename_i h6
    refine ⟨by omega, ?_, ?_, ?_, ?_, ?_, ?_, ?_, ?_, by omega, by omega, ?_, by omega, h6⟩ <;> grind
  · cases h
theorem Cur.high_len (v : UInt64) (n : Int) : (Cur.high v n).length ≤ 8 := by
  unfold Cur.high
  split
  · rw [Cur.putHigh_len]; omega
  · simp
theorem Mp.put_len (f : Int × Int) (n : UInt64) : (Mp.put f n).length ≤ 9 := by
  have := Cur.high_len n f.2
  simp only [Mp.put, List.length_cons]; omega
theorem Mp.head_len (it : Itm) : (Mp.head it).length ≤ 10 := by
  obtain ⟨k, n, b, t, ks⟩ := it
  unfold Mp.head
  repeat' split
  all_goals first | exact Nat.le_succ_of_le (Mp.put_len _ _) | skip
  · simp
  · simp
  · simp
  · rw [List.length_append, List.length_singleton]; exact Nat.succ_le_succ (Mp.put_len _ _)
mutual
theorem Mp.lay_len : ∀ (it : Itm), (Mp.lay it).length ≤ 16 * Itm.bulk it
  | .mk k n b t ks => by
    have h1 := Mp.head_len (.mk k n b t ks)
    have h2 := Mp.lays_len ks
    simp only [Mp.lay, Itm.bulk, List.length_append]; omega
theorem Mp.lays_len : ∀ (ks : List Itm), (Mp.lays ks).length ≤ 16 * Itm.bulks ks
  | [] => Nat.zero_le _
  | k :: r => by
    have h1 := Mp.lay_len k
    have h2 := Mp.lays_len r
    simp only [Mp.lays, Itm.bulks, List.length_append]; omega
end
theorem Mp.chks_cons {k : Itm} {r : List Itm} (h : Mp.chks (k :: r) = 0) : Mp.chk k = 0 ∧ Mp.chks r = 0 := by
  rw [Mp.chks] at h
  split at h
  · exact ⟨by assumption, h⟩
  · rename_i h'; exact (h' h).elim
theorem Itm.bulks_drop : ∀ (ks : List Itm) (i : Nat), i < ks.length → Itm.bulks (ks.drop i) = Itm.bulk (ks.getD i (STy.dflt .il)) + Itm.bulks (ks.drop (i + 1)) := by
  intro ks i h
  rw [drop_cons h (STy.dflt .il), Itm.bulks]
theorem mp_lay.l2_ok (n : Nat) (ks : List Itm) (hn : Itm.bulks ks < n) (hks : ks.length ≤ 1099511627776) : ∀ (m i : Nat) (w : Wtr), i + m = ks.length → w.b.length + 16 * Itm.bulks (ks.drop i) ≤ 1099511627776 → Mp.chks (ks.drop i) = 0 →
    mp_lay.l2 n ks (ks.length : Int) i w = some [.ag (Wtr.cells (Wtr.mk (w.b ++ Mp.lays (ks.drop i))))] := by
  have hk := Itm.bulk_kids ks
  intro m
  induction m with
  | zero =>
    intro i w hi _ _
    refine mp_lay.l2_in _ _ _ _ _ ?_
    intro v1 e1 v2 e2
    rw [decide_eq_false (by omega), cond_false, List.drop_of_length_le (by omega), show Mp.lays [] = [] from rfl, List.append_nil]
  | succ m ih =>
    intro i w hi hw hc
    refine mp_lay.l2_in _ _ _ _ _ ?_
    intro v1 e1 v2 e2
    have hi' : i < ks.length := by omega
    have hb' := Itm.bulks_at ks i hi'
    have hd := Itm.bulks_drop ks i hi'
    rw [drop_cons hi' (STy.dflt .il)] at hc
    obtain ⟨c1, c2⟩ := Mp.chks_cons hc
    have hl := Mp.lay_len (ks.getD i (STy.dflt .il))
    rw [Int.toNat_natCast, Itm.of_val] at e1
    rw [decide_eq_true (by omega), cond_true, ck_of (idx_ok (by omega) (by omega)), Int.toNat_natCast, Itm.of_val, ck_of (by rw [decide_eq_true (by omega), decide_eq_true c1, decide_eq_true (by omega)]; rfl), show v2 = ((i + 1 : Nat) : Int) by rw [e2, i64_in _ (by omega)]; omega, ih _ _ (by omega) (by rw [e1]; simp only [List.length_append]; omega) c2, e1, drop_cons hi' (STy.dflt .il), Mp.lays]
    simp
theorem mp_lay.j1_ok (n : Nat) (it : Itv) (w : Wtr) (hn : Itm.bulks it.kids < n) (hks : it.kids.length ≤ 1099511627776) (hw : w.b.length + 16 * Itm.bulks it.kids ≤ 1099511627776) (hc : Mp.chks it.kids = 0) :
    mp_lay.j1 n it w = some [.ag (Wtr.cells (Wtr.mk (w.b ++ Mp.lays it.kids)))] := by
  refine mp_lay.j1_in _ _ _ ?_
  intro v1 e1
  subst e1
  exact mp_lay.l2_ok n it.kids hn hks it.kids.length 0 w (by omega) hw hc
theorem Mp.lay_of (it : Itv) : Mp.lay (Itm.of it) = Mp.head (Itm.of it) ++ it.bytes ++ it.text ++ Mp.lays it.kids := by rw [Itm.of, Mp.lay]
theorem Mp.chk0 (it : Itv) (h : Mp.chk (Itm.of it) = 0) : Mp.own (Itm.of it) = 0 ∧ Mp.chks it.kids = 0 := by
  rw [Mp.chk_of] at h
  split at h
  · exact ⟨by assumption, h⟩
  · rename_i h'; exact (h' h).elim
theorem u64_nat' (n : Nat) : UInt64.ofInt (n : Int) = UInt64.ofNat n := by
  apply UInt64.toNat_inj.1
  rw [u64_nat, UInt64.toNat_ofNat']
theorem u8_n (v : UInt64) (h : v.toNat < 9223372036854775808) : UInt8.ofInt (IntKind.i64.wrap (v.toNat : Int)) = v.toUInt8 := by
  rw [i64_in _ (by omega), u8_of]
theorem mp_lay.goal (n : Nat) (w : Wtr) (it : Itv) (hp : ((decide (w.b.length + 16 * Itm.bulk (Itm.of it) ≤ 1099511627776) && decide (Mp.chk (Itm.of it) = 0)) && decide ((Itm.bulk (Itm.of it)) < n + 1)) = true) :
    mp_lay.F n w it = some [.ag (Wtr.cells (Wtr.mk (w.b ++ Mp.lay (Itm.of it))))] := by
  simp only [Bool.and_eq_true, decide_eq_true_eq] at hp
  obtain ⟨⟨hw, hc⟩, hn⟩ := hp
  obtain ⟨ho, hcs⟩ := Mp.chk0 it hc
  obtain ⟨p1, p2, p3, p4, p5, p6, p7, p8, p9, p10, p11, p12, p13, p14⟩ := Mp.own0 it ho
  rw [Itm.bulk_of] at hw hn
  have hk := Itm.bulk_kids it.kids
  have J := fun (w' : Wtr) (h' : w'.b.length ≤ w.b.length + 16 + it.bytes.length + it.text.length) => mp_lay.j1_ok n it w' (by omega) (by omega) (by omega) hcs
  rw [Mp.lay_of]
  obtain ⟨k, u, b, t, ks⟩ := it
  simp only at p1 p2 p3 p4 p5 p6 p7 p8 p9 p10 p11 p12 p13 p14 hw hn hk J ⊢
  refine mp_lay.F_in _ _ _ ?_
  intro v1 e1 v2 e2 v3 e3 v4 e4 v5 e5 v6 e6 v7 e7 v8 e8 v9 e9 v10 e10 v11 e11 v12 e12 v13 e13 v14 e14 v15 e15 v16 e16 v17 e17 v18 e18 v19 e19 v20 e20 v21 e21 v22 e22 v23 e23 v24 e24 v25 e25 v26 e26
  simp only at e1 e2 e3 e4 e5 e6 e7 e8 e9 e10 e11 e12 e13 e14 e15 e16 e17 e18 e19 e20 e21 e22 e23 e24 e25 e26 ⊢
  have L := fun f m => Mp.put_len f m
  have hk' : k = 1 ∨ k = 2 ∨ k = 3 ∨ k = 4 ∨ k = 5 ∨ k = 6 ∨ k = 8 ∨ k = 9 ∨ k = 10 := by omega
  have c10 : decide (w.b.length + 10 ≤ 1099511627776) = true := decide_eq_true (by omega)
  rcases hk' with rfl | rfl | rfl | rfl | rfl | rfl | rfl | rfl | rfl
  all_goals simp only [Int.reduceEq, decide_true, decide_false, cond_true, cond_false, c10, ck_true, Bool.not_false]
  · have h3 := p3 (by decide) (by decide)
    have h4 := p4 (by decide)
    subst h3 h4
    have := L ((Mp.unsigned u).1, (Mp.unsigned u).2) u
    rw [J v1 (by rw [e1]; simp only [List.length_append]; omega), e1]
    simp [Itm.of, Mp.head]
  · have h3 := p3 (by decide) (by decide)
    have h4 := p4 (by decide)
    subst h3 h4
    have := L ((Mp.signed u).1, (Mp.signed u).2) (~~~ u)
    rw [J v2 (by rw [e2]; simp only [List.length_append]; omega), e2]
    simp [Itm.of, Mp.head]
  · have h4 := p4 (by decide)
    subst h4
    have := L (v12, v13) (UInt64.ofInt v11)
    rw [ck_of (by rw [decide_eq_true (by omega)]; rfl), ck_of (decide_eq_true (by rw [e14]; simp only [List.length_append]; omega)), J v15 (by rw [e15, e14]; simp only [List.length_append]; omega), e15, e14, e12, e13, e11, u64_nat']
    simp [Itm.of, Mp.head]
  · have h3 := p3 (by decide) (by decide)
    subst h3
    have := L (v7, v8) (UInt64.ofInt v6)
    rw [ck_of (by rw [decide_eq_true (by omega)]; rfl), ck_of (big_len (by omega)), ck_of (decide_eq_true (by rw [e9]; simp only [List.length_append]; omega)), J v10 (by rw [e10, e9]; simp only [List.length_append]; omega), e10, e9, e7, e8, e6, u64_nat']
    simp [Itm.of, Mp.head]
  · have h3 := p3 (by decide) (by decide)
    have h4 := p4 (by decide)
    subst h3 h4
    have := p12 rfl
    have := L (v20, v21) (UInt64.ofInt v19)
    rw [ck_of (by rw [decide_eq_true (by omega)]; rfl), J v22 (by rw [e22]; simp only [List.length_append]; omega), e22, e20, e21, e19, u64_nat']
    simp [Itm.of, Mp.head]
  · have h3 := p3 (by decide) (by decide)
    have h4 := p4 (by decide)
    subst h3 h4
    have e23' : v23 = ((ks.length / 2 : Nat) : Int) := by rw [e23, e19, show Int.tdiv (ks.length : Int) 2 = ((ks.length / 2 : Nat) : Int) from rfl, i64_in _ (by omega)]
    have := L (v24, v25) (UInt64.ofInt v23)
    rw [ck_of (by rw [decide_eq_true (by omega)]; rfl), J v26 (by rw [e26]; simp only [List.length_append]; omega), e26, e24, e25, e23', u64_nat']
    simp [Itm.of, Mp.head]
  · have h3 := p3 (by decide) (by decide)
    have h4 := p4 (by decide)
    subst h3 h4
    obtain ⟨q1, q2⟩ := p7 rfl
    have hu : u = 20 ∨ u = 21 ∨ u = 22 := by
      have a := UInt64.le_iff_toNat_le.1 q1
      have b := UInt64.le_iff_toNat_le.1 q2
      simp at a b
      have : u.toNat = 20 ∨ u.toNat = 21 ∨ u.toNat = 22 := by omega
      rcases this with h | h | h
      · exact .inl (UInt64.toNat_inj.1 h)
      · exact .inr (.inl (UInt64.toNat_inj.1 h))
      · exact .inr (.inr (UInt64.toNat_inj.1 h))
    have hv4 : v4.b.length = w.b.length + 1 := by rw [e4]; simp
    rw [ck_of (by rcases hu with rfl | rfl | rfl <;> rfl), ck_of (decide_eq_true (by omega)), J v4 (by omega), e4, e3]
    rcases hu with rfl | rfl | rfl <;> simp [Itm.of, Mp.head] <;> rfl
  · have h3 := p3 (by decide) (by decide)
    have h4 := p4 (by decide)
    subst h3 h4
    have := L (203, 8) u
    rw [J v5 (by rw [e5]; simp only [List.length_append]; omega), e5]
    simp [Itm.of, Mp.head]
  · have h4 := p4 (by decide)
    subst h4
    have h8 := UInt64.le_iff_toNat_le.1 (p8 rfl)
    simp at h8
    have := L (v12, v13) (UInt64.ofInt v11)
    have l14 : v14.b.length ≤ w.b.length + 9 := by rw [e14]; simp only [List.length_append]; omega
    have l17 : v17.b.length ≤ w.b.length + 10 := by rw [e17]; simp only [List.length_append, List.length_singleton]; omega
    rw [ck_of (by rw [decide_eq_true (by omega)]; rfl), ck_of (decide_eq_true (by omega)), ck_of (decide_eq_true (by omega)), J v18 (by rw [e18]; simp only [List.length_append]; omega), e18, e17, e14, e16, u8_n _ (by omega), e12, e13, e11, u64_nat']
    simp [Itm.of, Mp.head]
theorem mp_Encode.goal (it : Itv) (hp : decide (Itm.bulk (Itm.of it) ≤ 1073741824) = true) : mp_Encode.F it = some [.sl .bs (Mp.enc (Itm.of it)), .i .i64 (Mp.chk (Itm.of it))] := by
  have h := of_decide_eq_true hp
  refine mp_Encode.F_in _ ?_
  intro v1 e1
  have hl := Mp.lay_len (Itm.of it)
  rw [ck_of (decide_eq_true (by omega)), Mp.enc]
  by_cases a : Mp.chk (Itm.of it) = 0
  · have l1 : v1.b.length ≤ 1099511627776 := by rw [e1]; simp only [List.nil_append]; omega
    rw [decide_eq_true a, Bool.not_true, cond_false, if_pos a, ck_of (by rw [decide_eq_true (by simp only [List.length_nil]; omega)]; rfl), ck_of (decide_eq_true l1), e1, a]
    rfl
  · rw [decide_eq_false a, Bool.not_false, cond_true, if_neg a]
end Go.Eng
namespace Go.Eng
open Go.IntWalk
theorem mp_first.k192 : mp_first.F 192 = some [.i .i64 (Mp.first 192).1, .u64 (Mp.first 192).2.1, .i .i64 (Mp.first 192).2.2] := by kernel_rfl
theorem mp_first.k193 : mp_first.F 193 = some [.i .i64 (Mp.first 193).1, .u64 (Mp.first 193).2.1, .i .i64 (Mp.first 193).2.2] := by kernel_rfl
theorem mp_first.k194 : mp_first.F 194 = some [.i .i64 (Mp.first 194).1, .u64 (Mp.first 194).2.1, .i .i64 (Mp.first 194).2.2] := by kernel_rfl
theorem mp_first.k195 : mp_first.F 195 = some [.i .i64 (Mp.first 195).1, .u64 (Mp.first 195).2.1, .i .i64 (Mp.first 195).2.2] := by kernel_rfl
theorem mp_first.k196 : mp_first.F 196 = some [.i .i64 (Mp.first 196).1, .u64 (Mp.first 196).2.1, .i .i64 (Mp.first 196).2.2] := by kernel_rfl
theorem mp_first.k197 : mp_first.F 197 = some [.i .i64 (Mp.first 197).1, .u64 (Mp.first 197).2.1, .i .i64 (Mp.first 197).2.2] := by kernel_rfl
theorem mp_first.k198 : mp_first.F 198 = some [.i .i64 (Mp.first 198).1, .u64 (Mp.first 198).2.1, .i .i64 (Mp.first 198).2.2] := by kernel_rfl
theorem mp_first.k199 : mp_first.F 199 = some [.i .i64 (Mp.first 199).1, .u64 (Mp.first 199).2.1, .i .i64 (Mp.first 199).2.2] := by kernel_rfl
theorem mp_first.k200 : mp_first.F 200 = some [.i .i64 (Mp.first 200).1, .u64 (Mp.first 200).2.1, .i .i64 (Mp.first 200).2.2] := by kernel_rfl
theorem mp_first.k201 : mp_first.F 201 = some [.i .i64 (Mp.first 201).1, .u64 (Mp.first 201).2.1, .i .i64 (Mp.first 201).2.2] := by kernel_rfl
theorem mp_first.k202 : mp_first.F 202 = some [.i .i64 (Mp.first 202).1, .u64 (Mp.first 202).2.1, .i .i64 (Mp.first 202).2.2] := by kernel_rfl
theorem mp_first.k203 : mp_first.F 203 = some [.i .i64 (Mp.first 203).1, .u64 (Mp.first 203).2.1, .i .i64 (Mp.first 203).2.2] := by kernel_rfl
theorem mp_first.k204 : mp_first.F 204 = some [.i .i64 (Mp.first 204).1, .u64 (Mp.first 204).2.1, .i .i64 (Mp.first 204).2.2] := by kernel_rfl
theorem mp_first.k205 : mp_first.F 205 = some [.i .i64 (Mp.first 205).1, .u64 (Mp.first 205).2.1, .i .i64 (Mp.first 205).2.2] := by kernel_rfl
theorem mp_first.k206 : mp_first.F 206 = some [.i .i64 (Mp.first 206).1, .u64 (Mp.first 206).2.1, .i .i64 (Mp.first 206).2.2] := by kernel_rfl
theorem mp_first.k207 : mp_first.F 207 = some [.i .i64 (Mp.first 207).1, .u64 (Mp.first 207).2.1, .i .i64 (Mp.first 207).2.2] := by kernel_rfl
theorem mp_first.k208 : mp_first.F 208 = some [.i .i64 (Mp.first 208).1, .u64 (Mp.first 208).2.1, .i .i64 (Mp.first 208).2.2] := by kernel_rfl
theorem mp_first.k209 : mp_first.F 209 = some [.i .i64 (Mp.first 209).1, .u64 (Mp.first 209).2.1, .i .i64 (Mp.first 209).2.2] := by kernel_rfl
theorem mp_first.k210 : mp_first.F 210 = some [.i .i64 (Mp.first 210).1, .u64 (Mp.first 210).2.1, .i .i64 (Mp.first 210).2.2] := by kernel_rfl
theorem mp_first.k211 : mp_first.F 211 = some [.i .i64 (Mp.first 211).1, .u64 (Mp.first 211).2.1, .i .i64 (Mp.first 211).2.2] := by kernel_rfl
theorem mp_first.k212 : mp_first.F 212 = some [.i .i64 (Mp.first 212).1, .u64 (Mp.first 212).2.1, .i .i64 (Mp.first 212).2.2] := by kernel_rfl
theorem mp_first.k213 : mp_first.F 213 = some [.i .i64 (Mp.first 213).1, .u64 (Mp.first 213).2.1, .i .i64 (Mp.first 213).2.2] := by kernel_rfl
theorem mp_first.k214 : mp_first.F 214 = some [.i .i64 (Mp.first 214).1, .u64 (Mp.first 214).2.1, .i .i64 (Mp.first 214).2.2] := by kernel_rfl
theorem mp_first.k215 : mp_first.F 215 = some [.i .i64 (Mp.first 215).1, .u64 (Mp.first 215).2.1, .i .i64 (Mp.first 215).2.2] := by kernel_rfl
theorem mp_first.k216 : mp_first.F 216 = some [.i .i64 (Mp.first 216).1, .u64 (Mp.first 216).2.1, .i .i64 (Mp.first 216).2.2] := by kernel_rfl
theorem mp_first.k217 : mp_first.F 217 = some [.i .i64 (Mp.first 217).1, .u64 (Mp.first 217).2.1, .i .i64 (Mp.first 217).2.2] := by kernel_rfl
theorem mp_first.k218 : mp_first.F 218 = some [.i .i64 (Mp.first 218).1, .u64 (Mp.first 218).2.1, .i .i64 (Mp.first 218).2.2] := by kernel_rfl
theorem mp_first.k219 : mp_first.F 219 = some [.i .i64 (Mp.first 219).1, .u64 (Mp.first 219).2.1, .i .i64 (Mp.first 219).2.2] := by kernel_rfl
theorem mp_first.k220 : mp_first.F 220 = some [.i .i64 (Mp.first 220).1, .u64 (Mp.first 220).2.1, .i .i64 (Mp.first 220).2.2] := by kernel_rfl
theorem mp_first.k221 : mp_first.F 221 = some [.i .i64 (Mp.first 221).1, .u64 (Mp.first 221).2.1, .i .i64 (Mp.first 221).2.2] := by kernel_rfl
theorem mp_first.k222 : mp_first.F 222 = some [.i .i64 (Mp.first 222).1, .u64 (Mp.first 222).2.1, .i .i64 (Mp.first 222).2.2] := by kernel_rfl
theorem mp_first.k223 : mp_first.F 223 = some [.i .i64 (Mp.first 223).1, .u64 (Mp.first 223).2.1, .i .i64 (Mp.first 223).2.2] := by kernel_rfl
theorem mp_first.goal (c : Int) (hp : decide (0 ≤ c ∧ c ≤ 255) = true) : mp_first.F c = some [.i .i64 (Mp.first c).1, .u64 (Mp.first c).2.1, .i .i64 (Mp.first c).2.2] := by
  have h := of_decide_eq_true hp
  by_cases hc : 192 ≤ c ∧ c < 224
  · have : c = 192 ∨ c = 193 ∨ c = 194 ∨ c = 195 ∨ c = 196 ∨ c = 197 ∨ c = 198 ∨ c = 199 ∨ c = 200 ∨ c = 201 ∨ c = 202 ∨ c = 203 ∨ c = 204 ∨ c = 205 ∨ c = 206 ∨ c = 207 ∨ c = 208 ∨ c = 209 ∨ c = 210 ∨ c = 211 ∨ c = 212 ∨ c = 213 ∨ c = 214 ∨ c = 215 ∨ c = 216 ∨ c = 217 ∨ c = 218 ∨ c = 219 ∨ c = 220 ∨ c = 221 ∨ c = 222 ∨ c = 223 := by omega
    rcases this with rfl | rfl | rfl | rfl | rfl | rfl | rfl | rfl | rfl | rfl | rfl | rfl | rfl | rfl | rfl | rfl | rfl | rfl | rfl | rfl | rfl | rfl | rfl | rfl | rfl | rfl | rfl | rfl | rfl | rfl | rfl | rfl 
    · exact mp_first.k192
    · exact mp_first.k193
    · exact mp_first.k194
    · exact mp_first.k195
    · exact mp_first.k196
    · exact mp_first.k197
    · exact mp_first.k198
    · exact mp_first.k199
    · exact mp_first.k200
    · exact mp_first.k201
    · exact mp_first.k202
    · exact mp_first.k203
    · exact mp_first.k204
    · exact mp_first.k205
    · exact mp_first.k206
    · exact mp_first.k207
    · exact mp_first.k208
    · exact mp_first.k209
    · exact mp_first.k210
    · exact mp_first.k211
    · exact mp_first.k212
    · exact mp_first.k213
    · exact mp_first.k214
    · exact mp_first.k215
    · exact mp_first.k216
    · exact mp_first.k217
    · exact mp_first.k218
    · exact mp_first.k219
    · exact mp_first.k220
    · exact mp_first.k221
    · exact mp_first.k222
    · exact mp_first.k223
  refine mp_first.F_in _ ?_
  intro v1 e1 v2 e2 v3 e3 v4 e4
  intros
  unfold Mp.first
  by_cases a : c < 128
  · rw [decide_eq_true a, cond_true, if_pos a]
  rw [decide_eq_false a, cond_false, if_neg a]
  by_cases a : c < 144
  · rw [decide_eq_true a, cond_true, if_pos a, e1, i64_in _ (by omega)]
  rw [decide_eq_false a, cond_false, if_neg a]
  by_cases a : c < 160
  · rw [decide_eq_true a, cond_true, if_pos a, e2, i64_in _ (by omega)]
  rw [decide_eq_false a, cond_false, if_neg a]
  by_cases a : c < 192
  · rw [decide_eq_true a, cond_true, if_pos a, e3, i64_in _ (by omega)]
  rw [decide_eq_false a, cond_false, if_neg a, decide_eq_true (show (224 : Int) ≤ c by omega), cond_true, if_pos (show (224 : Int) ≤ c by omega), e4, i64_in _ (by omega)]
set_option maxRecDepth 100000 in
theorem Mp.first_kinds (c : Int) (h : 0 ≤ c ∧ c ≤ 255) : ((Mp.first c).1 = 0 ∨ (Mp.first c).1 = 1 ∨ (Mp.first c).1 = 2 ∨ (Mp.first c).1 = 3 ∨ (Mp.first c).1 = 4 ∨ (Mp.first c).1 = 5 ∨ (Mp.first c).1 = 6 ∨ (Mp.first c).1 = 8 ∨ (Mp.first c).1 = 9 ∨ (Mp.first c).1 = 10) ∧
    ((Mp.first c).2.2 = 0 ∨ (Mp.first c).2.2 = 1 ∨ (Mp.first c).2.2 = 2 ∨ (Mp.first c).2.2 = 4 ∨ (Mp.first c).2.2 = 8) ∧ ((Mp.first c).2.2 = 8 → (Mp.first c).1 = 1 ∨ (Mp.first c).1 = 2 ∨ (Mp.first c).1 = 9) ∧
    ((Mp.first c).2.2 = 0 → (Mp.first c).2.1.toNat ≤ 127) ∧ ((Mp.first c).1 = 2 → (Mp.first c).2.2 = 0 → (Mp.first c).2.1.toNat ≤ 31) := by
  obtain ⟨m, rfl⟩ : ∃ m : Nat, c = m := ⟨c.toNat, by omega⟩
  have key : ∀ m : Fin 256, ((Mp.first m.val).1 = 0 ∨ (Mp.first m.val).1 = 1 ∨ (Mp.first m.val).1 = 2 ∨ (Mp.first m.val).1 = 3 ∨ (Mp.first m.val).1 = 4 ∨ (Mp.first m.val).1 = 5 ∨ (Mp.first m.val).1 = 6 ∨ (Mp.first m.val).1 = 8 ∨ (Mp.first m.val).1 = 9 ∨ (Mp.first m.val).1 = 10) ∧
    ((Mp.first m.val).2.2 = 0 ∨ (Mp.first m.val).2.2 = 1 ∨ (Mp.first m.val).2.2 = 2 ∨ (Mp.first m.val).2.2 = 4 ∨ (Mp.first m.val).2.2 = 8) ∧ ((Mp.first m.val).2.2 = 8 → (Mp.first m.val).1 = 1 ∨ (Mp.first m.val).1 = 2 ∨ (Mp.first m.val).1 = 9) ∧
    ((Mp.first m.val).2.2 = 0 → (Mp.first m.val).2.1.toNat ≤ 127) ∧ ((Mp.first m.val).1 = 2 → (Mp.first m.val).2.2 = 0 → (Mp.first m.val).2.1.toNat ≤ 31) := by decide +kernel
  exact key ⟨m, by omega⟩
theorem mp_row.goal (r : Rdr) (it : Itv) (p n : Int) (hp : Cur.good r = true) : mp_row.F r it p n = some [.ag (Itv.cells (Itm.val (Mp.row r.b (Itm.of it) p r.at_ n).it)), .ag (Flt.cells (Flt.mk (Mp.row r.b (Itm.of it) p r.at_ n).err (Mp.row r.b (Itm.of it) p r.at_ n).at_ [])), .ag (Rdr.cells (Rdr.mk r.b (Mp.row r.b (Itm.of it) p r.at_ n).pos))] := by
  obtain ⟨h0, h1, h2⟩ := Cur.good_iff.1 hp
  refine mp_row.F_in _ _ _ _ ?_
  intro v1 e1 v2 e2
  have hl := Cur.nx_len r n (Cur.okT r n)
  rw [ck_of hp]
  cases ho : Cur.okT r n with
  | false =>
    have ho' : n < 0 ∨ (r.b.length : Int) - r.at_ < n := by
      have := of_decide_eq_false ho; omega
    rw [Mp.row, if_pos ho']; rfl
  | true =>
    have ho' : ¬ (n < 0 ∨ (r.b.length : Int) - r.at_ < n) := by
      have := of_decide_eq_true ho; omega
    rw [ho] at hl e2
    rw [Mp.row, if_neg ho', Bool.not_true, cond_false]
    by_cases a : it.kind = 4
    · rw [decide_eq_true a, Bool.not_true, cond_false, if_neg (show ¬ (Itm.of it).kind ≠ 4 from fun h => h a), ck_of (decide_eq_true (by omega)), e2, show Cur.nx r n true = (r.b.drop r.at_.toNat).take n.toNat from rfl]
      cases hw : Utf.whole ((r.b.drop r.at_.toNat).take n.toNat) <;> rfl
    · rw [decide_eq_false a, Bool.not_false, cond_true, if_pos (show (Itm.of it).kind ≠ 4 from a)]; rfl
theorem Mp.kids_pos (b : Str) (f : Int → Mp.Got) (hf : ∀ q : Int, 0 ≤ q → q ≤ b.length → q ≤ (f q).pos ∧ (f q).pos ≤ b.length ∧ ((f q).err = 0 → q < (f q).pos)) : ∀ (n : Nat) (it : Itm) (q : Int), 0 ≤ q → q ≤ b.length →
    q ≤ (Mp.kids f it n q).pos ∧ (Mp.kids f it n q).pos ≤ b.length := by
  intro n
  induction n with
  | zero => intro it q h0 h1; exact ⟨Int.le_refl _, h1⟩
  | succ n ih =>
    intro it q h0 h1
    obtain ⟨a, c, _⟩ := hf q h0 h1
    rw [Mp.kids]
    split
    · exact ⟨a, c⟩
    · have := ih (.mk it.kind it.n it.bytes it.text (it.kids ++ [(f q).it])) (f q).pos (by omega) c
      exact ⟨by omega, this.2⟩
theorem Mp.num_pos (it : Itm) (p c f q : Int) : (Mp.num it p c f q).pos = q := by unfold Mp.num; split <;> rfl
theorem Mp.row_pos (b : Str) (it : Itm) (p q n : Int) (h : q ≤ b.length) : q ≤ (Mp.row b it p q n).pos ∧ (Mp.row b it p q n).pos ≤ b.length := by
  unfold Mp.row; repeat' split
  all_goals simp only [Mp.bad]; omega
theorem Mp.end_pos (b : Str) (sub : Int → Mp.Got) (hf : ∀ q : Int, 0 ≤ q → q ≤ b.length → q ≤ (sub q).pos ∧ (sub q).pos ≤ b.length ∧ ((sub q).err = 0 → q < (sub q).pos)) (p c k : Int) (n : UInt64) (long : Int) (t : UInt64) (q : Int) (h0 : 0 ≤ q) (h : q ≤ b.length) :
    q ≤ (Mp.readEnd b sub p c k n long t q).pos ∧ (Mp.readEnd b sub p c k n long t q).pos ≤ b.length := by
  unfold Mp.readEnd
  repeat' split
  all_goals first
    | exact ⟨Int.le_refl _, h⟩
    | (rw [Mp.num_pos]; exact ⟨Int.le_refl _, h⟩)
    | exact Mp.kids_pos b _ hf _ _ q h0 h
    | exact Mp.row_pos b _ _ q _ h
theorem Mp.read_pos (b : Str) : ∀ (d : Nat) (p : Int), 0 ≤ p → p ≤ b.length → p ≤ (Mp.read b d p).pos ∧ (Mp.read b d p).pos ≤ b.length ∧ ((Mp.read b d p).err = 0 → p < (Mp.read b d p).pos) := by
  intro d
  induction d with
  | zero => intro p h0 h1; exact ⟨Int.le_refl _, h1, fun h => by simp [Mp.read, Mp.bad] at h⟩
  | succ d ih =>
    intro p h0 h1
    rw [Mp.read]
    by_cases g1 : (b.length : Int) ≤ p
    · rw [if_pos g1]; exact ⟨Int.le_refl _, h1, fun h => by simp [Mp.bad] at h⟩
    rw [if_neg g1]
    have hc := Mp.first_kinds ((b.getD p.toNat 0).toNat : Int) ⟨by omega, by have := (b.getD p.toNat 0).toNat_lt; omega⟩
    generalize Mp.first ((b.getD p.toNat 0).toNat : Int) = F at hc
    obtain ⟨k, n0, long⟩ := F
    simp only at hc ⊢
    obtain ⟨hk, hl, _⟩ := hc
    have step : ∀ (q : Int), p + 1 ≤ q → q ≤ b.length → ∀ g : Mp.Got, q ≤ g.pos ∧ g.pos ≤ b.length → p ≤ g.pos ∧ g.pos ≤ b.length ∧ (g.err = 0 → p < g.pos) := fun q a c g x => ⟨by omega, x.2, fun _ => by omega⟩
    have bp : ∀ (e q : Int), q ≤ b.length → q ≤ (Mp.bad e p q).pos ∧ (Mp.bad e p q).pos ≤ b.length := fun e q h => ⟨Int.le_refl _, h⟩
    unfold Mp.readAt
    by_cases g2 : k = 0
    · rw [if_pos g2]; exact step (p + 1) (by omega) (by omega) _ (bp _ _ (by omega))
    rw [if_neg g2]
    by_cases g3 : (b.length : Int) - (p + 1) < long
    · rw [if_pos g3]; exact step (p + 1) (by omega) (by omega) _ (bp _ _ (by omega))
    rw [if_neg g3]
    unfold Mp.readTail
    by_cases g4 : k = 10
    · rw [if_pos g4]
      by_cases g5 : (b.length : Int) - (p + 1 + long) < 1
      · rw [if_pos g5]; exact step (p + 1 + long) (by omega) (by omega) _ (bp _ _ (by omega))
      rw [if_neg g5]
      exact step (p + 1 + long + 1) (by omega) (by omega) _ (Mp.end_pos b _ ih _ _ _ _ _ _ _ (by omega) (by omega))
    · rw [if_neg g4]
      exact step (p + 1 + long) (by omega) (by omega) _ (Mp.end_pos b _ ih _ _ _ _ _ _ _ (by omega) (by omega))
end Go.Eng
namespace Go.Eng
open Go.IntWalk
theorem Cur.be_lt : ∀ (l : Str) (x : UInt64) (k : Nat), x.toNat < 256 ^ k → k + l.length ≤ 8 → (l.foldl (fun v y => v * 256 + y.toUInt64) x).toNat < 256 ^ (k + l.length)
  | [], x, k, h, _ => by simpa using h
  | y :: l, x, k, h, hl => by
    rw [List.foldl_cons, List.length_cons, show k + (l.length + 1) = (k + 1) + l.length by omega]
    refine Cur.be_lt l _ (k + 1) ?_ (by simp at hl; omega)
    have hy := y.toNat_lt
    have h8 : k + 1 ≤ 8 := by simp at hl; omega
    have hp : 256 ^ (k + 1) ≤ 256 ^ 8 := Nat.pow_le_pow_right (by omega) h8
    rw [UInt64.toNat_add, UInt64.toNat_mul, UInt8.toNat_toUInt64, show (256 : UInt64).toNat = 256 from rfl, Nat.pow_succ]
    rw [Nat.pow_succ] at hp
    omega
theorem Cur.be_bound (l : Str) (n : Nat) (h : l.length = n) (hn : n ≤ 8) : (Cur.be l).toNat < 256 ^ n := by
  have := Cur.be_lt l 0 0 (by simp) (by omega)
  rw [Nat.zero_add, h] at this
  exact this
theorem mp_kids.l2_ok (n : Nat) (b : Str) (hb : b.length ≤ 1099511627776) (depth : Int) (hd : 1 ≤ depth ∧ depth ≤ 1000) (hn : 2 * depth.toNat < n + 1) (M : Int) (hM : M ≤ 8589934592) (kind : Int) (u : UInt64) (t : Str) (x7 : Itv) (x8 : Flt) :
    ∀ (k : Nat) (i : Int) (acc : List Itm) (q : Int), 0 ≤ i → i + k = M → 0 ≤ q → q ≤ b.length → (acc.length : Int) ≤ q →
      mp_kids.l2 n depth M i kind u t acc x7 x8 ⟨b, q⟩ = some [.ag (Itv.cells (Itm.val (Mp.kids (Mp.read b (depth - 1).toNat) (Itm.mk kind u [] t acc) k q).it)), .ag (Flt.cells (Flt.mk (Mp.kids (Mp.read b (depth - 1).toNat) (Itm.mk kind u [] t acc) k q).err (Mp.kids (Mp.read b (depth - 1).toNat) (Itm.mk kind u [] t acc) k q).at_ [])), .ag (Rdr.cells (Rdr.mk b (Mp.kids (Mp.read b (depth - 1).toNat) (Itm.mk kind u [] t acc) k q).pos))] := by
  intro k
  induction k with
  | zero =>
    intro i acc q hi0 hi h0 h1 ha
    refine mp_kids.l2_in _ _ _ _ _ _ _ _ _ _ _ ?_
    intro v1 e1 v2 e2 v3 e3 v4 e4 v5 e5
    rw [decide_eq_false (by omega), cond_false]; rfl
  | succ k ih =>
    intro i acc q hi0 hi h0 h1 ha
    refine mp_kids.l2_in _ _ _ _ _ _ _ _ _ _ _ ?_
    intro v1 e1 v2 e2 v3 e3 v4 e4 v5 e5
    have e1' : v1 = depth - 1 := by rw [e1, i64_in _ (by omega)]
    obtain ⟨g1, g2, g3⟩ := Mp.read_pos b (depth - 1).toNat q h0 h1
    rw [e1'] at e2 e3 e4
    simp only [Itm.of_val] at e2 e3 e4
    rw [decide_eq_true (by omega), cond_true, ck_of (by rw [Cur.good_iff.2 ⟨h0, h1, hb⟩, decide_eq_true (by omega), decide_eq_true (by omega)]; rfl), Mp.kids, e2]
    by_cases a : (Mp.read b (depth - 1).toNat q).err = 0
    · rw [decide_eq_true a, Bool.not_true, cond_false, if_neg (fun h => h a), e4]
      have := g3 a
      rw [ck_of (big_ap (by simp only [List.length_singleton]; omega) (by simp only [List.length_singleton]; omega)), show v5 = i + 1 by rw [e5, i64_in _ (by omega)], e3]
      exact ih (i + 1) (acc ++ [(Mp.read b (depth - 1).toNat q).it]) _ (by omega) (by omega) (by omega) g2 (by rw [List.length_append, List.length_singleton]; omega)
    · rw [decide_eq_false a, Bool.not_false, cond_true, if_pos a, e3]; rfl
theorem mp_kids.goal (n : Nat) (r : Rdr) (it : Itv) (m depth : Int) (hp : ((Cur.good r && decide (0 ≤ m ∧ m ≤ 4294967296 ∧ 1 ≤ depth ∧ depth ≤ 1000)) && decide ((2 * depth.toNat) < n + 1)) = true) :
    mp_kids.F n r it m depth = some [.ag (Itv.cells (Itm.val (Mp.kids (Mp.read r.b (depth - 1).toNat) (Itm.mk it.kind it.n [] it.text []) (Mp.many it.kind m) r.at_).it)), .ag (Flt.cells (Flt.mk (Mp.kids (Mp.read r.b (depth - 1).toNat) (Itm.mk it.kind it.n [] it.text []) (Mp.many it.kind m) r.at_).err (Mp.kids (Mp.read r.b (depth - 1).toNat) (Itm.mk it.kind it.n [] it.text []) (Mp.many it.kind m) r.at_).at_ [])), .ag (Rdr.cells (Rdr.mk r.b (Mp.kids (Mp.read r.b (depth - 1).toNat) (Itm.mk it.kind it.n [] it.text []) (Mp.many it.kind m) r.at_).pos))] := by
  simp only [Bool.and_eq_true, decide_eq_true_eq] at hp
  obtain ⟨⟨hg, hm⟩, hn⟩ := hp
  obtain ⟨h0, h1, h2⟩ := Cur.good_iff.1 hg
  refine mp_kids.F_in _ _ _ _ _ ?_
  intro v1 e1
  have e1' : v1 = m * 2 := by rw [e1, i64_in _ (by omega)]
  unfold Mp.many
  by_cases a : it.kind = 6
  · rw [decide_eq_true a, cond_true, if_pos a, mp_kids.j1_eq]
    exact mp_kids.l2_ok n r.b h2 depth (by omega) (by omega) v1 (by omega) _ _ _ _ _ _ 0 [] _ (by omega) (by omega) h0 h1 h0
  · rw [decide_eq_false a, cond_false, if_neg a, mp_kids.j1_eq]
    exact mp_kids.l2_ok n r.b h2 depth (by omega) (by omega) m (by omega) _ _ _ _ _ _ 0 [] _ (by omega) (by omega) h0 h1 h0
theorem shl_toNat (n : UInt64) (k : Nat) : (shl64 n k).toNat = n.toNat * 2 ^ k % 18446744073709551616 := by
  rw [shl64, UInt64.toNat_ofNat']
theorem not_u64 (v : UInt64) : (~~~ v).toNat = 18446744073709551615 - v.toNat := by
  have := v.toNat_lt
  have h : UInt64.size = 18446744073709551616 := rfl
  rw [UInt64.toNat_not]; omega
theorem u64_int (n : Int) : (UInt64.ofInt n).toNat = (n % 18446744073709551616).toNat := by
  have h := u64_ofInt n
  rw [wrap_u64'] at h; omega
theorem Mp.below_eq (n : UInt64) (long : Int) (hl : long = 1 ∨ long = 2 ∨ long = 4 ∨ long = 8) (hn : n.toNat < 256 ^ long.toNat) (s : Int) (hs : s = 64 - 8 * long) (v : UInt64)
    (hv : v = ~~~ (UInt64.ofInt (Int.fdiv (IntKind.i64.wrap ((shl64 n s.toNat).toNat : Int)) (2 ^ (min s.toNat IntKind.i64.bits))))) :
    match Mp.below n long with | none => 9223372036854775808 ≤ v | some m => v = m ∧ ¬ 9223372036854775808 ≤ v := by
  have hw := n.toNat_lt
  have key : ∀ (top : UInt64) (k L : Nat), s.toNat = k → k + L = 64 → 0 < L → top.toNat = 2 ^ (L - 1) → n.toNat < 2 ^ L → (match (if n < top then none else some (top - 1 - (n - top)) : Option UInt64) with | none => 9223372036854775808 ≤ v | some m => v = m ∧ ¬ 9223372036854775808 ≤ v) := by
    intro top k L hk hkL hL ht hnL
    have hb : (2 : Nat) ^ (k + (L - 1)) = 2 ^ 63 := by rw [show k + (L - 1) = 63 by omega]
    rw [Nat.pow_add] at hb
    have hkp : 0 < 2 ^ k := Nat.pow_pos (by omega)
    have hLp : 0 < 2 ^ (L - 1) := Nat.pow_pos (by omega)
    have h2L : 2 ^ L = 2 * 2 ^ (L - 1) := by
      have e : L = (L - 1) + 1 := by omega
      conv => lhs; rw [e, Nat.pow_succ]
      omega
    have hmul : n.toNat * 2 ^ k < 18446744073709551616 := by
      have : n.toNat * 2 ^ k < 2 ^ L * 2 ^ k := Nat.mul_lt_mul_of_pos_right hnL hkp
      rw [h2L, Nat.mul_assoc, Nat.mul_comm (2 ^ (L - 1)), hb] at this
      exact this
    have hsh : (shl64 n s.toNat).toNat = n.toNat * 2 ^ k := by rw [shl_toNat, hk, Nat.mod_eq_of_lt hmul]
    have hmin : min s.toNat IntKind.i64.bits = k := by rw [hk]; show min k 64 = k; omega
    rw [hsh, hmin] at hv
    have hcast : ((2 : Int) ^ k) = ((2 ^ k : Nat) : Int) := by rw [Int.natCast_pow]; rfl
    rw [hcast] at hv
    have hvn : v.toNat = 18446744073709551615 - (UInt64.ofInt (Int.fdiv (IntKind.i64.wrap ((n.toNat * 2 ^ k : Nat) : Int)) ((2 ^ k : Nat) : Int))).toNat := by rw [hv, not_u64]
    by_cases a : n < top
    · rw [if_pos a]
      have a' := UInt64.lt_iff_toNat_lt.1 a
      rw [ht] at a'
      have hsmall : n.toNat * 2 ^ k < 9223372036854775808 := by
        have : n.toNat * 2 ^ k < 2 ^ (L - 1) * 2 ^ k := Nat.mul_lt_mul_of_pos_right a' hkp
        rw [Nat.mul_comm (2 ^ (L - 1)), hb] at this
        exact this
      rw [i64_in _ (by omega), Int.fdiv_eq_ediv_of_nonneg _ (by omega), show ((n.toNat * 2 ^ k : Nat) : Int) / ((2 ^ k : Nat) : Int) = ((n.toNat * 2 ^ k / 2 ^ k : Nat) : Int) from rfl, Nat.mul_div_cancel _ hkp, u64_nat, Nat.mod_eq_of_lt hw] at hvn
      have hL63 : 2 ^ (L - 1) ≤ 2 ^ 63 := Nat.pow_le_pow_right (by omega) (by omega)
      show 9223372036854775808 ≤ v
      rw [UInt64.le_iff_toNat_le, hvn, show (9223372036854775808 : UInt64).toNat = 9223372036854775808 from rfl]
      omega
    · rw [if_neg a]
      have a' : 2 ^ (L - 1) ≤ n.toNat := by rw [← ht]; exact Nat.le_of_not_lt fun h => a (UInt64.lt_iff_toNat_lt.2 h)
      have hbig : 9223372036854775808 ≤ n.toNat * 2 ^ k := by
        have : 2 ^ (L - 1) * 2 ^ k ≤ n.toNat * 2 ^ k := Nat.mul_le_mul_right _ a'
        rw [Nat.mul_comm (2 ^ (L - 1)), hb] at this
        exact this
      have hwr : IntKind.i64.wrap ((n.toNat * 2 ^ k : Nat) : Int) = ((n.toNat : Int) - ((2 ^ L : Nat) : Int)) * ((2 ^ k : Nat) : Int) := by
        rw [IntKind.wrap_i64, Int.sub_mul, show ((2 ^ L : Nat) : Int) * ((2 ^ k : Nat) : Int) = ((2 ^ L * 2 ^ k : Nat) : Int) by simp, h2L, Nat.mul_assoc, Nat.mul_comm (2 ^ (L - 1)), hb, show (n.toNat : Int) * ((2 ^ k : Nat) : Int) = ((n.toNat * 2 ^ k : Nat) : Int) by simp]
        omega
      have hL64 : 2 ^ L ≤ 2 ^ 64 := Nat.pow_le_pow_right (by omega) (by omega)
      rw [hwr, Int.mul_fdiv_cancel _ (by omega), u64_int] at hvn
      have e1 : (1 : UInt64).toNat = 1 := rfl
      have hm : (top - 1 - (n - top)).toNat = 2 ^ L - 1 - n.toNat := by
        have h1 : (top - 1).toNat = 2 ^ (L - 1) - 1 := by
          rw [UInt64.toNat_sub_of_le _ _ (by rw [UInt64.le_iff_toNat_le, ht, e1]; omega), ht, e1]
        have h2 : (n - top).toNat = n.toNat - 2 ^ (L - 1) := by
          rw [UInt64.toNat_sub_of_le _ _ (by rw [UInt64.le_iff_toNat_le, ht]; exact a'), ht]
        rw [UInt64.toNat_sub_of_le _ _ (by rw [UInt64.le_iff_toNat_le, h1, h2]; omega), h1, h2]; omega
      refine ⟨UInt64.toNat_inj.1 ?_, fun h => ?_⟩
      · rw [hm, hvn]; omega
      · rw [UInt64.le_iff_toNat_le, hvn, show (9223372036854775808 : UInt64).toNat = 9223372036854775808 from rfl] at h
        omega
  unfold Mp.below
  rcases hl with rfl | rfl | rfl | rfl
  · exact key 128 56 8 (by omega) rfl (by decide) rfl (by simpa using hn)
  · exact key 32768 48 16 (by omega) rfl (by decide) rfl (by simpa using hn)
  · exact key 2147483648 32 32 (by omega) rfl (by decide) rfl (by simpa using hn)
  · exact key 9223372036854775808 0 64 (by omega) rfl (by decide) rfl (by simpa using hn)
section
variable {n : Nat} {depth p c k long q : Int} {u t : UInt64} {b : Str}
def Mp.Got.tvs (b : Str) (g : Mp.Got) : List TV := [.ag (Itv.cells (Itm.val g.it)), .ag (Flt.cells (Flt.mk g.err g.at_ [])), .ag (Rdr.cells (Rdr.mk b g.pos))]
theorem mp_read.j4_ok (x3 : Itv) (x4 : Flt) (v : UInt64) (x6 : UInt64) (hv : match (none : Option UInt64) with | none => True | some _ => True) :
    mp_read.j4 n p c v x3 x4 k x6 [] ⟨b, q⟩ = some (Mp.Got.tvs b (if 9223372036854775808 ≤ v then Mp.bad 3 p q else Mp.num (.mk k v [] [] []) p c (Mp.signed v).1 q)) := by
  refine mp_read.j4_in _ _ _ _ _ _ _ _ _ _ ?_
  intro v1 e1
  by_cases a : 9223372036854775808 ≤ v
  · rw [decide_eq_true a, cond_true, if_pos a]; rfl
  · rw [decide_eq_false a, cond_false, if_neg a, e1]
    simp only [Mp.num, Itm.of]
    split <;> rfl
theorem mp_read.j3_ok (x8 : Itv) (x9 : Flt) (hd : 1 ≤ depth ∧ depth ≤ 1000) (hn : 2 * depth.toNat < n) (hb : b.length ≤ 1099511627776) (hq : 0 ≤ q ∧ q ≤ b.length)
    (hk : k = 1 ∨ k = 2 ∨ k = 3 ∨ k = 4 ∨ k = 5 ∨ k = 6 ∨ k = 8 ∨ k = 9 ∨ k = 10) (hl : long = 0 ∨ long = 1 ∨ long = 2 ∨ long = 4 ∨ long = 8)
    (hu : long ≠ 0 → u.toNat < 256 ^ long.toNat) (hu0 : long = 0 → u.toNat ≤ 127) (h8 : long = 8 → k = 1 ∨ k = 2 ∨ k = 9) :
    mp_read.j3 n depth p c k u long k (decide (k = 8 ∨ k = 9)) x8 x9 k t [] ⟨b, q⟩ = some (Mp.Got.tvs b (Mp.readEnd b (Mp.read b (depth - 1).toNat) p c k u long t q)) := by
  refine mp_read.j3_in _ _ _ _ _ _ _ _ _ _ _ _ _ _ _ ?_
  intro v1 e1 v2 e2 v3 e3 v4 e4 v5 e5 v6 e6 v7 e7 v8 e8 v9 e9 v10 e10 v11 e11 v12 e12 v13 e13
  have hg : Cur.good ⟨b, q⟩ = true := Cur.good_iff.2 ⟨hq.1, hq.2, hb⟩
  unfold Mp.readEnd
  by_cases a : k = 8 ∨ k = 9
  · rw [decide_eq_true a, cond_true, if_pos a]; rfl
  rw [decide_eq_false a, cond_false, if_neg a]
  by_cases a1 : k = 1
  · rw [decide_eq_true a1, cond_true, if_pos a1, e1]
    simp only [Mp.num, Itm.of]
    split <;> rfl
  rw [decide_eq_false a1, cond_false, if_neg a1]
  by_cases a2 : k = 2
  · rw [decide_eq_true a2, cond_true, if_pos a2]
    by_cases a3 : long = 0
    · rw [decide_eq_false (by omega), cond_false, if_pos a3, mp_read.j4_ok _ _ _ _ trivial, if_neg (fun h => by
        have := UInt64.le_iff_toNat_le.1 h
        have := hu0 a3
        rw [show (9223372036854775808 : UInt64).toNat = 9223372036854775808 from rfl] at *
        omega)]
    · have hl' : long = 1 ∨ long = 2 ∨ long = 4 ∨ long = 8 := by omega
      have e3' : v3 = 64 - 8 * long := by rw [e3, e2, i64_in (8 * long) (by omega), i64_in _ (by omega)]
      have hB := Mp.below_eq u long hl' (hu a3) v3 e3' _ rfl
      rw [decide_eq_true (by omega), cond_true, if_neg a3, ck_of (decide_eq_true (by omega)), ck_of (decide_eq_true (by omega)), mp_read.j4_ok _ _ _ _ trivial, e5, e4]
      cases hbl : Mp.below u long with
      | none => rw [hbl] at hB; rw [if_pos hB]
      | some m => rw [hbl] at hB; rw [if_neg hB.2, hB.1]
  rw [decide_eq_false a2, cond_false, if_neg a2]
  have hu32 : u.toNat < 4294967296 := by
    by_cases a3 : long = 0
    · have := hu0 a3; omega
    · have hq3 := hu a3
      have h124 : long = 1 ∨ long = 2 ∨ long = 4 := by
        rcases hl with h | h | h | h | h
        · exact (a3 h).elim
        · exact .inl h
        · exact .inr (.inl h)
        · exact .inr (.inr h)
        · have := h8 h; omega
      rcases h124 with h | h | h <;> rw [h] at hq3 <;> simp at hq3 <;> omega
  have e6' : v6 = (u.toNat : Int) := by rw [e6, i64_in _ (by omega)]
  have hs : Mp.sizeds k = true := by unfold Mp.sizeds; exact decide_eq_true (by omega)
  rw [ck_of (by rw [hs, decide_eq_true (by omega)]; rfl)]
  have h7 : (!decide ((Mp.sized k v6).1 = c) || v7) = true := by rw [e7]; cases decide ((Mp.sized k v6).1 = c) <;> rfl
  simp only [Bool.not_or_self, ck_true]
  rw [ck_of h7, e8, e6']
  by_cases a4 : (Mp.sized k u.toNat).1 ≠ c ∨ 127 < t
  · rw [if_pos a4, show (cond (!decide ((Mp.sized k u.toNat).1 = c)) true (decide (127 < t))) = true by
      by_cases a5 : (Mp.sized k u.toNat).1 = c
      · rw [decide_eq_true a5]; simpa using a4.resolve_left (fun h => h a5)
      · rw [decide_eq_false a5]; rfl]; rfl
  · have a5 : (Mp.sized k u.toNat).1 = c := Classical.byContradiction fun h => a4 (.inl h)
    have a6 : ¬ 127 < t := fun h => a4 (.inr h)
    rw [if_neg a4, a5, decide_eq_true rfl, decide_eq_false a6]
    simp only [Bool.not_true, cond_false, Bool.or_not_self, ck_true]
    rw [e9]
    by_cases k5 : k = 5
    · rw [decide_eq_true k5, cond_true, cond_true, if_pos k5, ck_of (by rw [hg, decide_eq_true (by omega), decide_eq_true (by omega)]; rfl), e10, e11, e6', show Mp.many (Itv.kind ⟨k, t, [], [], []⟩) (u.toNat : Int) = u.toNat by unfold Mp.many; rw [if_neg (by show ¬ k = 6; omega)]; omega]
      rfl
    rw [decide_eq_false k5, cond_false, if_neg k5]
    by_cases k6 : k = 6
    · rw [decide_eq_true k6, cond_true, if_pos k6, ck_of (by rw [hg, decide_eq_true (by omega), decide_eq_true (by omega)]; rfl), e10, e11, e6', show Mp.many (Itv.kind ⟨k, t, [], [], []⟩) (u.toNat : Int) = 2 * u.toNat by unfold Mp.many; rw [if_pos (by show k = 6; omega)]; omega]
      rfl
    rw [decide_eq_false k6, cond_false, if_neg k6, ck_of hg, e12, e13, e6']
    rfl
theorem u8_u64 (v : UInt8) : UInt64.ofInt ((v.toNat : Nat) : Int) = v.toUInt64 := by
  apply UInt64.toNat_inj.1
  have := v.toNat_lt
  rw [u64_nat, UInt8.toNat_toUInt64]; omega
theorem mp_read.j1_ok (x6 : Itv) (x7 : Flt) (hd : 1 ≤ depth ∧ depth ≤ 1000) (hn : 2 * depth.toNat < n) (hb : b.length ≤ 1099511627776) (hq : 0 ≤ q ∧ q ≤ b.length)
    (hk : k = 1 ∨ k = 2 ∨ k = 3 ∨ k = 4 ∨ k = 5 ∨ k = 6 ∨ k = 8 ∨ k = 9 ∨ k = 10) (hl : long = 0 ∨ long = 1 ∨ long = 2 ∨ long = 4 ∨ long = 8)
    (hu : long ≠ 0 → u.toNat < 256 ^ long.toNat) (hu0 : long = 0 → u.toNat ≤ 127) (h8 : long = 8 → k = 1 ∨ k = 2 ∨ k = 9) :
    mp_read.j1 n depth p c k u long x6 x7 ⟨b, q⟩ = some (Mp.Got.tvs b (Mp.readTail b (Mp.read b (depth - 1).toNat) p c k u long q)) := by
  have hg : Cur.good ⟨b, q⟩ = true := Cur.good_iff.2 ⟨hq.1, hq.2, hb⟩
  have two : ∀ (t : UInt64) (q' : Int), 0 ≤ q' ∧ q' ≤ b.length → mp_read.j2 n depth p c k u long x6 x7 k t [] ⟨b, q'⟩ = some (Mp.Got.tvs b (Mp.readEnd b (Mp.read b (depth - 1).toNat) p c k u long t q')) := by
    intro t q' hq'
    rw [mp_read.j2_eq]
    have J := mp_read.j3_ok (n := n) (depth := depth) (p := p) (c := c) (k := k) (long := long) (q := q') (u := u) (t := t) (b := b) x6 x7 hd hn hb hq' hk hl hu hu0 h8
    by_cases a : k = 8
    · rw [decide_eq_true a, cond_true, ← J]
      congr 1
      exact (decide_eq_true (Or.inl a)).symm
    · rw [decide_eq_false a, cond_false, ← J]
      congr 1
      by_cases a9 : k = 9
      · rw [decide_eq_true a9]; exact (decide_eq_true (Or.inr a9)).symm
      · rw [decide_eq_false a9]; exact (decide_eq_false (by omega)).symm
  rw [mp_read.j1_eq, Mp.readTail]
  by_cases a : k = 10
  · rw [decide_eq_true a, cond_true, if_pos a, ck_of hg]
    by_cases m : q < b.length
    · rw [show Cur.more ⟨b, q⟩ = true from decide_eq_true m, Bool.not_true, cond_false, if_neg (by omega), show Cur.byte ⟨b, q⟩ = ((b.getD q.toNat 0).toNat : Int) from if_pos m, u8_u64]
      exact two _ (q + 1) (by omega)
    · rw [show Cur.more ⟨b, q⟩ = false from decide_eq_false m, Bool.not_false, cond_true, if_pos (by omega)]; rfl
  · rw [decide_eq_false a, cond_false, if_neg a]
    exact two 0 q hq
end
theorem mp_read.goal (n : Nat) (r : Rdr) (depth : Int) (hp : ((Cur.good r && decide (0 ≤ depth ∧ depth ≤ 1000)) && decide ((2 * depth.toNat + 1) < n + 1)) = true) :
    mp_read.F n r depth = some [.ag (Itv.cells (Itm.val (Mp.read r.b depth.toNat r.at_).it)), .ag (Flt.cells (Flt.mk (Mp.read r.b depth.toNat r.at_).err (Mp.read r.b depth.toNat r.at_).at_ [])), .ag (Rdr.cells (Rdr.mk r.b (Mp.read r.b depth.toNat r.at_).pos))] := by
  simp only [Bool.and_eq_true, decide_eq_true_eq] at hp
  obtain ⟨⟨hg, hd⟩, hn⟩ := hp
  obtain ⟨h0, h1, h2⟩ := Cur.good_iff.1 hg
  obtain ⟨b, p⟩ := r
  simp only at h0 h1 h2 ⊢
  show mp_read.F n ⟨b, p⟩ depth = some (Mp.Got.tvs b (Mp.read b depth.toNat p))
  refine mp_read.F_in _ _ _ ?_
  intro v1 e1 v2 e2 v3 e3 v4 e4 v5 e5 v6 e6 v7 e7 v8 e8 v9 e9
  by_cases a : depth = 0
  · rw [decide_eq_true a, cond_true, a, e1]; rfl
  obtain ⟨d, rfl⟩ : ∃ d : Nat, depth = (d : Int) + 1 := ⟨(depth - 1).toNat, by omega⟩
  rw [decide_eq_false a, cond_false, ck_of hg, show ((d : Int) + 1).toNat = d + 1 by omega, Mp.read]
  by_cases m : p < b.length
  · have hm : Cur.more ⟨b, p⟩ = true := decide_eq_true m
    have hby : Cur.byte ⟨b, p⟩ = ((b.getD p.toNat 0).toNat : Int) := if_pos m
    have hc : 0 ≤ ((b.getD p.toNat 0).toNat : Int) ∧ ((b.getD p.toNat 0).toNat : Int) ≤ 255 := ⟨by omega, by have := (b.getD p.toNat 0).toNat_lt; omega⟩
    rw [hby] at e3 e4 e5
    rw [hm] at e7 e8 e9
    have had : Cur.adv ⟨b, p⟩ 1 true = ⟨b, p + 1⟩ := rfl
    rw [had] at e7 e8 e9
    obtain ⟨F1, F2, F3, F4, F5⟩ := Mp.first_kinds _ hc
    rw [hm, Bool.not_true, cond_false, hby, had, ck_of (decide_eq_true hc), if_neg (by omega), ← e3, ← e4, ← e5, Mp.readAt]
    rw [← e3, ← e4, ← e5] at *
    by_cases k0 : v3 = 0
    · rw [decide_eq_true k0, cond_true, if_pos k0, e6]; rfl
    rw [decide_eq_false k0, cond_false, if_neg k0]
    have hg' : Cur.good ⟨b, p + 1⟩ = true := Cur.good_iff.2 ⟨by show 0 ≤ p + 1; omega, by show p + 1 ≤ (b.length : Int); omega, h2⟩
    by_cases l0 : v5 = 0
    · rw [decide_eq_false (by omega), cond_false, if_neg (by omega), if_pos l0, l0, Int.add_zero]
      have J := mp_read.j1_ok (n := n) (depth := (d : Int) + 1) (p := p) (c := ((b.getD p.toNat 0).toNat : Int)) (k := v3) (long := 0) (q := p + 1) (u := v4) (b := b) ⟨0, 0, [], [], []⟩ ⟨0, 0, []⟩ (by omega) (by omega) h2 (by omega) (by omega) (by omega) (fun h => (h rfl).elim) (fun _ => F4 l0) (fun h => by omega)
      rw [show ((d : Int) + 1 - 1).toNat = d by omega] at J
      exact J
    · rw [decide_eq_true (by omega), cond_true, ck_of hg']
      have h8' : v8 = !decide ((b.length : Int) - (p + 1) < v5) := by
        rw [e8, Cur.ok8]
        by_cases x : (b.length : Int) - (p + 1) < v5
        · rw [decide_eq_true x]; exact decide_eq_false (by show ¬ (1 ≤ v5 ∧ v5 ≤ 8 ∧ v5 ≤ (b.length : Int) - (p + 1)); omega)
        · rw [decide_eq_false x]; exact decide_eq_true (by show 1 ≤ v5 ∧ v5 ≤ 8 ∧ v5 ≤ (b.length : Int) - (p + 1); omega)
      rw [← e8] at e7 e9
      by_cases x : (b.length : Int) - (p + 1) < v5
      · rw [decide_eq_true x] at h8'
        rw [if_pos x, h8', e2, e9, h8']; rfl
      · rw [decide_eq_false x] at h8'
        rw [if_neg x, if_neg l0, h8', e9, e7, h8', Bool.not_false, Bool.not_true, cond_false]
        have hbl := Cur.be_bound ((b.drop (p + 1).toNat).take v5.toNat) v5.toNat (by rw [List.length_take, List.length_drop]; omega) (by omega)
        have J := mp_read.j1_ok (n := n) (depth := (d : Int) + 1) (p := p) (c := ((b.getD p.toNat 0).toNat : Int)) (k := v3) (long := v5) (q := p + 1 + v5) (u := Cur.be ((b.drop (p + 1).toNat).take v5.toNat)) (b := b) ⟨0, 0, [], [], []⟩ ⟨0, 0, []⟩ (by omega) (by omega) h2 (by omega) (by omega) F2 (fun _ => hbl) (fun h => (l0 h).elim) F3
        rw [show ((d : Int) + 1 - 1).toNat = d by omega] at J
        exact J
  · have hm : Cur.more ⟨b, p⟩ = false := decide_eq_false m
    rw [hm, Bool.not_false, cond_true, if_pos (by omega), e2]; rfl
theorem mp_Decode.goal (b : Str) (depth : Int) (hp : decide (b.length ≤ 1099511627776) = true) : mp_Decode.F b depth = some [.ag (Itv.cells (Itm.val (Mp.dec b depth).1)), .ag (Flt.cells (Mp.dec b depth).2)] := by
  have hb := of_decide_eq_true hp
  refine mp_Decode.F_in _ _ ?_
  intro v1 e1 v2 e2 v3 e3 v4 e4 v5 e5
  simp only [Bool.not_or_self, Bool.or_not_self, ck_true]
  have e1' : v1 = decide (depth < 0 ∨ 1000 < depth) := by
    rw [e1]
    by_cases a : depth < 0 <;> by_cases b : 1000 < depth <;> simp [a, b]
  rw [e1', Mp.dec]
  by_cases a : depth < 0 ∨ 1000 < depth
  · rw [decide_eq_true a, cond_true, if_pos a, e2]
  have hg : Cur.good ⟨b, 0⟩ = true := Cur.good_iff.2 ⟨Int.le_refl _, by show (0 : Int) ≤ (b.length : Int); omega, hb⟩
  obtain ⟨g1, g2, _⟩ := Mp.read_pos b depth.toNat 0 (Int.le_refl _) (by omega)
  simp only at e3 e4
  rw [decide_eq_false a, cond_false, if_neg a, ck_of hp, ck_of (by rw [hg, decide_eq_true (by omega)]; rfl), e3]
  by_cases x : (Mp.read b depth.toNat 0).err = 0
  · have hg4 : Cur.good v4 = true := by rw [e4]; exact Cur.good_iff.2 ⟨g1, g2, hb⟩
    rw [decide_eq_true x, Bool.not_true, cond_false, if_neg (fun h => h x), ck_of hg4, e5, e4]
    by_cases y : (Mp.read b depth.toNat 0).pos < b.length
    · rw [decide_eq_true (by show 0 < (b.length : Int) - (Mp.read b depth.toNat 0).pos; omega), cond_true, if_pos y]
    · rw [decide_eq_false (by show ¬ 0 < (b.length : Int) - (Mp.read b depth.toNat 0).pos; omega), cond_false, if_neg y]; rfl
  · rw [decide_eq_false x, Bool.not_false, cond_true, if_pos x]; rfl
end Go.Eng
namespace Go.Eng
open Go.IntWalk
theorem ref29_own.goal (it : Itv) (hp : decide (Itm.bulk (Itm.of it) ≤ 1099511627776) = true) : ref29_own.F it = some [.i .i64 (Mp.own (Itm.of it))] := by
  have h := of_decide_eq_true hp
  rw [Itm.bulk_of] at h
  have hks := Itm.bulk_kids it.kids
  obtain ⟨k, n, b, t, ks⟩ := it
  simp only at h hks
  refine ref29_own.F_in _ ?_
  intro v1 h1 v2 h2 v3 h3 v4 h4 v5 h5 v6 h6 v7 h7 v8 h8 v9 h9 v10 h10 v11 h11 v12 h12 v13 h13 v14 h14 v15 h15 v16 h16 v17 h17 v18 h18 v19 h19 v20 h20 v21 h21 v22 h22 v23 h23 v24 h24 v25 h25 v26 h26 v27 h27 v28 h28 v29 h29 v30 h30 v31 h31 v32 h32 v33 h33
  simp only at h1 h2 h3 h4 h5 h6 h7 h8 h9 h10 h11 h12 h13 h14 h15 h16 h17 h18 h19 h20 h21 h22 h23 h24 h25 h26 h27 h28 h29 h30 h31 h32 h33 ⊢
  subst h7 h11 h18 h19 h22 h25 h29
  simp only [Bool.not_or_self, Bool.or_not_self, Bool.and_self, ck_true, ck4, ck5, Bool.and_true, show (!decide ((2 : Int) = 0)) = true from rfl, decide_eq_true (show t.length ≤ 1099511627776 by omega)]
  have l0 : ∀ {α : Type} (l : List α), decide ((0 : Int) < (l.length : Int)) = decide (l ≠ []) := by
    intro α l; rw [decide_eq_decide]; cases l <;> simp <;> omega
  have e31 : v31 = ((ks.length / 2 : Nat) : Int) := by rw [h31, h15, show Int.tdiv (ks.length : Int) 2 = ((ks.length / 2 : Nat) : Int) from rfl, i64_in _ (by omega)]
  have e5 : v5 = decide (k < 1 ∨ 10 < k ∨ k = 7) := by
    rw [h5, h4]; by_cases a : k < 1 <;> by_cases c : 10 < k <;> by_cases d : k = 7 <;> simp [a, c, d]
  have e3 : v3 = decide (¬ (k = 3 ∨ k = 4 ∨ k = 5 ∨ k = 6)) := by
    rw [h3, h2, h1]; by_cases a : k = 3 <;> by_cases c : k = 4 <;> by_cases d : k = 5 <;> by_cases e : k = 6 <;> simp [a, c, d, e]
  have e13 : v13 = decide (((k = 3 ∨ k = 4 ∨ k = 5 ∨ k = 6) ∧ n ≠ 0) ∨ (k ≠ 3 ∧ k ≠ 10 ∧ b ≠ []) ∨ (k ≠ 4 ∧ t ≠ [])) := by
    rw [h13, h12, h10, h8, h6, e3, h9, l0]
    by_cases a : k = 3 ∨ k = 4 ∨ k = 5 ∨ k = 6 <;> by_cases c : n = 0 <;> by_cases d : k = 3 <;> by_cases e : k = 10 <;> by_cases f : b = [] <;> by_cases g : k = 4 <;> by_cases g' : t = [] <;> simp [a, c, d, e, f, g, g']
  have e16 : v16 = decide (k ≠ 5 ∧ k ≠ 6 ∧ ks ≠ []) := by
    rw [h16, h14, h15, l0]
    by_cases d : k = 5 <;> by_cases e : k = 6 <;> by_cases f : ks = [] <;> simp [d, e, f]
  have e26 : (cond v24 true v26) = decide ((k = 2 ∧ 9223372036854775808 ≤ n) ∨ (k = 8 ∧ (n < 20 ∨ 22 < n)) ∨ (k = 10 ∧ 127 < n) ∨ (k = 6 ∧ ks.length % 2 ≠ 0)) := by
    rw [h24, h23, h21, h20, h17, h26, h15, show Int.tmod (ks.length : Int) 2 = ((ks.length % 2 : Nat) : Int) from rfl, show decide (((ks.length % 2 : Nat) : Int) = 0) = decide (ks.length % 2 = 0) from decide_eq_decide.2 (by omega)]
    by_cases a : k = 2 <;> by_cases c : k = 8 <;> by_cases d : k = 10 <;> by_cases e : k = 6 <;> by_cases f : (9223372036854775808 : UInt64) ≤ n <;> by_cases g : n < 20 <;> by_cases g' : 22 < n <;> by_cases g2 : 127 < n <;> by_cases g3 : ks.length % 2 = 0 <;> simp only [a, c, d, e, f, g, g', g2, g3, decide_true, decide_false, cond_true, cond_false, Bool.not_true, Bool.not_false, true_and, false_and, and_true, and_false, true_or, or_true, or_false, false_or, or_self, not_true, not_false_iff, ne_eq] <;> first | rfl | omega
  have e32 : v32 = decide (4294967296 ≤ b.length ∨ 4294967296 ≤ t.length ∨ (k = 5 ∧ 4294967296 ≤ ks.length) ∨ 4294967296 ≤ ks.length / 2) := by
    have c1 : ∀ m : Nat, decide ((4294967296 : Int) ≤ (m : Int)) = decide (4294967296 ≤ m) := fun m => decide_eq_decide.2 (by omega)
    rw [h32, h30, h28, e31, h9, h27, h15, c1, c1, c1, c1]
    by_cases a : 4294967296 ≤ b.length <;> by_cases c : 4294967296 ≤ t.length <;> by_cases d : k = 5 <;> by_cases e : 4294967296 ≤ ks.length <;> by_cases f : 4294967296 ≤ ks.length / 2 <;> simp [a, c, d, e, f]
  rw [e5, e13, e16, e26, e32, h33, Itm.of, Mp.own]
  by_cases a1 : k < 1 ∨ 10 < k ∨ k = 7
  · rw [decide_eq_true a1, if_pos a1]; rfl
  rw [decide_eq_false a1, if_neg a1, cond_false]
  by_cases a2 : ((k = 3 ∨ k = 4 ∨ k = 5 ∨ k = 6) ∧ n ≠ 0) ∨ (k ≠ 3 ∧ k ≠ 10 ∧ b ≠ []) ∨ (k ≠ 4 ∧ t ≠ [])
  · rw [decide_eq_true a2, if_pos a2]; rfl
  rw [decide_eq_false a2, if_neg a2, cond_false]
  by_cases a3 : k ≠ 5 ∧ k ≠ 6 ∧ ks ≠ []
  · rw [decide_eq_true a3, if_pos a3]; rfl
  rw [decide_eq_false a3, if_neg a3, cond_false]
  by_cases a4 : (k = 2 ∧ 9223372036854775808 ≤ n) ∨ (k = 8 ∧ (n < 20 ∨ 22 < n)) ∨ (k = 10 ∧ 127 < n) ∨ (k = 6 ∧ ks.length % 2 ≠ 0)
  · rw [decide_eq_true a4, if_pos a4]; rfl
  rw [decide_eq_false a4, if_neg a4, cond_false]
  by_cases a5 : 4294967296 ≤ b.length ∨ 4294967296 ≤ t.length ∨ (k = 5 ∧ 4294967296 ≤ ks.length) ∨ 4294967296 ≤ ks.length / 2
  · rw [decide_eq_true a5, if_pos a5]; rfl
  rw [decide_eq_false a5, if_neg a5, cond_false]
  cases hw : Utf.whole t <;> rfl
theorem ref29_Check.l1_ok (n : Nat) (it : Itv) (hb : Itm.bulks it.kids ≤ 1099511627776) (hn : Itm.bulks it.kids < n) : ∀ (m i : Nat) (e : Int), i + m = it.kids.length → ref29_Check.l1 n e i it = some [.i .i64 (if e = 0 then Mp.chks (it.kids.drop i) else e)] := by
  have hk := Itm.bulk_kids it.kids
  intro m
  induction m with
  | zero =>
    intro i e hi
    refine ref29_Check.l1_in _ _ _ _ ?_
    intro v1 e1 v2 e2 v3 e3 v4 e4
    simp only [Bool.not_or_self, ck_true]
    rw [e2, decide_eq_false (by omega), cond_false, cond_false, List.drop_of_length_le (by omega)]
    split
    · rename_i h; rw [h]; rfl
    · rfl
  | succ m ih =>
    intro i e hi
    refine ref29_Check.l1_in _ _ _ _ ?_
    intro v1 e1 v2 e2 v3 e3 v4 e4
    simp only [Bool.not_or_self, ck_true]
    have hi' : i < it.kids.length := by omega
    have hb' := Itm.bulks_at it.kids i hi'
    rw [Int.toNat_natCast, Itm.of_val] at e3
    rw [e2, decide_eq_true (by omega), cond_true]
    by_cases a : e = 0
    · rw [decide_eq_true a, cond_true, if_pos a, ck_of (idx_ok (by omega) (by omega)), Int.toNat_natCast, Itm.of_val, ck_of (by rw [decide_eq_true (by omega), decide_eq_true (by omega)]; rfl), show v4 = ((i + 1 : Nat) : Int) by rw [e4, i64_in _ (by omega)]; omega, ih _ _ (by omega), e3, Mp.chks_at it.kids i hi']
    · rw [decide_eq_false a, cond_false, if_neg a]
theorem ref29_Check.goal (n : Nat) (it : Itv) (hp : ((decide (Itm.bulk (Itm.of it) ≤ 1099511627776)) && decide ((Itm.bulk (Itm.of it)) < n + 1)) = true) : ref29_Check.F n it = some [.i .i64 (Mp.chk (Itm.of it))] := by
  simp only [Bool.and_eq_true, decide_eq_true_eq] at hp
  obtain ⟨h, hn⟩ := hp
  rw [ref29_Check.F_eq, ck_of (decide_eq_true h)]
  rw [Itm.bulk_of] at h hn
  have hl := ref29_Check.l1_ok n it (by omega) (by omega) it.kids.length 0 (Mp.own (Itm.of it)) (by omega)
  rw [Mp.chk_of]
  exact hl
theorem ref29_wide.goal (n : UInt64) : ref29_wide.F n = some [.i .i64 (Mp.wide n)] := by
  rw [ref29_wide.F_eq, Mp.wide]
  by_cases a : n < 256
  · rw [decide_eq_true a, if_pos a]; rfl
  rw [decide_eq_false a, if_neg a, cond_false]
  by_cases a : n < 65536
  · rw [decide_eq_true a, if_pos a]; rfl
  rw [decide_eq_false a, if_neg a, cond_false]
  by_cases a : n < 4294967296
  · rw [decide_eq_true a, if_pos a]; rfl
  rw [decide_eq_false a, if_neg a, cond_false]
theorem ref29_step.goal (n : Int) : ref29_step.F n = some [.u8 (Mp.step n)] := by
  rw [ref29_step.F_eq, Mp.step]
  by_cases a : n = 1
  · rw [decide_eq_true a, if_pos a]; rfl
  rw [decide_eq_false a, if_neg a, cond_false]
  by_cases a : n = 2
  · rw [decide_eq_true a, if_pos a]; rfl
  rw [decide_eq_false a, if_neg a, cond_false]
  by_cases a : n = 4
  · rw [decide_eq_true a, if_pos a]; rfl
  rw [decide_eq_false a, if_neg a, cond_false]
theorem ref1_PutLow.l1_ok (N : Int) (hN : 0 ≤ N ∧ N ≤ 8) : ∀ (m : Nat) (i : Int) (x : UInt64) (acc : Str), 0 ≤ i → i + m = N → acc.length ≤ 100 + i → ref1_PutLow.l1 x N acc i = some [.sl .bs (acc ++ Cur.putLow x m)] := by
  intro m
  induction m with
  | zero =>
    intro i x acc h0 hi ha
    refine ref1_PutLow.l1_in _ _ _ _ ?_
    intro v1 e1 v2 e2 v3 e3
    simp only [Bool.not_or_self, ck_true]
    rw [e1, decide_eq_false (by omega), cond_false, cond_false, Cur.putLow, List.append_nil]
  | succ m ih =>
    intro i x acc h0 hi ha
    refine ref1_PutLow.l1_in _ _ _ _ ?_
    intro v1 e1 v2 e2 v3 e3
    simp only [Bool.not_or_self, ck_true]
    rw [e1, decide_eq_true (by omega), cond_true, decide_eq_true (by omega), cond_true, ck_of (big_ap (by simp only [List.length_singleton]; omega) (by simp only [List.length_singleton]; omega)), show (!decide ((256 : UInt64) = 0)) = true from rfl, ck_true, show v3 = i + 1 by rw [e3, i64_in _ (by omega)], ih _ _ _ (by omega) (by omega) (by rw [List.length_append, List.length_singleton]; omega), e2, u8_of, Cur.putLow, List.append_assoc]
    rfl
theorem ref1_PutLow.goal (v : UInt64) (n : Int) (hp : decide (0 ≤ n ∧ n ≤ 8) = true) : ref1_PutLow.F v n = some [.sl .bs (Cur.putLow v n.toNat)] := by
  have h := of_decide_eq_true hp
  rw [ref1_PutLow.F_eq]
  exact ref1_PutLow.l1_ok n h n.toNat 0 v [] (by omega) (by omega) (by simp)
theorem ref1_PutHigh.l1_ok (l : Str) (hl : l.length ≤ 8) : ∀ (k : Nat) (acc : Str), k ≤ l.length → acc.length + k ≤ 100 → ref1_PutHigh.l1 l acc ((k : Int) - 1) = some [.sl .bs (acc ++ (l.take k).reverse)] := by
  intro k
  induction k with
  | zero =>
    intro acc _ _
    refine ref1_PutHigh.l1_in _ _ _ ?_
    intro v1 e1 v2 e2
    rw [decide_eq_false (by omega), cond_false]; simp
  | succ k ih =>
    intro acc hk ha
    refine ref1_PutHigh.l1_in _ _ _ ?_
    intro v1 e1 v2 e2
    rw [show ((k + 1 : Nat) : Int) - 1 = (k : Int) by omega] at *
    rw [Int.toNat_natCast] at e1
    rw [decide_eq_true (by omega), cond_true, ck_of (idx_ok (by omega) (by omega)), ck_of (big_ap (by simp only [List.length_singleton]; omega) (by simp only [List.length_singleton]; omega)), show v2 = (k : Int) - 1 by rw [e2, i64_in _ (by omega)], ih _ (by omega) (by rw [List.length_append, List.length_singleton]; omega), List.take_succ_eq_append_getElem (by omega), List.reverse_append, e1, List.getD_eq_getElem?_getD, List.getElem?_eq_getElem (by omega)]
    simp
theorem ref1_PutHigh.goal (v : UInt64) (n : Int) (hp : decide (0 ≤ n ∧ n ≤ 8) = true) : ref1_PutHigh.F v n = some [.sl .bs (Cur.putHigh v n.toNat)] := by
  have h := of_decide_eq_true hp
  refine ref1_PutHigh.F_in _ _ ?_
  intro v1 e1 v2 e2
  rw [Cur.putLow_len] at e1
  rw [ck_of hp, show v2 = ((n.toNat : Nat) : Int) - 1 by rw [e2, e1, i64_in _ (by omega)], ref1_PutHigh.l1_ok _ (by rw [Cur.putLow_len]; omega) _ _ (by rw [Cur.putLow_len]; omega) (by simp; omega), List.take_of_length_le (by rw [Cur.putLow_len]; omega)]
  rfl
end Go.Eng
namespace Go.Eng
open Go.IntWalk
theorem Mp.wide_cases (n : UInt64) : (Mp.wide n = 1 ∧ n.toNat < 256) ∨ (Mp.wide n = 2 ∧ 256 ≤ n.toNat ∧ n.toNat < 65536) ∨ (Mp.wide n = 4 ∧ 65536 ≤ n.toNat ∧ n.toNat < 4294967296) ∨ (Mp.wide n = 8 ∧ 4294967296 ≤ n.toNat) := by
  unfold Mp.wide
  have h1 : (n < 256) = (n.toNat < 256) := propext UInt64.lt_iff_toNat_lt
  have h2 : (n < 65536) = (n.toNat < 65536) := propext UInt64.lt_iff_toNat_lt
  have h3 : (n < 4294967296) = (n.toNat < 4294967296) := propext UInt64.lt_iff_toNat_lt
  simp only [h1, h2, h3]
  repeat' split
  all_goals omega
theorem maxI_max (a b : Int) : maxI a b = max a b := by unfold maxI; omega
theorem ref29_form.goal (f : UInt8) (n : UInt64) (least : Int) (hp : decide (least ≤ 8) = true) : ref29_form.F f n least = some [.sl .bs (Mp.form f n least)] := by
  have h := of_decide_eq_true hp
  refine ref29_form.F_in _ _ _ ?_
  intro v1 e1 v2 e2 v3 e3
  rw [maxI_max] at *
  have hw := Mp.wide_cases n
  have hl : v3.length ≤ 8 := by rw [e3, Cur.putHigh_len]; omega
  have h2 : v2.length = 1 := by rw [e2]; rfl
  rw [ck_of (decide_eq_true (by omega)), ck_of (big_ap (by omega) (by omega)), e2, e3, e1]; rfl
theorem Mp.form_len (f : UInt8) (n : UInt64) (least : Int) (h : least ≤ 8) : (Mp.form f n least).length ≤ 9 := by
  have hw := Mp.wide_cases n
  rw [Mp.form, List.length_cons, Cur.putHigh_len]; omega
theorem ref29_ext.goal (n k : UInt64) : ref29_ext.F n k = some [.sl .bs (Mp.ext n k)] := by
  refine ref29_ext.F_in _ _ ?_
  intro v1 e1 v2 e2 v3 e3 v4 e4 v5 e5 v6 e6 v7 e7
  rw [u8_of] at e1
  have hl : v7.length ≤ 9 := by rw [e7]; exact Mp.form_len _ _ _ (by omega)
  unfold Mp.ext
  subst e1
  by_cases a : n = 1
  · rw [decide_eq_true a, if_pos a, cond_true, e2]
  rw [decide_eq_false a, if_neg a, cond_false]
  by_cases a : n = 2
  · rw [decide_eq_true a, if_pos a, cond_true, e3]
  rw [decide_eq_false a, if_neg a, cond_false]
  by_cases a : n = 4
  · rw [decide_eq_true a, if_pos a, cond_true, e4]
  rw [decide_eq_false a, if_neg a, cond_false]
  by_cases a : n = 8
  · rw [decide_eq_true a, if_pos a, cond_true, e5]
  rw [decide_eq_false a, if_neg a, cond_false]
  by_cases a : n = 16
  · rw [decide_eq_true a, if_pos a, cond_true, e6]
  rw [decide_eq_false a, if_neg a, cond_false, ck_of (decide_eq_true (by omega)), ck_of (big_ap (by simp only [List.length_singleton]; omega) (by simp only [List.length_singleton]; omega)), e7]
theorem ref29_negative.goal (n : UInt64) : ref29_negative.F n = some [.sl .bs (Mp.put (Mp.signed n) (~~~ n))] := by
  refine ref29_negative.F_in _ ?_
  intro v1 e1 v2 e2 v3 e3 v4 e4 v5 e5 v6 e6 v7 e7 v8 e8 v9 e9
  have l2 : v2.length = 1 := by rw [e2]; rfl
  have l4 : v4.length = 1 := by rw [e4]; rfl
  have l6 : v6.length = 1 := by rw [e6]; rfl
  have l8 : v8.length = 1 := by rw [e8]; rfl
  have l3 : v3.length = 1 := by rw [e3, Cur.putHigh_len]; rfl
  have l5 : v5.length = 2 := by rw [e5, Cur.putHigh_len]; rfl
  have l7 : v7.length = 4 := by rw [e7, Cur.putHigh_len]; rfl
  have l9 : v9.length = 8 := by rw [e9, Cur.putHigh_len]; rfl
  unfold Mp.signed
  by_cases a : n < 32
  · rw [decide_eq_true a, if_pos a, cond_true, e1]
    have h := UInt64.lt_iff_toNat_lt.1 a
    simp at h
    have e : ((255 : UInt64) - n).toNat = 255 - n.toNat := by
      rw [UInt64.toNat_sub_of_le _ _ (by rw [UInt64.le_iff_toNat_le]; simp; omega)]; rfl
    rw [e, show ((255 - n.toNat : Nat) : Int) = 255 - (n.toNat : Int) by omega]
    rfl
  rw [decide_eq_false a, if_neg a, cond_false]
  by_cases a : n < 128
  · rw [decide_eq_true a, if_pos a, cond_true, ck_of (decide_eq_true (by omega)), ck_of (big_ap (by omega) (by omega)), e2, e3]; rfl
  rw [decide_eq_false a, if_neg a, cond_false]
  by_cases a : n < 32768
  · rw [decide_eq_true a, if_pos a, cond_true, ck_of (decide_eq_true (by omega)), ck_of (big_ap (by omega) (by omega)), e4, e5]; rfl
  rw [decide_eq_false a, if_neg a, cond_false]
  by_cases a : n < 2147483648
  · rw [decide_eq_true a, if_pos a, cond_true, ck_of (decide_eq_true (by omega)), ck_of (big_ap (by omega) (by omega)), e6, e7]; rfl
  rw [decide_eq_false a, if_neg a, cond_false, ck_of (decide_eq_true (by omega)), ck_of (big_ap (by omega) (by omega)), e8, e9]; rfl
theorem Mp.form1 (f : Int) (hf : 0 ≤ f ∧ f ≤ 250) (n : UInt64) (hn : n.toNat < 4294967296) : Mp.form (UInt8.ofInt f) n 1 = Mp.put (if n.toNat < 256 then (f, 1) else if n.toNat < 65536 then (f + 1, 2) else (f + 2, 4)) n := by
  have k : ∀ (d : Int) (D : UInt8), D = UInt8.ofInt d → 0 ≤ d ∧ d ≤ 5 → UInt8.ofInt f + D - 0 = UInt8.ofInt (f + d) := by
    intro d D hD hd
    subst hD
    have hs : UInt8.ofInt f + UInt8.ofInt d - 0 = UInt8.ofInt f + UInt8.ofInt d := by simp
    rw [hs]
    apply UInt8.toNat_inj.1
    obtain ⟨f', rfl⟩ : ∃ m : Nat, f = m := ⟨f.toNat, by omega⟩
    obtain ⟨d', rfl⟩ : ∃ m : Nat, d = m := ⟨d.toNat, by omega⟩
    rw [UInt8.toNat_add, u8_nat, u8_nat, show ((f' : Int) + (d' : Int)) = ((f' + d' : Nat) : Int) by omega, u8_nat]; omega
  unfold Mp.form
  rcases Mp.wide_cases n with ⟨h, h'⟩ | ⟨h, h', h2⟩ | ⟨h, h', h2⟩ | ⟨h, h'⟩
  · rw [h, if_pos h', show max (1 : Int) 1 = 1 from rfl, show Mp.step 1 = 0 from rfl, k 0 0 rfl (by omega), Int.add_zero]; rfl
  · rw [h, if_neg (by omega), if_pos h2, show max (2 : Int) 1 = 2 from rfl, show Mp.step 2 = 1 from rfl, show Mp.step 1 = 0 from rfl, k 1 1 rfl (by omega)]; rfl
  · rw [h, if_neg (by omega), if_neg (by omega), show max (4 : Int) 1 = 4 from rfl, show Mp.step 4 = 2 from rfl, show Mp.step 1 = 0 from rfl, k 2 2 rfl (by omega)]; rfl
  · omega
theorem Mp.form2 (f : UInt8) (n : UInt64) (hn : n.toNat < 4294967296) (g : Int) (hg : f = UInt8.ofInt g) (hg1 : f + 2 - 1 = UInt8.ofInt (g + 1)) (hg0 : f + 1 - 1 = f) : Mp.form f n 2 = Mp.put (if n.toNat < 65536 then (g, 2) else (g + 1, 4)) n := by
  unfold Mp.form
  rcases Mp.wide_cases n with ⟨h, h'⟩ | ⟨h, h', h2⟩ | ⟨h, h', h2⟩ | ⟨h, h'⟩
  · rw [h, if_pos (by omega), show max (1 : Int) 2 = 2 from rfl, show Mp.step 2 = 1 from rfl, hg0, hg]; rfl
  · rw [h, if_pos h2, show max (2 : Int) 2 = 2 from rfl, show Mp.step 2 = 1 from rfl, hg0, hg]; rfl
  · rw [h, if_neg (by omega), show max (4 : Int) 2 = 4 from rfl, show Mp.step 4 = 2 from rfl, show Mp.step 2 = 1 from rfl, hg1]; rfl
  · omega
end Go.Eng
namespace Go.Eng
open Go.IntWalk
theorem u64_small {n : Nat} (h : n < 4294967296) : (UInt64.ofNat n).toNat = n := by rw [UInt64.toNat_ofNat']; omega
theorem Mp.sized_text (m : Int) : Mp.sized 4 m = if m < 32 then (160 + m, 0) else if m < 256 then (217, 1) else if m < 65536 then (218, 2) else (219, 4) := by simp [Mp.sized, Mp.fixed, Mp.fix, Mp.tab, Mp.base]
theorem Mp.sized_bytes (m : Int) (h : 0 ≤ m) : Mp.sized 3 m = if m < 256 then (196, 1) else if m < 65536 then (197, 2) else (198, 4) := by
  have : ¬ m < 0 := by omega
  simp [Mp.sized, Mp.fixed, Mp.fix, Mp.tab, Mp.base, this]
theorem Mp.sized_list (m : Int) : Mp.sized 5 m = if m < 16 then (144 + m, 0) else if m < 65536 then (220, 2) else (221, 4) := by simp [Mp.sized, Mp.fixed, Mp.fix, Mp.tab, Mp.base]
theorem Mp.sized_map (m : Int) : Mp.sized 6 m = if m < 16 then (128 + m, 0) else if m < 65536 then (222, 2) else (223, 4) := by simp [Mp.sized, Mp.fixed, Mp.fix, Mp.tab, Mp.base]
theorem Mp.sized_ext (m : Int) (h : 0 ≤ m) (h1 : m ≠ 1) (h2 : m ≠ 2) (h4 : m ≠ 4) (h8 : m ≠ 8) (h16 : m ≠ 16) : Mp.sized 10 m = if m < 256 then (199, 1) else if m < 65536 then (200, 2) else (201, 4) := by
  have : ¬ m < 0 := by omega
  simp [Mp.sized, Mp.fixed, Mp.fix, Mp.tab, Mp.base, this, h1, h2, h4, h8, h16]
theorem put_if3 (m : Nat) (a b c : Int × Int) (n : UInt64) : Mp.put (if m < 256 then a else if m < 65536 then b else c) n = Mp.put (if (m : Int) < 256 then a else if (m : Int) < 65536 then b else c) n := by
  refine congrArg (fun f => Mp.put f n) ?_
  by_cases x : m < 256
  · rw [if_pos x, if_pos (show (m : Int) < 256 by omega)]
  · rw [if_neg x, if_neg (show ¬ (m : Int) < 256 by omega)]
    by_cases y : m < 65536
    · rw [if_pos y, if_pos (show (m : Int) < 65536 by omega)]
    · rw [if_neg y, if_neg (show ¬ (m : Int) < 65536 by omega)]
theorem put_if2 (m : Nat) (a b : Int × Int) (n : UInt64) : Mp.put (if m < 65536 then a else b) n = Mp.put (if (m : Int) < 65536 then a else b) n := by
  refine congrArg (fun f => Mp.put f n) ?_
  by_cases y : m < 65536
  · rw [if_pos y, if_pos (show (m : Int) < 65536 by omega)]
  · rw [if_neg y, if_neg (show ¬ (m : Int) < 65536 by omega)]
theorem Mp.form_text (m : Nat) (h : m < 4294967296) : (if m < 32 then [UInt8.ofInt (160 + (m : Int))] else Mp.form 217 (UInt64.ofNat m) 1) = Mp.put (Mp.sized 4 m) (UInt64.ofNat m) := by
  rw [Mp.sized_text]
  by_cases a : m < 32
  · rw [if_pos a, if_pos (show (m : Int) < 32 by omega)]; rfl
  · rw [if_neg a, if_neg (show ¬ (m : Int) < 32 by omega), show (217 : UInt8) = UInt8.ofInt 217 from rfl, Mp.form1 217 (by omega) _ (by rw [u64_small h]; exact h), u64_small h]
    exact put_if3 m _ _ _ _
theorem Mp.form_bytes (m : Nat) (h : m < 4294967296) : Mp.form 196 (UInt64.ofNat m) 1 = Mp.put (Mp.sized 3 m) (UInt64.ofNat m) := by
  rw [Mp.sized_bytes _ (by omega), show (196 : UInt8) = UInt8.ofInt 196 from rfl, Mp.form1 196 (by omega) _ (by rw [u64_small h]; exact h), u64_small h]
  exact put_if3 m _ _ _ _
theorem Mp.form_list (m : Nat) (h : m < 4294967296) : (if m < 16 then [UInt8.ofInt (144 + (m : Int))] else Mp.form 220 (UInt64.ofNat m) 2) = Mp.put (Mp.sized 5 m) (UInt64.ofNat m) := by
  rw [Mp.sized_list]
  by_cases a : m < 16
  · rw [if_pos a, if_pos (show (m : Int) < 16 by omega)]; rfl
  · rw [if_neg a, if_neg (show ¬ (m : Int) < 16 by omega), Mp.form2 220 _ (by rw [u64_small h]; exact h) 220 rfl rfl rfl, u64_small h]
    exact put_if2 m _ _ _
theorem Mp.form_map (m : Nat) (h : m < 4294967296) : (if m < 16 then [UInt8.ofInt (128 + (m : Int))] else Mp.form 222 (UInt64.ofNat m) 2) = Mp.put (Mp.sized 6 m) (UInt64.ofNat m) := by
  rw [Mp.sized_map]
  by_cases a : m < 16
  · rw [if_pos a, if_pos (show (m : Int) < 16 by omega)]; rfl
  · rw [if_neg a, if_neg (show ¬ (m : Int) < 16 by omega), Mp.form2 222 _ (by rw [u64_small h]; exact h) 222 rfl rfl rfl, u64_small h]
    exact put_if2 m _ _ _
theorem Mp.form_ext (m : Nat) (t : UInt64) (h : m < 4294967296) : Mp.ext (UInt64.ofNat m) t = Mp.put (Mp.sized 10 m) (UInt64.ofNat m) ++ [t.toUInt8] := by
  have e : ∀ k : Nat, k < 17 → (UInt64.ofNat m = UInt64.ofNat k) = (m = k) := by
    intro k hk
    apply propext
    constructor
    · intro q
      have := congrArg UInt64.toNat q
      rwa [u64_small h, u64_small (by omega)] at this
    · rintro rfl; rfl
  have e1 := e 1 (by omega); have e2 := e 2 (by omega); have e4 := e 4 (by omega); have e8 := e 8 (by omega); have e16 := e 16 (by omega)
  unfold Mp.ext
  by_cases a : m = 1
  · subst a; rfl
  by_cases a2 : m = 2
  · subst a2; rfl
  by_cases a4 : m = 4
  · subst a4; rfl
  by_cases a8 : m = 8
  · subst a8; rfl
  by_cases a16 : m = 16
  · subst a16; rfl
  have n1 : ¬ UInt64.ofNat m = 1 := fun q => a (e1.mp q)
  have n2 : ¬ UInt64.ofNat m = 2 := fun q => a2 (e2.mp q)
  have n4 : ¬ UInt64.ofNat m = 4 := fun q => a4 (e4.mp q)
  have n8 : ¬ UInt64.ofNat m = 8 := fun q => a8 (e8.mp q)
  have n16 : ¬ UInt64.ofNat m = 16 := fun q => a16 (e16.mp q)
  rw [if_neg n1, if_neg n2, if_neg n4, if_neg n8, if_neg n16]
  congr 1
  rw [Mp.sized_ext _ (by omega) (by omega) (by omega) (by omega) (by omega) (by omega), show (199 : UInt8) = UInt8.ofInt 199 from rfl, Mp.form1 199 (by omega) _ (by rw [u64_small h]; exact h), u64_small h]
  exact put_if3 m _ _ _ _
theorem Mp.form_uint (n : UInt64) : (if n < 128 then [UInt8.ofInt (n.toNat : Int)] else Mp.form 204 n 1) = Mp.put (Mp.unsigned n) n := by
  unfold Mp.unsigned
  by_cases a : n < 128
  · rw [if_pos a, if_pos a]; rfl
  rw [if_neg a, if_neg a]
  unfold Mp.form
  have h1 : (n < 256) = (n.toNat < 256) := propext UInt64.lt_iff_toNat_lt
  have h2 : (n < 65536) = (n.toNat < 65536) := propext UInt64.lt_iff_toNat_lt
  have h3 : (n < 4294967296) = (n.toNat < 4294967296) := propext UInt64.lt_iff_toNat_lt
  simp only [h1, h2, h3]
  rcases Mp.wide_cases n with ⟨h, h'⟩ | ⟨h, h', h2⟩ | ⟨h, h', h2⟩ | ⟨h, h'⟩
  · rw [h, if_pos h']; rfl
  · rw [h, if_neg (by omega), if_pos h2]; rfl
  · rw [h, if_neg (by omega), if_neg (by omega), if_pos h2]; rfl
  · rw [h, if_neg (by omega), if_neg (by omega), if_neg (by omega)]; rfl
theorem ref29_head.goal (it : Itv) (hp : (decide (Itm.bulk (Itm.of it) ≤ 1099511627776) && decide (Mp.own (Itm.of it) = 0)) = true) : ref29_head.F it = some [.sl .bs (Mp.head (Itm.of it))] := by
  simp only [Bool.and_eq_true, decide_eq_true_eq] at hp
  obtain ⟨hb, ho⟩ := hp
  obtain ⟨p1, p2, p3, p4, p5, p6, p7, p8, p9, p10, p11, p12, p13, p14⟩ := Mp.own0 it ho
  obtain ⟨k, u, b, t, ks⟩ := it
  simp only at p1 p2 p3 p4 p5 p6 p7 p8 p9 p10 p11 p12 p13 p14
  refine ref29_head.F_in _ ?_
  intro v1 e1 v2 e2 v3 e3 v4 e4 v5 e5 v6 e6 v7 e7 v8 e8 v9 e9 v10 e10 v11 e11 v12 e12 v13 e13 v14 e14 v15 e15 v16 e16 v17 e17 v18 e18 v19 e19 v20 e20 v21 e21 v22 e22
  simp only at e1 e2 e3 e5 e7 e8 e12 e14 e22 ⊢
  have hk' : k = 1 ∨ k = 2 ∨ k = 3 ∨ k = 4 ∨ k = 5 ∨ k = 6 ∨ k = 8 ∨ k = 9 ∨ k = 10 := by omega
  have le1 : (decide ((1 : Int) ≤ 8)) = true := rfl
  have le2 : (decide ((2 : Int) ≤ 8)) = true := rfl
  have le8 : (decide ((0 : Int) ≤ 8 ∧ (8 : Int) ≤ 8)) = true := rfl
  rcases hk' with rfl | rfl | rfl | rfl | rfl | rfl | rfl | rfl | rfl
  all_goals simp only [Int.reduceEq, decide_true, decide_false, cond_true, cond_false, le1, le2, le8, ck_true, Bool.not_false, Itm.of, Mp.head, if_true, if_false]
  · rw [← Mp.form_uint, e1, e2]
    by_cases a : u < 128
    · rw [decide_eq_true a, if_pos a, cond_true]
    · rw [decide_eq_false a, if_neg a, cond_false]
  · rw [e3]
  · rw [e13, e12, u64_nat', Mp.form_bytes _ p10]
  · rw [← Mp.form_text _ p11]
    by_cases a : t.length < 32
    · rw [decide_eq_true (by omega), cond_true, if_pos a, e10, e9, e8, i64_in _ (by omega)]
    · rw [decide_eq_false (by omega), cond_false, if_neg a, e11, e8, u64_nat']
  · have q := p12 rfl
    rw [← Mp.form_list _ q]
    by_cases a : ks.length < 16
    · rw [decide_eq_true (by omega), cond_true, if_pos a, e16, e15, e14, i64_in _ (by omega)]
    · rw [decide_eq_false (by omega), cond_false, if_neg a, e17, e14, u64_nat']
  · have hks := Itm.bulk_kids ks
    rw [Itm.bulk_of] at hb
    simp only at hb
    have e18' : v18 = ((ks.length / 2 : Nat) : Int) := by rw [e18, e14, show Int.tdiv (ks.length : Int) 2 = ((ks.length / 2 : Nat) : Int) from rfl, i64_in _ (by omega)]
    rw [← Mp.form_map _ p13]
    by_cases a : ks.length < 32
    · rw [decide_eq_true (by omega), cond_true, if_pos (by omega), e20, e19, e18', i64_in _ (by omega)]
    · rw [decide_eq_false (by omega), cond_false, if_neg (by omega), e21, e18', u64_nat']
  · obtain ⟨q1, q2⟩ := p7 rfl
    have hu : u = 20 ∨ u = 21 ∨ u = 22 := by
      have a := UInt64.le_iff_toNat_le.1 q1
      have b := UInt64.le_iff_toNat_le.1 q2
      simp at a b
      have : u.toNat = 20 ∨ u.toNat = 21 ∨ u.toNat = 22 := by omega
      rcases this with h | h | h
      · exact .inl (UInt64.toNat_inj.1 h)
      · exact .inr (.inl (UInt64.toNat_inj.1 h))
      · exact .inr (.inr (UInt64.toNat_inj.1 h))
    rw [e5, e4]
    rcases hu with rfl | rfl | rfl <;> rfl
  · have l6 : v6.length = 1 := by rw [e6]; rfl
    have l7 : v7.length = 8 := by rw [e7, Cur.putHigh_len]; rfl
    rw [ck_of (big_ap (by omega) (by omega)), e6, e7]; rfl
  · rw [e22, e12, u64_nat', Mp.form_ext _ _ p10]
theorem ref29_lay.l1_ok (n : Nat) (it : Itv) (hb : 16 * Itm.bulks it.kids ≤ 1099511627776) (hn : Itm.bulks it.kids < n) : ∀ (m i : Nat) (acc : Str), i + m = it.kids.length → acc.length + 16 * Itm.bulks (it.kids.drop i) ≤ 2199023255552 → Mp.chks (it.kids.drop i) = 0 →
    ref29_lay.l1 n acc i it = some [.sl .bs (acc ++ Mp.lays (it.kids.drop i))] := by
  have hk := Itm.bulk_kids it.kids
  intro m
  induction m with
  | zero =>
    intro i acc hi _ _
    refine ref29_lay.l1_in _ _ _ _ ?_
    intro v1 e1 v2 e2 v3 e3
    rw [decide_eq_false (by omega), cond_false, List.drop_of_length_le (by omega), show Mp.lays [] = [] from rfl, List.append_nil]
  | succ m ih =>
    intro i acc hi ha hc
    refine ref29_lay.l1_in _ _ _ _ ?_
    intro v1 e1 v2 e2 v3 e3
    have hi' : i < it.kids.length := by omega
    have hb' := Itm.bulks_at it.kids i hi'
    have hd := Itm.bulks_drop it.kids i hi'
    rw [drop_cons hi' (STy.dflt .il)] at hc
    obtain ⟨c1, c2⟩ := Mp.chks_cons hc
    have hl := Mp.lay_len (it.kids.getD i (STy.dflt .il))
    rw [Int.toNat_natCast, Itm.of_val] at e2
    rw [decide_eq_true (by omega), cond_true, ck_of (idx_ok (by omega) (by omega)), Int.toNat_natCast, Itm.of_val, ck_of (by rw [decide_eq_true (by omega), decide_eq_true c1, decide_eq_true (by omega)]; rfl), ck_of (big_ap (by rw [e2]; omega) (by rw [e2]; omega)), show v3 = ((i + 1 : Nat) : Int) by rw [e3, i64_in _ (by omega)]; omega, ih _ _ (by omega) (by rw [e2, List.length_append]; omega) c2, e2, drop_cons hi' (STy.dflt .il), Mp.lays, List.append_assoc]
theorem ref29_lay.goal (n : Nat) (it : Itv) (hp : ((decide (16 * Itm.bulk (Itm.of it) ≤ 1099511627776) && decide (Mp.chk (Itm.of it) = 0)) && decide ((Itm.bulk (Itm.of it)) < n + 1)) = true) : ref29_lay.F n it = some [.sl .bs (Mp.lay (Itm.of it))] := by
  simp only [Bool.and_eq_true, decide_eq_true_eq] at hp
  obtain ⟨⟨hb, hc⟩, hn⟩ := hp
  obtain ⟨ho, hcs⟩ := Mp.chk0 it hc
  refine ref29_lay.F_in _ _ ?_
  intro v1 e1
  have hh := Mp.head_len (Itm.of it)
  rw [ck_of (by rw [decide_eq_true (by omega), decide_eq_true ho]; rfl)]
  rw [Itm.bulk_of] at hb hn
  rw [ck_of (big_ap (by omega) (by omega)), ck_of (big_ap (by rw [e1, List.length_append]; omega) (by rw [e1, List.length_append]; omega)), Mp.lay_of, e1]
  exact ref29_lay.l1_ok n it (by omega) (by omega) it.kids.length 0 _ (by omega) (by simp only [List.length_append]; show _ + 16 * Itm.bulks it.kids ≤ _; omega) hcs
theorem ref29_Encode.goal (it : Itv) (hp : decide (Itm.bulk (Itm.of it) ≤ 1073741824) = true) : ref29_Encode.F it = some [.sl .bs (Mp.enc (Itm.of it)), .i .i64 (Mp.chk (Itm.of it))] := by
  have h := of_decide_eq_true hp
  rw [ref29_Encode.F_eq, ck_of (decide_eq_true (by omega)), Mp.enc]
  by_cases a : Mp.chk (Itm.of it) = 0
  · rw [decide_eq_true a, Bool.not_true, cond_false, if_pos a, ck_of (by rw [decide_eq_true (by omega)]; rfl), a]
  · rw [decide_eq_false a, Bool.not_false, cond_true, if_neg a]
end Go.Eng
namespace Go.Eng
open Go.IntWalk
theorem Cur.be_snoc (l : Str) (y : UInt8) : Cur.be (l ++ [y]) = Cur.be l * 256 + y.toUInt64 := by
  rw [Cur.be, List.foldl_append]; rfl
theorem Cur.be_put : ∀ (n : Nat) (v : UInt64), n ≤ 8 → (Cur.be (Cur.putHigh v n)).toNat = v.toNat % 256 ^ n
  | 0, v, _ => by rw [Nat.pow_zero, Nat.mod_one]; rfl
  | n + 1, v, hn => by
    have ih := Cur.be_put n (v / 256) (by omega)
    have hp : 256 ^ n ≤ 256 ^ 7 := Nat.pow_le_pow_right (by omega) (by omega)
    have h1 : Cur.putHigh v (n + 1) = Cur.putHigh (v / 256) n ++ [v.toUInt8] := by rw [Cur.putHigh, Cur.putLow, List.reverse_cons]; rfl
    have hlt : (v / 256).toNat % 256 ^ n < 256 ^ n := Nat.mod_lt _ (Nat.pow_pos (by omega))
    rw [h1, Cur.be_snoc, UInt64.toNat_add, UInt64.toNat_mul, ih, UInt8.toNat_toUInt64, UInt64.toNat_toUInt8, show (256 : UInt64).toNat = 256 from rfl]
    rw [UInt64.toNat_div, show (256 : UInt64).toNat = 256 from rfl] at hlt ⊢
    have hm : v.toNat % 256 ^ (n + 1) = v.toNat % 256 + 256 * (v.toNat / 256 % 256 ^ n) := by rw [Nat.pow_succ, Nat.mul_comm (256 ^ n), Nat.mod_mul]
    have h8 : v.toNat % 2 ^ 8 = v.toNat % 256 := rfl
    rw [hm, h8]; omega
theorem ofInt_toNat (n : UInt64) : UInt64.ofInt (n.toNat : Int) = n := by
  apply UInt64.toNat_inj.1
  have := n.toNat_lt
  rw [u64_nat]; omega
theorem Mp.first_unsigned (n : UInt64) : Mp.first (Mp.unsigned n).1 = (1, if (Mp.unsigned n).2 = 0 then n else 0, (Mp.unsigned n).2) ∧ 0 ≤ (Mp.unsigned n).1 ∧ (Mp.unsigned n).1 ≤ 255 ∧ ((Mp.unsigned n).2 ≠ 0 → n.toNat < 256 ^ (Mp.unsigned n).2.toNat) := by
  unfold Mp.unsigned
  have hlt := n.toNat_lt
  by_cases a : n < 128
  · have h := UInt64.lt_iff_toNat_lt.1 a
    simp at h
    rw [if_pos a]
    refine ⟨?_, by show (0 : Int) ≤ _; omega, by show (n.toNat : Int) ≤ 255; omega, fun h => (h rfl).elim⟩
    show Mp.first (n.toNat : Int) = (1, n, 0)
    rw [Mp.first, if_pos (by omega), ofInt_toNat]
  rw [if_neg a]
  by_cases a : n < 256
  · have h := UInt64.lt_iff_toNat_lt.1 a
    rw [if_pos a]; exact ⟨rfl, by decide, by decide, fun _ => h⟩
  rw [if_neg a]
  by_cases a : n < 65536
  · have h := UInt64.lt_iff_toNat_lt.1 a
    rw [if_pos a]; exact ⟨rfl, by decide, by decide, fun _ => h⟩
  rw [if_neg a]
  by_cases a : n < 4294967296
  · have h := UInt64.lt_iff_toNat_lt.1 a
    rw [if_pos a]; exact ⟨rfl, by decide, by decide, fun _ => h⟩
  rw [if_neg a]; exact ⟨rfl, by decide, by decide, fun _ => hlt⟩
theorem Mp.first_signed (n : UInt64) : Mp.first (Mp.signed n).1 = (2, if (Mp.signed n).2 = 0 then n else 0, (Mp.signed n).2) ∧ 0 ≤ (Mp.signed n).1 ∧ (Mp.signed n).1 ≤ 255 ∧ ((Mp.signed n).2 = 1 ∧ n.toNat < 128 ∨ (Mp.signed n).2 = 2 ∧ n.toNat < 32768 ∨ (Mp.signed n).2 = 4 ∧ n.toNat < 2147483648 ∨ (Mp.signed n).2 = 8 ∨ (Mp.signed n).2 = 0 ∧ n.toNat < 32) := by
  unfold Mp.signed
  by_cases a : n < 32
  · have h := UInt64.lt_iff_toNat_lt.1 a
    simp at h
    rw [if_pos a]
    refine ⟨?_, by show (0 : Int) ≤ 255 - (n.toNat : Int); omega, by show 255 - (n.toNat : Int) ≤ 255; omega, .inr (.inr (.inr (.inr ⟨rfl, h⟩)))⟩
    show Mp.first (255 - (n.toNat : Int)) = (2, n, 0)
    rw [Mp.first, if_neg (by omega), if_neg (by omega), if_neg (by omega), if_neg (by omega), if_pos (by omega), show 255 - (255 - (n.toNat : Int)) = (n.toNat : Int) by omega, ofInt_toNat]
  rw [if_neg a]
  by_cases a : n < 128
  · have h := UInt64.lt_iff_toNat_lt.1 a
    rw [if_pos a]; exact ⟨rfl, by decide, by decide, .inl ⟨rfl, h⟩⟩
  rw [if_neg a]
  by_cases a : n < 32768
  · have h := UInt64.lt_iff_toNat_lt.1 a
    rw [if_pos a]; exact ⟨rfl, by decide, by decide, .inr (.inl ⟨rfl, h⟩)⟩
  rw [if_neg a]
  by_cases a : n < 2147483648
  · have h := UInt64.lt_iff_toNat_lt.1 a
    rw [if_pos a]; exact ⟨rfl, by decide, by decide, .inr (.inr (.inl ⟨rfl, h⟩))⟩
  rw [if_neg a]; exact ⟨rfl, by decide, by decide, .inr (.inr (.inr (.inl rfl)))⟩
theorem Mp.first_sized (k : Int) (hk : k = 3 ∨ k = 4 ∨ k = 5 ∨ k = 6 ∨ k = 10) (m : Nat) (h : m < 4294967296) :
    Mp.first (Mp.sized k m).1 = (k, if (Mp.sized k m).2 = 0 then UInt64.ofNat m else 0, (Mp.sized k m).2) ∧ 0 ≤ (Mp.sized k m).1 ∧ (Mp.sized k m).1 ≤ 255 ∧ ((Mp.sized k m).2 ≠ 0 → m < 256 ^ (Mp.sized k m).2.toNat) := by
  have big : ∀ (f1 f2 f4 : Int), Mp.first f1 = (k, 0, 1) → Mp.first f2 = (k, 0, 2) → Mp.first f4 = (k, 0, 4) → (0 ≤ f1 ∧ f1 ≤ 255) → (0 ≤ f2 ∧ f2 ≤ 255) → (0 ≤ f4 ∧ f4 ≤ 255) → ∀ S : Int × Int, S = (if (m : Int) < 256 then (f1, 1) else if (m : Int) < 65536 then (f2, 2) else (f4, 4)) →
      Mp.first S.1 = (k, if S.2 = 0 then UInt64.ofNat m else 0, S.2) ∧ 0 ≤ S.1 ∧ S.1 ≤ 255 ∧ (S.2 ≠ 0 → m < 256 ^ S.2.toNat) := by
    intro f1 f2 f4 h1 h2 h4 b1 b2 b4 S hS
    by_cases a : (m : Int) < 256
    · rw [if_pos a] at hS; subst hS; exact ⟨h1, b1.1, b1.2, fun _ => by show m < 256; omega⟩
    rw [if_neg a] at hS
    by_cases a : (m : Int) < 65536
    · rw [if_pos a] at hS; subst hS; exact ⟨h2, b2.1, b2.2, fun _ => by show m < 65536; omega⟩
    rw [if_neg a] at hS; subst hS; exact ⟨h4, b4.1, b4.2, fun _ => h⟩
  have big2 : ∀ (f2 f4 : Int), Mp.first f2 = (k, 0, 2) → Mp.first f4 = (k, 0, 4) → (0 ≤ f2 ∧ f2 ≤ 255) → (0 ≤ f4 ∧ f4 ≤ 255) → ∀ S : Int × Int, S = (if (m : Int) < 65536 then (f2, 2) else (f4, 4)) →
      Mp.first S.1 = (k, if S.2 = 0 then UInt64.ofNat m else 0, S.2) ∧ 0 ≤ S.1 ∧ S.1 ≤ 255 ∧ (S.2 ≠ 0 → m < 256 ^ S.2.toNat) := by
    intro f2 f4 h2 h4 b2 b4 S hS
    by_cases a : (m : Int) < 65536
    · rw [if_pos a] at hS; subst hS; exact ⟨h2, b2.1, b2.2, fun _ => by show m < 65536; omega⟩
    rw [if_neg a] at hS; subst hS; exact ⟨h4, b4.1, b4.2, fun _ => h⟩
  rcases hk with rfl | rfl | rfl | rfl | rfl
  · exact big 196 197 198 rfl rfl rfl (by omega) (by omega) (by omega) _ (Mp.sized_bytes _ (by omega))
  · by_cases a : (m : Int) < 32
    · rw [Mp.sized_text, if_pos a]
      refine ⟨?_, by show 0 ≤ 160 + (m : Int); omega, by show 160 + (m : Int) ≤ 255; omega, fun h => (h rfl).elim⟩
      show Mp.first (160 + (m : Int)) = (4, UInt64.ofNat m, 0)
      rw [Mp.first, if_neg (by omega), if_neg (by omega), if_neg (by omega), if_pos (by omega), show 160 + (m : Int) - 160 = m by omega, u64_nat']
    · exact big 217 218 219 rfl rfl rfl (by omega) (by omega) (by omega) _ (by rw [Mp.sized_text, if_neg a])
  · by_cases a : (m : Int) < 16
    · rw [Mp.sized_list, if_pos a]
      refine ⟨?_, by show 0 ≤ 144 + (m : Int); omega, by show 144 + (m : Int) ≤ 255; omega, fun h => (h rfl).elim⟩
      show Mp.first (144 + (m : Int)) = (5, UInt64.ofNat m, 0)
      rw [Mp.first, if_neg (by omega), if_neg (by omega), if_pos (by omega), show 144 + (m : Int) - 144 = m by omega, u64_nat']
    · exact big2 220 221 rfl rfl (by omega) (by omega) _ (by rw [Mp.sized_list, if_neg a])
  · by_cases a : (m : Int) < 16
    · rw [Mp.sized_map, if_pos a]
      refine ⟨?_, by show 0 ≤ 128 + (m : Int); omega, by show 128 + (m : Int) ≤ 255; omega, fun h => (h rfl).elim⟩
      show Mp.first (128 + (m : Int)) = (6, UInt64.ofNat m, 0)
      rw [Mp.first, if_neg (by omega), if_pos (by omega), show 128 + (m : Int) - 128 = m by omega, u64_nat']
    · exact big2 222 223 rfl rfl (by omega) (by omega) _ (by rw [Mp.sized_map, if_neg a])
  · by_cases a : m = 1 ∨ m = 2 ∨ m = 4 ∨ m = 8 ∨ m = 16
    · rcases a with rfl | rfl | rfl | rfl | rfl <;> exact ⟨rfl, by decide, by decide, fun h => (h rfl).elim⟩
    · exact big 199 200 201 rfl rfl rfl (by omega) (by omega) (by omega) _ (Mp.sized_ext _ (by omega) (by omega) (by omega) (by omega) (by omega) (by omega))
end Go.Eng
namespace Go.Eng
open Go.IntWalk
section
variable {c : UInt8} {L : Str} {u : UInt64} {k : Int} {n0 : UInt64} {long : Int}
structure Mp.Says (c : UInt8) (L : Str) (u : UInt64) (k : Int) (n0 : UInt64) (long : Int) : Prop where
  f : Mp.first (c.toNat : Int) = (k, n0, long)
  k0 : k ≠ 0
  l : L.length = long.toNat
  u : u = if long = 0 then n0 else Cur.be L
theorem Mp.Says.long' (h : Mp.Says c L u k n0 long) : long = 0 ∨ long = 1 ∨ long = 2 ∨ long = 4 ∨ long = 8 := by
  have := (Mp.first_kinds (c.toNat : Int) ⟨by omega, by have := c.toNat_lt; omega⟩).2.1
  rw [h.f] at this; exact this
end
end Go.Eng
namespace Go.Eng
open Go.IntWalk
section
variable {n : Nat} {b : Str} {p w d k q : Int} {u t : UInt64}
def Mp.body (b : Str) (f : Int → Mp.Got) (p k : Int) (u t : UInt64) (q : Int) : Mp.Got :=
  if k = 4 ∨ k = 3 ∨ k = 10 then Mp.row b (.mk k t [] [] []) p q u.toNat
  else if k = 6 then Mp.kids f (.mk k 0 [] [] []) (2 * u.toNat) q
  else if k = 5 then Mp.kids f (.mk k 0 [] [] []) u.toNat q
  else ⟨.mk k u [] [] [], 0, 0, q⟩
end
end Go.Eng
namespace Go.Eng
open Go.IntWalk
section
variable {c : UInt8} {L : Str} {u : UInt64} {k : Int} {n0 : UInt64} {long : Int}
theorem Mp.Says.kinds (h : Mp.Says c L u k n0 long) : (k = 1 ∨ k = 2 ∨ k = 3 ∨ k = 4 ∨ k = 5 ∨ k = 6 ∨ k = 8 ∨ k = 9 ∨ k = 10) ∧ (long = 8 → k = 1 ∨ k = 2 ∨ k = 9) ∧ (long = 0 → u.toNat ≤ 127) ∧ (k = 2 → long = 0 → u.toNat ≤ 31) := by
  have hc : 0 ≤ (c.toNat : Int) ∧ (c.toNat : Int) ≤ 255 := ⟨by omega, by have := c.toNat_lt; omega⟩
  obtain ⟨F1, _, F3, F4, F5⟩ := Mp.first_kinds _ hc
  rw [h.f] at F1 F3 F4 F5
  simp only at F1 F3 F4 F5
  have hk0 := h.k0
  refine ⟨by omega, F3, fun a => ?_, fun a b => ?_⟩
  · rw [h.u, if_pos a]; exact F4 a
  · rw [h.u, if_pos b]; exact F5 a b
theorem Mp.Says.u8 (h : Mp.Says c L u k n0 long) : long ≠ 0 → u.toNat < 256 ^ long.toNat := by
  intro a
  have hl := h.long'
  rw [h.u, if_neg a]
  exact Cur.be_bound L long.toNat h.l (by omega)
theorem Mp.Says.u32 (h : Mp.Says c L u k n0 long) (hk : k = 4 ∨ k = 3 ∨ k = 10 ∨ k = 5 ∨ k = 6) : u.toNat < 4294967296 := by
  obtain ⟨_, F3, F4, _⟩ := h.kinds
  by_cases a3 : long = 0
  · have := F4 a3; omega
  · have hq3 := h.u8 a3
    have h124 : long = 1 ∨ long = 2 ∨ long = 4 := by
      rcases h.long' with h | h | h | h | h
      · exact (a3 h).elim
      · exact .inl h
      · exact .inr (.inl h)
      · exact .inr (.inr h)
      · have := F3 h; omega
    clear F3 F4 hk a3
    rcases h124 with h | h | h
    · rw [h] at hq3; exact Nat.lt_trans hq3 (by decide)
    · rw [h] at hq3; exact Nat.lt_trans hq3 (by decide)
    · rw [h] at hq3; exact hq3
end
section
variable {n : Nat} {b : Str} {p w d k : Int} {u n0 : UInt64} {long : Int}
end
end Go.Eng
namespace Go.Eng
open Go.IntWalk
theorem book_Room.l1_ok (sizes : List Int) (hl : sizes.length ≤ 10) (hs : ∀ s ∈ sizes, 0 ≤ s) : ∀ (m i : Nat) (left : Int), i + m = sizes.length → left ≤ 10000 → book_Room.l1 left sizes i = some [.i .i64 (Book.room left (sizes.drop i))] := by
  intro m
  induction m with
  | zero =>
    intro i left hi hle
    refine book_Room.l1_in _ _ _ ?_
    intro v1 h1 v2 h2 v3 h3
    rw [decide_eq_false (by omega), cond_false, List.drop_of_length_le (by omega)]; rfl
  | succ m ih =>
    intro i left hi hle
    refine book_Room.l1_in _ _ _ ?_
    intro v1 h1 v2 h2 v3 h3
    rw [Int.toNat_natCast] at h1
    have h0 : 0 ≤ v1 := hs v1 (by rw [h1, List.getD_eq_getElem?_getD, List.getElem?_eq_getElem (show i < sizes.length by omega)]; simp)
    rw [decide_eq_true (by omega), cond_true, show idxOK (i : Int) sizes.length = true from idx_ok (by omega) (by omega), drop_cons (l := sizes) (i := i) (by omega) 0, ← h1, Book.room]
    simp only [Bool.and_self, Bool.and_true, Bool.not_or_self, Bool.or_not_self, ck_true]
    by_cases a : left < 0 ∨ left < v1
    · rw [if_pos a, show v2 = true by rw [h2]; by_cases b : left < 0 <;> simp [b]; omega]; rfl
    · rw [if_neg a, show v2 = false by rw [h2]; by_cases b : left < 0 <;> simp [b] <;> omega, cond_false, show v3 = ((i + 1 : Nat) : Int) by rw [h3, i64_in _ (by omega)]; omega, i64_in _ (by omega), ih _ _ (by omega) (by omega)]
theorem book_Room.goal (left : Int) (sizes : List Int) (hp : (decide (left ≤ 10000 ∧ sizes.length ≤ 10) && sizes.all (fun s => decide (0 ≤ s))) = true) : book_Room.F left sizes = some [.i .i64 (Book.room left sizes)] := by
  simp only [Bool.and_eq_true, decide_eq_true_eq, List.all_eq_true] at hp
  rw [book_Room.F_eq]
  exact book_Room.l1_ok sizes hp.1.2 hp.2 sizes.length 0 left (by omega) hp.1.1
theorem Itm.room3 (left a b c : Int) (ha : 0 ≤ a) (hb : 0 ≤ b) (hc : 0 ≤ c) (hl : left ≤ 10000) :
    Book.room left [a, b, c] ≤ 10000 ∧ (Book.room left [a, b, c] = -1 ∨ (Book.room left [a, b, c] = left - a - b - c ∧ 0 ≤ left - a - b - c)) := by
  simp only [Book.room]
  split
  · omega
  · split
    · omega
    · split <;> omega
mutual
theorem Itm.room_le : ∀ (it : Itm) (left : Int), left ≤ 10000 → Itm.room left it ≤ 10000 ∧ (0 ≤ Itm.room left it → (Itm.bulk it : Int) ≤ left - Itm.room left it)
  | .mk k n b t ks, left, hl => by
    have h1 := Itm.room3 left 2 t.length b.length (by omega) (by omega) (by omega) hl
    have h2 := Itm.rooms_le ks (Book.room left [2, (t.length : Int), (b.length : Int)]) h1.1
    simp only [Itm.room, Itm.bulk]
    refine ⟨h2.1, fun h0 => ?_⟩
    have h3 := h2.2 h0
    rcases h1.2 with e | ⟨e, e0⟩
    · omega
    · omega
theorem Itm.rooms_le : ∀ (ks : List Itm) (left : Int), left ≤ 10000 → Itm.rooms left ks ≤ 10000 ∧ (0 ≤ Itm.rooms left ks → 0 ≤ left ∧ (Itm.bulks ks : Int) ≤ left - Itm.rooms left ks)
  | [], left, hl => by simp only [Itm.rooms, Itm.bulks]; exact ⟨hl, fun h => ⟨h, by omega⟩⟩
  | k :: r, left, hl => by
    simp only [Itm.rooms, Itm.bulks]
    split
    · exact ⟨hl, fun h => by omega⟩
    · have h1 := Itm.room_le k left hl
      have h2 := Itm.rooms_le r (Itm.room left k) h1.1
      refine ⟨h2.1, fun h0 => ?_⟩
      have h3 := h2.2 h0
      have h4 := h1.2 h3.1
      exact ⟨by omega, by omega⟩
end
theorem Itm.small_bulk (it : Itm) (h : 0 ≤ Itm.room 1500 it) : Itm.bulk it ≤ 1500 := by
  have := (Itm.room_le it 1500 (by omega)).2 h; omega
theorem book_item.l1_ok (n : Nat) (it : Itv) (hn : Itm.bulks it.kids < n) : ∀ (m i : Nat) (left : Int), i + m = it.kids.length → left ≤ 10000 → (i : Int) + left ≤ 10000 → book_item.l1 n left i it = some [.i .i64 (Itm.rooms left (it.kids.drop i))] := by
  intro m
  induction m with
  | zero =>
    intro i left hi hl hil
    refine book_item.l1_in _ _ _ _ ?_
    intro v1 e1 v2 e2 v3 e3 v4 e4
    simp only [Bool.not_or_self, ck_true]
    rw [e2, decide_eq_false (by omega), cond_false, cond_false, List.drop_of_length_le (by omega)]; rfl
  | succ m ih =>
    intro i left hi hl hil
    refine book_item.l1_in _ _ _ _ ?_
    intro v1 e1 v2 e2 v3 e3 v4 e4
    simp only [Bool.not_or_self, ck_true]
    have hi' : i < it.kids.length := by omega
    have hb' := Itm.bulks_at it.kids i hi'
    rw [Int.toNat_natCast, Itm.of_val] at e3
    rw [e2, decide_eq_true (by omega), cond_true, drop_cons hi' (STy.dflt .il), Itm.rooms]
    by_cases a : left < 0
    · rw [decide_eq_false (by omega), cond_false, if_pos a]
    · rw [decide_eq_true (by omega), cond_true, if_neg a, ck_of (idx_ok (by omega) (by omega)), Int.toNat_natCast, Itm.of_val, ck_of (by rw [decide_eq_true hl, decide_eq_true (by omega)]; rfl), show v4 = ((i + 1 : Nat) : Int) by rw [e4, i64_in _ (by omega)]; omega, e3]
      have hr := Itm.room_le (it.kids.getD i (STy.dflt .il)) left hl
      have hp := Itm.bulk_pos (it.kids.getD i (STy.dflt .il))
      refine ih _ _ (by omega) hr.1 ?_
      by_cases z : 0 ≤ Itm.room left (it.kids.getD i (STy.dflt .il))
      · have := hr.2 z; omega
      · omega
theorem book_item.goal (n : Nat) (left : Int) (it : Itv) (hp : ((decide (left ≤ 10000)) && decide ((Itm.bulk (Itm.of it)) < n + 1)) = true) : book_item.F n left it = some [.i .i64 (Itm.room left (Itm.of it))] := by
  simp only [Bool.and_eq_true, decide_eq_true_eq] at hp
  obtain ⟨hl, hn⟩ := hp
  rw [Itm.bulk_of] at hn
  refine book_item.F_in _ _ _ ?_
  intro v1 e1 v2 e2 v3 e3
  have h3 := Itm.room3 left 2 it.text.length it.bytes.length (by omega) (by omega) (by omega) hl
  have c3 : (decide (left ≤ 10000 ∧ v3.length ≤ 10) && v3.all (fun s => decide (0 ≤ s))) = true := by
    rw [e3, e1, e2]; simp; omega
  rw [ck_of c3, e3, e1, e2]
  have := book_item.l1_ok n it (by omega) it.kids.length 0 (Book.room left [2, (it.text.length : Int), (it.bytes.length : Int)]) (by omega) h3.1 (by have := h3.1; omega)
  simp only [Itm.of, Itm.room]
  exact this
theorem book_SmallItem.goal (it : Itv) : book_SmallItem.F it = some [.b (decide (0 ≤ Itm.room 1500 (Itm.of it)))] := by
  refine book_SmallItem.F_in _ ?_
  intro v1 e1
  rw [ck_of (decide_eq_true (by omega)), e1]
theorem book_Place.goal (k n : Int) (hp : decide (1 ≤ n ∧ n ≤ 1099511627776) = true) : book_Place.F k n = some [.i .i64 (k % n)] := by
  have h := of_decide_eq_true hp
  refine book_Place.F_in _ _ ?_
  intro v1 e1
  have h1 := Int.tmod_lt_of_pos k (show 0 < n by omega)
  have h2 : -n < Int.tmod k n := by
    have := Int.tmod_lt_of_pos (-k) (show 0 < n by omega)
    rw [Int.neg_tmod] at this; omega
  have hv : v1 = Int.tmod k n + n := by rw [e1, i64_in _ (by omega)]
  rw [show (!decide (n = 0)) = true by simp; omega, ck_true, ck_true, hv]
  congr 3
  rw [Int.tmod_eq_emod_of_nonneg (by omega), Int.add_emod_right]
  have := Int.emod_emod_of_dvd k (Int.dvd_refl n)
  rw [Int.tmod_eq_emod]
  split
  · rw [show (((0 : Nat) : Int)) = 0 from rfl, Int.sub_zero]; exact Int.emod_emod_of_dvd _ (Int.dvd_refl _)
  · rw [show (n.natAbs : Int) = n by omega, Int.sub_emod, Int.emod_self, Int.sub_zero, Int.emod_emod_of_dvd _ (Int.dvd_refl _), Int.emod_emod_of_dvd _ (Int.dvd_refl _)]
theorem law29_awake.goal : law29_awake.F = some [.b true] := by
  refine law29_awake.F_in ?_
  intro v1 e1 v2 e2 v3 e3 v4 e4 v5 e5 v6 e6 v7 e7 v8 e8
  have c2 : v2 = 0 := by rw [e2]; decide +kernel
  have c1 : v1 = [208, 223] := by rw [e1]; decide +kernel
  have c5 : v5 = 3 := by rw [e5, e3]; decide +kernel
  have c7 : v7 = 0 := by rw [e7, e3]; decide +kernel
  simp only [Bool.not_or_self, ck_true]
  rw [ck_of (by decide +kernel), ck_of (by rw [e3]; rfl), e8, e6, e4, c2, c1, c5, c7]
  rfl
end Go.Eng
namespace Go.Eng
open Go.RowKit Go.Maps Go.Proofs
set_option maxRecDepth 100000
set_option maxHeartbeats 1000000
theorem wpList_insert_own {H : Type} {P : Program} (w : World) {ops : Array Oper} {rest : List Oper} {o : Oper} {a : Act} {Q : Exit → Act → World → Prop}
    (hg : o.guard = none) (m x v : Operand) (t : TypeId) (hop : o.op = Op.insert t m x v)
    (k e : TypeId) (K : Keyed P k) (ht : P.underlying t = some (.map k e)) (R : Value → Option (DataW H × List MemPlace)) (b n : Nat) (D : DataW H)
    (hm : a.eval m = .map (some b)) (hown : w.ownsMap P k R b n D) (hn : n < maxLen) (key val : Value) (kl : Lit) (hx : a.eval x = key) (hv : a.eval v = val) (hkey : keyOf P k key = some kl)
    (d : DataW H) (ps : List MemPlace) (hval : R val = some (d, ps))
    (hK : ∀ w', w'.ownsMap P k R b (n + 1) (D.put kl d) → w.grownBy w' (some b) → wpList P ops Q rest (a.put o.dst undef) w') :
    wpList P ops Q (o :: rest) a w := by
  refine wpList_plain hg fun K' hK' => ?_
  obtain ⟨w', hrun, r1, r2⟩ := hown.update K ht hn hkey hval
  unfold Oper.wp
  simp [execOp, hop, hm, hx, hv, hrun, Result.andThen]
  exact hK' _ _ (hK w' r1 r2)
theorem alloc_size (w : World) (o : Obj) : (w.alloc o).heap.size = w.heap.size + 1 := Array.size_push ..
theorem sz_l3 : Keyed Try.prog 3 := int_keyed Try.underlying3
theorem sz_z3 (w : World) : (zeroValue 3).run Try.prog w = .ok (.int .i64 0) w := by kernel_rfl
structure Sz (w w' : World) : Prop where
  b : w'.heap[w.heap.size]? = some (.cells #[.int .i64 0, .int .i64 0] 67)
  o : Below w.heap.size w w'
  s : w.heap.size + 1 ≤ w'.heap.size
theorem Sz.c0 {w w' : World} (h : Sz w w') : w'.cell? ⟨w.heap.size, 0, none⟩ = some (.int .i64 0) := by simp [World.cell?, h.b]
theorem Sz.c1 {w w' : World} (h : Sz w w') : w'.cell? ⟨w.heap.size, 1, none⟩ = some (.int .i64 0) := by simp [World.cell?, h.b]
theorem Sz.f {w w' : World} (h : Sz w w') (i : Nat) : w'.frozen? ⟨w.heap.size, i, none⟩ = false := by simp [World.frozen?, h.b]
theorem sz_start (w : World) : Sz w ((w.alloc (.cells #[.int .i64 0, .int .i64 0] 67)).alloc (.map #[] 0)) := by
  refine ⟨?_, ((Below.refl _ _).alloc (Nat.le_refl _) _).alloc (by rw [alloc_size]; omega) _, by rw [alloc_size, alloc_size]; omega⟩
  rw [Below.heap_alloc _ _ _ (by rw [alloc_size]; omega)]
  exact Array.getElem?_push_size
theorem sz_step {w w1 w2 : World} (h : Sz w w1) (hg : w1.grownBy w2 (some (w.heap.size + 1))) : Sz w w2 :=
  ⟨(hg.block _ (by have := h.s; omega) (by simp)).trans h.b, h.o.grown hg (by have := h.s; omega) (fun k e => by cases e; omega), Nat.le_trans h.s hg.size⟩
theorem sz_p (n : Int) (h : (Lit.int .i64 n).wf = true) : plainElem (H := Unit) Try.prog 3 (.int .i64 n) = some (.lit (.int .i64 n), []) := plainElem_int Try.underlying3 h
theorem sz_made (w : World) (o : Obj) : ((w.alloc o).alloc (.map #[] 0)).ownsMap Try.prog 3 (plainElem (H := Unit) Try.prog 3) (w.heap.size + 1) 0 (.map []) := by
  have := World.ownsMap_made (H := Unit) (w.alloc o) Try.prog 3 (plainElem Try.prog 3)
  rw [alloc_size] at this; exact this
theorem sz_res (tmps : Array Value) (W : World) (B : Nat) (x y : Int) (ht : tmps[4]?.getD undef = .pointer (some ⟨B,0,none⟩)) (hb : W.heap[B]? = some (.cells #[.int .i64 x, .int .i64 y] 67)) : (results Try.f41 tmps).run Try.prog W = .ok (.agg #[.int .i64 x, .int .i64 y]) W := by
  have c0 : W.cell? ⟨B, 0, none⟩ = some (.int .i64 x) := by simp [World.cell?, hb]
  have c1 : W.cell? ⟨B, 1, none⟩ = some (.int .i64 y) := by simp [World.cell?, hb]
  simp [results, Try.results41, go_sem, ht, c0, c1]
theorem sz_set {w3 : World} {B : Nat} {x y : Int} (hb : w3.heap[B]? = some (.cells #[.int .i64 0, .int .i64 0] 67)) : ((w3.setCell ⟨B, 0, none⟩ (.int .i64 x)).setCell ⟨B, 1, none⟩ (.int .i64 y)).heap[B]? = some (.cells #[.int .i64 x, .int .i64 y] 67) := by
  simp [World.setCell, Array.getElem?_modify, hb]
theorem sz_fin {a : Act} {Q : Ending → World → Prop} {W : World} {B : Nat} {x y : Int} (ht : a.tmps[4]?.getD undef = .pointer (some ⟨B, 0, none⟩)) (hd : a.defers = []) (hb : W.heap[B]? = some (.cells #[.int .i64 x, .int .i64 y] 67)) (hQ : Q (.returned (.agg #[.int .i64 x, .int .i64 y])) W) : bodyPost Try.prog Try.f41 Q .ret a W :=
  bodyPost_ret (sz_res a.tmps W B x y ht hb) hd hQ
theorem sz_one (w : World) (o : Obj) : (w.alloc o).heap[w.heap.size]? = some o := Array.getElem?_push_size
theorem sz_eq {a b : Int} {p : Int × Int} (h : (a, b) = p) : Ending.returned (.agg #[.int .i64 a, .int .i64 b]) = .returned (.agg #[.int .i64 p.1, .int .i64 p.2]) := by cases h; rfl
theorem sz_wrap {n : Int} (h0 : 0 ≤ n) (h1 : n < 4294967296) : wrap64 n = n := by simp only [wrap64]; omega
theorem szt0 {n : Int} (h : n < 32) : (160 + n, 0) = Mp.sized 4 n := by simp [Mp.sized, Mp.fixed, Mp.fix, Mp.tab, Mp.base]; omega
theorem szt1 {n : Int} (h : 32 ≤ n) (h2 : n < 256) : (217, 1) = Mp.sized 4 n := by simp [Mp.sized, Mp.fixed, Mp.fix, Mp.tab, Mp.base]; rw [if_neg (by omega), if_pos h2]
theorem szt2 {n : Int} (h : 256 ≤ n) (h2 : n < 65536) : (218, 2) = Mp.sized 4 n := by simp [Mp.sized, Mp.fixed, Mp.fix, Mp.tab, Mp.base]; rw [if_neg (by omega), if_neg (by omega), if_pos h2]
theorem szt3 {n : Int} (h : 65536 ≤ n) : (219, 4) = Mp.sized 4 n := by simp [Mp.sized, Mp.fixed, Mp.fix, Mp.tab, Mp.base]; rw [if_neg (by omega), if_neg (by omega), if_neg (by omega)]
theorem szb1 {n : Int} (h0 : 0 ≤ n) (h2 : n < 256) : (196, 1) = Mp.sized 3 n := by simp [Mp.sized, Mp.fixed, Mp.fix, Mp.tab, Mp.base]; rw [if_neg (by omega), if_pos h2]
theorem szb2 {n : Int} (h : 256 ≤ n) (h2 : n < 65536) : (197, 2) = Mp.sized 3 n := by simp [Mp.sized, Mp.fixed, Mp.fix, Mp.tab, Mp.base]; rw [if_neg (by omega), if_neg (by omega), if_pos h2]
theorem szb3 {n : Int} (h : 65536 ≤ n) : (198, 4) = Mp.sized 3 n := by simp [Mp.sized, Mp.fixed, Mp.fix, Mp.tab, Mp.base]; rw [if_neg (by omega), if_neg (by omega), if_neg (by omega)]
theorem sze1 {n : Int} (h : (n == 1) = true) : (212, 0) = Mp.sized 10 n := by rw [beq_iff_eq] at h; subst h; rfl
theorem sze2 {n : Int} (h : (n == 2) = true) : (213, 0) = Mp.sized 10 n := by rw [beq_iff_eq] at h; subst h; rfl
theorem sze4 {n : Int} (h : (n == 4) = true) : (214, 0) = Mp.sized 10 n := by rw [beq_iff_eq] at h; subst h; rfl
theorem sze8 {n : Int} (h : (n == 8) = true) : (215, 0) = Mp.sized 10 n := by rw [beq_iff_eq] at h; subst h; rfl
theorem sze16 {n : Int} (h : (n == 16) = true) : (216, 0) = Mp.sized 10 n := by rw [beq_iff_eq] at h; subst h; rfl
theorem szen {n a b : Int} (h0 : 0 ≤ n) (h1 : (n == 1) = false) (h2 : (n == 2) = false) (h3 : (n == 4) = false) (h4 : (n == 8) = false) (h5 : (n == 16) = false) (h : (n < 256 ∧ a = 199 ∧ b = 1) ∨ (256 ≤ n ∧ n < 65536 ∧ a = 200 ∧ b = 2) ∨ (65536 ≤ n ∧ a = 201 ∧ b = 4)) : (a, b) = Mp.sized 10 n := by
  simp at h1 h2 h3 h4 h5
  simp [Mp.sized, Mp.fixed, Mp.fix, Mp.tab, Mp.base, h1, h2, h3, h4, h5]
  rw [if_neg (by omega)]
  rcases h with ⟨h, rfl, rfl⟩ | ⟨h, h', rfl, rfl⟩ | ⟨h, rfl, rfl⟩
  · rw [if_pos h]
  · rw [if_neg (by omega), if_pos h']
  · rw [if_neg (by omega), if_neg (by omega)]
theorem szl50 {n : Int} (h : n < 16) : (144 + n, 0) = Mp.sized 5 n := by simp [Mp.sized, Mp.fixed, Mp.fix, Mp.tab, Mp.base]; omega
theorem szl51 {n : Int} (h : 16 ≤ n) (h2 : n < 65536) : (220, 2) = Mp.sized 5 n := by simp [Mp.sized, Mp.fixed, Mp.fix, Mp.tab, Mp.base]; rw [if_neg (by omega), if_pos h2]
theorem szl52 {n : Int} (h : 65536 ≤ n) : (221, 4) = Mp.sized 5 n := by simp [Mp.sized, Mp.fixed, Mp.fix, Mp.tab, Mp.base]; rw [if_neg (by omega), if_neg (by omega)]
theorem szl60 {n : Int} (h : n < 16) : (128 + n, 0) = Mp.sized 6 n := by simp [Mp.sized, Mp.fixed, Mp.fix, Mp.tab, Mp.base]; omega
theorem szl61 {n : Int} (h : 16 ≤ n) (h2 : n < 65536) : (222, 2) = Mp.sized 6 n := by simp [Mp.sized, Mp.fixed, Mp.fix, Mp.tab, Mp.base]; rw [if_neg (by omega), if_pos h2]
theorem szl62 {n : Int} (h : 65536 ≤ n) : (223, 4) = Mp.sized 6 n := by simp [Mp.sized, Mp.fixed, Mp.fix, Mp.tab, Mp.base]; rw [if_neg (by omega), if_neg (by omega)]
theorem sz_c4 {c : Int} (hat : ((((DataW.map []).put (Lit.int .i64 4) (DataW.lit (H := Unit) (Lit.int .i64 160))).put (Lit.int .i64 5) (DataW.lit (Lit.int .i64 144))).put (Lit.int .i64 6) (DataW.lit (Lit.int .i64 128))).atKey (Lit.int .i64 4) (DataW.lit (Lit.int .i64 0)) = DataW.lit (Lit.int .i64 c)) : c = 160 := by
  have e : ((((DataW.map []).put (Lit.int .i64 4) (DataW.lit (H := Unit) (Lit.int .i64 160))).put (Lit.int .i64 5) (DataW.lit (Lit.int .i64 144))).put (Lit.int .i64 6) (DataW.lit (Lit.int .i64 128))).atKey (Lit.int .i64 4) (DataW.lit (Lit.int .i64 0)) = DataW.lit (Lit.int .i64 160) := rfl
  rw [e] at hat; cases hat; rfl
theorem sz_c5 {c : Int} (hat : ((((DataW.map []).put (Lit.int .i64 4) (DataW.lit (H := Unit) (Lit.int .i64 160))).put (Lit.int .i64 5) (DataW.lit (Lit.int .i64 144))).put (Lit.int .i64 6) (DataW.lit (Lit.int .i64 128))).atKey (Lit.int .i64 5) (DataW.lit (Lit.int .i64 0)) = DataW.lit (Lit.int .i64 c)) : c = 144 := by
  have e : ((((DataW.map []).put (Lit.int .i64 4) (DataW.lit (H := Unit) (Lit.int .i64 160))).put (Lit.int .i64 5) (DataW.lit (Lit.int .i64 144))).put (Lit.int .i64 6) (DataW.lit (Lit.int .i64 128))).atKey (Lit.int .i64 5) (DataW.lit (Lit.int .i64 0)) = DataW.lit (Lit.int .i64 144) := rfl
  rw [e] at hat; cases hat; rfl
theorem sz_c6 {c : Int} (hat : ((((DataW.map []).put (Lit.int .i64 4) (DataW.lit (H := Unit) (Lit.int .i64 160))).put (Lit.int .i64 5) (DataW.lit (Lit.int .i64 144))).put (Lit.int .i64 6) (DataW.lit (Lit.int .i64 128))).atKey (Lit.int .i64 6) (DataW.lit (Lit.int .i64 0)) = DataW.lit (Lit.int .i64 c)) : c = 128 := by
  have e : ((((DataW.map []).put (Lit.int .i64 4) (DataW.lit (H := Unit) (Lit.int .i64 160))).put (Lit.int .i64 5) (DataW.lit (Lit.int .i64 144))).put (Lit.int .i64 6) (DataW.lit (Lit.int .i64 128))).atKey (Lit.int .i64 6) (DataW.lit (Lit.int .i64 0)) = DataW.lit (Lit.int .i64 128) := rfl
  rw [e] at hat; cases hat; rfl
theorem sz_text (n : Int) (hn0 : 0 ≤ n) (hn1 : n < 4294967296) (w : World) : Calls Try.prog 41 #[.int .i64 4, .int .i64 n] w fun e w' => e = .returned (.agg #[.int .i64 (Mp.sized 4 n).1, .int .i64 (Mp.sized 4 n).2]) ∧ Below w.heap.size w w' := by
  have hmm := @run_makeMap Try.prog
  go_enter Try.func41, Try.ntmps41
  go_wp2_with (first
      | (refine wpList_insert_own _ rfl (.tmp 34) (.const (.int .i64 4)) (.const (.int .i64 160)) 93 rfl 3 3 sz_l3 Try.underlying93 (plainElem (H := Unit) Try.prog 3) ?hb1 0 ?hD1 ?hm1 ?ho1 ?hn1 (.int .i64 4) (.int .i64 160) (.int .i64 4) ?hx1 ?hv1 ?hk1 (.lit (.int .i64 160)) [] ?hp1 ?hK1
         case hm1 => rfl
         case ho1 => exact sz_made w _
         case hn1 => unfold maxLen; omega
         case hx1 => rfl
         case hv1 => rfl
         case hk1 => exact keyOf_int_mk Try.underlying3 (by decide)
         case hp1 => exact sz_p _ (by decide)
         intro w1 ho1 hg1
         have hz1 := sz_step (sz_start w) hg1)
      | (refine wpList_insert_own _ rfl (.tmp 34) (.const (.int .i64 5)) (.const (.int .i64 144)) 93 rfl 3 3 sz_l3 Try.underlying93 (plainElem (H := Unit) Try.prog 3) ?hb2 1 ?hD2 ?hm2 ?ho2 ?hn2 (.int .i64 5) (.int .i64 144) (.int .i64 5) ?hx2 ?hv2 ?hk2 (.lit (.int .i64 144)) [] ?hp2 ?hK2
         case hm2 => rfl
         case ho2 => exact ho1
         case hn2 => unfold maxLen; omega
         case hx2 => rfl
         case hv2 => rfl
         case hk2 => exact keyOf_int_mk Try.underlying3 (by decide)
         case hp2 => exact sz_p _ (by decide)
         intro w2 ho2 hg2
         have hz2 := sz_step hz1 hg2)
      | (refine wpList_insert_own _ rfl (.tmp 34) (.const (.int .i64 6)) (.const (.int .i64 128)) 93 rfl 3 3 sz_l3 Try.underlying93 (plainElem (H := Unit) Try.prog 3) ?hb3 2 ?hD3 ?hm3 ?ho3 ?hn3 (.int .i64 6) (.int .i64 128) (.int .i64 6) ?hx3 ?hv3 ?hk3 (.lit (.int .i64 128)) [] ?hp3 ?hK3
         case hm3 => rfl
         case ho3 => exact ho2
         case hn3 => unfold maxLen; omega
         case hx3 => rfl
         case hv3 => rfl
         case hk3 => exact keyOf_int_mk Try.underlying3 (by decide)
         case hp3 => exact sz_p _ (by decide)
         intro w3 ho3 hg3
         have hz3 := sz_step hz2 hg3
         have c0 := hz3.c0
         have c1 := hz3.c1
         have f0 := hz3.f 0
         have f1 := hz3.f 1)
      | (at_lookup
         refine wpList_lookup_own_int (H := Unit) _ rfl (.tmp 35) (.tmp 36) 93 rfl 3 3 .i64 sz_l3 Try.underlying93 Try.underlying3 (sz_z3 _) ?hb4 3 ?hD4 ?hm4 ?ho4 (.int .i64 4) (.int .i64 4) ?hx4 ?hk4 ?hK4
         case hk4 => exact keyOf_int_mk Try.underlying3 (by decide)
         case hm4 => rfl
         case ho4 => exact ho3
         case hx4 => rfl
         intro c hat hwc)
      | go_in)
  all_goals clear hmm
  all_goals first | refine sz_fin rfl rfl (sz_one _ _) ⟨?_, (Below.refl _ _).alloc (Nat.le_refl _) _⟩ | refine sz_fin rfl rfl (sz_set hz3.b) ⟨?_, (hz3.o.setCell (Nat.le_refl _) _).setCell (Nat.le_refl _) _⟩
  · have hc : c = 160 := sz_c4 hat
    subst hc
    rw [sz_wrap (by omega) (by omega)]
    exact sz_eq (szt0 (by omega))
  · exact sz_eq (szt1 (by omega) (by omega))
  · exact sz_eq (szt2 (by omega) (by omega))
  · exact sz_eq (szt3 (by omega))
theorem sz_ext (n : Int) (hn0 : 0 ≤ n) (hn1 : n < 4294967296) (w : World) : Calls Try.prog 41 #[.int .i64 10, .int .i64 n] w fun e w' => e = .returned (.agg #[.int .i64 (Mp.sized 10 n).1, .int .i64 (Mp.sized 10 n).2]) ∧ Below w.heap.size w w' := by
  have hmm := @run_makeMap Try.prog
  go_enter Try.func41, Try.ntmps41
  go_wp2_with (first
      | (refine wpList_insert_own _ rfl (.tmp 34) (.const (.int .i64 4)) (.const (.int .i64 160)) 93 rfl 3 3 sz_l3 Try.underlying93 (plainElem (H := Unit) Try.prog 3) ?hb1 0 ?hD1 ?hm1 ?ho1 ?hn1 (.int .i64 4) (.int .i64 160) (.int .i64 4) ?hx1 ?hv1 ?hk1 (.lit (.int .i64 160)) [] ?hp1 ?hK1
         case hm1 => rfl
         case ho1 => exact sz_made w _
         case hn1 => unfold maxLen; omega
         case hx1 => rfl
         case hv1 => rfl
         case hk1 => exact keyOf_int_mk Try.underlying3 (by decide)
         case hp1 => exact sz_p _ (by decide)
         intro w1 ho1 hg1
         have hz1 := sz_step (sz_start w) hg1)
      | (refine wpList_insert_own _ rfl (.tmp 34) (.const (.int .i64 5)) (.const (.int .i64 144)) 93 rfl 3 3 sz_l3 Try.underlying93 (plainElem (H := Unit) Try.prog 3) ?hb2 1 ?hD2 ?hm2 ?ho2 ?hn2 (.int .i64 5) (.int .i64 144) (.int .i64 5) ?hx2 ?hv2 ?hk2 (.lit (.int .i64 144)) [] ?hp2 ?hK2
         case hm2 => rfl
         case ho2 => exact ho1
         case hn2 => unfold maxLen; omega
         case hx2 => rfl
         case hv2 => rfl
         case hk2 => exact keyOf_int_mk Try.underlying3 (by decide)
         case hp2 => exact sz_p _ (by decide)
         intro w2 ho2 hg2
         have hz2 := sz_step hz1 hg2)
      | (refine wpList_insert_own _ rfl (.tmp 34) (.const (.int .i64 6)) (.const (.int .i64 128)) 93 rfl 3 3 sz_l3 Try.underlying93 (plainElem (H := Unit) Try.prog 3) ?hb3 2 ?hD3 ?hm3 ?ho3 ?hn3 (.int .i64 6) (.int .i64 128) (.int .i64 6) ?hx3 ?hv3 ?hk3 (.lit (.int .i64 128)) [] ?hp3 ?hK3
         case hm3 => rfl
         case ho3 => exact ho2
         case hn3 => unfold maxLen; omega
         case hx3 => rfl
         case hv3 => rfl
         case hk3 => exact keyOf_int_mk Try.underlying3 (by decide)
         case hp3 => exact sz_p _ (by decide)
         intro w3 ho3 hg3
         have hz3 := sz_step hz2 hg3
         have c0 := hz3.c0
         have c1 := hz3.c1
         have f0 := hz3.f 0
         have f1 := hz3.f 1)
      | (at_lookup
         refine wpList_lookup_own_int (H := Unit) _ rfl (.tmp 35) (.tmp 36) 93 rfl 3 3 .i64 sz_l3 Try.underlying93 Try.underlying3 (sz_z3 _) ?hb4 3 ?hD4 ?hm4 ?ho4 (.int .i64 10) (.int .i64 10) ?hx4 ?hk4 ?hK4
         case hk4 => exact keyOf_int_mk Try.underlying3 (by decide)
         case hm4 => rfl
         case ho4 => exact ho3
         case hx4 => rfl
         intro c hat hwc)
      | go_in)
  refine wp_loop_rounds 6 ?_
  rw [rounds_succ]
  go_wp2
  all_goals try rw [rounds_succ]
  all_goals try go_wp2
  all_goals try rw [rounds_succ]
  all_goals try go_wp2
  all_goals try rw [rounds_succ]
  all_goals try go_wp2
  all_goals try rw [rounds_succ]
  all_goals try go_wp2
  all_goals try rw [rounds_succ]
  all_goals try go_wp2
  all_goals clear hmm
  all_goals first | refine sz_fin rfl rfl (sz_one _ _) ⟨?_, (Below.refl _ _).alloc (Nat.le_refl _) _⟩ | refine sz_fin rfl rfl (sz_set hz3.b) ⟨?_, (hz3.o.setCell (Nat.le_refl _) _).setCell (Nat.le_refl _) _⟩
  · exact sz_eq (sze1 ‹_›)
  · exact sz_eq (sze2 ‹_›)
  · exact sz_eq (sze4 ‹_›)
  · exact sz_eq (sze8 ‹_›)
  · exact sz_eq (sze16 ‹_›)
  · exact sz_eq (szen hn0 ‹(n == 1) = false› ‹(n == 2) = false› ‹(n == 4) = false› ‹(n == 8) = false› ‹(n == 16) = false› (by simp; omega))
  · exact sz_eq (szen hn0 ‹(n == 1) = false› ‹(n == 2) = false› ‹(n == 4) = false› ‹(n == 8) = false› ‹(n == 16) = false› (by simp; omega))
  · exact sz_eq (szen hn0 ‹(n == 1) = false› ‹(n == 2) = false› ‹(n == 4) = false› ‹(n == 8) = false› ‹(n == 16) = false› (by simp; omega))
theorem sz_bytes (n : Int) (hn0 : 0 ≤ n) (hn1 : n < 4294967296) (w : World) : Calls Try.prog 41 #[.int .i64 3, .int .i64 n] w fun e w' => e = .returned (.agg #[.int .i64 (Mp.sized 3 n).1, .int .i64 (Mp.sized 3 n).2]) ∧ Below w.heap.size w w' := by
  have hmm := @run_makeMap Try.prog
  go_enter Try.func41, Try.ntmps41
  go_wp2_with (first
      | (refine wpList_insert_own _ rfl (.tmp 34) (.const (.int .i64 4)) (.const (.int .i64 160)) 93 rfl 3 3 sz_l3 Try.underlying93 (plainElem (H := Unit) Try.prog 3) ?hb1 0 ?hD1 ?hm1 ?ho1 ?hn1 (.int .i64 4) (.int .i64 160) (.int .i64 4) ?hx1 ?hv1 ?hk1 (.lit (.int .i64 160)) [] ?hp1 ?hK1
         case hm1 => rfl
         case ho1 => exact sz_made w _
         case hn1 => unfold maxLen; omega
         case hx1 => rfl
         case hv1 => rfl
         case hk1 => exact keyOf_int_mk Try.underlying3 (by decide)
         case hp1 => exact sz_p _ (by decide)
         intro w1 ho1 hg1
         have hz1 := sz_step (sz_start w) hg1)
      | (refine wpList_insert_own _ rfl (.tmp 34) (.const (.int .i64 5)) (.const (.int .i64 144)) 93 rfl 3 3 sz_l3 Try.underlying93 (plainElem (H := Unit) Try.prog 3) ?hb2 1 ?hD2 ?hm2 ?ho2 ?hn2 (.int .i64 5) (.int .i64 144) (.int .i64 5) ?hx2 ?hv2 ?hk2 (.lit (.int .i64 144)) [] ?hp2 ?hK2
         case hm2 => rfl
         case ho2 => exact ho1
         case hn2 => unfold maxLen; omega
         case hx2 => rfl
         case hv2 => rfl
         case hk2 => exact keyOf_int_mk Try.underlying3 (by decide)
         case hp2 => exact sz_p _ (by decide)
         intro w2 ho2 hg2
         have hz2 := sz_step hz1 hg2)
      | (refine wpList_insert_own _ rfl (.tmp 34) (.const (.int .i64 6)) (.const (.int .i64 128)) 93 rfl 3 3 sz_l3 Try.underlying93 (plainElem (H := Unit) Try.prog 3) ?hb3 2 ?hD3 ?hm3 ?ho3 ?hn3 (.int .i64 6) (.int .i64 128) (.int .i64 6) ?hx3 ?hv3 ?hk3 (.lit (.int .i64 128)) [] ?hp3 ?hK3
         case hm3 => rfl
         case ho3 => exact ho2
         case hn3 => unfold maxLen; omega
         case hx3 => rfl
         case hv3 => rfl
         case hk3 => exact keyOf_int_mk Try.underlying3 (by decide)
         case hp3 => exact sz_p _ (by decide)
         intro w3 ho3 hg3
         have hz3 := sz_step hz2 hg3
         have c0 := hz3.c0
         have c1 := hz3.c1
         have f0 := hz3.f 0
         have f1 := hz3.f 1)
      | (at_lookup
         refine wpList_lookup_own_int (H := Unit) _ rfl (.tmp 35) (.tmp 36) 93 rfl 3 3 .i64 sz_l3 Try.underlying93 Try.underlying3 (sz_z3 _) ?hb4 3 ?hD4 ?hm4 ?ho4 (.int .i64 3) (.int .i64 3) ?hx4 ?hk4 ?hK4
         case hk4 => exact keyOf_int_mk Try.underlying3 (by decide)
         case hm4 => rfl
         case ho4 => exact ho3
         case hx4 => rfl
         intro c hat hwc)
      | go_in)
  all_goals clear hmm
  all_goals first | refine sz_fin rfl rfl (sz_one _ _) ⟨?_, (Below.refl _ _).alloc (Nat.le_refl _) _⟩ | refine sz_fin rfl rfl (sz_set hz3.b) ⟨?_, (hz3.o.setCell (Nat.le_refl _) _).setCell (Nat.le_refl _) _⟩
  · exact sz_eq (szb1 (by omega) (by omega))
  · exact sz_eq (szb2 (by omega) (by omega))
  · exact sz_eq (szb3 (by omega))
theorem sz_list (n : Int) (hn0 : 0 ≤ n) (hn1 : n < 4294967296) (w : World) : Calls Try.prog 41 #[.int .i64 5, .int .i64 n] w fun e w' => e = .returned (.agg #[.int .i64 (Mp.sized 5 n).1, .int .i64 (Mp.sized 5 n).2]) ∧ Below w.heap.size w w' := by
  have hmm := @run_makeMap Try.prog
  go_enter Try.func41, Try.ntmps41
  go_wp2_with (first
      | (refine wpList_insert_own _ rfl (.tmp 34) (.const (.int .i64 4)) (.const (.int .i64 160)) 93 rfl 3 3 sz_l3 Try.underlying93 (plainElem (H := Unit) Try.prog 3) ?hb1 0 ?hD1 ?hm1 ?ho1 ?hn1 (.int .i64 4) (.int .i64 160) (.int .i64 4) ?hx1 ?hv1 ?hk1 (.lit (.int .i64 160)) [] ?hp1 ?hK1
         case hm1 => rfl
         case ho1 => exact sz_made w _
         case hn1 => unfold maxLen; omega
         case hx1 => rfl
         case hv1 => rfl
         case hk1 => exact keyOf_int_mk Try.underlying3 (by decide)
         case hp1 => exact sz_p _ (by decide)
         intro w1 ho1 hg1
         have hz1 := sz_step (sz_start w) hg1)
      | (refine wpList_insert_own _ rfl (.tmp 34) (.const (.int .i64 5)) (.const (.int .i64 144)) 93 rfl 3 3 sz_l3 Try.underlying93 (plainElem (H := Unit) Try.prog 3) ?hb2 1 ?hD2 ?hm2 ?ho2 ?hn2 (.int .i64 5) (.int .i64 144) (.int .i64 5) ?hx2 ?hv2 ?hk2 (.lit (.int .i64 144)) [] ?hp2 ?hK2
         case hm2 => rfl
         case ho2 => exact ho1
         case hn2 => unfold maxLen; omega
         case hx2 => rfl
         case hv2 => rfl
         case hk2 => exact keyOf_int_mk Try.underlying3 (by decide)
         case hp2 => exact sz_p _ (by decide)
         intro w2 ho2 hg2
         have hz2 := sz_step hz1 hg2)
      | (refine wpList_insert_own _ rfl (.tmp 34) (.const (.int .i64 6)) (.const (.int .i64 128)) 93 rfl 3 3 sz_l3 Try.underlying93 (plainElem (H := Unit) Try.prog 3) ?hb3 2 ?hD3 ?hm3 ?ho3 ?hn3 (.int .i64 6) (.int .i64 128) (.int .i64 6) ?hx3 ?hv3 ?hk3 (.lit (.int .i64 128)) [] ?hp3 ?hK3
         case hm3 => rfl
         case ho3 => exact ho2
         case hn3 => unfold maxLen; omega
         case hx3 => rfl
         case hv3 => rfl
         case hk3 => exact keyOf_int_mk Try.underlying3 (by decide)
         case hp3 => exact sz_p _ (by decide)
         intro w3 ho3 hg3
         have hz3 := sz_step hz2 hg3
         have c0 := hz3.c0
         have c1 := hz3.c1
         have f0 := hz3.f 0
         have f1 := hz3.f 1)
      | (at_lookup
         refine wpList_lookup_own_int (H := Unit) _ rfl (.tmp 35) (.tmp 36) 93 rfl 3 3 .i64 sz_l3 Try.underlying93 Try.underlying3 (sz_z3 _) ?hb4 3 ?hD4 ?hm4 ?ho4 (.int .i64 5) (.int .i64 5) ?hx4 ?hk4 ?hK4
         case hk4 => exact keyOf_int_mk Try.underlying3 (by decide)
         case hm4 => rfl
         case ho4 => exact ho3
         case hx4 => rfl
         intro c hat hwc)
      | go_in)
  all_goals clear hmm
  all_goals first | refine sz_fin rfl rfl (sz_one _ _) ⟨?_, (Below.refl _ _).alloc (Nat.le_refl _) _⟩ | refine sz_fin rfl rfl (sz_set hz3.b) ⟨?_, (hz3.o.setCell (Nat.le_refl _) _).setCell (Nat.le_refl _) _⟩
  · have hc : c = 144 := sz_c5 hat
    subst hc
    rw [sz_wrap (by omega) (by omega)]
    exact sz_eq (szl50 (by omega))
  · exact sz_eq (szl51 (by omega) (by omega))
  · exact sz_eq (szl52 (by omega))
theorem sz_map (n : Int) (hn0 : 0 ≤ n) (hn1 : n < 4294967296) (w : World) : Calls Try.prog 41 #[.int .i64 6, .int .i64 n] w fun e w' => e = .returned (.agg #[.int .i64 (Mp.sized 6 n).1, .int .i64 (Mp.sized 6 n).2]) ∧ Below w.heap.size w w' := by
  have hmm := @run_makeMap Try.prog
  go_enter Try.func41, Try.ntmps41
  go_wp2_with (first
      | (refine wpList_insert_own _ rfl (.tmp 34) (.const (.int .i64 4)) (.const (.int .i64 160)) 93 rfl 3 3 sz_l3 Try.underlying93 (plainElem (H := Unit) Try.prog 3) ?hb1 0 ?hD1 ?hm1 ?ho1 ?hn1 (.int .i64 4) (.int .i64 160) (.int .i64 4) ?hx1 ?hv1 ?hk1 (.lit (.int .i64 160)) [] ?hp1 ?hK1
         case hm1 => rfl
         case ho1 => exact sz_made w _
         case hn1 => unfold maxLen; omega
         case hx1 => rfl
         case hv1 => rfl
         case hk1 => exact keyOf_int_mk Try.underlying3 (by decide)
         case hp1 => exact sz_p _ (by decide)
         intro w1 ho1 hg1
         have hz1 := sz_step (sz_start w) hg1)
      | (refine wpList_insert_own _ rfl (.tmp 34) (.const (.int .i64 5)) (.const (.int .i64 144)) 93 rfl 3 3 sz_l3 Try.underlying93 (plainElem (H := Unit) Try.prog 3) ?hb2 1 ?hD2 ?hm2 ?ho2 ?hn2 (.int .i64 5) (.int .i64 144) (.int .i64 5) ?hx2 ?hv2 ?hk2 (.lit (.int .i64 144)) [] ?hp2 ?hK2
         case hm2 => rfl
         case ho2 => exact ho1
         case hn2 => unfold maxLen; omega
         case hx2 => rfl
         case hv2 => rfl
         case hk2 => exact keyOf_int_mk Try.underlying3 (by decide)
         case hp2 => exact sz_p _ (by decide)
         intro w2 ho2 hg2
         have hz2 := sz_step hz1 hg2)
      | (refine wpList_insert_own _ rfl (.tmp 34) (.const (.int .i64 6)) (.const (.int .i64 128)) 93 rfl 3 3 sz_l3 Try.underlying93 (plainElem (H := Unit) Try.prog 3) ?hb3 2 ?hD3 ?hm3 ?ho3 ?hn3 (.int .i64 6) (.int .i64 128) (.int .i64 6) ?hx3 ?hv3 ?hk3 (.lit (.int .i64 128)) [] ?hp3 ?hK3
         case hm3 => rfl
         case ho3 => exact ho2
         case hn3 => unfold maxLen; omega
         case hx3 => rfl
         case hv3 => rfl
         case hk3 => exact keyOf_int_mk Try.underlying3 (by decide)
         case hp3 => exact sz_p _ (by decide)
         intro w3 ho3 hg3
         have hz3 := sz_step hz2 hg3
         have c0 := hz3.c0
         have c1 := hz3.c1
         have f0 := hz3.f 0
         have f1 := hz3.f 1)
      | (at_lookup
         refine wpList_lookup_own_int (H := Unit) _ rfl (.tmp 35) (.tmp 36) 93 rfl 3 3 .i64 sz_l3 Try.underlying93 Try.underlying3 (sz_z3 _) ?hb4 3 ?hD4 ?hm4 ?ho4 (.int .i64 6) (.int .i64 6) ?hx4 ?hk4 ?hK4
         case hk4 => exact keyOf_int_mk Try.underlying3 (by decide)
         case hm4 => rfl
         case ho4 => exact ho3
         case hx4 => rfl
         intro c hat hwc)
      | go_in)
  all_goals clear hmm
  all_goals first | refine sz_fin rfl rfl (sz_one _ _) ⟨?_, (Below.refl _ _).alloc (Nat.le_refl _) _⟩ | refine sz_fin rfl rfl (sz_set hz3.b) ⟨?_, (hz3.o.setCell (Nat.le_refl _) _).setCell (Nat.le_refl _) _⟩
  · have hc : c = 128 := sz_c6 hat
    subst hc
    rw [sz_wrap (by omega) (by omega)]
    exact sz_eq (szl60 (by omega))
  · exact sz_eq (szl61 (by omega) (by omega))
  · exact sz_eq (szl62 (by omega))
theorem mp_sized.ok : SpecOK Go.Proofs.Try.prog (fun n => (noGl n).av) 41 (Ctr.fs (mp_sized.c, mp_sized.sg)) := by
  refine spec_plain fun ti to_ w R xs hc ha hR hgl => ?_
  unfold mp_sized.c at hc
  split at hc
  · rename_i k n
    obtain ⟨hp, rfl⟩ := hc
    simp only [Bool.and_eq_true, decide_eq_true_eq, Mp.sizeds] at hp
    obtain ⟨hk, h0, h1⟩ := hp
    have hxs : xs = [.int .i64 k, .int .i64 n] := by
      have hq : RepT R w [.v (.int .i64 k), .v (.int .i64 n)] xs := ha
      clear ha
      cases hq with
      | cons a1 q1 => cases q1 with
        | cons a2 q2 => cases q2; cases a1; cases a2; rfl
    subst hxs
    have fin : ∀ {S : Int × Int}, Calls Go.Proofs.Try.prog 41 #[.int .i64 k, .int .i64 n] w (fun e w' => e = .returned (.agg #[.int .i64 S.1, .int .i64 S.2]) ∧ Below w.heap.size w w') →
        Calls Go.Proofs.Try.prog 41 ⟨[.int .i64 k, .int .i64 n]⟩ w fun e w' => ∃ x, e = .returned x ∧ Below w.heap.size w w' ∧ ∀ R w', RepT R w' ([(TV.ag [.i .i64 S.1, .i .i64 S.2])].map TV.av) [x] := by
      intro S h
      refine h.mono ?_
      rintro e w' ⟨rfl, hb⟩
      exact ⟨_, rfl, hb, fun R w' => .cons (.ag (.cons rfl (.v _) (.cons rfl (.v _) .nil))) .nil⟩
    rcases hk with rfl | rfl | rfl | rfl | rfl
    · exact fin (sz_bytes n h0 h1 w)
    · exact fin (sz_text n h0 h1 w)
    · exact fin (sz_list n h0 h1 w)
    · exact fin (sz_map n h0 h1 w)
    · exact fin (sz_ext n h0 h1 w)
  · exact hc.elim
end Go.Eng
