/- Printed by seatgen.py. -/
import Derived.Test.YtenbejbhjgkibaaHexaOK
set_option linter.unusedVariables false
set_option linter.unusedSimpArgs false
namespace Go.Eng
/-! ## propylon/propylonlaw3.HexaBack -/
def HexaBack.sg : FSig := {}
def HexaBack.c : Ctr := fun l => match l with
  | [.sl .bs b] => .ok [(.b (true))]
  | _ => .err
def HexaBack.env : List (Nat × (Ctr × FSig)) := [(7, (law3_awake.c, law3_awake.sg)), (8, (hexa_Bytes.c, hexa_Bytes.sg)), (10, (hexa_Text.c, hexa_Text.sg))]
def HexaBack.E : TEnv := envL noGl HexaBack.env
def HexaBack.m1 : TM := .reg [
    ⟨.k .mv, [.s 5], [23], none⟩,
    ⟨.k (.bin .add), [.s 23, .c (.i .i64 (1 : Int))], [24], none⟩,
    ⟨.k .mv, [.s 24], [5], none⟩]
def HexaBack.m2 : TM := .seq (.seq (.reg [
    ⟨.k .mv, [.s 5], [19], none⟩,
    ⟨.k .mv, [.s 4], [20], none⟩,
    ⟨.k (.pln 100), [.s 20, .s (lk 100)], [21], none⟩,
    ⟨.k (.bin .lss), [.s 19, .s 21], [22], none⟩]) none (.cond (.s 22) [] .skip (.exit 0))) none (.seq (.block 1 [(4, .tip 100 1), (lk 100, .pv 1)] (.seq (.reg [
    ⟨.k .mv, [.s 4], [25], none⟩,
    ⟨.k .mv, [.s 5], [26], none⟩,
    ⟨.k (.pix 100 1), [.s 25, .s 26, .s (lk 100)], [27], none⟩,
    ⟨.k (.pld 100 1 1 false), [.s 27, .s (lk 100)], [28], none⟩,
    ⟨.k (.bin .geq), [.s 28, .c (.u8 (97 : UInt8))], [29], none⟩,
    ⟨.k .mv, [.s 29], [30], none⟩,
    ⟨.k .mv, [.s 4], [31], some (30, true)⟩,
    ⟨.k .mv, [.s 5], [32], some (30, true)⟩,
    ⟨.k (.pix 100 1), [.s 31, .s 32, .s (lk 100)], [33], some (30, true)⟩,
    ⟨.k (.pld 100 1 1 false), [.s 33, .s (lk 100)], [34], some (30, true)⟩,
    ⟨.k (.bin .leq), [.s 34, .c (.u8 (102 : UInt8))], [35], some (30, true)⟩,
    ⟨.k .pick, [.s 30, .s 35, .c (.b false)], [36], none⟩]) none (.cond (.s 36) [(4, .tip 100 1), (lk 100, .pv 1)] (.reg [
    ⟨.k .mv, [.s 4], [37], none⟩,
    ⟨.k .mv, [.s 5], [38], none⟩,
    ⟨.k .mv, [.s 4], [39], none⟩,
    ⟨.k .mv, [.s 5], [40], none⟩,
    ⟨.k (.pix 100 1), [.s 39, .s 40, .s (lk 100)], [41], none⟩,
    ⟨.k (.pld 100 1 1 false), [.s 41, .s (lk 100)], [42], none⟩,
    ⟨.k (.bin .sub), [.s 42, .c (.u8 (32 : UInt8))], [43], none⟩,
    ⟨.k (.pix 100 1), [.s 37, .s 38, .s (lk 100)], [44], none⟩,
    ⟨.k (.pst 100 1 1), [.s 44, .s (lk 100), .s 43], [lk 100], none⟩]) .skip))) (some [0, 3, 4, 5, lk 100]) HexaBack.m1)
def HexaBack.m : TM := .seq (.reg [
    ⟨.k .mv, [.c (.b false)], [2], none⟩]) none (.seq (.seq (.reg [
    ⟨.k (.call 7 (.plain 0 1)), [], [10], none⟩,
    ⟨.k (.un .not), [.s 10], [11], none⟩]) none (.cond (.s 11) [] (.seq (.reg [
    ⟨.k .mv, [.c (.b false)], [2], none⟩]) none .ret) .skip)) none (.seq (.seq (.reg [
    ⟨.k .mv, [.s 0], [12], none⟩,
    ⟨.k .len, [.s 12], [13], none⟩,
    ⟨.k (.bin .gtr), [.s 13, .c (.i .i64 (500 : Int))], [14], none⟩]) none (.cond (.s 14) [] (.seq (.reg [
    ⟨.k .mv, [.c (.b true)], [2], none⟩]) none .ret) .skip)) none (.seq (.reg [
    ⟨.k .mv, [.s 0], [15], none⟩,
    ⟨.k (.call 10 (.plain 1 1)), [.s 15], [16], none⟩,
    ⟨.k .mv, [.s 16], [3], none⟩]) none (.seq (.reg [
    ⟨.k .mv, [.s 3], [17], none⟩,
    ⟨.k (.pss 100), [.s 17, .s (lk 100)], [18, lk 100], none⟩,
    ⟨.k .mv, [.s 18], [4], none⟩]) none (.seq (.seq (.reg [
    ⟨.k .mv, [.c (.i .i64 (0 : Int))], [5], none⟩]) none (.block 0 [(4, .tip 100 1), (lk 100, .pv 1)] (.loop [0, 3, 4, 5, lk 100] [(4, .tip 100 1), (lk 100, .pv 1)] HexaBack.m2))) none (.seq (.reg [
    ⟨.k .mv, [.s 3], [46], none⟩,
    ⟨.k (.call 8 (.plain 1 2)), [.s 46], [47], none⟩,
    ⟨.k .mv, [.s 47], [45], none⟩,
    ⟨.k (.ex 0), [.s 45], [48], none⟩,
    ⟨.k (.ex 1), [.s 45], [49], none⟩,
    ⟨.k .mv, [.s 48], [6], none⟩,
    ⟨.k .mv, [.s 49], [7], none⟩]) none (.seq (.reg [
    ⟨.k (.pfz 100 1), [.s 4, .s (lk 100)], [51, 4, lk 100], none⟩,
    ⟨.k .bs, [.s 51], [52], none⟩,
    ⟨.k (.call 8 (.plain 1 2)), [.s 52], [53], none⟩,
    ⟨.k .mv, [.s 53], [50], none⟩,
    ⟨.k (.ex 0), [.s 50], [54], none⟩,
    ⟨.k (.ex 1), [.s 50], [55], none⟩,
    ⟨.k .mv, [.s 54], [8], none⟩,
    ⟨.k .mv, [.s 55], [9], none⟩]) none (.seq (.reg [
    ⟨.k .mv, [.s 3], [56], none⟩,
    ⟨.k .lns, [.s 56], [57], none⟩,
    ⟨.k .mv, [.s 0], [58], none⟩,
    ⟨.k .len, [.s 58], [59], none⟩,
    ⟨.k (.bin .mul), [.c (.i .i64 (2 : Int)), .s 59], [60], none⟩,
    ⟨.k (.bin .eql), [.s 57, .s 60], [61], none⟩,
    ⟨.k .mv, [.s 61], [62], none⟩,
    ⟨.k .mv, [.s 7], [63], some (62, true)⟩,
    ⟨.k .pick, [.s 62, .s 63, .c (.b false)], [64], none⟩,
    ⟨.k .mv, [.s 64], [65], none⟩,
    ⟨.k .mv, [.s 9], [66], some (65, true)⟩,
    ⟨.k .pick, [.s 65, .s 66, .c (.b false)], [67], none⟩,
    ⟨.k .mv, [.s 67], [68], none⟩,
    ⟨.k .mv, [.s 6], [69], some (68, true)⟩,
    ⟨.k .bs, [.s 69], [70], some (68, true)⟩,
    ⟨.k .mv, [.s 0], [71], some (68, true)⟩,
    ⟨.k .bs, [.s 71], [72], some (68, true)⟩,
    ⟨.k (.bin .eql), [.s 70, .s 72], [73], some (68, true)⟩,
    ⟨.k .pick, [.s 68, .s 73, .c (.b false)], [74], none⟩,
    ⟨.k .mv, [.s 74], [75], none⟩,
    ⟨.k .mv, [.s 8], [76], some (75, true)⟩,
    ⟨.k .bs, [.s 76], [77], some (75, true)⟩,
    ⟨.k .mv, [.s 0], [78], some (75, true)⟩,
    ⟨.k .bs, [.s 78], [79], some (75, true)⟩,
    ⟨.k (.bin .eql), [.s 77, .s 79], [80], some (75, true)⟩,
    ⟨.k .pick, [.s 75, .s 80, .c (.b false)], [81], none⟩,
    ⟨.k .mv, [.s 81], [2], none⟩]) none .ret))))))))
def HexaBack.d : TFD := { np := 1, m := HexaBack.m, ref := none, tips := [], res := [.t 2], own := [], new := none, tnew := [] }
noncomputable def HexaBack.F (b : List UInt8) : Option (List TV) := HexaBack.d.run HexaBack.E [(.sl .bs b)]
noncomputable def HexaBack.k1 : Cont (List TV) := seqK (ev _ HexaBack.E (.seq (.reg [
    ⟨.k .mv, [.s 3], [46], none⟩,
    ⟨.k (.call 8 (.plain 1 2)), [.s 46], [47], none⟩,
    ⟨.k .mv, [.s 47], [45], none⟩,
    ⟨.k (.ex 0), [.s 45], [48], none⟩,
    ⟨.k (.ex 1), [.s 45], [49], none⟩,
    ⟨.k .mv, [.s 48], [6], none⟩,
    ⟨.k .mv, [.s 49], [7], none⟩]) none (.seq (.reg [
    ⟨.k (.pfz 100 1), [.s 4, .s (lk 100)], [51, 4, lk 100], none⟩,
    ⟨.k .bs, [.s 51], [52], none⟩,
    ⟨.k (.call 8 (.plain 1 2)), [.s 52], [53], none⟩,
    ⟨.k .mv, [.s 53], [50], none⟩,
    ⟨.k (.ex 0), [.s 50], [54], none⟩,
    ⟨.k (.ex 1), [.s 50], [55], none⟩,
    ⟨.k .mv, [.s 54], [8], none⟩,
    ⟨.k .mv, [.s 55], [9], none⟩]) none (.seq (.reg [
    ⟨.k .mv, [.s 3], [56], none⟩,
    ⟨.k .lns, [.s 56], [57], none⟩,
    ⟨.k .mv, [.s 0], [58], none⟩,
    ⟨.k .len, [.s 58], [59], none⟩,
    ⟨.k (.bin .mul), [.c (.i .i64 (2 : Int)), .s 59], [60], none⟩,
    ⟨.k (.bin .eql), [.s 57, .s 60], [61], none⟩,
    ⟨.k .mv, [.s 61], [62], none⟩,
    ⟨.k .mv, [.s 7], [63], some (62, true)⟩,
    ⟨.k .pick, [.s 62, .s 63, .c (.b false)], [64], none⟩,
    ⟨.k .mv, [.s 64], [65], none⟩,
    ⟨.k .mv, [.s 9], [66], some (65, true)⟩,
    ⟨.k .pick, [.s 65, .s 66, .c (.b false)], [67], none⟩,
    ⟨.k .mv, [.s 67], [68], none⟩,
    ⟨.k .mv, [.s 6], [69], some (68, true)⟩,
    ⟨.k .bs, [.s 69], [70], some (68, true)⟩,
    ⟨.k .mv, [.s 0], [71], some (68, true)⟩,
    ⟨.k .bs, [.s 71], [72], some (68, true)⟩,
    ⟨.k (.bin .eql), [.s 70, .s 72], [73], some (68, true)⟩,
    ⟨.k .pick, [.s 68, .s 73, .c (.b false)], [74], none⟩,
    ⟨.k .mv, [.s 74], [75], none⟩,
    ⟨.k .mv, [.s 8], [76], some (75, true)⟩,
    ⟨.k .bs, [.s 76], [77], some (75, true)⟩,
    ⟨.k .mv, [.s 0], [78], some (75, true)⟩,
    ⟨.k .bs, [.s 78], [79], some (75, true)⟩,
    ⟨.k (.bin .eql), [.s 77, .s 79], [80], some (75, true)⟩,
    ⟨.k .pick, [.s 75, .s 80, .c (.b false)], [81], none⟩,
    ⟨.k .mv, [.s 81], [2], none⟩]) none .ret)))) none (endK HexaBack.d)
noncomputable def HexaBack.k2 : Cont (List TV) := againK (evO _ HexaBack.E HexaBack.m2) isN [0, 3, 4, 5, lk 100] (blockK 0 HexaBack.k1)
noncomputable def HexaBack.l1 (x0 : List UInt8) (x1 : Str) (x2 : Int) (x3 : List UInt8) : Option (List TV) := loopL (evO _ HexaBack.E HexaBack.m2) isN [0, 3, 4, 5, lk 100] (headT [0, 3, 4, 5, lk 100] [(.sl .bs x0), (.s x1), .pt, (.i .i64 x2), (.sl .bs x3)]) (blockK 0 HexaBack.k1)
noncomputable def HexaBack.j2 (x0 : List UInt8) (x1 : Str) (x2 : Int) (x3 : List UInt8) : Option (List TV) := evO _ HexaBack.E HexaBack.m1 (headT [0, 3, 4, 5, lk 100] [(.sl .bs x0), (.s x1), .pt, (.i .i64 x2), (.sl .bs x3)]) HexaBack.k2
theorem HexaBack.l1_eq (x0 : List UInt8) (x1 : Str) (x2 : Int) (x3 : List UInt8) : HexaBack.l1 x0 x1 x2 x3 = cond (decide (x2 < ((x3).length : Int)))
    (ck (idxOK x2 (x3).length) (ck (decide ((x2).toNat < (x3).length)) (ck (!(decide ((97 : UInt8) ≤ (List.getD x3 ((x2).toNat) (0 : UInt8)))) || (((decide ((97 : UInt8) ≤ (List.getD x3 ((x2).toNat) (0 : UInt8)))) && (decide ((97 : UInt8) ≤ (List.getD x3 ((x2).toNat) (0 : UInt8))))) && (idxOK x2 (x3).length))) (ck (!(decide ((97 : UInt8) ≤ (List.getD x3 ((x2).toNat) (0 : UInt8)))) || ((decide ((97 : UInt8) ≤ (List.getD x3 ((x2).toNat) (0 : UInt8)))) && (decide ((x2).toNat < (x3).length)))) (ck (!(decide ((97 : UInt8) ≤ (List.getD x3 ((x2).toNat) (0 : UInt8)))) || (decide ((97 : UInt8) ≤ (List.getD x3 ((x2).toNat) (0 : UInt8))))) (ck (!(decide ((97 : UInt8) ≤ (List.getD x3 ((x2).toNat) (0 : UInt8)))) || (decide ((97 : UInt8) ≤ (List.getD x3 ((x2).toNat) (0 : UInt8))))) (cond (cond (decide ((97 : UInt8) ≤ (List.getD x3 ((x2).toNat) (0 : UInt8)))) (decide ((List.getD x3 ((x2).toNat) (0 : UInt8)) ≤ (102 : UInt8))) false)
    (ck (idxOK x2 (x3).length) (ck (decide ((x2).toNat < (x3).length)) (ck (idxOK x2 (x3).length) (ck (decide ((x2).toNat < (x3).length)) (HexaBack.j2 x0 x1 x2 (List.set x3 ((x2).toNat) ((List.getD x3 ((x2).toNat) (0 : UInt8)) - (32 : UInt8))))))))
    (HexaBack.j2 x0 x1 x2 x3))))))))
    (ck (decide (x1.length ≤ 1099511627776)) (ck (decide (x3.length ≤ 1099511627776)) (ck (!(decide (((x1).length : Int) = (IntKind.i64.wrap ((2 : Int) * ((x0).length : Int))))) || (decide (((x1).length : Int) = (IntKind.i64.wrap ((2 : Int) * ((x0).length : Int)))))) (ck (!(cond (decide (((x1).length : Int) = (IntKind.i64.wrap ((2 : Int) * ((x0).length : Int))))) ((Hexa.bytes x1).isSome) false) || (cond (decide (((x1).length : Int) = (IntKind.i64.wrap ((2 : Int) * ((x0).length : Int))))) ((Hexa.bytes x1).isSome) false)) (ck (!(cond (cond (decide (((x1).length : Int) = (IntKind.i64.wrap ((2 : Int) * ((x0).length : Int))))) ((Hexa.bytes x1).isSome) false) ((Hexa.bytes x3).isSome) false) || (cond (cond (decide (((x1).length : Int) = (IntKind.i64.wrap ((2 : Int) * ((x0).length : Int))))) ((Hexa.bytes x1).isSome) false) ((Hexa.bytes x3).isSome) false)) (ck (!(cond (cond (decide (((x1).length : Int) = (IntKind.i64.wrap ((2 : Int) * ((x0).length : Int))))) ((Hexa.bytes x1).isSome) false) ((Hexa.bytes x3).isSome) false) || (cond (cond (decide (((x1).length : Int) = (IntKind.i64.wrap ((2 : Int) * ((x0).length : Int))))) ((Hexa.bytes x1).isSome) false) ((Hexa.bytes x3).isSome) false)) (ck (!(cond (cond (decide (((x1).length : Int) = (IntKind.i64.wrap ((2 : Int) * ((x0).length : Int))))) ((Hexa.bytes x1).isSome) false) ((Hexa.bytes x3).isSome) false) || ((cond (cond (decide (((x1).length : Int) = (IntKind.i64.wrap ((2 : Int) * ((x0).length : Int))))) ((Hexa.bytes x1).isSome) false) ((Hexa.bytes x3).isSome) false) && (cond (cond (decide (((x1).length : Int) = (IntKind.i64.wrap ((2 : Int) * ((x0).length : Int))))) ((Hexa.bytes x1).isSome) false) ((Hexa.bytes x3).isSome) false))) (ck (!(cond (cond (decide (((x1).length : Int) = (IntKind.i64.wrap ((2 : Int) * ((x0).length : Int))))) ((Hexa.bytes x1).isSome) false) ((Hexa.bytes x3).isSome) false) || (cond (cond (decide (((x1).length : Int) = (IntKind.i64.wrap ((2 : Int) * ((x0).length : Int))))) ((Hexa.bytes x1).isSome) false) ((Hexa.bytes x3).isSome) false)) (ck (!(cond (cond (cond (decide (((x1).length : Int) = (IntKind.i64.wrap ((2 : Int) * ((x0).length : Int))))) ((Hexa.bytes x1).isSome) false) ((Hexa.bytes x3).isSome) false) (decide (((Hexa.bytes x1).getD []) = x0)) false) || (cond (cond (cond (decide (((x1).length : Int) = (IntKind.i64.wrap ((2 : Int) * ((x0).length : Int))))) ((Hexa.bytes x1).isSome) false) ((Hexa.bytes x3).isSome) false) (decide (((Hexa.bytes x1).getD []) = x0)) false)) (ck (!(cond (cond (cond (decide (((x1).length : Int) = (IntKind.i64.wrap ((2 : Int) * ((x0).length : Int))))) ((Hexa.bytes x1).isSome) false) ((Hexa.bytes x3).isSome) false) (decide (((Hexa.bytes x1).getD []) = x0)) false) || (cond (cond (cond (decide (((x1).length : Int) = (IntKind.i64.wrap ((2 : Int) * ((x0).length : Int))))) ((Hexa.bytes x1).isSome) false) ((Hexa.bytes x3).isSome) false) (decide (((Hexa.bytes x1).getD []) = x0)) false)) (ck (!(cond (cond (cond (decide (((x1).length : Int) = (IntKind.i64.wrap ((2 : Int) * ((x0).length : Int))))) ((Hexa.bytes x1).isSome) false) ((Hexa.bytes x3).isSome) false) (decide (((Hexa.bytes x1).getD []) = x0)) false) || ((cond (cond (cond (decide (((x1).length : Int) = (IntKind.i64.wrap ((2 : Int) * ((x0).length : Int))))) ((Hexa.bytes x1).isSome) false) ((Hexa.bytes x3).isSome) false) (decide (((Hexa.bytes x1).getD []) = x0)) false) && (cond (cond (cond (decide (((x1).length : Int) = (IntKind.i64.wrap ((2 : Int) * ((x0).length : Int))))) ((Hexa.bytes x1).isSome) false) ((Hexa.bytes x3).isSome) false) (decide (((Hexa.bytes x1).getD []) = x0)) false))) (ck (!(cond (cond (cond (decide (((x1).length : Int) = (IntKind.i64.wrap ((2 : Int) * ((x0).length : Int))))) ((Hexa.bytes x1).isSome) false) ((Hexa.bytes x3).isSome) false) (decide (((Hexa.bytes x1).getD []) = x0)) false) || (cond (cond (cond (decide (((x1).length : Int) = (IntKind.i64.wrap ((2 : Int) * ((x0).length : Int))))) ((Hexa.bytes x1).isSome) false) ((Hexa.bytes x3).isSome) false) (decide (((Hexa.bytes x1).getD []) = x0)) false)) (some [(.b (cond (cond (cond (cond (decide (((x1).length : Int) = (IntKind.i64.wrap ((2 : Int) * ((x0).length : Int))))) ((Hexa.bytes x1).isSome) false) ((Hexa.bytes x3).isSome) false) (decide (((Hexa.bytes x1).getD []) = x0)) false) (decide (((Hexa.bytes x3).getD []) = x0)) false))]))))))))))))) := (ev_loop _ _ _ _ _ _).trans (by kernel_rfl)
theorem HexaBack.j2_eq (x0 : List UInt8) (x1 : Str) (x2 : Int) (x3 : List UInt8) : HexaBack.j2 x0 x1 x2 x3 = HexaBack.l1 x0 x1 (IntKind.i64.wrap (x2 + (1 : Int))) x3 := (congrFun (congrFun (ev_eq _ _) _) _).trans (by kernel_rfl)
theorem HexaBack.F_eq (b : List UInt8) : HexaBack.F b = cond (!(true))
    (some [(.b false)])
    (cond (decide ((500 : Int) < ((b).length : Int)))
    (some [(.b true)])
    (ck (decide (b.length ≤ 1099511627776)) (ck (lenOK ((Hexa.text b)).length) (HexaBack.l1 b (Hexa.text b) (0 : Int) (Hexa.text b))))) := by kernel_rfl
theorem HexaBack.chk : ((Go.Proofs.Try.prog.funcs[4]?).any fun fn => chkF Go.Proofs.Try.prog (fun n => ((envL noGl HexaBack.env).fs n).2) fn HexaBack.d.erase) = true := by kernel_rfl
/-! ## propylon/propylonlaw3.HexaSpoilt -/
def HexaSpoilt.sg : FSig := {}
def HexaSpoilt.c : Ctr := fun l => match l with
  | [.sl .bs b, .i .i64 at_, .u8 by_] => .ok [(.b (true))]
  | _ => .err
def HexaSpoilt.env : List (Nat × (Ctr × FSig)) := [(7, (law3_awake.c, law3_awake.sg)), (8, (hexa_Bytes.c, hexa_Bytes.sg)), (10, (hexa_Text.c, hexa_Text.sg))]
def HexaSpoilt.E : TEnv := envL noGl HexaSpoilt.env
def HexaSpoilt.m : TM := .seq (.reg [
    ⟨.k .mv, [.c (.b false)], [6], none⟩]) none (.seq (.seq (.reg [
    ⟨.k (.call 7 (.plain 0 1)), [], [13], none⟩,
    ⟨.k (.un .not), [.s 13], [14], none⟩]) none (.cond (.s 14) [] (.seq (.reg [
    ⟨.k .mv, [.c (.b false)], [6], none⟩]) none .ret) .skip)) none (.seq (.seq (.reg [
    ⟨.k .mv, [.s 0], [15], none⟩,
    ⟨.k .len, [.s 15], [16], none⟩,
    ⟨.k (.bin .lss), [.s 16, .c (.i .i64 (1 : Int))], [17], none⟩,
    ⟨.k .mv, [.s 17], [18], none⟩,
    ⟨.k .mv, [.s 0], [19], some (18, false)⟩,
    ⟨.k .len, [.s 19], [20], some (18, false)⟩,
    ⟨.k (.bin .gtr), [.s 20, .c (.i .i64 (500 : Int))], [21], some (18, false)⟩,
    ⟨.k .pick, [.s 18, .c (.b true), .s 21], [22], none⟩,
    ⟨.k .mv, [.s 22], [23], none⟩,
    ⟨.k .mv, [.s 1], [24], some (23, false)⟩,
    ⟨.k (.bin .lss), [.s 24, .c (.i .i64 (0 : Int))], [25], some (23, false)⟩,
    ⟨.k .pick, [.s 23, .c (.b true), .s 25], [26], none⟩,
    ⟨.k .mv, [.s 26], [27], none⟩,
    ⟨.k .mv, [.s 1], [28], some (27, false)⟩,
    ⟨.k .mv, [.s 0], [29], some (27, false)⟩,
    ⟨.k .len, [.s 29], [30], some (27, false)⟩,
    ⟨.k (.bin .mul), [.c (.i .i64 (2 : Int)), .s 30], [31], some (27, false)⟩,
    ⟨.k (.bin .geq), [.s 28, .s 31], [32], some (27, false)⟩,
    ⟨.k .pick, [.s 27, .c (.b true), .s 32], [33], none⟩]) none (.cond (.s 33) [] (.seq (.reg [
    ⟨.k .mv, [.c (.b true)], [6], none⟩]) none .ret) .skip)) none (.seq (.reg [
    ⟨.k .mv, [.s 0], [34], none⟩,
    ⟨.k (.call 10 (.plain 1 1)), [.s 34], [35], none⟩,
    ⟨.k (.pss 100), [.s 35, .s (lk 100)], [36, lk 100], none⟩,
    ⟨.k .mv, [.s 36], [7], none⟩]) none (.seq (.seq (.reg [
    ⟨.k .mv, [.s 7], [37], none⟩,
    ⟨.k (.pln 100), [.s 37, .s (lk 100)], [38], none⟩,
    ⟨.k .mv, [.s 0], [39], none⟩,
    ⟨.k .len, [.s 39], [40], none⟩,
    ⟨.k (.bin .mul), [.c (.i .i64 (2 : Int)), .s 40], [41], none⟩,
    ⟨.k (.bin .neq), [.s 38, .s 41], [42], none⟩]) none (.cond (.s 42) [] (.seq (.reg [
    ⟨.k .mv, [.c (.b false)], [6], none⟩]) none .ret) .skip)) none (.seq (.reg [
    ⟨.k .mv, [.s 7], [43], none⟩,
    ⟨.k .mv, [.s 1], [44], none⟩,
    ⟨.k .mv, [.s 2], [45], none⟩,
    ⟨.k (.pix 100 1), [.s 43, .s 44, .s (lk 100)], [46], none⟩,
    ⟨.k (.pst 100 1 1), [.s 46, .s (lk 100), .s 45], [lk 100], none⟩]) none (.seq (.reg [
    ⟨.k .mv, [.s 2], [47], none⟩,
    ⟨.k (.bin .geq), [.s 47, .c (.u8 (48 : UInt8))], [48], none⟩,
    ⟨.k .mv, [.s 48], [49], none⟩,
    ⟨.k .mv, [.s 2], [50], some (49, true)⟩,
    ⟨.k (.bin .leq), [.s 50, .c (.u8 (57 : UInt8))], [51], some (49, true)⟩,
    ⟨.k .pick, [.s 49, .s 51, .c (.b false)], [52], none⟩,
    ⟨.k .mv, [.s 52], [53], none⟩,
    ⟨.k .mv, [.s 2], [54], some (53, false)⟩,
    ⟨.k (.bin .geq), [.s 54, .c (.u8 (97 : UInt8))], [55], some (53, false)⟩,
    ⟨.k .mv, [.s 55], [56], some (53, false)⟩,
    ⟨.k .mv, [.s 2], [57], some (56, true)⟩,
    ⟨.k (.bin .leq), [.s 57, .c (.u8 (102 : UInt8))], [58], some (56, true)⟩,
    ⟨.k .pick, [.s 56, .s 58, .c (.b false)], [59], some (53, false)⟩,
    ⟨.k .pick, [.s 53, .c (.b true), .s 59], [60], none⟩,
    ⟨.k .mv, [.s 60], [61], none⟩,
    ⟨.k .mv, [.s 2], [62], some (61, false)⟩,
    ⟨.k (.bin .geq), [.s 62, .c (.u8 (65 : UInt8))], [63], some (61, false)⟩,
    ⟨.k .mv, [.s 63], [64], some (61, false)⟩,
    ⟨.k .mv, [.s 2], [65], some (64, true)⟩,
    ⟨.k (.bin .leq), [.s 65, .c (.u8 (70 : UInt8))], [66], some (64, true)⟩,
    ⟨.k .pick, [.s 64, .s 66, .c (.b false)], [67], some (61, false)⟩,
    ⟨.k .pick, [.s 61, .c (.b true), .s 67], [68], none⟩,
    ⟨.k .mv, [.s 68], [8], none⟩]) none (.seq (.reg [
    ⟨.k (.pfz 100 1), [.s 7, .s (lk 100)], [70, 7, lk 100], none⟩,
    ⟨.k .bs, [.s 70], [71], none⟩,
    ⟨.k (.call 8 (.plain 1 2)), [.s 71], [72], none⟩,
    ⟨.k .mv, [.s 72], [69], none⟩,
    ⟨.k (.ex 0), [.s 69], [73], none⟩,
    ⟨.k (.ex 1), [.s 69], [74], none⟩,
    ⟨.k .mv, [.s 73], [9], none⟩,
    ⟨.k .mv, [.s 74], [10], none⟩]) none (.seq (.reg [
    ⟨.k .mv, [.s 7], [76], none⟩,
    ⟨.k .bs, [.s 76], [77], none⟩,
    ⟨.k (.bin .add), [.s 77, .c (.s ([48] : Str))], [78], none⟩,
    ⟨.k (.call 8 (.plain 1 2)), [.s 78], [79], none⟩,
    ⟨.k .mv, [.s 79], [75], none⟩,
    ⟨.k (.ex 0), [.s 75], [80], none⟩,
    ⟨.k (.ex 1), [.s 75], [81], none⟩,
    ⟨.k .mv, [.s 80], [11], none⟩,
    ⟨.k .mv, [.s 81], [12], none⟩]) none (.seq (.reg [
    ⟨.k .mv, [.s 10], [82], none⟩,
    ⟨.k .mv, [.s 8], [83], none⟩,
    ⟨.k (.be false), [.s 82, .s 83], [84], none⟩,
    ⟨.k .mv, [.s 84], [85], none⟩,
    ⟨.k .mv, [.s 12], [86], some (85, true)⟩,
    ⟨.k (.un .not), [.s 86], [87], some (85, true)⟩,
    ⟨.k .pick, [.s 85, .s 87, .c (.b false)], [88], none⟩,
    ⟨.k .mv, [.s 88], [89], none⟩,
    ⟨.k .mv, [.s 10], [90], some (89, true)⟩,
    ⟨.k .mv, [.s 90], [91], some (89, true)⟩,
    ⟨.k .mv, [.s 9], [92], some (91, false)⟩,
    ⟨.k .len, [.s 92], [93], some (91, false)⟩,
    ⟨.k (.bin .eql), [.s 93, .c (.i .i64 (0 : Int))], [94], some (91, false)⟩,
    ⟨.k .pick, [.s 91, .c (.b true), .s 94], [95], some (89, true)⟩,
    ⟨.k .pick, [.s 89, .s 95, .c (.b false)], [96], none⟩,
    ⟨.k .mv, [.s 96], [6], none⟩]) none .ret)))))))))
def HexaSpoilt.d : TFD := { np := 3, m := HexaSpoilt.m, ref := none, tips := [], res := [.t 6], own := [], new := none, tnew := [] }
noncomputable def HexaSpoilt.F (b : List UInt8) (at_ : Int) (by_ : UInt8) : Option (List TV) := HexaSpoilt.d.run HexaSpoilt.E [(.sl .bs b), (.i .i64 at_), (.u8 by_)]
theorem HexaSpoilt.F_eq (b : List UInt8) (at_ : Int) (by_ : UInt8) : HexaSpoilt.F b at_ by_ = cond (!(true))
    (some [(.b false)])
    (ck (!(!(decide (((b).length : Int) < (1 : Int)))) || (!(decide (((b).length : Int) < (1 : Int))))) (ck (!(!(decide (((b).length : Int) < (1 : Int)))) || (!(decide (((b).length : Int) < (1 : Int))))) (ck ((decide (((b).length : Int) < (1 : Int))) || (!(decide (((b).length : Int) < (1 : Int))))) (ck (!(!(cond (decide (((b).length : Int) < (1 : Int))) true (decide ((500 : Int) < ((b).length : Int))))) || (!(cond (decide (((b).length : Int) < (1 : Int))) true (decide ((500 : Int) < ((b).length : Int)))))) (ck ((cond (decide (((b).length : Int) < (1 : Int))) true (decide ((500 : Int) < ((b).length : Int)))) || (!(cond (decide (((b).length : Int) < (1 : Int))) true (decide ((500 : Int) < ((b).length : Int)))))) (ck (!(!(cond (cond (decide (((b).length : Int) < (1 : Int))) true (decide ((500 : Int) < ((b).length : Int)))) true (decide (at_ < (0 : Int))))) || (!(cond (cond (decide (((b).length : Int) < (1 : Int))) true (decide ((500 : Int) < ((b).length : Int)))) true (decide (at_ < (0 : Int)))))) (ck (!(!(cond (cond (decide (((b).length : Int) < (1 : Int))) true (decide ((500 : Int) < ((b).length : Int)))) true (decide (at_ < (0 : Int))))) || (!(cond (cond (decide (((b).length : Int) < (1 : Int))) true (decide ((500 : Int) < ((b).length : Int)))) true (decide (at_ < (0 : Int)))))) (ck (!(!(cond (cond (decide (((b).length : Int) < (1 : Int))) true (decide ((500 : Int) < ((b).length : Int)))) true (decide (at_ < (0 : Int))))) || ((!(cond (cond (decide (((b).length : Int) < (1 : Int))) true (decide ((500 : Int) < ((b).length : Int)))) true (decide (at_ < (0 : Int))))) && (!(cond (cond (decide (((b).length : Int) < (1 : Int))) true (decide ((500 : Int) < ((b).length : Int)))) true (decide (at_ < (0 : Int))))))) (ck ((cond (cond (decide (((b).length : Int) < (1 : Int))) true (decide ((500 : Int) < ((b).length : Int)))) true (decide (at_ < (0 : Int)))) || (!(cond (cond (decide (((b).length : Int) < (1 : Int))) true (decide ((500 : Int) < ((b).length : Int)))) true (decide (at_ < (0 : Int)))))) (cond (cond (cond (cond (decide (((b).length : Int) < (1 : Int))) true (decide ((500 : Int) < ((b).length : Int)))) true (decide (at_ < (0 : Int)))) true (decide ((IntKind.i64.wrap ((2 : Int) * ((b).length : Int))) ≤ at_)))
    (some [(.b true)])
    (ck (decide (b.length ≤ 1099511627776)) (ck (lenOK ((Hexa.text b)).length) (cond (!decide ((((Hexa.text b)).length : Int) = (IntKind.i64.wrap ((2 : Int) * ((b).length : Int)))))
    (some [(.b false)])
    (ck (idxOK at_ ((Hexa.text b)).length) (ck (decide ((at_).toNat < ((Hexa.text b)).length)) (ck (!(decide ((48 : UInt8) ≤ by_)) || (decide ((48 : UInt8) ≤ by_))) (ck (!(decide ((48 : UInt8) ≤ by_)) || (decide ((48 : UInt8) ≤ by_))) (ck (!(!(cond (decide ((48 : UInt8) ≤ by_)) (decide (by_ ≤ (57 : UInt8))) false)) || (!(cond (decide ((48 : UInt8) ≤ by_)) (decide (by_ ≤ (57 : UInt8))) false))) (ck (!(!(cond (decide ((48 : UInt8) ≤ by_)) (decide (by_ ≤ (57 : UInt8))) false)) || (!(cond (decide ((48 : UInt8) ≤ by_)) (decide (by_ ≤ (57 : UInt8))) false))) (ck (!((!(cond (decide ((48 : UInt8) ≤ by_)) (decide (by_ ≤ (57 : UInt8))) false)) && (decide ((97 : UInt8) ≤ by_))) || ((!(cond (decide ((48 : UInt8) ≤ by_)) (decide (by_ ≤ (57 : UInt8))) false)) && (decide ((97 : UInt8) ≤ by_)))) (ck (!(!(cond (decide ((48 : UInt8) ≤ by_)) (decide (by_ ≤ (57 : UInt8))) false)) || ((!(cond (decide ((48 : UInt8) ≤ by_)) (decide (by_ ≤ (57 : UInt8))) false)) && (!(decide ((97 : UInt8) ≤ by_)) || ((!(cond (decide ((48 : UInt8) ≤ by_)) (decide (by_ ≤ (57 : UInt8))) false)) && (decide ((97 : UInt8) ≤ by_)))))) (ck ((cond (decide ((48 : UInt8) ≤ by_)) (decide (by_ ≤ (57 : UInt8))) false) || (!(cond (decide ((48 : UInt8) ≤ by_)) (decide (by_ ≤ (57 : UInt8))) false))) (ck (!(!(cond (cond (decide ((48 : UInt8) ≤ by_)) (decide (by_ ≤ (57 : UInt8))) false) true (cond (decide ((97 : UInt8) ≤ by_)) (decide (by_ ≤ (102 : UInt8))) false))) || (!(cond (cond (decide ((48 : UInt8) ≤ by_)) (decide (by_ ≤ (57 : UInt8))) false) true (cond (decide ((97 : UInt8) ≤ by_)) (decide (by_ ≤ (102 : UInt8))) false)))) (ck (!(!(cond (cond (decide ((48 : UInt8) ≤ by_)) (decide (by_ ≤ (57 : UInt8))) false) true (cond (decide ((97 : UInt8) ≤ by_)) (decide (by_ ≤ (102 : UInt8))) false))) || (!(cond (cond (decide ((48 : UInt8) ≤ by_)) (decide (by_ ≤ (57 : UInt8))) false) true (cond (decide ((97 : UInt8) ≤ by_)) (decide (by_ ≤ (102 : UInt8))) false)))) (ck (!((!(cond (cond (decide ((48 : UInt8) ≤ by_)) (decide (by_ ≤ (57 : UInt8))) false) true (cond (decide ((97 : UInt8) ≤ by_)) (decide (by_ ≤ (102 : UInt8))) false))) && (decide ((65 : UInt8) ≤ by_))) || ((!(cond (cond (decide ((48 : UInt8) ≤ by_)) (decide (by_ ≤ (57 : UInt8))) false) true (cond (decide ((97 : UInt8) ≤ by_)) (decide (by_ ≤ (102 : UInt8))) false))) && (decide ((65 : UInt8) ≤ by_)))) (ck (!(!(cond (cond (decide ((48 : UInt8) ≤ by_)) (decide (by_ ≤ (57 : UInt8))) false) true (cond (decide ((97 : UInt8) ≤ by_)) (decide (by_ ≤ (102 : UInt8))) false))) || ((!(cond (cond (decide ((48 : UInt8) ≤ by_)) (decide (by_ ≤ (57 : UInt8))) false) true (cond (decide ((97 : UInt8) ≤ by_)) (decide (by_ ≤ (102 : UInt8))) false))) && (!(decide ((65 : UInt8) ≤ by_)) || ((!(cond (cond (decide ((48 : UInt8) ≤ by_)) (decide (by_ ≤ (57 : UInt8))) false) true (cond (decide ((97 : UInt8) ≤ by_)) (decide (by_ ≤ (102 : UInt8))) false))) && (decide ((65 : UInt8) ≤ by_)))))) (ck ((cond (cond (decide ((48 : UInt8) ≤ by_)) (decide (by_ ≤ (57 : UInt8))) false) true (cond (decide ((97 : UInt8) ≤ by_)) (decide (by_ ≤ (102 : UInt8))) false)) || (!(cond (cond (decide ((48 : UInt8) ≤ by_)) (decide (by_ ≤ (57 : UInt8))) false) true (cond (decide ((97 : UInt8) ≤ by_)) (decide (by_ ≤ (102 : UInt8))) false)))) (ck (decide (((List.set (Hexa.text b) ((at_).toNat) by_)).length ≤ 1099511627776)) (ck (decide (((List.set (Hexa.text b) ((at_).toNat) by_)).length + (([48] : Str)).length ≤ 9223372036854775807)) (ck (decide ((((List.set (Hexa.text b) ((at_).toNat) by_) ++ ([48] : Str))).length ≤ 1099511627776)) (ck (!(((Hexa.bytes ((List.set (Hexa.text b) ((at_).toNat) by_))).isSome) == (cond (cond (cond (decide ((48 : UInt8) ≤ by_)) (decide (by_ ≤ (57 : UInt8))) false) true (cond (decide ((97 : UInt8) ≤ by_)) (decide (by_ ≤ (102 : UInt8))) false)) true (cond (decide ((65 : UInt8) ≤ by_)) (decide (by_ ≤ (70 : UInt8))) false))) || (((Hexa.bytes ((List.set (Hexa.text b) ((at_).toNat) by_))).isSome) == (cond (cond (cond (decide ((48 : UInt8) ≤ by_)) (decide (by_ ≤ (57 : UInt8))) false) true (cond (decide ((97 : UInt8) ≤ by_)) (decide (by_ ≤ (102 : UInt8))) false)) true (cond (decide ((65 : UInt8) ≤ by_)) (decide (by_ ≤ (70 : UInt8))) false)))) (ck (!(((Hexa.bytes ((List.set (Hexa.text b) ((at_).toNat) by_))).isSome) == (cond (cond (cond (decide ((48 : UInt8) ≤ by_)) (decide (by_ ≤ (57 : UInt8))) false) true (cond (decide ((97 : UInt8) ≤ by_)) (decide (by_ ≤ (102 : UInt8))) false)) true (cond (decide ((65 : UInt8) ≤ by_)) (decide (by_ ≤ (70 : UInt8))) false))) || (((Hexa.bytes ((List.set (Hexa.text b) ((at_).toNat) by_))).isSome) == (cond (cond (cond (decide ((48 : UInt8) ≤ by_)) (decide (by_ ≤ (57 : UInt8))) false) true (cond (decide ((97 : UInt8) ≤ by_)) (decide (by_ ≤ (102 : UInt8))) false)) true (cond (decide ((65 : UInt8) ≤ by_)) (decide (by_ ≤ (70 : UInt8))) false)))) (ck (!(cond (((Hexa.bytes ((List.set (Hexa.text b) ((at_).toNat) by_))).isSome) == (cond (cond (cond (decide ((48 : UInt8) ≤ by_)) (decide (by_ ≤ (57 : UInt8))) false) true (cond (decide ((97 : UInt8) ≤ by_)) (decide (by_ ≤ (102 : UInt8))) false)) true (cond (decide ((65 : UInt8) ≤ by_)) (decide (by_ ≤ (70 : UInt8))) false))) (!((Hexa.bytes (((List.set (Hexa.text b) ((at_).toNat) by_) ++ ([48] : Str)))).isSome)) false) || (cond (((Hexa.bytes ((List.set (Hexa.text b) ((at_).toNat) by_))).isSome) == (cond (cond (cond (decide ((48 : UInt8) ≤ by_)) (decide (by_ ≤ (57 : UInt8))) false) true (cond (decide ((97 : UInt8) ≤ by_)) (decide (by_ ≤ (102 : UInt8))) false)) true (cond (decide ((65 : UInt8) ≤ by_)) (decide (by_ ≤ (70 : UInt8))) false))) (!((Hexa.bytes (((List.set (Hexa.text b) ((at_).toNat) by_) ++ ([48] : Str)))).isSome)) false)) (ck (!((cond (((Hexa.bytes ((List.set (Hexa.text b) ((at_).toNat) by_))).isSome) == (cond (cond (cond (decide ((48 : UInt8) ≤ by_)) (decide (by_ ≤ (57 : UInt8))) false) true (cond (decide ((97 : UInt8) ≤ by_)) (decide (by_ ≤ (102 : UInt8))) false)) true (cond (decide ((65 : UInt8) ≤ by_)) (decide (by_ ≤ (70 : UInt8))) false))) (!((Hexa.bytes (((List.set (Hexa.text b) ((at_).toNat) by_) ++ ([48] : Str)))).isSome)) false) && (!((Hexa.bytes ((List.set (Hexa.text b) ((at_).toNat) by_))).isSome))) || ((cond (((Hexa.bytes ((List.set (Hexa.text b) ((at_).toNat) by_))).isSome) == (cond (cond (cond (decide ((48 : UInt8) ≤ by_)) (decide (by_ ≤ (57 : UInt8))) false) true (cond (decide ((97 : UInt8) ≤ by_)) (decide (by_ ≤ (102 : UInt8))) false)) true (cond (decide ((65 : UInt8) ≤ by_)) (decide (by_ ≤ (70 : UInt8))) false))) (!((Hexa.bytes (((List.set (Hexa.text b) ((at_).toNat) by_) ++ ([48] : Str)))).isSome)) false) && (!((Hexa.bytes ((List.set (Hexa.text b) ((at_).toNat) by_))).isSome)))) (ck (!((cond (((Hexa.bytes ((List.set (Hexa.text b) ((at_).toNat) by_))).isSome) == (cond (cond (cond (decide ((48 : UInt8) ≤ by_)) (decide (by_ ≤ (57 : UInt8))) false) true (cond (decide ((97 : UInt8) ≤ by_)) (decide (by_ ≤ (102 : UInt8))) false)) true (cond (decide ((65 : UInt8) ≤ by_)) (decide (by_ ≤ (70 : UInt8))) false))) (!((Hexa.bytes (((List.set (Hexa.text b) ((at_).toNat) by_) ++ ([48] : Str)))).isSome)) false) && (!((Hexa.bytes ((List.set (Hexa.text b) ((at_).toNat) by_))).isSome))) || ((cond (((Hexa.bytes ((List.set (Hexa.text b) ((at_).toNat) by_))).isSome) == (cond (cond (cond (decide ((48 : UInt8) ≤ by_)) (decide (by_ ≤ (57 : UInt8))) false) true (cond (decide ((97 : UInt8) ≤ by_)) (decide (by_ ≤ (102 : UInt8))) false)) true (cond (decide ((65 : UInt8) ≤ by_)) (decide (by_ ≤ (70 : UInt8))) false))) (!((Hexa.bytes (((List.set (Hexa.text b) ((at_).toNat) by_) ++ ([48] : Str)))).isSome)) false) && (!((Hexa.bytes ((List.set (Hexa.text b) ((at_).toNat) by_))).isSome)))) (ck (!(cond (((Hexa.bytes ((List.set (Hexa.text b) ((at_).toNat) by_))).isSome) == (cond (cond (cond (decide ((48 : UInt8) ≤ by_)) (decide (by_ ≤ (57 : UInt8))) false) true (cond (decide ((97 : UInt8) ≤ by_)) (decide (by_ ≤ (102 : UInt8))) false)) true (cond (decide ((65 : UInt8) ≤ by_)) (decide (by_ ≤ (70 : UInt8))) false))) (!((Hexa.bytes (((List.set (Hexa.text b) ((at_).toNat) by_) ++ ([48] : Str)))).isSome)) false) || ((cond (((Hexa.bytes ((List.set (Hexa.text b) ((at_).toNat) by_))).isSome) == (cond (cond (cond (decide ((48 : UInt8) ≤ by_)) (decide (by_ ≤ (57 : UInt8))) false) true (cond (decide ((97 : UInt8) ≤ by_)) (decide (by_ ≤ (102 : UInt8))) false)) true (cond (decide ((65 : UInt8) ≤ by_)) (decide (by_ ≤ (70 : UInt8))) false))) (!((Hexa.bytes (((List.set (Hexa.text b) ((at_).toNat) by_) ++ ([48] : Str)))).isSome)) false) && (((Hexa.bytes ((List.set (Hexa.text b) ((at_).toNat) by_))).isSome) || ((cond (((Hexa.bytes ((List.set (Hexa.text b) ((at_).toNat) by_))).isSome) == (cond (cond (cond (decide ((48 : UInt8) ≤ by_)) (decide (by_ ≤ (57 : UInt8))) false) true (cond (decide ((97 : UInt8) ≤ by_)) (decide (by_ ≤ (102 : UInt8))) false)) true (cond (decide ((65 : UInt8) ≤ by_)) (decide (by_ ≤ (70 : UInt8))) false))) (!((Hexa.bytes (((List.set (Hexa.text b) ((at_).toNat) by_) ++ ([48] : Str)))).isSome)) false) && (!((Hexa.bytes ((List.set (Hexa.text b) ((at_).toNat) by_))).isSome)))))) (ck (!(cond (((Hexa.bytes ((List.set (Hexa.text b) ((at_).toNat) by_))).isSome) == (cond (cond (cond (decide ((48 : UInt8) ≤ by_)) (decide (by_ ≤ (57 : UInt8))) false) true (cond (decide ((97 : UInt8) ≤ by_)) (decide (by_ ≤ (102 : UInt8))) false)) true (cond (decide ((65 : UInt8) ≤ by_)) (decide (by_ ≤ (70 : UInt8))) false))) (!((Hexa.bytes (((List.set (Hexa.text b) ((at_).toNat) by_) ++ ([48] : Str)))).isSome)) false) || (cond (((Hexa.bytes ((List.set (Hexa.text b) ((at_).toNat) by_))).isSome) == (cond (cond (cond (decide ((48 : UInt8) ≤ by_)) (decide (by_ ≤ (57 : UInt8))) false) true (cond (decide ((97 : UInt8) ≤ by_)) (decide (by_ ≤ (102 : UInt8))) false)) true (cond (decide ((65 : UInt8) ≤ by_)) (decide (by_ ≤ (70 : UInt8))) false))) (!((Hexa.bytes (((List.set (Hexa.text b) ((at_).toNat) by_) ++ ([48] : Str)))).isSome)) false)) (some [(.b (cond (cond (((Hexa.bytes ((List.set (Hexa.text b) ((at_).toNat) by_))).isSome) == (cond (cond (cond (decide ((48 : UInt8) ≤ by_)) (decide (by_ ≤ (57 : UInt8))) false) true (cond (decide ((97 : UInt8) ≤ by_)) (decide (by_ ≤ (102 : UInt8))) false)) true (cond (decide ((65 : UInt8) ≤ by_)) (decide (by_ ≤ (70 : UInt8))) false))) (!((Hexa.bytes (((List.set (Hexa.text b) ((at_).toNat) by_) ++ ([48] : Str)))).isSome)) false) (cond ((Hexa.bytes ((List.set (Hexa.text b) ((at_).toNat) by_))).isSome) true (decide (((((Hexa.bytes ((List.set (Hexa.text b) ((at_).toNat) by_))).getD [])).length : Int) = (0 : Int)))) false))])))))))))))))))))))))))))))))))))))))) := by kernel_rfl
theorem HexaSpoilt.chk : ((Go.Proofs.Try.prog.funcs[6]?).any fun fn => chkF Go.Proofs.Try.prog (fun n => ((envL noGl HexaSpoilt.env).fs n).2) fn HexaSpoilt.d.erase) = true := by kernel_rfl
end Go.Eng
