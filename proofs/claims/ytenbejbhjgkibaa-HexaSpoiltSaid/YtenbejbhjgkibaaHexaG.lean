/- Printed by seatgen.py. -/
import Derived.Test.YtenbejbhjgkibaaHexaPure
import Derived.Test.YtenbejbhjgkibaaProg
set_option linter.unusedVariables false
set_option linter.unusedSimpArgs false
namespace Go.Eng
/-! ## propylon/hexa.digit -/
def hexa_digit.sg : FSig := {}
def hexa_digit.c : Ctr := fun l => match l with
  | [.u8 c] => .ok [(.i .i64 (Hexa.digit c))]
  | _ => .err
def hexa_digit.env : List (Nat × (Ctr × FSig)) := []
def hexa_digit.E : TEnv := envL noGl hexa_digit.env
def hexa_digit.m : TM := .seq (.reg [
    ⟨.k .mv, [.c (.i .i64 (0 : Int))], [2], none⟩]) none (.seq (.block 0 [] (.seq (.reg [
    ⟨.k .mv, [.s 0], [4], none⟩,
    ⟨.k (.bin .geq), [.s 4, .c (.u8 (48 : UInt8))], [5], none⟩,
    ⟨.k .mv, [.s 5], [6], none⟩,
    ⟨.k .mv, [.s 0], [7], some (6, true)⟩,
    ⟨.k (.bin .leq), [.s 7, .c (.u8 (57 : UInt8))], [8], some (6, true)⟩,
    ⟨.k .pick, [.s 6, .s 8, .c (.b false)], [9], none⟩,
    ⟨.k .mv, [.s 9], [3], none⟩]) none (.cond (.s 3) [] (.seq (.reg [
    ⟨.k .mv, [.s 0], [10], none⟩,
    ⟨.k (.bin .sub), [.s 10, .c (.u8 (48 : UInt8))], [11], none⟩,
    ⟨.k (.ci .i64), [.s 11], [12], none⟩,
    ⟨.k .mv, [.s 12], [2], none⟩]) none .ret) (.seq (.reg [
    ⟨.k .mv, [.s 0], [14], none⟩,
    ⟨.k (.bin .geq), [.s 14, .c (.u8 (97 : UInt8))], [15], none⟩,
    ⟨.k .mv, [.s 15], [16], none⟩,
    ⟨.k .mv, [.s 0], [17], some (16, true)⟩,
    ⟨.k (.bin .leq), [.s 17, .c (.u8 (102 : UInt8))], [18], some (16, true)⟩,
    ⟨.k .pick, [.s 16, .s 18, .c (.b false)], [19], none⟩,
    ⟨.k .mv, [.s 19], [13], none⟩]) none (.cond (.s 13) [] (.seq (.reg [
    ⟨.k .mv, [.s 0], [20], none⟩,
    ⟨.k (.bin .sub), [.s 20, .c (.u8 (97 : UInt8))], [21], none⟩,
    ⟨.k (.ci .i64), [.s 21], [22], none⟩,
    ⟨.k (.bin .add), [.s 22, .c (.i .i64 (10 : Int))], [23], none⟩,
    ⟨.k .mv, [.s 23], [2], none⟩]) none .ret) (.seq (.reg [
    ⟨.k .mv, [.s 0], [25], none⟩,
    ⟨.k (.bin .geq), [.s 25, .c (.u8 (65 : UInt8))], [26], none⟩,
    ⟨.k .mv, [.s 26], [27], none⟩,
    ⟨.k .mv, [.s 0], [28], some (27, true)⟩,
    ⟨.k (.bin .leq), [.s 28, .c (.u8 (70 : UInt8))], [29], some (27, true)⟩,
    ⟨.k .pick, [.s 27, .s 29, .c (.b false)], [30], none⟩,
    ⟨.k .mv, [.s 30], [24], none⟩]) none (.cond (.s 24) [] (.seq (.reg [
    ⟨.k .mv, [.s 0], [31], none⟩,
    ⟨.k (.bin .sub), [.s 31, .c (.u8 (65 : UInt8))], [32], none⟩,
    ⟨.k (.ci .i64), [.s 32], [33], none⟩,
    ⟨.k (.bin .add), [.s 33, .c (.i .i64 (10 : Int))], [34], none⟩,
    ⟨.k .mv, [.s 34], [2], none⟩]) none .ret) .skip))))))) none (.seq (.reg [
    ⟨.k .mv, [.c (.i .i64 (-1 : Int))], [2], none⟩]) none .ret))
def hexa_digit.d : TFD := { np := 1, m := hexa_digit.m, ref := none, tips := [], res := [.t 2], own := [], new := none, tnew := [] }
noncomputable def hexa_digit.F (c : UInt8) : Option (List TV) := hexa_digit.d.run hexa_digit.E [(.u8 c)]
theorem hexa_digit.F_eq (c : UInt8) : hexa_digit.F c = ck (!(decide ((48 : UInt8) ≤ c)) || (decide ((48 : UInt8) ≤ c))) (ck (!(decide ((48 : UInt8) ≤ c)) || (decide ((48 : UInt8) ≤ c))) (cond (cond (decide ((48 : UInt8) ≤ c)) (decide (c ≤ (57 : UInt8))) false)
    (some [(.i .i64 (IntKind.i64.wrap (((c - (48 : UInt8))).toNat : Int)))])
    (ck (!(decide ((97 : UInt8) ≤ c)) || (decide ((97 : UInt8) ≤ c))) (ck (!(decide ((97 : UInt8) ≤ c)) || (decide ((97 : UInt8) ≤ c))) (cond (cond (decide ((97 : UInt8) ≤ c)) (decide (c ≤ (102 : UInt8))) false)
    (some [(.i .i64 (IntKind.i64.wrap ((IntKind.i64.wrap (((c - (97 : UInt8))).toNat : Int)) + (10 : Int))))])
    (ck (!(decide ((65 : UInt8) ≤ c)) || (decide ((65 : UInt8) ≤ c))) (ck (!(decide ((65 : UInt8) ≤ c)) || (decide ((65 : UInt8) ≤ c))) (cond (cond (decide ((65 : UInt8) ≤ c)) (decide (c ≤ (70 : UInt8))) false)
    (some [(.i .i64 (IntKind.i64.wrap ((IntKind.i64.wrap (((c - (65 : UInt8))).toNat : Int)) + (10 : Int))))])
    (some [(.i .i64 (-1 : Int))]))))))))) := by kernel_rfl
theorem hexa_digit.chk : ((Go.Proofs.Try.prog.funcs[12]?).any fun fn => chkF Go.Proofs.Try.prog (fun n => ((envL noGl hexa_digit.env).fs n).2) fn hexa_digit.d.erase) = true := by kernel_rfl
/-! ## propylon/propylonref3.digit -/
def ref3_digit.sg : FSig := {}
def ref3_digit.c : Ctr := fun l => match l with
  | [.u8 c] => .ok [(.i .i64 (Hexa.digit c))]
  | _ => .err
def ref3_digit.env : List (Nat × (Ctr × FSig)) := []
def ref3_digit.E : TEnv := envL noGl ref3_digit.env
def ref3_digit.m : TM := .seq (.reg [
    ⟨.k .mv, [.c (.i .i64 (0 : Int))], [2], none⟩]) none (.seq (.block 0 [] (.seq (.reg [
    ⟨.k .mv, [.s 0], [4], none⟩,
    ⟨.k (.bin .geq), [.s 4, .c (.u8 (48 : UInt8))], [5], none⟩,
    ⟨.k .mv, [.s 5], [6], none⟩,
    ⟨.k .mv, [.s 0], [7], some (6, true)⟩,
    ⟨.k (.bin .leq), [.s 7, .c (.u8 (57 : UInt8))], [8], some (6, true)⟩,
    ⟨.k .pick, [.s 6, .s 8, .c (.b false)], [9], none⟩,
    ⟨.k .mv, [.s 9], [3], none⟩]) none (.cond (.s 3) [] (.seq (.reg [
    ⟨.k .mv, [.s 0], [10], none⟩,
    ⟨.k (.bin .sub), [.s 10, .c (.u8 (48 : UInt8))], [11], none⟩,
    ⟨.k (.ci .i64), [.s 11], [12], none⟩,
    ⟨.k .mv, [.s 12], [2], none⟩]) none .ret) (.seq (.reg [
    ⟨.k .mv, [.s 0], [14], none⟩,
    ⟨.k (.bin .geq), [.s 14, .c (.u8 (97 : UInt8))], [15], none⟩,
    ⟨.k .mv, [.s 15], [16], none⟩,
    ⟨.k .mv, [.s 0], [17], some (16, true)⟩,
    ⟨.k (.bin .leq), [.s 17, .c (.u8 (102 : UInt8))], [18], some (16, true)⟩,
    ⟨.k .pick, [.s 16, .s 18, .c (.b false)], [19], none⟩,
    ⟨.k .mv, [.s 19], [13], none⟩]) none (.cond (.s 13) [] (.seq (.reg [
    ⟨.k .mv, [.s 0], [20], none⟩,
    ⟨.k (.bin .sub), [.s 20, .c (.u8 (97 : UInt8))], [21], none⟩,
    ⟨.k (.ci .i64), [.s 21], [22], none⟩,
    ⟨.k (.bin .add), [.s 22, .c (.i .i64 (10 : Int))], [23], none⟩,
    ⟨.k .mv, [.s 23], [2], none⟩]) none .ret) (.seq (.reg [
    ⟨.k .mv, [.s 0], [25], none⟩,
    ⟨.k (.bin .geq), [.s 25, .c (.u8 (65 : UInt8))], [26], none⟩,
    ⟨.k .mv, [.s 26], [27], none⟩,
    ⟨.k .mv, [.s 0], [28], some (27, true)⟩,
    ⟨.k (.bin .leq), [.s 28, .c (.u8 (70 : UInt8))], [29], some (27, true)⟩,
    ⟨.k .pick, [.s 27, .s 29, .c (.b false)], [30], none⟩,
    ⟨.k .mv, [.s 30], [24], none⟩]) none (.cond (.s 24) [] (.seq (.reg [
    ⟨.k .mv, [.s 0], [31], none⟩,
    ⟨.k (.bin .sub), [.s 31, .c (.u8 (65 : UInt8))], [32], none⟩,
    ⟨.k (.ci .i64), [.s 32], [33], none⟩,
    ⟨.k (.bin .add), [.s 33, .c (.i .i64 (10 : Int))], [34], none⟩,
    ⟨.k .mv, [.s 34], [2], none⟩]) none .ret) .skip))))))) none (.seq (.reg [
    ⟨.k .mv, [.c (.i .i64 (-1 : Int))], [2], none⟩]) none .ret))
def ref3_digit.d : TFD := { np := 1, m := ref3_digit.m, ref := none, tips := [], res := [.t 2], own := [], new := none, tnew := [] }
noncomputable def ref3_digit.F (c : UInt8) : Option (List TV) := ref3_digit.d.run ref3_digit.E [(.u8 c)]
theorem ref3_digit.F_eq (c : UInt8) : ref3_digit.F c = ck (!(decide ((48 : UInt8) ≤ c)) || (decide ((48 : UInt8) ≤ c))) (ck (!(decide ((48 : UInt8) ≤ c)) || (decide ((48 : UInt8) ≤ c))) (cond (cond (decide ((48 : UInt8) ≤ c)) (decide (c ≤ (57 : UInt8))) false)
    (some [(.i .i64 (IntKind.i64.wrap (((c - (48 : UInt8))).toNat : Int)))])
    (ck (!(decide ((97 : UInt8) ≤ c)) || (decide ((97 : UInt8) ≤ c))) (ck (!(decide ((97 : UInt8) ≤ c)) || (decide ((97 : UInt8) ≤ c))) (cond (cond (decide ((97 : UInt8) ≤ c)) (decide (c ≤ (102 : UInt8))) false)
    (some [(.i .i64 (IntKind.i64.wrap ((IntKind.i64.wrap (((c - (97 : UInt8))).toNat : Int)) + (10 : Int))))])
    (ck (!(decide ((65 : UInt8) ≤ c)) || (decide ((65 : UInt8) ≤ c))) (ck (!(decide ((65 : UInt8) ≤ c)) || (decide ((65 : UInt8) ≤ c))) (cond (cond (decide ((65 : UInt8) ≤ c)) (decide (c ≤ (70 : UInt8))) false)
    (some [(.i .i64 (IntKind.i64.wrap ((IntKind.i64.wrap (((c - (65 : UInt8))).toNat : Int)) + (10 : Int))))])
    (some [(.i .i64 (-1 : Int))]))))))))) := by kernel_rfl
theorem ref3_digit.chk : ((Go.Proofs.Try.prog.funcs[13]?).any fun fn => chkF Go.Proofs.Try.prog (fun n => ((envL noGl ref3_digit.env).fs n).2) fn ref3_digit.d.erase) = true := by kernel_rfl
/-! ## propylon/hexa.Text -/
def hexa_Text.sg : FSig := {}
def hexa_Text.c : Ctr := fun l => match l with
  | [.sl .bs b] => .if_ (decide (b.length ≤ 1099511627776)) [(.s (Hexa.text b))]
  | _ => .err
def hexa_Text.env : List (Nat × (Ctr × FSig)) := []
def hexa_Text.E : TEnv := envL noGl hexa_Text.env
def hexa_Text.m1 : TM := .seq (.reg [
    ⟨.k (.bin .lss), [.s 12, .s 11], [13], none⟩]) none (.seq (.cond (.s 13) [] .skip (.exit 0)) none (.seq (.block 1 [(3, .tip 102 1), (lk 102, .live 1)] (.seq (.reg [
    ⟨.k (.ix 1), [.s 10, .s 12], [14], none⟩,
    ⟨.k (.lr 1 false), [.s 14], [15], none⟩,
    ⟨.k .mv, [.s 15], [5], none⟩]) none (.reg [
    ⟨.k .mv, [.s 3], [16], none⟩,
    ⟨.k .mv, [.s 5], [17], none⟩,
    ⟨.k (.bin .shr), [.s 17, .c (.u64 (4 : UInt64))], [18], none⟩,
    ⟨.k .si, [.c (.s ([48, 49, 50, 51, 52, 53, 54, 55, 56, 57, 97, 98, 99, 100, 101, 102] : Str)), .s 18], [19], none⟩,
    ⟨.k .mv, [.s 5], [20], none⟩,
    ⟨.k (.bin .and), [.s 20, .c (.u8 (15 : UInt8))], [21], none⟩,
    ⟨.k .si, [.c (.s ([48, 49, 50, 51, 52, 53, 54, 55, 56, 57, 97, 98, 99, 100, 101, 102] : Str)), .s 21], [22], none⟩,
    ⟨.bl .bs 2, [.s 19, .s 22], [23], none⟩,
    ⟨.k (.ap 100 102 1 1), [.s 16, .s 23, .s (lk 100), .s (lk 102)], [24, lk 100, lk 102], none⟩,
    ⟨.k .mv, [.s 24], [3], none⟩]))) none (.reg [
    ⟨.k (.bin .add), [.s 12, .c (.i .i64 (1 : Int))], [25], none⟩,
    ⟨.k .mv, [.s 25], [12], none⟩])))
def hexa_Text.m : TM := .seq (.reg [
    ⟨.k .mv, [.c (.s ([] : Str))], [2], none⟩]) none (.seq (.reg [
    ⟨.k .mv, [.s 0], [6], none⟩,
    ⟨.k .len, [.s 6], [7], none⟩,
    ⟨.k (.bin .mul), [.c (.i .i64 (2 : Int)), .s 7], [8], none⟩,
    ⟨.mk 100 1 .bs (0 : UInt8), [.c (.i .i64 (0 : Int)), .s 8, .s (lk 100)], [9, lk 100], none⟩,
    ⟨.k .mv, [.s 9], [3], none⟩]) none (.seq (.seq (.reg [
    ⟨.k .mv, [.s 0], [10], none⟩,
    ⟨.k .len, [.s 10], [11], none⟩,
    ⟨.k .mv, [.c (.i .i64 (0 : Int))], [12], none⟩]) none (.block 0 [(3, .tip 100 1), (lk 100, .live 1)] (.loop [3, 10, 11, 12] [(3, .tip 100 1), (lk 100, .live 1)] hexa_Text.m1))) none (.seq (.reg [
    ⟨.k .mv, [.s 3], [26], none⟩,
    ⟨.k .bs, [.s 26], [27], none⟩,
    ⟨.k .mv, [.s 27], [2], none⟩]) none .ret)))
def hexa_Text.d : TFD := { np := 1, m := hexa_Text.m, ref := none, tips := [], res := [.t 2], own := [], new := none, tnew := [] }
noncomputable def hexa_Text.F (b : List UInt8) : Option (List TV) := hexa_Text.d.run hexa_Text.E [(.sl .bs b)]
noncomputable def hexa_Text.k1 : Cont (List TV) := seqK (ev _ hexa_Text.E (.seq (.reg [
    ⟨.k .mv, [.s 3], [26], none⟩,
    ⟨.k .bs, [.s 26], [27], none⟩,
    ⟨.k .mv, [.s 27], [2], none⟩]) none .ret)) none (endK hexa_Text.d)
noncomputable def hexa_Text.l1 (x0 : List UInt8) (x1 : List UInt8) (x2 : Int) (x3 : Int) : Option (List TV) := loopL (evO _ hexa_Text.E hexa_Text.m1) isN [3, 10, 11, 12] (headT [3, 10, 11, 12] [(.sl .bs x0), (.sl .bs x1), (.i .i64 x2), (.i .i64 x3)]) (blockK 0 hexa_Text.k1)
theorem hexa_Text.l1_eq (x0 : List UInt8) (x1 : List UInt8) (x2 : Int) (x3 : Int) : hexa_Text.l1 x0 x1 x2 x3 = cond (decide (x3 < x2))
    (ck (idxOK x3 (x1).length) (ck (idxOK (((shr8 (List.getD x1 (x3).toNat (0 : UInt8)) (((4 : UInt64)).toNat))).toNat : Int) (([48, 49, 50, 51, 52, 53, 54, 55, 56, 57, 97, 98, 99, 100, 101, 102] : Str)).length) (ck (idxOK ((((List.getD x1 (x3).toNat (0 : UInt8)) &&& (15 : UInt8))).toNat : Int) (([48, 49, 50, 51, 52, 53, 54, 55, 56, 57, 97, 98, 99, 100, 101, 102] : Str)).length) (ck (apOK ((x0).length + (([(List.getD ([48, 49, 50, 51, 52, 53, 54, 55, 56, 57, 97, 98, 99, 100, 101, 102] : Str) ((((shr8 (List.getD x1 (x3).toNat (0 : UInt8)) (((4 : UInt64)).toNat))).toNat : Int)).toNat (0 : UInt8)), (List.getD ([48, 49, 50, 51, 52, 53, 54, 55, 56, 57, 97, 98, 99, 100, 101, 102] : Str) (((((List.getD x1 (x3).toNat (0 : UInt8)) &&& (15 : UInt8))).toNat : Int)).toNat (0 : UInt8))] : List UInt8)).length) 1) (hexa_Text.l1 (x0 ++ ([(List.getD ([48, 49, 50, 51, 52, 53, 54, 55, 56, 57, 97, 98, 99, 100, 101, 102] : Str) ((((shr8 (List.getD x1 (x3).toNat (0 : UInt8)) (((4 : UInt64)).toNat))).toNat : Int)).toNat (0 : UInt8)), (List.getD ([48, 49, 50, 51, 52, 53, 54, 55, 56, 57, 97, 98, 99, 100, 101, 102] : Str) (((((List.getD x1 (x3).toNat (0 : UInt8)) &&& (15 : UInt8))).toNat : Int)).toNat (0 : UInt8))] : List UInt8)) x1 x2 (IntKind.i64.wrap (x3 + (1 : Int))))))))
    (some [(.s x0)]) := (ev_loop _ _ _ _ _ _).trans (by kernel_rfl)
theorem hexa_Text.F_eq (b : List UInt8) : hexa_Text.F b = ck (mkOK (0 : Int) (IntKind.i64.wrap ((2 : Int) * ((b).length : Int))) 1) (hexa_Text.l1 (List.replicate ((0 : Int)).toNat (0 : UInt8)) b ((b).length : Int) (0 : Int)) := by kernel_rfl
theorem hexa_Text.chk : ((Go.Proofs.Try.prog.funcs[10]?).any fun fn => chkF Go.Proofs.Try.prog (fun n => ((envL noGl hexa_Text.env).fs n).2) fn hexa_Text.d.erase) = true := by kernel_rfl
/-! ## propylon/propylonref3.Hex -/
def ref3_Hex.sg : FSig := {}
def ref3_Hex.c : Ctr := fun l => match l with
  | [.sl .bs b] => .if_ (decide (b.length ≤ 1099511627776)) [(.s (Hexa.text b))]
  | _ => .err
def ref3_Hex.env : List (Nat × (Ctr × FSig)) := []
def ref3_Hex.E : TEnv := envL noGl ref3_Hex.env
def ref3_Hex.m1 : TM := .seq (.seq (.reg [
    ⟨.k .mv, [.s 4], [5], none⟩,
    ⟨.k .mv, [.s 0], [6], none⟩,
    ⟨.k .len, [.s 6], [7], none⟩,
    ⟨.k (.bin .lss), [.s 5, .s 7], [8], none⟩]) none (.cond (.s 8) [] .skip (.exit 0))) none (.seq (.block 1 [(3, .tip 102 1), (lk 102, .live 1)] (.reg [
    ⟨.k .mv, [.s 3], [11], none⟩,
    ⟨.k .mv, [.s 0], [12], none⟩,
    ⟨.k .mv, [.s 4], [13], none⟩,
    ⟨.k (.ix 1), [.s 12, .s 13], [14], none⟩,
    ⟨.k (.lr 1 false), [.s 14], [15], none⟩,
    ⟨.k (.bin .quo), [.s 15, .c (.u8 (16 : UInt8))], [16], none⟩,
    ⟨.k .si, [.c (.s ([48, 49, 50, 51, 52, 53, 54, 55, 56, 57, 97, 98, 99, 100, 101, 102] : Str)), .s 16], [17], none⟩,
    ⟨.k .mv, [.s 0], [18], none⟩,
    ⟨.k .mv, [.s 4], [19], none⟩,
    ⟨.k (.ix 1), [.s 18, .s 19], [20], none⟩,
    ⟨.k (.lr 1 false), [.s 20], [21], none⟩,
    ⟨.k (.bin .rem), [.s 21, .c (.u8 (16 : UInt8))], [22], none⟩,
    ⟨.k .si, [.c (.s ([48, 49, 50, 51, 52, 53, 54, 55, 56, 57, 97, 98, 99, 100, 101, 102] : Str)), .s 22], [23], none⟩,
    ⟨.bl .bs 2, [.s 17, .s 23], [24], none⟩,
    ⟨.k (.ap 100 102 1 1), [.s 11, .s 24, .s (lk 100), .s (lk 102)], [25, lk 100, lk 102], none⟩,
    ⟨.k .mv, [.s 25], [3], none⟩])) none (.reg [
    ⟨.k .mv, [.s 4], [9], none⟩,
    ⟨.k (.bin .add), [.s 9, .c (.i .i64 (1 : Int))], [10], none⟩,
    ⟨.k .mv, [.s 10], [4], none⟩]))
def ref3_Hex.m : TM := .seq (.reg [
    ⟨.k .mv, [.c (.s ([] : Str))], [2], none⟩]) none (.seq (.reg [
    ⟨.nl .bs 100, [.s (lk 100)], [3, lk 100], none⟩]) none (.seq (.seq (.reg [
    ⟨.k .mv, [.c (.i .i64 (0 : Int))], [4], none⟩]) none (.block 0 [(3, .tip 100 1), (lk 100, .live 1)] (.loop [0, 3, 4] [(3, .tip 100 1), (lk 100, .live 1)] ref3_Hex.m1))) none (.seq (.reg [
    ⟨.k .mv, [.s 3], [26], none⟩,
    ⟨.k .bs, [.s 26], [27], none⟩,
    ⟨.k .mv, [.s 27], [2], none⟩]) none .ret)))
def ref3_Hex.d : TFD := { np := 1, m := ref3_Hex.m, ref := none, tips := [], res := [.t 2], own := [], new := none, tnew := [] }
noncomputable def ref3_Hex.F (b : List UInt8) : Option (List TV) := ref3_Hex.d.run ref3_Hex.E [(.sl .bs b)]
noncomputable def ref3_Hex.k1 : Cont (List TV) := seqK (ev _ ref3_Hex.E (.seq (.reg [
    ⟨.k .mv, [.s 3], [26], none⟩,
    ⟨.k .bs, [.s 26], [27], none⟩,
    ⟨.k .mv, [.s 27], [2], none⟩]) none .ret)) none (endK ref3_Hex.d)
noncomputable def ref3_Hex.l1 (x0 : List UInt8) (x1 : List UInt8) (x2 : Int) : Option (List TV) := loopL (evO _ ref3_Hex.E ref3_Hex.m1) isN [0, 3, 4] (headT [0, 3, 4] [(.sl .bs x0), (.sl .bs x1), (.i .i64 x2)]) (blockK 0 ref3_Hex.k1)
theorem ref3_Hex.l1_eq (x0 : List UInt8) (x1 : List UInt8) (x2 : Int) : ref3_Hex.l1 x0 x1 x2 = cond (decide (x2 < ((x0).length : Int)))
    (ck (idxOK x2 (x0).length) (ck (!decide ((16 : UInt8) = 0)) (ck (idxOK ((((List.getD x0 (x2).toNat (0 : UInt8)) / (16 : UInt8))).toNat : Int) (([48, 49, 50, 51, 52, 53, 54, 55, 56, 57, 97, 98, 99, 100, 101, 102] : Str)).length) (ck (idxOK x2 (x0).length) (ck (!decide ((16 : UInt8) = 0)) (ck (idxOK ((((List.getD x0 (x2).toNat (0 : UInt8)) % (16 : UInt8))).toNat : Int) (([48, 49, 50, 51, 52, 53, 54, 55, 56, 57, 97, 98, 99, 100, 101, 102] : Str)).length) (ck (apOK ((x1).length + (([(List.getD ([48, 49, 50, 51, 52, 53, 54, 55, 56, 57, 97, 98, 99, 100, 101, 102] : Str) (((((List.getD x0 (x2).toNat (0 : UInt8)) / (16 : UInt8))).toNat : Int)).toNat (0 : UInt8)), (List.getD ([48, 49, 50, 51, 52, 53, 54, 55, 56, 57, 97, 98, 99, 100, 101, 102] : Str) (((((List.getD x0 (x2).toNat (0 : UInt8)) % (16 : UInt8))).toNat : Int)).toNat (0 : UInt8))] : List UInt8)).length) 1) (ref3_Hex.l1 x0 (x1 ++ ([(List.getD ([48, 49, 50, 51, 52, 53, 54, 55, 56, 57, 97, 98, 99, 100, 101, 102] : Str) (((((List.getD x0 (x2).toNat (0 : UInt8)) / (16 : UInt8))).toNat : Int)).toNat (0 : UInt8)), (List.getD ([48, 49, 50, 51, 52, 53, 54, 55, 56, 57, 97, 98, 99, 100, 101, 102] : Str) (((((List.getD x0 (x2).toNat (0 : UInt8)) % (16 : UInt8))).toNat : Int)).toNat (0 : UInt8))] : List UInt8)) (IntKind.i64.wrap (x2 + (1 : Int)))))))))))
    (some [(.s x1)]) := (ev_loop _ _ _ _ _ _).trans (by kernel_rfl)
theorem ref3_Hex.F_eq (b : List UInt8) : ref3_Hex.F b = ref3_Hex.l1 b ([] : List UInt8) (0 : Int) := by kernel_rfl
theorem ref3_Hex.chk : ((Go.Proofs.Try.prog.funcs[11]?).any fun fn => chkF Go.Proofs.Try.prog (fun n => ((envL noGl ref3_Hex.env).fs n).2) fn ref3_Hex.d.erase) = true := by kernel_rfl
/-! ## propylon/hexa.Bytes -/
def hexa_Bytes.sg : FSig := { nres := 2 }
def hexa_Bytes.c : Ctr := fun l => match l with
  | [.s s] => .if_ (decide (s.length ≤ 1099511627776)) [(.sl .bs ((Hexa.bytes s).getD [])), (.b ((Hexa.bytes s).isSome))]
  | _ => .err
def hexa_Bytes.env : List (Nat × (Ctr × FSig)) := [(12, (hexa_digit.c, hexa_digit.sg))]
def hexa_Bytes.E : TEnv := envL noGl hexa_Bytes.env
def hexa_Bytes.m1 : TM := .seq (.seq (.reg [
    ⟨.k .mv, [.s 5], [16], none⟩,
    ⟨.k .mv, [.s 0], [17], none⟩,
    ⟨.k .lns, [.s 17], [18], none⟩,
    ⟨.k (.bin .lss), [.s 16, .s 18], [19], none⟩]) none (.cond (.s 19) [] .skip (.exit 0))) none (.seq (.block 1 [(4, .tip 105 1), (lk 105, .live 1)] (.seq (.reg [
    ⟨.k .mv, [.s 0], [22], none⟩,
    ⟨.k .mv, [.s 5], [23], none⟩,
    ⟨.k .si, [.s 22, .s 23], [24], none⟩,
    ⟨.k (.call 12 (.plain 1 1)), [.s 24], [25], none⟩,
    ⟨.k .mv, [.s 0], [26], none⟩,
    ⟨.k .mv, [.s 5], [27], none⟩,
    ⟨.k (.bin .add), [.s 27, .c (.i .i64 (1 : Int))], [28], none⟩,
    ⟨.k .si, [.s 26, .s 28], [29], none⟩,
    ⟨.k (.call 12 (.plain 1 1)), [.s 29], [30], none⟩,
    ⟨.k .mv, [.s 25], [6], none⟩,
    ⟨.k .mv, [.s 30], [7], none⟩]) none (.seq (.seq (.reg [
    ⟨.k .mv, [.s 6], [31], none⟩,
    ⟨.k (.bin .lss), [.s 31, .c (.i .i64 (0 : Int))], [32], none⟩,
    ⟨.k .mv, [.s 32], [33], none⟩,
    ⟨.k .mv, [.s 7], [34], some (33, false)⟩,
    ⟨.k (.bin .lss), [.s 34, .c (.i .i64 (0 : Int))], [35], some (33, false)⟩,
    ⟨.k .pick, [.s 33, .c (.b true), .s 35], [36], none⟩]) none (.cond (.s 36) [] (.seq (.reg [
    ⟨.k .mv, [.c (.sl .bs ([] : List UInt8))], [2], none⟩,
    ⟨.k .mv, [.c (.b false)], [3], none⟩]) none .ret) .skip)) none (.reg [
    ⟨.k .mv, [.s 4], [37], none⟩,
    ⟨.k .mv, [.s 6], [38], none⟩,
    ⟨.k (.bin .shl), [.s 38, .c (.u64 (4 : UInt64))], [39], none⟩,
    ⟨.k .mv, [.s 7], [40], none⟩,
    ⟨.k (.bin .or), [.s 39, .s 40], [41], none⟩,
    ⟨.k (.ci .u8), [.s 41], [42], none⟩,
    ⟨.bl .bs 1, [.s 42], [43], none⟩,
    ⟨.k (.ap 102 105 1 1), [.s 37, .s 43, .s (lk 102), .s (lk 105)], [44, lk 102, lk 105], none⟩,
    ⟨.k .mv, [.s 44], [4], none⟩])))) none (.reg [
    ⟨.k .mv, [.s 5], [20], none⟩,
    ⟨.k (.bin .add), [.s 20, .c (.i .i64 (2 : Int))], [21], none⟩,
    ⟨.k .mv, [.s 21], [5], none⟩]))
def hexa_Bytes.m : TM := .seq (.reg [
    ⟨.k .mv, [.c (.sl .bs ([] : List UInt8))], [2], none⟩,
    ⟨.k .mv, [.c (.b false)], [3], none⟩]) none (.seq (.seq (.reg [
    ⟨.k .mv, [.s 0], [8], none⟩,
    ⟨.k .lns, [.s 8], [9], none⟩,
    ⟨.k (.bin .rem), [.s 9, .c (.i .i64 (2 : Int))], [10], none⟩,
    ⟨.k (.bin .neq), [.s 10, .c (.i .i64 (0 : Int))], [11], none⟩]) none (.cond (.s 11) [] (.seq (.reg [
    ⟨.k .mv, [.c (.sl .bs ([] : List UInt8))], [2], none⟩,
    ⟨.k .mv, [.c (.b false)], [3], none⟩]) none .ret) .skip)) none (.seq (.reg [
    ⟨.k .mv, [.s 0], [12], none⟩,
    ⟨.k .lns, [.s 12], [13], none⟩,
    ⟨.k (.bin .quo), [.s 13, .c (.i .i64 (2 : Int))], [14], none⟩,
    ⟨.mk 102 1 .bs (0 : UInt8), [.c (.i .i64 (0 : Int)), .s 14, .s (lk 102)], [15, lk 102], none⟩,
    ⟨.k .mv, [.s 15], [4], none⟩]) none (.seq (.seq (.reg [
    ⟨.k .mv, [.c (.i .i64 (0 : Int))], [5], none⟩]) none (.block 0 [(4, .tip 102 1), (lk 102, .live 1)] (.loop [0, 4, 5] [(4, .tip 102 1), (lk 102, .live 1)] hexa_Bytes.m1))) none (.seq (.reg [
    ⟨.k .mv, [.s 4], [45], none⟩,
    ⟨.k .mv, [.s 45], [2], none⟩,
    ⟨.k .mv, [.c (.b true)], [3], none⟩]) none .ret))))
def hexa_Bytes.d : TFD := { np := 1, m := hexa_Bytes.m, ref := none, tips := [], res := [.t 2, .t 3], own := [], new := none, tnew := [] }
noncomputable def hexa_Bytes.F (s : Str) : Option (List TV) := hexa_Bytes.d.run hexa_Bytes.E [(.s s)]
noncomputable def hexa_Bytes.k1 : Cont (List TV) := seqK (ev _ hexa_Bytes.E (.seq (.reg [
    ⟨.k .mv, [.s 4], [45], none⟩,
    ⟨.k .mv, [.s 45], [2], none⟩,
    ⟨.k .mv, [.c (.b true)], [3], none⟩]) none .ret)) none (endK hexa_Bytes.d)
noncomputable def hexa_Bytes.l1 (x0 : Str) (x1 : List UInt8) (x2 : Int) : Option (List TV) := loopL (evO _ hexa_Bytes.E hexa_Bytes.m1) isN [0, 4, 5] (headT [0, 4, 5] [(.s x0), (.sl .bs x1), (.i .i64 x2)]) (blockK 0 hexa_Bytes.k1)
theorem hexa_Bytes.l1_eq (x0 : Str) (x1 : List UInt8) (x2 : Int) : hexa_Bytes.l1 x0 x1 x2 = cond (decide (x2 < ((x0).length : Int)))
    (ck (idxOK x2 (x0).length) (ck (idxOK (IntKind.i64.wrap (x2 + (1 : Int))) (x0).length) (ck (!(!(decide ((Hexa.digit ((List.getD x0 (x2).toNat (0 : UInt8)))) < (0 : Int)))) || (!(decide ((Hexa.digit ((List.getD x0 (x2).toNat (0 : UInt8)))) < (0 : Int))))) (ck ((decide ((Hexa.digit ((List.getD x0 (x2).toNat (0 : UInt8)))) < (0 : Int))) || (!(decide ((Hexa.digit ((List.getD x0 (x2).toNat (0 : UInt8)))) < (0 : Int))))) (cond (cond (decide ((Hexa.digit ((List.getD x0 (x2).toNat (0 : UInt8)))) < (0 : Int))) true (decide ((Hexa.digit ((List.getD x0 ((IntKind.i64.wrap (x2 + (1 : Int)))).toNat (0 : UInt8)))) < (0 : Int))))
    (some [(.sl .bs ([] : List UInt8)), (.b false)])
    (ck (apOK ((x1).length + (([(UInt8.ofInt (intBitsV .or .i64 (IntKind.i64.wrap ((Hexa.digit ((List.getD x0 (x2).toNat (0 : UInt8)))) * 2 ^ (min (((4 : UInt64)).toNat) (IntKind.i64.bits)))) (Hexa.digit ((List.getD x0 ((IntKind.i64.wrap (x2 + (1 : Int)))).toNat (0 : UInt8))))))] : List UInt8)).length) 1) (hexa_Bytes.l1 x0 (x1 ++ ([(UInt8.ofInt (intBitsV .or .i64 (IntKind.i64.wrap ((Hexa.digit ((List.getD x0 (x2).toNat (0 : UInt8)))) * 2 ^ (min (((4 : UInt64)).toNat) (IntKind.i64.bits)))) (Hexa.digit ((List.getD x0 ((IntKind.i64.wrap (x2 + (1 : Int)))).toNat (0 : UInt8))))))] : List UInt8)) (IntKind.i64.wrap (x2 + (2 : Int))))))))))
    (some [(.sl .bs x1), (.b true)]) := (ev_loop _ _ _ _ _ _).trans (by kernel_rfl)
theorem hexa_Bytes.F_eq (s : Str) : hexa_Bytes.F s = ck (!decide ((2 : Int) = 0)) (cond (!decide ((Int.tmod ((s).length : Int) (2 : Int)) = (0 : Int)))
    (some [(.sl .bs ([] : List UInt8)), (.b false)])
    (ck (!decide ((2 : Int) = 0)) (ck (mkOK (0 : Int) (IntKind.i64.wrap (Int.tdiv ((s).length : Int) (2 : Int))) 1) (hexa_Bytes.l1 s (List.replicate ((0 : Int)).toNat (0 : UInt8)) (0 : Int))))) := by kernel_rfl
theorem hexa_Bytes.chk : ((Go.Proofs.Try.prog.funcs[8]?).any fun fn => chkF Go.Proofs.Try.prog (fun n => ((envL noGl hexa_Bytes.env).fs n).2) fn hexa_Bytes.d.erase) = true := by kernel_rfl
/-! ## propylon/propylonref3.Unhex -/
def ref3_Unhex.sg : FSig := { nres := 2 }
def ref3_Unhex.c : Ctr := fun l => match l with
  | [.s s] => .if_ (decide (s.length ≤ 1099511627776)) [(.sl .bs ((Hexa.bytes s).getD [])), (.b ((Hexa.bytes s).isSome))]
  | _ => .err
def ref3_Unhex.env : List (Nat × (Ctr × FSig)) := [(13, (ref3_digit.c, ref3_digit.sg))]
def ref3_Unhex.E : TEnv := envL noGl ref3_Unhex.env
def ref3_Unhex.m1 : TM := .seq (.seq (.reg [
    ⟨.k .mv, [.s 5], [12], none⟩,
    ⟨.k .mv, [.s 0], [13], none⟩,
    ⟨.k .lns, [.s 13], [14], none⟩,
    ⟨.k (.bin .lss), [.s 12, .s 14], [15], none⟩]) none (.cond (.s 15) [] .skip (.exit 0))) none (.seq (.block 1 [(4, .tip 105 1), (lk 105, .live 1)] (.seq (.reg [
    ⟨.k .mv, [.s 0], [18], none⟩,
    ⟨.k .mv, [.s 5], [19], none⟩,
    ⟨.k .si, [.s 18, .s 19], [20], none⟩,
    ⟨.k (.call 13 (.plain 1 1)), [.s 20], [21], none⟩,
    ⟨.k .mv, [.s 0], [22], none⟩,
    ⟨.k .mv, [.s 5], [23], none⟩,
    ⟨.k (.bin .add), [.s 23, .c (.i .i64 (1 : Int))], [24], none⟩,
    ⟨.k .si, [.s 22, .s 24], [25], none⟩,
    ⟨.k (.call 13 (.plain 1 1)), [.s 25], [26], none⟩,
    ⟨.k .mv, [.s 21], [6], none⟩,
    ⟨.k .mv, [.s 26], [7], none⟩]) none (.seq (.seq (.reg [
    ⟨.k .mv, [.s 6], [27], none⟩,
    ⟨.k (.bin .lss), [.s 27, .c (.i .i64 (0 : Int))], [28], none⟩,
    ⟨.k .mv, [.s 28], [29], none⟩,
    ⟨.k .mv, [.s 7], [30], some (29, false)⟩,
    ⟨.k (.bin .lss), [.s 30, .c (.i .i64 (0 : Int))], [31], some (29, false)⟩,
    ⟨.k .pick, [.s 29, .c (.b true), .s 31], [32], none⟩]) none (.cond (.s 32) [] (.seq (.reg [
    ⟨.k .mv, [.c (.sl .bs ([] : List UInt8))], [2], none⟩,
    ⟨.k .mv, [.c (.b false)], [3], none⟩]) none .ret) .skip)) none (.reg [
    ⟨.k .mv, [.s 4], [33], none⟩,
    ⟨.k .mv, [.s 6], [34], none⟩,
    ⟨.k (.bin .mul), [.s 34, .c (.i .i64 (16 : Int))], [35], none⟩,
    ⟨.k .mv, [.s 7], [36], none⟩,
    ⟨.k (.bin .add), [.s 35, .s 36], [37], none⟩,
    ⟨.k (.ci .u8), [.s 37], [38], none⟩,
    ⟨.bl .bs 1, [.s 38], [39], none⟩,
    ⟨.k (.ap 102 105 1 1), [.s 33, .s 39, .s (lk 102), .s (lk 105)], [40, lk 102, lk 105], none⟩,
    ⟨.k .mv, [.s 40], [4], none⟩])))) none (.reg [
    ⟨.k .mv, [.s 5], [16], none⟩,
    ⟨.k (.bin .add), [.s 16, .c (.i .i64 (2 : Int))], [17], none⟩,
    ⟨.k .mv, [.s 17], [5], none⟩]))
def ref3_Unhex.m : TM := .seq (.reg [
    ⟨.k .mv, [.c (.sl .bs ([] : List UInt8))], [2], none⟩,
    ⟨.k .mv, [.c (.b false)], [3], none⟩]) none (.seq (.seq (.reg [
    ⟨.k .mv, [.s 0], [8], none⟩,
    ⟨.k .lns, [.s 8], [9], none⟩,
    ⟨.k (.bin .rem), [.s 9, .c (.i .i64 (2 : Int))], [10], none⟩,
    ⟨.k (.bin .neq), [.s 10, .c (.i .i64 (0 : Int))], [11], none⟩]) none (.cond (.s 11) [] (.seq (.reg [
    ⟨.k .mv, [.c (.sl .bs ([] : List UInt8))], [2], none⟩,
    ⟨.k .mv, [.c (.b false)], [3], none⟩]) none .ret) .skip)) none (.seq (.reg [
    ⟨.nl .bs 102, [.s (lk 102)], [4, lk 102], none⟩]) none (.seq (.seq (.reg [
    ⟨.k .mv, [.c (.i .i64 (0 : Int))], [5], none⟩]) none (.block 0 [(4, .tip 102 1), (lk 102, .live 1)] (.loop [0, 4, 5] [(4, .tip 102 1), (lk 102, .live 1)] ref3_Unhex.m1))) none (.seq (.reg [
    ⟨.k .mv, [.s 4], [41], none⟩,
    ⟨.k .mv, [.s 41], [2], none⟩,
    ⟨.k .mv, [.c (.b true)], [3], none⟩]) none .ret))))
def ref3_Unhex.d : TFD := { np := 1, m := ref3_Unhex.m, ref := none, tips := [], res := [.t 2, .t 3], own := [], new := none, tnew := [] }
noncomputable def ref3_Unhex.F (s : Str) : Option (List TV) := ref3_Unhex.d.run ref3_Unhex.E [(.s s)]
noncomputable def ref3_Unhex.k1 : Cont (List TV) := seqK (ev _ ref3_Unhex.E (.seq (.reg [
    ⟨.k .mv, [.s 4], [41], none⟩,
    ⟨.k .mv, [.s 41], [2], none⟩,
    ⟨.k .mv, [.c (.b true)], [3], none⟩]) none .ret)) none (endK ref3_Unhex.d)
noncomputable def ref3_Unhex.l1 (x0 : Str) (x1 : List UInt8) (x2 : Int) : Option (List TV) := loopL (evO _ ref3_Unhex.E ref3_Unhex.m1) isN [0, 4, 5] (headT [0, 4, 5] [(.s x0), (.sl .bs x1), (.i .i64 x2)]) (blockK 0 ref3_Unhex.k1)
theorem ref3_Unhex.l1_eq (x0 : Str) (x1 : List UInt8) (x2 : Int) : ref3_Unhex.l1 x0 x1 x2 = cond (decide (x2 < ((x0).length : Int)))
    (ck (idxOK x2 (x0).length) (ck (idxOK (IntKind.i64.wrap (x2 + (1 : Int))) (x0).length) (ck (!(!(decide ((Hexa.digit ((List.getD x0 (x2).toNat (0 : UInt8)))) < (0 : Int)))) || (!(decide ((Hexa.digit ((List.getD x0 (x2).toNat (0 : UInt8)))) < (0 : Int))))) (ck ((decide ((Hexa.digit ((List.getD x0 (x2).toNat (0 : UInt8)))) < (0 : Int))) || (!(decide ((Hexa.digit ((List.getD x0 (x2).toNat (0 : UInt8)))) < (0 : Int))))) (cond (cond (decide ((Hexa.digit ((List.getD x0 (x2).toNat (0 : UInt8)))) < (0 : Int))) true (decide ((Hexa.digit ((List.getD x0 ((IntKind.i64.wrap (x2 + (1 : Int)))).toNat (0 : UInt8)))) < (0 : Int))))
    (some [(.sl .bs ([] : List UInt8)), (.b false)])
    (ck (apOK ((x1).length + (([(UInt8.ofInt (IntKind.i64.wrap ((IntKind.i64.wrap ((Hexa.digit ((List.getD x0 (x2).toNat (0 : UInt8)))) * (16 : Int))) + (Hexa.digit ((List.getD x0 ((IntKind.i64.wrap (x2 + (1 : Int)))).toNat (0 : UInt8)))))))] : List UInt8)).length) 1) (ref3_Unhex.l1 x0 (x1 ++ ([(UInt8.ofInt (IntKind.i64.wrap ((IntKind.i64.wrap ((Hexa.digit ((List.getD x0 (x2).toNat (0 : UInt8)))) * (16 : Int))) + (Hexa.digit ((List.getD x0 ((IntKind.i64.wrap (x2 + (1 : Int)))).toNat (0 : UInt8)))))))] : List UInt8)) (IntKind.i64.wrap (x2 + (2 : Int))))))))))
    (some [(.sl .bs x1), (.b true)]) := (ev_loop _ _ _ _ _ _).trans (by kernel_rfl)
theorem ref3_Unhex.F_eq (s : Str) : ref3_Unhex.F s = ck (!decide ((2 : Int) = 0)) (cond (!decide ((Int.tmod ((s).length : Int) (2 : Int)) = (0 : Int)))
    (some [(.sl .bs ([] : List UInt8)), (.b false)])
    (ref3_Unhex.l1 s ([] : List UInt8) (0 : Int))) := by kernel_rfl
theorem ref3_Unhex.chk : ((Go.Proofs.Try.prog.funcs[9]?).any fun fn => chkF Go.Proofs.Try.prog (fun n => ((envL noGl ref3_Unhex.env).fs n).2) fn ref3_Unhex.d.erase) = true := by kernel_rfl
/-! ## propylon/propylonlaw3.awake -/
def law3_awake.sg : FSig := {}
def law3_awake.c : Ctr := fun l => match l with
  | [] => .ok [(.b (true))]
  | _ => .err
def law3_awake.env : List (Nat × (Ctr × FSig)) := [(8, (hexa_Bytes.c, hexa_Bytes.sg)), (10, (hexa_Text.c, hexa_Text.sg))]
def law3_awake.E : TEnv := envL noGl law3_awake.env
def law3_awake.m : TM := .seq (.reg [
    ⟨.k .mv, [.c (.b false)], [0], none⟩]) none (.seq (.reg [
    ⟨.k (.call 8 (.plain 1 2)), [.c (.s ([48, 97, 70, 102] : Str))], [4], none⟩,
    ⟨.k .mv, [.s 4], [3], none⟩,
    ⟨.k (.ex 0), [.s 3], [5], none⟩,
    ⟨.k (.ex 1), [.s 3], [6], none⟩,
    ⟨.k .mv, [.s 5], [1], none⟩,
    ⟨.k .mv, [.s 6], [2], none⟩]) none (.seq (.reg [
    ⟨.bl .bs 2, [.c (.u8 (10 : UInt8)), .c (.u8 (255 : UInt8))], [7], none⟩,
    ⟨.k (.call 10 (.plain 1 1)), [.s 7], [8], none⟩,
    ⟨.k (.bin .eql), [.s 8, .c (.s ([48, 97, 102, 102] : Str))], [9], none⟩,
    ⟨.k .mv, [.s 9], [10], none⟩,
    ⟨.k .mv, [.s 2], [11], some (10, true)⟩,
    ⟨.k .pick, [.s 10, .s 11, .c (.b false)], [12], none⟩,
    ⟨.k .mv, [.s 12], [13], none⟩,
    ⟨.k .mv, [.s 1], [14], some (13, true)⟩,
    ⟨.k .bs, [.s 14], [15], some (13, true)⟩,
    ⟨.k (.bin .eql), [.s 15, .c (.s ([10, 255] : Str))], [16], some (13, true)⟩,
    ⟨.k .pick, [.s 13, .s 16, .c (.b false)], [17], none⟩,
    ⟨.k .mv, [.s 17], [0], none⟩]) none .ret))
def law3_awake.d : TFD := { np := 0, m := law3_awake.m, ref := none, tips := [], res := [.t 0], own := [], new := none, tnew := [] }
noncomputable def law3_awake.F  : Option (List TV) := law3_awake.d.run law3_awake.E []
theorem law3_awake.F_eq  : law3_awake.F  = ck (decide ((([48, 97, 70, 102] : Str)).length ≤ 1099511627776)) (ck (decide ((([(10 : UInt8), (255 : UInt8)] : List UInt8)).length ≤ 1099511627776)) (ck (!(decide ((Hexa.text (([(10 : UInt8), (255 : UInt8)] : List UInt8))) = ([48, 97, 102, 102] : Str))) || (decide ((Hexa.text (([(10 : UInt8), (255 : UInt8)] : List UInt8))) = ([48, 97, 102, 102] : Str)))) (ck (!(cond (decide ((Hexa.text (([(10 : UInt8), (255 : UInt8)] : List UInt8))) = ([48, 97, 102, 102] : Str))) ((Hexa.bytes (([48, 97, 70, 102] : Str))).isSome) false) || (cond (decide ((Hexa.text (([(10 : UInt8), (255 : UInt8)] : List UInt8))) = ([48, 97, 102, 102] : Str))) ((Hexa.bytes (([48, 97, 70, 102] : Str))).isSome) false)) (ck (!(cond (decide ((Hexa.text (([(10 : UInt8), (255 : UInt8)] : List UInt8))) = ([48, 97, 102, 102] : Str))) ((Hexa.bytes (([48, 97, 70, 102] : Str))).isSome) false) || (cond (decide ((Hexa.text (([(10 : UInt8), (255 : UInt8)] : List UInt8))) = ([48, 97, 102, 102] : Str))) ((Hexa.bytes (([48, 97, 70, 102] : Str))).isSome) false)) (ck (!(cond (decide ((Hexa.text (([(10 : UInt8), (255 : UInt8)] : List UInt8))) = ([48, 97, 102, 102] : Str))) ((Hexa.bytes (([48, 97, 70, 102] : Str))).isSome) false) || (cond (decide ((Hexa.text (([(10 : UInt8), (255 : UInt8)] : List UInt8))) = ([48, 97, 102, 102] : Str))) ((Hexa.bytes (([48, 97, 70, 102] : Str))).isSome) false)) (some [(.b (cond (cond (decide ((Hexa.text (([(10 : UInt8), (255 : UInt8)] : List UInt8))) = ([48, 97, 102, 102] : Str))) ((Hexa.bytes (([48, 97, 70, 102] : Str))).isSome) false) (decide (((Hexa.bytes (([48, 97, 70, 102] : Str))).getD []) = ([10, 255] : Str))) false))])))))) := by kernel_rfl
theorem law3_awake.chk : ((Go.Proofs.Try.prog.funcs[7]?).any fun fn => chkF Go.Proofs.Try.prog (fun n => ((envL noGl law3_awake.env).fs n).2) fn law3_awake.d.erase) = true := by kernel_rfl
/-! ## propylon/propylonlaw3.HexaTells -/
def HexaTells.sg : FSig := {}
def HexaTells.c : Ctr := fun l => match l with
  | [.sl .bs b, .s s] => .ok [(.b (true))]
  | _ => .err
def HexaTells.env : List (Nat × (Ctr × FSig)) := [(7, (law3_awake.c, law3_awake.sg)), (8, (hexa_Bytes.c, hexa_Bytes.sg)), (9, (ref3_Unhex.c, ref3_Unhex.sg)), (10, (hexa_Text.c, hexa_Text.sg)), (11, (ref3_Hex.c, ref3_Hex.sg))]
def HexaTells.E : TEnv := envL noGl HexaTells.env
def HexaTells.m : TM := .seq (.reg [
    ⟨.k .mv, [.c (.b false)], [4], none⟩]) none (.seq (.seq (.reg [
    ⟨.k (.call 7 (.plain 0 1)), [], [9], none⟩,
    ⟨.k (.un .not), [.s 9], [10], none⟩]) none (.cond (.s 10) [] (.seq (.reg [
    ⟨.k .mv, [.c (.b false)], [4], none⟩]) none .ret) .skip)) none (.seq (.seq (.reg [
    ⟨.k .mv, [.s 0], [11], none⟩,
    ⟨.k .len, [.s 11], [12], none⟩,
    ⟨.k (.bin .gtr), [.s 12, .c (.i .i64 (1000 : Int))], [13], none⟩,
    ⟨.k .mv, [.s 13], [14], none⟩,
    ⟨.k .mv, [.s 1], [15], some (14, false)⟩,
    ⟨.k .lns, [.s 15], [16], some (14, false)⟩,
    ⟨.k (.bin .gtr), [.s 16, .c (.i .i64 (1000 : Int))], [17], some (14, false)⟩,
    ⟨.k .pick, [.s 14, .c (.b true), .s 17], [18], none⟩]) none (.cond (.s 18) [] (.seq (.reg [
    ⟨.k .mv, [.c (.b true)], [4], none⟩]) none .ret) .skip)) none (.seq (.reg [
    ⟨.k .mv, [.s 1], [20], none⟩,
    ⟨.k (.call 8 (.plain 1 2)), [.s 20], [21], none⟩,
    ⟨.k .mv, [.s 21], [19], none⟩,
    ⟨.k (.ex 0), [.s 19], [22], none⟩,
    ⟨.k (.ex 1), [.s 19], [23], none⟩,
    ⟨.k .mv, [.s 22], [5], none⟩,
    ⟨.k .mv, [.s 23], [6], none⟩]) none (.seq (.reg [
    ⟨.k .mv, [.s 1], [25], none⟩,
    ⟨.k (.call 9 (.plain 1 2)), [.s 25], [26], none⟩,
    ⟨.k .mv, [.s 26], [24], none⟩,
    ⟨.k (.ex 0), [.s 24], [27], none⟩,
    ⟨.k (.ex 1), [.s 24], [28], none⟩,
    ⟨.k .mv, [.s 27], [7], none⟩,
    ⟨.k .mv, [.s 28], [8], none⟩]) none (.seq (.reg [
    ⟨.k .mv, [.s 0], [29], none⟩,
    ⟨.k (.call 10 (.plain 1 1)), [.s 29], [30], none⟩,
    ⟨.k .mv, [.s 0], [31], none⟩,
    ⟨.k (.call 11 (.plain 1 1)), [.s 31], [32], none⟩,
    ⟨.k (.bin .eql), [.s 30, .s 32], [33], none⟩,
    ⟨.k .mv, [.s 33], [34], none⟩,
    ⟨.k .mv, [.s 6], [35], some (34, true)⟩,
    ⟨.k .mv, [.s 8], [36], some (34, true)⟩,
    ⟨.k (.be false), [.s 35, .s 36], [37], some (34, true)⟩,
    ⟨.k .pick, [.s 34, .s 37, .c (.b false)], [38], none⟩,
    ⟨.k .mv, [.s 38], [39], none⟩,
    ⟨.k .mv, [.s 5], [40], some (39, true)⟩,
    ⟨.k .bs, [.s 40], [41], some (39, true)⟩,
    ⟨.k .mv, [.s 7], [42], some (39, true)⟩,
    ⟨.k .bs, [.s 42], [43], some (39, true)⟩,
    ⟨.k (.bin .eql), [.s 41, .s 43], [44], some (39, true)⟩,
    ⟨.k .pick, [.s 39, .s 44, .c (.b false)], [45], none⟩,
    ⟨.k .mv, [.s 45], [4], none⟩]) none .ret)))))
def HexaTells.d : TFD := { np := 2, m := HexaTells.m, ref := none, tips := [], res := [.t 4], own := [], new := none, tnew := [] }
noncomputable def HexaTells.F (b : List UInt8) (s : Str) : Option (List TV) := HexaTells.d.run HexaTells.E [(.sl .bs b), (.s s)]
theorem HexaTells.F_eq (b : List UInt8) (s : Str) : HexaTells.F b s = cond (!(true))
    (some [(.b false)])
    (ck (!(!(decide ((1000 : Int) < ((b).length : Int)))) || (!(decide ((1000 : Int) < ((b).length : Int))))) (ck (!(!(decide ((1000 : Int) < ((b).length : Int)))) || (!(decide ((1000 : Int) < ((b).length : Int))))) (ck ((decide ((1000 : Int) < ((b).length : Int))) || (!(decide ((1000 : Int) < ((b).length : Int))))) (cond (cond (decide ((1000 : Int) < ((b).length : Int))) true (decide ((1000 : Int) < ((s).length : Int))))
    (some [(.b true)])
    (ck (decide (s.length ≤ 1099511627776)) (ck (decide (s.length ≤ 1099511627776)) (ck (decide (b.length ≤ 1099511627776)) (ck (decide (b.length ≤ 1099511627776)) (ck (!(decide ((Hexa.text b) = (Hexa.text b))) || ((decide ((Hexa.text b) = (Hexa.text b))) && (decide ((Hexa.text b) = (Hexa.text b))))) (ck (!(decide ((Hexa.text b) = (Hexa.text b))) || (decide ((Hexa.text b) = (Hexa.text b)))) (ck (!(cond (decide ((Hexa.text b) = (Hexa.text b))) (((Hexa.bytes s).isSome) == ((Hexa.bytes s).isSome)) false) || (cond (decide ((Hexa.text b) = (Hexa.text b))) (((Hexa.bytes s).isSome) == ((Hexa.bytes s).isSome)) false)) (ck (!(cond (decide ((Hexa.text b) = (Hexa.text b))) (((Hexa.bytes s).isSome) == ((Hexa.bytes s).isSome)) false) || (cond (decide ((Hexa.text b) = (Hexa.text b))) (((Hexa.bytes s).isSome) == ((Hexa.bytes s).isSome)) false)) (ck (!(cond (decide ((Hexa.text b) = (Hexa.text b))) (((Hexa.bytes s).isSome) == ((Hexa.bytes s).isSome)) false) || ((cond (decide ((Hexa.text b) = (Hexa.text b))) (((Hexa.bytes s).isSome) == ((Hexa.bytes s).isSome)) false) && (cond (decide ((Hexa.text b) = (Hexa.text b))) (((Hexa.bytes s).isSome) == ((Hexa.bytes s).isSome)) false))) (ck (!(cond (decide ((Hexa.text b) = (Hexa.text b))) (((Hexa.bytes s).isSome) == ((Hexa.bytes s).isSome)) false) || (cond (decide ((Hexa.text b) = (Hexa.text b))) (((Hexa.bytes s).isSome) == ((Hexa.bytes s).isSome)) false)) (some [(.b (cond (cond (decide ((Hexa.text b) = (Hexa.text b))) (((Hexa.bytes s).isSome) == ((Hexa.bytes s).isSome)) false) (decide (((Hexa.bytes s).getD []) = ((Hexa.bytes s).getD []))) false))]))))))))))))))) := by kernel_rfl
theorem HexaTells.chk : ((Go.Proofs.Try.prog.funcs[3]?).any fun fn => chkF Go.Proofs.Try.prog (fun n => ((envL noGl HexaTells.env).fs n).2) fn HexaTells.d.erase) = true := by kernel_rfl
/-! ## propylon/propylonlaw3.HexaJoins -/
def HexaJoins.sg : FSig := {}
def HexaJoins.c : Ctr := fun l => match l with
  | [.sl .bs a, .sl .bs b] => .ok [(.b (true))]
  | _ => .err
def HexaJoins.env : List (Nat × (Ctr × FSig)) := [(7, (law3_awake.c, law3_awake.sg)), (10, (hexa_Text.c, hexa_Text.sg))]
def HexaJoins.E : TEnv := envL noGl HexaJoins.env
def HexaJoins.m : TM := .seq (.reg [
    ⟨.k .mv, [.c (.b false)], [4], none⟩]) none (.seq (.seq (.reg [
    ⟨.k (.call 7 (.plain 0 1)), [], [5], none⟩,
    ⟨.k (.un .not), [.s 5], [6], none⟩]) none (.cond (.s 6) [] (.seq (.reg [
    ⟨.k .mv, [.c (.b false)], [4], none⟩]) none .ret) .skip)) none (.seq (.seq (.reg [
    ⟨.k .mv, [.s 0], [7], none⟩,
    ⟨.k .len, [.s 7], [8], none⟩,
    ⟨.k (.bin .gtr), [.s 8, .c (.i .i64 (500 : Int))], [9], none⟩,
    ⟨.k .mv, [.s 9], [10], none⟩,
    ⟨.k .mv, [.s 1], [11], some (10, false)⟩,
    ⟨.k .len, [.s 11], [12], some (10, false)⟩,
    ⟨.k (.bin .gtr), [.s 12, .c (.i .i64 (500 : Int))], [13], some (10, false)⟩,
    ⟨.k .pick, [.s 10, .c (.b true), .s 13], [14], none⟩]) none (.cond (.s 14) [] (.seq (.reg [
    ⟨.k .mv, [.c (.b true)], [4], none⟩]) none .ret) .skip)) none (.seq (.reg [
    ⟨.blt .bs 0 100, [.s (lk 100)], [15, lk 100], none⟩,
    ⟨.k .mv, [.s 0], [16], none⟩,
    ⟨.k (.ap 100 101 1 1), [.s 15, .s 16, .s (lk 100), .s (lk 101)], [17, lk 100, lk 101], none⟩,
    ⟨.k .mv, [.s 1], [18], none⟩,
    ⟨.k (.ap 101 102 1 1), [.s 17, .s 18, .s (lk 101), .s (lk 102)], [19, lk 101, lk 102], none⟩,
    ⟨.k (.call 10 (.plain 1 1)), [.s 19], [20], none⟩,
    ⟨.k .mv, [.s 0], [21], none⟩,
    ⟨.k (.call 10 (.plain 1 1)), [.s 21], [22], none⟩,
    ⟨.k .mv, [.s 1], [23], none⟩,
    ⟨.k (.call 10 (.plain 1 1)), [.s 23], [24], none⟩,
    ⟨.k (.bin .add), [.s 22, .s 24], [25], none⟩,
    ⟨.k (.bin .eql), [.s 20, .s 25], [26], none⟩,
    ⟨.k .mv, [.s 26], [4], none⟩]) none .ret)))
def HexaJoins.d : TFD := { np := 2, m := HexaJoins.m, ref := none, tips := [], res := [.t 4], own := [], new := none, tnew := [] }
noncomputable def HexaJoins.F (a : List UInt8) (b : List UInt8) : Option (List TV) := HexaJoins.d.run HexaJoins.E [(.sl .bs a), (.sl .bs b)]
theorem HexaJoins.F_eq (a : List UInt8) (b : List UInt8) : HexaJoins.F a b = cond (!(true))
    (some [(.b false)])
    (ck (!(!(decide ((500 : Int) < ((a).length : Int)))) || (!(decide ((500 : Int) < ((a).length : Int))))) (ck (!(!(decide ((500 : Int) < ((a).length : Int)))) || (!(decide ((500 : Int) < ((a).length : Int))))) (ck ((decide ((500 : Int) < ((a).length : Int))) || (!(decide ((500 : Int) < ((a).length : Int))))) (cond (cond (decide ((500 : Int) < ((a).length : Int))) true (decide ((500 : Int) < ((b).length : Int))))
    (some [(.b true)])
    (ck (apOK ((([] : List UInt8)).length + (a).length) 1) (ck (apOK (((([] : List UInt8) ++ a)).length + (b).length) 1) (ck (decide ((((([] : List UInt8) ++ a) ++ b)).length ≤ 1099511627776)) (ck (decide (a.length ≤ 1099511627776)) (ck (decide (b.length ≤ 1099511627776)) (ck (decide (((Hexa.text a)).length + ((Hexa.text b)).length ≤ 9223372036854775807)) (some [(.b (decide ((Hexa.text (((([] : List UInt8) ++ a) ++ b))) = ((Hexa.text a) ++ (Hexa.text b)))))]))))))))))) := by kernel_rfl
theorem HexaJoins.chk : ((Go.Proofs.Try.prog.funcs[5]?).any fun fn => chkF Go.Proofs.Try.prog (fun n => ((envL noGl HexaJoins.env).fs n).2) fn HexaJoins.d.erase) = true := by kernel_rfl
end Go.Eng
