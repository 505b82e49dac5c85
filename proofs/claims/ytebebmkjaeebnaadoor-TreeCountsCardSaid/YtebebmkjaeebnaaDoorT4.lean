/- Texts of my own, one behind the other: TrydG, TdUtfP, TdP1, TdP2, TdP3, TdP4, TdRegP, TdBookP, TrydP, TrydOK, TrydLCounts, TrydQCounts, TrydOKCounts. -/
import Derived.Test.YtebebmkjaeebnaaDoorT3
set_option linter.unusedVariables false
set_option linter.unusedSimpArgs false
namespace Go.Eng
open Go.Proofs
noncomputable def trydGl : Nat → TV := glL [(0, tabV .u64 Lib.pow10Tab)]
noncomputable section
def utf_is.sg : FSig := {}
def utf_is.c : Ctr := fun l => match l with
  | [.i .i64 r] => .ok [(.b (Utf.isRune r))]
  | _ => .err
def utf_Rune.sg : FSig := { nres := 2 }
def utf_Rune.c : Ctr := fun l => match l with
  | [.sl .bs b, .i .i64 at_] => .if_ (decide (b.length ≤ 1099511627776)) [(.i .i64 ((Utf.runeAt b at_).1)), (.i .i64 ((Utf.runeAt b at_).2))]
  | _ => .err
def utf_look.sg : FSig := { nres := 2 }
def utf_look.c : Ctr := fun l => match l with
  | [.sl .bs b] => .if_ (decide (b.length ≤ 1099511627776)) [(.i .i64 (((Utf.look b).1 : Int))), (.i .i64 (((Utf.look b).2 : Int)))]
  | _ => .err
def utf_Check.sg : FSig := { nres := 2 }
def utf_Check.c : Ctr := fun l => match l with
  | [.sl .bs b] => .if_ (decide (b.length ≤ 1099511627776)) [(.i .i64 (((Utf.look b).1 : Int))), (.b (Utf.whole b))]
  | _ => .err
def sl_IndexByte.sg : FSig := {}
def sl_IndexByte.c : Ctr := fun l => match l with
  | [.s s, .u8 c] => .ok [(.i .i64 (Lib.indexByte s c))]
  | _ => .err
def sl_Index.sg : FSig := {}
def sl_Index.c : Ctr := fun l => match l with
  | [.s s, .s t] => .if_ (decide (t.length = 1)) [(.i .i64 (Lib.indexByte s (t.getD 0 0)))]
  | _ => .err
def st_Index.sg : FSig := {}
def st_Index.c : Ctr := fun l => match l with
  | [.s s, .s t] => .if_ (decide (t.length = 1)) [(.i .i64 (Lib.indexByte s (t.getD 0 0)))]
  | _ => .err
def st_Contains.sg : FSig := {}
def st_Contains.c : Ctr := fun l => match l with
  | [.s s, .s t] => .if_ (decide (t.length = 1)) [(.b (decide (0 ≤ Lib.indexByte s (t.getD 0 0))))]
  | _ => .err
def clone_is.sg : FSig := { ps := some (0, 1) }
def clone_is.c : Ctr := cloneC .is 8
def tree_Name.sg : FSig := {}
def tree_Name.c : Ctr := fun l => match l with
  | [.i .i64 k] => .ok [(.s (Tree.name k))]
  | _ => .err
def tree_fields.sg : FSig := {}
def tree_fields.c : Ctr := fun l => match l with
  | [.ag [.i .i64 v_kind, .u64 v_bits, .u64 v_high, .u64 v_low, .s v_text, .s v_more, .i .i64 v_sub, .sl .bs v_bytes, .sl .fl v_kids]] => .ok [(.b (Tree.fieldsOK (Val.mk v_kind v_bits v_high v_low v_text v_more v_sub v_bytes v_kids)))]
  | _ => .err
def tree_whole.sg : FSig := {}
def tree_whole.c : Ctr := fun l => match l with
  | [.s s, .b plain] => .if_ (decide (s.length ≤ 1099511627776)) [(.b (Tree.wholeT s plain))]
  | _ => .err
def tree_check.sg : FSig := { nres := 2, ps := some (2, 1) }
def tree_check.c : Ctr := fun l => match l with
  | [.ag [.i .i64 v_kind, .u64 v_bits, .u64 v_high, .u64 v_low, .s v_text, .s v_more, .i .i64 v_sub, .sl .bs v_bytes, .sl .fl v_kids], .s name, .sl .is path] => .if_ (decide (Fld.bulk (Fld.of name (Val.mk v_kind v_bits v_high v_low v_text v_more v_sub v_bytes v_kids)) + path.length ≤ 1099511627776)) [(.sl .is ((Tree.chkF (Fld.of name (Val.mk v_kind v_bits v_high v_low v_text v_more v_sub v_bytes v_kids)) path).1)), (.i .i64 ((Tree.chkF (Fld.of name (Val.mk v_kind v_bits v_high v_low v_text v_more v_sub v_bytes v_kids)) path).2))]
  | _ => .err
def tree_check.cn (n : Nat) : Ctr := fun l => match l with
  | [.ag [.i .i64 v_kind, .u64 v_bits, .u64 v_high, .u64 v_low, .s v_text, .s v_more, .i .i64 v_sub, .sl .bs v_bytes, .sl .fl v_kids], .s name, .sl .is path] => .if_ ((decide (Fld.bulk (Fld.of name (Val.mk v_kind v_bits v_high v_low v_text v_more v_sub v_bytes v_kids)) + path.length ≤ 1099511627776)) && decide ((Fld.bulk (Fld.of name (Val.mk v_kind v_bits v_high v_low v_text v_more v_sub v_bytes v_kids))) < n)) [(.sl .is ((Tree.chkF (Fld.of name (Val.mk v_kind v_bits v_high v_low v_text v_more v_sub v_bytes v_kids)) path).1)), (.i .i64 ((Tree.chkF (Fld.of name (Val.mk v_kind v_bits v_high v_low v_text v_more v_sub v_bytes v_kids)) path).2))]
  | _ => .err
def tree_Check.sg : FSig := { nres := 2 }
def tree_Check.c : Ctr := fun l => match l with
  | [.ag [.i .i64 v_kind, .u64 v_bits, .u64 v_high, .u64 v_low, .s v_text, .s v_more, .i .i64 v_sub, .sl .bs v_bytes, .sl .fl v_kids]] => .if_ (decide (Fld.bulk (Fld.of [] (Val.mk v_kind v_bits v_high v_low v_text v_more v_sub v_bytes v_kids)) ≤ 1099511627776)) [(.sl .is ((Tree.chkF (Fld.of [] (Val.mk v_kind v_bits v_high v_low v_text v_more v_sub v_bytes v_kids)) []).1)), (.i .i64 ((Tree.chkF (Fld.of [] (Val.mk v_kind v_bits v_high v_low v_text v_more v_sub v_bytes v_kids)) []).2))]
  | _ => .err
def tree_Depth.sg : FSig := {}
def tree_Depth.c : Ctr := fun l => match l with
  | [.ag [.i .i64 v_kind, .u64 v_bits, .u64 v_high, .u64 v_low, .s v_text, .s v_more, .i .i64 v_sub, .sl .bs v_bytes, .sl .fl v_kids]] => .if_ (decide (Fld.bulk (Fld.of [] (Val.mk v_kind v_bits v_high v_low v_text v_more v_sub v_bytes v_kids)) ≤ 1099511627776)) [(.i .i64 ((Tree.depth (Fld.of [] (Val.mk v_kind v_bits v_high v_low v_text v_more v_sub v_bytes v_kids)) : Int)))]
  | _ => .err
def tree_Depth.cn (n : Nat) : Ctr := fun l => match l with
  | [.ag [.i .i64 v_kind, .u64 v_bits, .u64 v_high, .u64 v_low, .s v_text, .s v_more, .i .i64 v_sub, .sl .bs v_bytes, .sl .fl v_kids]] => .if_ ((decide (Fld.bulk (Fld.of [] (Val.mk v_kind v_bits v_high v_low v_text v_more v_sub v_bytes v_kids)) ≤ 1099511627776)) && decide ((Fld.bulk (Fld.of [] (Val.mk v_kind v_bits v_high v_low v_text v_more v_sub v_bytes v_kids))) < n)) [(.i .i64 ((Tree.depth (Fld.of [] (Val.mk v_kind v_bits v_high v_low v_text v_more v_sub v_bytes v_kids)) : Int)))]
  | _ => .err
def ref1_SameInts.sg : FSig := {}
def ref1_SameInts.c : Ctr := fun l => match l with
  | [.sl .is a, .sl .is b] => .if_ (decide (a.length ≤ 1099511627776)) [(.b (decide (a = b)))]
  | _ => .err
def book_Room.sg : FSig := {}
def book_Room.c : Ctr := fun l => match l with
  | [.i .i64 left, .sl .is sizes] => .if_ (decide (left ≤ 1200 ∧ sizes.length ≤ 10) && sizes.all (fun s => decide (0 ≤ s))) [(.i .i64 (Book.room left sizes))]
  | _ => .err
def book_Value.sg : FSig := {}
def book_Value.c : Ctr := fun l => match l with
  | [.i .i64 left, .ag [.i .i64 v_kind, .u64 v_bits, .u64 v_high, .u64 v_low, .s v_text, .s v_more, .i .i64 v_sub, .sl .bs v_bytes, .sl .fl v_kids]] => .if_ (decide (left ≤ 1200)) [(.i .i64 (Book.value left (Fld.of [] (Val.mk v_kind v_bits v_high v_low v_text v_more v_sub v_bytes v_kids))))]
  | _ => .err
def book_Value.cn (n : Nat) : Ctr := fun l => match l with
  | [.i .i64 left, .ag [.i .i64 v_kind, .u64 v_bits, .u64 v_high, .u64 v_low, .s v_text, .s v_more, .i .i64 v_sub, .sl .bs v_bytes, .sl .fl v_kids]] => .if_ ((decide (left ≤ 1200)) && decide ((Fld.bulk (Fld.of [] (Val.mk v_kind v_bits v_high v_low v_text v_more v_sub v_bytes v_kids))) < n)) [(.i .i64 (Book.value left (Fld.of [] (Val.mk v_kind v_bits v_high v_low v_text v_more v_sub v_bytes v_kids))))]
  | _ => .err
def book_Small.sg : FSig := {}
def book_Small.c : Ctr := fun l => match l with
  | [.ag [.i .i64 v_kind, .u64 v_bits, .u64 v_high, .u64 v_low, .s v_text, .s v_more, .i .i64 v_sub, .sl .bs v_bytes, .sl .fl v_kids]] => .ok [(.b (decide (0 ≤ Book.value 1200 (Fld.of [] (Val.mk v_kind v_bits v_high v_low v_text v_more v_sub v_bytes v_kids)))))]
  | _ => .err
def law17_awake.sg : FSig := {}
def law17_awake.c : Ctr := fun l => match l with
  | [] => .ok [(.b (true))]
  | _ => .err
def sc_Itoa.sg : FSig := {}
def sc_Itoa.c : Ctr := itoaC
def ref5_Digits.sg : FSig := {}
def ref5_Digits.c : Ctr := fun l => match l with
  | [.u64 v] => .ok [(.s (digs (v).toNat))]
  | _ => .err
def ref17_Kids.sg : FSig := {}
def ref17_Kids.c : Ctr := fun l => match l with
  | [.i .i64 k] => .ok [(.b (decide (k = 3 ∨ k = 4 ∨ k = 15)))]
  | _ => .err
def tree_Count.sg : FSig := {}
def tree_Count.c : Ctr := fun l => match l with
  | [.ag [.i .i64 v_kind, .u64 v_bits, .u64 v_high, .u64 v_low, .s v_text, .s v_more, .i .i64 v_sub, .sl .bs v_bytes, .sl .fl v_kids]] => .if_ (decide (Fld.bulk (Fld.of [] (Val.mk v_kind v_bits v_high v_low v_text v_more v_sub v_bytes v_kids)) ≤ 1099511627776)) [(.i .i64 ((Tree.count (Fld.of [] (Val.mk v_kind v_bits v_high v_low v_text v_more v_sub v_bytes v_kids)) : Int)))]
  | _ => .err
def tree_Count.cn (n : Nat) : Ctr := fun l => match l with
  | [.ag [.i .i64 v_kind, .u64 v_bits, .u64 v_high, .u64 v_low, .s v_text, .s v_more, .i .i64 v_sub, .sl .bs v_bytes, .sl .fl v_kids]] => .if_ ((decide (Fld.bulk (Fld.of [] (Val.mk v_kind v_bits v_high v_low v_text v_more v_sub v_bytes v_kids)) ≤ 1099511627776)) && decide ((Fld.bulk (Fld.of [] (Val.mk v_kind v_bits v_high v_low v_text v_more v_sub v_bytes v_kids))) < n)) [(.i .i64 ((Tree.count (Fld.of [] (Val.mk v_kind v_bits v_high v_low v_text v_more v_sub v_bytes v_kids)) : Int)))]
  | _ => .err
def ref17_Count.sg : FSig := {}
def ref17_Count.c : Ctr := fun l => match l with
  | [.ag [.i .i64 v_kind, .u64 v_bits, .u64 v_high, .u64 v_low, .s v_text, .s v_more, .i .i64 v_sub, .sl .bs v_bytes, .sl .fl v_kids]] => .if_ (decide (Fld.bulk (Fld.of [] (Val.mk v_kind v_bits v_high v_low v_text v_more v_sub v_bytes v_kids)) ≤ 1099511627776)) [(.i .i64 ((Tree.count (Fld.of [] (Val.mk v_kind v_bits v_high v_low v_text v_more v_sub v_bytes v_kids)) : Int)))]
  | _ => .err
def ref17_Count.cn (n : Nat) : Ctr := fun l => match l with
  | [.ag [.i .i64 v_kind, .u64 v_bits, .u64 v_high, .u64 v_low, .s v_text, .s v_more, .i .i64 v_sub, .sl .bs v_bytes, .sl .fl v_kids]] => .if_ ((decide (Fld.bulk (Fld.of [] (Val.mk v_kind v_bits v_high v_low v_text v_more v_sub v_bytes v_kids)) ≤ 1099511627776)) && decide ((Fld.bulk (Fld.of [] (Val.mk v_kind v_bits v_high v_low v_text v_more v_sub v_bytes v_kids))) < n)) [(.i .i64 ((Tree.count (Fld.of [] (Val.mk v_kind v_bits v_high v_low v_text v_more v_sub v_bytes v_kids)) : Int)))]
  | _ => .err
def ref17_Depth.sg : FSig := {}
def ref17_Depth.c : Ctr := fun l => match l with
  | [.ag [.i .i64 v_kind, .u64 v_bits, .u64 v_high, .u64 v_low, .s v_text, .s v_more, .i .i64 v_sub, .sl .bs v_bytes, .sl .fl v_kids]] => .if_ (decide (Fld.bulk (Fld.of [] (Val.mk v_kind v_bits v_high v_low v_text v_more v_sub v_bytes v_kids)) ≤ 1099511627776)) [(.i .i64 ((Tree.depth (Fld.of [] (Val.mk v_kind v_bits v_high v_low v_text v_more v_sub v_bytes v_kids)) : Int)))]
  | _ => .err
def ref17_Depth.cn (n : Nat) : Ctr := fun l => match l with
  | [.ag [.i .i64 v_kind, .u64 v_bits, .u64 v_high, .u64 v_low, .s v_text, .s v_more, .i .i64 v_sub, .sl .bs v_bytes, .sl .fl v_kids]] => .if_ ((decide (Fld.bulk (Fld.of [] (Val.mk v_kind v_bits v_high v_low v_text v_more v_sub v_bytes v_kids)) ≤ 1099511627776)) && decide ((Fld.bulk (Fld.of [] (Val.mk v_kind v_bits v_high v_low v_text v_more v_sub v_bytes v_kids))) < n)) [(.i .i64 ((Tree.depth (Fld.of [] (Val.mk v_kind v_bits v_high v_low v_text v_more v_sub v_bytes v_kids)) : Int)))]
  | _ => .err
def tree_Regular.sg : FSig := {}
def tree_Regular.c : Ctr := fun l => match l with
  | [.sl .fl l] => .if_ (decide (l.length ≤ 1099511627776)) [(.b (Tree.regular l))]
  | _ => .err
def ref17_Regular.sg : FSig := {}
def ref17_Regular.c : Ctr := fun l => match l with
  | [.sl .fl l] => .if_ (decide (l.length ≤ 1099511627776)) [(.b (Tree.regular l))]
  | _ => .err
end
noncomputable section
def utf_is.env : List (Nat × (Ctr × FSig)) := []
def utf_is.E : TEnv := envL trydGl utf_is.env
def utf_is.m : TM := .seq (.reg [
    ⟨.k .mv, [.c (.b false)], [2], none⟩]) none (.seq (.reg [
    ⟨.k .mv, [.s 0], [3], none⟩,
    ⟨.k (.bin .geq), [.s 3, .c (.i .i64 (0 : Int))], [4], none⟩,
    ⟨.k .mv, [.s 4], [5], none⟩,
    ⟨.k .mv, [.s 0], [6], some (5, true)⟩,
    ⟨.k (.bin .leq), [.s 6, .c (.i .i64 (1114111 : Int))], [7], some (5, true)⟩,
    ⟨.k .pick, [.s 5, .s 7, .c (.b false)], [8], none⟩,
    ⟨.k .mv, [.s 8], [9], none⟩,
    ⟨.k .mv, [.s 0], [10], some (9, true)⟩,
    ⟨.k (.bin .lss), [.s 10, .c (.i .i64 (55296 : Int))], [11], some (9, true)⟩,
    ⟨.k .mv, [.s 11], [12], some (9, true)⟩,
    ⟨.k .mv, [.s 0], [13], some (12, false)⟩,
    ⟨.k (.bin .gtr), [.s 13, .c (.i .i64 (57343 : Int))], [14], some (12, false)⟩,
    ⟨.k .pick, [.s 12, .c (.b true), .s 14], [15], some (9, true)⟩,
    ⟨.k .pick, [.s 9, .s 15, .c (.b false)], [16], none⟩,
    ⟨.k .mv, [.s 16], [2], none⟩]) none .ret)
def utf_is.d : TFD := { np := 1, m := utf_is.m, ref := none, tips := [], res := [.t 2], own := [], new := none, tnew := [] }
noncomputable def utf_is.F (r : Int) : Option (List TV) := utf_is.d.run utf_is.E [(.i .i64 r)]
theorem utf_is.F_in (r : Int) {ρ : Option (List TV)} (K : ∀ (v1 : Bool) (h1 : v1 = (cond (decide ((0 : Int) ≤ r)) (decide (r ≤ (1114111 : Int))) false)) (v2 : Bool) (h2 : v2 = (v1 && (!(decide (r < (55296 : Int)))))) (v3 : Bool) (h3 : v3 = (cond (decide (r < (55296 : Int))) true (decide ((57343 : Int) < r)))), ck (!(decide ((0 : Int) ≤ r)) || (decide ((0 : Int) ≤ r))) (ck (!(decide ((0 : Int) ≤ r)) || (decide ((0 : Int) ≤ r))) (ck (!v1 || v1) (ck (!v1 || v1) (ck (!v2 || v2) (ck (!v1 || (v1 && ((decide (r < (55296 : Int))) || v2))) (ck (!v1 || v1) (some [(.b (cond v1 v3 false))]))))))) = ρ) : utf_is.F r = ρ := Eq.trans (by kernel_rfl) (K _ rfl _ rfl _ rfl)
theorem utf_is.chk : ((Go.Proofs.Tryd.prog.funcs[45]?).any fun fn => chkF Go.Proofs.Tryd.prog (fun k => ((envL trydGl utf_is.env).fs k).2) fn utf_is.d.erase) = true := by kernel_rfl
def utf_Rune.env : List (Nat × (Ctr × FSig)) := [(45, (utf_is.c, utf_is.sg))]
def utf_Rune.E : TEnv := envL trydGl utf_Rune.env
def utf_Rune.m1 : TM := .seq (.seq (.reg [
    ⟨.k .mv, [.s 7], [54], none⟩,
    ⟨.k .mv, [.s 0], [55], none⟩,
    ⟨.k .len, [.s 55], [56], none⟩,
    ⟨.k .mv, [.s 1], [57], none⟩,
    ⟨.k (.bin .sub), [.s 56, .s 57], [58], none⟩,
    ⟨.k (.bin .sub), [.s 58, .c (.i .i64 (1 : Int))], [59], none⟩,
    ⟨.k (.bin .gtr), [.s 54, .s 59], [60], none⟩]) none (.cond (.s 60) [] (.exit (gid 0)) .skip)) none (.seq (.reg [
    ⟨.k .mv, [.c (.i .i64 (1 : Int))], [9], none⟩]) none (.seq .skip none (.seq (.seq (.reg [
    ⟨.k .mv, [.s 9], [61], none⟩,
    ⟨.k .mv, [.s 7], [62], none⟩,
    ⟨.k (.bin .leq), [.s 61, .s 62], [63], none⟩]) none (.cond (.s 63) [] (.seq (.seq (.reg [
    ⟨.k .mv, [.s 0], [64], none⟩,
    ⟨.k .mv, [.s 1], [65], none⟩,
    ⟨.k .mv, [.s 9], [66], none⟩,
    ⟨.k (.bin .add), [.s 65, .s 66], [67], none⟩,
    ⟨.k (.ix 1), [.s 64, .s 67], [68], none⟩,
    ⟨.k (.lr 1 false), [.s 68], [69], none⟩,
    ⟨.k (.bin .and), [.s 69, .c (.u8 (192 : UInt8))], [70], none⟩,
    ⟨.k (.bin .neq), [.s 70, .c (.u8 (128 : UInt8))], [71], none⟩]) none (.cond (.s 71) [] (.exit (gid 0)) .skip)) none (.seq (.reg [
    ⟨.k .mv, [.s 4], [72], none⟩,
    ⟨.k (.bin .shl), [.s 72, .c (.u64 (6 : UInt64))], [73], none⟩,
    ⟨.k .mv, [.s 0], [74], none⟩,
    ⟨.k .mv, [.s 1], [75], none⟩,
    ⟨.k .mv, [.s 9], [76], none⟩,
    ⟨.k (.bin .add), [.s 75, .s 76], [77], none⟩,
    ⟨.k (.ix 1), [.s 74, .s 77], [78], none⟩,
    ⟨.k (.lr 1 false), [.s 78], [79], none⟩,
    ⟨.k (.bin .and), [.s 79, .c (.u8 (63 : UInt8))], [80], none⟩,
    ⟨.k (.ci .i64), [.s 80], [81], none⟩,
    ⟨.k (.bin .or), [.s 73, .s 81], [82], none⟩,
    ⟨.k .mv, [.s 82], [4], none⟩]) none (.seq (.reg [
    ⟨.k .mv, [.s 9], [83], none⟩,
    ⟨.k (.bin .add), [.s 83, .c (.i .i64 (1 : Int))], [84], none⟩,
    ⟨.k .mv, [.s 84], [9], none⟩]) none (.exit (gid 1))))) .skip)) none (.seq (.seq (.reg [
    ⟨.k .mv, [.s 4], [85], none⟩,
    ⟨.k .mv, [.s 8], [86], none⟩,
    ⟨.k (.bin .lss), [.s 85, .s 86], [87], none⟩,
    ⟨.k .mv, [.s 87], [88], none⟩,
    ⟨.k .mv, [.s 4], [89], some (88, false)⟩,
    ⟨.k (.call 45 (.plain 1 1)), [.s 89], [90], some (88, false)⟩,
    ⟨.k (.un .not), [.s 90], [91], some (88, false)⟩,
    ⟨.k .pick, [.s 88, .c (.b true), .s 91], [92], none⟩]) none (.cond (.s 92) [] (.exit (gid 0)) .skip)) none (.seq (.seq (.reg [
    ⟨.k .mv, [.s 4], [93], none⟩,
    ⟨.k .mv, [.s 7], [94], none⟩,
    ⟨.k (.bin .add), [.s 94, .c (.i .i64 (1 : Int))], [95], none⟩,
    ⟨.k .mv, [.s 93], [4], none⟩,
    ⟨.k .mv, [.s 95], [5], none⟩]) none .ret) none .skip)))))
def utf_Rune.m2 : TM := .seq .skip none (.seq (.seq (.reg [
    ⟨.k .mv, [.s 9], [61], none⟩,
    ⟨.k .mv, [.s 7], [62], none⟩,
    ⟨.k (.bin .leq), [.s 61, .s 62], [63], none⟩]) none (.cond (.s 63) [] (.seq (.seq (.reg [
    ⟨.k .mv, [.s 0], [64], none⟩,
    ⟨.k .mv, [.s 1], [65], none⟩,
    ⟨.k .mv, [.s 9], [66], none⟩,
    ⟨.k (.bin .add), [.s 65, .s 66], [67], none⟩,
    ⟨.k (.ix 1), [.s 64, .s 67], [68], none⟩,
    ⟨.k (.lr 1 false), [.s 68], [69], none⟩,
    ⟨.k (.bin .and), [.s 69, .c (.u8 (192 : UInt8))], [70], none⟩,
    ⟨.k (.bin .neq), [.s 70, .c (.u8 (128 : UInt8))], [71], none⟩]) none (.cond (.s 71) [] (.exit (gid 0)) .skip)) none (.seq (.reg [
    ⟨.k .mv, [.s 4], [72], none⟩,
    ⟨.k (.bin .shl), [.s 72, .c (.u64 (6 : UInt64))], [73], none⟩,
    ⟨.k .mv, [.s 0], [74], none⟩,
    ⟨.k .mv, [.s 1], [75], none⟩,
    ⟨.k .mv, [.s 9], [76], none⟩,
    ⟨.k (.bin .add), [.s 75, .s 76], [77], none⟩,
    ⟨.k (.ix 1), [.s 74, .s 77], [78], none⟩,
    ⟨.k (.lr 1 false), [.s 78], [79], none⟩,
    ⟨.k (.bin .and), [.s 79, .c (.u8 (63 : UInt8))], [80], none⟩,
    ⟨.k (.ci .i64), [.s 80], [81], none⟩,
    ⟨.k (.bin .or), [.s 73, .s 81], [82], none⟩,
    ⟨.k .mv, [.s 82], [4], none⟩]) none (.seq (.reg [
    ⟨.k .mv, [.s 9], [83], none⟩,
    ⟨.k (.bin .add), [.s 83, .c (.i .i64 (1 : Int))], [84], none⟩,
    ⟨.k .mv, [.s 84], [9], none⟩]) none (.exit (gid 1))))) .skip)) none (.seq (.seq (.reg [
    ⟨.k .mv, [.s 4], [85], none⟩,
    ⟨.k .mv, [.s 8], [86], none⟩,
    ⟨.k (.bin .lss), [.s 85, .s 86], [87], none⟩,
    ⟨.k .mv, [.s 87], [88], none⟩,
    ⟨.k .mv, [.s 4], [89], some (88, false)⟩,
    ⟨.k (.call 45 (.plain 1 1)), [.s 89], [90], some (88, false)⟩,
    ⟨.k (.un .not), [.s 90], [91], some (88, false)⟩,
    ⟨.k .pick, [.s 88, .c (.b true), .s 91], [92], none⟩]) none (.cond (.s 92) [] (.exit (gid 0)) .skip)) none (.seq (.seq (.reg [
    ⟨.k .mv, [.s 4], [93], none⟩,
    ⟨.k .mv, [.s 7], [94], none⟩,
    ⟨.k (.bin .add), [.s 94, .c (.i .i64 (1 : Int))], [95], none⟩,
    ⟨.k .mv, [.s 93], [4], none⟩,
    ⟨.k .mv, [.s 95], [5], none⟩]) none .ret) none .skip)))
def utf_Rune.m3 : TM := .seq .skip none (.seq (.reg [
    ⟨.k .mv, [.c (.i .i64 (0 : Int))], [4], none⟩,
    ⟨.k .mv, [.c (.i .i64 (0 : Int))], [5], none⟩]) none .ret)
def utf_Rune.m : TM := .seq (.reg [
    ⟨.k .mv, [.c (.i .i64 (0 : Int))], [4], none⟩,
    ⟨.k .mv, [.c (.i .i64 (0 : Int))], [5], none⟩]) none (.sco (.lab 0 [] [] utf_Rune.m3 (.lab 1 [0, 1, 4, 7, 8, 9] [] utf_Rune.m2 (.scp (.seq (.reg [
    ⟨.k .mv, [.c (.i .i64 (0 : Int))], [6], none⟩,
    ⟨.k .mv, [.c (.i .i64 (0 : Int))], [7], none⟩,
    ⟨.k .mv, [.c (.i .i64 (0 : Int))], [8], none⟩,
    ⟨.k .mv, [.c (.i .i64 (0 : Int))], [9], none⟩]) none (.seq (.seq (.reg [
    ⟨.k .mv, [.s 1], [10], none⟩,
    ⟨.k (.bin .lss), [.s 10, .c (.i .i64 (0 : Int))], [11], none⟩,
    ⟨.k .mv, [.s 11], [12], none⟩,
    ⟨.k .mv, [.s 1], [13], some (12, false)⟩,
    ⟨.k .mv, [.s 0], [14], some (12, false)⟩,
    ⟨.k .len, [.s 14], [15], some (12, false)⟩,
    ⟨.k (.bin .geq), [.s 13, .s 15], [16], some (12, false)⟩,
    ⟨.k .pick, [.s 12, .c (.b true), .s 16], [17], none⟩]) none (.cond (.s 17) [] (.exit (gid 0)) .skip)) none (.seq (.reg [
    ⟨.k .mv, [.s 0], [18], none⟩,
    ⟨.k .mv, [.s 1], [19], none⟩,
    ⟨.k (.ix 1), [.s 18, .s 19], [20], none⟩,
    ⟨.k (.lr 1 false), [.s 20], [21], none⟩,
    ⟨.k (.ci .i64), [.s 21], [22], none⟩,
    ⟨.k .mv, [.s 22], [6], none⟩]) none (.seq (.block 0 [] (.seq (.reg [
    ⟨.k .mv, [.s 6], [24], none⟩,
    ⟨.k (.bin .lss), [.s 24, .c (.i .i64 (128 : Int))], [25], none⟩,
    ⟨.k .mv, [.s 25], [23], none⟩]) none (.cond (.s 23) [] (.seq (.reg [
    ⟨.k .mv, [.s 6], [26], none⟩,
    ⟨.k .mv, [.s 26], [4], none⟩,
    ⟨.k .mv, [.c (.i .i64 (1 : Int))], [5], none⟩]) none .ret) (.seq (.reg [
    ⟨.k .mv, [.s 6], [28], none⟩,
    ⟨.k (.bin .geq), [.s 28, .c (.i .i64 (192 : Int))], [29], none⟩,
    ⟨.k .mv, [.s 29], [30], none⟩,
    ⟨.k .mv, [.s 6], [31], some (30, true)⟩,
    ⟨.k (.bin .lss), [.s 31, .c (.i .i64 (224 : Int))], [32], some (30, true)⟩,
    ⟨.k .pick, [.s 30, .s 32, .c (.b false)], [33], none⟩,
    ⟨.k .mv, [.s 33], [27], none⟩]) none (.cond (.s 27) [] (.reg [
    ⟨.k .mv, [.s 6], [34], none⟩,
    ⟨.k (.bin .and), [.s 34, .c (.i .i64 (31 : Int))], [35], none⟩,
    ⟨.k .mv, [.s 35], [4], none⟩,
    ⟨.k .mv, [.c (.i .i64 (1 : Int))], [7], none⟩,
    ⟨.k .mv, [.c (.i .i64 (128 : Int))], [8], none⟩]) (.seq (.reg [
    ⟨.k .mv, [.s 6], [37], none⟩,
    ⟨.k (.bin .geq), [.s 37, .c (.i .i64 (224 : Int))], [38], none⟩,
    ⟨.k .mv, [.s 38], [39], none⟩,
    ⟨.k .mv, [.s 6], [40], some (39, true)⟩,
    ⟨.k (.bin .lss), [.s 40, .c (.i .i64 (240 : Int))], [41], some (39, true)⟩,
    ⟨.k .pick, [.s 39, .s 41, .c (.b false)], [42], none⟩,
    ⟨.k .mv, [.s 42], [36], none⟩]) none (.cond (.s 36) [] (.reg [
    ⟨.k .mv, [.s 6], [43], none⟩,
    ⟨.k (.bin .and), [.s 43, .c (.i .i64 (15 : Int))], [44], none⟩,
    ⟨.k .mv, [.s 44], [4], none⟩,
    ⟨.k .mv, [.c (.i .i64 (2 : Int))], [7], none⟩,
    ⟨.k .mv, [.c (.i .i64 (2048 : Int))], [8], none⟩]) (.seq (.reg [
    ⟨.k .mv, [.s 6], [46], none⟩,
    ⟨.k (.bin .geq), [.s 46, .c (.i .i64 (240 : Int))], [47], none⟩,
    ⟨.k .mv, [.s 47], [48], none⟩,
    ⟨.k .mv, [.s 6], [49], some (48, true)⟩,
    ⟨.k (.bin .lss), [.s 49, .c (.i .i64 (248 : Int))], [50], some (48, true)⟩,
    ⟨.k .pick, [.s 48, .s 50, .c (.b false)], [51], none⟩,
    ⟨.k .mv, [.s 51], [45], none⟩]) none (.cond (.s 45) [] (.reg [
    ⟨.k .mv, [.s 6], [52], none⟩,
    ⟨.k (.bin .and), [.s 52, .c (.i .i64 (7 : Int))], [53], none⟩,
    ⟨.k .mv, [.s 53], [4], none⟩,
    ⟨.k .mv, [.c (.i .i64 (3 : Int))], [7], none⟩,
    ⟨.k .mv, [.c (.i .i64 (65536 : Int))], [8], none⟩]) (.exit (gid 0))))))))))) (some [0, 1, 4, 7, 8]) utf_Rune.m1))))))))
def utf_Rune.d : TFD := { np := 2, m := utf_Rune.m, ref := none, tips := [], res := [.t 4, .t 5], own := [], new := none, tnew := [] }
noncomputable def utf_Rune.F (b : List UInt8) (at_ : Int) : Option (List TV) := utf_Rune.d.run utf_Rune.E [(.sl .bs b), (.i .i64 at_)]
noncomputable def utf_Rune.k1 : Cont (List TV) := againK (evO _ utf_Rune.E utf_Rune.m3) (isG 0) [] (endK utf_Rune.d)
noncomputable def utf_Rune.k2 : Cont (List TV) := againK (evO _ utf_Rune.E utf_Rune.m2) (isG 1) [0, 1, 4, 7, 8, 9] utf_Rune.k1
noncomputable def utf_Rune.l1 : Option (List TV) := loopL (evO _ utf_Rune.E utf_Rune.m3) (isG 0) [] (headT [] []) (endK utf_Rune.d)
noncomputable def utf_Rune.j2 (x0 : List UInt8) (x1 : Int) (x2 : Int) (x3 : Int) (x4 : Int) : Option (List TV) := evO _ utf_Rune.E utf_Rune.m1 (headT [0, 1, 4, 7, 8] [(.sl .bs x0), (.i .i64 x1), (.i .i64 x2), (.i .i64 x3), (.i .i64 x4)]) utf_Rune.k2
noncomputable def utf_Rune.l3 (x0 : List UInt8) (x1 : Int) (x2 : Int) (x3 : Int) (x4 : Int) (x5 : Int) : Option (List TV) := loopL (evO _ utf_Rune.E utf_Rune.m2) (isG 1) [0, 1, 4, 7, 8, 9] (headT [0, 1, 4, 7, 8, 9] [(.sl .bs x0), (.i .i64 x1), (.i .i64 x2), (.i .i64 x3), (.i .i64 x4), (.i .i64 x5)]) utf_Rune.k1
theorem utf_Rune.l1_eq : utf_Rune.l1 = some [(.i .i64 (0 : Int)), (.i .i64 (0 : Int))] := ((ev_loop _ _ _ _ _ _).trans (by kernel_rfl))
theorem utf_Rune.j2_in (x0 : List UInt8) (x1 : Int) (x2 : Int) (x3 : Int) (x4 : Int) {ρ : Option (List TV)} (K : ∀ (v1 : Int) (h1 : v1 = (IntKind.i64.wrap (((x0).length : Int) - x1))) (v2 : Int) (h2 : v2 = (IntKind.i64.wrap (v1 - (1 : Int)))) (v3 : Int) (h3 : v3 = (IntKind.i64.wrap (x1 + (1 : Int)))) (v4 : UInt8) (h4 : v4 = (List.getD x0 (v3).toNat (0 : UInt8))) (v5 : Bool) (h5 : v5 = (!decide ((v4 &&& (192 : UInt8)) = (128 : UInt8)))) (v6 : Int) (h6 : v6 = (IntKind.i64.wrap (x2 * 2 ^ (min (((6 : UInt64)).toNat) (IntKind.i64.bits))))) (v7 : Int) (h7 : v7 = (IntKind.i64.wrap (((v4 &&& (63 : UInt8))).toNat : Int))) (v8 : Int) (h8 : v8 = (IntKind.i64.wrap ((1 : Int) + (1 : Int)))) (v9 : Bool) (h9 : v9 = (cond (decide (x2 < x4)) true (!(Utf.isRune x2)))) (v10 : Int) (h10 : v10 = (IntKind.i64.wrap (x3 + (1 : Int)))), cond (decide (v2 < x3))
    (utf_Rune.l1)
    (cond (decide ((1 : Int) ≤ x3))
    (ck (idxOK v3 (x0).length) (cond v5
    (utf_Rune.l1)
    (ck (idxOK v3 (x0).length) (utf_Rune.l3 x0 x1 (intBitsV .or .i64 v6 v7) x3 x4 v8))))
    (ck (!(!(decide (x2 < x4))) || (!(decide (x2 < x4)))) (ck (!(!(decide (x2 < x4))) || (!(decide (x2 < x4)))) (ck ((decide (x2 < x4)) || (!(decide (x2 < x4)))) (cond v9
    (utf_Rune.l1)
    (some [(.i .i64 x2), (.i .i64 v10)])))))) = ρ) : utf_Rune.j2 x0 x1 x2 x3 x4 = ρ := ((congrFun (congrFun (ev_eq _ _) _) _).trans (by kernel_rfl)).trans (K _ rfl _ rfl _ rfl _ rfl _ rfl _ rfl _ rfl _ rfl _ rfl _ rfl)
theorem utf_Rune.l3_in (x0 : List UInt8) (x1 : Int) (x2 : Int) (x3 : Int) (x4 : Int) (x5 : Int) {ρ : Option (List TV)} (K : ∀ (v1 : UInt8) (h1 : v1 = (List.getD x0 ((IntKind.i64.wrap (x1 + x5))).toNat (0 : UInt8))) (v2 : Bool) (h2 : v2 = (!decide ((v1 &&& (192 : UInt8)) = (128 : UInt8)))) (v3 : Int) (h3 : v3 = (IntKind.i64.wrap (x2 * 2 ^ (min (((6 : UInt64)).toNat) (IntKind.i64.bits))))) (v4 : Int) (h4 : v4 = (IntKind.i64.wrap (((v1 &&& (63 : UInt8))).toNat : Int))) (v5 : Int) (h5 : v5 = (IntKind.i64.wrap (x5 + (1 : Int)))) (v6 : Bool) (h6 : v6 = (cond (decide (x2 < x4)) true (!(Utf.isRune x2)))) (v7 : Int) (h7 : v7 = (IntKind.i64.wrap (x3 + (1 : Int)))), cond (decide (x5 ≤ x3))
    (ck (idxOK (IntKind.i64.wrap (x1 + x5)) (x0).length) (cond v2
    (utf_Rune.l1)
    (ck (idxOK (IntKind.i64.wrap (x1 + x5)) (x0).length) (utf_Rune.l3 x0 x1 (intBitsV .or .i64 v3 v4) x3 x4 v5))))
    (ck (!(!(decide (x2 < x4))) || (!(decide (x2 < x4)))) (ck (!(!(decide (x2 < x4))) || (!(decide (x2 < x4)))) (ck ((decide (x2 < x4)) || (!(decide (x2 < x4)))) (cond v6
    (utf_Rune.l1)
    (some [(.i .i64 x2), (.i .i64 v7)]))))) = ρ) : utf_Rune.l3 x0 x1 x2 x3 x4 x5 = ρ := ((ev_loop _ _ _ _ _ _).trans (by kernel_rfl)).trans (K _ rfl _ rfl _ rfl _ rfl _ rfl _ rfl _ rfl)
theorem utf_Rune.F_in (b : List UInt8) (at_ : Int) {ρ : Option (List TV)} (K : ∀ (v1 : Bool) (h1 : v1 = (cond (decide (at_ < (0 : Int))) true (decide (((b).length : Int) ≤ at_)))) (v2 : UInt8) (h2 : v2 = (List.getD b (at_).toNat (0 : UInt8))) (v3 : Int) (h3 : v3 = (IntKind.i64.wrap ((v2).toNat : Int))) (v4 : Bool) (h4 : v4 = (cond (decide ((192 : Int) ≤ v3)) (decide (v3 < (224 : Int))) false)) (v5 : Int) (h5 : v5 = (intBitsV .and .i64 v3 (31 : Int))) (v6 : Bool) (h6 : v6 = (cond (decide ((224 : Int) ≤ v3)) (decide (v3 < (240 : Int))) false)) (v7 : Int) (h7 : v7 = (intBitsV .and .i64 v3 (15 : Int))) (v8 : Bool) (h8 : v8 = (cond (decide ((240 : Int) ≤ v3)) (decide (v3 < (248 : Int))) false)) (v9 : Int) (h9 : v9 = (intBitsV .and .i64 v3 (7 : Int))), ck (!(!(decide (at_ < (0 : Int)))) || (!(decide (at_ < (0 : Int))))) (ck (!(!(decide (at_ < (0 : Int)))) || ((!(decide (at_ < (0 : Int)))) && (!(decide (at_ < (0 : Int)))))) (ck ((decide (at_ < (0 : Int))) || (!(decide (at_ < (0 : Int))))) (cond v1
    (utf_Rune.l1)
    (ck (idxOK at_ (b).length) (cond (decide (v3 < (128 : Int)))
    (some [(.i .i64 v3), (.i .i64 (1 : Int))])
    (ck (!(decide ((192 : Int) ≤ v3)) || (decide ((192 : Int) ≤ v3))) (ck (!(decide ((192 : Int) ≤ v3)) || (decide ((192 : Int) ≤ v3))) (cond v4
    (utf_Rune.j2 b at_ v5 (1 : Int) (128 : Int))
    (ck (!(decide ((224 : Int) ≤ v3)) || (decide ((224 : Int) ≤ v3))) (ck (!(decide ((224 : Int) ≤ v3)) || (decide ((224 : Int) ≤ v3))) (cond v6
    (utf_Rune.j2 b at_ v7 (2 : Int) (2048 : Int))
    (ck (!(decide ((240 : Int) ≤ v3)) || (decide ((240 : Int) ≤ v3))) (ck (!(decide ((240 : Int) ≤ v3)) || (decide ((240 : Int) ≤ v3))) (cond v8
    (utf_Rune.j2 b at_ v9 (3 : Int) (65536 : Int))
    (utf_Rune.l1))))))))))))))) = ρ) : utf_Rune.F b at_ = ρ := Eq.trans (by kernel_rfl) (K _ rfl _ rfl _ rfl _ rfl _ rfl _ rfl _ rfl _ rfl _ rfl)
theorem utf_Rune.chk : ((Go.Proofs.Tryd.prog.funcs[41]?).any fun fn => chkF Go.Proofs.Tryd.prog (fun k => ((envL trydGl utf_Rune.env).fs k).2) fn utf_Rune.d.erase) = true := by kernel_rfl
def utf_look.env : List (Nat × (Ctr × FSig)) := [(41, (utf_Rune.c, utf_Rune.sg))]
def utf_look.E : TEnv := envL trydGl utf_look.env
def utf_look.m1 : TM := .seq (.seq (.reg [
    ⟨.k .mv, [.s 2], [6], none⟩,
    ⟨.k .mv, [.s 0], [7], none⟩,
    ⟨.k .len, [.s 7], [8], none⟩,
    ⟨.k (.bin .lss), [.s 6, .s 8], [9], none⟩]) none (.cond (.s 9) [] .skip (.exit 0))) none (.block 1 [] (.seq (.reg [
    ⟨.k .mv, [.s 0], [11], none⟩,
    ⟨.k .mv, [.s 2], [12], none⟩,
    ⟨.k (.call 41 (.plain 2 2)), [.s 11, .s 12], [13], none⟩,
    ⟨.k .mv, [.s 13], [10], none⟩,
    ⟨.k (.ex 0), [.s 10], [14], none⟩,
    ⟨.k (.ex 1), [.s 10], [15], none⟩,
    ⟨.k .mv, [.s 14], [4], none⟩,
    ⟨.k .mv, [.s 15], [5], none⟩]) none (.seq (.seq (.reg [
    ⟨.k .mv, [.s 5], [16], none⟩,
    ⟨.k (.bin .eql), [.s 16, .c (.i .i64 (0 : Int))], [17], none⟩]) none (.cond (.s 17) [] (.exit 0) .skip)) none (.seq (.reg [
    ⟨.k .mv, [.s 2], [18], none⟩,
    ⟨.k .mv, [.s 5], [19], none⟩,
    ⟨.k (.bin .add), [.s 18, .s 19], [20], none⟩,
    ⟨.k .mv, [.s 20], [2], none⟩]) none (.reg [
    ⟨.k .mv, [.s 3], [21], none⟩,
    ⟨.k (.bin .add), [.s 21, .c (.i .i64 (1 : Int))], [22], none⟩,
    ⟨.k .mv, [.s 22], [3], none⟩])))))
def utf_look.m2 : TM := .seq (.reg [
    ⟨.k .mv, [.s 2], [23], none⟩,
    ⟨.k .mv, [.s 3], [24], none⟩,
    ⟨.k .mv, [.s 23], [2], none⟩,
    ⟨.k .mv, [.s 24], [3], none⟩]) none .ret
def utf_look.m : TM := .seq (.reg [
    ⟨.k .mv, [.c (.i .i64 (0 : Int))], [2], none⟩,
    ⟨.k .mv, [.c (.i .i64 (0 : Int))], [3], none⟩]) none (.seq (.block 0 [] (.loop [0, 2, 3] [] utf_look.m1)) (some [2, 3]) utf_look.m2)
def utf_look.d : TFD := { np := 1, m := utf_look.m, ref := none, tips := [], res := [.t 2, .t 3], own := [], new := none, tnew := [] }
noncomputable def utf_look.F (b : List UInt8) : Option (List TV) := utf_look.d.run utf_look.E [(.sl .bs b)]
noncomputable def utf_look.k1 : Cont (List TV) := seqK (evO _ utf_look.E utf_look.m2) (some [2, 3]) (endK utf_look.d)
noncomputable def utf_look.l1 (x0 : List UInt8) (x1 : Int) (x2 : Int) : Option (List TV) := loopL (evO _ utf_look.E utf_look.m1) isN [0, 2, 3] (headT [0, 2, 3] [(.sl .bs x0), (.i .i64 x1), (.i .i64 x2)]) (blockK 0 utf_look.k1)
noncomputable def utf_look.j2 (x0 : Int) (x1 : Int) : Option (List TV) := evO _ utf_look.E utf_look.m2 (headT [2, 3] [(.i .i64 x0), (.i .i64 x1)]) (endK utf_look.d)
theorem utf_look.l1_in (x0 : List UInt8) (x1 : Int) (x2 : Int) {ρ : Option (List TV)} (K : ∀ (v1 : Int) (h1 : v1 = (IntKind.i64.wrap (x1 + ((Utf.runeAt x0 x1).2)))) (v2 : Int) (h2 : v2 = (IntKind.i64.wrap (x2 + (1 : Int)))), cond (decide (x1 < ((x0).length : Int)))
    (ck (decide (x0.length ≤ 1099511627776)) (cond (decide (((Utf.runeAt x0 x1).2) = (0 : Int)))
    (utf_look.j2 x1 x2)
    (utf_look.l1 x0 v1 v2)))
    (utf_look.j2 x1 x2) = ρ) : utf_look.l1 x0 x1 x2 = ρ := ((ev_loop _ _ _ _ _ _).trans (by kernel_rfl)).trans (K _ rfl _ rfl)
theorem utf_look.j2_eq (x0 : Int) (x1 : Int) : utf_look.j2 x0 x1 = some [(.i .i64 x0), (.i .i64 x1)] := ((congrFun (congrFun (ev_eq _ _) _) _).trans (by kernel_rfl))
theorem utf_look.F_eq (b : List UInt8) : utf_look.F b = utf_look.l1 b (0 : Int) (0 : Int) := by kernel_rfl
theorem utf_look.chk : ((Go.Proofs.Tryd.prog.funcs[34]?).any fun fn => chkF Go.Proofs.Tryd.prog (fun k => ((envL trydGl utf_look.env).fs k).2) fn utf_look.d.erase) = true := by kernel_rfl
def utf_Check.env : List (Nat × (Ctr × FSig)) := [(34, (utf_look.c, utf_look.sg))]
def utf_Check.E : TEnv := envL trydGl utf_Check.env
def utf_Check.m : TM := .seq (.reg [
    ⟨.k .mv, [.c (.i .i64 (0 : Int))], [2], none⟩,
    ⟨.k .mv, [.c (.b false)], [3], none⟩]) none (.seq (.reg [
    ⟨.k .mv, [.s 0], [7], none⟩,
    ⟨.k (.call 34 (.plain 1 2)), [.s 7], [8], none⟩,
    ⟨.k .mv, [.s 8], [6], none⟩,
    ⟨.k (.ex 0), [.s 6], [9], none⟩,
    ⟨.k (.ex 1), [.s 6], [10], none⟩,
    ⟨.k .mv, [.s 9], [4], none⟩,
    ⟨.k .mv, [.s 10], [5], none⟩]) none (.seq (.reg [
    ⟨.k .mv, [.s 4], [11], none⟩,
    ⟨.k .mv, [.s 4], [12], none⟩,
    ⟨.k .mv, [.s 0], [13], none⟩,
    ⟨.k .len, [.s 13], [14], none⟩,
    ⟨.k (.bin .eql), [.s 12, .s 14], [15], none⟩,
    ⟨.k .mv, [.s 11], [2], none⟩,
    ⟨.k .mv, [.s 15], [3], none⟩]) none .ret))
def utf_Check.d : TFD := { np := 1, m := utf_Check.m, ref := none, tips := [], res := [.t 2, .t 3], own := [], new := none, tnew := [] }
noncomputable def utf_Check.F (b : List UInt8) : Option (List TV) := utf_Check.d.run utf_Check.E [(.sl .bs b)]
theorem utf_Check.F_eq (b : List UInt8) : utf_Check.F b = ck (decide (b.length ≤ 1099511627776)) (some [(.i .i64 (((Utf.look b).1 : Int))), (.b (decide ((((Utf.look b).1 : Int)) = ((b).length : Int))))]) := by kernel_rfl
theorem utf_Check.chk : ((Go.Proofs.Tryd.prog.funcs[28]?).any fun fn => chkF Go.Proofs.Tryd.prog (fun k => ((envL trydGl utf_Check.env).fs k).2) fn utf_Check.d.erase) = true := by kernel_rfl
def sl_IndexByte.env : List (Nat × (Ctr × FSig)) := []
def sl_IndexByte.E : TEnv := envL trydGl sl_IndexByte.env
def sl_IndexByte.m : TM := .seq (.reg [
    ⟨.k .mv, [.c (.i .i64 (0 : Int))], [4], none⟩]) none (.seq (.reg [
    ⟨.k .mv, [.s 0], [5], none⟩,
    ⟨.k .mv, [.s 1], [6], none⟩,
    ⟨.k .xib, [.s 5, .s 6], [7], none⟩,
    ⟨.k .mv, [.s 7], [4], none⟩]) none .ret)
def sl_IndexByte.d : TFD := { np := 2, m := sl_IndexByte.m, ref := none, tips := [], res := [.t 4], own := [], new := none, tnew := [] }
noncomputable def sl_IndexByte.F (s : Str) (c : UInt8) : Option (List TV) := sl_IndexByte.d.run sl_IndexByte.E [(.s s), (.u8 c)]
theorem sl_IndexByte.F_eq (s : Str) (c : UInt8) : sl_IndexByte.F s c = some [(.i .i64 (Lib.indexByte s c))] := by kernel_rfl
theorem sl_IndexByte.chk : ((Go.Proofs.Tryd.prog.funcs[46]?).any fun fn => chkF Go.Proofs.Tryd.prog (fun k => ((envL trydGl sl_IndexByte.env).fs k).2) fn sl_IndexByte.d.erase) = true := by kernel_rfl
def sl_Index.env : List (Nat × (Ctr × FSig)) := [(46, (sl_IndexByte.c, sl_IndexByte.sg))]
def sl_Index.E : TEnv := envL trydGl sl_Index.env
def sl_Index.m1 : TM := .seq (.seq (.reg [
    ⟨.k .mv, [.s 0], [78], none⟩,
    ⟨.k .mv, [.s 8], [79], none⟩,
    ⟨.k (.bin .add), [.s 79, .c (.i .i64 (1 : Int))], [80], none⟩,
    ⟨.k .si, [.s 78, .s 80], [81], none⟩,
    ⟨.k .mv, [.s 7], [82], none⟩,
    ⟨.k (.bin .eql), [.s 81, .s 82], [83], none⟩,
    ⟨.k .mv, [.s 83], [84], none⟩,
    ⟨.k .mv, [.s 0], [85], some (84, true)⟩,
    ⟨.k .mv, [.s 8], [86], some (84, true)⟩,
    ⟨.k .mv, [.s 8], [87], some (84, true)⟩,
    ⟨.k .mv, [.s 5], [88], some (84, true)⟩,
    ⟨.k (.bin .add), [.s 87, .s 88], [89], some (84, true)⟩,
    ⟨.k (.ss true true), [.s 85, .s 86, .s 89], [90], some (84, true)⟩,
    ⟨.k .mv, [.s 1], [91], some (84, true)⟩,
    ⟨.k (.bin .eql), [.s 90, .s 91], [92], some (84, true)⟩,
    ⟨.k .pick, [.s 84, .s 92, .c (.b false)], [93], none⟩]) none (.cond (.s 93) [] (.seq (.reg [
    ⟨.k .mv, [.s 8], [94], none⟩,
    ⟨.k .mv, [.s 94], [4], none⟩]) none .ret) .skip)) none (.seq (.reg [
    ⟨.k .mv, [.s 8], [95], none⟩,
    ⟨.k (.bin .add), [.s 95, .c (.i .i64 (1 : Int))], [96], none⟩,
    ⟨.k .mv, [.s 96], [8], none⟩]) none (.seq (.reg [
    ⟨.k .mv, [.s 10], [97], none⟩,
    ⟨.k (.bin .add), [.s 97, .c (.i .i64 (1 : Int))], [98], none⟩,
    ⟨.k .mv, [.s 98], [10], none⟩]) none (.seq (.reg [
    ⟨.k .mv, [.s 5], [99], none⟩,
    ⟨.k (.lr 1 false), [.g 1], [100], none⟩,
    ⟨.k (.bin .leq), [.s 99, .s 100], [101], none⟩,
    ⟨.k .mv, [.s 101], [102], none⟩,
    ⟨.k .mv, [.s 10], [103], some (102, true)⟩,
    ⟨.k .mv, [.s 8], [104], some (102, true)⟩,
    ⟨.k (.call 48 (.plain 1 1)), [.s 104], [105], some (102, true)⟩,
    ⟨.k (.bin .gtr), [.s 103, .s 105], [106], some (102, true)⟩,
    ⟨.k .pick, [.s 102, .s 106, .c (.b false)], [107], none⟩]) none (.cond (.s 107) [] (.seq (.reg [
    ⟨.k .mv, [.s 0], [108], none⟩,
    ⟨.k .mv, [.s 8], [109], none⟩,
    ⟨.k (.ss true false), [.s 108, .s 109], [110], none⟩,
    ⟨.k .mv, [.s 1], [111], none⟩,
    ⟨.k (.nev true), [], [112], none⟩,
    ⟨.k .mv, [.s 112], [12], none⟩]) none (.seq (.seq (.reg [
    ⟨.k .mv, [.s 12], [113], none⟩,
    ⟨.k (.bin .geq), [.s 113, .c (.i .i64 (0 : Int))], [114], none⟩]) none (.cond (.s 114) [] (.seq (.reg [
    ⟨.k .mv, [.s 12], [115], none⟩,
    ⟨.k .mv, [.s 8], [116], none⟩,
    ⟨.k (.bin .add), [.s 115, .s 116], [117], none⟩,
    ⟨.k .mv, [.s 117], [4], none⟩]) none .ret) .skip)) none (.seq (.reg [
    ⟨.k .mv, [.c (.i .i64 (-1 : Int))], [4], none⟩]) none .ret))) (.seq (.reg [
    ⟨.k .mv, [.s 5], [118], none⟩,
    ⟨.k (.lr 1 false), [.g 1], [119], none⟩,
    ⟨.k (.bin .gtr), [.s 118, .s 119], [120], none⟩,
    ⟨.k .mv, [.s 120], [121], none⟩,
    ⟨.k .mv, [.s 10], [122], some (121, true)⟩,
    ⟨.k .mv, [.s 8], [123], some (121, true)⟩,
    ⟨.k (.bin .shr), [.s 123, .c (.u64 (4 : UInt64))], [124], some (121, true)⟩,
    ⟨.k (.bin .add), [.c (.i .i64 (4 : Int)), .s 124], [125], some (121, true)⟩,
    ⟨.k (.bin .geq), [.s 122, .s 125], [126], some (121, true)⟩,
    ⟨.k .pick, [.s 121, .s 126, .c (.b false)], [127], none⟩,
    ⟨.k .mv, [.s 127], [128], none⟩,
    ⟨.k .mv, [.s 8], [129], some (128, true)⟩,
    ⟨.k .mv, [.s 9], [130], some (128, true)⟩,
    ⟨.k (.bin .lss), [.s 129, .s 130], [131], some (128, true)⟩,
    ⟨.k .pick, [.s 128, .s 131, .c (.b false)], [132], none⟩]) none (.cond (.s 132) [] (.seq (.reg [
    ⟨.k .mv, [.s 0], [133], none⟩,
    ⟨.k .mv, [.s 8], [134], none⟩,
    ⟨.k (.ss true false), [.s 133, .s 134], [135], none⟩,
    ⟨.k .mv, [.s 1], [136], none⟩,
    ⟨.k (.call 49 (.plain 2 1)), [.s 135, .s 136], [137], none⟩,
    ⟨.k .mv, [.s 137], [13], none⟩]) none (.seq (.seq (.reg [
    ⟨.k .mv, [.s 13], [138], none⟩,
    ⟨.k (.bin .lss), [.s 138, .c (.i .i64 (0 : Int))], [139], none⟩]) none (.cond (.s 139) [] (.seq (.reg [
    ⟨.k .mv, [.c (.i .i64 (-1 : Int))], [4], none⟩]) none .ret) .skip)) none (.seq (.reg [
    ⟨.k .mv, [.s 8], [140], none⟩,
    ⟨.k .mv, [.s 13], [141], none⟩,
    ⟨.k (.bin .add), [.s 140, .s 141], [142], none⟩,
    ⟨.k .mv, [.s 142], [4], none⟩]) none .ret))) .skip))))))
def sl_Index.m2 : TM := .seq (.seq (.reg [
    ⟨.k .mv, [.s 8], [57], none⟩,
    ⟨.k .mv, [.s 9], [58], none⟩,
    ⟨.k (.bin .lss), [.s 57, .s 58], [59], none⟩]) none (.cond (.s 59) [] .skip (.exit 1))) none (.block 2 [] (.seq (.seq (.reg [
    ⟨.k .mv, [.s 0], [60], none⟩,
    ⟨.k .mv, [.s 8], [61], none⟩,
    ⟨.k .si, [.s 60, .s 61], [62], none⟩,
    ⟨.k .mv, [.s 6], [63], none⟩,
    ⟨.k (.bin .neq), [.s 62, .s 63], [64], none⟩]) none (.cond (.s 64) [] (.seq (.reg [
    ⟨.k .mv, [.s 0], [65], none⟩,
    ⟨.k .mv, [.s 8], [66], none⟩,
    ⟨.k (.bin .add), [.s 66, .c (.i .i64 (1 : Int))], [67], none⟩,
    ⟨.k .mv, [.s 9], [68], none⟩,
    ⟨.k (.ss true true), [.s 65, .s 67, .s 68], [69], none⟩,
    ⟨.k .mv, [.s 6], [70], none⟩,
    ⟨.k (.call 46 (.plain 2 1)), [.s 69, .s 70], [71], none⟩,
    ⟨.k .mv, [.s 71], [11], none⟩]) none (.seq (.seq (.reg [
    ⟨.k .mv, [.s 11], [72], none⟩,
    ⟨.k (.bin .lss), [.s 72, .c (.i .i64 (0 : Int))], [73], none⟩]) none (.cond (.s 73) [] (.seq (.reg [
    ⟨.k .mv, [.c (.i .i64 (-1 : Int))], [4], none⟩]) none .ret) .skip)) none (.reg [
    ⟨.k .mv, [.s 8], [74], none⟩,
    ⟨.k .mv, [.s 11], [75], none⟩,
    ⟨.k (.bin .add), [.s 75, .c (.i .i64 (1 : Int))], [76], none⟩,
    ⟨.k (.bin .add), [.s 74, .s 76], [77], none⟩,
    ⟨.k .mv, [.s 77], [8], none⟩]))) .skip)) (some [0, 1, 5, 6, 7, 8, 9, 10]) sl_Index.m1))
def sl_Index.m : TM := .seq (.reg [
    ⟨.k .mv, [.c (.i .i64 (0 : Int))], [4], none⟩]) none (.seq (.reg [
    ⟨.k .mv, [.s 1], [14], none⟩,
    ⟨.k .lns, [.s 14], [15], none⟩,
    ⟨.k .mv, [.s 15], [5], none⟩]) none (.seq (.block 0 [] (.seq (.reg [
    ⟨.k .mv, [.s 5], [17], none⟩,
    ⟨.k (.bin .eql), [.s 17, .c (.i .i64 (0 : Int))], [18], none⟩,
    ⟨.k .mv, [.s 18], [19], none⟩,
    ⟨.k .mv, [.s 1], [20], some (19, false)⟩,
    ⟨.k .mv, [.s 0], [21], some (19, false)⟩,
    ⟨.k (.bin .eql), [.s 20, .s 21], [22], some (19, false)⟩,
    ⟨.k .pick, [.s 19, .c (.b true), .s 22], [23], none⟩,
    ⟨.k .mv, [.s 23], [16], none⟩]) none (.cond (.s 16) [] (.seq (.reg [
    ⟨.k .mv, [.c (.i .i64 (0 : Int))], [4], none⟩]) none .ret) (.seq (.reg [
    ⟨.k .mv, [.s 5], [25], none⟩,
    ⟨.k (.bin .eql), [.s 25, .c (.i .i64 (1 : Int))], [26], none⟩,
    ⟨.k .mv, [.s 26], [24], none⟩]) none (.cond (.s 24) [] (.seq (.reg [
    ⟨.k .mv, [.s 0], [27], none⟩,
    ⟨.k .mv, [.s 1], [28], none⟩,
    ⟨.k .si, [.s 28, .c (.i .i64 (0 : Int))], [29], none⟩,
    ⟨.k (.call 46 (.plain 2 1)), [.s 27, .s 29], [30], none⟩,
    ⟨.k .mv, [.s 30], [4], none⟩]) none .ret) (.seq (.reg [
    ⟨.k .mv, [.s 5], [32], none⟩,
    ⟨.k .mv, [.s 0], [33], none⟩,
    ⟨.k .lns, [.s 33], [34], none⟩,
    ⟨.k (.bin .geq), [.s 32, .s 34], [35], none⟩,
    ⟨.k .mv, [.s 35], [31], none⟩]) none (.cond (.s 31) [] (.seq (.reg [
    ⟨.k .mv, [.c (.i .i64 (-1 : Int))], [4], none⟩]) none .ret) (.seq (.reg [
    ⟨.k .mv, [.s 5], [37], none⟩,
    ⟨.k (.lr 1 false), [.g 1], [38], none⟩,
    ⟨.k (.bin .leq), [.s 37, .s 38], [39], none⟩,
    ⟨.k .mv, [.s 39], [40], none⟩,
    ⟨.k .mv, [.s 0], [41], some (40, true)⟩,
    ⟨.k .lns, [.s 41], [42], some (40, true)⟩,
    ⟨.k (.bin .leq), [.s 42, .c (.i .i64 (64 : Int))], [43], some (40, true)⟩,
    ⟨.k .pick, [.s 40, .s 43, .c (.b false)], [44], none⟩,
    ⟨.k .mv, [.s 44], [36], none⟩]) none (.cond (.s 36) [] (.seq (.reg [
    ⟨.k .mv, [.s 0], [45], none⟩,
    ⟨.k .mv, [.s 1], [46], none⟩,
    ⟨.k (.nev true), [], [47], none⟩,
    ⟨.k .mv, [.s 47], [4], none⟩]) none .ret) .skip))))))))) none (.seq (.reg [
    ⟨.k .mv, [.s 1], [48], none⟩,
    ⟨.k .si, [.s 48, .c (.i .i64 (0 : Int))], [49], none⟩,
    ⟨.k .mv, [.s 49], [6], none⟩]) none (.seq (.reg [
    ⟨.k .mv, [.s 1], [50], none⟩,
    ⟨.k .si, [.s 50, .c (.i .i64 (1 : Int))], [51], none⟩,
    ⟨.k .mv, [.s 51], [7], none⟩]) none (.seq (.reg [
    ⟨.k .mv, [.c (.i .i64 (0 : Int))], [8], none⟩]) none (.seq (.reg [
    ⟨.k .mv, [.s 0], [52], none⟩,
    ⟨.k .lns, [.s 52], [53], none⟩,
    ⟨.k .mv, [.s 5], [54], none⟩,
    ⟨.k (.bin .sub), [.s 53, .s 54], [55], none⟩,
    ⟨.k (.bin .add), [.s 55, .c (.i .i64 (1 : Int))], [56], none⟩,
    ⟨.k .mv, [.s 56], [9], none⟩]) none (.seq (.reg [
    ⟨.k .mv, [.c (.i .i64 (0 : Int))], [10], none⟩]) none (.seq (.block 1 [] (.loop [0, 1, 5, 6, 7, 8, 9, 10] [] sl_Index.m2)) none (.seq (.reg [
    ⟨.k .mv, [.c (.i .i64 (-1 : Int))], [4], none⟩]) none .ret)))))))))
def sl_Index.d : TFD := { np := 2, m := sl_Index.m, ref := none, tips := [], res := [.t 4], own := [], new := none, tnew := [] }
noncomputable def sl_Index.F (s : Str) (t : Str) : Option (List TV) := sl_Index.d.run sl_Index.E [(.s s), (.s t)]
theorem sl_Index.F_in (s : Str) (t : Str) {ρ : Option (List TV)} (K : ∀ (v1 : Bool) (h1 : v1 = (cond (decide (((t).length : Int) = (0 : Int))) true (decide (t = s)))) (v2 : UInt8) (h2 : v2 = (List.getD t ((0 : Int)).toNat (0 : UInt8))), ck (!(!(decide (((t).length : Int) = (0 : Int)))) || ((!(decide (((t).length : Int) = (0 : Int)))) && (!(decide (((t).length : Int) = (0 : Int)))))) (ck ((decide (((t).length : Int) = (0 : Int))) || (!(decide (((t).length : Int) = (0 : Int))))) (cond v1
    (some [(.i .i64 (0 : Int))])
    (cond (decide (((t).length : Int) = (1 : Int)))
    (ck (idxOK (0 : Int) (t).length) (some [(.i .i64 (Lib.indexByte s v2))]))
    (cond (decide (((s).length : Int) ≤ ((t).length : Int)))
    (some [(.i .i64 (-1 : Int))])
    (none))))) = ρ) : sl_Index.F s t = ρ := Eq.trans (by kernel_rfl) (K _ rfl _ rfl)
theorem sl_Index.chk : ((Go.Proofs.Tryd.prog.funcs[42]?).any fun fn => chkF Go.Proofs.Tryd.prog (fun k => ((envL trydGl sl_Index.env).fs k).2) fn sl_Index.d.erase) = true := by kernel_rfl
def st_Index.env : List (Nat × (Ctr × FSig)) := [(42, (sl_Index.c, sl_Index.sg))]
def st_Index.E : TEnv := envL trydGl st_Index.env
def st_Index.m : TM := .seq (.reg [
    ⟨.k .mv, [.c (.i .i64 (0 : Int))], [4], none⟩]) none (.seq (.reg [
    ⟨.k .mv, [.s 0], [5], none⟩,
    ⟨.k .mv, [.s 1], [6], none⟩,
    ⟨.k (.call 42 (.plain 2 1)), [.s 5, .s 6], [7], none⟩,
    ⟨.k .mv, [.s 7], [4], none⟩]) none .ret)
def st_Index.d : TFD := { np := 2, m := st_Index.m, ref := none, tips := [], res := [.t 4], own := [], new := none, tnew := [] }
noncomputable def st_Index.F (s : Str) (t : Str) : Option (List TV) := st_Index.d.run st_Index.E [(.s s), (.s t)]
theorem st_Index.F_in (s : Str) (t : Str) {ρ : Option (List TV)} (K : ∀ (v1 : Int) (h1 : v1 = (Lib.indexByte s (t.getD 0 0))), ck (decide (t.length = 1)) (some [(.i .i64 v1)]) = ρ) : st_Index.F s t = ρ := Eq.trans (by kernel_rfl) (K _ rfl)
theorem st_Index.chk : ((Go.Proofs.Tryd.prog.funcs[35]?).any fun fn => chkF Go.Proofs.Tryd.prog (fun k => ((envL trydGl st_Index.env).fs k).2) fn st_Index.d.erase) = true := by kernel_rfl
def st_Contains.env : List (Nat × (Ctr × FSig)) := [(35, (st_Index.c, st_Index.sg))]
def st_Contains.E : TEnv := envL trydGl st_Contains.env
def st_Contains.m : TM := .seq (.reg [
    ⟨.k .mv, [.c (.b false)], [4], none⟩]) none (.seq (.reg [
    ⟨.k .mv, [.s 0], [5], none⟩,
    ⟨.k .mv, [.s 1], [6], none⟩,
    ⟨.k (.call 35 (.plain 2 1)), [.s 5, .s 6], [7], none⟩,
    ⟨.k (.bin .geq), [.s 7, .c (.i .i64 (0 : Int))], [8], none⟩,
    ⟨.k .mv, [.s 8], [4], none⟩]) none .ret)
def st_Contains.d : TFD := { np := 2, m := st_Contains.m, ref := none, tips := [], res := [.t 4], own := [], new := none, tnew := [] }
noncomputable def st_Contains.F (s : Str) (t : Str) : Option (List TV) := st_Contains.d.run st_Contains.E [(.s s), (.s t)]
theorem st_Contains.F_in (s : Str) (t : Str) {ρ : Option (List TV)} (K : ∀ (v1 : Int) (h1 : v1 = (Lib.indexByte s (t.getD 0 0))), ck (decide (t.length = 1)) (some [(.b (decide ((0 : Int) ≤ v1)))]) = ρ) : st_Contains.F s t = ρ := Eq.trans (by kernel_rfl) (K _ rfl)
theorem st_Contains.chk : ((Go.Proofs.Tryd.prog.funcs[29]?).any fun fn => chkF Go.Proofs.Tryd.prog (fun k => ((envL trydGl st_Contains.env).fs k).2) fn st_Contains.d.erase) = true := by kernel_rfl
theorem clone_is.ok : SpecOK Go.Proofs.Tryd.prog (fun n => (trydGl n).av) 24 (Ctr.fs (clone_is.c, clone_is.sg)) := cloneP_ok (t := .is) (b := 8) (by kernel_rfl)
def tree_Name.env : List (Nat × (Ctr × FSig)) := []
def tree_Name.E : TEnv := envL trydGl tree_Name.env
def tree_Name.m : TM := .seq (.reg [
    ⟨.k .mv, [.c (.s ([] : Str))], [2], none⟩]) none (.seq (.reg [
    ⟨.bd [(.s ([] : Str)), (.s ([] : Str)), (.s ([] : Str)), (.s ([] : Str)), (.s ([] : Str)), (.s ([] : Str)), (.s ([] : Str)), (.s ([] : Str)), (.s ([] : Str)), (.s ([] : Str)), (.s ([] : Str)), (.s ([] : Str)), (.s ([] : Str)), (.s ([] : Str)), (.s ([] : Str)), (.s ([] : Str)), (.s ([] : Str)), (.s ([] : Str)), (.s ([] : Str)), (.s ([] : Str))] [(0, 1), (1, 1), (2, 1), (3, 1), (4, 1), (5, 1), (6, 1), (7, 1), (8, 1), (9, 1), (10, 1), (11, 1), (12, 1), (13, 1), (14, 1), (15, 1), (16, 1), (17, 1), (18, 1), (19, 1)], [.c (.s ([] : Str)), .c (.s ([100, 111, 117, 98, 108, 101] : Str)), .c (.s ([115, 116, 114, 105, 110, 103] : Str)), .c (.s ([100, 111, 99, 117, 109, 101, 110, 116] : Str)), .c (.s ([97, 114, 114, 97, 121] : Str)), .c (.s ([98, 105, 110, 97, 114, 121] : Str)), .c (.s ([117, 110, 100, 101, 102, 105, 110, 101, 100] : Str)), .c (.s ([111, 98, 106, 101, 99, 116, 105, 100] : Str)), .c (.s ([98, 111, 111, 108] : Str)), .c (.s ([100, 97, 116, 101] : Str)), .c (.s ([110, 117, 108, 108] : Str)), .c (.s ([114, 101, 103, 101, 120] : Str)), .c (.s ([112, 111, 105, 110, 116, 101, 114] : Str)), .c (.s ([99, 111, 100, 101] : Str)), .c (.s ([115, 121, 109, 98, 111, 108] : Str)), .c (.s ([115, 99, 111, 112, 101, 100] : Str)), .c (.s ([105, 110, 116, 51, 50] : Str)), .c (.s ([116, 105, 109, 101, 115, 116, 97, 109, 112] : Str)), .c (.s ([105, 110, 116, 54, 52] : Str)), .c (.s ([100, 101, 99, 105, 109, 97, 108] : Str))], [4], none⟩,
    ⟨.al 1021 [(.s ([] : Str)), (.s ([] : Str)), (.s ([] : Str)), (.s ([] : Str)), (.s ([] : Str)), (.s ([] : Str)), (.s ([] : Str)), (.s ([] : Str)), (.s ([] : Str)), (.s ([] : Str)), (.s ([] : Str)), (.s ([] : Str)), (.s ([] : Str)), (.s ([] : Str)), (.s ([] : Str)), (.s ([] : Str)), (.s ([] : Str)), (.s ([] : Str)), (.s ([] : Str)), (.s ([] : Str))] [], [.s 1021], [3, 1021], none⟩,
    ⟨.k (.st 1021 0 20), [.s 3, .s 1021, .s 4], [1021], none⟩]) none (.seq (.block 0 [(3, .ptr 1021 0), (1021, .cl [])] (.seq (.reg [
    ⟨.k .mv, [.s 0], [6], none⟩,
    ⟨.k (.bin .eql), [.s 6, .c (.i .i64 (127 : Int))], [7], none⟩,
    ⟨.k .mv, [.s 7], [5], none⟩]) none (.cond (.s 5) [] (.seq (.reg [
    ⟨.k .mv, [.c (.s ([109, 97, 120, 107, 101, 121] : Str))], [2], none⟩]) none .ret) (.seq (.reg [
    ⟨.k .mv, [.s 0], [9], none⟩,
    ⟨.k (.bin .eql), [.s 9, .c (.i .i64 (255 : Int))], [10], none⟩,
    ⟨.k .mv, [.s 10], [8], none⟩]) none (.cond (.s 8) [] (.seq (.reg [
    ⟨.k .mv, [.c (.s ([109, 105, 110, 107, 101, 121] : Str))], [2], none⟩]) none .ret) (.seq (.reg [
    ⟨.k .mv, [.s 0], [12], none⟩,
    ⟨.k (.bin .lss), [.s 12, .c (.i .i64 (0 : Int))], [13], none⟩,
    ⟨.k .mv, [.s 13], [14], none⟩,
    ⟨.k .mv, [.s 0], [15], some (14, false)⟩,
    ⟨.k (.bin .geq), [.s 15, .c (.i .i64 (20 : Int))], [16], some (14, false)⟩,
    ⟨.k .pick, [.s 14, .c (.b true), .s 16], [17], none⟩,
    ⟨.k .mv, [.s 17], [11], none⟩]) none (.cond (.s 11) [] (.seq (.reg [
    ⟨.k .mv, [.c (.s ([] : Str))], [2], none⟩]) none .ret) .skip))))))) none (.seq (.reg [
    ⟨.k .mv, [.s 0], [18], none⟩,
    ⟨.k (.la 1021 20 1), [.s 3, .s 18, .s 1021], [19], none⟩,
    ⟨.k (.ll 1021 1), [.s 19, .s 1021], [20], none⟩,
    ⟨.k .mv, [.s 20], [2], none⟩]) none .ret)))
def tree_Name.d : TFD := { np := 1, m := tree_Name.m, ref := none, tips := [], res := [.t 2], own := [], new := none, tnew := [] }
noncomputable def tree_Name.F (k : Int) : Option (List TV) := tree_Name.d.run tree_Name.E [(.i .i64 k)]
theorem tree_Name.F_in (k : Int) {ρ : Option (List TV)} (K : ∀ (v1 : Bool) (h1 : v1 = (cond (decide (k < (0 : Int))) true (decide ((20 : Int) ≤ k)))) (v2 : Str) (h2 : v2 = (List.getD [([] : Str), ([100, 111, 117, 98, 108, 101] : Str), ([115, 116, 114, 105, 110, 103] : Str), ([100, 111, 99, 117, 109, 101, 110, 116] : Str), ([97, 114, 114, 97, 121] : Str), ([98, 105, 110, 97, 114, 121] : Str), ([117, 110, 100, 101, 102, 105, 110, 101, 100] : Str), ([111, 98, 106, 101, 99, 116, 105, 100] : Str), ([98, 111, 111, 108] : Str), ([100, 97, 116, 101] : Str), ([110, 117, 108, 108] : Str), ([114, 101, 103, 101, 120] : Str), ([112, 111, 105, 110, 116, 101, 114] : Str), ([99, 111, 100, 101] : Str), ([115, 121, 109, 98, 111, 108] : Str), ([115, 99, 111, 112, 101, 100] : Str), ([105, 110, 116, 51, 50] : Str), ([116, 105, 109, 101, 115, 116, 97, 109, 112] : Str), ([105, 110, 116, 54, 52] : Str), ([100, 101, 99, 105, 109, 97, 108] : Str)] ((k).toNat) ([] : Str))), cond (decide (k = (127 : Int)))
    (some [(.s ([109, 97, 120, 107, 101, 121] : Str))])
    (cond (decide (k = (255 : Int)))
    (some [(.s ([109, 105, 110, 107, 101, 121] : Str))])
    (ck (!(!(decide (k < (0 : Int)))) || (!(decide (k < (0 : Int))))) (ck ((decide (k < (0 : Int))) || (!(decide (k < (0 : Int))))) (cond v1
    (some [(.s ([] : Str))])
    (ck (idxOK k 20) (ck (decide ((k).toNat < 20)) (some [(.s v2)]))))))) = ρ) : tree_Name.F k = ρ := Eq.trans (by kernel_rfl) (K _ rfl _ rfl)
theorem tree_Name.chk : ((Go.Proofs.Tryd.prog.funcs[23]?).any fun fn => chkF Go.Proofs.Tryd.prog (fun k => ((envL trydGl tree_Name.env).fs k).2) fn tree_Name.d.erase) = true := by kernel_rfl
def tree_fields.env : List (Nat × (Ctr × FSig)) := []
def tree_fields.E : TEnv := envL trydGl tree_fields.env
def tree_fields.m1 : TM := .cond (.s 64) [(1, .ptr 1115 0), (1115, .cl [])] (.reg [
    ⟨.k (.fa 1115 0 8), [.s 1], [67], none⟩,
    ⟨.k (.st 1115 8 1), [.s 67, .s 1115, .c (.sl .fl ([] : List Fld))], [1115], none⟩]) (.seq (.reg [
    ⟨.k (.bin .eql), [.s 5, .c (.i .i64 (15 : Int))], [69], none⟩,
    ⟨.k .mv, [.s 69], [68], none⟩]) none (.cond (.s 68) [(1, .ptr 1115 0), (1115, .cl [])] (.reg [
    ⟨.k (.fa 1115 0 4), [.s 1], [70], none⟩,
    ⟨.k (.st 1115 4 1), [.s 70, .s 1115, .c (.s ([] : Str))], [1115], none⟩,
    ⟨.k (.fa 1115 0 8), [.s 1], [71], none⟩,
    ⟨.k (.st 1115 8 1), [.s 71, .s 1115, .c (.sl .fl ([] : List Fld))], [1115], none⟩]) .skip))
def tree_fields.m2 : TM := .cond (.s 28) [(1, .ptr 1115 0), (1115, .cl [])] (.reg [
    ⟨.k (.fa 1115 0 4), [.s 1], [32], none⟩,
    ⟨.k (.st 1115 4 1), [.s 32, .s 1115, .c (.s ([] : Str))], [1115], none⟩]) (.seq (.reg [
    ⟨.k (.bin .eql), [.s 5, .c (.i .i64 (11 : Int))], [34], none⟩,
    ⟨.k .mv, [.s 34], [33], none⟩]) none (.cond (.s 33) [(1, .ptr 1115 0), (1115, .cl [])] (.reg [
    ⟨.k (.fa 1115 0 4), [.s 1], [35], none⟩,
    ⟨.k (.st 1115 4 1), [.s 35, .s 1115, .c (.s ([] : Str))], [1115], none⟩,
    ⟨.k (.fa 1115 0 5), [.s 1], [36], none⟩,
    ⟨.k (.st 1115 5 1), [.s 36, .s 1115, .c (.s ([] : Str))], [1115], none⟩]) (.seq (.reg [
    ⟨.k (.bin .eql), [.s 5, .c (.i .i64 (5 : Int))], [38], none⟩,
    ⟨.k .mv, [.s 38], [37], none⟩]) none (.cond (.s 37) [(1, .ptr 1115 0), (1115, .cl [])] (.reg [
    ⟨.k (.fa 1115 0 6), [.s 1], [39], none⟩,
    ⟨.k (.ld 1115 6 1 false), [.s 39, .s 1115], [40], none⟩,
    ⟨.k (.bin .geq), [.s 40, .c (.i .i64 (0 : Int))], [41], none⟩,
    ⟨.k .mv, [.s 41], [42], none⟩,
    ⟨.k (.fa 1115 0 6), [.s 1], [43], some (42, true)⟩,
    ⟨.k (.ld 1115 6 1 false), [.s 43, .s 1115], [44], some (42, true)⟩,
    ⟨.k (.bin .leq), [.s 44, .c (.i .i64 (255 : Int))], [45], some (42, true)⟩,
    ⟨.k .pick, [.s 42, .s 45, .c (.b false)], [46], none⟩,
    ⟨.k .mv, [.s 46], [3], none⟩,
    ⟨.k (.fa 1115 0 6), [.s 1], [47], none⟩,
    ⟨.k (.st 1115 6 1), [.s 47, .s 1115, .c (.i .i64 (0 : Int))], [1115], none⟩,
    ⟨.k (.fa 1115 0 7), [.s 1], [48], none⟩,
    ⟨.k (.st 1115 7 1), [.s 48, .s 1115, .c (.sl .bs ([] : List UInt8))], [1115], none⟩]) (.seq (.reg [
    ⟨.k (.bin .eql), [.s 5, .c (.i .i64 (7 : Int))], [50], none⟩,
    ⟨.k .mv, [.s 50], [49], none⟩]) none (.cond (.s 49) [(1, .ptr 1115 0), (1115, .cl [])] (.reg [
    ⟨.k (.fa 1115 0 7), [.s 1], [51], none⟩,
    ⟨.k (.ld 1115 7 1 false), [.s 51, .s 1115], [52], none⟩,
    ⟨.k .len, [.s 52], [53], none⟩,
    ⟨.k (.bin .eql), [.s 53, .c (.i .i64 (12 : Int))], [54], none⟩,
    ⟨.k .mv, [.s 54], [3], none⟩,
    ⟨.k (.fa 1115 0 7), [.s 1], [55], none⟩,
    ⟨.k (.st 1115 7 1), [.s 55, .s 1115, .c (.sl .bs ([] : List UInt8))], [1115], none⟩]) (.seq (.reg [
    ⟨.k (.bin .eql), [.s 5, .c (.i .i64 (12 : Int))], [57], none⟩,
    ⟨.k .mv, [.s 57], [56], none⟩]) none (.cond (.s 56) [(1, .ptr 1115 0), (1115, .cl [])] (.reg [
    ⟨.k (.fa 1115 0 7), [.s 1], [58], none⟩,
    ⟨.k (.ld 1115 7 1 false), [.s 58, .s 1115], [59], none⟩,
    ⟨.k .len, [.s 59], [60], none⟩,
    ⟨.k (.bin .eql), [.s 60, .c (.i .i64 (12 : Int))], [61], none⟩,
    ⟨.k .mv, [.s 61], [3], none⟩,
    ⟨.k (.fa 1115 0 4), [.s 1], [62], none⟩,
    ⟨.k (.st 1115 4 1), [.s 62, .s 1115, .c (.s ([] : Str))], [1115], none⟩,
    ⟨.k (.fa 1115 0 7), [.s 1], [63], none⟩,
    ⟨.k (.st 1115 7 1), [.s 63, .s 1115, .c (.sl .bs ([] : List UInt8))], [1115], none⟩]) (.seq (.seq (.reg [
    ⟨.k (.bin .eql), [.s 5, .c (.i .i64 (3 : Int))], [65], none⟩,
    ⟨.k .mv, [.s 65], [64], none⟩]) none (.cond (.s 64) [(1, .ptr 1115 0), (1115, .cl [])] .skip (.reg [
    ⟨.k (.bin .eql), [.s 5, .c (.i .i64 (4 : Int))], [66], none⟩,
    ⟨.k .mv, [.s 66], [64], none⟩]))) (some [1, 3, 5, 64, 1115]) tree_fields.m1)))))))))
def tree_fields.m3 : TM := .cond (.s 6) [(1, .ptr 1115 0), (1115, .cl [])] (.reg [
    ⟨.k (.fa 1115 0 1), [.s 1], [11], none⟩,
    ⟨.k (.st 1115 1 1), [.s 11, .s 1115, .c (.u64 (0 : UInt64))], [1115], none⟩]) (.seq (.reg [
    ⟨.k (.bin .eql), [.s 5, .c (.i .i64 (16 : Int))], [13], none⟩,
    ⟨.k .mv, [.s 13], [12], none⟩]) none (.cond (.s 12) [(1, .ptr 1115 0), (1115, .cl [])] (.reg [
    ⟨.k (.fa 1115 0 1), [.s 1], [14], none⟩,
    ⟨.k (.ld 1115 1 1 false), [.s 14, .s 1115], [15], none⟩,
    ⟨.k (.bin .lss), [.s 15, .c (.u64 (4294967296 : UInt64))], [16], none⟩,
    ⟨.k .mv, [.s 16], [3], none⟩,
    ⟨.k (.fa 1115 0 1), [.s 1], [17], none⟩,
    ⟨.k (.st 1115 1 1), [.s 17, .s 1115, .c (.u64 (0 : UInt64))], [1115], none⟩]) (.seq (.reg [
    ⟨.k (.bin .eql), [.s 5, .c (.i .i64 (8 : Int))], [19], none⟩,
    ⟨.k .mv, [.s 19], [18], none⟩]) none (.cond (.s 18) [(1, .ptr 1115 0), (1115, .cl [])] (.reg [
    ⟨.k (.fa 1115 0 1), [.s 1], [20], none⟩,
    ⟨.k (.ld 1115 1 1 false), [.s 20, .s 1115], [21], none⟩,
    ⟨.k (.bin .lss), [.s 21, .c (.u64 (2 : UInt64))], [22], none⟩,
    ⟨.k .mv, [.s 22], [3], none⟩,
    ⟨.k (.fa 1115 0 1), [.s 1], [23], none⟩,
    ⟨.k (.st 1115 1 1), [.s 23, .s 1115, .c (.u64 (0 : UInt64))], [1115], none⟩]) (.seq (.reg [
    ⟨.k (.bin .eql), [.s 5, .c (.i .i64 (19 : Int))], [25], none⟩,
    ⟨.k .mv, [.s 25], [24], none⟩]) none (.cond (.s 24) [(1, .ptr 1115 0), (1115, .cl [])] (.reg [
    ⟨.k (.fa 1115 0 2), [.s 1], [26], none⟩,
    ⟨.k (.st 1115 2 1), [.s 26, .s 1115, .c (.u64 (0 : UInt64))], [1115], none⟩,
    ⟨.k (.fa 1115 0 3), [.s 1], [27], none⟩,
    ⟨.k (.st 1115 3 1), [.s 27, .s 1115, .c (.u64 (0 : UInt64))], [1115], none⟩]) (.seq (.seq (.reg [
    ⟨.k (.bin .eql), [.s 5, .c (.i .i64 (2 : Int))], [29], none⟩,
    ⟨.k .mv, [.s 29], [28], none⟩]) none (.cond (.s 28) [(1, .ptr 1115 0), (1115, .cl [])] .skip (.seq (.reg [
    ⟨.k (.bin .eql), [.s 5, .c (.i .i64 (13 : Int))], [30], none⟩,
    ⟨.k .mv, [.s 30], [28], none⟩]) none (.cond (.s 28) [(1, .ptr 1115 0), (1115, .cl [])] .skip (.reg [
    ⟨.k (.bin .eql), [.s 5, .c (.i .i64 (14 : Int))], [31], none⟩,
    ⟨.k .mv, [.s 31], [28], none⟩]))))) (some [1, 3, 5, 28, 1115]) tree_fields.m2)))))))
def tree_fields.m4 : TM := .seq (.reg [
    ⟨.k .mv, [.s 3], [72], none⟩,
    ⟨.k .mv, [.s 72], [73], none⟩,
    ⟨.k (.fa 1115 0 1), [.s 1], [74], some (73, true)⟩,
    ⟨.k (.ld 1115 1 1 false), [.s 74, .s 1115], [75], some (73, true)⟩,
    ⟨.k (.bin .eql), [.s 75, .c (.u64 (0 : UInt64))], [76], some (73, true)⟩,
    ⟨.k .pick, [.s 73, .s 76, .c (.b false)], [77], none⟩,
    ⟨.k .mv, [.s 77], [78], none⟩,
    ⟨.k (.fa 1115 0 2), [.s 1], [79], some (78, true)⟩,
    ⟨.k (.ld 1115 2 1 false), [.s 79, .s 1115], [80], some (78, true)⟩,
    ⟨.k (.bin .eql), [.s 80, .c (.u64 (0 : UInt64))], [81], some (78, true)⟩,
    ⟨.k .pick, [.s 78, .s 81, .c (.b false)], [82], none⟩,
    ⟨.k .mv, [.s 82], [83], none⟩,
    ⟨.k (.fa 1115 0 3), [.s 1], [84], some (83, true)⟩,
    ⟨.k (.ld 1115 3 1 false), [.s 84, .s 1115], [85], some (83, true)⟩,
    ⟨.k (.bin .eql), [.s 85, .c (.u64 (0 : UInt64))], [86], some (83, true)⟩,
    ⟨.k .pick, [.s 83, .s 86, .c (.b false)], [87], none⟩,
    ⟨.k .mv, [.s 87], [88], none⟩,
    ⟨.k (.fa 1115 0 4), [.s 1], [89], some (88, true)⟩,
    ⟨.k (.ld 1115 4 1 false), [.s 89, .s 1115], [90], some (88, true)⟩,
    ⟨.k (.bin .eql), [.s 90, .c (.s ([] : Str))], [91], some (88, true)⟩,
    ⟨.k .pick, [.s 88, .s 91, .c (.b false)], [92], none⟩,
    ⟨.k .mv, [.s 92], [93], none⟩,
    ⟨.k (.fa 1115 0 5), [.s 1], [94], some (93, true)⟩,
    ⟨.k (.ld 1115 5 1 false), [.s 94, .s 1115], [95], some (93, true)⟩,
    ⟨.k (.bin .eql), [.s 95, .c (.s ([] : Str))], [96], some (93, true)⟩,
    ⟨.k .pick, [.s 93, .s 96, .c (.b false)], [97], none⟩,
    ⟨.k .mv, [.s 97], [98], none⟩,
    ⟨.k (.fa 1115 0 6), [.s 1], [99], some (98, true)⟩,
    ⟨.k (.ld 1115 6 1 false), [.s 99, .s 1115], [100], some (98, true)⟩,
    ⟨.k (.bin .eql), [.s 100, .c (.i .i64 (0 : Int))], [101], some (98, true)⟩,
    ⟨.k .pick, [.s 98, .s 101, .c (.b false)], [102], none⟩,
    ⟨.k .mv, [.s 102], [103], none⟩,
    ⟨.k (.fa 1115 0 7), [.s 1], [104], some (103, true)⟩,
    ⟨.k (.ld 1115 7 1 false), [.s 104, .s 1115], [105], some (103, true)⟩,
    ⟨.k .len, [.s 105], [106], some (103, true)⟩,
    ⟨.k (.bin .eql), [.s 106, .c (.i .i64 (0 : Int))], [107], some (103, true)⟩,
    ⟨.k .pick, [.s 103, .s 107, .c (.b false)], [108], none⟩,
    ⟨.k .mv, [.s 108], [109], none⟩,
    ⟨.k (.fa 1115 0 8), [.s 1], [110], some (109, true)⟩,
    ⟨.k (.ld 1115 8 1 false), [.s 110, .s 1115], [111], some (109, true)⟩,
    ⟨.k .len, [.s 111], [112], some (109, true)⟩,
    ⟨.k (.bin .eql), [.s 112, .c (.i .i64 (0 : Int))], [113], some (109, true)⟩,
    ⟨.k .pick, [.s 109, .s 113, .c (.b false)], [114], none⟩,
    ⟨.k .mv, [.s 114], [2], none⟩]) none .ret
def tree_fields.m : TM := .seq (.reg [
    ⟨.k (.bx 1115), [.s 0, .s 1115], [1, 1115], none⟩,
    ⟨.k .mv, [.c (.b false)], [2], none⟩]) none (.seq (.reg [
    ⟨.k .mv, [.c (.b true)], [3], none⟩]) none (.seq (.seq (.reg [
    ⟨.k (.fa 1115 0 0), [.s 1], [4], none⟩,
    ⟨.k (.ld 1115 0 1 false), [.s 4, .s 1115], [5], none⟩]) none (.block 0 [(1, .ptr 1115 0), (1115, .cl [])] (.seq (.seq (.reg [
    ⟨.k (.bin .eql), [.s 5, .c (.i .i64 (1 : Int))], [7], none⟩,
    ⟨.k .mv, [.s 7], [6], none⟩]) none (.cond (.s 6) [(1, .ptr 1115 0), (1115, .cl [])] .skip (.seq (.reg [
    ⟨.k (.bin .eql), [.s 5, .c (.i .i64 (9 : Int))], [8], none⟩,
    ⟨.k .mv, [.s 8], [6], none⟩]) none (.cond (.s 6) [(1, .ptr 1115 0), (1115, .cl [])] .skip (.seq (.reg [
    ⟨.k (.bin .eql), [.s 5, .c (.i .i64 (17 : Int))], [9], none⟩,
    ⟨.k .mv, [.s 9], [6], none⟩]) none (.cond (.s 6) [(1, .ptr 1115 0), (1115, .cl [])] .skip (.reg [
    ⟨.k (.bin .eql), [.s 5, .c (.i .i64 (18 : Int))], [10], none⟩,
    ⟨.k .mv, [.s 10], [6], none⟩]))))))) (some [1, 3, 5, 6, 1115]) tree_fields.m3))) (some [1, 3, 1115]) tree_fields.m4))
def tree_fields.d : TFD := { np := 1, m := tree_fields.m, ref := none, tips := [], res := [.t 2], own := [], new := none, tnew := [] }
noncomputable def tree_fields.F (v : Val) : Option (List TV) := tree_fields.d.run tree_fields.E [(.ag (Val.cells v))]
noncomputable def tree_fields.k1 : Cont (List TV) := seqK (evO _ tree_fields.E tree_fields.m4) (some [1, 3, 1115]) (endK tree_fields.d)
noncomputable def tree_fields.j1 (x0 : Bool) (x1 : Int) (x2 : Bool) (x3 : Val) : Option (List TV) := evO _ tree_fields.E tree_fields.m3 (headT [1, 3, 5, 6, 1115] [.pt, (.b x0), (.i .i64 x1), (.b x2), (.ag (Val.cells x3))]) (blockK 0 tree_fields.k1)
noncomputable def tree_fields.j2 (x0 : Bool) (x1 : Val) : Option (List TV) := evO _ tree_fields.E tree_fields.m4 (headT [1, 3, 1115] [.pt, (.b x0), (.ag (Val.cells x1))]) (endK tree_fields.d)
noncomputable def tree_fields.j3 (x0 : Bool) (x1 : Int) (x2 : Bool) (x3 : Val) : Option (List TV) := evO _ tree_fields.E tree_fields.m2 (headT [1, 3, 5, 28, 1115] [.pt, (.b x0), (.i .i64 x1), (.b x2), (.ag (Val.cells x3))]) (blockK 0 tree_fields.k1)
noncomputable def tree_fields.j4 (x0 : Bool) (x1 : Int) (x2 : Bool) (x3 : Val) : Option (List TV) := evO _ tree_fields.E tree_fields.m1 (headT [1, 3, 5, 64, 1115] [.pt, (.b x0), (.i .i64 x1), (.b x2), (.ag (Val.cells x3))]) (blockK 0 tree_fields.k1)
theorem tree_fields.j1_eq (x0 : Bool) (x1 : Int) (x2 : Bool) (x3 : Val) : tree_fields.j1 x0 x1 x2 x3 = cond x2
    (tree_fields.j2 x0 (Val.mk (Val.kind x3) (0 : UInt64) (Val.high x3) (Val.low x3) (Val.text x3) (Val.more x3) (Val.sub x3) (Val.bytes x3) (Val.kids x3)))
    (cond (decide (x1 = (16 : Int)))
    (tree_fields.j2 (decide ((Val.bits x3) < (4294967296 : UInt64))) (Val.mk (Val.kind x3) (0 : UInt64) (Val.high x3) (Val.low x3) (Val.text x3) (Val.more x3) (Val.sub x3) (Val.bytes x3) (Val.kids x3)))
    (cond (decide (x1 = (8 : Int)))
    (tree_fields.j2 (decide ((Val.bits x3) < (2 : UInt64))) (Val.mk (Val.kind x3) (0 : UInt64) (Val.high x3) (Val.low x3) (Val.text x3) (Val.more x3) (Val.sub x3) (Val.bytes x3) (Val.kids x3)))
    (cond (decide (x1 = (19 : Int)))
    (tree_fields.j2 x0 (Val.mk (Val.kind x3) (Val.bits x3) (0 : UInt64) (0 : UInt64) (Val.text x3) (Val.more x3) (Val.sub x3) (Val.bytes x3) (Val.kids x3)))
    (cond (decide (x1 = (2 : Int)))
    (tree_fields.j3 x0 x1 (decide (x1 = (2 : Int))) x3)
    (cond (decide (x1 = (13 : Int)))
    (tree_fields.j3 x0 x1 (decide (x1 = (13 : Int))) x3)
    (tree_fields.j3 x0 x1 (decide (x1 = (14 : Int))) x3)))))) := ((congrFun (congrFun (ev_eq _ _) _) _).trans (by kernel_rfl))
theorem tree_fields.j2_in (x0 : Bool) (x1 : Val) {ρ : Option (List TV)} (K : ∀ (v1 : Bool) (h1 : v1 = (cond x0 (decide ((Val.bits x1) = (0 : UInt64))) false)) (v2 : Bool) (h2 : v2 = (cond v1 (decide ((Val.high x1) = (0 : UInt64))) false)) (v3 : Bool) (h3 : v3 = (cond v2 (decide ((Val.low x1) = (0 : UInt64))) false)) (v4 : Bool) (h4 : v4 = (cond v3 (decide ((Val.text x1) = ([] : Str))) false)) (v5 : Bool) (h5 : v5 = (cond v4 (decide ((Val.more x1) = ([] : Str))) false)) (v6 : Bool) (h6 : v6 = (cond v5 (decide ((Val.sub x1) = (0 : Int))) false)) (v7 : Int) (h7 : v7 = (((Val.bytes x1)).length : Int)) (v8 : Bool) (h8 : v8 = (cond v6 (decide (v7 = (0 : Int))) false)) (v9 : Int) (h9 : v9 = (((Val.kids x1)).length : Int)) (v10 : Bool) (h10 : v10 = (cond v8 (decide (v9 = (0 : Int))) false)), ck (!x0 || x0) (ck (!x0 || x0) (ck (!x0 || x0) (ck (!v1 || v1) (ck (!v1 || v1) (ck (!v1 || v1) (ck (!v2 || v2) (ck (!v2 || v2) (ck (!v2 || v2) (ck (!v3 || v3) (ck (!v3 || v3) (ck (!v3 || v3) (ck (!v4 || v4) (ck (!v4 || v4) (ck (!v4 || v4) (ck (!v5 || v5) (ck (!v5 || v5) (ck (!v5 || v5) (ck (!v6 || v6) (ck (!v6 || v6) (ck (!v6 || v6) (ck (!v6 || v6) (ck (!v8 || v8) (ck (!v8 || v8) (ck (!v8 || v8) (ck (!v8 || v8) (some [(.b v10)])))))))))))))))))))))))))) = ρ) : tree_fields.j2 x0 x1 = ρ := ((congrFun (congrFun (ev_eq _ _) _) _).trans (by kernel_rfl)).trans (K _ rfl _ rfl _ rfl _ rfl _ rfl _ rfl _ rfl _ rfl _ rfl _ rfl)
theorem tree_fields.j3_in (x0 : Bool) (x1 : Int) (x2 : Bool) (x3 : Val) {ρ : Option (List TV)} (K : ∀ (v1 : Bool) (h1 : v1 = (cond (decide ((0 : Int) ≤ (Val.sub x3))) (decide ((Val.sub x3) ≤ (255 : Int))) false)) (v2 : Int) (h2 : v2 = (((Val.bytes x3)).length : Int)), cond x2
    (tree_fields.j2 x0 (Val.mk (Val.kind x3) (Val.bits x3) (Val.high x3) (Val.low x3) ([] : Str) (Val.more x3) (Val.sub x3) (Val.bytes x3) (Val.kids x3)))
    (cond (decide (x1 = (11 : Int)))
    (tree_fields.j2 x0 (Val.mk (Val.kind x3) (Val.bits x3) (Val.high x3) (Val.low x3) ([] : Str) ([] : Str) (Val.sub x3) (Val.bytes x3) (Val.kids x3)))
    (cond (decide (x1 = (5 : Int)))
    (ck (!(decide ((0 : Int) ≤ (Val.sub x3))) || (decide ((0 : Int) ≤ (Val.sub x3)))) (ck (!(decide ((0 : Int) ≤ (Val.sub x3))) || (decide ((0 : Int) ≤ (Val.sub x3)))) (ck (!(decide ((0 : Int) ≤ (Val.sub x3))) || (decide ((0 : Int) ≤ (Val.sub x3)))) (tree_fields.j2 v1 (Val.mk (Val.kind x3) (Val.bits x3) (Val.high x3) (Val.low x3) (Val.text x3) (Val.more x3) (0 : Int) ([] : List UInt8) (Val.kids x3))))))
    (cond (decide (x1 = (7 : Int)))
    (tree_fields.j2 (decide (v2 = (12 : Int))) (Val.mk (Val.kind x3) (Val.bits x3) (Val.high x3) (Val.low x3) (Val.text x3) (Val.more x3) (Val.sub x3) ([] : List UInt8) (Val.kids x3)))
    (cond (decide (x1 = (12 : Int)))
    (tree_fields.j2 (decide (v2 = (12 : Int))) (Val.mk (Val.kind x3) (Val.bits x3) (Val.high x3) (Val.low x3) ([] : Str) (Val.more x3) (Val.sub x3) ([] : List UInt8) (Val.kids x3)))
    (cond (decide (x1 = (3 : Int)))
    (tree_fields.j4 x0 x1 (decide (x1 = (3 : Int))) x3)
    (tree_fields.j4 x0 x1 (decide (x1 = (4 : Int))) x3)))))) = ρ) : tree_fields.j3 x0 x1 x2 x3 = ρ := ((congrFun (congrFun (ev_eq _ _) _) _).trans (by kernel_rfl)).trans (K _ rfl _ rfl)
theorem tree_fields.j4_eq (x0 : Bool) (x1 : Int) (x2 : Bool) (x3 : Val) : tree_fields.j4 x0 x1 x2 x3 = cond x2
    (tree_fields.j2 x0 (Val.mk (Val.kind x3) (Val.bits x3) (Val.high x3) (Val.low x3) (Val.text x3) (Val.more x3) (Val.sub x3) (Val.bytes x3) ([] : List Fld)))
    (cond (decide (x1 = (15 : Int)))
    (tree_fields.j2 x0 (Val.mk (Val.kind x3) (Val.bits x3) (Val.high x3) (Val.low x3) ([] : Str) (Val.more x3) (Val.sub x3) (Val.bytes x3) ([] : List Fld)))
    (tree_fields.j2 x0 x3)) := ((congrFun (congrFun (ev_eq _ _) _) _).trans (by kernel_rfl))
theorem tree_fields.F_eq (v : Val) : tree_fields.F v = cond (decide ((Val.kind v) = (1 : Int)))
    (tree_fields.j1 true (Val.kind v) (decide ((Val.kind v) = (1 : Int))) v)
    (cond (decide ((Val.kind v) = (9 : Int)))
    (tree_fields.j1 true (Val.kind v) (decide ((Val.kind v) = (9 : Int))) v)
    (cond (decide ((Val.kind v) = (17 : Int)))
    (tree_fields.j1 true (Val.kind v) (decide ((Val.kind v) = (17 : Int))) v)
    (tree_fields.j1 true (Val.kind v) (decide ((Val.kind v) = (18 : Int))) v))) := by kernel_rfl
theorem tree_fields.chk : ((Go.Proofs.Tryd.prog.funcs[25]?).any fun fn => chkF Go.Proofs.Tryd.prog (fun k => ((envL trydGl tree_fields.env).fs k).2) fn tree_fields.d.erase) = true := by kernel_rfl
def tree_whole.env : List (Nat × (Ctr × FSig)) := [(28, (utf_Check.c, utf_Check.sg)), (29, (st_Contains.c, st_Contains.sg))]
def tree_whole.E : TEnv := envL trydGl tree_whole.env
def tree_whole.m : TM := .seq (.reg [
    ⟨.k .mv, [.c (.b false)], [4], none⟩]) none (.seq (.reg [
    ⟨.k .mv, [.s 0], [8], none⟩,
    ⟨.k .sb, [.s 8], [9], none⟩,
    ⟨.k (.call 28 (.plain 1 2)), [.s 9], [10], none⟩,
    ⟨.k .mv, [.s 10], [7], none⟩,
    ⟨.k (.ex 0), [.s 7], [11], none⟩,
    ⟨.k (.ex 1), [.s 7], [12], none⟩,
    ⟨.k .mv, [.s 11], [5], none⟩,
    ⟨.k .mv, [.s 12], [6], none⟩]) none (.seq (.reg [
    ⟨.k .mv, [.s 6], [13], none⟩,
    ⟨.k .mv, [.s 13], [14], none⟩,
    ⟨.k .mv, [.s 1], [15], some (14, true)⟩,
    ⟨.k .mv, [.s 15], [16], some (14, true)⟩,
    ⟨.k .mv, [.s 0], [17], some (16, true)⟩,
    ⟨.k (.call 29 (.plain 2 1)), [.s 17, .c (.s ([0] : Str))], [18], some (16, true)⟩,
    ⟨.k .pick, [.s 16, .s 18, .c (.b false)], [19], some (14, true)⟩,
    ⟨.k (.un .not), [.s 19], [20], some (14, true)⟩,
    ⟨.k .pick, [.s 14, .s 20, .c (.b false)], [21], none⟩,
    ⟨.k .mv, [.s 21], [4], none⟩]) none .ret))
def tree_whole.d : TFD := { np := 2, m := tree_whole.m, ref := none, tips := [], res := [.t 4], own := [], new := none, tnew := [] }
noncomputable def tree_whole.F (s : Str) (plain : Bool) : Option (List TV) := tree_whole.d.run tree_whole.E [(.s s), (.b plain)]
theorem tree_whole.F_in (s : Str) (plain : Bool) {ρ : Option (List TV)} (K : ∀ (v1 : Bool) (h1 : v1 = (cond plain (decide (0 ≤ Lib.indexByte s ((([0] : Str)).getD 0 0))) false)) (v2 : Bool) (h2 : v2 = (cond (Utf.whole s) (!v1) false)), ck (lenOK (s).length) (ck (decide (s.length ≤ 1099511627776)) (ck (!(Utf.whole s) || (Utf.whole s)) (ck (!((Utf.whole s) && plain) || (((Utf.whole s) && plain) && (decide ((([0] : Str)).length = 1)))) (ck (!(Utf.whole s) || ((Utf.whole s) && (!plain || ((Utf.whole s) && plain)))) (ck (!(Utf.whole s) || (Utf.whole s)) (ck (!(Utf.whole s) || (Utf.whole s)) (some [(.b v2)]))))))) = ρ) : tree_whole.F s plain = ρ := Eq.trans (by kernel_rfl) (K _ rfl _ rfl)
theorem tree_whole.chk : ((Go.Proofs.Tryd.prog.funcs[26]?).any fun fn => chkF Go.Proofs.Tryd.prog (fun k => ((envL trydGl tree_whole.env).fs k).2) fn tree_whole.d.erase) = true := by kernel_rfl
def tree_check.env (n : Nat) : List (Nat × (Ctr × FSig)) := [(20, (tree_check.cn n, tree_check.sg)), (23, (tree_Name.c, tree_Name.sg)), (24, (clone_is.c, clone_is.sg)), (25, (tree_fields.c, tree_fields.sg)), (26, (tree_whole.c, tree_whole.sg))]
def tree_check.E (n : Nat) : TEnv := envL trydGl (tree_check.env n)
def tree_check.m1 : TM := .seq (.reg [
    ⟨.k (.bin .lss), [.s 52, .s 51], [53], none⟩]) none (.seq (.cond (.s 53) [] .skip (.exit 1)) none (.seq (.block 2 [(2, .tip 999999 1), (lk 999999, .pv 1)] (.seq (.reg [
    ⟨.k .mv, [.s 52], [54], none⟩,
    ⟨.k (.ix 10), [.s 50, .s 52], [55], none⟩,
    ⟨.k (.lr 10 true), [.s 55], [56], none⟩,
    ⟨.al 1075 [(.s ([] : Str)), (.i .i64 (0 : Int)), (.u64 (0 : UInt64)), (.u64 (0 : UInt64)), (.u64 (0 : UInt64)), (.s ([] : Str)), (.s ([] : Str)), (.i .i64 (0 : Int)), (.sl .bs ([] : List UInt8)), (.sl .fl ([] : List Fld))] [], [.s 1075], [10, 1075], none⟩,
    ⟨.k .mv, [.s 54], [9], none⟩,
    ⟨.k (.st 1075 0 10), [.s 10, .s 1075, .s 56], [1075], none⟩]) none (.seq (.reg [
    ⟨.k (.fa 1075 0 1), [.s 10], [58], none⟩,
    ⟨.k (.ld 1075 1 9 true), [.s 58, .s 1075], [59], none⟩,
    ⟨.k (.fa 1075 0 0), [.s 10], [60], none⟩,
    ⟨.k (.ld 1075 0 1 false), [.s 60, .s 1075], [61], none⟩,
    ⟨.k .mv, [.s 2], [62], none⟩,
    ⟨.k .mv, [.s 9], [63], none⟩,
    ⟨.bl .is 1, [.s 63], [64], none⟩,
    ⟨.k (.ppa 999999 104 1 8), [.s 62, .s 64, .s (lk 999999), .s (lk 104)], [65, lk 999999, lk 104], none⟩,
    ⟨.k (.pcall 20 3 2 2 104 1), [.s 59, .s 61, .s 65, .s (lk 104)], [66], none⟩,
    ⟨.k .mv, [.s 66], [57], none⟩,
    ⟨.k (.ex 0), [.s 57], [67], none⟩,
    ⟨.k (.ex 1), [.s 57], [68], none⟩,
    ⟨.k .mv, [.s 67], [11], none⟩,
    ⟨.k .mv, [.s 68], [12], none⟩]) none (.seq (.reg [
    ⟨.k .mv, [.s 12], [69], none⟩,
    ⟨.k (.bin .neq), [.s 69, .c (.i .i64 (0 : Int))], [70], none⟩]) none (.cond (.s 70) [] (.seq (.reg [
    ⟨.k .mv, [.s 11], [71], none⟩,
    ⟨.k .mv, [.s 12], [72], none⟩,
    ⟨.k .mv, [.s 71], [6], none⟩,
    ⟨.k .mv, [.s 72], [7], none⟩]) none .ret) .skip))))) none (.reg [
    ⟨.k (.bin .add), [.s 52, .c (.i .i64 (1 : Int))], [73], none⟩,
    ⟨.k .mv, [.s 73], [52], none⟩])))
def tree_check.m : TM := .seq (.reg [
    ⟨.k (.bx 1074), [.s 0, .s 1074], [3, 1074], none⟩,
    ⟨.k .mv, [.c (.sl .is ([] : List Int))], [6], none⟩,
    ⟨.k .mv, [.c (.i .i64 (0 : Int))], [7], none⟩]) none (.seq (.reg [
    ⟨.k (.fa 1074 0 0), [.s 3], [13], none⟩,
    ⟨.k (.ld 1074 0 1 false), [.s 13, .s 1074], [14], none⟩,
    ⟨.k (.bin .eql), [.s 14, .c (.i .i64 (11 : Int))], [15], none⟩,
    ⟨.k .mv, [.s 15], [8], none⟩]) none (.seq (.block 0 [(2, .tip 999999 1), (3, .ptr 1074 0), (1074, .cl []), (lk 999999, .pv 1)] (.seq (.reg [
    ⟨.k (.fa 1074 0 0), [.s 3], [17], none⟩,
    ⟨.k (.ld 1074 0 1 false), [.s 17, .s 1074], [18], none⟩,
    ⟨.k (.call 23 (.plain 1 1)), [.s 18], [19], none⟩,
    ⟨.k (.bin .eql), [.s 19, .c (.s ([] : Str))], [20], none⟩,
    ⟨.k .mv, [.s 20], [16], none⟩]) none (.cond (.s 16) [] (.seq (.reg [
    ⟨.k .mv, [.s 2], [21], none⟩,
    ⟨.k (.pcall 24 1 1 0 999999 1), [.s 21, .s (lk 999999)], [22], none⟩,
    ⟨.k .mv, [.s 22], [6], none⟩,
    ⟨.k .mv, [.c (.i .i64 (5 : Int))], [7], none⟩]) none .ret) (.seq (.reg [
    ⟨.k (.ld 1074 0 9 true), [.s 3, .s 1074], [24], none⟩,
    ⟨.k (.call 25 (.plain 1 1)), [.s 24], [25], none⟩,
    ⟨.k (.un .not), [.s 25], [26], none⟩,
    ⟨.k .mv, [.s 26], [23], none⟩]) none (.cond (.s 23) [] (.seq (.reg [
    ⟨.k .mv, [.s 2], [27], none⟩,
    ⟨.k (.pcall 24 1 1 0 999999 1), [.s 27, .s (lk 999999)], [28], none⟩,
    ⟨.k .mv, [.s 28], [6], none⟩,
    ⟨.k .mv, [.c (.i .i64 (1 : Int))], [7], none⟩]) none .ret) (.seq (.reg [
    ⟨.k (.fa 1074 0 4), [.s 3], [30], none⟩,
    ⟨.k (.ld 1074 4 1 false), [.s 30, .s 1074], [31], none⟩,
    ⟨.k .mv, [.s 8], [32], none⟩,
    ⟨.k (.call 26 (.plain 2 1)), [.s 31, .s 32], [33], none⟩,
    ⟨.k (.un .not), [.s 33], [34], none⟩,
    ⟨.k .mv, [.s 34], [35], none⟩,
    ⟨.k (.fa 1074 0 5), [.s 3], [36], some (35, false)⟩,
    ⟨.k (.ld 1074 5 1 false), [.s 36, .s 1074], [37], some (35, false)⟩,
    ⟨.k .mv, [.s 8], [38], some (35, false)⟩,
    ⟨.k (.call 26 (.plain 2 1)), [.s 37, .s 38], [39], some (35, false)⟩,
    ⟨.k (.un .not), [.s 39], [40], some (35, false)⟩,
    ⟨.k .pick, [.s 35, .c (.b true), .s 40], [41], none⟩,
    ⟨.k .mv, [.s 41], [42], none⟩,
    ⟨.k .mv, [.s 1], [43], some (42, false)⟩,
    ⟨.k (.call 26 (.plain 2 1)), [.s 43, .c (.b true)], [44], some (42, false)⟩,
    ⟨.k (.un .not), [.s 44], [45], some (42, false)⟩,
    ⟨.k .pick, [.s 42, .c (.b true), .s 45], [46], none⟩,
    ⟨.k .mv, [.s 46], [29], none⟩]) none (.cond (.s 29) [] (.seq (.reg [
    ⟨.k .mv, [.s 2], [47], none⟩,
    ⟨.k (.pcall 24 1 1 0 999999 1), [.s 47, .s (lk 999999)], [48], none⟩,
    ⟨.k .mv, [.s 48], [6], none⟩,
    ⟨.k .mv, [.c (.i .i64 (4 : Int))], [7], none⟩]) none .ret) .skip))))))) none (.seq (.seq (.reg [
    ⟨.k (.fa 1074 0 8), [.s 3], [49], none⟩,
    ⟨.k (.ld 1074 8 1 false), [.s 49, .s 1074], [50], none⟩,
    ⟨.k .len, [.s 50], [51], none⟩,
    ⟨.k .mv, [.c (.i .i64 (0 : Int))], [52], none⟩]) none (.block 1 [(lk 999999, .pv 1)] (.loop [2, 50, 51, 52, lk 999999] [(2, .tip 999999 1), (lk 999999, .pv 1)] tree_check.m1))) none (.seq (.reg [
    ⟨.k .mv, [.c (.sl .is ([] : List Int))], [6], none⟩,
    ⟨.k .mv, [.c (.i .i64 (0 : Int))], [7], none⟩]) none .ret))))
def tree_check.d : TFD := { np := 3, m := tree_check.m, ref := none, tips := [], res := [.t 6, .t 7], own := [], new := none, tnew := [], ps := some (2, 999999, 1) }
noncomputable def tree_check.F (n : Nat) (v : Val) (name : Str) (path : List Int) : Option (List TV) := tree_check.d.run (tree_check.E n) [(.ag (Val.cells v)), (.s name), (.sl .is path)]
noncomputable def tree_check.k1 (n : Nat) : Cont (List TV) := seqK (ev _ (tree_check.E n) (.seq (.reg [
    ⟨.k .mv, [.c (.sl .is ([] : List Int))], [6], none⟩,
    ⟨.k .mv, [.c (.i .i64 (0 : Int))], [7], none⟩]) none .ret)) none (endK tree_check.d)
noncomputable def tree_check.l1 (n : Nat) (x0 : List Fld) (x1 : Int) (x2 : Int) (x3 : List Int) : Option (List TV) := loopL (evO _ (tree_check.E n) tree_check.m1) isN [2, 50, 51, 52, lk 999999] (headT [2, 50, 51, 52, lk 999999] [.pt, (.sl .fl x0), (.i .i64 x1), (.i .i64 x2), (.sl .is x3)]) (blockK 1 (tree_check.k1 n))
theorem tree_check.l1_in (n : Nat) (x0 : List Fld) (x1 : Int) (x2 : Int) (x3 : List Int) {ρ : Option (List TV)} (K : ∀ (v1 : Fld) (h1 : v1 = (List.getD x0 (x2).toNat (STy.dflt .fl))) (v2 : List Int) (h2 : v2 = ((Tree.chkF (Fld.of ((Fld.name v1)) (Fld.val v1)) ((x3 ++ ([x2] : List Int)))).1)) (v3 : Int) (h3 : v3 = ((Tree.chkF (Fld.of ((Fld.name v1)) (Fld.val v1)) ((x3 ++ ([x2] : List Int)))).2)) (v4 : Int) (h4 : v4 = (IntKind.i64.wrap (x2 + (1 : Int)))), cond (decide (x2 < x1))
    (ck (idxOK x2 (x0).length) (ck (apOK ((x3).length + (([x2] : List Int)).length) 8) (ck ((decide (Fld.bulk (Fld.of ((Fld.name v1)) (Fld.val v1)) + ((x3 ++ ([x2] : List Int))).length ≤ 1099511627776)) && decide ((Fld.bulk (Fld.of ((Fld.name v1)) (Fld.val v1))) < n)) (cond (!decide (v3 = (0 : Int)))
    (some [(.sl .is v2), (.i .i64 v3), (.sl .is x3)])
    (tree_check.l1 n x0 x1 v4 x3)))))
    (some [(.sl .is ([] : List Int)), (.i .i64 (0 : Int)), (.sl .is x3)]) = ρ) : tree_check.l1 n x0 x1 x2 x3 = ρ := ((ev_loop _ _ _ _ _ _).trans (by kernel_rfl)).trans (K _ rfl _ rfl _ rfl _ rfl)
theorem tree_check.F_in (n : Nat) (v : Val) (name : Str) (path : List Int) {ρ : Option (List TV)} (K : ∀ (v1 : Bool) (h1 : v1 = (Tree.wholeT ((Val.text v)) ((decide ((Val.kind v) = (11 : Int)))))) (v2 : Bool) (h2 : v2 = (Tree.wholeT ((Val.more v)) ((decide ((Val.kind v) = (11 : Int)))))) (v3 : Bool) (h3 : v3 = (cond (cond (!v1) true (!v2)) true (!(Tree.wholeT name true)))) (v4 : Int) (h4 : v4 = (((Val.kids v)).length : Int)), cond (decide ((Tree.name ((Val.kind v))) = ([] : Str)))
    (ck (apOK (path).length 8) (some [(.sl .is (path)), (.i .i64 (5 : Int)), (.sl .is path)]))
    (cond (!(Tree.fieldsOK v))
    (ck (apOK (path).length 8) (some [(.sl .is (path)), (.i .i64 (1 : Int)), (.sl .is path)]))
    (ck (decide (((Val.text v)).length ≤ 1099511627776)) (ck (!(!(!v1)) || (!(!v1))) (ck (!(!(!v1)) || (((!(!v1)) && (!(!v1))) && (decide (((Val.more v)).length ≤ 1099511627776)))) (ck (!(!(!v1)) || (!(!v1))) (ck ((!v1) || (!(!v1))) (ck (!(!(cond (!v1) true (!v2))) || ((!(cond (!v1) true (!v2))) && (decide (name.length ≤ 1099511627776)))) (ck (!(!(cond (!v1) true (!v2))) || (!(cond (!v1) true (!v2)))) (ck ((cond (!v1) true (!v2)) || (!(cond (!v1) true (!v2)))) (cond v3
    (ck (apOK (path).length 8) (some [(.sl .is (path)), (.i .i64 (4 : Int)), (.sl .is path)]))
    (tree_check.l1 n (Val.kids v) v4 (0 : Int) path))))))))))) = ρ) : tree_check.F n v name path = ρ := Eq.trans (by kernel_rfl) (K _ rfl _ rfl _ rfl _ rfl)
theorem tree_check.chk (n : Nat) : ((Go.Proofs.Tryd.prog.funcs[20]?).any fun fn => chkF Go.Proofs.Tryd.prog (fun k => ((envL trydGl (tree_check.env n)).fs k).2) fn tree_check.d.erase) = true := by kernel_rfl
def tree_Check.env : List (Nat × (Ctr × FSig)) := [(20, (tree_check.c, tree_check.sg))]
def tree_Check.E : TEnv := envL trydGl tree_Check.env
def tree_Check.m : TM := .seq (.reg [
    ⟨.k (.bx 1008), [.s 0, .s 1008], [1, 1008], none⟩,
    ⟨.k .mv, [.c (.sl .is ([] : List Int))], [2], none⟩,
    ⟨.k .mv, [.c (.i .i64 (0 : Int))], [3], none⟩]) none (.seq (.reg [
    ⟨.k (.ld 1008 0 9 true), [.s 1, .s 1008], [4], none⟩,
    ⟨.k (.pcaln 20 3 2 2 1), [.s 4, .c (.s ([] : Str)), .c (.sl .is ([] : List Int))], [5], none⟩,
    ⟨.k (.ex 0), [.s 5], [6], none⟩,
    ⟨.k (.ex 1), [.s 5], [7], none⟩,
    ⟨.k .mv, [.s 6], [2], none⟩,
    ⟨.k .mv, [.s 7], [3], none⟩]) none .ret)
def tree_Check.d : TFD := { np := 1, m := tree_Check.m, ref := none, tips := [], res := [.t 2, .t 3], own := [], new := none, tnew := [] }
noncomputable def tree_Check.F (v : Val) : Option (List TV) := tree_Check.d.run tree_Check.E [(.ag (Val.cells v))]
theorem tree_Check.F_in (v : Val) {ρ : Option (List TV)} (K : ∀ (v1 : List Int) (h1 : v1 = ((Tree.chkF (Fld.of (([] : Str)) v) (([] : List Int))).1)) (v2 : Int) (h2 : v2 = ((Tree.chkF (Fld.of (([] : Str)) v) (([] : List Int))).2)), ck (decide (Fld.bulk (Fld.of (([] : Str)) v) + (([] : List Int)).length ≤ 1099511627776)) (some [(.sl .is v1), (.i .i64 v2)]) = ρ) : tree_Check.F v = ρ := Eq.trans (by kernel_rfl) (K _ rfl _ rfl)
theorem tree_Check.chk : ((Go.Proofs.Tryd.prog.funcs[15]?).any fun fn => chkF Go.Proofs.Tryd.prog (fun k => ((envL trydGl tree_Check.env).fs k).2) fn tree_Check.d.erase) = true := by kernel_rfl
def tree_Depth.env (n : Nat) : List (Nat × (Ctr × FSig)) := [(12, (tree_Depth.cn n, tree_Depth.sg))]
def tree_Depth.E (n : Nat) : TEnv := envL trydGl (tree_Depth.env n)
def tree_Depth.m1 : TM := .seq (.reg [
    ⟨.k (.bin .lss), [.s 22, .s 21], [23], none⟩]) none (.seq (.cond (.s 23) [] .skip (.exit 0)) none (.seq (.block 1 [] (.seq (.reg [
    ⟨.k (.ix 10), [.s 20, .s 22], [24], none⟩,
    ⟨.k (.lr 10 true), [.s 24], [25], none⟩,
    ⟨.al 1035 [(.s ([] : Str)), (.i .i64 (0 : Int)), (.u64 (0 : UInt64)), (.u64 (0 : UInt64)), (.u64 (0 : UInt64)), (.s ([] : Str)), (.s ([] : Str)), (.i .i64 (0 : Int)), (.sl .bs ([] : List UInt8)), (.sl .fl ([] : List Fld))] [], [.s 1035], [5, 1035], none⟩,
    ⟨.k (.st 1035 0 10), [.s 5, .s 1035, .s 25], [1035], none⟩]) none (.reg [
    ⟨.k .mv, [.s 3], [26], none⟩,
    ⟨.k (.fa 1035 0 1), [.s 5], [27], none⟩,
    ⟨.k (.ld 1035 1 9 true), [.s 27, .s 1035], [28], none⟩,
    ⟨.k (.call 12 (.plain 1 1)), [.s 28], [29], none⟩,
    ⟨.k .mx, [.s 26, .s 29], [30], none⟩,
    ⟨.k .mv, [.s 30], [3], none⟩]))) none (.reg [
    ⟨.k (.bin .add), [.s 22, .c (.i .i64 (1 : Int))], [31], none⟩,
    ⟨.k .mv, [.s 31], [22], none⟩])))
def tree_Depth.m : TM := .seq (.reg [
    ⟨.k (.bx 1034), [.s 0, .s 1034], [1, 1034], none⟩,
    ⟨.k .mv, [.c (.i .i64 (0 : Int))], [2], none⟩]) none (.seq (.seq (.reg [
    ⟨.k (.fa 1034 0 0), [.s 1], [6], none⟩,
    ⟨.k (.ld 1034 0 1 false), [.s 6, .s 1034], [7], none⟩,
    ⟨.k (.bin .neq), [.s 7, .c (.i .i64 (3 : Int))], [8], none⟩,
    ⟨.k .mv, [.s 8], [9], none⟩,
    ⟨.k (.fa 1034 0 0), [.s 1], [10], some (9, true)⟩,
    ⟨.k (.ld 1034 0 1 false), [.s 10, .s 1034], [11], some (9, true)⟩,
    ⟨.k (.bin .neq), [.s 11, .c (.i .i64 (4 : Int))], [12], some (9, true)⟩,
    ⟨.k .pick, [.s 9, .s 12, .c (.b false)], [13], none⟩,
    ⟨.k .mv, [.s 13], [14], none⟩,
    ⟨.k (.fa 1034 0 0), [.s 1], [15], some (14, true)⟩,
    ⟨.k (.ld 1034 0 1 false), [.s 15, .s 1034], [16], some (14, true)⟩,
    ⟨.k (.bin .neq), [.s 16, .c (.i .i64 (15 : Int))], [17], some (14, true)⟩,
    ⟨.k .pick, [.s 14, .s 17, .c (.b false)], [18], none⟩]) none (.cond (.s 18) [] (.seq (.reg [
    ⟨.k .mv, [.c (.i .i64 (0 : Int))], [2], none⟩]) none .ret) .skip)) none (.seq (.reg [
    ⟨.k .mv, [.c (.i .i64 (0 : Int))], [3], none⟩]) none (.seq (.seq (.reg [
    ⟨.k (.fa 1034 0 8), [.s 1], [19], none⟩,
    ⟨.k (.ld 1034 8 1 false), [.s 19, .s 1034], [20], none⟩,
    ⟨.k .len, [.s 20], [21], none⟩,
    ⟨.k .mv, [.c (.i .i64 (0 : Int))], [22], none⟩]) none (.block 0 [] (.loop [3, 20, 21, 22] [] tree_Depth.m1))) none (.seq (.reg [
    ⟨.k .mv, [.s 3], [32], none⟩,
    ⟨.k (.bin .add), [.s 32, .c (.i .i64 (1 : Int))], [33], none⟩,
    ⟨.k .mv, [.s 33], [2], none⟩]) none .ret))))
def tree_Depth.d : TFD := { np := 1, m := tree_Depth.m, ref := none, tips := [], res := [.t 2], own := [], new := none, tnew := [] }
noncomputable def tree_Depth.F (n : Nat) (v : Val) : Option (List TV) := tree_Depth.d.run (tree_Depth.E n) [(.ag (Val.cells v))]
noncomputable def tree_Depth.k1 (n : Nat) : Cont (List TV) := seqK (ev _ (tree_Depth.E n) (.seq (.reg [
    ⟨.k .mv, [.s 3], [32], none⟩,
    ⟨.k (.bin .add), [.s 32, .c (.i .i64 (1 : Int))], [33], none⟩,
    ⟨.k .mv, [.s 33], [2], none⟩]) none .ret)) none (endK tree_Depth.d)
noncomputable def tree_Depth.l1 (n : Nat) (x0 : Int) (x1 : List Fld) (x2 : Int) (x3 : Int) : Option (List TV) := loopL (evO _ (tree_Depth.E n) tree_Depth.m1) isN [3, 20, 21, 22] (headT [3, 20, 21, 22] [(.i .i64 x0), (.sl .fl x1), (.i .i64 x2), (.i .i64 x3)]) (blockK 0 (tree_Depth.k1 n))
theorem tree_Depth.l1_in (n : Nat) (x0 : Int) (x1 : List Fld) (x2 : Int) (x3 : Int) {ρ : Option (List TV)} (K : ∀ (v1 : Fld) (h1 : v1 = (List.getD x1 (x3).toNat (STy.dflt .fl))) (v2 : Int) (h2 : v2 = ((Tree.depth (Fld.of [] (Fld.val v1)) : Int))) (v3 : Int) (h3 : v3 = (IntKind.i64.wrap (x3 + (1 : Int)))) (v4 : Int) (h4 : v4 = (IntKind.i64.wrap (x0 + (1 : Int)))), cond (decide (x3 < x2))
    (ck (idxOK x3 (x1).length) (ck ((decide (Fld.bulk (Fld.of [] (Fld.val v1)) ≤ 1099511627776)) && decide ((Fld.bulk (Fld.of [] (Fld.val v1))) < n)) (tree_Depth.l1 n (maxI x0 v2) x1 x2 v3)))
    (some [(.i .i64 v4)]) = ρ) : tree_Depth.l1 n x0 x1 x2 x3 = ρ := ((ev_loop _ _ _ _ _ _).trans (by kernel_rfl)).trans (K _ rfl _ rfl _ rfl _ rfl)
theorem tree_Depth.F_in (n : Nat) (v : Val) {ρ : Option (List TV)} (K : ∀ (v1 : Bool) (h1 : v1 = (cond (!decide ((Val.kind v) = (3 : Int))) (!decide ((Val.kind v) = (4 : Int))) false)) (v2 : Bool) (h2 : v2 = (cond v1 (!decide ((Val.kind v) = (15 : Int))) false)) (v3 : Int) (h3 : v3 = (((Val.kids v)).length : Int)), ck (!(!decide ((Val.kind v) = (3 : Int))) || (!decide ((Val.kind v) = (3 : Int)))) (ck (!(!decide ((Val.kind v) = (3 : Int))) || (!decide ((Val.kind v) = (3 : Int)))) (ck (!(!decide ((Val.kind v) = (3 : Int))) || (!decide ((Val.kind v) = (3 : Int)))) (ck (!v1 || v1) (ck (!v1 || v1) (ck (!v1 || v1) (cond v2
    (some [(.i .i64 (0 : Int))])
    (tree_Depth.l1 n (0 : Int) (Val.kids v) v3 (0 : Int)))))))) = ρ) : tree_Depth.F n v = ρ := Eq.trans (by kernel_rfl) (K _ rfl _ rfl _ rfl)
theorem tree_Depth.chk (n : Nat) : ((Go.Proofs.Tryd.prog.funcs[12]?).any fun fn => chkF Go.Proofs.Tryd.prog (fun k => ((envL trydGl (tree_Depth.env n)).fs k).2) fn tree_Depth.d.erase) = true := by kernel_rfl
def ref1_SameInts.env : List (Nat × (Ctr × FSig)) := []
def ref1_SameInts.E : TEnv := envL trydGl ref1_SameInts.env
def ref1_SameInts.m1 : TM := .seq (.seq (.reg [
    ⟨.k .mv, [.s 5], [11], none⟩,
    ⟨.k .mv, [.s 0], [12], none⟩,
    ⟨.k .len, [.s 12], [13], none⟩,
    ⟨.k (.bin .lss), [.s 11, .s 13], [14], none⟩]) none (.cond (.s 14) [] .skip (.exit 0))) none (.seq (.block 1 [] (.seq (.reg [
    ⟨.k .mv, [.s 0], [17], none⟩,
    ⟨.k .mv, [.s 5], [18], none⟩,
    ⟨.k (.ix 1), [.s 17, .s 18], [19], none⟩,
    ⟨.k (.lr 1 false), [.s 19], [20], none⟩,
    ⟨.k .mv, [.s 1], [21], none⟩,
    ⟨.k .mv, [.s 5], [22], none⟩,
    ⟨.k (.ix 1), [.s 21, .s 22], [23], none⟩,
    ⟨.k (.lr 1 false), [.s 23], [24], none⟩,
    ⟨.k (.bin .neq), [.s 20, .s 24], [25], none⟩]) none (.cond (.s 25) [] (.seq (.reg [
    ⟨.k .mv, [.c (.b false)], [4], none⟩]) none .ret) .skip))) none (.reg [
    ⟨.k .mv, [.s 5], [15], none⟩,
    ⟨.k (.bin .add), [.s 15, .c (.i .i64 (1 : Int))], [16], none⟩,
    ⟨.k .mv, [.s 16], [5], none⟩]))
def ref1_SameInts.m : TM := .seq (.reg [
    ⟨.k .mv, [.c (.b false)], [4], none⟩]) none (.seq (.seq (.reg [
    ⟨.k .mv, [.s 0], [6], none⟩,
    ⟨.k .len, [.s 6], [7], none⟩,
    ⟨.k .mv, [.s 1], [8], none⟩,
    ⟨.k .len, [.s 8], [9], none⟩,
    ⟨.k (.bin .neq), [.s 7, .s 9], [10], none⟩]) none (.cond (.s 10) [] (.seq (.reg [
    ⟨.k .mv, [.c (.b false)], [4], none⟩]) none .ret) .skip)) none (.seq (.seq (.reg [
    ⟨.k .mv, [.c (.i .i64 (0 : Int))], [5], none⟩]) none (.block 0 [] (.loop [0, 1, 5] [] ref1_SameInts.m1))) none (.seq (.reg [
    ⟨.k .mv, [.c (.b true)], [4], none⟩]) none .ret)))
def ref1_SameInts.d : TFD := { np := 2, m := ref1_SameInts.m, ref := none, tips := [], res := [.t 4], own := [], new := none, tnew := [] }
noncomputable def ref1_SameInts.F (a : List Int) (b : List Int) : Option (List TV) := ref1_SameInts.d.run ref1_SameInts.E [(.sl .is a), (.sl .is b)]
noncomputable def ref1_SameInts.k1 : Cont (List TV) := seqK (ev _ ref1_SameInts.E (.seq (.reg [
    ⟨.k .mv, [.c (.b true)], [4], none⟩]) none .ret)) none (endK ref1_SameInts.d)
noncomputable def ref1_SameInts.l1 (x0 : List Int) (x1 : List Int) (x2 : Int) : Option (List TV) := loopL (evO _ ref1_SameInts.E ref1_SameInts.m1) isN [0, 1, 5] (headT [0, 1, 5] [(.sl .is x0), (.sl .is x1), (.i .i64 x2)]) (blockK 0 ref1_SameInts.k1)
theorem ref1_SameInts.l1_in (x0 : List Int) (x1 : List Int) (x2 : Int) {ρ : Option (List TV)} (K : ∀ (v1 : Int) (h1 : v1 = (List.getD x0 (x2).toNat (0 : Int))) (v2 : Int) (h2 : v2 = (List.getD x1 (x2).toNat (0 : Int))) (v3 : Int) (h3 : v3 = (IntKind.i64.wrap (x2 + (1 : Int)))), cond (decide (x2 < ((x0).length : Int)))
    (ck (idxOK x2 (x0).length) (ck (idxOK x2 (x1).length) (cond (!decide (v1 = v2))
    (some [(.b false)])
    (ref1_SameInts.l1 x0 x1 v3))))
    (some [(.b true)]) = ρ) : ref1_SameInts.l1 x0 x1 x2 = ρ := ((ev_loop _ _ _ _ _ _).trans (by kernel_rfl)).trans (K _ rfl _ rfl _ rfl)
theorem ref1_SameInts.F_eq (a : List Int) (b : List Int) : ref1_SameInts.F a b = cond (!decide (((a).length : Int) = ((b).length : Int)))
    (some [(.b false)])
    (ref1_SameInts.l1 a b (0 : Int)) := by kernel_rfl
theorem ref1_SameInts.chk : ((Go.Proofs.Tryd.prog.funcs[16]?).any fun fn => chkF Go.Proofs.Tryd.prog (fun k => ((envL trydGl ref1_SameInts.env).fs k).2) fn ref1_SameInts.d.erase) = true := by kernel_rfl
def book_Room.env : List (Nat × (Ctr × FSig)) := []
def book_Room.E : TEnv := envL trydGl book_Room.env
def book_Room.m1 : TM := .seq (.seq (.reg [
    ⟨.k .mv, [.s 5], [6], none⟩,
    ⟨.k .mv, [.s 1], [7], none⟩,
    ⟨.k .len, [.s 7], [8], none⟩,
    ⟨.k (.bin .lss), [.s 6, .s 8], [9], none⟩]) none (.cond (.s 9) [] .skip (.exit 0))) none (.seq (.block 1 [] (.seq (.seq (.reg [
    ⟨.k .mv, [.s 0], [12], none⟩,
    ⟨.k (.bin .lss), [.s 12, .c (.i .i64 (0 : Int))], [13], none⟩,
    ⟨.k .mv, [.s 13], [14], none⟩,
    ⟨.k .mv, [.s 1], [15], some (14, false)⟩,
    ⟨.k .mv, [.s 5], [16], some (14, false)⟩,
    ⟨.k (.ix 1), [.s 15, .s 16], [17], some (14, false)⟩,
    ⟨.k (.lr 1 false), [.s 17], [18], some (14, false)⟩,
    ⟨.k .mv, [.s 0], [19], some (14, false)⟩,
    ⟨.k (.bin .gtr), [.s 18, .s 19], [20], some (14, false)⟩,
    ⟨.k .pick, [.s 14, .c (.b true), .s 20], [21], none⟩]) none (.cond (.s 21) [] (.seq (.reg [
    ⟨.k .mv, [.c (.i .i64 (-1 : Int))], [4], none⟩]) none .ret) .skip)) none (.reg [
    ⟨.k .mv, [.s 0], [22], none⟩,
    ⟨.k .mv, [.s 1], [23], none⟩,
    ⟨.k .mv, [.s 5], [24], none⟩,
    ⟨.k (.ix 1), [.s 23, .s 24], [25], none⟩,
    ⟨.k (.lr 1 false), [.s 25], [26], none⟩,
    ⟨.k (.bin .sub), [.s 22, .s 26], [27], none⟩,
    ⟨.k .mv, [.s 27], [0], none⟩]))) none (.reg [
    ⟨.k .mv, [.s 5], [10], none⟩,
    ⟨.k (.bin .add), [.s 10, .c (.i .i64 (1 : Int))], [11], none⟩,
    ⟨.k .mv, [.s 11], [5], none⟩]))
def book_Room.m : TM := .seq (.reg [
    ⟨.k .mv, [.c (.i .i64 (0 : Int))], [4], none⟩]) none (.seq (.seq (.reg [
    ⟨.k .mv, [.c (.i .i64 (0 : Int))], [5], none⟩]) none (.block 0 [] (.loop [0, 1, 5] [] book_Room.m1))) none (.seq (.reg [
    ⟨.k .mv, [.s 0], [28], none⟩,
    ⟨.k .mv, [.s 28], [4], none⟩]) none .ret))
def book_Room.d : TFD := { np := 2, m := book_Room.m, ref := none, tips := [], res := [.t 4], own := [], new := none, tnew := [] }
noncomputable def book_Room.F (left : Int) (sizes : List Int) : Option (List TV) := book_Room.d.run book_Room.E [(.i .i64 left), (.sl .is sizes)]
noncomputable def book_Room.k1 : Cont (List TV) := seqK (ev _ book_Room.E (.seq (.reg [
    ⟨.k .mv, [.s 0], [28], none⟩,
    ⟨.k .mv, [.s 28], [4], none⟩]) none .ret)) none (endK book_Room.d)
noncomputable def book_Room.l1 (x0 : Int) (x1 : List Int) (x2 : Int) : Option (List TV) := loopL (evO _ book_Room.E book_Room.m1) isN [0, 1, 5] (headT [0, 1, 5] [(.i .i64 x0), (.sl .is x1), (.i .i64 x2)]) (blockK 0 book_Room.k1)
theorem book_Room.l1_in (x0 : Int) (x1 : List Int) (x2 : Int) {ρ : Option (List TV)} (K : ∀ (v1 : Int) (h1 : v1 = (List.getD x1 (x2).toNat (0 : Int))) (v2 : Bool) (h2 : v2 = (cond (decide (x0 < (0 : Int))) true (decide (x0 < v1)))) (v3 : Int) (h3 : v3 = (IntKind.i64.wrap (x2 + (1 : Int)))), cond (decide (x2 < ((x1).length : Int)))
    (ck (!(!(decide (x0 < (0 : Int)))) || (((!(decide (x0 < (0 : Int)))) && (!(decide (x0 < (0 : Int))))) && (idxOK x2 (x1).length))) (ck (!(!(decide (x0 < (0 : Int)))) || (!(decide (x0 < (0 : Int))))) (ck (!(!(decide (x0 < (0 : Int)))) || ((!(decide (x0 < (0 : Int)))) && (!(decide (x0 < (0 : Int)))))) (ck ((decide (x0 < (0 : Int))) || (!(decide (x0 < (0 : Int))))) (cond v2
    (some [(.i .i64 (-1 : Int))])
    (ck (idxOK x2 (x1).length) (book_Room.l1 (IntKind.i64.wrap (x0 - v1)) x1 v3)))))))
    (some [(.i .i64 x0)]) = ρ) : book_Room.l1 x0 x1 x2 = ρ := ((ev_loop _ _ _ _ _ _).trans (by kernel_rfl)).trans (K _ rfl _ rfl _ rfl)
theorem book_Room.F_eq (left : Int) (sizes : List Int) : book_Room.F left sizes = book_Room.l1 left sizes (0 : Int) := by kernel_rfl
theorem book_Room.chk : ((Go.Proofs.Tryd.prog.funcs[22]?).any fun fn => chkF Go.Proofs.Tryd.prog (fun k => ((envL trydGl book_Room.env).fs k).2) fn book_Room.d.erase) = true := by kernel_rfl
def book_Value.env (n : Nat) : List (Nat × (Ctr × FSig)) := [(18, (book_Value.cn n, book_Value.sg)), (22, (book_Room.c, book_Room.sg))]
def book_Value.E (n : Nat) : TEnv := envL trydGl (book_Value.env n)
def book_Value.m1 : TM := .seq (.seq (.reg [
    ⟨.k .mv, [.s 5], [18], none⟩,
    ⟨.k (.fa 1047 0 8), [.s 3], [19], none⟩,
    ⟨.k (.ld 1047 8 1 false), [.s 19, .s 1047], [20], none⟩,
    ⟨.k .len, [.s 20], [21], none⟩,
    ⟨.k (.bin .lss), [.s 18, .s 21], [22], none⟩,
    ⟨.k .mv, [.s 22], [23], none⟩,
    ⟨.k .mv, [.s 0], [24], some (23, true)⟩,
    ⟨.k (.bin .geq), [.s 24, .c (.i .i64 (0 : Int))], [25], some (23, true)⟩,
    ⟨.k .pick, [.s 23, .s 25, .c (.b false)], [26], none⟩]) none (.cond (.s 26) [] .skip (.exit 0))) none (.seq (.block 1 [(3, .ptr 1047 0), (1047, .cl [])] (.reg [
    ⟨.k .mv, [.s 0], [29], none⟩,
    ⟨.k (.fa 1047 0 8), [.s 3], [30], none⟩,
    ⟨.k (.ld 1047 8 1 false), [.s 30, .s 1047], [31], none⟩,
    ⟨.k .mv, [.s 5], [32], none⟩,
    ⟨.k (.ix 10), [.s 31, .s 32], [33], none⟩,
    ⟨.k (.fr 0 1 false), [.s 33], [34], none⟩,
    ⟨.k (.lr 1 false), [.s 34], [35], none⟩,
    ⟨.k .lns, [.s 35], [36], none⟩,
    ⟨.bl .is 1, [.s 36], [37], none⟩,
    ⟨.k (.call 22 (.plain 2 1)), [.s 29, .s 37], [38], none⟩,
    ⟨.k (.fa 1047 0 8), [.s 3], [39], none⟩,
    ⟨.k (.ld 1047 8 1 false), [.s 39, .s 1047], [40], none⟩,
    ⟨.k .mv, [.s 5], [41], none⟩,
    ⟨.k (.ix 10), [.s 40, .s 41], [42], none⟩,
    ⟨.k (.fr 1 9 true), [.s 42], [43], none⟩,
    ⟨.k (.lr 9 true), [.s 43], [44], none⟩,
    ⟨.k (.call 18 (.plain 2 1)), [.s 38, .s 44], [45], none⟩,
    ⟨.k .mv, [.s 45], [0], none⟩])) none (.reg [
    ⟨.k .mv, [.s 5], [27], none⟩,
    ⟨.k (.bin .add), [.s 27, .c (.i .i64 (1 : Int))], [28], none⟩,
    ⟨.k .mv, [.s 28], [5], none⟩]))
def book_Value.m : TM := .seq (.reg [
    ⟨.k (.bx 1047), [.s 1, .s 1047], [3, 1047], none⟩,
    ⟨.k .mv, [.c (.i .i64 (0 : Int))], [4], none⟩]) none (.seq (.reg [
    ⟨.k .mv, [.s 0], [6], none⟩,
    ⟨.k (.fa 1047 0 4), [.s 3], [7], none⟩,
    ⟨.k (.ld 1047 4 1 false), [.s 7, .s 1047], [8], none⟩,
    ⟨.k .lns, [.s 8], [9], none⟩,
    ⟨.k (.fa 1047 0 5), [.s 3], [10], none⟩,
    ⟨.k (.ld 1047 5 1 false), [.s 10, .s 1047], [11], none⟩,
    ⟨.k .lns, [.s 11], [12], none⟩,
    ⟨.k (.fa 1047 0 7), [.s 3], [13], none⟩,
    ⟨.k (.ld 1047 7 1 false), [.s 13, .s 1047], [14], none⟩,
    ⟨.k .len, [.s 14], [15], none⟩,
    ⟨.bl .is 4, [.c (.i .i64 (2 : Int)), .s 9, .s 12, .s 15], [16], none⟩,
    ⟨.k (.call 22 (.plain 2 1)), [.s 6, .s 16], [17], none⟩,
    ⟨.k .mv, [.s 17], [0], none⟩]) none (.seq (.seq (.reg [
    ⟨.k .mv, [.c (.i .i64 (0 : Int))], [5], none⟩]) none (.block 0 [] (.loop [0, 3, 5, 1047] [(3, .ptr 1047 0), (1047, .cl [])] book_Value.m1))) none (.seq (.reg [
    ⟨.k .mv, [.s 0], [46], none⟩,
    ⟨.k .mv, [.s 46], [4], none⟩]) none .ret)))
def book_Value.d : TFD := { np := 2, m := book_Value.m, ref := none, tips := [], res := [.t 4], own := [], new := none, tnew := [] }
noncomputable def book_Value.F (n : Nat) (left : Int) (v : Val) : Option (List TV) := book_Value.d.run (book_Value.E n) [(.i .i64 left), (.ag (Val.cells v))]
noncomputable def book_Value.k1 (n : Nat) : Cont (List TV) := seqK (ev _ (book_Value.E n) (.seq (.reg [
    ⟨.k .mv, [.s 0], [46], none⟩,
    ⟨.k .mv, [.s 46], [4], none⟩]) none .ret)) none (endK book_Value.d)
noncomputable def book_Value.l1 (n : Nat) (x0 : Int) (x1 : Int) (x2 : Val) : Option (List TV) := loopL (evO _ (book_Value.E n) book_Value.m1) isN [0, 3, 5, 1047] (headT [0, 3, 5, 1047] [(.i .i64 x0), .pt, (.i .i64 x1), (.ag (Val.cells x2))]) (blockK 0 (book_Value.k1 n))
theorem book_Value.l1_in (n : Nat) (x0 : Int) (x1 : Int) (x2 : Val) {ρ : Option (List TV)} (K : ∀ (v1 : Int) (h1 : v1 = (((Val.kids x2)).length : Int)) (v2 : Bool) (h2 : v2 = (cond (decide (x1 < v1)) (decide ((0 : Int) ≤ x0)) false)) (v3 : Fld) (h3 : v3 = (List.getD (Val.kids x2) (x1).toNat (STy.dflt .fl))) (v4 : Int) (h4 : v4 = (((Fld.name v3)).length : Int)) (v5 : Int) (h5 : v5 = (Book.room x0 (([v4] : List Int)))) (v6 : Int) (h6 : v6 = (Book.value v5 (Fld.of [] (Fld.val v3)))) (v7 : Int) (h7 : v7 = (IntKind.i64.wrap (x1 + (1 : Int)))), ck (!(decide (x1 < v1)) || (decide (x1 < v1))) (ck (!(decide (x1 < v1)) || (decide (x1 < v1))) (cond v2
    (ck (idxOK x1 ((Val.kids x2)).length) (ck (decide (x0 ≤ 1200 ∧ (([v4] : List Int)).length ≤ 10) && (([v4] : List Int)).all (fun s => decide (0 ≤ s))) (ck (idxOK x1 ((Val.kids x2)).length) (ck ((decide (v5 ≤ 1200)) && decide ((Fld.bulk (Fld.of [] (Fld.val v3))) < n)) (book_Value.l1 n v6 v7 x2)))))
    (some [(.i .i64 x0)]))) = ρ) : book_Value.l1 n x0 x1 x2 = ρ := ((ev_loop _ _ _ _ _ _).trans (by kernel_rfl)).trans (K _ rfl _ rfl _ rfl _ rfl _ rfl _ rfl _ rfl)
theorem book_Value.F_in (n : Nat) (left : Int) (v : Val) {ρ : Option (List TV)} (K : ∀ (v1 : Int) (h1 : v1 = (((Val.text v)).length : Int)) (v2 : Int) (h2 : v2 = (((Val.more v)).length : Int)) (v3 : Int) (h3 : v3 = (((Val.bytes v)).length : Int)) (v4 : List Int) (h4 : v4 = ([(2 : Int), v1, v2, v3] : List Int)), ck (decide (left ≤ 1200 ∧ v4.length ≤ 10) && v4.all (fun s => decide (0 ≤ s))) (book_Value.l1 n (Book.room left v4) (0 : Int) v) = ρ) : book_Value.F n left v = ρ := Eq.trans (by kernel_rfl) (K _ rfl _ rfl _ rfl _ rfl)
theorem book_Value.chk (n : Nat) : ((Go.Proofs.Tryd.prog.funcs[18]?).any fun fn => chkF Go.Proofs.Tryd.prog (fun k => ((envL trydGl (book_Value.env n)).fs k).2) fn book_Value.d.erase) = true := by kernel_rfl
def book_Small.env : List (Nat × (Ctr × FSig)) := [(18, (book_Value.c, book_Value.sg))]
def book_Small.E : TEnv := envL trydGl book_Small.env
def book_Small.m : TM := .seq (.reg [
    ⟨.k (.bx 1006), [.s 0, .s 1006], [1, 1006], none⟩,
    ⟨.k .mv, [.c (.b false)], [2], none⟩]) none (.seq (.reg [
    ⟨.k (.ld 1006 0 9 true), [.s 1, .s 1006], [3], none⟩,
    ⟨.k (.call 18 (.plain 2 1)), [.c (.i .i64 (1200 : Int)), .s 3], [4], none⟩,
    ⟨.k (.bin .geq), [.s 4, .c (.i .i64 (0 : Int))], [5], none⟩,
    ⟨.k .mv, [.s 5], [2], none⟩]) none .ret)
def book_Small.d : TFD := { np := 1, m := book_Small.m, ref := none, tips := [], res := [.t 2], own := [], new := none, tnew := [] }
noncomputable def book_Small.F (v : Val) : Option (List TV) := book_Small.d.run book_Small.E [(.ag (Val.cells v))]
theorem book_Small.F_in (v : Val) {ρ : Option (List TV)} (K : ∀ (v1 : Int) (h1 : v1 = (Book.value ((1200 : Int)) (Fld.of [] v))), ck (decide (((1200 : Int)) ≤ 1200)) (some [(.b (decide ((0 : Int) ≤ v1)))]) = ρ) : book_Small.F v = ρ := Eq.trans (by kernel_rfl) (K _ rfl)
theorem book_Small.chk : ((Go.Proofs.Tryd.prog.funcs[9]?).any fun fn => chkF Go.Proofs.Tryd.prog (fun k => ((envL trydGl book_Small.env).fs k).2) fn book_Small.d.erase) = true := by kernel_rfl
def law17_awake.env : List (Nat × (Ctr × FSig)) := [(12, (tree_Depth.c, tree_Depth.sg)), (15, (tree_Check.c, tree_Check.sg)), (16, (ref1_SameInts.c, ref1_SameInts.sg))]
def law17_awake.E : TEnv := envL trydGl law17_awake.env
def law17_awake.m : TM := .seq (.reg [
    ⟨.k .mv, [.c (.b false)], [0], none⟩]) none (.seq (.reg [
    ⟨.bd [(.i .i64 (0 : Int)), (.u64 (0 : UInt64)), (.u64 (0 : UInt64)), (.u64 (0 : UInt64)), (.s ([] : Str)), (.s ([] : Str)), (.i .i64 (0 : Int)), (.sl .bs ([] : List UInt8)), (.sl .fl ([] : List Fld))] [(0, 1)], [.c (.i .i64 (3 : Int))], [4], none⟩,
    ⟨.bd [(.s ([] : Str)), (.i .i64 (0 : Int)), (.u64 (0 : UInt64)), (.u64 (0 : UInt64)), (.u64 (0 : UInt64)), (.s ([] : Str)), (.s ([] : Str)), (.i .i64 (0 : Int)), (.sl .bs ([] : List UInt8)), (.sl .fl ([] : List Fld))] [(0, 1), (1, 9)], [.c (.s ([97] : Str)), .s 4], [5], none⟩,
    ⟨.al 1028 [(.s ([] : Str)), (.i .i64 (0 : Int)), (.u64 (0 : UInt64)), (.u64 (0 : UInt64)), (.u64 (0 : UInt64)), (.s ([] : Str)), (.s ([] : Str)), (.i .i64 (0 : Int)), (.sl .bs ([] : List UInt8)), (.sl .fl ([] : List Fld))] [], [.s 1028], [1, 1028], none⟩,
    ⟨.k (.st 1028 0 10), [.s 1, .s 1028, .s 5], [1028], none⟩]) none (.seq (.reg [
    ⟨.bd [(.i .i64 (0 : Int)), (.u64 (0 : UInt64)), (.u64 (0 : UInt64)), (.u64 (0 : UInt64)), (.s ([] : Str)), (.s ([] : Str)), (.i .i64 (0 : Int)), (.sl .bs ([] : List UInt8)), (.sl .fl ([] : List Fld))] [(0, 1)], [.c (.i .i64 (99 : Int))], [7], none⟩,
    ⟨.bd [(.s ([] : Str)), (.i .i64 (0 : Int)), (.u64 (0 : UInt64)), (.u64 (0 : UInt64)), (.u64 (0 : UInt64)), (.s ([] : Str)), (.s ([] : Str)), (.i .i64 (0 : Int)), (.sl .bs ([] : List UInt8)), (.sl .fl ([] : List Fld))] [(0, 1), (1, 9)], [.c (.s ([97] : Str)), .s 7], [8], none⟩,
    ⟨.bl .fl 1, [.s 8], [9], none⟩,
    ⟨.bd [(.i .i64 (0 : Int)), (.u64 (0 : UInt64)), (.u64 (0 : UInt64)), (.u64 (0 : UInt64)), (.s ([] : Str)), (.s ([] : Str)), (.i .i64 (0 : Int)), (.sl .bs ([] : List UInt8)), (.sl .fl ([] : List Fld))] [(0, 1), (8, 1)], [.c (.i .i64 (3 : Int)), .s 9], [10], none⟩,
    ⟨.k (.call 15 (.plain 1 2)), [.s 10], [11], none⟩,
    ⟨.k .mv, [.s 11], [6], none⟩,
    ⟨.k (.ex 0), [.s 6], [12], none⟩,
    ⟨.k (.ex 1), [.s 6], [13], none⟩,
    ⟨.k .mv, [.s 12], [2], none⟩,
    ⟨.k .mv, [.s 13], [3], none⟩]) none (.seq (.reg [
    ⟨.k (.ld 1028 0 10 true), [.s 1, .s 1028], [14], none⟩,
    ⟨.bl .fl 1, [.s 14], [15], none⟩,
    ⟨.bd [(.i .i64 (0 : Int)), (.u64 (0 : UInt64)), (.u64 (0 : UInt64)), (.u64 (0 : UInt64)), (.s ([] : Str)), (.s ([] : Str)), (.i .i64 (0 : Int)), (.sl .bs ([] : List UInt8)), (.sl .fl ([] : List Fld))] [(0, 1), (8, 1)], [.c (.i .i64 (3 : Int)), .s 15], [16], none⟩,
    ⟨.k (.call 12 (.plain 1 1)), [.s 16], [17], none⟩,
    ⟨.k (.bin .eql), [.s 17, .c (.i .i64 (2 : Int))], [18], none⟩,
    ⟨.k .mv, [.s 18], [19], none⟩,
    ⟨.k .mv, [.s 3], [20], some (19, true)⟩,
    ⟨.k (.bin .eql), [.s 20, .c (.i .i64 (5 : Int))], [21], some (19, true)⟩,
    ⟨.k .pick, [.s 19, .s 21, .c (.b false)], [22], none⟩,
    ⟨.k .mv, [.s 22], [23], none⟩,
    ⟨.k .mv, [.s 2], [24], some (23, true)⟩,
    ⟨.bl .is 1, [.c (.i .i64 (0 : Int))], [25], some (23, true)⟩,
    ⟨.k (.call 16 (.plain 2 1)), [.s 24, .s 25], [26], some (23, true)⟩,
    ⟨.k .pick, [.s 23, .s 26, .c (.b false)], [27], none⟩,
    ⟨.k .mv, [.s 27], [0], none⟩]) none .ret)))
def law17_awake.d : TFD := { np := 0, m := law17_awake.m, ref := none, tips := [], res := [.t 0], own := [], new := none, tnew := [] }
noncomputable def law17_awake.F  : Option (List TV) := law17_awake.d.run law17_awake.E []
theorem law17_awake.F_in  {ρ : Option (List TV)} (K : ∀ (v1 : List Fld) (h1 : v1 = ([(Fld.mk ([97] : Str) (99 : Int) (0 : UInt64) (0 : UInt64) (0 : UInt64) ([] : Str) ([] : Str) (0 : Int) ([] : List UInt8) ([] : List Fld))] : List Fld)) (v2 : List Int) (h2 : v2 = ((Tree.chkF (Fld.of [] (Val.mk (3 : Int) (0 : UInt64) (0 : UInt64) (0 : UInt64) ([] : Str) ([] : Str) (0 : Int) ([] : List UInt8) v1)) []).1)) (v3 : Int) (h3 : v3 = ((Tree.chkF (Fld.of [] (Val.mk (3 : Int) (0 : UInt64) (0 : UInt64) (0 : UInt64) ([] : Str) ([] : Str) (0 : Int) ([] : List UInt8) v1)) []).2)) (v4 : List Fld) (h4 : v4 = ([(Fld.mk ([97] : Str) (3 : Int) (0 : UInt64) (0 : UInt64) (0 : UInt64) ([] : Str) ([] : Str) (0 : Int) ([] : List UInt8) ([] : List Fld))] : List Fld)) (v5 : Int) (h5 : v5 = ((Tree.depth (Fld.of [] (Val.mk (3 : Int) (0 : UInt64) (0 : UInt64) (0 : UInt64) ([] : Str) ([] : Str) (0 : Int) ([] : List UInt8) v4)) : Int))) (v6 : Bool) (h6 : v6 = (cond (decide (v5 = (2 : Int))) (decide (v3 = (5 : Int))) false)) (v7 : Bool) (h7 : v7 = (cond v6 (decide (v2 = (([(0 : Int)] : List Int)))) false)), ck (decide (Fld.bulk (Fld.of [] (Val.mk (3 : Int) (0 : UInt64) (0 : UInt64) (0 : UInt64) ([] : Str) ([] : Str) (0 : Int) ([] : List UInt8) v1)) ≤ 1099511627776)) (ck (decide (Fld.bulk (Fld.of [] (Val.mk (3 : Int) (0 : UInt64) (0 : UInt64) (0 : UInt64) ([] : Str) ([] : Str) (0 : Int) ([] : List UInt8) v4)) ≤ 1099511627776)) (ck (!(decide (v5 = (2 : Int))) || (decide (v5 = (2 : Int)))) (ck (!(decide (v5 = (2 : Int))) || (decide (v5 = (2 : Int)))) (ck (!v6 || ((v6 && v6) && (decide (v2.length ≤ 1099511627776)))) (ck (!v6 || v6) (some [(.b v7)])))))) = ρ) : law17_awake.F  = ρ := Eq.trans (by kernel_rfl) (K _ rfl _ rfl _ rfl _ rfl _ rfl _ rfl _ rfl)
theorem law17_awake.chk : ((Go.Proofs.Tryd.prog.funcs[5]?).any fun fn => chkF Go.Proofs.Tryd.prog (fun k => ((envL trydGl law17_awake.env).fs k).2) fn law17_awake.d.erase) = true := by kernel_rfl
theorem sc_Itoa.ok : SpecOK Go.Proofs.Tryd.prog (fun n => (trydGl n).av) 17 (Ctr.fs (sc_Itoa.c, sc_Itoa.sg)) := itoa_ok rfl Tryd.itoa
def ref5_Digits.env : List (Nat × (Ctr × FSig)) := []
def ref5_Digits.E : TEnv := envL trydGl ref5_Digits.env
def ref5_Digits.m1 : TM := .seq (.seq (.reg [
    ⟨.k .mv, [.s 0], [4], none⟩,
    ⟨.k (.bin .gtr), [.s 4, .c (.u64 (9 : UInt64))], [5], none⟩]) none (.cond (.s 5) [] .skip (.exit 0))) none (.block 1 [] (.seq (.reg [
    ⟨.k .mv, [.s 0], [6], none⟩,
    ⟨.k (.bin .rem), [.s 6, .c (.u64 (10 : UInt64))], [7], none⟩,
    ⟨.k (.bin .add), [.c (.u64 (48 : UInt64)), .s 7], [8], none⟩,
    ⟨.k (.ci .u8), [.s 8], [9], none⟩,
    ⟨.bl .bs 1, [.s 9], [10], none⟩,
    ⟨.k .bs, [.s 10], [11], none⟩,
    ⟨.k .mv, [.s 3], [12], none⟩,
    ⟨.k (.bin .add), [.s 11, .s 12], [13], none⟩,
    ⟨.k .mv, [.s 13], [3], none⟩]) none (.reg [
    ⟨.k .mv, [.s 0], [14], none⟩,
    ⟨.k (.bin .quo), [.s 14, .c (.u64 (10 : UInt64))], [15], none⟩,
    ⟨.k .mv, [.s 15], [0], none⟩])))
def ref5_Digits.m : TM := .seq (.reg [
    ⟨.k .mv, [.c (.s ([] : Str))], [2], none⟩]) none (.seq (.reg [
    ⟨.k .mv, [.c (.s ([] : Str))], [3], none⟩]) none (.seq (.block 0 [] (.loop [0, 3] [] ref5_Digits.m1)) none (.seq (.reg [
    ⟨.k .mv, [.s 0], [16], none⟩,
    ⟨.k (.bin .add), [.c (.u64 (48 : UInt64)), .s 16], [17], none⟩,
    ⟨.k (.ci .u8), [.s 17], [18], none⟩,
    ⟨.bl .bs 1, [.s 18], [19], none⟩,
    ⟨.k .bs, [.s 19], [20], none⟩,
    ⟨.k .mv, [.s 3], [21], none⟩,
    ⟨.k (.bin .add), [.s 20, .s 21], [22], none⟩,
    ⟨.k .mv, [.s 22], [2], none⟩]) none .ret)))
def ref5_Digits.d : TFD := { np := 1, m := ref5_Digits.m, ref := none, tips := [], res := [.t 2], own := [], new := none, tnew := [] }
noncomputable def ref5_Digits.F (v : UInt64) : Option (List TV) := ref5_Digits.d.run ref5_Digits.E [(.u64 v)]
noncomputable def ref5_Digits.k1 : Cont (List TV) := seqK (ev _ ref5_Digits.E (.seq (.reg [
    ⟨.k .mv, [.s 0], [16], none⟩,
    ⟨.k (.bin .add), [.c (.u64 (48 : UInt64)), .s 16], [17], none⟩,
    ⟨.k (.ci .u8), [.s 17], [18], none⟩,
    ⟨.bl .bs 1, [.s 18], [19], none⟩,
    ⟨.k .bs, [.s 19], [20], none⟩,
    ⟨.k .mv, [.s 3], [21], none⟩,
    ⟨.k (.bin .add), [.s 20, .s 21], [22], none⟩,
    ⟨.k .mv, [.s 22], [2], none⟩]) none .ret)) none (endK ref5_Digits.d)
noncomputable def ref5_Digits.l1 (x0 : UInt64) (x1 : Str) : Option (List TV) := loopL (evO _ ref5_Digits.E ref5_Digits.m1) isN [0, 3] (headT [0, 3] [(.u64 x0), (.s x1)]) (blockK 0 ref5_Digits.k1)
theorem ref5_Digits.l1_in (x0 : UInt64) (x1 : Str) {ρ : Option (List TV)} (K : ∀ (v1 : UInt64) (h1 : v1 = ((48 : UInt64) + (x0 % (10 : UInt64)))) (v2 : UInt8) (h2 : v2 = (UInt8.ofInt ((v1).toNat : Int))) (v3 : UInt8) (h3 : v3 = (UInt8.ofInt ((((48 : UInt64) + x0)).toNat : Int))), cond (decide ((9 : UInt64) < x0))
    (ck (!decide ((10 : UInt64) = 0)) (ck (decide ((([v2] : List UInt8)).length + (x1).length ≤ 9223372036854775807)) (ck (!decide ((10 : UInt64) = 0)) (ref5_Digits.l1 (x0 / (10 : UInt64)) (([v2] : List UInt8) ++ x1)))))
    (ck (decide ((([v3] : List UInt8)).length + (x1).length ≤ 9223372036854775807)) (some [(.s (([v3] : List UInt8) ++ x1))])) = ρ) : ref5_Digits.l1 x0 x1 = ρ := ((ev_loop _ _ _ _ _ _).trans (by kernel_rfl)).trans (K _ rfl _ rfl _ rfl)
theorem ref5_Digits.F_eq (v : UInt64) : ref5_Digits.F v = ref5_Digits.l1 v ([] : Str) := by kernel_rfl
theorem ref5_Digits.chk : ((Go.Proofs.Tryd.prog.funcs[6]?).any fun fn => chkF Go.Proofs.Tryd.prog (fun k => ((envL trydGl ref5_Digits.env).fs k).2) fn ref5_Digits.d.erase) = true := by kernel_rfl
def ref17_Kids.env : List (Nat × (Ctr × FSig)) := []
def ref17_Kids.E : TEnv := envL trydGl ref17_Kids.env
def ref17_Kids.m : TM := .seq (.reg [
    ⟨.k .mv, [.c (.b false)], [2], none⟩]) none (.seq (.reg [
    ⟨.k .mv, [.s 0], [3], none⟩,
    ⟨.k (.bin .eql), [.s 3, .c (.i .i64 (3 : Int))], [4], none⟩,
    ⟨.k .mv, [.s 4], [5], none⟩,
    ⟨.k .mv, [.s 0], [6], some (5, false)⟩,
    ⟨.k (.bin .eql), [.s 6, .c (.i .i64 (4 : Int))], [7], some (5, false)⟩,
    ⟨.k .pick, [.s 5, .c (.b true), .s 7], [8], none⟩,
    ⟨.k .mv, [.s 8], [9], none⟩,
    ⟨.k .mv, [.s 0], [10], some (9, false)⟩,
    ⟨.k (.bin .eql), [.s 10, .c (.i .i64 (15 : Int))], [11], some (9, false)⟩,
    ⟨.k .pick, [.s 9, .c (.b true), .s 11], [12], none⟩,
    ⟨.k .mv, [.s 12], [2], none⟩]) none .ret)
def ref17_Kids.d : TFD := { np := 1, m := ref17_Kids.m, ref := none, tips := [], res := [.t 2], own := [], new := none, tnew := [] }
noncomputable def ref17_Kids.F (k : Int) : Option (List TV) := ref17_Kids.d.run ref17_Kids.E [(.i .i64 k)]
theorem ref17_Kids.F_in (k : Int) {ρ : Option (List TV)} (K : ∀ (v1 : Bool) (h1 : v1 = (cond (decide (k = (3 : Int))) true (decide (k = (4 : Int))))) (v2 : Bool) (h2 : v2 = (cond v1 true (decide (k = (15 : Int))))), ck (!(!(decide (k = (3 : Int)))) || (!(decide (k = (3 : Int))))) (ck ((decide (k = (3 : Int))) || (!(decide (k = (3 : Int))))) (ck (!(!v1) || (!v1)) (ck (v1 || (!v1)) (some [(.b v2)])))) = ρ) : ref17_Kids.F k = ρ := Eq.trans (by kernel_rfl) (K _ rfl _ rfl)
theorem ref17_Kids.chk : ((Go.Proofs.Tryd.prog.funcs[19]?).any fun fn => chkF Go.Proofs.Tryd.prog (fun k => ((envL trydGl ref17_Kids.env).fs k).2) fn ref17_Kids.d.erase) = true := by kernel_rfl
def tree_Count.env (n : Nat) : List (Nat × (Ctr × FSig)) := [(10, (tree_Count.cn n, tree_Count.sg))]
def tree_Count.E (n : Nat) : TEnv := envL trydGl (tree_Count.env n)
def tree_Count.m1 : TM := .seq (.reg [
    ⟨.k (.bin .lss), [.s 9, .s 8], [10], none⟩]) none (.seq (.cond (.s 10) [] .skip (.exit 0)) none (.seq (.block 1 [] (.seq (.reg [
    ⟨.k (.ix 10), [.s 7, .s 9], [11], none⟩,
    ⟨.k (.lr 10 true), [.s 11], [12], none⟩,
    ⟨.al 1021 [(.s ([] : Str)), (.i .i64 (0 : Int)), (.u64 (0 : UInt64)), (.u64 (0 : UInt64)), (.u64 (0 : UInt64)), (.s ([] : Str)), (.s ([] : Str)), (.i .i64 (0 : Int)), (.sl .bs ([] : List UInt8)), (.sl .fl ([] : List Fld))] [], [.s 1021], [5, 1021], none⟩,
    ⟨.k (.st 1021 0 10), [.s 5, .s 1021, .s 12], [1021], none⟩]) none (.reg [
    ⟨.k .mv, [.s 3], [13], none⟩,
    ⟨.k (.fa 1021 0 1), [.s 5], [14], none⟩,
    ⟨.k (.ld 1021 1 9 true), [.s 14, .s 1021], [15], none⟩,
    ⟨.k (.call 10 (.plain 1 1)), [.s 15], [16], none⟩,
    ⟨.k (.bin .add), [.s 13, .s 16], [17], none⟩,
    ⟨.k .mv, [.s 17], [3], none⟩]))) none (.reg [
    ⟨.k (.bin .add), [.s 9, .c (.i .i64 (1 : Int))], [18], none⟩,
    ⟨.k .mv, [.s 18], [9], none⟩])))
def tree_Count.m : TM := .seq (.reg [
    ⟨.k (.bx 1020), [.s 0, .s 1020], [1, 1020], none⟩,
    ⟨.k .mv, [.c (.i .i64 (0 : Int))], [2], none⟩]) none (.seq (.reg [
    ⟨.k .mv, [.c (.i .i64 (1 : Int))], [3], none⟩]) none (.seq (.seq (.reg [
    ⟨.k (.fa 1020 0 8), [.s 1], [6], none⟩,
    ⟨.k (.ld 1020 8 1 false), [.s 6, .s 1020], [7], none⟩,
    ⟨.k .len, [.s 7], [8], none⟩,
    ⟨.k .mv, [.c (.i .i64 (0 : Int))], [9], none⟩]) none (.block 0 [] (.loop [3, 7, 8, 9] [] tree_Count.m1))) none (.seq (.reg [
    ⟨.k .mv, [.s 3], [19], none⟩,
    ⟨.k .mv, [.s 19], [2], none⟩]) none .ret)))
def tree_Count.d : TFD := { np := 1, m := tree_Count.m, ref := none, tips := [], res := [.t 2], own := [], new := none, tnew := [] }
noncomputable def tree_Count.F (n : Nat) (v : Val) : Option (List TV) := tree_Count.d.run (tree_Count.E n) [(.ag (Val.cells v))]
noncomputable def tree_Count.k1 (n : Nat) : Cont (List TV) := seqK (ev _ (tree_Count.E n) (.seq (.reg [
    ⟨.k .mv, [.s 3], [19], none⟩,
    ⟨.k .mv, [.s 19], [2], none⟩]) none .ret)) none (endK tree_Count.d)
noncomputable def tree_Count.l1 (n : Nat) (x0 : Int) (x1 : List Fld) (x2 : Int) (x3 : Int) : Option (List TV) := loopL (evO _ (tree_Count.E n) tree_Count.m1) isN [3, 7, 8, 9] (headT [3, 7, 8, 9] [(.i .i64 x0), (.sl .fl x1), (.i .i64 x2), (.i .i64 x3)]) (blockK 0 (tree_Count.k1 n))
theorem tree_Count.l1_in (n : Nat) (x0 : Int) (x1 : List Fld) (x2 : Int) (x3 : Int) {ρ : Option (List TV)} (K : ∀ (v1 : Fld) (h1 : v1 = (List.getD x1 (x3).toNat (STy.dflt .fl))) (v2 : Int) (h2 : v2 = ((Tree.count (Fld.of [] (Fld.val v1)) : Int))) (v3 : Int) (h3 : v3 = (IntKind.i64.wrap (x3 + (1 : Int)))), cond (decide (x3 < x2))
    (ck (idxOK x3 (x1).length) (ck ((decide (Fld.bulk (Fld.of [] (Fld.val v1)) ≤ 1099511627776)) && decide ((Fld.bulk (Fld.of [] (Fld.val v1))) < n)) (tree_Count.l1 n (IntKind.i64.wrap (x0 + v2)) x1 x2 v3)))
    (some [(.i .i64 x0)]) = ρ) : tree_Count.l1 n x0 x1 x2 x3 = ρ := ((ev_loop _ _ _ _ _ _).trans (by kernel_rfl)).trans (K _ rfl _ rfl _ rfl)
theorem tree_Count.F_in (n : Nat) (v : Val) {ρ : Option (List TV)} (K : ∀ (v1 : Int) (h1 : v1 = (((Val.kids v)).length : Int)), tree_Count.l1 n (1 : Int) (Val.kids v) v1 (0 : Int) = ρ) : tree_Count.F n v = ρ := Eq.trans (by kernel_rfl) (K _ rfl)
theorem tree_Count.chk (n : Nat) : ((Go.Proofs.Tryd.prog.funcs[10]?).any fun fn => chkF Go.Proofs.Tryd.prog (fun k => ((envL trydGl (tree_Count.env n)).fs k).2) fn tree_Count.d.erase) = true := by kernel_rfl
def ref17_Count.env (n : Nat) : List (Nat × (Ctr × FSig)) := [(11, (ref17_Count.cn n, ref17_Count.sg))]
def ref17_Count.E (n : Nat) : TEnv := envL trydGl (ref17_Count.env n)
def ref17_Count.m1 : TM := .seq (.seq (.reg [
    ⟨.k .mv, [.s 4], [5], none⟩,
    ⟨.k (.fa 1022 0 8), [.s 1], [6], none⟩,
    ⟨.k (.ld 1022 8 1 false), [.s 6, .s 1022], [7], none⟩,
    ⟨.k .len, [.s 7], [8], none⟩,
    ⟨.k (.bin .lss), [.s 5, .s 8], [9], none⟩]) none (.cond (.s 9) [] .skip (.exit 0))) none (.seq (.block 1 [(1, .ptr 1022 0), (1022, .cl [])] (.reg [
    ⟨.k .mv, [.s 3], [12], none⟩,
    ⟨.k (.fa 1022 0 8), [.s 1], [13], none⟩,
    ⟨.k (.ld 1022 8 1 false), [.s 13, .s 1022], [14], none⟩,
    ⟨.k .mv, [.s 4], [15], none⟩,
    ⟨.k (.ix 10), [.s 14, .s 15], [16], none⟩,
    ⟨.k (.fr 1 9 true), [.s 16], [17], none⟩,
    ⟨.k (.lr 9 true), [.s 17], [18], none⟩,
    ⟨.k (.call 11 (.plain 1 1)), [.s 18], [19], none⟩,
    ⟨.k (.bin .add), [.s 12, .s 19], [20], none⟩,
    ⟨.k .mv, [.s 20], [3], none⟩])) none (.reg [
    ⟨.k .mv, [.s 4], [10], none⟩,
    ⟨.k (.bin .add), [.s 10, .c (.i .i64 (1 : Int))], [11], none⟩,
    ⟨.k .mv, [.s 11], [4], none⟩]))
def ref17_Count.m : TM := .seq (.reg [
    ⟨.k (.bx 1022), [.s 0, .s 1022], [1, 1022], none⟩,
    ⟨.k .mv, [.c (.i .i64 (0 : Int))], [2], none⟩]) none (.seq (.reg [
    ⟨.k .mv, [.c (.i .i64 (1 : Int))], [3], none⟩]) none (.seq (.seq (.reg [
    ⟨.k .mv, [.c (.i .i64 (0 : Int))], [4], none⟩]) none (.block 0 [] (.loop [1, 3, 4, 1022] [(1, .ptr 1022 0), (1022, .cl [])] ref17_Count.m1))) none (.seq (.reg [
    ⟨.k .mv, [.s 3], [21], none⟩,
    ⟨.k .mv, [.s 21], [2], none⟩]) none .ret)))
def ref17_Count.d : TFD := { np := 1, m := ref17_Count.m, ref := none, tips := [], res := [.t 2], own := [], new := none, tnew := [] }
noncomputable def ref17_Count.F (n : Nat) (v : Val) : Option (List TV) := ref17_Count.d.run (ref17_Count.E n) [(.ag (Val.cells v))]
noncomputable def ref17_Count.k1 (n : Nat) : Cont (List TV) := seqK (ev _ (ref17_Count.E n) (.seq (.reg [
    ⟨.k .mv, [.s 3], [21], none⟩,
    ⟨.k .mv, [.s 21], [2], none⟩]) none .ret)) none (endK ref17_Count.d)
noncomputable def ref17_Count.l1 (n : Nat) (x0 : Int) (x1 : Int) (x2 : Val) : Option (List TV) := loopL (evO _ (ref17_Count.E n) ref17_Count.m1) isN [1, 3, 4, 1022] (headT [1, 3, 4, 1022] [.pt, (.i .i64 x0), (.i .i64 x1), (.ag (Val.cells x2))]) (blockK 0 (ref17_Count.k1 n))
theorem ref17_Count.l1_in (n : Nat) (x0 : Int) (x1 : Int) (x2 : Val) {ρ : Option (List TV)} (K : ∀ (v1 : Int) (h1 : v1 = (((Val.kids x2)).length : Int)) (v2 : Fld) (h2 : v2 = (List.getD (Val.kids x2) (x1).toNat (STy.dflt .fl))) (v3 : Int) (h3 : v3 = ((Tree.count (Fld.of [] (Fld.val v2)) : Int))) (v4 : Int) (h4 : v4 = (IntKind.i64.wrap (x1 + (1 : Int)))), cond (decide (x1 < v1))
    (ck (idxOK x1 ((Val.kids x2)).length) (ck ((decide (Fld.bulk (Fld.of [] (Fld.val v2)) ≤ 1099511627776)) && decide ((Fld.bulk (Fld.of [] (Fld.val v2))) < n)) (ref17_Count.l1 n (IntKind.i64.wrap (x0 + v3)) v4 x2)))
    (some [(.i .i64 x0)]) = ρ) : ref17_Count.l1 n x0 x1 x2 = ρ := ((ev_loop _ _ _ _ _ _).trans (by kernel_rfl)).trans (K _ rfl _ rfl _ rfl _ rfl)
theorem ref17_Count.F_eq (n : Nat) (v : Val) : ref17_Count.F n v = ref17_Count.l1 n (1 : Int) (0 : Int) v := by kernel_rfl
theorem ref17_Count.chk (n : Nat) : ((Go.Proofs.Tryd.prog.funcs[11]?).any fun fn => chkF Go.Proofs.Tryd.prog (fun k => ((envL trydGl (ref17_Count.env n)).fs k).2) fn ref17_Count.d.erase) = true := by kernel_rfl
def ref17_Depth.env (n : Nat) : List (Nat × (Ctr × FSig)) := [(13, (ref17_Depth.cn n, ref17_Depth.sg)), (19, (ref17_Kids.c, ref17_Kids.sg))]
def ref17_Depth.E (n : Nat) : TEnv := envL trydGl (ref17_Depth.env n)
def ref17_Depth.m1 : TM := .seq (.seq (.reg [
    ⟨.k .mv, [.s 4], [9], none⟩,
    ⟨.k (.fa 1027 0 8), [.s 1], [10], none⟩,
    ⟨.k (.ld 1027 8 1 false), [.s 10, .s 1027], [11], none⟩,
    ⟨.k .len, [.s 11], [12], none⟩,
    ⟨.k (.bin .lss), [.s 9, .s 12], [13], none⟩]) none (.cond (.s 13) [] .skip (.exit 0))) none (.seq (.block 1 [(1, .ptr 1027 0), (1027, .cl [])] (.reg [
    ⟨.k .mv, [.s 3], [16], none⟩,
    ⟨.k (.fa 1027 0 8), [.s 1], [17], none⟩,
    ⟨.k (.ld 1027 8 1 false), [.s 17, .s 1027], [18], none⟩,
    ⟨.k .mv, [.s 4], [19], none⟩,
    ⟨.k (.ix 10), [.s 18, .s 19], [20], none⟩,
    ⟨.k (.fr 1 9 true), [.s 20], [21], none⟩,
    ⟨.k (.lr 9 true), [.s 21], [22], none⟩,
    ⟨.k (.call 13 (.plain 1 1)), [.s 22], [23], none⟩,
    ⟨.k .mx, [.s 16, .s 23], [24], none⟩,
    ⟨.k .mv, [.s 24], [3], none⟩])) none (.reg [
    ⟨.k .mv, [.s 4], [14], none⟩,
    ⟨.k (.bin .add), [.s 14, .c (.i .i64 (1 : Int))], [15], none⟩,
    ⟨.k .mv, [.s 15], [4], none⟩]))
def ref17_Depth.m : TM := .seq (.reg [
    ⟨.k (.bx 1027), [.s 0, .s 1027], [1, 1027], none⟩,
    ⟨.k .mv, [.c (.i .i64 (0 : Int))], [2], none⟩]) none (.seq (.seq (.reg [
    ⟨.k (.fa 1027 0 0), [.s 1], [5], none⟩,
    ⟨.k (.ld 1027 0 1 false), [.s 5, .s 1027], [6], none⟩,
    ⟨.k (.call 19 (.plain 1 1)), [.s 6], [7], none⟩,
    ⟨.k (.un .not), [.s 7], [8], none⟩]) none (.cond (.s 8) [] (.seq (.reg [
    ⟨.k .mv, [.c (.i .i64 (0 : Int))], [2], none⟩]) none .ret) .skip)) none (.seq (.reg [
    ⟨.k .mv, [.c (.i .i64 (0 : Int))], [3], none⟩]) none (.seq (.seq (.reg [
    ⟨.k .mv, [.c (.i .i64 (0 : Int))], [4], none⟩]) none (.block 0 [] (.loop [1, 3, 4, 1027] [(1, .ptr 1027 0), (1027, .cl [])] ref17_Depth.m1))) none (.seq (.reg [
    ⟨.k .mv, [.s 3], [25], none⟩,
    ⟨.k (.bin .add), [.s 25, .c (.i .i64 (1 : Int))], [26], none⟩,
    ⟨.k .mv, [.s 26], [2], none⟩]) none .ret))))
def ref17_Depth.d : TFD := { np := 1, m := ref17_Depth.m, ref := none, tips := [], res := [.t 2], own := [], new := none, tnew := [] }
noncomputable def ref17_Depth.F (n : Nat) (v : Val) : Option (List TV) := ref17_Depth.d.run (ref17_Depth.E n) [(.ag (Val.cells v))]
noncomputable def ref17_Depth.k1 (n : Nat) : Cont (List TV) := seqK (ev _ (ref17_Depth.E n) (.seq (.reg [
    ⟨.k .mv, [.s 3], [25], none⟩,
    ⟨.k (.bin .add), [.s 25, .c (.i .i64 (1 : Int))], [26], none⟩,
    ⟨.k .mv, [.s 26], [2], none⟩]) none .ret)) none (endK ref17_Depth.d)
noncomputable def ref17_Depth.l1 (n : Nat) (x0 : Int) (x1 : Int) (x2 : Val) : Option (List TV) := loopL (evO _ (ref17_Depth.E n) ref17_Depth.m1) isN [1, 3, 4, 1027] (headT [1, 3, 4, 1027] [.pt, (.i .i64 x0), (.i .i64 x1), (.ag (Val.cells x2))]) (blockK 0 (ref17_Depth.k1 n))
theorem ref17_Depth.l1_in (n : Nat) (x0 : Int) (x1 : Int) (x2 : Val) {ρ : Option (List TV)} (K : ∀ (v1 : Int) (h1 : v1 = (((Val.kids x2)).length : Int)) (v2 : Fld) (h2 : v2 = (List.getD (Val.kids x2) (x1).toNat (STy.dflt .fl))) (v3 : Int) (h3 : v3 = ((Tree.depth (Fld.of [] (Fld.val v2)) : Int))) (v4 : Int) (h4 : v4 = (IntKind.i64.wrap (x1 + (1 : Int)))) (v5 : Int) (h5 : v5 = (IntKind.i64.wrap (x0 + (1 : Int)))), cond (decide (x1 < v1))
    (ck (idxOK x1 ((Val.kids x2)).length) (ck ((decide (Fld.bulk (Fld.of [] (Fld.val v2)) ≤ 1099511627776)) && decide ((Fld.bulk (Fld.of [] (Fld.val v2))) < n)) (ref17_Depth.l1 n (maxI x0 v3) v4 x2)))
    (some [(.i .i64 v5)]) = ρ) : ref17_Depth.l1 n x0 x1 x2 = ρ := ((ev_loop _ _ _ _ _ _).trans (by kernel_rfl)).trans (K _ rfl _ rfl _ rfl _ rfl _ rfl)
theorem ref17_Depth.F_eq (n : Nat) (v : Val) : ref17_Depth.F n v = cond (!(decide (((Val.kind v)) = 3 ∨ ((Val.kind v)) = 4 ∨ ((Val.kind v)) = 15)))
    (some [(.i .i64 (0 : Int))])
    (ref17_Depth.l1 n (0 : Int) (0 : Int) v) := by kernel_rfl
theorem ref17_Depth.chk (n : Nat) : ((Go.Proofs.Tryd.prog.funcs[13]?).any fun fn => chkF Go.Proofs.Tryd.prog (fun k => ((envL trydGl (ref17_Depth.env n)).fs k).2) fn ref17_Depth.d.erase) = true := by kernel_rfl
def tree_Regular.env : List (Nat × (Ctr × FSig)) := [(17, (sc_Itoa.c, sc_Itoa.sg))]
def tree_Regular.E : TEnv := envL trydGl tree_Regular.env
def tree_Regular.m1 : TM := .seq (.reg [
    ⟨.k (.bin .lss), [.s 7, .s 6], [8], none⟩]) none (.seq (.cond (.s 8) [] .skip (.exit 0)) none (.seq (.block 1 [] (.seq (.reg [
    ⟨.k .mv, [.s 7], [9], none⟩,
    ⟨.k (.ix 10), [.s 5, .s 7], [10], none⟩,
    ⟨.k (.lr 10 true), [.s 10], [11], none⟩,
    ⟨.al 1018 [(.s ([] : Str)), (.i .i64 (0 : Int)), (.u64 (0 : UInt64)), (.u64 (0 : UInt64)), (.u64 (0 : UInt64)), (.s ([] : Str)), (.s ([] : Str)), (.i .i64 (0 : Int)), (.sl .bs ([] : List UInt8)), (.sl .fl ([] : List Fld))] [], [.s 1018], [4, 1018], none⟩,
    ⟨.k .mv, [.s 9], [3], none⟩,
    ⟨.k (.st 1018 0 10), [.s 4, .s 1018, .s 11], [1018], none⟩]) none (.seq (.reg [
    ⟨.k (.fa 1018 0 0), [.s 4], [12], none⟩,
    ⟨.k (.ld 1018 0 1 false), [.s 12, .s 1018], [13], none⟩,
    ⟨.k .mv, [.s 3], [14], none⟩,
    ⟨.k (.call 17 (.plain 1 1)), [.s 14], [15], none⟩,
    ⟨.k (.bin .neq), [.s 13, .s 15], [16], none⟩]) none (.cond (.s 16) [] (.seq (.reg [
    ⟨.k .mv, [.c (.b false)], [2], none⟩]) none .ret) .skip)))) none (.reg [
    ⟨.k (.bin .add), [.s 7, .c (.i .i64 (1 : Int))], [17], none⟩,
    ⟨.k .mv, [.s 17], [7], none⟩])))
def tree_Regular.m : TM := .seq (.reg [
    ⟨.k .mv, [.c (.b false)], [2], none⟩]) none (.seq (.seq (.reg [
    ⟨.k .mv, [.s 0], [5], none⟩,
    ⟨.k .len, [.s 5], [6], none⟩,
    ⟨.k .mv, [.c (.i .i64 (0 : Int))], [7], none⟩]) none (.block 0 [] (.loop [5, 6, 7] [] tree_Regular.m1))) none (.seq (.reg [
    ⟨.k .mv, [.c (.b true)], [2], none⟩]) none .ret))
def tree_Regular.d : TFD := { np := 1, m := tree_Regular.m, ref := none, tips := [], res := [.t 2], own := [], new := none, tnew := [] }
noncomputable def tree_Regular.F (l : List Fld) : Option (List TV) := tree_Regular.d.run tree_Regular.E [(.sl .fl l)]
noncomputable def tree_Regular.k1 : Cont (List TV) := seqK (ev _ tree_Regular.E (.seq (.reg [
    ⟨.k .mv, [.c (.b true)], [2], none⟩]) none .ret)) none (endK tree_Regular.d)
noncomputable def tree_Regular.l1 (x0 : List Fld) (x1 : Int) (x2 : Int) : Option (List TV) := loopL (evO _ tree_Regular.E tree_Regular.m1) isN [5, 6, 7] (headT [5, 6, 7] [(.sl .fl x0), (.i .i64 x1), (.i .i64 x2)]) (blockK 0 tree_Regular.k1)
theorem tree_Regular.l1_in (x0 : List Fld) (x1 : Int) (x2 : Int) {ρ : Option (List TV)} (K : ∀ (v1 : Fld) (h1 : v1 = (List.getD x0 (x2).toNat (STy.dflt .fl))) (v2 : Int) (h2 : v2 = (IntKind.i64.wrap (x2 + (1 : Int)))), cond (decide (x2 < x1))
    (ck (idxOK x2 (x0).length) (ck (decide (-9223372036854775808 ≤ x2 ∧ x2 ≤ 9223372036854775807)) (cond (!decide ((Fld.name v1) = (Lib.itoa x2)))
    (some [(.b false)])
    (tree_Regular.l1 x0 x1 v2))))
    (some [(.b true)]) = ρ) : tree_Regular.l1 x0 x1 x2 = ρ := ((ev_loop _ _ _ _ _ _).trans (by kernel_rfl)).trans (K _ rfl _ rfl)
theorem tree_Regular.F_eq (l : List Fld) : tree_Regular.F l = tree_Regular.l1 l ((l).length : Int) (0 : Int) := by kernel_rfl
theorem tree_Regular.chk : ((Go.Proofs.Tryd.prog.funcs[8]?).any fun fn => chkF Go.Proofs.Tryd.prog (fun k => ((envL trydGl tree_Regular.env).fs k).2) fn tree_Regular.d.erase) = true := by kernel_rfl
def ref17_Regular.env : List (Nat × (Ctr × FSig)) := [(6, (ref5_Digits.c, ref5_Digits.sg))]
def ref17_Regular.E : TEnv := envL trydGl ref17_Regular.env
def ref17_Regular.m1 : TM := .seq (.seq (.reg [
    ⟨.k .mv, [.s 3], [4], none⟩,
    ⟨.k .mv, [.s 0], [5], none⟩,
    ⟨.k .len, [.s 5], [6], none⟩,
    ⟨.k (.bin .lss), [.s 4, .s 6], [7], none⟩]) none (.cond (.s 7) [] .skip (.exit 0))) none (.seq (.block 1 [] (.seq (.reg [
    ⟨.k .mv, [.s 0], [10], none⟩,
    ⟨.k .mv, [.s 3], [11], none⟩,
    ⟨.k (.ix 10), [.s 10, .s 11], [12], none⟩,
    ⟨.k (.fr 0 1 false), [.s 12], [13], none⟩,
    ⟨.k (.lr 1 false), [.s 13], [14], none⟩,
    ⟨.k .mv, [.s 3], [15], none⟩,
    ⟨.k (.ci .u64), [.s 15], [16], none⟩,
    ⟨.k (.call 6 (.plain 1 1)), [.s 16], [17], none⟩,
    ⟨.k (.bin .neq), [.s 14, .s 17], [18], none⟩]) none (.cond (.s 18) [] (.seq (.reg [
    ⟨.k .mv, [.c (.b false)], [2], none⟩]) none .ret) .skip))) none (.reg [
    ⟨.k .mv, [.s 3], [8], none⟩,
    ⟨.k (.bin .add), [.s 8, .c (.i .i64 (1 : Int))], [9], none⟩,
    ⟨.k .mv, [.s 9], [3], none⟩]))
def ref17_Regular.m : TM := .seq (.reg [
    ⟨.k .mv, [.c (.b false)], [2], none⟩]) none (.seq (.seq (.reg [
    ⟨.k .mv, [.c (.i .i64 (0 : Int))], [3], none⟩]) none (.block 0 [] (.loop [0, 3] [] ref17_Regular.m1))) none (.seq (.reg [
    ⟨.k .mv, [.c (.b true)], [2], none⟩]) none .ret))
def ref17_Regular.d : TFD := { np := 1, m := ref17_Regular.m, ref := none, tips := [], res := [.t 2], own := [], new := none, tnew := [] }
noncomputable def ref17_Regular.F (l : List Fld) : Option (List TV) := ref17_Regular.d.run ref17_Regular.E [(.sl .fl l)]
noncomputable def ref17_Regular.k1 : Cont (List TV) := seqK (ev _ ref17_Regular.E (.seq (.reg [
    ⟨.k .mv, [.c (.b true)], [2], none⟩]) none .ret)) none (endK ref17_Regular.d)
noncomputable def ref17_Regular.l1 (x0 : List Fld) (x1 : Int) : Option (List TV) := loopL (evO _ ref17_Regular.E ref17_Regular.m1) isN [0, 3] (headT [0, 3] [(.sl .fl x0), (.i .i64 x1)]) (blockK 0 ref17_Regular.k1)
theorem ref17_Regular.l1_in (x0 : List Fld) (x1 : Int) {ρ : Option (List TV)} (K : ∀ (v1 : Fld) (h1 : v1 = (List.getD x0 (x1).toNat (STy.dflt .fl))) (v2 : Str) (h2 : v2 = (digs (((UInt64.ofInt x1))).toNat)) (v3 : Int) (h3 : v3 = (IntKind.i64.wrap (x1 + (1 : Int)))), cond (decide (x1 < ((x0).length : Int)))
    (ck (idxOK x1 (x0).length) (cond (!decide ((Fld.name v1) = v2))
    (some [(.b false)])
    (ref17_Regular.l1 x0 v3)))
    (some [(.b true)]) = ρ) : ref17_Regular.l1 x0 x1 = ρ := ((ev_loop _ _ _ _ _ _).trans (by kernel_rfl)).trans (K _ rfl _ rfl _ rfl)
theorem ref17_Regular.F_eq (l : List Fld) : ref17_Regular.F l = ref17_Regular.l1 l (0 : Int) := by kernel_rfl
theorem ref17_Regular.chk : ((Go.Proofs.Tryd.prog.funcs[14]?).any fun fn => chkF Go.Proofs.Tryd.prog (fun k => ((envL trydGl ref17_Regular.env).fs k).2) fn ref17_Regular.d.erase) = true := by kernel_rfl
end
end Go.Eng
namespace Go.Eng
open Go.IntWalk
theorem utf_is.goal (r : Int) : utf_is.F r = some [.b (Utf.isRune r)] := by
  refine utf_is.F_in r ?_
  intro v1 h1 v2 h2 v3 h3
  subst h1 h2 h3
  by_cases a : 0 ≤ r <;> by_cases b : r ≤ 1114111 <;> by_cases c : r < 55296 <;> simp [ck, a, b, c, Utf.isRune]
theorem and192 : ∀ n, n < 256 → ((n &&& 192 = 128) ↔ (128 ≤ n ∧ n < 192)) := by decide +kernel
theorem and63 : ∀ n, n < 256 → (128 ≤ n ∧ n < 192) → n &&& 63 = n - 128 := by decide +kernel
theorem and31 : ∀ n, n < 256 → (192 ≤ n ∧ n < 224) → n &&& 31 = n - 192 := by decide +kernel
theorem and15 : ∀ n, n < 256 → (224 ≤ n ∧ n < 240) → n &&& 15 = n - 224 := by decide +kernel
theorem and7 : ∀ n, n < 256 → (240 ≤ n ∧ n < 248) → n &&& 7 = n - 240 := by decide +kernel
theorem u8lt (c : UInt8) : c.toNat < 256 := by have := c.toNat_lt; simpa using this
theorem cont_byte (c : UInt8) : decide ((c &&& (192 : UInt8)) = (128 : UInt8)) = decide (128 ≤ c.toNat ∧ c.toNat < 192) := by
  have h := and192 c.toNat (u8lt c)
  rw [Bool.eq_iff_iff]
  simp only [decide_eq_true_eq]
  rw [← h, ← UInt8.toNat_inj, UInt8.toNat_and]
  exact Iff.rfl
theorem low6 (c : UInt8) (h : 128 ≤ c.toNat ∧ c.toNat < 192) : ((c &&& (63 : UInt8)).toNat : Int) = ((c.toNat - 128 : Nat) : Int) := by
  rw [UInt8.toNat_and]
  exact congrArg _ (and63 c.toNat (u8lt c) h)
def mres (r : Option Nat) (more least : Nat) : Option (List TV) := match r with
  | some r => if r < least ∨ Utf.isRune r = false then some [.i .i64 0, .i .i64 0] else some [.i .i64 r, .i .i64 (more + 1 : Int)]
  | none => some [.i .i64 0, .i .i64 0]
theorem mres_eq (c : Nat) (more least : Nat) (l : Str) : mres (Utf.cont c more l) more least = some [.i .i64 (Utf.multi c more least l).1, .i .i64 (Utf.multi c more least l).2] := by
  unfold mres Utf.multi
  cases Utf.cont c more l with
  | none => rfl
  | some r => simp only; split <;> rfl
theorem utf_Rune.end_ (r : Nat) (more least : Nat) (hm : more < 8) :
    (ck (!(!(decide ((r : Int) < (least : Int)))) || (!(decide ((r : Int) < (least : Int))))) (ck (!(!(decide ((r : Int) < (least : Int)))) || (!(decide ((r : Int) < (least : Int))))) (ck ((decide ((r : Int) < (least : Int))) || (!(decide ((r : Int) < (least : Int))))) (cond (cond (decide ((r : Int) < (least : Int))) true (!(Utf.isRune r)))
    (utf_Rune.l1)
    (some [(.i .i64 (r : Int)), (.i .i64 (IntKind.i64.wrap ((more : Int) + (1 : Int))))]))))) = mres (some r) more least := by
  simp only [Bool.not_or_self, Bool.or_not_self, ck_true]
  rw [i64_in _ (by omega), utf_Rune.l1_eq]
  unfold mres
  by_cases h : r < least
  · simp [h]
  · simp only [show ¬ ((r : Int) < (least : Int)) by omega, decide_false, cond_false, h, false_or]
    cases Utf.isRune r <;> simp
theorem utf_Rune.l3_ok (b : Str) (at_ : Nat) (more least : Nat) (hm : more < 8) (hb : b.length ≤ 1099511627776) (hlt : at_ + more < b.length) : ∀ (k i r : Nat), i + k = more + 1 → r < 2 ^ (10 + 6 * i) →
    utf_Rune.l3 b at_ r more least i = mres (Utf.cont r k (b.drop (at_ + i))) more least := by
  intro k
  induction k with
  | zero =>
    intro i r hi hr
    refine utf_Rune.l3_in _ _ _ _ _ _ ?_
    intro v1 h1 v2 h2 v3 h3 v4 h4 v5 h5 v6 h6 v7 h7
    rw [show decide ((i : Int) ≤ (more : Int)) = false by simp; omega, cond_false]
    subst h6 h7
    rw [Utf.cont]
    exact utf_Rune.end_ r more least hm
  | succ k ih =>
    intro i r hi hr
    refine utf_Rune.l3_in _ _ _ _ _ _ ?_
    intro v1 h1 v2 h2 v3 h3 v4 h4 v5 h5 v6 h6 v7 h7
    have hw : IntKind.i64.wrap ((at_ : Int) + (i : Int)) = ((at_ + i : Nat) : Int) := by rw [i64_in _ (by omega)]; omega
    have hdr := drop_cons (l := b) (i := at_ + i) (by omega) 0
    rw [show decide ((i : Int) ≤ (more : Int)) = true by simp; omega, cond_true, hw]
    rw [hw, Int.toNat_natCast] at h1
    rw [ck_of (idx_ok (by omega) (by omega)), hdr, ← h1, Utf.cont, h2, cont_byte]
    by_cases hc : 128 ≤ v1.toNat ∧ v1.toNat < 192
    · rw [if_pos hc, decide_eq_true hc]
      simp only [Bool.not_true, cond_false]
      rw [ck_of (idx_ok (by omega) (by omega))]
      have hp : 2 ^ (10 + 6 * i) * 64 = 2 ^ (10 + 6 * (i + 1)) := by rw [show 10 + 6 * (i + 1) = (10 + 6 * i) + 6 by omega, Nat.pow_add 2 (10 + 6 * i) 6]
      have hp2 : 2 ^ (10 + 6 * (i + 1)) ≤ 2 ^ 58 := Nat.pow_le_pow_right (by omega) (by omega)
      have hr64 : r * 64 + 64 ≤ 2 ^ (10 + 6 * (i + 1)) := by
        rw [← hp]; have := Nat.mul_le_mul_right 64 (Nat.succ_le_of_lt hr); omega
      have e3 : v3 = ((r * 64 : Nat) : Int) := by
        rw [h3]
        have : (min (((6 : UInt64)).toNat) (IntKind.i64.bits)) = 6 := by decide
        rw [this, i64_in _ (by simp at hp2; omega)]; simp
      have e4 : v4 = ((v1.toNat - 128 : Nat) : Int) := by
        rw [h4, low6 v1 hc]; exact i64_in _ (by omega)
      have e5 : v5 = ((i + 1 : Nat) : Int) := by rw [h5, i64_in _ (by omega)]; omega
      have e6 : intBitsV .or .i64 v3 v4 = ((r * 64 + (v1.toNat - 128) : Nat) : Int) := by
        rw [e3, e4, or_i64 _ _ (by simp at hp2; omega) (by omega)]
        have := or_add (a := r) (b := v1.toNat - 128) (k := 6) (by simp; omega)
        simp at this
        rw [this]
      rw [e6, e5, ih (i + 1) _ (by omega) (by omega), Nat.add_assoc]
    · rw [if_neg hc, decide_eq_false hc]
      simp only [Bool.not_false, cond_true]
      rw [utf_Rune.l1_eq]; rfl
theorem utf_Rune.j2_ok (b : Str) (at_ : Nat) (r more least : Nat) (hm : 1 ≤ more ∧ more < 8) (hb : b.length ≤ 1099511627776) (hlt : at_ < b.length) (hr : r < 1024) :
    utf_Rune.j2 b at_ r more least = mres (Utf.cont r more (b.drop (at_ + 1))) more least := by
  have hcn : ∀ (k r : Nat) (l : Str), l.length < k → Utf.cont r k l = none := by
    intro k
    induction k with
    | zero => intro r l h; omega
    | succ k ih =>
      intro r l h
      cases l with
      | nil => rfl
      | cons c l => rw [Utf.cont]; split
                    · exact ih _ _ (by simp at h; omega)
                    · rfl
  have key := fun (h : at_ + more < b.length) => utf_Rune.l3_ok b at_ more least hm.2 hb h more 1 r (by omega) (by simp; omega)
  by_cases hx : at_ + more < b.length
  · rw [← key hx]
    refine utf_Rune.j2_in _ _ _ _ _ ?_
    intro v1 h1 v2 h2 v3 h3 v4 h4 v5 h5 v6 h6 v7 h7 v8 h8 v9 h9 v10 h10
    symm
    refine utf_Rune.l3_in _ _ _ _ _ _ ?_
    intro w1 k1 w2 k2 w3 k3 w4 k4 w5 k5 w6 k6 w7 k7
    have e1 : v1 = (b.length : Int) - at_ := by rw [h1]; exact i64_in _ (by omega)
    have e2 : v2 = (b.length : Int) - at_ - 1 := by rw [h2, e1]; exact i64_in _ (by omega)
    rw [show decide (v2 < (more : Int)) = false by simp; omega, cond_false]
    have a1 : ((1 : Nat) : Int) = 1 := rfl
    simp only [a1] at k1 k2 k3 k4 k5 k6 k7 ⊢
    subst h3; subst h4; subst h5; subst h6; subst h7; subst h8; subst h9; subst h10; subst k1; subst k2; subst k3; subst k4; subst k5; subst k6; subst k7
    rfl
  · refine utf_Rune.j2_in _ _ _ _ _ ?_
    intro v1 h1 v2 h2 v3 h3 v4 h4 v5 h5 v6 h6 v7 h7 v8 h8 v9 h9 v10 h10
    have e1 : v1 = (b.length : Int) - at_ := by rw [h1]; exact i64_in _ (by omega)
    have e2 : v2 = (b.length : Int) - at_ - 1 := by rw [h2, e1]; exact i64_in _ (by omega)
    rw [show decide (v2 < (more : Int)) = true by simp; omega, cond_true, utf_Rune.l1_eq, hcn _ _ _ (by simp; omega)]
    rfl
theorem rng (lo hi n : Nat) : (cond (decide ((lo : Int) ≤ (n : Int))) (decide ((n : Int) < (hi : Int))) false) = decide (lo ≤ n ∧ n < hi) := by
  by_cases a : lo ≤ n
  · rw [show decide ((lo : Int) ≤ (n : Int)) = true by simp; omega, cond_true, Bool.eq_iff_iff]; simp; omega
  · rw [show decide ((lo : Int) ≤ (n : Int)) = false by simp; omega, cond_false, decide_eq_false (by omega)]
theorem utf_Rune.goal (b : Str) (at_ : Int) (hp : decide (b.length ≤ 1099511627776) = true) : utf_Rune.F b at_ = some [.i .i64 (Utf.runeAt b at_).1, .i .i64 (Utf.runeAt b at_).2] := by
  have hb : b.length ≤ 1099511627776 := of_decide_eq_true hp
  refine utf_Rune.F_in b at_ ?_
  intro v1 h1 v2 h2 v3 h3 v4 h4 v5 h5 v6 h6 v7 h7 v8 h8 v9 h9
  unfold Utf.runeAt
  by_cases h0 : at_ < 0
  · subst h1
    simp [h0, ck, utf_Rune.l1_eq]
  · have hd0 : decide (at_ < 0) = false := decide_eq_false h0
    obtain ⟨i, rfl⟩ := Int.eq_ofNat_of_zero_le (show 0 ≤ at_ by omega)
    rw [hd0] at h1 ⊢
    subst h1
    simp only [Bool.not_false, Bool.not_true, Bool.false_or, Bool.or_true, ck_true, cond_false, Int.toNat_natCast] at h2 ⊢
    by_cases hl : b.length ≤ i
    · rw [show decide ((b.length : Int) ≤ (i : Int)) = true by simp; omega, if_pos (.inr (by omega)), cond_true, utf_Rune.l1_eq]; rfl
    · rw [show decide ((b.length : Int) ≤ (i : Int)) = false by simp; omega, if_neg (by omega), cond_false, ck_of (idx_ok (by omega) (by omega)), drop_cons (l := b) (i := i) (by omega) 0, ← h2, Utf.rune]
      have hc := u8lt v2
      have e3 : v3 = (v2.toNat : Int) := by rw [h3]; exact i64_in _ (by omega)
      have an : ∀ (m : Nat), m < 256 → intBitsV .and .i64 v3 m = ((v2.toNat &&& m : Nat) : Int) := fun m h => by rw [e3, and_i64 _ _ (by omega) (by omega)]
      have an1 : v5 = ((v2.toNat &&& 31 : Nat) : Int) := h5.trans (an 31 (by omega))
      have an2 : v7 = ((v2.toNat &&& 15 : Nat) : Int) := h7.trans (an 15 (by omega))
      have an3 : v9 = ((v2.toNat &&& 7 : Nat) : Int) := h9.trans (an 7 (by omega))
      have e4 : v4 = decide (192 ≤ v2.toNat ∧ v2.toNat < 224) := by rw [h4, e3]; exact rng 192 224 _
      have e6 : v6 = decide (224 ≤ v2.toNat ∧ v2.toNat < 240) := by rw [h6, e3]; exact rng 224 240 _
      have e8 : v8 = decide (240 ≤ v2.toNat ∧ v2.toNat < 248) := by rw [h8, e3]; exact rng 240 248 _
      have J : ∀ (r more least : Nat), 1 ≤ more ∧ more < 8 → r < 1024 → utf_Rune.j2 b i r more least = some [.i .i64 (Utf.multi r more least (b.drop (i + 1))).1, .i .i64 (Utf.multi r more least (b.drop (i + 1))).2] := fun r more least h1 h2 =>
        (utf_Rune.j2_ok b i r more least h1 hb (by omega) h2).trans (mres_eq _ _ _ _)
      simp only [Bool.not_or_self, ck_true]
      by_cases c1 : v2.toNat < 128
      · rw [if_pos c1, e3, show decide ((v2.toNat : Int) < 128) = true by simp; omega, cond_true]; rfl
      · rw [if_neg c1, show decide (v3 < (128 : Int)) = false by rw [e3]; simp; omega, cond_false, e4]
        by_cases c2 : 192 ≤ v2.toNat ∧ v2.toNat < 224
        · rw [if_pos c2, decide_eq_true c2, cond_true, an1, and31 _ hc c2]; exact J _ 1 128 (by omega) (by omega)
        · rw [if_neg c2, decide_eq_false c2, cond_false, e6]
          by_cases c3 : 224 ≤ v2.toNat ∧ v2.toNat < 240
          · rw [if_pos c3, decide_eq_true c3, cond_true, an2, and15 _ hc c3]; exact J _ 2 2048 (by omega) (by omega)
          · rw [if_neg c3, decide_eq_false c3, cond_false, e8]
            by_cases c4 : 240 ≤ v2.toNat ∧ v2.toNat < 248
            · rw [if_pos c4, decide_eq_true c4, cond_true, an3, and7 _ hc c4]; exact J _ 3 65536 (by omega) (by omega)
            · rw [if_neg c4, decide_eq_false c4, cond_false, utf_Rune.l1_eq]; rfl
theorem Utf.rune_size (l : Str) : 0 ≤ (Utf.rune l).2 ∧ (Utf.rune l).2 ≤ l.length := by
  have hcl : ∀ (k r q : Nat) (l : Str), Utf.cont r k l = some q → k ≤ l.length := by
    intro k
    induction k with
    | zero => intro r q l _; omega
    | succ k ih =>
      intro r q l h
      cases l with
      | nil => cases h
      | cons c l =>
        rw [Utf.cont] at h
        split at h
        · have := ih _ _ _ h; simp; omega
        · cases h
  have hmu : ∀ (r more least : Nat) (l : Str), 0 ≤ (Utf.multi r more least l).2 ∧ (Utf.multi r more least l).2 ≤ l.length + 1 := by
    intro r more least l
    unfold Utf.multi
    cases h : Utf.cont r more l with
    | none => simp; omega
    | some q =>
      have := hcl _ _ _ _ h
      simp only
      split <;> simp <;> omega
  cases l with
  | nil => exact ⟨by decide, by decide⟩
  | cons c l =>
    unfold Utf.rune
    simp only [List.length_cons]
    split
    · simp; omega
    · split
      · have := hmu (c.toNat - 192) 1 128 l; omega
      · split
        · have := hmu (c.toNat - 224) 2 2048 l; omega
        · split
          · have := hmu (c.toNat - 240) 3 65536 l; omega
          · simp; omega
theorem Utf.lookN_ge (l : Str) : ∀ n, l.length ≤ n → Utf.lookN n l = Utf.lookN l.length l := by
  have key : ∀ (m : Nat) (l : Str), l.length ≤ m → ∀ n, l.length ≤ n → Utf.lookN n l = Utf.lookN l.length l := by
    intro m
    induction m with
    | zero =>
      intro l hl n hn
      have : l = [] := List.length_eq_zero_iff.1 (by omega)
      subst this
      cases n with
      | zero => rfl
      | succ n => rfl
    | succ m ih =>
      intro l hl n hn
      cases h : l.length with
      | zero =>
        have : l = [] := List.length_eq_zero_iff.1 h
        subst this
        cases n <;> rfl
      | succ k =>
        cases n with
        | zero => omega
        | succ n =>
          unfold Utf.lookN
          have hs := Utf.rune_size l
          by_cases h0 : (Utf.rune l).2 = 0
          · rw [if_pos h0, if_pos h0]
          · rw [if_neg h0, if_neg h0]
            have hd : (l.drop (Utf.rune l).2.toNat).length ≤ k := by simp; omega
            rw [ih _ (by simp; omega) n (by simp; omega), ih _ (by simp; omega) k hd]
  exact fun n hn => key _ l (Nat.le_refl _) n hn
theorem Utf.look_step (l : Str) (h : (Utf.rune l).2 ≠ 0) : Utf.look l = ((Utf.look (l.drop (Utf.rune l).2.toNat)).1 + (Utf.rune l).2.toNat, (Utf.look (l.drop (Utf.rune l).2.toNat)).2 + 1) := by
  have hs := Utf.rune_size l
  unfold Utf.look
  cases hl : l.length with
  | zero => omega
  | succ k =>
    rw [Utf.lookN, if_neg h]
    simp only
    rw [Utf.lookN_ge _ k (by simp; omega)]
theorem Utf.look_none (l : Str) (h : (Utf.rune l).2 = 0) : Utf.look l = (0, 0) := by
  unfold Utf.look
  cases l.length with
  | zero => rfl
  | succ k => rw [Utf.lookN, if_pos h]
theorem Utf.runeAt_nat (b : Str) (i : Nat) (h : i < b.length) : Utf.runeAt b i = Utf.rune (b.drop i) := by
  unfold Utf.runeAt; rw [if_neg (by omega), Int.toNat_natCast]
theorem utf_look.l1_ok (b : Str) (hb : b.length ≤ 1099511627776) : ∀ (m i k : Nat), b.length - i ≤ m → i ≤ b.length → k ≤ i →
    utf_look.l1 b i k = some [.i .i64 ((i + (Utf.look (b.drop i)).1 : Nat) : Int), .i .i64 ((k + (Utf.look (b.drop i)).2 : Nat) : Int)] := by
  intro m
  induction m with
  | zero =>
    intro i k hm hi hk
    refine utf_look.l1_in _ _ _ ?_
    intro v1 h1 v2 h2
    rw [show decide ((i : Int) < (b.length : Int)) = false by simp; omega, cond_false, utf_look.j2_eq, List.drop_of_length_le (by omega)]
    rfl
  | succ m ih =>
    intro i k hm hi hk
    by_cases hlt : i < b.length
    · refine utf_look.l1_in _ _ _ ?_
      intro v1 h1 v2 h2
      rw [Utf.runeAt_nat b i hlt] at h1 ⊢
      have hs := Utf.rune_size (b.drop i)
      rw [List.length_drop] at hs
      rw [show decide ((i : Int) < (b.length : Int)) = true by simp; omega, cond_true, ck_of (decide_eq_true hb)]
      by_cases h0 : (Utf.rune (b.drop i)).2 = 0
      · rw [decide_eq_true h0, cond_true, utf_look.j2_eq, Utf.look_none _ h0]; rfl
      · rw [decide_eq_false h0, cond_false, Utf.look_step _ h0]
        have e1 : v1 = ((i + (Utf.rune (b.drop i)).2.toNat : Nat) : Int) := by rw [h1, i64_in _ (by omega)]; omega
        have e2 : v2 = ((k + 1 : Nat) : Int) := by rw [h2, i64_in _ (by omega)]; omega
        rw [e1, e2, ih _ _ (by omega) (by omega) (by omega), List.drop_drop]
        simp only [Option.some.injEq, List.cons.injEq, TV.i.injEq, true_and, and_true]
        exact ⟨by omega, by omega⟩
    · refine utf_look.l1_in _ _ _ ?_
      intro v1 h1 v2 h2
      rw [show decide ((i : Int) < (b.length : Int)) = false by simp; omega, cond_false, utf_look.j2_eq, List.drop_of_length_le (by omega)]
      rfl
theorem utf_look.goal (b : Str) (hp : decide (b.length ≤ 1099511627776) = true) : utf_look.F b = some [.i .i64 ((Utf.look b).1 : Int), .i .i64 ((Utf.look b).2 : Int)] := by
  rw [utf_look.F_eq]
  have := utf_look.l1_ok b (of_decide_eq_true hp) b.length 0 0 (by omega) (by omega) (by omega)
  simpa using this
theorem utf_Check.goal (b : Str) (hp : decide (b.length ≤ 1099511627776) = true) : utf_Check.F b = some [.i .i64 ((Utf.look b).1 : Int), .b (Utf.whole b)] := by
  have e : decide (((Utf.look b).1 : Int) = (b.length : Int)) = Utf.whole b := by unfold Utf.whole; rw [Bool.eq_iff_iff]; simp; omega
  rw [utf_Check.F_eq, ck_of hp, e]
theorem ref2_Rune.end_ (r : Nat) (more least : Nat) {v7 v9 : Bool} (h7 : v7 = (cond (decide ((r : Int) < (least : Int))) true (decide ((1114111 : Int) < (r : Int))))) (h9 : v9 = (cond (decide ((55296 : Int) ≤ (r : Int))) (decide ((r : Int) ≤ (57343 : Int))) false)) :
    cond (cond v7 true v9)
    (some [(.i .i64 (0 : Int)), (.i .i64 (0 : Int))])
    (some [(.i .i64 (r : Int)), (.i .i64 ((more + 1 : Nat) : Int))]) = mres (some r) more least := by
  have e : cond v7 true v9 = decide (r < least ∨ Utf.isRune r = false) := by
    subst h7 h9
    unfold Utf.isRune
    rw [Bool.eq_iff_iff]
    by_cases a : r < least
    · simp [a]
    · by_cases b : 1114111 < r
      · simp [a, show (1114111 : Int) < (r : Int) by omega] <;> omega
      · by_cases c : 55296 ≤ r
        · simp [a, show ¬ (1114111 : Int) < (r : Int) by omega, show (55296 : Int) ≤ (r : Int) by omega] <;> omega
        · simp [a, show ¬ (1114111 : Int) < (r : Int) by omega, show ¬ (55296 : Int) ≤ (r : Int) by omega] <;> omega
  rw [e]
  unfold mres
  by_cases h : r < least ∨ Utf.isRune r = false
  · rw [decide_eq_true h]; simp only [h, if_true, cond_true]
  · rw [decide_eq_false h]; simp only [h, if_false, cond_false]; rfl
end Go.Eng
namespace Go.Eng
open Go.IntWalk
theorem sl_IndexByte.goal (s : Str) (c : UInt8) : sl_IndexByte.F s c = some [.i .i64 (Lib.indexByte s c)] := sl_IndexByte.F_eq s c
theorem sl_Index.goal (s t : Str) (hp : decide (t.length = 1) = true) : sl_Index.F s t = some [.i .i64 (Lib.indexByte s (t.getD 0 0))] := by
  have hl : t.length = 1 := of_decide_eq_true hp
  refine sl_Index.F_in s t ?_
  intro v1 h1 v2 h2
  have e0 : decide ((t.length : Int) = 0) = false := decide_eq_false (by omega)
  have e1 : decide ((t.length : Int) = 1) = true := decide_eq_true (by omega)
  rw [e0] at h1 ⊢
  simp only [Bool.not_false, Bool.not_true, Bool.false_or, Bool.and_self, ck_true, cond_false] at h1 ⊢
  by_cases hs : t = s
  · subst hs
    rw [h1, decide_eq_true rfl, cond_true]
    obtain ⟨c, rfl⟩ : ∃ c, t = [c] := by
      match t, hl with
      | [c], _ => exact ⟨c, rfl⟩
    simp [Lib.indexByte]
  · rw [h1, decide_eq_false hs, cond_false, e1, cond_true, ck_of (idx_ok (by omega) (by omega)), h2]; rfl
theorem st_Index.goal (s t : Str) (hp : decide (t.length = 1) = true) : st_Index.F s t = some [.i .i64 (Lib.indexByte s (t.getD 0 0))] := by
  refine st_Index.F_in s t ?_
  intro v1 h1
  rw [ck_of hp, h1]
theorem st_Contains.goal (s t : Str) (hp : decide (t.length = 1) = true) : st_Contains.F s t = some [.b (decide (0 ≤ Lib.indexByte s (t.getD 0 0)))] := by
  refine st_Contains.F_in s t ?_
  intro v1 h1
  rw [ck_of hp, h1]
theorem tree_Name.goal (k : Int) : tree_Name.F k = some [.s (Tree.name k)] := by
  refine tree_Name.F_in k ?_
  intro v1 h1 v2 h2
  unfold Tree.name
  by_cases a : k = 127
  · rw [if_pos a, decide_eq_true a]; rfl
  · rw [if_neg a, decide_eq_false a, cond_false]
    by_cases b : k = 255
    · rw [if_pos b, decide_eq_true b]; rfl
    · rw [if_neg b, decide_eq_false b, cond_false]
      simp only [Bool.not_or_self, Bool.or_not_self, ck_true]
      by_cases c : k < 0 ∨ 20 ≤ k
      · rw [if_pos c, show v1 = true by rw [h1]; by_cases d : k < 0 <;> simp [d]; omega]; rfl
      · rw [if_neg c, show v1 = false by rw [h1]; by_cases d : k < 0 <;> simp [d] <;> omega, cond_false, ck_of (idx_ok (by omega) (by omega)), ck_of (by simp; omega), h2]; rfl
end Go.Eng
namespace Go.Eng
open Go.IntWalk
theorem indexByte_contains (c : UInt8) : ∀ s : Str, decide (0 ≤ Lib.indexByte s c) = s.contains c
  | [] => by simp [Lib.indexByte]
  | b :: l => by
    have ih := indexByte_contains c l
    have hge := Lib.indexByte_ge l c
    rw [List.contains_cons, ← ih]
    rw [Lib.indexByte]
    by_cases h : b = c
    · subst h; simp
    · rw [if_neg (by simpa using h), show (c == b) = false by rw [beq_eq_false_iff_ne]; exact fun e => h e.symm, Bool.false_or]
      by_cases h1 : Lib.indexByte l c = -1
      · rw [h1]; rfl
      · rw [if_neg (by simpa using h1), decide_eq_true (by omega), decide_eq_true (by omega)]
theorem tree_whole.goal (s : Str) (plain : Bool) (hp : decide (s.length ≤ 1099511627776) = true) : tree_whole.F s plain = some [.b (Tree.wholeT s plain)] := by
  have e : decide (0 ≤ Lib.indexByte s (([0] : Str).getD 0 0)) = Utf.zero s := indexByte_contains 0 s
  refine tree_whole.F_in s plain ?_
  intro v1 h1 v2 h2
  rw [ck_of (big_len (of_decide_eq_true hp)), ck_of hp]
  rw [e] at h1
  subst h1 h2
  unfold Tree.wholeT
  cases Utf.whole s <;> cases plain <;> cases Utf.zero s <;> rfl
theorem tree_fields.goal (v : Val) : tree_fields.F v = some [.b (Tree.fieldsOK v)] := by
  have J2 : ∀ (x : Bool) (v : Val), tree_fields.j2 x v = some [.b (x && decide (v.bits = 0) && decide (v.high = 0) && decide (v.low = 0) && decide (v.text = []) && decide (v.more = []) && decide (v.sub = 0) && decide (v.bytes = []) && decide (v.kids = []))] := by
    intro x v
    refine tree_fields.j2_in x v ?_
    intro v1 h1 v2 h2 v3 h3 v4 h4 v5 h5 v6 h6 v7 h7 v8 h8 v9 h9 v10 h10
    simp only [Bool.not_or_self, ck_true]
    have e1 : decide (v7 = 0) = decide (v.bytes = []) := by rw [h7, Bool.eq_iff_iff]; simp
    have e2 : decide (v9 = 0) = decide (v.kids = []) := by rw [h9, Bool.eq_iff_iff]; simp
    rw [e1] at h8
    rw [e2] at h10
    subst h1 h2 h3 h4 h5 h6 h8 h10
    simp only [Bool.cond_false_right]
  have J3 : ∀ (x0 : Bool) (x1 : Int) (x2 : Bool) (x3 : Val), tree_fields.j3 x0 x1 x2 x3 = cond x2
    (tree_fields.j2 x0 (Val.mk (Val.kind x3) (Val.bits x3) (Val.high x3) (Val.low x3) ([] : Str) (Val.more x3) (Val.sub x3) (Val.bytes x3) (Val.kids x3)))
    (cond (decide (x1 = (11 : Int)))
    (tree_fields.j2 x0 (Val.mk (Val.kind x3) (Val.bits x3) (Val.high x3) (Val.low x3) ([] : Str) ([] : Str) (Val.sub x3) (Val.bytes x3) (Val.kids x3)))
    (cond (decide (x1 = (5 : Int)))
    (tree_fields.j2 (decide (0 ≤ x3.sub) && decide (x3.sub ≤ 255)) (Val.mk (Val.kind x3) (Val.bits x3) (Val.high x3) (Val.low x3) (Val.text x3) (Val.more x3) (0 : Int) ([] : List UInt8) (Val.kids x3)))
    (cond (decide (x1 = (7 : Int)))
    (tree_fields.j2 (decide (x3.bytes.length = 12)) (Val.mk (Val.kind x3) (Val.bits x3) (Val.high x3) (Val.low x3) (Val.text x3) (Val.more x3) (Val.sub x3) ([] : List UInt8) (Val.kids x3)))
    (cond (decide (x1 = (12 : Int)))
    (tree_fields.j2 (decide (x3.bytes.length = 12)) (Val.mk (Val.kind x3) (Val.bits x3) (Val.high x3) (Val.low x3) ([] : Str) (Val.more x3) (Val.sub x3) ([] : List UInt8) (Val.kids x3)))
    (cond (decide (x1 = (3 : Int)))
    (tree_fields.j4 x0 x1 (decide (x1 = (3 : Int))) x3)
    (tree_fields.j4 x0 x1 (decide (x1 = (4 : Int))) x3)))))) := by
    intro x0 x1 x2 x3
    refine tree_fields.j3_in x0 x1 x2 x3 ?_
    intro v1 h1 v2 h2
    have e : decide (v2 = 12) = decide (x3.bytes.length = 12) := by rw [h2, Bool.eq_iff_iff]; simp; omega
    simp only [Bool.not_or_self, ck_true, e, h1, Bool.cond_false_right]
  obtain ⟨k, b, hi, lo, t, m, s, y, ks⟩ := v
  simp only [tree_fields.F_eq, tree_fields.j1_eq, J3, tree_fields.j4_eq, J2, Tree.fieldsOK, Tree.hasN]
  by_cases a1 : k = 1
  · subst a1; simp; grind
  by_cases a2 : k = 2
  · subst a2; simp; grind
  by_cases a3 : k = 3
  · subst a3; simp; grind
  by_cases a4 : k = 4
  · subst a4; simp; grind
  by_cases a5 : k = 5
  · subst a5; simp; grind
  by_cases a7 : k = 7
  · subst a7; simp; grind
  by_cases a8 : k = 8
  · subst a8; simp; grind
  by_cases a9 : k = 9
  · subst a9; simp; grind
  by_cases a11 : k = 11
  · subst a11; simp; grind
  by_cases a12 : k = 12
  · subst a12; simp; grind
  by_cases a13 : k = 13
  · subst a13; simp; grind
  by_cases a14 : k = 14
  · subst a14; simp; grind
  by_cases a15 : k = 15
  · subst a15; simp; grind
  by_cases a16 : k = 16
  · subst a16; simp; grind
  by_cases a17 : k = 17
  · subst a17; simp; grind
  by_cases a18 : k = 18
  · subst a18; simp; grind
  by_cases a19 : k = 19
  · subst a19; simp; grind
  simp [a1, a2, a3, a4, a5, a7, a8, a9, a11, a12, a13, a14, a15, a16, a17, a18, a19]; grind
end Go.Eng
namespace Go.Eng
open Go.IntWalk
theorem TreeAx.lens (v : Val) (n : Str) (m : Nat) (h : Fld.bulk (Fld.of n v) ≤ m) : v.text.length ≤ m ∧ v.more.length ≤ m ∧ n.length ≤ m ∧ v.bytes.length ≤ m ∧ Fld.bulks v.kids + 1 ≤ m := by
  simp only [Fld.of, Fld.bulk] at h; omega
theorem Fld.bulk_pos (f : Fld) : 1 ≤ f.bulk := by cases f; simp only [Fld.bulk]; omega
theorem Fld.bulks_get : ∀ (l : List Fld) (i : Nat) (d : Fld), i < l.length → (l.getD i d).bulk ≤ Fld.bulks l
  | f :: l, 0, d, _ => by simp [Fld.bulks]
  | f :: l, i + 1, d, h => by
    have := Fld.bulks_get l i d (by simpa using h)
    simp only [List.getD_cons_succ, Fld.bulks]; omega
theorem Fld.bulks_len : ∀ (l : List Fld), l.length ≤ Fld.bulks l
  | [] => by simp
  | f :: l => by have := Fld.bulks_len l; have := Fld.bulk_pos f; simp only [List.length_cons, Fld.bulks]; omega
theorem Fld.of_eta (f : Fld) : Fld.of f.name f.val = f := by cases f; rfl
theorem Fld.bulk_val (f : Fld) : Fld.bulk (Fld.of [] f.val) ≤ f.bulk := by cases f; simp only [Fld.of, Fld.val, Fld.bulk, Fld.kind, Fld.bits, Fld.high, Fld.low, Fld.text, Fld.more, Fld.sub, Fld.bytes, Fld.kids]; simp
theorem tree_own (v : Val) (n : Str) : Tree.ownN v n = (if Tree.name v.kind = [] then 5 else if Tree.fieldsOK v = false then 1 else if Tree.wholeT v.text (decide (v.kind = 11)) = false ∨ Tree.wholeT v.more (decide (v.kind = 11)) = false ∨ Tree.wholeT n true = false then 4 else 0) := by
  unfold Tree.ownN Tree.own
  grind
theorem Tree.chkF_of (n : Str) (v : Val) (p : List Int) : Tree.chkF (Fld.of n v) p = if Tree.ownN v n ≠ 0 then (p, Tree.ownN v n) else Tree.chkL v.kids 0 p := by
  cases v; simp only [Fld.of, Tree.chkF]
theorem tree_check.l1_ok (n : Nat) (ks : List Fld) (p : List Int) (hb : Fld.bulks ks + p.length < 1099511627776) (hn : Fld.bulks ks < n) : ∀ (m i : Nat), i + m = ks.length →
    tree_check.l1 n ks (ks.length : Int) i p = some [.sl .is (Tree.chkL (ks.drop i) i p).1, .i .i64 (Tree.chkL (ks.drop i) i p).2, .sl .is p] := by
  have hlen := Fld.bulks_len ks
  intro m
  induction m with
  | zero =>
    intro i hi
    refine tree_check.l1_in _ _ _ _ _ ?_
    intro v1 h1 v2 h2 v3 h3 v4 h4
    rw [decide_eq_false (by omega), cond_false, List.drop_of_length_le (by omega)]; rfl
  | succ m ih =>
    intro i hi
    refine tree_check.l1_in _ _ _ _ _ ?_
    intro v1 h1 v2 h2 v3 h3 v4 h4
    rw [Int.toNat_natCast] at h1
    have hg := Fld.bulks_get ks i (STy.dflt .fl) (by omega)
    rw [← h1] at hg
    rw [Fld.of_eta] at h2 h3 ⊢
    rw [decide_eq_true (by omega), cond_true, ck_of (idx_ok (by omega) (by omega)), ck_of (big_ap (by simp; omega) (by simp; omega)), decide_eq_true (by simp; omega), decide_eq_true (by omega), Bool.and_self, ck_true, drop_cons (l := ks) (i := i) (by omega) (STy.dflt .fl), ← h1, Tree.chkL]
    by_cases h : v3 = 0
    · rw [decide_eq_true h, if_neg (by rw [h3] at h; simpa using h)]
      simp only [Bool.not_true, cond_false]
      rw [show v4 = ((i + 1 : Nat) : Int) by rw [h4, i64_in _ (by omega)]; omega, ih _ (by omega)]
    · rw [decide_eq_false h, if_pos (by rw [h3] at h; simpa using h)]
      simp only [Bool.not_false, cond_true]
      rw [h2, h3]
theorem tree_check.goal (n : Nat) (v : Val) (name : Str) (path : List Int) (hp : ((decide (Fld.bulk (Fld.of name v) + path.length ≤ 1099511627776)) && decide ((Fld.bulk (Fld.of name v)) < n + 1)) = true) :
    tree_check.F n v name path = some [.sl .is (Tree.chkF (Fld.of name v) path).1, .i .i64 (Tree.chkF (Fld.of name v) path).2, .sl .is path] := by
  simp only [Bool.and_eq_true, decide_eq_true_eq] at hp
  obtain ⟨hp, hn⟩ := hp
  obtain ⟨b1, b2, b3, _, _⟩ := TreeAx.lens v name 1099511627776 (by omega)
  have hks : Fld.bulks v.kids < Fld.bulk (Fld.of name v) := by simp only [Fld.of, Fld.bulk]; omega
  refine tree_check.F_in n v name path ?_
  intro v1 h1 v2 h2 v3 h3 v4 h4
  rw [Tree.chkF_of, tree_own]
  simp only [Bool.not_or_self, Bool.or_not_self, Bool.and_self, ck_true, decide_eq_true b1, decide_eq_true b2, decide_eq_true b3, Bool.and_true]
  have hap : apOK path.length 8 = true := big_ap (by omega) (by omega)
  simp only [hap, ck_true]
  by_cases a : Tree.name v.kind = []
  · rw [decide_eq_true a]; simp [a]
  · rw [decide_eq_false a, cond_false]
    by_cases b : Tree.fieldsOK v = false
    · rw [b]; simp [a]
    · have b' : Tree.fieldsOK v = true := by simpa using b
      rw [b']
      have e3 : v3 = decide (Tree.wholeT v.text (decide (v.kind = 11)) = false ∨ Tree.wholeT v.more (decide (v.kind = 11)) = false ∨ Tree.wholeT name true = false) := by
        subst h1 h2 h3
        cases Tree.wholeT v.text (decide (v.kind = 11)) <;> cases Tree.wholeT v.more (decide (v.kind = 11)) <;> cases Tree.wholeT name true <;> rfl
      rw [e3, h4]
      by_cases c : Tree.wholeT v.text (decide (v.kind = 11)) = false ∨ Tree.wholeT v.more (decide (v.kind = 11)) = false ∨ Tree.wholeT name true = false
      · rw [decide_eq_true c]; simp [a, c]
      · rw [decide_eq_false c]
        simp only [Bool.not_true, cond_false, if_neg a, if_neg c]
        have := tree_check.l1_ok n v.kids path (by omega) (by omega) v.kids.length 0 (by omega)
        rw [List.drop_zero] at this
        simpa using this
theorem tree_Check.goal (v : Val) (hp : decide (Fld.bulk (Fld.of [] v) ≤ 1099511627776) = true) : tree_Check.F v = some [.sl .is (Tree.chkF (Fld.of [] v) []).1, .i .i64 (Tree.chkF (Fld.of [] v) []).2] := by
  refine tree_Check.F_in v ?_
  intro v1 h1 v2 h2
  rw [ck_of (by simpa using hp), h1, h2]
end Go.Eng
namespace Go.Eng
open Go.IntWalk
theorem Tree.depth_val (f : Fld) : Tree.depth (Fld.of [] f.val) = Tree.depth f := by cases f; rfl
theorem Tree.depth_of (n : Str) (v : Val) : Tree.depth (Fld.of n v) = if v.kind = 3 ∨ v.kind = 4 ∨ v.kind = 15 then Tree.depthL v.kids + 1 else 0 := by cases v; rfl
theorem Tree.depthL_le : ∀ l : List Fld, Tree.depthL l ≤ Fld.bulks l ∧ ∀ f ∈ l, Tree.depth f ≤ Fld.bulk f
  | [] => by simp [Tree.depthL]
  | f :: l => by
    obtain ⟨h1, h2⟩ := Tree.depthL_le l
    have hf : Tree.depth f ≤ Fld.bulk f := by
      obtain ⟨n, k, b, h, lo, t, m, s, y, ks⟩ := f
      have := (Tree.depthL_le ks).1
      unfold Tree.depth Fld.bulk
      split <;> omega
    refine ⟨by simp only [Tree.depthL, Fld.bulks]; omega, fun g hg => ?_⟩
    rcases List.mem_cons.1 hg with rfl | hg
    · exact hf
    · exact h2 g hg
theorem Tree.depth_le (f : Fld) : Tree.depth f ≤ Fld.bulk f := (Tree.depthL_le [f]).2 f (List.mem_cons_self ..)
theorem tree_Depth.l1_ok (n : Nat) (ks : List Fld) (hb : Fld.bulks ks < 1099511627776) (hn : Fld.bulks ks < n) : ∀ (m i d : Nat), i + m = ks.length → d ≤ 1099511627776 →
    tree_Depth.l1 n d ks (ks.length : Int) i = some [.i .i64 ((max d (Tree.depthL (ks.drop i)) + 1 : Nat) : Int)] := by
  have hlen := Fld.bulks_len ks
  intro m
  induction m with
  | zero =>
    intro i d hi hd
    refine tree_Depth.l1_in _ _ _ _ _ ?_
    intro v1 h1 v2 h2 v3 h3 v4 h4
    rw [decide_eq_false (by omega), cond_false, List.drop_of_length_le (by omega), h4, i64_in _ (by omega)]
    simp [Tree.depthL]
  | succ m ih =>
    intro i d hi hd
    refine tree_Depth.l1_in _ _ _ _ _ ?_
    intro v1 h1 v2 h2 v3 h3 v4 h4
    rw [Int.toNat_natCast] at h1
    have hg := Fld.bulks_get ks i (STy.dflt .fl) (by omega)
    rw [← h1] at hg
    have hv := Fld.bulk_val v1
    have hdv := Tree.depth_le v1
    rw [decide_eq_true (by omega), cond_true, ck_of (idx_ok (by omega) (by omega)), decide_eq_true (show Fld.bulk (Fld.of [] v1.val) < n by omega), decide_eq_true (show Fld.bulk (Fld.of [] v1.val) ≤ 1099511627776 by omega), Bool.and_self, ck_true,
      show v3 = ((i + 1 : Nat) : Int) by rw [h3, i64_in _ (by omega)]; omega, h2, Tree.depth_val, show maxI (d : Int) (Tree.depth v1 : Int) = ((max d (Tree.depth v1) : Nat) : Int) by unfold maxI; split <;> omega, ih _ _ (by omega) (by omega), drop_cons (l := ks) (i := i) (by omega) (STy.dflt .fl), ← h1, Tree.depthL, Nat.max_assoc]
theorem tree_Depth.goal (n : Nat) (v : Val) (hp : ((decide (Fld.bulk (Fld.of [] v) ≤ 1099511627776)) && decide ((Fld.bulk (Fld.of [] v)) < n + 1)) = true) : tree_Depth.F n v = some [.i .i64 (Tree.depth (Fld.of [] v) : Int)] := by
  simp only [Bool.and_eq_true, decide_eq_true_eq] at hp
  obtain ⟨hbig, hn⟩ := hp
  have hks : Fld.bulks v.kids < Fld.bulk (Fld.of [] v) := by simp only [Fld.of, Fld.bulk]; omega
  refine tree_Depth.F_in n v ?_
  intro v1 h1 v2 h2 v3 h3
  simp only [Bool.not_or_self, ck_true]
  have key := tree_Depth.l1_ok n v.kids (by omega) (by omega) v.kids.length 0 0 (by omega) (by omega)
  rw [List.drop_zero] at key
  rw [Tree.depth_of]
  by_cases h : v.kind = 3 ∨ v.kind = 4 ∨ v.kind = 15
  · rw [if_pos h, show v2 = false by subst h1 h2; rcases h with h | h | h <;> simp [h], cond_false, h3]
    rw [Nat.zero_max] at key
    exact key
  · rw [if_neg h, show v2 = true by subst h1 h2; simp only [not_or] at h; simp [h.1, h.2.1, h.2.2], cond_true]; rfl
theorem ref1_SameInts.l1_ok (a b : List Int) (hl : a.length = b.length) (hb : a.length < 9223372036854775807) : ∀ (m i : Nat), i + m = a.length → ref1_SameInts.l1 a b i = some [.b (decide (a.drop i = b.drop i))] := by
  intro m
  induction m with
  | zero =>
    intro i hi
    refine ref1_SameInts.l1_in _ _ _ ?_
    intro v1 h1 v2 h2 v3 h3
    rw [decide_eq_false (by omega), cond_false, List.drop_of_length_le (by omega), List.drop_of_length_le (by omega)]; rfl
  | succ m ih =>
    intro i hi
    refine ref1_SameInts.l1_in _ _ _ ?_
    intro v1 h1 v2 h2 v3 h3
    rw [Int.toNat_natCast] at h1 h2
    rw [decide_eq_true (by omega), cond_true, ck_of (idx_ok (by omega) (by omega)), ck_of (idx_ok (by omega) (by omega)), drop_cons (l := a) (i := i) (by omega) 0, drop_cons (l := b) (i := i) (by omega) 0, ← h1, ← h2]
    by_cases h : v1 = v2
    · rw [decide_eq_true h]
      simp only [Bool.not_true, cond_false]
      rw [show v3 = ((i + 1 : Nat) : Int) by rw [h3, i64_in _ (by omega)]; omega, ih _ (by omega)]
      simp [h]
    · rw [decide_eq_false h]; simp [h]
theorem ref1_SameInts.goal (a b : List Int) (hp : decide (a.length ≤ 1099511627776) = true) : ref1_SameInts.F a b = some [.b (decide (a = b))] := by
  have hp := of_decide_eq_true hp
  rw [ref1_SameInts.F_eq]
  by_cases hl : a.length = b.length
  · rw [decide_eq_true (by omega)]
    have := ref1_SameInts.l1_ok a b hl (by omega) a.length 0 (by omega)
    simpa using this
  · rw [decide_eq_false (by omega), decide_eq_false (fun e => hl (by rw [e]))]; rfl
end Go.Eng
namespace Go.Eng
open Go.IntWalk
theorem digs_lt {n : Nat} (h : n < 10) : digs n = [UInt8.ofNat (48 + n)] := by rw [digs, dif_pos h]
theorem digs_ge {n : Nat} (h : ¬ n < 10) : digs n = digs (n / 10) ++ [UInt8.ofNat (48 + n % 10)] := by rw [digs, dif_neg h]
theorem u8_ofInt_nat (n : Nat) : UInt8.ofInt (n : Int) = UInt8.ofNat n := by
  apply UInt8.toNat_inj.1
  rw [u8_nat, UInt8.toNat_ofNat']
theorem ref5_Digits.l1_ok : ∀ (v : UInt64) (s : Str), v.toNat + s.length ≤ 18446744073709551616 + 100 → s.length ≤ 100 → (10 ^ (20 - s.length) > v.toNat) → ref5_Digits.l1 v s = some [.s (digs v.toNat ++ s)] := by
  intro v
  generalize hn : v.toNat = n
  induction n using Nat.strongRecOn generalizing v with
  | _ n ih =>
    intro s h1 h2 h3
    refine ref5_Digits.l1_in _ _ ?_
    intro v1 e1 v2 e2 v3 e3
    have hlt : ((9 : UInt64) < v) ↔ 9 < v.toNat := UInt64.lt_iff_toNat_lt
    by_cases a : n < 10
    · have e : v3 = UInt8.ofNat (48 + n) := by
        rw [e3, u8_ofInt_nat]
        apply UInt8.toNat_inj.1
        rw [UInt64.toNat_add, UInt8.toNat_ofNat', UInt8.toNat_ofNat', hn]
        show (48 + n) % 18446744073709551616 % 256 = _
        rw [Nat.mod_eq_of_lt (show 48 + n < 18446744073709551616 by omega)]
      rw [decide_eq_false (fun h => by have := hlt.1 h; omega), cond_false, ck_of (decide_eq_true (by simp only [List.length_singleton]; omega)), digs_lt a, e]
    · have hs : s.length ≤ 20 := by
        apply Classical.byContradiction
        intro h
        rw [show 20 - s.length = 0 by omega] at h3
        simp at h3; omega
      have hd : (v / 10).toNat = n / 10 := by rw [UInt64.toNat_div, hn]; rfl
      have e : v2 = UInt8.ofNat (48 + n % 10) := by
        rw [e2, e1, u8_ofInt_nat]
        apply UInt8.toNat_inj.1
        rw [UInt64.toNat_add, UInt64.toNat_mod, UInt8.toNat_ofNat', UInt8.toNat_ofNat', hn]
        show (48 + n % 10) % 18446744073709551616 % 256 = _
        rw [Nat.mod_eq_of_lt (show 48 + n % 10 < 18446744073709551616 by omega)]
      have h4 : 10 ^ (20 - (UInt8.ofNat (48 + n % 10) :: s).length) > n / 10 := by
        rw [List.length_cons]
        have hk : 20 - s.length ≠ 0 := by
          intro h; rw [h] at h3; simp at h3; omega
        rw [show 20 - s.length = (20 - (s.length + 1)) + 1 by omega, Nat.pow_succ] at h3
        omega
      rw [decide_eq_true (hlt.2 (by omega)), cond_true, ck_of (by decide), ck_of (decide_eq_true (by simp only [List.length_singleton]; omega)), ck_of (by decide), e, List.singleton_append, ih (n / 10) (by omega) (v / 10) hd _ (by rw [List.length_cons]; omega) (by rw [List.length_cons]; omega) h4, digs_ge a, List.append_assoc]; rfl
theorem ref5_Digits.goal (v : UInt64) : ref5_Digits.F v = some [.s (digs v.toNat)] := by
  have := v.toNat_lt
  rw [ref5_Digits.F_eq, ref5_Digits.l1_ok v [] (by simp only [List.length_nil]; omega) (by decide) (by simp only [List.length_nil]; omega), List.append_nil]
theorem tree_Regular.l1_ok (l : List Fld) (hb : l.length ≤ 1099511627776) : ∀ (m i : Nat), i + m = l.length → tree_Regular.l1 l (l.length : Int) i = some [.b (Tree.regularFrom i (l.drop i))] := by
  intro m
  induction m with
  | zero =>
    intro i hi
    refine tree_Regular.l1_in _ _ _ ?_
    intro v1 h1 v2 h2
    rw [decide_eq_false (by omega), cond_false, List.drop_of_length_le (by omega)]; rfl
  | succ m ih =>
    intro i hi
    refine tree_Regular.l1_in _ _ _ ?_
    intro v1 h1 v2 h2
    rw [Int.toNat_natCast] at h1
    rw [decide_eq_true (by omega), cond_true, ck_of (idx_ok (by omega) (by omega)), ck_of (decide_eq_true (by omega)), show v2 = ((i + 1 : Nat) : Int) by rw [h2, i64_in _ (by omega)]; omega, ih _ (by omega), drop_cons (l := l) (i := i) (by omega) (STy.dflt .fl), ← h1, Tree.regularFrom, itoa_nat]
    by_cases a : v1.name = digs i
    · rw [decide_eq_true a]; rfl
    · rw [decide_eq_false a]; rfl
theorem tree_Regular.goal (l : List Fld) (hp : decide (l.length ≤ 1099511627776) = true) : tree_Regular.F l = some [.b (Tree.regular l)] := by
  rw [tree_Regular.F_eq]
  exact tree_Regular.l1_ok l (of_decide_eq_true hp) l.length 0 (by omega)
theorem ref17_Regular.l1_ok (l : List Fld) (hb : l.length ≤ 1099511627776) : ∀ (m i : Nat), i + m = l.length → ref17_Regular.l1 l i = some [.b (Tree.regularFrom i (l.drop i))] := by
  intro m
  induction m with
  | zero =>
    intro i hi
    refine ref17_Regular.l1_in _ _ ?_
    intro v1 h1 v2 h2 v3 h3
    rw [decide_eq_false (by omega), cond_false, List.drop_of_length_le (by omega)]; rfl
  | succ m ih =>
    intro i hi
    refine ref17_Regular.l1_in _ _ ?_
    intro v1 h1 v2 h2 v3 h3
    rw [Int.toNat_natCast] at h1
    rw [u64_nat, Nat.mod_eq_of_lt (by omega)] at h2
    rw [decide_eq_true (by omega), cond_true, ck_of (idx_ok (by omega) (by omega)), show v3 = ((i + 1 : Nat) : Int) by rw [h3, i64_in _ (by omega)]; omega, ih _ (by omega), drop_cons (l := l) (i := i) (by omega) (STy.dflt .fl), ← h1, Tree.regularFrom, h2]
    by_cases a : v1.name = digs i
    · rw [decide_eq_true a]; rfl
    · rw [decide_eq_false a]; rfl
theorem ref17_Regular.goal (l : List Fld) (hp : decide (l.length ≤ 1099511627776) = true) : ref17_Regular.F l = some [.b (Tree.regular l)] := by
  rw [ref17_Regular.F_eq]
  exact ref17_Regular.l1_ok l (of_decide_eq_true hp) l.length 0 (by omega)
theorem Tree.count_val (f : Fld) : Tree.count (Fld.of [] f.val) = Tree.count f := by cases f; rfl
theorem Tree.count_of (n : Str) (v : Val) : Tree.count (Fld.of n v) = 1 + Tree.countL v.kids := by cases v; rfl
mutual
theorem Tree.count_le : ∀ f : Fld, Tree.count f ≤ Fld.bulk f
  | .mk n k b h lo t m s y ks => by
    have := Tree.countL_le ks
    simp only [Tree.count, Fld.bulk]; omega
theorem Tree.countL_le : ∀ l : List Fld, Tree.countL l ≤ Fld.bulks l
  | [] => Nat.zero_le _
  | f :: r => by
    have h1 := Tree.count_le f
    have h2 := Tree.countL_le r
    simp only [Tree.countL, Fld.bulks]; omega
end
theorem Tree.countL_get (l : List Fld) (i : Nat) (h : i < l.length) : Tree.count (l.getD i (STy.dflt .fl)) + Tree.countL (l.drop (i + 1)) = Tree.countL (l.drop i) := by
  rw [drop_cons h (STy.dflt .fl), Tree.countL]
theorem tree_Count.l1_ok (n : Nat) (ks : List Fld) (hb : Fld.bulks ks < 1099511627776) (hn : Fld.bulks ks < n) : ∀ (m i d : Nat), i + m = ks.length → d + Tree.countL (ks.drop i) ≤ 1099511627776 →
    tree_Count.l1 n d ks (ks.length : Int) i = some [.i .i64 ((d + Tree.countL (ks.drop i) : Nat) : Int)] := by
  have hlen := Fld.bulks_len ks
  intro m
  induction m with
  | zero =>
    intro i d hi hd
    refine tree_Count.l1_in _ _ _ _ _ ?_
    intro v1 h1 v2 h2 v3 h3
    rw [decide_eq_false (by omega), cond_false, List.drop_of_length_le (by omega)]; rfl
  | succ m ih =>
    intro i d hi hd
    refine tree_Count.l1_in _ _ _ _ _ ?_
    intro v1 h1 v2 h2 v3 h3
    rw [Int.toNat_natCast] at h1
    have hg := Fld.bulks_get ks i (STy.dflt .fl) (by omega)
    rw [← h1] at hg
    have hv := Fld.bulk_val v1
    have hc := Tree.countL_get ks i (by omega)
    rw [← h1] at hc
    rw [decide_eq_true (by omega), cond_true, ck_of (idx_ok (by omega) (by omega)), decide_eq_true (show Fld.bulk (Fld.of [] v1.val) < n by omega), decide_eq_true (show Fld.bulk (Fld.of [] v1.val) ≤ 1099511627776 by omega), Bool.and_self, ck_true,
      show v3 = ((i + 1 : Nat) : Int) by rw [h3, i64_in _ (by omega)]; omega, h2, Tree.count_val, i64_in ((d : Int) + (Tree.count v1 : Int)) (by omega), show (d : Int) + (Tree.count v1 : Int) = ((d + Tree.count v1 : Nat) : Int) by omega, ih _ _ (by omega) (by omega), ← hc, Nat.add_assoc]
theorem tree_Count.goal (n : Nat) (v : Val) (hp : ((decide (Fld.bulk (Fld.of [] v) ≤ 1099511627776)) && decide ((Fld.bulk (Fld.of [] v)) < n + 1)) = true) : tree_Count.F n v = some [.i .i64 (Tree.count (Fld.of [] v) : Int)] := by
  simp only [Bool.and_eq_true, decide_eq_true_eq] at hp
  obtain ⟨hbig, hn⟩ := hp
  have hks : Fld.bulks v.kids < Fld.bulk (Fld.of [] v) := by simp only [Fld.of, Fld.bulk]; omega
  refine tree_Count.F_in n v ?_
  intro v1 h1
  have hc := Tree.countL_le v.kids
  have key := tree_Count.l1_ok n v.kids (by omega) (by omega) v.kids.length 0 1 (by omega) (by rw [List.drop_zero]; omega)
  rw [List.drop_zero] at key
  rw [Tree.count_of, h1]
  exact key
theorem ref17_Count.l1_ok (n : Nat) (v : Val) (hb : Fld.bulks v.kids < 1099511627776) (hn : Fld.bulks v.kids < n) : ∀ (m i d : Nat), i + m = v.kids.length → d + Tree.countL (v.kids.drop i) ≤ 1099511627776 →
    ref17_Count.l1 n d i v = some [.i .i64 ((d + Tree.countL (v.kids.drop i) : Nat) : Int)] := by
  have hlen := Fld.bulks_len v.kids
  intro m
  induction m with
  | zero =>
    intro i d hi hd
    refine ref17_Count.l1_in _ _ _ _ ?_
    intro v1 h1 v2 h2 v3 h3 v4 h4
    rw [decide_eq_false (by omega), cond_false, List.drop_of_length_le (by omega)]; rfl
  | succ m ih =>
    intro i d hi hd
    refine ref17_Count.l1_in _ _ _ _ ?_
    intro v1 h1 v2 h2 v3 h3 v4 h4
    rw [Int.toNat_natCast] at h2
    have hg := Fld.bulks_get v.kids i (STy.dflt .fl) (by omega)
    rw [← h2] at hg
    have hv := Fld.bulk_val v2
    have hc := Tree.countL_get v.kids i (by omega)
    rw [← h2] at hc
    rw [decide_eq_true (by omega), cond_true, ck_of (idx_ok (by omega) (by omega)), decide_eq_true (show Fld.bulk (Fld.of [] v2.val) < n by omega), decide_eq_true (show Fld.bulk (Fld.of [] v2.val) ≤ 1099511627776 by omega), Bool.and_self, ck_true,
      show v4 = ((i + 1 : Nat) : Int) by rw [h4, i64_in _ (by omega)]; omega, h3, Tree.count_val, i64_in ((d : Int) + (Tree.count v2 : Int)) (by omega), show (d : Int) + (Tree.count v2 : Int) = ((d + Tree.count v2 : Nat) : Int) by omega, ih _ _ (by omega) (by omega), ← hc, Nat.add_assoc]
theorem ref17_Count.goal (n : Nat) (v : Val) (hp : ((decide (Fld.bulk (Fld.of [] v) ≤ 1099511627776)) && decide ((Fld.bulk (Fld.of [] v)) < n + 1)) = true) : ref17_Count.F n v = some [.i .i64 (Tree.count (Fld.of [] v) : Int)] := by
  simp only [Bool.and_eq_true, decide_eq_true_eq] at hp
  obtain ⟨hbig, hn⟩ := hp
  have hks : Fld.bulks v.kids < Fld.bulk (Fld.of [] v) := by simp only [Fld.of, Fld.bulk]; omega
  have hc := Tree.countL_le v.kids
  have key := ref17_Count.l1_ok n v (by omega) (by omega) v.kids.length 0 1 (by omega) (by rw [List.drop_zero]; omega)
  rw [List.drop_zero] at key
  rw [ref17_Count.F_eq, Tree.count_of]
  exact key
theorem ref17_Kids.goal (k : Int) : ref17_Kids.F k = some [.b (decide (k = 3 ∨ k = 4 ∨ k = 15))] := by
  refine ref17_Kids.F_in _ ?_
  intro v1 h1 v2 h2
  simp only [Bool.not_or_self, Bool.or_not_self, ck_true]
  congr 3
  rw [h2, h1]
  by_cases a : k = 3 <;> by_cases b : k = 4 <;> by_cases c : k = 15 <;> simp [a, b, c]
theorem ref17_Depth.l1_ok (n : Nat) (v : Val) (hb : Fld.bulks v.kids < 1099511627776) (hn : Fld.bulks v.kids < n) : ∀ (m i d : Nat), i + m = v.kids.length → d ≤ 1099511627776 →
    ref17_Depth.l1 n d i v = some [.i .i64 ((max d (Tree.depthL (v.kids.drop i)) + 1 : Nat) : Int)] := by
  have hlen := Fld.bulks_len v.kids
  intro m
  induction m with
  | zero =>
    intro i d hi hd
    refine ref17_Depth.l1_in _ _ _ _ ?_
    intro v1 h1 v2 h2 v3 h3 v4 h4 v5 h5
    rw [decide_eq_false (by omega), cond_false, List.drop_of_length_le (by omega), h5, i64_in _ (by omega)]
    simp [Tree.depthL]
  | succ m ih =>
    intro i d hi hd
    refine ref17_Depth.l1_in _ _ _ _ ?_
    intro v1 h1 v2 h2 v3 h3 v4 h4 v5 h5
    rw [Int.toNat_natCast] at h2
    have hg := Fld.bulks_get v.kids i (STy.dflt .fl) (by omega)
    rw [← h2] at hg
    have hv := Fld.bulk_val v2
    have hdv := Tree.depth_le v2
    rw [decide_eq_true (by omega), cond_true, ck_of (idx_ok (by omega) (by omega)), decide_eq_true (show Fld.bulk (Fld.of [] v2.val) < n by omega), decide_eq_true (show Fld.bulk (Fld.of [] v2.val) ≤ 1099511627776 by omega), Bool.and_self, ck_true,
      show v4 = ((i + 1 : Nat) : Int) by rw [h4, i64_in _ (by omega)]; omega, h3, Tree.depth_val, show maxI (d : Int) (Tree.depth v2 : Int) = ((max d (Tree.depth v2) : Nat) : Int) by unfold maxI; split <;> omega, ih _ _ (by omega) (by omega), drop_cons (l := v.kids) (i := i) (by omega) (STy.dflt .fl), ← h2, Tree.depthL, Nat.max_assoc]
theorem ref17_Depth.goal (n : Nat) (v : Val) (hp : ((decide (Fld.bulk (Fld.of [] v) ≤ 1099511627776)) && decide ((Fld.bulk (Fld.of [] v)) < n + 1)) = true) : ref17_Depth.F n v = some [.i .i64 (Tree.depth (Fld.of [] v) : Int)] := by
  simp only [Bool.and_eq_true, decide_eq_true_eq] at hp
  obtain ⟨hbig, hn⟩ := hp
  have hks : Fld.bulks v.kids < Fld.bulk (Fld.of [] v) := by simp only [Fld.of, Fld.bulk]; omega
  have key := ref17_Depth.l1_ok n v (by omega) (by omega) v.kids.length 0 0 (by omega) (by omega)
  rw [List.drop_zero, Nat.zero_max] at key
  rw [ref17_Depth.F_eq, Tree.depth_of]
  by_cases h : v.kind = 3 ∨ v.kind = 4 ∨ v.kind = 15
  · rw [if_pos h, decide_eq_true h, Bool.not_true, cond_false]; exact key
  · rw [if_neg h, decide_eq_false h, Bool.not_false, cond_true]; rfl
end Go.Eng
namespace Go.Eng
open Go.IntWalk
theorem book_Room.l1_ok (sizes : List Int) (hl : sizes.length ≤ 10) (hs : ∀ s ∈ sizes, 0 ≤ s) : ∀ (m i : Nat) (left : Int), i + m = sizes.length → left ≤ 1200 → book_Room.l1 left sizes i = some [.i .i64 (Book.room left (sizes.drop i))] := by
  intro m
  induction m with
  | zero =>
    intro i left hi hle
    refine book_Room.l1_in _ _ _ ?_
    intro v1 h1 v2 h2 v3 h3
    rw [decide_eq_false (by omega), cond_false, List.drop_of_length_le (by omega)]; rfl
  | succ m ih =>
    intro i left hi hle
    refine book_Room.l1_in _ _ _ ?_
    intro v1 h1 v2 h2 v3 h3
    rw [Int.toNat_natCast] at h1
    have h0 : 0 ≤ v1 := hs v1 (by rw [h1, List.getD_eq_getElem?_getD, List.getElem?_eq_getElem (show i < sizes.length by omega)]; simp)
    rw [decide_eq_true (by omega), cond_true, show idxOK (i : Int) sizes.length = true from idx_ok (by omega) (by omega), drop_cons (l := sizes) (i := i) (by omega) 0, ← h1, Book.room]
    simp only [Bool.and_self, Bool.and_true, Bool.not_or_self, Bool.or_not_self, ck_true]
    by_cases a : left < 0 ∨ left < v1
    · rw [if_pos a, show v2 = true by rw [h2]; by_cases b : left < 0 <;> simp [b]; omega]; rfl
    · rw [if_neg a, show v2 = false by rw [h2]; by_cases b : left < 0 <;> simp [b] <;> omega, cond_false, show v3 = ((i + 1 : Nat) : Int) by rw [h3, i64_in _ (by omega)]; omega, i64_in _ (by omega), ih _ _ (by omega) (by omega)]
theorem book_Room.goal (left : Int) (sizes : List Int) (hp : (decide (left ≤ 1200 ∧ sizes.length ≤ 10) && sizes.all (fun s => decide (0 ≤ s))) = true) : book_Room.F left sizes = some [.i .i64 (Book.room left sizes)] := by
  simp only [Bool.and_eq_true, decide_eq_true_eq, List.all_eq_true] at hp
  rw [book_Room.F_eq]
  exact book_Room.l1_ok sizes hp.1.2 hp.2 sizes.length 0 left (by omega) hp.1.1
theorem Book.room1 (left a : Int) (ha : 0 ≤ a) (hl : left ≤ 1200) : Book.room left [a] ≤ 1200 ∧ (Book.room left [a] = -1 ∨ (Book.room left [a] = left - a ∧ 0 ≤ left - a)) := by
  simp only [Book.room]; split <;> omega
theorem Book.room4 (left a b c d : Int) (ha : 0 ≤ a) (hb : 0 ≤ b) (hc : 0 ≤ c) (hd : 0 ≤ d) (hl : left ≤ 1200) :
    Book.room left [a, b, c, d] ≤ 1200 ∧ (Book.room left [a, b, c, d] = -1 ∨ (Book.room left [a, b, c, d] = left - a - b - c - d ∧ 0 ≤ left - a - b - c - d)) := by
  simp only [Book.room]
  split
  · omega
  · split
    · omega
    · split
      · omega
      · split <;> omega
mutual
theorem Book.value_le : ∀ (f : Fld) (left : Int), left ≤ 1200 → Book.value left f ≤ 1200 ∧ (0 ≤ Book.value left f → (Fld.bulk f : Int) - f.name.length ≤ left - Book.value left f)
  | .mk n k b h l t m s y ks, left, hl => by
    have h1 := Book.room4 left 2 t.length m.length y.length (by omega) (by omega) (by omega) (by omega) hl
    have h2 := Book.values_le ks (Book.room left [2, (t.length : Int), (m.length : Int), (y.length : Int)]) h1.1
    simp only [Book.value, Fld.bulk, Fld.name]
    refine ⟨h2.1, fun h0 => ?_⟩
    rcases h1.2 with e | ⟨e, e0⟩
    · have := h2.2.2 (by omega); omega
    · have := h2.2.1 h0; omega
theorem Book.values_le : ∀ (ks : List Fld) (left : Int), left ≤ 1200 → Book.values left ks ≤ 1200 ∧ (0 ≤ Book.values left ks → (Fld.bulks ks : Int) ≤ left - Book.values left ks) ∧ (left < 0 → Book.values left ks < 0)
  | [], left, hl => by simp only [Book.values, Fld.bulks]; omega
  | f :: r, left, hl => by
    simp only [Book.values, Fld.bulks]
    by_cases h : left < 0
    · rw [if_pos h]; omega
    · rw [if_neg h]
      have h1 := Book.room1 left f.name.length (by omega) hl
      have h2 := Book.value_le f (Book.room left [(f.name.length : Int)]) h1.1
      have h3 := Book.values_le r (Book.value (Book.room left [(f.name.length : Int)]) f) h2.1
      refine ⟨h3.1, fun h0 => ?_, fun h0 => by omega⟩
      have h4 := h3.2.1 h0
      have h5 : 0 ≤ Book.value (Book.room left [(f.name.length : Int)]) f := by
        by_cases h6 : Book.value (Book.room left [(f.name.length : Int)]) f < 0
        · have := h3.2.2 h6; omega
        · omega
      have h7 := h2.2 h5
      have hb : (f.name.length : Int) ≤ Fld.bulk f := by cases f; simp only [Fld.name, Fld.bulk]; omega
      rcases h1.2 with e | ⟨e, e0⟩
      · omega
      · omega
end
theorem Book.small_bulk (v : Val) (h : 0 ≤ Book.value 1200 (Fld.of [] v)) : Fld.bulk (Fld.of [] v) ≤ 1200 := by
  have := (Book.value_le (Fld.of [] v) 1200 (by omega)).2 h
  have hn : (Fld.of [] v).name = [] := rfl
  rw [hn] at this
  simp at this; omega
theorem Book.value_val (left : Int) (f : Fld) : Book.value left (Fld.of [] f.val) = Book.value left f := by cases f; rfl
theorem Book.value_lt (f : Fld) (left : Int) (hl : left ≤ 1200) (h0 : 0 ≤ Book.value left f) : Book.value left f + 1 ≤ left := by
  have := (Book.value_le f left hl).2 h0
  have hb : (f.name.length : Int) + 1 ≤ Fld.bulk f := by cases f; simp only [Fld.name, Fld.bulk]; omega
  omega
theorem book_Value.l1_ok (n : Nat) (v : Val) (hn : Fld.bulks v.kids < n) : ∀ (m i : Nat) (left : Int), i + m = v.kids.length → (i : Int) + left ≤ 1200 →
    book_Value.l1 n left i v = some [.i .i64 (Book.values left (v.kids.drop i))] := by
  intro m
  induction m with
  | zero =>
    intro i left hi hle
    refine book_Value.l1_in _ _ _ _ ?_
    intro v1 h1 v2 h2 v3 h3 v4 h4 v5 h5 v6 h6 v7 h7
    simp only [Bool.not_or_self, ck_true]
    rw [show v2 = false by rw [h2, decide_eq_false (by omega)]; rfl, cond_false, List.drop_of_length_le (by omega)]; rfl
  | succ m ih =>
    intro i left hi hle
    refine book_Value.l1_in _ _ _ _ ?_
    intro v1 h1 v2 h2 v3 h3 v4 h4 v5 h5 v6 h6 v7 h7
    rw [Int.toNat_natCast] at h3
    have hg := Fld.bulks_get v.kids i (STy.dflt .fl) (by omega)
    rw [← h3] at hg
    have hv := Fld.bulk_val v3
    have r1 := Book.room1 left v4 (by omega) (by omega)
    rw [← h5] at r1
    have r2 := Book.value_lt v3 v5 r1.1
    rw [Book.value_val] at h6
    simp only [Bool.not_or_self, ck_true]
    rw [drop_cons (l := v.kids) (i := i) (by omega) (STy.dflt .fl), ← h3, Book.values]
    by_cases h : left < 0
    · rw [if_pos h, show v2 = false by rw [h2, decide_eq_false (show ¬ 0 ≤ left by omega)]; simp]; rfl
    · have r3 : (i : Int) + 1 + v6 ≤ 1200 := by
        rw [h6]
        by_cases hx : 0 ≤ Book.value v5 v3
        · have := r2 hx; omega
        · omega
      rw [if_neg h, show v2 = true by rw [h2, decide_eq_true (by omega), decide_eq_true (by omega)]; rfl, cond_true, ck_of (idx_ok (by omega) (by omega)), ck_of (by simp; omega), ck_of (idx_ok (by omega) (by omega)), decide_eq_true r1.1, decide_eq_true (by omega), Bool.and_self, ck_true,
        show v7 = ((i + 1 : Nat) : Int) by rw [h7, i64_in _ (by omega)]; omega, ih _ _ (by omega) (by omega), h6, h5, h4]
theorem book_Value.goal (n : Nat) (left : Int) (v : Val) (hp : ((decide (left ≤ 1200)) && decide ((Fld.bulk (Fld.of [] v)) < n + 1)) = true) : book_Value.F n left v = some [.i .i64 (Book.value left (Fld.of [] v))] := by
  simp only [Bool.and_eq_true, decide_eq_true_eq] at hp
  obtain ⟨hl, hn⟩ := hp
  have hks : Fld.bulks v.kids < Fld.bulk (Fld.of [] v) := by simp only [Fld.of, Fld.bulk]; omega
  refine book_Value.F_in n left v ?_
  intro v1 h1 v2 h2 v3 h3 v4 h4
  have r := Book.room4 left 2 v1 v2 v3 (by omega) (by omega) (by omega) (by omega) hl
  rw [← h4] at r
  rw [ck_of (by rw [h4]; simp; omega)]
  have key := book_Value.l1_ok n v (by omega) v.kids.length 0 (Book.room left v4) (by omega) (by omega)
  rw [List.drop_zero] at key
  refine key.trans ?_
  rw [h4, h1, h2, h3]
  rfl
theorem book_Small.goal (v : Val) : book_Small.F v = some [.b (decide (0 ≤ Book.value 1200 (Fld.of [] v)))] := by
  refine book_Small.F_in v ?_
  intro v1 h1
  rw [ck_of (by decide), h1]
end Go.Eng
namespace Go.Eng
open Go.IntWalk
theorem law17_awake.goal : law17_awake.F = some [.b true] := by
  refine law17_awake.F_in ?_
  intro v1 h1 v2 h2 v3 h3 v4 h4 v5 h5 v6 h6 v7 h7
  subst h1 h4
  have e2 : v2 = [0] := h2.trans (by decide +kernel)
  have e3 : v3 = 5 := h3.trans (by decide +kernel)
  have e5 : v5 = 2 := h5.trans (by decide +kernel)
  rw [e5, e3] at h6
  rw [e2, h6] at h7
  rw [h7, h6, e5, e2, ck_of (by decide +kernel), ck_of (by decide +kernel)]
  rfl
end Go.Eng
namespace Go.Eng
theorem utf_is.fit (r : Int) : ([.i .i64 r] : List TV).length = utf_is.d.np ∧ utf_is.d.run (envL trydGl utf_is.env) [.i .i64 r] = some (([(.b (Utf.isRune r))] : List TV) ++ utf_is.d.ps.toList.map fun q => ([.i .i64 r] : List TV).getD q.1 .dead) :=
  ⟨by kernel_rfl, Eq.trans (b := utf_is.F r) (by kernel_rfl) (Eq.trans (utf_is.goal r) (by kernel_rfl))⟩
theorem utf_is.ok : SpecOK Go.Proofs.Tryd.prog (fun n => (trydGl n).av) 45 (Ctr.fs (utf_is.c, utf_is.sg)) :=
  meets (l := utf_is.env) all_nil utf_is.chk (by
      intro ins outs h
      unfold utf_is.c at h
      split at h
      · cases h; exact utf_is.fit _
      · exact h.elim)
theorem utf_Rune.fit (b : List UInt8) (at_ : Int) (hp : (decide (b.length ≤ 1099511627776)) = true) : ([.sl .bs b, .i .i64 at_] : List TV).length = utf_Rune.d.np ∧ utf_Rune.d.run (envL trydGl utf_Rune.env) [.sl .bs b, .i .i64 at_] = some (([(.i .i64 ((Utf.runeAt b at_).1)), (.i .i64 ((Utf.runeAt b at_).2))] : List TV) ++ utf_Rune.d.ps.toList.map fun q => ([.sl .bs b, .i .i64 at_] : List TV).getD q.1 .dead) :=
  ⟨by kernel_rfl, Eq.trans (b := utf_Rune.F b at_) (by kernel_rfl) (Eq.trans (utf_Rune.goal b at_ hp) (by kernel_rfl))⟩
theorem utf_Rune.ok : SpecOK Go.Proofs.Tryd.prog (fun n => (trydGl n).av) 41 (Ctr.fs (utf_Rune.c, utf_Rune.sg)) :=
  meets (l := utf_Rune.env) (all_cons utf_is.ok all_nil) utf_Rune.chk (by
      intro ins outs h
      unfold utf_Rune.c at h
      split at h
      · obtain ⟨hp, rfl⟩ := h; exact utf_Rune.fit _ _ hp
      · exact h.elim)
theorem utf_look.fit (b : List UInt8) (hp : (decide (b.length ≤ 1099511627776)) = true) : ([.sl .bs b] : List TV).length = utf_look.d.np ∧ utf_look.d.run (envL trydGl utf_look.env) [.sl .bs b] = some (([(.i .i64 (((Utf.look b).1 : Int))), (.i .i64 (((Utf.look b).2 : Int)))] : List TV) ++ utf_look.d.ps.toList.map fun q => ([.sl .bs b] : List TV).getD q.1 .dead) :=
  ⟨by kernel_rfl, Eq.trans (b := utf_look.F b) (by kernel_rfl) (Eq.trans (utf_look.goal b hp) (by kernel_rfl))⟩
theorem utf_look.ok : SpecOK Go.Proofs.Tryd.prog (fun n => (trydGl n).av) 34 (Ctr.fs (utf_look.c, utf_look.sg)) :=
  meets (l := utf_look.env) (all_cons utf_Rune.ok all_nil) utf_look.chk (by
      intro ins outs h
      unfold utf_look.c at h
      split at h
      · obtain ⟨hp, rfl⟩ := h; exact utf_look.fit _ hp
      · exact h.elim)
theorem utf_Check.fit (b : List UInt8) (hp : (decide (b.length ≤ 1099511627776)) = true) : ([.sl .bs b] : List TV).length = utf_Check.d.np ∧ utf_Check.d.run (envL trydGl utf_Check.env) [.sl .bs b] = some (([(.i .i64 (((Utf.look b).1 : Int))), (.b (Utf.whole b))] : List TV) ++ utf_Check.d.ps.toList.map fun q => ([.sl .bs b] : List TV).getD q.1 .dead) :=
  ⟨by kernel_rfl, Eq.trans (b := utf_Check.F b) (by kernel_rfl) (Eq.trans (utf_Check.goal b hp) (by kernel_rfl))⟩
theorem utf_Check.ok : SpecOK Go.Proofs.Tryd.prog (fun n => (trydGl n).av) 28 (Ctr.fs (utf_Check.c, utf_Check.sg)) :=
  meets (l := utf_Check.env) (all_cons utf_look.ok all_nil) utf_Check.chk (by
      intro ins outs h
      unfold utf_Check.c at h
      split at h
      · obtain ⟨hp, rfl⟩ := h; exact utf_Check.fit _ hp
      · exact h.elim)
theorem sl_IndexByte.fit (s : Str) (c : UInt8) : ([.s s, .u8 c] : List TV).length = sl_IndexByte.d.np ∧ sl_IndexByte.d.run (envL trydGl sl_IndexByte.env) [.s s, .u8 c] = some (([(.i .i64 (Lib.indexByte s c))] : List TV) ++ sl_IndexByte.d.ps.toList.map fun q => ([.s s, .u8 c] : List TV).getD q.1 .dead) :=
  ⟨by kernel_rfl, Eq.trans (b := sl_IndexByte.F s c) (by kernel_rfl) (Eq.trans (sl_IndexByte.goal s c) (by kernel_rfl))⟩
theorem sl_IndexByte.ok : SpecOK Go.Proofs.Tryd.prog (fun n => (trydGl n).av) 46 (Ctr.fs (sl_IndexByte.c, sl_IndexByte.sg)) :=
  meets (l := sl_IndexByte.env) all_nil sl_IndexByte.chk (by
      intro ins outs h
      unfold sl_IndexByte.c at h
      split at h
      · cases h; exact sl_IndexByte.fit _ _
      · exact h.elim)
theorem sl_Index.fit (s : Str) (t : Str) (hp : (decide (t.length = 1)) = true) : ([.s s, .s t] : List TV).length = sl_Index.d.np ∧ sl_Index.d.run (envL trydGl sl_Index.env) [.s s, .s t] = some (([(.i .i64 (Lib.indexByte s (t.getD 0 0)))] : List TV) ++ sl_Index.d.ps.toList.map fun q => ([.s s, .s t] : List TV).getD q.1 .dead) :=
  ⟨by kernel_rfl, Eq.trans (b := sl_Index.F s t) (by kernel_rfl) (Eq.trans (sl_Index.goal s t hp) (by kernel_rfl))⟩
theorem sl_Index.ok : SpecOK Go.Proofs.Tryd.prog (fun n => (trydGl n).av) 42 (Ctr.fs (sl_Index.c, sl_Index.sg)) :=
  meets (l := sl_Index.env) (all_cons sl_IndexByte.ok all_nil) sl_Index.chk (by
      intro ins outs h
      unfold sl_Index.c at h
      split at h
      · obtain ⟨hp, rfl⟩ := h; exact sl_Index.fit _ _ hp
      · exact h.elim)
theorem st_Index.fit (s : Str) (t : Str) (hp : (decide (t.length = 1)) = true) : ([.s s, .s t] : List TV).length = st_Index.d.np ∧ st_Index.d.run (envL trydGl st_Index.env) [.s s, .s t] = some (([(.i .i64 (Lib.indexByte s (t.getD 0 0)))] : List TV) ++ st_Index.d.ps.toList.map fun q => ([.s s, .s t] : List TV).getD q.1 .dead) :=
  ⟨by kernel_rfl, Eq.trans (b := st_Index.F s t) (by kernel_rfl) (Eq.trans (st_Index.goal s t hp) (by kernel_rfl))⟩
theorem st_Index.ok : SpecOK Go.Proofs.Tryd.prog (fun n => (trydGl n).av) 35 (Ctr.fs (st_Index.c, st_Index.sg)) :=
  meets (l := st_Index.env) (all_cons sl_Index.ok all_nil) st_Index.chk (by
      intro ins outs h
      unfold st_Index.c at h
      split at h
      · obtain ⟨hp, rfl⟩ := h; exact st_Index.fit _ _ hp
      · exact h.elim)
theorem st_Contains.fit (s : Str) (t : Str) (hp : (decide (t.length = 1)) = true) : ([.s s, .s t] : List TV).length = st_Contains.d.np ∧ st_Contains.d.run (envL trydGl st_Contains.env) [.s s, .s t] = some (([(.b (decide (0 ≤ Lib.indexByte s (t.getD 0 0))))] : List TV) ++ st_Contains.d.ps.toList.map fun q => ([.s s, .s t] : List TV).getD q.1 .dead) :=
  ⟨by kernel_rfl, Eq.trans (b := st_Contains.F s t) (by kernel_rfl) (Eq.trans (st_Contains.goal s t hp) (by kernel_rfl))⟩
theorem st_Contains.ok : SpecOK Go.Proofs.Tryd.prog (fun n => (trydGl n).av) 29 (Ctr.fs (st_Contains.c, st_Contains.sg)) :=
  meets (l := st_Contains.env) (all_cons st_Index.ok all_nil) st_Contains.chk (by
      intro ins outs h
      unfold st_Contains.c at h
      split at h
      · obtain ⟨hp, rfl⟩ := h; exact st_Contains.fit _ _ hp
      · exact h.elim)
theorem tree_Name.fit (k : Int) : ([.i .i64 k] : List TV).length = tree_Name.d.np ∧ tree_Name.d.run (envL trydGl tree_Name.env) [.i .i64 k] = some (([(.s (Tree.name k))] : List TV) ++ tree_Name.d.ps.toList.map fun q => ([.i .i64 k] : List TV).getD q.1 .dead) :=
  ⟨by kernel_rfl, Eq.trans (b := tree_Name.F k) (by kernel_rfl) (Eq.trans (tree_Name.goal k) (by kernel_rfl))⟩
theorem tree_Name.ok : SpecOK Go.Proofs.Tryd.prog (fun n => (trydGl n).av) 23 (Ctr.fs (tree_Name.c, tree_Name.sg)) :=
  meets (l := tree_Name.env) all_nil tree_Name.chk (by
      intro ins outs h
      unfold tree_Name.c at h
      split at h
      · cases h; exact tree_Name.fit _
      · exact h.elim)
theorem tree_fields.fit (v_kind : Int) (v_bits : UInt64) (v_high : UInt64) (v_low : UInt64) (v_text : Str) (v_more : Str) (v_sub : Int) (v_bytes : List UInt8) (v_kids : List Fld) : ([.ag [.i .i64 v_kind, .u64 v_bits, .u64 v_high, .u64 v_low, .s v_text, .s v_more, .i .i64 v_sub, .sl .bs v_bytes, .sl .fl v_kids]] : List TV).length = tree_fields.d.np ∧ tree_fields.d.run (envL trydGl tree_fields.env) [.ag [.i .i64 v_kind, .u64 v_bits, .u64 v_high, .u64 v_low, .s v_text, .s v_more, .i .i64 v_sub, .sl .bs v_bytes, .sl .fl v_kids]] = some (([(.b (Tree.fieldsOK (Val.mk v_kind v_bits v_high v_low v_text v_more v_sub v_bytes v_kids)))] : List TV) ++ tree_fields.d.ps.toList.map fun q => ([.ag [.i .i64 v_kind, .u64 v_bits, .u64 v_high, .u64 v_low, .s v_text, .s v_more, .i .i64 v_sub, .sl .bs v_bytes, .sl .fl v_kids]] : List TV).getD q.1 .dead) :=
  ⟨by kernel_rfl, Eq.trans (b := tree_fields.F (Val.mk v_kind v_bits v_high v_low v_text v_more v_sub v_bytes v_kids)) (by kernel_rfl) (Eq.trans (tree_fields.goal (Val.mk v_kind v_bits v_high v_low v_text v_more v_sub v_bytes v_kids)) (by kernel_rfl))⟩
theorem tree_fields.ok : SpecOK Go.Proofs.Tryd.prog (fun n => (trydGl n).av) 25 (Ctr.fs (tree_fields.c, tree_fields.sg)) :=
  meets (l := tree_fields.env) all_nil tree_fields.chk (by
      intro ins outs h
      unfold tree_fields.c at h
      split at h
      · cases h; exact tree_fields.fit _ _ _ _ _ _ _ _ _
      · exact h.elim)
theorem tree_whole.fit (s : Str) (plain : Bool) (hp : (decide (s.length ≤ 1099511627776)) = true) : ([.s s, .b plain] : List TV).length = tree_whole.d.np ∧ tree_whole.d.run (envL trydGl tree_whole.env) [.s s, .b plain] = some (([(.b (Tree.wholeT s plain))] : List TV) ++ tree_whole.d.ps.toList.map fun q => ([.s s, .b plain] : List TV).getD q.1 .dead) :=
  ⟨by kernel_rfl, Eq.trans (b := tree_whole.F s plain) (by kernel_rfl) (Eq.trans (tree_whole.goal s plain hp) (by kernel_rfl))⟩
theorem tree_whole.ok : SpecOK Go.Proofs.Tryd.prog (fun n => (trydGl n).av) 26 (Ctr.fs (tree_whole.c, tree_whole.sg)) :=
  meets (l := tree_whole.env) (all_cons utf_Check.ok (all_cons st_Contains.ok all_nil)) tree_whole.chk (by
      intro ins outs h
      unfold tree_whole.c at h
      split at h
      · obtain ⟨hp, rfl⟩ := h; exact tree_whole.fit _ _ hp
      · exact h.elim)
theorem tree_check.fit (n : Nat) (v_kind : Int) (v_bits : UInt64) (v_high : UInt64) (v_low : UInt64) (v_text : Str) (v_more : Str) (v_sub : Int) (v_bytes : List UInt8) (v_kids : List Fld) (name : Str) (path : List Int) (hp : ((decide (Fld.bulk (Fld.of name (Val.mk v_kind v_bits v_high v_low v_text v_more v_sub v_bytes v_kids)) + path.length ≤ 1099511627776)) && decide ((Fld.bulk (Fld.of name (Val.mk v_kind v_bits v_high v_low v_text v_more v_sub v_bytes v_kids))) < n + 1)) = true) : ([.ag [.i .i64 v_kind, .u64 v_bits, .u64 v_high, .u64 v_low, .s v_text, .s v_more, .i .i64 v_sub, .sl .bs v_bytes, .sl .fl v_kids], .s name, .sl .is path] : List TV).length = tree_check.d.np ∧ tree_check.d.run (envL trydGl (tree_check.env n)) [.ag [.i .i64 v_kind, .u64 v_bits, .u64 v_high, .u64 v_low, .s v_text, .s v_more, .i .i64 v_sub, .sl .bs v_bytes, .sl .fl v_kids], .s name, .sl .is path] = some (([(.sl .is ((Tree.chkF (Fld.of name (Val.mk v_kind v_bits v_high v_low v_text v_more v_sub v_bytes v_kids)) path).1)), (.i .i64 ((Tree.chkF (Fld.of name (Val.mk v_kind v_bits v_high v_low v_text v_more v_sub v_bytes v_kids)) path).2))] : List TV) ++ tree_check.d.ps.toList.map fun q => ([.ag [.i .i64 v_kind, .u64 v_bits, .u64 v_high, .u64 v_low, .s v_text, .s v_more, .i .i64 v_sub, .sl .bs v_bytes, .sl .fl v_kids], .s name, .sl .is path] : List TV).getD q.1 .dead) :=
  ⟨by kernel_rfl, Eq.trans (b := tree_check.F n (Val.mk v_kind v_bits v_high v_low v_text v_more v_sub v_bytes v_kids) name path) (by kernel_rfl) (Eq.trans (tree_check.goal n (Val.mk v_kind v_bits v_high v_low v_text v_more v_sub v_bytes v_kids) name path hp) (by kernel_rfl))⟩
theorem tcheck.oks : ∀ n : Nat, (SpecOK Go.Proofs.Tryd.prog (fun n => (trydGl n).av) 20 (Ctr.fs (tree_check.cn n, tree_check.sg))) := by
  intro n
  induction n with
  | zero => exact spec_zero (by
      intro ti to_ h
      unfold tree_check.cn at h
      split at h
      · obtain ⟨h, _⟩ := h; simp at h
      · exact h.elim)
  | succ n ih =>
    have ih0 := ih
    exact meets (l := tree_check.env n) (all_cons ih0 (all_cons tree_Name.ok (all_cons clone_is.ok (all_cons tree_fields.ok (all_cons tree_whole.ok all_nil))))) (tree_check.chk n) (by
      intro ins outs h
      unfold tree_check.cn at h
      split at h
      · obtain ⟨hp, rfl⟩ := h; exact tree_check.fit n _ _ _ _ _ _ _ _ _ _ _ hp
      · exact h.elim)
theorem tree_check.ok : SpecOK Go.Proofs.Tryd.prog (fun n => (trydGl n).av) 20 (Ctr.fs (tree_check.c, tree_check.sg)) := spec_sub fun ti to_ h => by
  unfold tree_check.c at h
  split at h
  · obtain ⟨hp, rfl⟩ := h; exact ⟨tree_check.cn (_ + 1), (tcheck.oks _), Bool.and_eq_true_iff.2 ⟨hp, decide_eq_true (Nat.lt_succ_self _)⟩, rfl⟩
  · exact h.elim
theorem tree_Check.fit (v_kind : Int) (v_bits : UInt64) (v_high : UInt64) (v_low : UInt64) (v_text : Str) (v_more : Str) (v_sub : Int) (v_bytes : List UInt8) (v_kids : List Fld) (hp : (decide (Fld.bulk (Fld.of [] (Val.mk v_kind v_bits v_high v_low v_text v_more v_sub v_bytes v_kids)) ≤ 1099511627776)) = true) : ([.ag [.i .i64 v_kind, .u64 v_bits, .u64 v_high, .u64 v_low, .s v_text, .s v_more, .i .i64 v_sub, .sl .bs v_bytes, .sl .fl v_kids]] : List TV).length = tree_Check.d.np ∧ tree_Check.d.run (envL trydGl tree_Check.env) [.ag [.i .i64 v_kind, .u64 v_bits, .u64 v_high, .u64 v_low, .s v_text, .s v_more, .i .i64 v_sub, .sl .bs v_bytes, .sl .fl v_kids]] = some (([(.sl .is ((Tree.chkF (Fld.of [] (Val.mk v_kind v_bits v_high v_low v_text v_more v_sub v_bytes v_kids)) []).1)), (.i .i64 ((Tree.chkF (Fld.of [] (Val.mk v_kind v_bits v_high v_low v_text v_more v_sub v_bytes v_kids)) []).2))] : List TV) ++ tree_Check.d.ps.toList.map fun q => ([.ag [.i .i64 v_kind, .u64 v_bits, .u64 v_high, .u64 v_low, .s v_text, .s v_more, .i .i64 v_sub, .sl .bs v_bytes, .sl .fl v_kids]] : List TV).getD q.1 .dead) :=
  ⟨by kernel_rfl, Eq.trans (b := tree_Check.F (Val.mk v_kind v_bits v_high v_low v_text v_more v_sub v_bytes v_kids)) (by kernel_rfl) (Eq.trans (tree_Check.goal (Val.mk v_kind v_bits v_high v_low v_text v_more v_sub v_bytes v_kids) hp) (by kernel_rfl))⟩
theorem tree_Check.ok : SpecOK Go.Proofs.Tryd.prog (fun n => (trydGl n).av) 15 (Ctr.fs (tree_Check.c, tree_Check.sg)) :=
  meets (l := tree_Check.env) (all_cons tree_check.ok all_nil) tree_Check.chk (by
      intro ins outs h
      unfold tree_Check.c at h
      split at h
      · obtain ⟨hp, rfl⟩ := h; exact tree_Check.fit _ _ _ _ _ _ _ _ _ hp
      · exact h.elim)
theorem tree_Depth.fit (n : Nat) (v_kind : Int) (v_bits : UInt64) (v_high : UInt64) (v_low : UInt64) (v_text : Str) (v_more : Str) (v_sub : Int) (v_bytes : List UInt8) (v_kids : List Fld) (hp : ((decide (Fld.bulk (Fld.of [] (Val.mk v_kind v_bits v_high v_low v_text v_more v_sub v_bytes v_kids)) ≤ 1099511627776)) && decide ((Fld.bulk (Fld.of [] (Val.mk v_kind v_bits v_high v_low v_text v_more v_sub v_bytes v_kids))) < n + 1)) = true) : ([.ag [.i .i64 v_kind, .u64 v_bits, .u64 v_high, .u64 v_low, .s v_text, .s v_more, .i .i64 v_sub, .sl .bs v_bytes, .sl .fl v_kids]] : List TV).length = tree_Depth.d.np ∧ tree_Depth.d.run (envL trydGl (tree_Depth.env n)) [.ag [.i .i64 v_kind, .u64 v_bits, .u64 v_high, .u64 v_low, .s v_text, .s v_more, .i .i64 v_sub, .sl .bs v_bytes, .sl .fl v_kids]] = some (([(.i .i64 ((Tree.depth (Fld.of [] (Val.mk v_kind v_bits v_high v_low v_text v_more v_sub v_bytes v_kids)) : Int)))] : List TV) ++ tree_Depth.d.ps.toList.map fun q => ([.ag [.i .i64 v_kind, .u64 v_bits, .u64 v_high, .u64 v_low, .s v_text, .s v_more, .i .i64 v_sub, .sl .bs v_bytes, .sl .fl v_kids]] : List TV).getD q.1 .dead) :=
  ⟨by kernel_rfl, Eq.trans (b := tree_Depth.F n (Val.mk v_kind v_bits v_high v_low v_text v_more v_sub v_bytes v_kids)) (by kernel_rfl) (Eq.trans (tree_Depth.goal n (Val.mk v_kind v_bits v_high v_low v_text v_more v_sub v_bytes v_kids) hp) (by kernel_rfl))⟩
theorem tdepth.oks : ∀ n : Nat, (SpecOK Go.Proofs.Tryd.prog (fun n => (trydGl n).av) 12 (Ctr.fs (tree_Depth.cn n, tree_Depth.sg))) := by
  intro n
  induction n with
  | zero => exact spec_zero (by
      intro ti to_ h
      unfold tree_Depth.cn at h
      split at h
      · obtain ⟨h, _⟩ := h; simp at h
      · exact h.elim)
  | succ n ih =>
    have ih0 := ih
    exact meets (l := tree_Depth.env n) (all_cons ih0 all_nil) (tree_Depth.chk n) (by
      intro ins outs h
      unfold tree_Depth.cn at h
      split at h
      · obtain ⟨hp, rfl⟩ := h; exact tree_Depth.fit n _ _ _ _ _ _ _ _ _ hp
      · exact h.elim)
theorem tree_Depth.ok : SpecOK Go.Proofs.Tryd.prog (fun n => (trydGl n).av) 12 (Ctr.fs (tree_Depth.c, tree_Depth.sg)) := spec_sub fun ti to_ h => by
  unfold tree_Depth.c at h
  split at h
  · obtain ⟨hp, rfl⟩ := h; exact ⟨tree_Depth.cn (_ + 1), (tdepth.oks _), Bool.and_eq_true_iff.2 ⟨hp, decide_eq_true (Nat.lt_succ_self _)⟩, rfl⟩
  · exact h.elim
theorem ref1_SameInts.fit (a : List Int) (b : List Int) (hp : (decide (a.length ≤ 1099511627776)) = true) : ([.sl .is a, .sl .is b] : List TV).length = ref1_SameInts.d.np ∧ ref1_SameInts.d.run (envL trydGl ref1_SameInts.env) [.sl .is a, .sl .is b] = some (([(.b (decide (a = b)))] : List TV) ++ ref1_SameInts.d.ps.toList.map fun q => ([.sl .is a, .sl .is b] : List TV).getD q.1 .dead) :=
  ⟨by kernel_rfl, Eq.trans (b := ref1_SameInts.F a b) (by kernel_rfl) (Eq.trans (ref1_SameInts.goal a b hp) (by kernel_rfl))⟩
theorem ref1_SameInts.ok : SpecOK Go.Proofs.Tryd.prog (fun n => (trydGl n).av) 16 (Ctr.fs (ref1_SameInts.c, ref1_SameInts.sg)) :=
  meets (l := ref1_SameInts.env) all_nil ref1_SameInts.chk (by
      intro ins outs h
      unfold ref1_SameInts.c at h
      split at h
      · obtain ⟨hp, rfl⟩ := h; exact ref1_SameInts.fit _ _ hp
      · exact h.elim)
theorem book_Room.fit (left : Int) (sizes : List Int) (hp : (decide (left ≤ 1200 ∧ sizes.length ≤ 10) && sizes.all (fun s => decide (0 ≤ s))) = true) : ([.i .i64 left, .sl .is sizes] : List TV).length = book_Room.d.np ∧ book_Room.d.run (envL trydGl book_Room.env) [.i .i64 left, .sl .is sizes] = some (([(.i .i64 (Book.room left sizes))] : List TV) ++ book_Room.d.ps.toList.map fun q => ([.i .i64 left, .sl .is sizes] : List TV).getD q.1 .dead) :=
  ⟨by kernel_rfl, Eq.trans (b := book_Room.F left sizes) (by kernel_rfl) (Eq.trans (book_Room.goal left sizes hp) (by kernel_rfl))⟩
theorem book_Room.ok : SpecOK Go.Proofs.Tryd.prog (fun n => (trydGl n).av) 22 (Ctr.fs (book_Room.c, book_Room.sg)) :=
  meets (l := book_Room.env) all_nil book_Room.chk (by
      intro ins outs h
      unfold book_Room.c at h
      split at h
      · obtain ⟨hp, rfl⟩ := h; exact book_Room.fit _ _ hp
      · exact h.elim)
theorem book_Value.fit (n : Nat) (left : Int) (v_kind : Int) (v_bits : UInt64) (v_high : UInt64) (v_low : UInt64) (v_text : Str) (v_more : Str) (v_sub : Int) (v_bytes : List UInt8) (v_kids : List Fld) (hp : ((decide (left ≤ 1200)) && decide ((Fld.bulk (Fld.of [] (Val.mk v_kind v_bits v_high v_low v_text v_more v_sub v_bytes v_kids))) < n + 1)) = true) : ([.i .i64 left, .ag [.i .i64 v_kind, .u64 v_bits, .u64 v_high, .u64 v_low, .s v_text, .s v_more, .i .i64 v_sub, .sl .bs v_bytes, .sl .fl v_kids]] : List TV).length = book_Value.d.np ∧ book_Value.d.run (envL trydGl (book_Value.env n)) [.i .i64 left, .ag [.i .i64 v_kind, .u64 v_bits, .u64 v_high, .u64 v_low, .s v_text, .s v_more, .i .i64 v_sub, .sl .bs v_bytes, .sl .fl v_kids]] = some (([(.i .i64 (Book.value left (Fld.of [] (Val.mk v_kind v_bits v_high v_low v_text v_more v_sub v_bytes v_kids))))] : List TV) ++ book_Value.d.ps.toList.map fun q => ([.i .i64 left, .ag [.i .i64 v_kind, .u64 v_bits, .u64 v_high, .u64 v_low, .s v_text, .s v_more, .i .i64 v_sub, .sl .bs v_bytes, .sl .fl v_kids]] : List TV).getD q.1 .dead) :=
  ⟨by kernel_rfl, Eq.trans (b := book_Value.F n left (Val.mk v_kind v_bits v_high v_low v_text v_more v_sub v_bytes v_kids)) (by kernel_rfl) (Eq.trans (book_Value.goal n left (Val.mk v_kind v_bits v_high v_low v_text v_more v_sub v_bytes v_kids) hp) (by kernel_rfl))⟩
theorem bvalue.oks : ∀ n : Nat, (SpecOK Go.Proofs.Tryd.prog (fun n => (trydGl n).av) 18 (Ctr.fs (book_Value.cn n, book_Value.sg))) := by
  intro n
  induction n with
  | zero => exact spec_zero (by
      intro ti to_ h
      unfold book_Value.cn at h
      split at h
      · obtain ⟨h, _⟩ := h; simp at h
      · exact h.elim)
  | succ n ih =>
    have ih0 := ih
    exact meets (l := book_Value.env n) (all_cons ih0 (all_cons book_Room.ok all_nil)) (book_Value.chk n) (by
      intro ins outs h
      unfold book_Value.cn at h
      split at h
      · obtain ⟨hp, rfl⟩ := h; exact book_Value.fit n _ _ _ _ _ _ _ _ _ _ hp
      · exact h.elim)
theorem book_Value.ok : SpecOK Go.Proofs.Tryd.prog (fun n => (trydGl n).av) 18 (Ctr.fs (book_Value.c, book_Value.sg)) := spec_sub fun ti to_ h => by
  unfold book_Value.c at h
  split at h
  · obtain ⟨hp, rfl⟩ := h; exact ⟨book_Value.cn (_ + 1), (bvalue.oks _), Bool.and_eq_true_iff.2 ⟨hp, decide_eq_true (Nat.lt_succ_self _)⟩, rfl⟩
  · exact h.elim
theorem book_Small.fit (v_kind : Int) (v_bits : UInt64) (v_high : UInt64) (v_low : UInt64) (v_text : Str) (v_more : Str) (v_sub : Int) (v_bytes : List UInt8) (v_kids : List Fld) : ([.ag [.i .i64 v_kind, .u64 v_bits, .u64 v_high, .u64 v_low, .s v_text, .s v_more, .i .i64 v_sub, .sl .bs v_bytes, .sl .fl v_kids]] : List TV).length = book_Small.d.np ∧ book_Small.d.run (envL trydGl book_Small.env) [.ag [.i .i64 v_kind, .u64 v_bits, .u64 v_high, .u64 v_low, .s v_text, .s v_more, .i .i64 v_sub, .sl .bs v_bytes, .sl .fl v_kids]] = some (([(.b (decide (0 ≤ Book.value 1200 (Fld.of [] (Val.mk v_kind v_bits v_high v_low v_text v_more v_sub v_bytes v_kids)))))] : List TV) ++ book_Small.d.ps.toList.map fun q => ([.ag [.i .i64 v_kind, .u64 v_bits, .u64 v_high, .u64 v_low, .s v_text, .s v_more, .i .i64 v_sub, .sl .bs v_bytes, .sl .fl v_kids]] : List TV).getD q.1 .dead) :=
  ⟨by kernel_rfl, Eq.trans (b := book_Small.F (Val.mk v_kind v_bits v_high v_low v_text v_more v_sub v_bytes v_kids)) (by kernel_rfl) (Eq.trans (book_Small.goal (Val.mk v_kind v_bits v_high v_low v_text v_more v_sub v_bytes v_kids)) (by kernel_rfl))⟩
theorem book_Small.ok : SpecOK Go.Proofs.Tryd.prog (fun n => (trydGl n).av) 9 (Ctr.fs (book_Small.c, book_Small.sg)) :=
  meets (l := book_Small.env) (all_cons book_Value.ok all_nil) book_Small.chk (by
      intro ins outs h
      unfold book_Small.c at h
      split at h
      · cases h; exact book_Small.fit _ _ _ _ _ _ _ _ _
      · exact h.elim)
theorem law17_awake.fit : ([] : List TV).length = law17_awake.d.np ∧ law17_awake.d.run (envL trydGl law17_awake.env) [] = some (([(.b (true))] : List TV) ++ law17_awake.d.ps.toList.map fun q => ([] : List TV).getD q.1 .dead) :=
  ⟨by kernel_rfl, Eq.trans (b := law17_awake.F ) (by kernel_rfl) (Eq.trans (law17_awake.goal ) (by kernel_rfl))⟩
theorem law17_awake.ok : SpecOK Go.Proofs.Tryd.prog (fun n => (trydGl n).av) 5 (Ctr.fs (law17_awake.c, law17_awake.sg)) :=
  meets (l := law17_awake.env) (all_cons tree_Depth.ok (all_cons tree_Check.ok (all_cons ref1_SameInts.ok all_nil))) law17_awake.chk (by
      intro ins outs h
      unfold law17_awake.c at h
      split at h
      · cases h; exact law17_awake.fit
      · exact h.elim)
theorem ref5_Digits.fit (v : UInt64) : ([.u64 v] : List TV).length = ref5_Digits.d.np ∧ ref5_Digits.d.run (envL trydGl ref5_Digits.env) [.u64 v] = some (([(.s (digs (v).toNat))] : List TV) ++ ref5_Digits.d.ps.toList.map fun q => ([.u64 v] : List TV).getD q.1 .dead) :=
  ⟨by kernel_rfl, Eq.trans (b := ref5_Digits.F v) (by kernel_rfl) (Eq.trans (ref5_Digits.goal v) (by kernel_rfl))⟩
theorem ref5_Digits.ok : SpecOK Go.Proofs.Tryd.prog (fun n => (trydGl n).av) 6 (Ctr.fs (ref5_Digits.c, ref5_Digits.sg)) :=
  meets (l := ref5_Digits.env) all_nil ref5_Digits.chk (by
      intro ins outs h
      unfold ref5_Digits.c at h
      split at h
      · cases h; exact ref5_Digits.fit _
      · exact h.elim)
theorem ref17_Kids.fit (k : Int) : ([.i .i64 k] : List TV).length = ref17_Kids.d.np ∧ ref17_Kids.d.run (envL trydGl ref17_Kids.env) [.i .i64 k] = some (([(.b (decide (k = 3 ∨ k = 4 ∨ k = 15)))] : List TV) ++ ref17_Kids.d.ps.toList.map fun q => ([.i .i64 k] : List TV).getD q.1 .dead) :=
  ⟨by kernel_rfl, Eq.trans (b := ref17_Kids.F k) (by kernel_rfl) (Eq.trans (ref17_Kids.goal k) (by kernel_rfl))⟩
theorem ref17_Kids.ok : SpecOK Go.Proofs.Tryd.prog (fun n => (trydGl n).av) 19 (Ctr.fs (ref17_Kids.c, ref17_Kids.sg)) :=
  meets (l := ref17_Kids.env) all_nil ref17_Kids.chk (by
      intro ins outs h
      unfold ref17_Kids.c at h
      split at h
      · cases h; exact ref17_Kids.fit _
      · exact h.elim)
theorem tree_Count.fit (n : Nat) (v_kind : Int) (v_bits : UInt64) (v_high : UInt64) (v_low : UInt64) (v_text : Str) (v_more : Str) (v_sub : Int) (v_bytes : List UInt8) (v_kids : List Fld) (hp : ((decide (Fld.bulk (Fld.of [] (Val.mk v_kind v_bits v_high v_low v_text v_more v_sub v_bytes v_kids)) ≤ 1099511627776)) && decide ((Fld.bulk (Fld.of [] (Val.mk v_kind v_bits v_high v_low v_text v_more v_sub v_bytes v_kids))) < n + 1)) = true) : ([.ag [.i .i64 v_kind, .u64 v_bits, .u64 v_high, .u64 v_low, .s v_text, .s v_more, .i .i64 v_sub, .sl .bs v_bytes, .sl .fl v_kids]] : List TV).length = tree_Count.d.np ∧ tree_Count.d.run (envL trydGl (tree_Count.env n)) [.ag [.i .i64 v_kind, .u64 v_bits, .u64 v_high, .u64 v_low, .s v_text, .s v_more, .i .i64 v_sub, .sl .bs v_bytes, .sl .fl v_kids]] = some (([(.i .i64 ((Tree.count (Fld.of [] (Val.mk v_kind v_bits v_high v_low v_text v_more v_sub v_bytes v_kids)) : Int)))] : List TV) ++ tree_Count.d.ps.toList.map fun q => ([.ag [.i .i64 v_kind, .u64 v_bits, .u64 v_high, .u64 v_low, .s v_text, .s v_more, .i .i64 v_sub, .sl .bs v_bytes, .sl .fl v_kids]] : List TV).getD q.1 .dead) :=
  ⟨by kernel_rfl, Eq.trans (b := tree_Count.F n (Val.mk v_kind v_bits v_high v_low v_text v_more v_sub v_bytes v_kids)) (by kernel_rfl) (Eq.trans (tree_Count.goal n (Val.mk v_kind v_bits v_high v_low v_text v_more v_sub v_bytes v_kids) hp) (by kernel_rfl))⟩
theorem tcount.oks : ∀ n : Nat, (SpecOK Go.Proofs.Tryd.prog (fun n => (trydGl n).av) 10 (Ctr.fs (tree_Count.cn n, tree_Count.sg))) := by
  intro n
  induction n with
  | zero => exact spec_zero (by
      intro ti to_ h
      unfold tree_Count.cn at h
      split at h
      · obtain ⟨h, _⟩ := h; simp at h
      · exact h.elim)
  | succ n ih =>
    have ih0 := ih
    exact meets (l := tree_Count.env n) (all_cons ih0 all_nil) (tree_Count.chk n) (by
      intro ins outs h
      unfold tree_Count.cn at h
      split at h
      · obtain ⟨hp, rfl⟩ := h; exact tree_Count.fit n _ _ _ _ _ _ _ _ _ hp
      · exact h.elim)
theorem tree_Count.ok : SpecOK Go.Proofs.Tryd.prog (fun n => (trydGl n).av) 10 (Ctr.fs (tree_Count.c, tree_Count.sg)) := spec_sub fun ti to_ h => by
  unfold tree_Count.c at h
  split at h
  · obtain ⟨hp, rfl⟩ := h; exact ⟨tree_Count.cn (_ + 1), (tcount.oks _), Bool.and_eq_true_iff.2 ⟨hp, decide_eq_true (Nat.lt_succ_self _)⟩, rfl⟩
  · exact h.elim
theorem ref17_Count.fit (n : Nat) (v_kind : Int) (v_bits : UInt64) (v_high : UInt64) (v_low : UInt64) (v_text : Str) (v_more : Str) (v_sub : Int) (v_bytes : List UInt8) (v_kids : List Fld) (hp : ((decide (Fld.bulk (Fld.of [] (Val.mk v_kind v_bits v_high v_low v_text v_more v_sub v_bytes v_kids)) ≤ 1099511627776)) && decide ((Fld.bulk (Fld.of [] (Val.mk v_kind v_bits v_high v_low v_text v_more v_sub v_bytes v_kids))) < n + 1)) = true) : ([.ag [.i .i64 v_kind, .u64 v_bits, .u64 v_high, .u64 v_low, .s v_text, .s v_more, .i .i64 v_sub, .sl .bs v_bytes, .sl .fl v_kids]] : List TV).length = ref17_Count.d.np ∧ ref17_Count.d.run (envL trydGl (ref17_Count.env n)) [.ag [.i .i64 v_kind, .u64 v_bits, .u64 v_high, .u64 v_low, .s v_text, .s v_more, .i .i64 v_sub, .sl .bs v_bytes, .sl .fl v_kids]] = some (([(.i .i64 ((Tree.count (Fld.of [] (Val.mk v_kind v_bits v_high v_low v_text v_more v_sub v_bytes v_kids)) : Int)))] : List TV) ++ ref17_Count.d.ps.toList.map fun q => ([.ag [.i .i64 v_kind, .u64 v_bits, .u64 v_high, .u64 v_low, .s v_text, .s v_more, .i .i64 v_sub, .sl .bs v_bytes, .sl .fl v_kids]] : List TV).getD q.1 .dead) :=
  ⟨by kernel_rfl, Eq.trans (b := ref17_Count.F n (Val.mk v_kind v_bits v_high v_low v_text v_more v_sub v_bytes v_kids)) (by kernel_rfl) (Eq.trans (ref17_Count.goal n (Val.mk v_kind v_bits v_high v_low v_text v_more v_sub v_bytes v_kids) hp) (by kernel_rfl))⟩
theorem rcount.oks : ∀ n : Nat, (SpecOK Go.Proofs.Tryd.prog (fun n => (trydGl n).av) 11 (Ctr.fs (ref17_Count.cn n, ref17_Count.sg))) := by
  intro n
  induction n with
  | zero => exact spec_zero (by
      intro ti to_ h
      unfold ref17_Count.cn at h
      split at h
      · obtain ⟨h, _⟩ := h; simp at h
      · exact h.elim)
  | succ n ih =>
    have ih0 := ih
    exact meets (l := ref17_Count.env n) (all_cons ih0 all_nil) (ref17_Count.chk n) (by
      intro ins outs h
      unfold ref17_Count.cn at h
      split at h
      · obtain ⟨hp, rfl⟩ := h; exact ref17_Count.fit n _ _ _ _ _ _ _ _ _ hp
      · exact h.elim)
theorem ref17_Count.ok : SpecOK Go.Proofs.Tryd.prog (fun n => (trydGl n).av) 11 (Ctr.fs (ref17_Count.c, ref17_Count.sg)) := spec_sub fun ti to_ h => by
  unfold ref17_Count.c at h
  split at h
  · obtain ⟨hp, rfl⟩ := h; exact ⟨ref17_Count.cn (_ + 1), (rcount.oks _), Bool.and_eq_true_iff.2 ⟨hp, decide_eq_true (Nat.lt_succ_self _)⟩, rfl⟩
  · exact h.elim
theorem ref17_Depth.fit (n : Nat) (v_kind : Int) (v_bits : UInt64) (v_high : UInt64) (v_low : UInt64) (v_text : Str) (v_more : Str) (v_sub : Int) (v_bytes : List UInt8) (v_kids : List Fld) (hp : ((decide (Fld.bulk (Fld.of [] (Val.mk v_kind v_bits v_high v_low v_text v_more v_sub v_bytes v_kids)) ≤ 1099511627776)) && decide ((Fld.bulk (Fld.of [] (Val.mk v_kind v_bits v_high v_low v_text v_more v_sub v_bytes v_kids))) < n + 1)) = true) : ([.ag [.i .i64 v_kind, .u64 v_bits, .u64 v_high, .u64 v_low, .s v_text, .s v_more, .i .i64 v_sub, .sl .bs v_bytes, .sl .fl v_kids]] : List TV).length = ref17_Depth.d.np ∧ ref17_Depth.d.run (envL trydGl (ref17_Depth.env n)) [.ag [.i .i64 v_kind, .u64 v_bits, .u64 v_high, .u64 v_low, .s v_text, .s v_more, .i .i64 v_sub, .sl .bs v_bytes, .sl .fl v_kids]] = some (([(.i .i64 ((Tree.depth (Fld.of [] (Val.mk v_kind v_bits v_high v_low v_text v_more v_sub v_bytes v_kids)) : Int)))] : List TV) ++ ref17_Depth.d.ps.toList.map fun q => ([.ag [.i .i64 v_kind, .u64 v_bits, .u64 v_high, .u64 v_low, .s v_text, .s v_more, .i .i64 v_sub, .sl .bs v_bytes, .sl .fl v_kids]] : List TV).getD q.1 .dead) :=
  ⟨by kernel_rfl, Eq.trans (b := ref17_Depth.F n (Val.mk v_kind v_bits v_high v_low v_text v_more v_sub v_bytes v_kids)) (by kernel_rfl) (Eq.trans (ref17_Depth.goal n (Val.mk v_kind v_bits v_high v_low v_text v_more v_sub v_bytes v_kids) hp) (by kernel_rfl))⟩
theorem rdepth.oks : ∀ n : Nat, (SpecOK Go.Proofs.Tryd.prog (fun n => (trydGl n).av) 13 (Ctr.fs (ref17_Depth.cn n, ref17_Depth.sg))) := by
  intro n
  induction n with
  | zero => exact spec_zero (by
      intro ti to_ h
      unfold ref17_Depth.cn at h
      split at h
      · obtain ⟨h, _⟩ := h; simp at h
      · exact h.elim)
  | succ n ih =>
    have ih0 := ih
    exact meets (l := ref17_Depth.env n) (all_cons ih0 (all_cons ref17_Kids.ok all_nil)) (ref17_Depth.chk n) (by
      intro ins outs h
      unfold ref17_Depth.cn at h
      split at h
      · obtain ⟨hp, rfl⟩ := h; exact ref17_Depth.fit n _ _ _ _ _ _ _ _ _ hp
      · exact h.elim)
theorem ref17_Depth.ok : SpecOK Go.Proofs.Tryd.prog (fun n => (trydGl n).av) 13 (Ctr.fs (ref17_Depth.c, ref17_Depth.sg)) := spec_sub fun ti to_ h => by
  unfold ref17_Depth.c at h
  split at h
  · obtain ⟨hp, rfl⟩ := h; exact ⟨ref17_Depth.cn (_ + 1), (rdepth.oks _), Bool.and_eq_true_iff.2 ⟨hp, decide_eq_true (Nat.lt_succ_self _)⟩, rfl⟩
  · exact h.elim
theorem tree_Regular.fit (l : List Fld) (hp : (decide (l.length ≤ 1099511627776)) = true) : ([.sl .fl l] : List TV).length = tree_Regular.d.np ∧ tree_Regular.d.run (envL trydGl tree_Regular.env) [.sl .fl l] = some (([(.b (Tree.regular l))] : List TV) ++ tree_Regular.d.ps.toList.map fun q => ([.sl .fl l] : List TV).getD q.1 .dead) :=
  ⟨by kernel_rfl, Eq.trans (b := tree_Regular.F l) (by kernel_rfl) (Eq.trans (tree_Regular.goal l hp) (by kernel_rfl))⟩
theorem tree_Regular.ok : SpecOK Go.Proofs.Tryd.prog (fun n => (trydGl n).av) 8 (Ctr.fs (tree_Regular.c, tree_Regular.sg)) :=
  meets (l := tree_Regular.env) (all_cons sc_Itoa.ok all_nil) tree_Regular.chk (by
      intro ins outs h
      unfold tree_Regular.c at h
      split at h
      · obtain ⟨hp, rfl⟩ := h; exact tree_Regular.fit _ hp
      · exact h.elim)
theorem ref17_Regular.fit (l : List Fld) (hp : (decide (l.length ≤ 1099511627776)) = true) : ([.sl .fl l] : List TV).length = ref17_Regular.d.np ∧ ref17_Regular.d.run (envL trydGl ref17_Regular.env) [.sl .fl l] = some (([(.b (Tree.regular l))] : List TV) ++ ref17_Regular.d.ps.toList.map fun q => ([.sl .fl l] : List TV).getD q.1 .dead) :=
  ⟨by kernel_rfl, Eq.trans (b := ref17_Regular.F l) (by kernel_rfl) (Eq.trans (ref17_Regular.goal l hp) (by kernel_rfl))⟩
theorem ref17_Regular.ok : SpecOK Go.Proofs.Tryd.prog (fun n => (trydGl n).av) 14 (Ctr.fs (ref17_Regular.c, ref17_Regular.sg)) :=
  meets (l := ref17_Regular.env) (all_cons ref5_Digits.ok all_nil) ref17_Regular.chk (by
      intro ins outs h
      unfold ref17_Regular.c at h
      split at h
      · obtain ⟨hp, rfl⟩ := h; exact ref17_Regular.fit _ hp
      · exact h.elim)
end Go.Eng
namespace Go.Eng
noncomputable section
def TreeCounts.sg : FSig := {}
def TreeCounts.c : Ctr := fun l => match l with
  | [.ag [.i .i64 v_kind, .u64 v_bits, .u64 v_high, .u64 v_low, .s v_text, .s v_more, .i .i64 v_sub, .sl .bs v_bytes, .sl .fl v_kids]] => .ok [(.b (true))]
  | _ => .err
end
noncomputable section
def TreeCounts.env : List (Nat × (Ctr × FSig)) := [(5, (law17_awake.c, law17_awake.sg)), (8, (tree_Regular.c, tree_Regular.sg)), (9, (book_Small.c, book_Small.sg)), (10, (tree_Count.c, tree_Count.sg)), (11, (ref17_Count.c, ref17_Count.sg)), (12, (tree_Depth.c, tree_Depth.sg)), (13, (ref17_Depth.c, ref17_Depth.sg)), (14, (ref17_Regular.c, ref17_Regular.sg))]
def TreeCounts.E : TEnv := envL trydGl TreeCounts.env
def TreeCounts.m : TM := .seq (.reg [
    ⟨.k (.bx 1029), [.s 0, .s 1029], [1, 1029], none⟩,
    ⟨.k .mv, [.c (.b false)], [2], none⟩]) none (.seq (.seq (.reg [
    ⟨.k (.call 5 (.plain 0 1)), [], [3], none⟩,
    ⟨.k (.un .not), [.s 3], [4], none⟩]) none (.cond (.s 4) [] (.seq (.reg [
    ⟨.k .mv, [.c (.b false)], [2], none⟩]) none .ret) .skip)) none (.seq (.seq (.reg [
    ⟨.k (.ld 1029 0 9 true), [.s 1, .s 1029], [5], none⟩,
    ⟨.k (.call 9 (.plain 1 1)), [.s 5], [6], none⟩,
    ⟨.k (.un .not), [.s 6], [7], none⟩]) none (.cond (.s 7) [] (.seq (.reg [
    ⟨.k .mv, [.c (.b true)], [2], none⟩]) none .ret) .skip)) none (.seq (.reg [
    ⟨.k (.ld 1029 0 9 true), [.s 1, .s 1029], [8], none⟩,
    ⟨.k (.call 10 (.plain 1 1)), [.s 8], [9], none⟩,
    ⟨.k (.ld 1029 0 9 true), [.s 1, .s 1029], [10], none⟩,
    ⟨.k (.call 11 (.plain 1 1)), [.s 10], [11], none⟩,
    ⟨.k (.bin .eql), [.s 9, .s 11], [12], none⟩,
    ⟨.k .mv, [.s 12], [13], none⟩,
    ⟨.k (.ld 1029 0 9 true), [.s 1, .s 1029], [14], some (13, true)⟩,
    ⟨.k (.call 12 (.plain 1 1)), [.s 14], [15], some (13, true)⟩,
    ⟨.k (.ld 1029 0 9 true), [.s 1, .s 1029], [16], some (13, true)⟩,
    ⟨.k (.call 13 (.plain 1 1)), [.s 16], [17], some (13, true)⟩,
    ⟨.k (.bin .eql), [.s 15, .s 17], [18], some (13, true)⟩,
    ⟨.k .pick, [.s 13, .s 18, .c (.b false)], [19], none⟩,
    ⟨.k .mv, [.s 19], [20], none⟩,
    ⟨.k (.fa 1029 0 8), [.s 1], [21], some (20, true)⟩,
    ⟨.k (.ld 1029 8 1 false), [.s 21, .s 1029], [22], some (20, true)⟩,
    ⟨.k (.call 8 (.plain 1 1)), [.s 22], [23], some (20, true)⟩,
    ⟨.k (.fa 1029 0 8), [.s 1], [24], some (20, true)⟩,
    ⟨.k (.ld 1029 8 1 false), [.s 24, .s 1029], [25], some (20, true)⟩,
    ⟨.k (.call 14 (.plain 1 1)), [.s 25], [26], some (20, true)⟩,
    ⟨.k (.be false), [.s 23, .s 26], [27], some (20, true)⟩,
    ⟨.k .pick, [.s 20, .s 27, .c (.b false)], [28], none⟩,
    ⟨.k .mv, [.s 28], [2], none⟩]) none .ret)))
def TreeCounts.d : TFD := { np := 1, m := TreeCounts.m, ref := none, tips := [], res := [.t 2], own := [], new := none, tnew := [] }
noncomputable def TreeCounts.F (v : Val) : Option (List TV) := TreeCounts.d.run TreeCounts.E [(.ag (Val.cells v))]
theorem TreeCounts.F_in (v : Val) {ρ : Option (List TV)} (K : ∀ (v1 : Int) (h1 : v1 = ((Tree.count (Fld.of [] v) : Int))) (v2 : Int) (h2 : v2 = ((Tree.depth (Fld.of [] v) : Int))) (v3 : Bool) (h3 : v3 = (cond (decide (v1 = v1)) (decide (v2 = v2)) false)) (v4 : Bool) (h4 : v4 = (Tree.regular ((Val.kids v)))), cond (!(true))
    (some [(.b false)])
    (cond (!(decide (0 ≤ Book.value 1200 (Fld.of [] v))))
    (some [(.b true)])
    (ck (decide (Fld.bulk (Fld.of [] v) ≤ 1099511627776)) (ck (decide (Fld.bulk (Fld.of [] v) ≤ 1099511627776)) (ck (!(decide (v1 = v1)) || ((decide (v1 = v1)) && (decide (Fld.bulk (Fld.of [] v) ≤ 1099511627776)))) (ck (!(decide (v1 = v1)) || ((decide (v1 = v1)) && (decide (Fld.bulk (Fld.of [] v) ≤ 1099511627776)))) (ck (!(decide (v1 = v1)) || ((decide (v1 = v1)) && (decide (v1 = v1)))) (ck (!(decide (v1 = v1)) || (decide (v1 = v1))) (ck (!v3 || v3) (ck (!v3 || (v3 && (decide (((Val.kids v)).length ≤ 1099511627776)))) (ck (!v3 || v3) (ck (!v3 || (v3 && (decide (((Val.kids v)).length ≤ 1099511627776)))) (ck (!v3 || (v3 && v3)) (ck (!v3 || v3) (some [(.b (cond v3 (v4 == v4) false))])))))))))))))) = ρ) : TreeCounts.F v = ρ := Eq.trans (by kernel_rfl) (K _ rfl _ rfl _ rfl _ rfl)
theorem TreeCounts.chk : ((Go.Proofs.Tryd.prog.funcs[4]?).any fun fn => chkF Go.Proofs.Tryd.prog (fun k => ((envL trydGl TreeCounts.env).fs k).2) fn TreeCounts.d.erase) = true := by kernel_rfl
end
end Go.Eng
namespace Go.Eng
open Go.IntWalk
theorem TreeCounts.goal (v : Val) : TreeCounts.F v = some [.b true] := by
  refine TreeCounts.F_in v ?_
  intro v1 h1 v2 h2 v3 h3 v4 h4
  rw [Bool.not_true, cond_false]
  by_cases a : 0 ≤ Book.value 1200 (Fld.of [] v)
  · have hb := Book.small_bulk v a
    have hl := Fld.bulks_len v.kids
    have hk : Fld.bulks v.kids < Fld.bulk (Fld.of [] v) := by simp only [Fld.of, Fld.bulk]; omega
    rw [decide_eq_true a, Bool.not_true, cond_false]
    have b1 : decide (Fld.bulk (Fld.of [] v) ≤ 1099511627776) = true := decide_eq_true (by omega)
    have b2 : decide (v.kids.length ≤ 1099511627776) = true := decide_eq_true (by omega)
    have h3' : v3 = true := by rw [h3]; simp
    simp only [b1, b2, h3', Bool.and_true, Bool.not_or_self, Bool.and_self, ck_true, cond_true, decide_true, Bool.not_true, Bool.false_or]
    simp
  · rw [decide_eq_false a]; rfl
end Go.Eng
namespace Go.Eng
theorem TreeCounts.fit (v_kind : Int) (v_bits : UInt64) (v_high : UInt64) (v_low : UInt64) (v_text : Str) (v_more : Str) (v_sub : Int) (v_bytes : List UInt8) (v_kids : List Fld) : ([.ag [.i .i64 v_kind, .u64 v_bits, .u64 v_high, .u64 v_low, .s v_text, .s v_more, .i .i64 v_sub, .sl .bs v_bytes, .sl .fl v_kids]] : List TV).length = TreeCounts.d.np ∧ TreeCounts.d.run (envL trydGl TreeCounts.env) [.ag [.i .i64 v_kind, .u64 v_bits, .u64 v_high, .u64 v_low, .s v_text, .s v_more, .i .i64 v_sub, .sl .bs v_bytes, .sl .fl v_kids]] = some (([(.b (true))] : List TV) ++ TreeCounts.d.ps.toList.map fun q => ([.ag [.i .i64 v_kind, .u64 v_bits, .u64 v_high, .u64 v_low, .s v_text, .s v_more, .i .i64 v_sub, .sl .bs v_bytes, .sl .fl v_kids]] : List TV).getD q.1 .dead) :=
  ⟨by kernel_rfl, Eq.trans (b := TreeCounts.F (Val.mk v_kind v_bits v_high v_low v_text v_more v_sub v_bytes v_kids)) (by kernel_rfl) (Eq.trans (TreeCounts.goal (Val.mk v_kind v_bits v_high v_low v_text v_more v_sub v_bytes v_kids)) (by kernel_rfl))⟩
theorem TreeCounts.ok : SpecOK Go.Proofs.Tryd.prog (fun n => (trydGl n).av) 4 (Ctr.fs (TreeCounts.c, TreeCounts.sg)) :=
  meets (l := TreeCounts.env) (all_cons law17_awake.ok (all_cons tree_Regular.ok (all_cons book_Small.ok (all_cons tree_Count.ok (all_cons ref17_Count.ok (all_cons tree_Depth.ok (all_cons ref17_Depth.ok (all_cons ref17_Regular.ok all_nil)))))))) TreeCounts.chk (by
      intro ins outs h
      unfold TreeCounts.c at h
      split at h
      · cases h; exact TreeCounts.fit _ _ _ _ _ _ _ _ _
      · exact h.elim)
end Go.Eng
