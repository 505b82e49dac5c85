/- Texts of my own, one behind the other: MpGp0, MpG, MpP1, MpUtfP, MpP2, MpP3, MpP4, MpP5, MpP6, MpP7, MpP8, MpP9, MpP10, MpP11, MpP12, MpP13, MpP14. -/
import Derived.Test.YtheedbianknplaaT3
import Derived.Test.YtheedbianknplaaProg
set_option linter.unusedVariables false
set_option linter.unusedSimpArgs false
namespace Go.Eng
noncomputable section
def utf_is.sg : FSig := {}
def utf_is.c : Ctr := fun l => match l with
  | [.i .i64 r] => .ok [(.b (Utf.isRune r))]
  | _ => .err
def utf_Rune.sg : FSig := { nres := 2 }
def utf_Rune.c : Ctr := fun l => match l with
  | [.sl .bs b, .i .i64 at_] => .if_ (decide (b.length ≤ 1099511627776)) [(.i .i64 ((Utf.runeAt b at_).1)), (.i .i64 ((Utf.runeAt b at_).2))]
  | _ => .err
def utf_look.sg : FSig := { nres := 2 }
def utf_look.c : Ctr := fun l => match l with
  | [.sl .bs b] => .if_ (decide (b.length ≤ 1099511627776)) [(.i .i64 (((Utf.look b).1 : Int))), (.i .i64 (((Utf.look b).2 : Int)))]
  | _ => .err
def utf_Check.sg : FSig := { nres := 2 }
def utf_Check.c : Ctr := fun l => match l with
  | [.sl .bs b] => .if_ (decide (b.length ≤ 1099511627776)) [(.i .i64 (((Utf.look b).1 : Int))), (.b (Utf.whole b))]
  | _ => .err
def clone_bs.sg : FSig := { own := [(0, 1)] }
def clone_bs.c : Ctr := cloneC .bs 1
def rd_At.sg : FSig := {}
def rd_At.c : Ctr := fun l => match l with
  | [.ro (.ag [.sl .bs r_b, .i .i64 r_at])] => .ok [(.i .i64 ((((Rdr.mk r_b r_at)).at_)))]
  | _ => .err
def rd_Left.sg : FSig := {}
def rd_Left.c : Ctr := fun l => match l with
  | [.ro (.ag [.sl .bs r_b, .i .i64 r_at])] => .if_ (Cur.good (Rdr.mk r_b r_at)) [(.i .i64 (Cur.left (Rdr.mk r_b r_at)))]
  | _ => .err
def rd_Byte.sg : FSig := { ref := some 0, nres := 2 }
def rd_Byte.c : Ctr := fun l => match l with
  | [.ag [.sl .bs r_b, .i .i64 r_at]] => .if_ (Cur.good (Rdr.mk r_b r_at)) [(.i .i64 (Cur.byte (Rdr.mk r_b r_at))), (.b (Cur.more (Rdr.mk r_b r_at))), (.ag (Rdr.cells (Cur.adv (Rdr.mk r_b r_at) 1 (Cur.more (Rdr.mk r_b r_at)))))]
  | _ => .err
def rd_next.sg : FSig := { ref := some 0, nres := 2 }
def rd_next.c : Ctr := fun l => match l with
  | [.ag [.sl .bs r_b, .i .i64 r_at], .i .i64 n] => .if_ (Cur.good (Rdr.mk r_b r_at)) [(.sl .bs (Cur.nx (Rdr.mk r_b r_at) n (Cur.ok8 (Rdr.mk r_b r_at) n))), (.b (Cur.ok8 (Rdr.mk r_b r_at) n)), (.ag (Rdr.cells (Cur.adv (Rdr.mk r_b r_at) n (Cur.ok8 (Rdr.mk r_b r_at) n))))]
  | _ => .err
def rd_Take.sg : FSig := { ref := some 0, nres := 2 }
def rd_Take.c : Ctr := fun l => match l with
  | [.ag [.sl .bs r_b, .i .i64 r_at], .i .i64 n] => .if_ (Cur.good (Rdr.mk r_b r_at)) [(.sl .bs (Cur.nx (Rdr.mk r_b r_at) n (Cur.okT (Rdr.mk r_b r_at) n))), (.b (Cur.okT (Rdr.mk r_b r_at) n)), (.ag (Rdr.cells (Cur.adv (Rdr.mk r_b r_at) n (Cur.okT (Rdr.mk r_b r_at) n))))]
  | _ => .err
def rd_High.sg : FSig := { ref := some 0, nres := 2 }
def rd_High.c : Ctr := fun l => match l with
  | [.ag [.sl .bs r_b, .i .i64 r_at], .i .i64 n] => .if_ (Cur.good (Rdr.mk r_b r_at)) [(.u64 (Cur.be (Cur.nx (Rdr.mk r_b r_at) n (Cur.ok8 (Rdr.mk r_b r_at) n)))), (.b (Cur.ok8 (Rdr.mk r_b r_at) n)), (.ag (Rdr.cells (Cur.adv (Rdr.mk r_b r_at) n (Cur.ok8 (Rdr.mk r_b r_at) n))))]
  | _ => .err
def cur_New.sg : FSig := { new := some 0 }
def cur_New.c : Ctr := fun l => match l with
  | [.sl .bs b] => .if_ (decide ((b).length ≤ 1099511627776)) [.pt, (.ag (Rdr.cells ((Rdr.mk b 0))))]
  | _ => .err
def cur_number.sg : FSig := {}
def cur_number.c : Ctr := fun l => match l with
  | [.i .i64 n] => .ok [(.b (decide (1 ≤ n ∧ n ≤ 8)))]
  | _ => .err
def cur_Lay.sg : FSig := { new := some 0, tnew := [(0, 1)] }
def cur_Lay.c : Ctr := fun l => match l with
  | [] => .ok [.pt, (.ag (Wtr.cells ((Wtr.mk []))))]
  | _ => .err
def wr_Byte.sg : FSig := { ref := some 0, tips := [(0, 1)], nres := 0 }
def wr_Byte.c : Ctr := fun l => match l with
  | [.ag [.sl .bs w_b], .i .i64 v] => .if_ (decide (((Wtr.mk w_b)).b.length ≤ 1099511627776)) [(.ag (Wtr.cells ((Wtr.mk (((Wtr.mk w_b)).b ++ [UInt8.ofInt v])))))]
  | _ => .err
def wr_Raw.sg : FSig := { ref := some 0, tips := [(0, 1)], nres := 0 }
def wr_Raw.c : Ctr := fun l => match l with
  | [.ag [.sl .bs w_b], .sl .bs b] => .if_ (decide (((Wtr.mk w_b)).b.length + (b).length ≤ 1099511627776)) [(.ag (Wtr.cells ((Wtr.mk (((Wtr.mk w_b)).b ++ b)))))]
  | _ => .err
def wr_High.sg : FSig := { ref := some 0, tips := [(0, 1)], nres := 0 }
def wr_High.c : Ctr := fun l => match l with
  | [.ag [.sl .bs w_b], .u64 v, .i .i64 n] => .if_ (decide (((Wtr.mk w_b)).b.length ≤ 1099511627776)) [(.ag (Wtr.cells ((Wtr.mk (((Wtr.mk w_b)).b ++ Cur.high v n)))))]
  | _ => .err
def wr_Bytes.sg : FSig := { ref := some 0, tips := [(0, 1)] }
def wr_Bytes.c : Ctr := fun l => match l with
  | [.ag [.sl .bs w_b]] => .if_ (decide (((Wtr.mk w_b)).b.length ≤ 1099511627776)) [(.sl .bs ((((Wtr.mk w_b)).b))), (.ag (Wtr.cells ((Wtr.mk w_b))))]
  | _ => .err
def mp_few.sg : FSig := {}
def mp_few.c : Ctr := fun l => match l with
  | [.i .i64 n] => .if_ (decide (0 ≤ n ∧ n ≤ 1099511627776)) [(.b (decide (n < 4294967296)))]
  | _ => .err
def mp_fields.sg : FSig := {}
def mp_fields.c : Ctr := fun l => match l with
  | [.ag [.i .i64 it_kind, .u64 it_n, .sl .bs it_bytes, .s it_text, .sl .il it_kids]] => .if_ (decide (Itm.bulk (Itm.of (Itv.mk it_kind it_n it_bytes it_text it_kids)) ≤ 1099511627776)) [(.b (Mp.fieldsOK (Itm.of (Itv.mk it_kind it_n it_bytes it_text it_kids))))]
  | _ => .err
def mp_Check.sg : FSig := {}
def mp_Check.c : Ctr := fun l => match l with
  | [.ag [.i .i64 it_kind, .u64 it_n, .sl .bs it_bytes, .s it_text, .sl .il it_kids]] => .if_ (decide (Itm.bulk (Itm.of (Itv.mk it_kind it_n it_bytes it_text it_kids)) ≤ 1099511627776)) [(.i .i64 (Mp.chk (Itm.of (Itv.mk it_kind it_n it_bytes it_text it_kids))))]
  | _ => .err
def mp_Check.cn (n : Nat) : Ctr := fun l => match l with
  | [.ag [.i .i64 it_kind, .u64 it_n, .sl .bs it_bytes, .s it_text, .sl .il it_kids]] => .if_ ((decide (Itm.bulk (Itm.of (Itv.mk it_kind it_n it_bytes it_text it_kids)) ≤ 1099511627776)) && decide ((Itm.bulk (Itm.of (Itv.mk it_kind it_n it_bytes it_text it_kids))) < n)) [(.i .i64 (Mp.chk (Itm.of (Itv.mk it_kind it_n it_bytes it_text it_kids))))]
  | _ => .err
def mp_wrong.sg : FSig := { nres := 2 }
def mp_wrong.c : Ctr := fun l => match l with
  | [.i .i64 e, .i .i64 at_] => .ok [(.ag (Itv.cells (Itm.val (Mp.zero)))), (.ag (Flt.cells ((Flt.mk e at_ []))))]
  | _ => .err
def mp_unsigned.sg : FSig := {}
def mp_unsigned.c : Ctr := fun l => match l with
  | [.u64 n] => .ok [(.ag [(.i .i64 (Mp.unsigned n).1), (.i .i64 (Mp.unsigned n).2)])]
  | _ => .err
def mp_signed.sg : FSig := {}
def mp_signed.c : Ctr := fun l => match l with
  | [.u64 n] => .ok [(.ag [(.i .i64 (Mp.signed n).1), (.i .i64 (Mp.signed n).2)])]
  | _ => .err
def mp_sized.sg : FSig := {}
def mp_sized.c : Ctr := fun l => match l with
  | [.i .i64 k, .i .i64 n] => .if_ (Mp.sizeds k && decide (0 ≤ n ∧ n < 4294967296)) [(.ag [(.i .i64 (Mp.sized k n).1), (.i .i64 (Mp.sized k n).2)])]
  | _ => .err
def mp_put.sg : FSig := { ref := some 0, tips := [(0, 1)], nres := 0 }
def mp_put.c : Ctr := fun l => match l with
  | [.ag [.sl .bs w_b], .ag [.i .i64 f_at, .i .i64 f_end], .u64 n] => .if_ (decide (((Wtr.mk w_b)).b.length + 10 ≤ 1099511627776)) [(.ag (Wtr.cells ((Wtr.mk (((Wtr.mk w_b)).b ++ Mp.put (((Spn.mk f_at f_end)).at_, ((Spn.mk f_at f_end)).end_) n)))))]
  | _ => .err
def mp_lay.sg : FSig := { ref := some 0, tips := [(0, 1)], nres := 0 }
def mp_lay.c : Ctr := fun l => match l with
  | [.ag [.sl .bs w_b], .ag [.i .i64 it_kind, .u64 it_n, .sl .bs it_bytes, .s it_text, .sl .il it_kids]] => .if_ (decide (((Wtr.mk w_b)).b.length + 16 * Itm.bulk (Itm.of (Itv.mk it_kind it_n it_bytes it_text it_kids)) ≤ 1099511627776) && decide (Mp.chk (Itm.of (Itv.mk it_kind it_n it_bytes it_text it_kids)) = 0)) [(.ag (Wtr.cells ((Wtr.mk (((Wtr.mk w_b)).b ++ Mp.lay (Itm.of (Itv.mk it_kind it_n it_bytes it_text it_kids)))))))]
  | _ => .err
def mp_lay.cn (n : Nat) : Ctr := fun l => match l with
  | [.ag [.sl .bs w_b], .ag [.i .i64 it_kind, .u64 it_n, .sl .bs it_bytes, .s it_text, .sl .il it_kids]] => .if_ ((decide (((Wtr.mk w_b)).b.length + 16 * Itm.bulk (Itm.of (Itv.mk it_kind it_n it_bytes it_text it_kids)) ≤ 1099511627776) && decide (Mp.chk (Itm.of (Itv.mk it_kind it_n it_bytes it_text it_kids)) = 0)) && decide ((Itm.bulk (Itm.of (Itv.mk it_kind it_n it_bytes it_text it_kids))) < n)) [(.ag (Wtr.cells ((Wtr.mk (((Wtr.mk w_b)).b ++ Mp.lay (Itm.of (Itv.mk it_kind it_n it_bytes it_text it_kids)))))))]
  | _ => .err
def mp_Encode.sg : FSig := { nres := 2 }
def mp_Encode.c : Ctr := fun l => match l with
  | [.ag [.i .i64 it_kind, .u64 it_n, .sl .bs it_bytes, .s it_text, .sl .il it_kids]] => .if_ (decide (Itm.bulk (Itm.of (Itv.mk it_kind it_n it_bytes it_text it_kids)) ≤ 1073741824)) [(.sl .bs (Mp.enc (Itm.of (Itv.mk it_kind it_n it_bytes it_text it_kids)))), (.i .i64 (Mp.chk (Itm.of (Itv.mk it_kind it_n it_bytes it_text it_kids))))]
  | _ => .err
def mp_first.sg : FSig := { nres := 3 }
def mp_first.c : Ctr := fun l => match l with
  | [.i .i64 c] => .if_ (decide (0 ≤ c ∧ c ≤ 255)) [(.i .i64 ((Mp.first c).1)), (.u64 ((Mp.first c).2.1)), (.i .i64 ((Mp.first c).2.2))]
  | _ => .err
def mp_number.sg : FSig := { nres := 2 }
def mp_number.c : Ctr := fun l => match l with
  | [.ag [.i .i64 it_kind, .u64 it_n, .sl .bs it_bytes, .s it_text, .sl .il it_kids], .i .i64 p, .i .i64 c, .ag [.i .i64 f_at, .i .i64 f_end]] => .ok [(.ag (Itv.cells (Itm.val ((Mp.num (Itm.of (Itv.mk it_kind it_n it_bytes it_text it_kids)) p c ((Spn.mk f_at f_end)).at_ 0).it)))), (.ag (Flt.cells ((Flt.mk (Mp.num (Itm.of (Itv.mk it_kind it_n it_bytes it_text it_kids)) p c ((Spn.mk f_at f_end)).at_ 0).err (Mp.num (Itm.of (Itv.mk it_kind it_n it_bytes it_text it_kids)) p c ((Spn.mk f_at f_end)).at_ 0).at_ []))))]
  | _ => .err
def mp_number.cw : Ctr := wkC 0 [(2, .bs), (4, .il)] mp_number.c
def mp_row.sg : FSig := { ref := some 0, nres := 2 }
def mp_row.c : Ctr := fun l => match l with
  | [.ag [.sl .bs r_b, .i .i64 r_at], .ag [.i .i64 it_kind, .u64 it_n, .sl .bs it_bytes, .s it_text, .sl .il it_kids], .i .i64 p, .i .i64 n] => .if_ (Cur.good (Rdr.mk r_b r_at)) [(.ag (Itv.cells (Itm.val ((Mp.row ((Rdr.mk r_b r_at)).b (Itm.of (Itv.mk it_kind it_n it_bytes it_text it_kids)) p ((Rdr.mk r_b r_at)).at_ n).it)))), (.ag (Flt.cells ((Flt.mk (Mp.row ((Rdr.mk r_b r_at)).b (Itm.of (Itv.mk it_kind it_n it_bytes it_text it_kids)) p ((Rdr.mk r_b r_at)).at_ n).err (Mp.row ((Rdr.mk r_b r_at)).b (Itm.of (Itv.mk it_kind it_n it_bytes it_text it_kids)) p ((Rdr.mk r_b r_at)).at_ n).at_ [])))), (.ag (Rdr.cells ((Rdr.mk ((Rdr.mk r_b r_at)).b (Mp.row ((Rdr.mk r_b r_at)).b (Itm.of (Itv.mk it_kind it_n it_bytes it_text it_kids)) p ((Rdr.mk r_b r_at)).at_ n).pos))))]
  | _ => .err
def mp_row.cw : Ctr := wkC 1 [(2, .bs), (4, .il)] mp_row.c
def mp_kids.sg : FSig := { ref := some 0, nres := 2 }
def mp_kids.cn (n : Nat) : Ctr := fun l => match l with
  | [.ag [.sl .bs r_b, .i .i64 r_at], .ag [.i .i64 it_kind, .u64 it_n, .c (.slice none 0 0), .s it_text, .c (.slice none 0 0)], .i .i64 m, .i .i64 depth] => .if_ ((Cur.good (Rdr.mk r_b r_at) && decide (0 ≤ m ∧ m ≤ 4294967296 ∧ 1 ≤ depth ∧ depth ≤ 1000)) && decide ((2 * (depth).toNat) < n)) [(.ag (Itv.cells (Itm.val ((Mp.kids (Mp.read ((Rdr.mk r_b r_at)).b (depth - 1).toNat) (Itm.of (Itv.mk it_kind it_n [] it_text [])) (Mp.many ((Itv.mk it_kind it_n [] it_text [])).kind m) ((Rdr.mk r_b r_at)).at_).it)))), (.ag (Flt.cells ((Flt.mk (Mp.kids (Mp.read ((Rdr.mk r_b r_at)).b (depth - 1).toNat) (Itm.of (Itv.mk it_kind it_n [] it_text [])) (Mp.many ((Itv.mk it_kind it_n [] it_text [])).kind m) ((Rdr.mk r_b r_at)).at_).err (Mp.kids (Mp.read ((Rdr.mk r_b r_at)).b (depth - 1).toNat) (Itm.of (Itv.mk it_kind it_n [] it_text [])) (Mp.many ((Itv.mk it_kind it_n [] it_text [])).kind m) ((Rdr.mk r_b r_at)).at_).at_ [])))), (.ag (Rdr.cells ((Rdr.mk ((Rdr.mk r_b r_at)).b (Mp.kids (Mp.read ((Rdr.mk r_b r_at)).b (depth - 1).toNat) (Itm.of (Itv.mk it_kind it_n [] it_text [])) (Mp.many ((Itv.mk it_kind it_n [] it_text [])).kind m) ((Rdr.mk r_b r_at)).at_).pos))))]
  | _ => .err
def mp_read.sg : FSig := { ref := some 0, nres := 2 }
def mp_read.c : Ctr := fun l => match l with
  | [.ag [.sl .bs r_b, .i .i64 r_at], .i .i64 depth] => .if_ (Cur.good (Rdr.mk r_b r_at) && decide (0 ≤ depth ∧ depth ≤ 1000)) [(.ag (Itv.cells (Itm.val ((Mp.read ((Rdr.mk r_b r_at)).b (depth).toNat ((Rdr.mk r_b r_at)).at_).it)))), (.ag (Flt.cells ((Flt.mk (Mp.read ((Rdr.mk r_b r_at)).b (depth).toNat ((Rdr.mk r_b r_at)).at_).err (Mp.read ((Rdr.mk r_b r_at)).b (depth).toNat ((Rdr.mk r_b r_at)).at_).at_ [])))), (.ag (Rdr.cells ((Rdr.mk ((Rdr.mk r_b r_at)).b (Mp.read ((Rdr.mk r_b r_at)).b (depth).toNat ((Rdr.mk r_b r_at)).at_).pos))))]
  | _ => .err
def mp_read.cn (n : Nat) : Ctr := fun l => match l with
  | [.ag [.sl .bs r_b, .i .i64 r_at], .i .i64 depth] => .if_ ((Cur.good (Rdr.mk r_b r_at) && decide (0 ≤ depth ∧ depth ≤ 1000)) && decide ((2 * (depth).toNat + 1) < n)) [(.ag (Itv.cells (Itm.val ((Mp.read ((Rdr.mk r_b r_at)).b (depth).toNat ((Rdr.mk r_b r_at)).at_).it)))), (.ag (Flt.cells ((Flt.mk (Mp.read ((Rdr.mk r_b r_at)).b (depth).toNat ((Rdr.mk r_b r_at)).at_).err (Mp.read ((Rdr.mk r_b r_at)).b (depth).toNat ((Rdr.mk r_b r_at)).at_).at_ [])))), (.ag (Rdr.cells ((Rdr.mk ((Rdr.mk r_b r_at)).b (Mp.read ((Rdr.mk r_b r_at)).b (depth).toNat ((Rdr.mk r_b r_at)).at_).pos))))]
  | _ => .err
def mp_Decode.sg : FSig := { nres := 2 }
def mp_Decode.c : Ctr := fun l => match l with
  | [.sl .bs b, .i .i64 depth] => .if_ (decide ((b).length ≤ 1099511627776)) [(.ag (Itv.cells (Itm.val ((Mp.dec b depth).1)))), (.ag (Flt.cells ((Mp.dec b depth).2)))]
  | _ => .err
def law29_awake.sg : FSig := {}
def law29_awake.c : Ctr := fun l => match l with
  | [] => .ok [(.b (true))]
  | _ => .err
end
noncomputable section
def utf_is.env : List (Nat × (Ctr × FSig)) := []
def utf_is.E : TEnv := envL noGl utf_is.env
def utf_is.m : TM := .seq (.reg [
    ⟨.k .mv, [.c (.b false)], [2], none⟩]) none (.seq (.reg [
    ⟨.k .mv, [.s 0], [3], none⟩,
    ⟨.k (.bin .geq), [.s 3, .c (.i .i64 (0 : Int))], [4], none⟩,
    ⟨.k .mv, [.s 4], [5], none⟩,
    ⟨.k .mv, [.s 0], [6], some (5, true)⟩,
    ⟨.k (.bin .leq), [.s 6, .c (.i .i64 (1114111 : Int))], [7], some (5, true)⟩,
    ⟨.k .pick, [.s 5, .s 7, .c (.b false)], [8], none⟩,
    ⟨.k .mv, [.s 8], [9], none⟩,
    ⟨.k .mv, [.s 0], [10], some (9, true)⟩,
    ⟨.k (.bin .lss), [.s 10, .c (.i .i64 (55296 : Int))], [11], some (9, true)⟩,
    ⟨.k .mv, [.s 11], [12], some (9, true)⟩,
    ⟨.k .mv, [.s 0], [13], some (12, false)⟩,
    ⟨.k (.bin .gtr), [.s 13, .c (.i .i64 (57343 : Int))], [14], some (12, false)⟩,
    ⟨.k .pick, [.s 12, .c (.b true), .s 14], [15], some (9, true)⟩,
    ⟨.k .pick, [.s 9, .s 15, .c (.b false)], [16], none⟩,
    ⟨.k .mv, [.s 16], [2], none⟩]) none .ret)
def utf_is.d : TFD := { np := 1, m := utf_is.m, ref := none, tips := [], res := [.t 2], own := [], new := none, tnew := [] }
noncomputable def utf_is.F (r : Int) : Option (List TV) := utf_is.d.run utf_is.E [(.i .i64 r)]
theorem utf_is.F_in (r : Int) {ρ : Option (List TV)} (K : ∀ (v1 : Bool) (h1 : v1 = (cond (decide ((0 : Int) ≤ r)) (decide (r ≤ (1114111 : Int))) false)) (v2 : Bool) (h2 : v2 = (v1 && (!(decide (r < (55296 : Int)))))) (v3 : Bool) (h3 : v3 = (cond (decide (r < (55296 : Int))) true (decide ((57343 : Int) < r)))), ck (!(decide ((0 : Int) ≤ r)) || (decide ((0 : Int) ≤ r))) (ck (!(decide ((0 : Int) ≤ r)) || (decide ((0 : Int) ≤ r))) (ck (!v1 || v1) (ck (!v1 || v1) (ck (!v2 || v2) (ck (!v1 || (v1 && ((decide (r < (55296 : Int))) || v2))) (ck (!v1 || v1) (some [(.b (cond v1 v3 false))]))))))) = ρ) : utf_is.F r = ρ := Eq.trans (by kernel_rfl) (K _ rfl _ rfl _ rfl)
theorem utf_is.chk : ((Go.Proofs.Try.prog.funcs[71]?).any fun fn => chkF Go.Proofs.Try.prog (fun k => ((envL noGl utf_is.env).fs k).2) fn utf_is.d.erase) = true := by kernel_rfl
end
noncomputable section
def utf_Rune.env : List (Nat × (Ctr × FSig)) := [(71, (utf_is.c, utf_is.sg))]
def utf_Rune.E : TEnv := envL noGl utf_Rune.env
def utf_Rune.m1 : TM := .seq (.seq (.reg [
    ⟨.k .mv, [.s 7], [54], none⟩,
    ⟨.k .mv, [.s 0], [55], none⟩,
    ⟨.k .len, [.s 55], [56], none⟩,
    ⟨.k .mv, [.s 1], [57], none⟩,
    ⟨.k (.bin .sub), [.s 56, .s 57], [58], none⟩,
    ⟨.k (.bin .sub), [.s 58, .c (.i .i64 (1 : Int))], [59], none⟩,
    ⟨.k (.bin .gtr), [.s 54, .s 59], [60], none⟩]) none (.cond (.s 60) [] (.exit (gid 0)) .skip)) none (.seq (.reg [
    ⟨.k .mv, [.c (.i .i64 (1 : Int))], [9], none⟩]) none (.seq .skip none (.seq (.seq (.reg [
    ⟨.k .mv, [.s 9], [61], none⟩,
    ⟨.k .mv, [.s 7], [62], none⟩,
    ⟨.k (.bin .leq), [.s 61, .s 62], [63], none⟩]) none (.cond (.s 63) [] (.seq (.seq (.reg [
    ⟨.k .mv, [.s 0], [64], none⟩,
    ⟨.k .mv, [.s 1], [65], none⟩,
    ⟨.k .mv, [.s 9], [66], none⟩,
    ⟨.k (.bin .add), [.s 65, .s 66], [67], none⟩,
    ⟨.k (.ix 1), [.s 64, .s 67], [68], none⟩,
    ⟨.k (.lr 1 false), [.s 68], [69], none⟩,
    ⟨.k (.bin .and), [.s 69, .c (.u8 (192 : UInt8))], [70], none⟩,
    ⟨.k (.bin .neq), [.s 70, .c (.u8 (128 : UInt8))], [71], none⟩]) none (.cond (.s 71) [] (.exit (gid 0)) .skip)) none (.seq (.reg [
    ⟨.k .mv, [.s 4], [72], none⟩,
    ⟨.k (.bin .shl), [.s 72, .c (.u64 (6 : UInt64))], [73], none⟩,
    ⟨.k .mv, [.s 0], [74], none⟩,
    ⟨.k .mv, [.s 1], [75], none⟩,
    ⟨.k .mv, [.s 9], [76], none⟩,
    ⟨.k (.bin .add), [.s 75, .s 76], [77], none⟩,
    ⟨.k (.ix 1), [.s 74, .s 77], [78], none⟩,
    ⟨.k (.lr 1 false), [.s 78], [79], none⟩,
    ⟨.k (.bin .and), [.s 79, .c (.u8 (63 : UInt8))], [80], none⟩,
    ⟨.k (.ci .i64), [.s 80], [81], none⟩,
    ⟨.k (.bin .or), [.s 73, .s 81], [82], none⟩,
    ⟨.k .mv, [.s 82], [4], none⟩]) none (.seq (.reg [
    ⟨.k .mv, [.s 9], [83], none⟩,
    ⟨.k (.bin .add), [.s 83, .c (.i .i64 (1 : Int))], [84], none⟩,
    ⟨.k .mv, [.s 84], [9], none⟩]) none (.exit (gid 1))))) .skip)) none (.seq (.seq (.reg [
    ⟨.k .mv, [.s 4], [85], none⟩,
    ⟨.k .mv, [.s 8], [86], none⟩,
    ⟨.k (.bin .lss), [.s 85, .s 86], [87], none⟩,
    ⟨.k .mv, [.s 87], [88], none⟩,
    ⟨.k .mv, [.s 4], [89], some (88, false)⟩,
    ⟨.k (.call 71 (.plain 1 1)), [.s 89], [90], some (88, false)⟩,
    ⟨.k (.un .not), [.s 90], [91], some (88, false)⟩,
    ⟨.k .pick, [.s 88, .c (.b true), .s 91], [92], none⟩]) none (.cond (.s 92) [] (.exit (gid 0)) .skip)) none (.seq (.seq (.reg [
    ⟨.k .mv, [.s 4], [93], none⟩,
    ⟨.k .mv, [.s 7], [94], none⟩,
    ⟨.k (.bin .add), [.s 94, .c (.i .i64 (1 : Int))], [95], none⟩,
    ⟨.k .mv, [.s 93], [4], none⟩,
    ⟨.k .mv, [.s 95], [5], none⟩]) none .ret) none .skip)))))
def utf_Rune.m2 : TM := .seq .skip none (.seq (.seq (.reg [
    ⟨.k .mv, [.s 9], [61], none⟩,
    ⟨.k .mv, [.s 7], [62], none⟩,
    ⟨.k (.bin .leq), [.s 61, .s 62], [63], none⟩]) none (.cond (.s 63) [] (.seq (.seq (.reg [
    ⟨.k .mv, [.s 0], [64], none⟩,
    ⟨.k .mv, [.s 1], [65], none⟩,
    ⟨.k .mv, [.s 9], [66], none⟩,
    ⟨.k (.bin .add), [.s 65, .s 66], [67], none⟩,
    ⟨.k (.ix 1), [.s 64, .s 67], [68], none⟩,
    ⟨.k (.lr 1 false), [.s 68], [69], none⟩,
    ⟨.k (.bin .and), [.s 69, .c (.u8 (192 : UInt8))], [70], none⟩,
    ⟨.k (.bin .neq), [.s 70, .c (.u8 (128 : UInt8))], [71], none⟩]) none (.cond (.s 71) [] (.exit (gid 0)) .skip)) none (.seq (.reg [
    ⟨.k .mv, [.s 4], [72], none⟩,
    ⟨.k (.bin .shl), [.s 72, .c (.u64 (6 : UInt64))], [73], none⟩,
    ⟨.k .mv, [.s 0], [74], none⟩,
    ⟨.k .mv, [.s 1], [75], none⟩,
    ⟨.k .mv, [.s 9], [76], none⟩,
    ⟨.k (.bin .add), [.s 75, .s 76], [77], none⟩,
    ⟨.k (.ix 1), [.s 74, .s 77], [78], none⟩,
    ⟨.k (.lr 1 false), [.s 78], [79], none⟩,
    ⟨.k (.bin .and), [.s 79, .c (.u8 (63 : UInt8))], [80], none⟩,
    ⟨.k (.ci .i64), [.s 80], [81], none⟩,
    ⟨.k (.bin .or), [.s 73, .s 81], [82], none⟩,
    ⟨.k .mv, [.s 82], [4], none⟩]) none (.seq (.reg [
    ⟨.k .mv, [.s 9], [83], none⟩,
    ⟨.k (.bin .add), [.s 83, .c (.i .i64 (1 : Int))], [84], none⟩,
    ⟨.k .mv, [.s 84], [9], none⟩]) none (.exit (gid 1))))) .skip)) none (.seq (.seq (.reg [
    ⟨.k .mv, [.s 4], [85], none⟩,
    ⟨.k .mv, [.s 8], [86], none⟩,
    ⟨.k (.bin .lss), [.s 85, .s 86], [87], none⟩,
    ⟨.k .mv, [.s 87], [88], none⟩,
    ⟨.k .mv, [.s 4], [89], some (88, false)⟩,
    ⟨.k (.call 71 (.plain 1 1)), [.s 89], [90], some (88, false)⟩,
    ⟨.k (.un .not), [.s 90], [91], some (88, false)⟩,
    ⟨.k .pick, [.s 88, .c (.b true), .s 91], [92], none⟩]) none (.cond (.s 92) [] (.exit (gid 0)) .skip)) none (.seq (.seq (.reg [
    ⟨.k .mv, [.s 4], [93], none⟩,
    ⟨.k .mv, [.s 7], [94], none⟩,
    ⟨.k (.bin .add), [.s 94, .c (.i .i64 (1 : Int))], [95], none⟩,
    ⟨.k .mv, [.s 93], [4], none⟩,
    ⟨.k .mv, [.s 95], [5], none⟩]) none .ret) none .skip)))
def utf_Rune.m3 : TM := .seq .skip none (.seq (.reg [
    ⟨.k .mv, [.c (.i .i64 (0 : Int))], [4], none⟩,
    ⟨.k .mv, [.c (.i .i64 (0 : Int))], [5], none⟩]) none .ret)
def utf_Rune.m : TM := .seq (.reg [
    ⟨.k .mv, [.c (.i .i64 (0 : Int))], [4], none⟩,
    ⟨.k .mv, [.c (.i .i64 (0 : Int))], [5], none⟩]) none (.sco (.lab 0 [] [] utf_Rune.m3 (.lab 1 [0, 1, 4, 7, 8, 9] [] utf_Rune.m2 (.scp (.seq (.reg [
    ⟨.k .mv, [.c (.i .i64 (0 : Int))], [6], none⟩,
    ⟨.k .mv, [.c (.i .i64 (0 : Int))], [7], none⟩,
    ⟨.k .mv, [.c (.i .i64 (0 : Int))], [8], none⟩,
    ⟨.k .mv, [.c (.i .i64 (0 : Int))], [9], none⟩]) none (.seq (.seq (.reg [
    ⟨.k .mv, [.s 1], [10], none⟩,
    ⟨.k (.bin .lss), [.s 10, .c (.i .i64 (0 : Int))], [11], none⟩,
    ⟨.k .mv, [.s 11], [12], none⟩,
    ⟨.k .mv, [.s 1], [13], some (12, false)⟩,
    ⟨.k .mv, [.s 0], [14], some (12, false)⟩,
    ⟨.k .len, [.s 14], [15], some (12, false)⟩,
    ⟨.k (.bin .geq), [.s 13, .s 15], [16], some (12, false)⟩,
    ⟨.k .pick, [.s 12, .c (.b true), .s 16], [17], none⟩]) none (.cond (.s 17) [] (.exit (gid 0)) .skip)) none (.seq (.reg [
    ⟨.k .mv, [.s 0], [18], none⟩,
    ⟨.k .mv, [.s 1], [19], none⟩,
    ⟨.k (.ix 1), [.s 18, .s 19], [20], none⟩,
    ⟨.k (.lr 1 false), [.s 20], [21], none⟩,
    ⟨.k (.ci .i64), [.s 21], [22], none⟩,
    ⟨.k .mv, [.s 22], [6], none⟩]) none (.seq (.block 0 [] (.seq (.reg [
    ⟨.k .mv, [.s 6], [24], none⟩,
    ⟨.k (.bin .lss), [.s 24, .c (.i .i64 (128 : Int))], [25], none⟩,
    ⟨.k .mv, [.s 25], [23], none⟩]) none (.cond (.s 23) [] (.seq (.reg [
    ⟨.k .mv, [.s 6], [26], none⟩,
    ⟨.k .mv, [.s 26], [4], none⟩,
    ⟨.k .mv, [.c (.i .i64 (1 : Int))], [5], none⟩]) none .ret) (.seq (.reg [
    ⟨.k .mv, [.s 6], [28], none⟩,
    ⟨.k (.bin .geq), [.s 28, .c (.i .i64 (192 : Int))], [29], none⟩,
    ⟨.k .mv, [.s 29], [30], none⟩,
    ⟨.k .mv, [.s 6], [31], some (30, true)⟩,
    ⟨.k (.bin .lss), [.s 31, .c (.i .i64 (224 : Int))], [32], some (30, true)⟩,
    ⟨.k .pick, [.s 30, .s 32, .c (.b false)], [33], none⟩,
    ⟨.k .mv, [.s 33], [27], none⟩]) none (.cond (.s 27) [] (.reg [
    ⟨.k .mv, [.s 6], [34], none⟩,
    ⟨.k (.bin .and), [.s 34, .c (.i .i64 (31 : Int))], [35], none⟩,
    ⟨.k .mv, [.s 35], [4], none⟩,
    ⟨.k .mv, [.c (.i .i64 (1 : Int))], [7], none⟩,
    ⟨.k .mv, [.c (.i .i64 (128 : Int))], [8], none⟩]) (.seq (.reg [
    ⟨.k .mv, [.s 6], [37], none⟩,
    ⟨.k (.bin .geq), [.s 37, .c (.i .i64 (224 : Int))], [38], none⟩,
    ⟨.k .mv, [.s 38], [39], none⟩,
    ⟨.k .mv, [.s 6], [40], some (39, true)⟩,
    ⟨.k (.bin .lss), [.s 40, .c (.i .i64 (240 : Int))], [41], some (39, true)⟩,
    ⟨.k .pick, [.s 39, .s 41, .c (.b false)], [42], none⟩,
    ⟨.k .mv, [.s 42], [36], none⟩]) none (.cond (.s 36) [] (.reg [
    ⟨.k .mv, [.s 6], [43], none⟩,
    ⟨.k (.bin .and), [.s 43, .c (.i .i64 (15 : Int))], [44], none⟩,
    ⟨.k .mv, [.s 44], [4], none⟩,
    ⟨.k .mv, [.c (.i .i64 (2 : Int))], [7], none⟩,
    ⟨.k .mv, [.c (.i .i64 (2048 : Int))], [8], none⟩]) (.seq (.reg [
    ⟨.k .mv, [.s 6], [46], none⟩,
    ⟨.k (.bin .geq), [.s 46, .c (.i .i64 (240 : Int))], [47], none⟩,
    ⟨.k .mv, [.s 47], [48], none⟩,
    ⟨.k .mv, [.s 6], [49], some (48, true)⟩,
    ⟨.k (.bin .lss), [.s 49, .c (.i .i64 (248 : Int))], [50], some (48, true)⟩,
    ⟨.k .pick, [.s 48, .s 50, .c (.b false)], [51], none⟩,
    ⟨.k .mv, [.s 51], [45], none⟩]) none (.cond (.s 45) [] (.reg [
    ⟨.k .mv, [.s 6], [52], none⟩,
    ⟨.k (.bin .and), [.s 52, .c (.i .i64 (7 : Int))], [53], none⟩,
    ⟨.k .mv, [.s 53], [4], none⟩,
    ⟨.k .mv, [.c (.i .i64 (3 : Int))], [7], none⟩,
    ⟨.k .mv, [.c (.i .i64 (65536 : Int))], [8], none⟩]) (.exit (gid 0))))))))))) (some [0, 1, 4, 7, 8]) utf_Rune.m1))))))))
def utf_Rune.d : TFD := { np := 2, m := utf_Rune.m, ref := none, tips := [], res := [.t 4, .t 5], own := [], new := none, tnew := [] }
noncomputable def utf_Rune.F (b : List UInt8) (at_ : Int) : Option (List TV) := utf_Rune.d.run utf_Rune.E [(.sl .bs b), (.i .i64 at_)]
noncomputable def utf_Rune.k1 : Cont (List TV) := againK (evO _ utf_Rune.E utf_Rune.m3) (isG 0) [] (endK utf_Rune.d)
noncomputable def utf_Rune.k2 : Cont (List TV) := againK (evO _ utf_Rune.E utf_Rune.m2) (isG 1) [0, 1, 4, 7, 8, 9] utf_Rune.k1
noncomputable def utf_Rune.l1 : Option (List TV) := loopL (evO _ utf_Rune.E utf_Rune.m3) (isG 0) [] (headT [] []) (endK utf_Rune.d)
noncomputable def utf_Rune.j2 (x0 : List UInt8) (x1 : Int) (x2 : Int) (x3 : Int) (x4 : Int) : Option (List TV) := evO _ utf_Rune.E utf_Rune.m1 (headT [0, 1, 4, 7, 8] [(.sl .bs x0), (.i .i64 x1), (.i .i64 x2), (.i .i64 x3), (.i .i64 x4)]) utf_Rune.k2
noncomputable def utf_Rune.l3 (x0 : List UInt8) (x1 : Int) (x2 : Int) (x3 : Int) (x4 : Int) (x5 : Int) : Option (List TV) := loopL (evO _ utf_Rune.E utf_Rune.m2) (isG 1) [0, 1, 4, 7, 8, 9] (headT [0, 1, 4, 7, 8, 9] [(.sl .bs x0), (.i .i64 x1), (.i .i64 x2), (.i .i64 x3), (.i .i64 x4), (.i .i64 x5)]) utf_Rune.k1
theorem utf_Rune.l1_eq : utf_Rune.l1 = some [(.i .i64 (0 : Int)), (.i .i64 (0 : Int))] := ((ev_loop _ _ _ _ _ _).trans (by kernel_rfl))
theorem utf_Rune.j2_in (x0 : List UInt8) (x1 : Int) (x2 : Int) (x3 : Int) (x4 : Int) {ρ : Option (List TV)} (K : ∀ (v1 : Int) (h1 : v1 = (IntKind.i64.wrap (((x0).length : Int) - x1))) (v2 : Int) (h2 : v2 = (IntKind.i64.wrap (v1 - (1 : Int)))) (v3 : Int) (h3 : v3 = (IntKind.i64.wrap (x1 + (1 : Int)))) (v4 : UInt8) (h4 : v4 = (List.getD x0 (v3).toNat (0 : UInt8))) (v5 : Bool) (h5 : v5 = (!decide ((v4 &&& (192 : UInt8)) = (128 : UInt8)))) (v6 : Int) (h6 : v6 = (IntKind.i64.wrap (x2 * 2 ^ (min (((6 : UInt64)).toNat) (IntKind.i64.bits))))) (v7 : Int) (h7 : v7 = (IntKind.i64.wrap (((v4 &&& (63 : UInt8))).toNat : Int))) (v8 : Int) (h8 : v8 = (IntKind.i64.wrap ((1 : Int) + (1 : Int)))) (v9 : Bool) (h9 : v9 = (cond (decide (x2 < x4)) true (!(Utf.isRune x2)))) (v10 : Int) (h10 : v10 = (IntKind.i64.wrap (x3 + (1 : Int)))), cond (decide (v2 < x3))
    (utf_Rune.l1)
    (cond (decide ((1 : Int) ≤ x3))
    (ck (idxOK v3 (x0).length) (cond v5
    (utf_Rune.l1)
    (ck (idxOK v3 (x0).length) (utf_Rune.l3 x0 x1 (intBitsV .or .i64 v6 v7) x3 x4 v8))))
    (ck (!(!(decide (x2 < x4))) || (!(decide (x2 < x4)))) (ck (!(!(decide (x2 < x4))) || (!(decide (x2 < x4)))) (ck ((decide (x2 < x4)) || (!(decide (x2 < x4)))) (cond v9
    (utf_Rune.l1)
    (some [(.i .i64 x2), (.i .i64 v10)])))))) = ρ) : utf_Rune.j2 x0 x1 x2 x3 x4 = ρ := ((congrFun (congrFun (ev_eq _ _) _) _).trans (by kernel_rfl)).trans (K _ rfl _ rfl _ rfl _ rfl _ rfl _ rfl _ rfl _ rfl _ rfl _ rfl)
theorem utf_Rune.l3_in (x0 : List UInt8) (x1 : Int) (x2 : Int) (x3 : Int) (x4 : Int) (x5 : Int) {ρ : Option (List TV)} (K : ∀ (v1 : UInt8) (h1 : v1 = (List.getD x0 ((IntKind.i64.wrap (x1 + x5))).toNat (0 : UInt8))) (v2 : Bool) (h2 : v2 = (!decide ((v1 &&& (192 : UInt8)) = (128 : UInt8)))) (v3 : Int) (h3 : v3 = (IntKind.i64.wrap (x2 * 2 ^ (min (((6 : UInt64)).toNat) (IntKind.i64.bits))))) (v4 : Int) (h4 : v4 = (IntKind.i64.wrap (((v1 &&& (63 : UInt8))).toNat : Int))) (v5 : Int) (h5 : v5 = (IntKind.i64.wrap (x5 + (1 : Int)))) (v6 : Bool) (h6 : v6 = (cond (decide (x2 < x4)) true (!(Utf.isRune x2)))) (v7 : Int) (h7 : v7 = (IntKind.i64.wrap (x3 + (1 : Int)))), cond (decide (x5 ≤ x3))
    (ck (idxOK (IntKind.i64.wrap (x1 + x5)) (x0).length) (cond v2
    (utf_Rune.l1)
    (ck (idxOK (IntKind.i64.wrap (x1 + x5)) (x0).length) (utf_Rune.l3 x0 x1 (intBitsV .or .i64 v3 v4) x3 x4 v5))))
    (ck (!(!(decide (x2 < x4))) || (!(decide (x2 < x4)))) (ck (!(!(decide (x2 < x4))) || (!(decide (x2 < x4)))) (ck ((decide (x2 < x4)) || (!(decide (x2 < x4)))) (cond v6
    (utf_Rune.l1)
    (some [(.i .i64 x2), (.i .i64 v7)]))))) = ρ) : utf_Rune.l3 x0 x1 x2 x3 x4 x5 = ρ := ((ev_loop _ _ _ _ _ _).trans (by kernel_rfl)).trans (K _ rfl _ rfl _ rfl _ rfl _ rfl _ rfl _ rfl)
theorem utf_Rune.F_in (b : List UInt8) (at_ : Int) {ρ : Option (List TV)} (K : ∀ (v1 : Bool) (h1 : v1 = (cond (decide (at_ < (0 : Int))) true (decide (((b).length : Int) ≤ at_)))) (v2 : UInt8) (h2 : v2 = (List.getD b (at_).toNat (0 : UInt8))) (v3 : Int) (h3 : v3 = (IntKind.i64.wrap ((v2).toNat : Int))) (v4 : Bool) (h4 : v4 = (cond (decide ((192 : Int) ≤ v3)) (decide (v3 < (224 : Int))) false)) (v5 : Int) (h5 : v5 = (intBitsV .and .i64 v3 (31 : Int))) (v6 : Bool) (h6 : v6 = (cond (decide ((224 : Int) ≤ v3)) (decide (v3 < (240 : Int))) false)) (v7 : Int) (h7 : v7 = (intBitsV .and .i64 v3 (15 : Int))) (v8 : Bool) (h8 : v8 = (cond (decide ((240 : Int) ≤ v3)) (decide (v3 < (248 : Int))) false)) (v9 : Int) (h9 : v9 = (intBitsV .and .i64 v3 (7 : Int))), ck (!(!(decide (at_ < (0 : Int)))) || (!(decide (at_ < (0 : Int))))) (ck (!(!(decide (at_ < (0 : Int)))) || ((!(decide (at_ < (0 : Int)))) && (!(decide (at_ < (0 : Int)))))) (ck ((decide (at_ < (0 : Int))) || (!(decide (at_ < (0 : Int))))) (cond v1
    (utf_Rune.l1)
    (ck (idxOK at_ (b).length) (cond (decide (v3 < (128 : Int)))
    (some [(.i .i64 v3), (.i .i64 (1 : Int))])
    (ck (!(decide ((192 : Int) ≤ v3)) || (decide ((192 : Int) ≤ v3))) (ck (!(decide ((192 : Int) ≤ v3)) || (decide ((192 : Int) ≤ v3))) (cond v4
    (utf_Rune.j2 b at_ v5 (1 : Int) (128 : Int))
    (ck (!(decide ((224 : Int) ≤ v3)) || (decide ((224 : Int) ≤ v3))) (ck (!(decide ((224 : Int) ≤ v3)) || (decide ((224 : Int) ≤ v3))) (cond v6
    (utf_Rune.j2 b at_ v7 (2 : Int) (2048 : Int))
    (ck (!(decide ((240 : Int) ≤ v3)) || (decide ((240 : Int) ≤ v3))) (ck (!(decide ((240 : Int) ≤ v3)) || (decide ((240 : Int) ≤ v3))) (cond v8
    (utf_Rune.j2 b at_ v9 (3 : Int) (65536 : Int))
    (utf_Rune.l1))))))))))))))) = ρ) : utf_Rune.F b at_ = ρ := Eq.trans (by kernel_rfl) (K _ rfl _ rfl _ rfl _ rfl _ rfl _ rfl _ rfl _ rfl _ rfl)
theorem utf_Rune.chk : ((Go.Proofs.Try.prog.funcs[63]?).any fun fn => chkF Go.Proofs.Try.prog (fun k => ((envL noGl utf_Rune.env).fs k).2) fn utf_Rune.d.erase) = true := by kernel_rfl
end
noncomputable section
def utf_look.env : List (Nat × (Ctr × FSig)) := [(63, (utf_Rune.c, utf_Rune.sg))]
def utf_look.E : TEnv := envL noGl utf_look.env
def utf_look.m1 : TM := .seq (.seq (.reg [
    ⟨.k .mv, [.s 2], [6], none⟩,
    ⟨.k .mv, [.s 0], [7], none⟩,
    ⟨.k .len, [.s 7], [8], none⟩,
    ⟨.k (.bin .lss), [.s 6, .s 8], [9], none⟩]) none (.cond (.s 9) [] .skip (.exit 0))) none (.block 1 [] (.seq (.reg [
    ⟨.k .mv, [.s 0], [11], none⟩,
    ⟨.k .mv, [.s 2], [12], none⟩,
    ⟨.k (.call 63 (.plain 2 2)), [.s 11, .s 12], [13], none⟩,
    ⟨.k .mv, [.s 13], [10], none⟩,
    ⟨.k (.ex 0), [.s 10], [14], none⟩,
    ⟨.k (.ex 1), [.s 10], [15], none⟩,
    ⟨.k .mv, [.s 14], [4], none⟩,
    ⟨.k .mv, [.s 15], [5], none⟩]) none (.seq (.seq (.reg [
    ⟨.k .mv, [.s 5], [16], none⟩,
    ⟨.k (.bin .eql), [.s 16, .c (.i .i64 (0 : Int))], [17], none⟩]) none (.cond (.s 17) [] (.exit 0) .skip)) none (.seq (.reg [
    ⟨.k .mv, [.s 2], [18], none⟩,
    ⟨.k .mv, [.s 5], [19], none⟩,
    ⟨.k (.bin .add), [.s 18, .s 19], [20], none⟩,
    ⟨.k .mv, [.s 20], [2], none⟩]) none (.reg [
    ⟨.k .mv, [.s 3], [21], none⟩,
    ⟨.k (.bin .add), [.s 21, .c (.i .i64 (1 : Int))], [22], none⟩,
    ⟨.k .mv, [.s 22], [3], none⟩])))))
def utf_look.m2 : TM := .seq (.reg [
    ⟨.k .mv, [.s 2], [23], none⟩,
    ⟨.k .mv, [.s 3], [24], none⟩,
    ⟨.k .mv, [.s 23], [2], none⟩,
    ⟨.k .mv, [.s 24], [3], none⟩]) none .ret
def utf_look.m : TM := .seq (.reg [
    ⟨.k .mv, [.c (.i .i64 (0 : Int))], [2], none⟩,
    ⟨.k .mv, [.c (.i .i64 (0 : Int))], [3], none⟩]) none (.seq (.block 0 [] (.loop [0, 2, 3] [] utf_look.m1)) (some [2, 3]) utf_look.m2)
def utf_look.d : TFD := { np := 1, m := utf_look.m, ref := none, tips := [], res := [.t 2, .t 3], own := [], new := none, tnew := [] }
noncomputable def utf_look.F (b : List UInt8) : Option (List TV) := utf_look.d.run utf_look.E [(.sl .bs b)]
noncomputable def utf_look.k1 : Cont (List TV) := seqK (evO _ utf_look.E utf_look.m2) (some [2, 3]) (endK utf_look.d)
noncomputable def utf_look.l1 (x0 : List UInt8) (x1 : Int) (x2 : Int) : Option (List TV) := loopL (evO _ utf_look.E utf_look.m1) isN [0, 2, 3] (headT [0, 2, 3] [(.sl .bs x0), (.i .i64 x1), (.i .i64 x2)]) (blockK 0 utf_look.k1)
noncomputable def utf_look.j2 (x0 : Int) (x1 : Int) : Option (List TV) := evO _ utf_look.E utf_look.m2 (headT [2, 3] [(.i .i64 x0), (.i .i64 x1)]) (endK utf_look.d)
theorem utf_look.l1_in (x0 : List UInt8) (x1 : Int) (x2 : Int) {ρ : Option (List TV)} (K : ∀ (v1 : Int) (h1 : v1 = (IntKind.i64.wrap (x1 + ((Utf.runeAt x0 x1).2)))) (v2 : Int) (h2 : v2 = (IntKind.i64.wrap (x2 + (1 : Int)))), cond (decide (x1 < ((x0).length : Int)))
    (ck (decide (x0.length ≤ 1099511627776)) (cond (decide (((Utf.runeAt x0 x1).2) = (0 : Int)))
    (utf_look.j2 x1 x2)
    (utf_look.l1 x0 v1 v2)))
    (utf_look.j2 x1 x2) = ρ) : utf_look.l1 x0 x1 x2 = ρ := ((ev_loop _ _ _ _ _ _).trans (by kernel_rfl)).trans (K _ rfl _ rfl)
theorem utf_look.j2_eq (x0 : Int) (x1 : Int) : utf_look.j2 x0 x1 = some [(.i .i64 x0), (.i .i64 x1)] := ((congrFun (congrFun (ev_eq _ _) _) _).trans (by kernel_rfl))
theorem utf_look.F_eq (b : List UInt8) : utf_look.F b = utf_look.l1 b (0 : Int) (0 : Int) := by kernel_rfl
theorem utf_look.chk : ((Go.Proofs.Try.prog.funcs[46]?).any fun fn => chkF Go.Proofs.Try.prog (fun k => ((envL noGl utf_look.env).fs k).2) fn utf_look.d.erase) = true := by kernel_rfl
end
noncomputable section
def utf_Check.env : List (Nat × (Ctr × FSig)) := [(46, (utf_look.c, utf_look.sg))]
def utf_Check.E : TEnv := envL noGl utf_Check.env
def utf_Check.m : TM := .seq (.reg [
    ⟨.k .mv, [.c (.i .i64 (0 : Int))], [2], none⟩,
    ⟨.k .mv, [.c (.b false)], [3], none⟩]) none (.seq (.reg [
    ⟨.k .mv, [.s 0], [7], none⟩,
    ⟨.k (.call 46 (.plain 1 2)), [.s 7], [8], none⟩,
    ⟨.k .mv, [.s 8], [6], none⟩,
    ⟨.k (.ex 0), [.s 6], [9], none⟩,
    ⟨.k (.ex 1), [.s 6], [10], none⟩,
    ⟨.k .mv, [.s 9], [4], none⟩,
    ⟨.k .mv, [.s 10], [5], none⟩]) none (.seq (.reg [
    ⟨.k .mv, [.s 4], [11], none⟩,
    ⟨.k .mv, [.s 4], [12], none⟩,
    ⟨.k .mv, [.s 0], [13], none⟩,
    ⟨.k .len, [.s 13], [14], none⟩,
    ⟨.k (.bin .eql), [.s 12, .s 14], [15], none⟩,
    ⟨.k .mv, [.s 11], [2], none⟩,
    ⟨.k .mv, [.s 15], [3], none⟩]) none .ret))
def utf_Check.d : TFD := { np := 1, m := utf_Check.m, ref := none, tips := [], res := [.t 2, .t 3], own := [], new := none, tnew := [] }
noncomputable def utf_Check.F (b : List UInt8) : Option (List TV) := utf_Check.d.run utf_Check.E [(.sl .bs b)]
theorem utf_Check.F_eq (b : List UInt8) : utf_Check.F b = ck (decide (b.length ≤ 1099511627776)) (some [(.i .i64 (((Utf.look b).1 : Int))), (.b (decide ((((Utf.look b).1 : Int)) = ((b).length : Int))))]) := by kernel_rfl
theorem utf_Check.chk : ((Go.Proofs.Try.prog.funcs[27]?).any fun fn => chkF Go.Proofs.Try.prog (fun k => ((envL noGl utf_Check.env).fs k).2) fn utf_Check.d.erase) = true := by kernel_rfl
end
noncomputable section
end
noncomputable section
end
noncomputable section
end
noncomputable section
end
noncomputable section
theorem clone_bs.ok : SpecOK Go.Proofs.Try.prog (fun n => (noGl n).av) 43 (Ctr.fs (clone_bs.c, clone_bs.sg)) := clone_ok (t := .bs) (b := 1) (by kernel_rfl)
end
noncomputable section
def rd_At.env : List (Nat × (Ctr × FSig)) := []
def rd_At.E : TEnv := envL noGl rd_At.env
def rd_At.m : TM := .seq (.reg [
    ⟨.k .mv, [.c (.i .i64 (0 : Int))], [2], none⟩]) none (.seq (.reg [
    ⟨.k .mv, [.s 0], [3], none⟩,
    ⟨.k .ncr, [.s 3], [4], none⟩,
    ⟨.k (.fr 1 1 false), [.s 4], [5], none⟩,
    ⟨.k (.lr 1 false), [.s 5], [6], none⟩,
    ⟨.k .mv, [.s 6], [2], none⟩]) none .ret)
def rd_At.d : TFD := { np := 1, m := rd_At.m, ref := none, tips := [], res := [.t 2], own := [], new := none, tnew := [] }
noncomputable def rd_At.F (r : Rdr) : Option (List TV) := rd_At.d.run rd_At.E [(.ro (.ag (Rdr.cells r)))]
theorem rd_At.F_eq (r : Rdr) : rd_At.F r = some [(.i .i64 (Rdr.at_ r))] := by kernel_rfl
theorem rd_At.chk : ((Go.Proofs.Try.prog.funcs[33]?).any fun fn => chkF Go.Proofs.Try.prog (fun k => ((envL noGl rd_At.env).fs k).2) fn rd_At.d.erase) = true := by kernel_rfl
end
noncomputable section
def rd_Left.env : List (Nat × (Ctr × FSig)) := []
def rd_Left.E : TEnv := envL noGl rd_Left.env
def rd_Left.m : TM := .seq (.reg [
    ⟨.k .mv, [.c (.i .i64 (0 : Int))], [2], none⟩]) none (.seq (.reg [
    ⟨.k .mv, [.s 0], [3], none⟩,
    ⟨.k .ncr, [.s 3], [4], none⟩,
    ⟨.k (.fr 0 1 false), [.s 4], [5], none⟩,
    ⟨.k (.lr 1 false), [.s 5], [6], none⟩,
    ⟨.k .len, [.s 6], [7], none⟩,
    ⟨.k .mv, [.s 0], [8], none⟩,
    ⟨.k .ncr, [.s 8], [9], none⟩,
    ⟨.k (.fr 1 1 false), [.s 9], [10], none⟩,
    ⟨.k (.lr 1 false), [.s 10], [11], none⟩,
    ⟨.k (.bin .sub), [.s 7, .s 11], [12], none⟩,
    ⟨.k .mv, [.s 12], [2], none⟩]) none .ret)
def rd_Left.d : TFD := { np := 1, m := rd_Left.m, ref := none, tips := [], res := [.t 2], own := [], new := none, tnew := [] }
noncomputable def rd_Left.F (r : Rdr) : Option (List TV) := rd_Left.d.run rd_Left.E [(.ro (.ag (Rdr.cells r)))]
theorem rd_Left.F_in (r : Rdr) {ρ : Option (List TV)} (K : ∀ (v1 : Int) (h1 : v1 = (IntKind.i64.wrap ((((Rdr.b r)).length : Int) - (Rdr.at_ r)))), some [(.i .i64 v1)] = ρ) : rd_Left.F r = ρ := Eq.trans (by kernel_rfl) (K _ rfl)
theorem rd_Left.chk : ((Go.Proofs.Try.prog.funcs[32]?).any fun fn => chkF Go.Proofs.Try.prog (fun k => ((envL noGl rd_Left.env).fs k).2) fn rd_Left.d.erase) = true := by kernel_rfl
end
noncomputable section
def rd_Byte.env : List (Nat × (Ctr × FSig)) := []
def rd_Byte.E : TEnv := envL noGl rd_Byte.env
def rd_Byte.m : TM := .seq (.reg [
    ⟨.k .mv, [.c (.i .i64 (0 : Int))], [2], none⟩,
    ⟨.k .mv, [.c (.b false)], [3], none⟩]) none (.seq (.seq (.reg [
    ⟨.k .mv, [.s 0], [4], none⟩,
    ⟨.k (.nc 999999 0), [.s 4], [5], none⟩,
    ⟨.k (.fa 999999 0 1), [.s 5], [6], none⟩,
    ⟨.k (.ld 999999 1 1 false), [.s 6, .s 999999], [7], none⟩,
    ⟨.k .mv, [.s 0], [8], none⟩,
    ⟨.k (.nc 999999 0), [.s 8], [9], none⟩,
    ⟨.k (.fa 999999 0 0), [.s 9], [10], none⟩,
    ⟨.k (.ld 999999 0 1 false), [.s 10, .s 999999], [11], none⟩,
    ⟨.k .len, [.s 11], [12], none⟩,
    ⟨.k (.bin .eql), [.s 7, .s 12], [13], none⟩]) none (.cond (.s 13) [] (.seq (.reg [
    ⟨.k .mv, [.c (.i .i64 (0 : Int))], [2], none⟩,
    ⟨.k .mv, [.c (.b false)], [3], none⟩]) none .ret) .skip)) none (.seq (.reg [
    ⟨.k .mv, [.s 0], [14], none⟩,
    ⟨.k (.nc 999999 0), [.s 14], [15], none⟩,
    ⟨.k (.fa 999999 0 1), [.s 15], [16], none⟩,
    ⟨.k (.ld 999999 1 1 false), [.s 16, .s 999999], [17], none⟩,
    ⟨.k (.bin .add), [.s 17, .c (.i .i64 (1 : Int))], [18], none⟩,
    ⟨.k (.nc 999999 0), [.s 14], [19], none⟩,
    ⟨.k (.fa 999999 0 1), [.s 19], [20], none⟩,
    ⟨.k (.st 999999 1 1), [.s 20, .s 999999, .s 18], [999999], none⟩]) none (.seq (.reg [
    ⟨.k .mv, [.s 0], [21], none⟩,
    ⟨.k (.nc 999999 0), [.s 21], [22], none⟩,
    ⟨.k (.fa 999999 0 0), [.s 22], [23], none⟩,
    ⟨.k (.ld 999999 0 1 false), [.s 23, .s 999999], [24], none⟩,
    ⟨.k .mv, [.s 0], [25], none⟩,
    ⟨.k (.nc 999999 0), [.s 25], [26], none⟩,
    ⟨.k (.fa 999999 0 1), [.s 26], [27], none⟩,
    ⟨.k (.ld 999999 1 1 false), [.s 27, .s 999999], [28], none⟩,
    ⟨.k (.bin .sub), [.s 28, .c (.i .i64 (1 : Int))], [29], none⟩,
    ⟨.k (.ix 1), [.s 24, .s 29], [30], none⟩,
    ⟨.k (.lr 1 false), [.s 30], [31], none⟩,
    ⟨.k (.ci .i64), [.s 31], [32], none⟩,
    ⟨.k .mv, [.s 32], [2], none⟩,
    ⟨.k .mv, [.c (.b true)], [3], none⟩]) none .ret)))
def rd_Byte.d : TFD := { np := 1, m := rd_Byte.m, ref := some (0, 999999), tips := [], res := [.t 2, .t 3], own := [], new := none, tnew := [] }
noncomputable def rd_Byte.F (r : Rdr) : Option (List TV) := rd_Byte.d.run rd_Byte.E [(.ag (Rdr.cells r))]
theorem rd_Byte.F_in (r : Rdr) {ρ : Option (List TV)} (K : ∀ (v1 : Int) (h1 : v1 = (IntKind.i64.wrap ((Rdr.at_ r) + (1 : Int)))) (v2 : Int) (h2 : v2 = (IntKind.i64.wrap (v1 - (1 : Int)))) (v3 : UInt8) (h3 : v3 = (List.getD (Rdr.b r) (v2).toNat (0 : UInt8))) (v4 : Int) (h4 : v4 = (IntKind.i64.wrap ((v3).toNat : Int))), cond (decide ((Rdr.at_ r) = (((Rdr.b r)).length : Int)))
    (some [(.i .i64 (0 : Int)), (.b false), (.ag (Rdr.cells r))])
    (ck (idxOK v2 ((Rdr.b r)).length) (some [(.i .i64 v4), (.b true), (.ag [(.sl .bs (Rdr.b r)), (.i .i64 v1)])])) = ρ) : rd_Byte.F r = ρ := Eq.trans (by kernel_rfl) (K _ rfl _ rfl _ rfl _ rfl)
theorem rd_Byte.chk : ((Go.Proofs.Try.prog.funcs[48]?).any fun fn => chkF Go.Proofs.Try.prog (fun k => ((envL noGl rd_Byte.env).fs k).2) fn rd_Byte.d.erase) = true := by kernel_rfl
end
noncomputable section
def rd_next.env : List (Nat × (Ctr × FSig)) := [(32, (rd_Left.c, rd_Left.sg))]
def rd_next.E : TEnv := envL noGl rd_next.env
def rd_next.m : TM := .seq (.reg [
    ⟨.k .mv, [.c (.sl .bs ([] : List UInt8))], [4], none⟩,
    ⟨.k .mv, [.c (.b false)], [5], none⟩]) none (.seq (.seq (.reg [
    ⟨.k .mv, [.s 1], [6], none⟩,
    ⟨.k (.bin .lss), [.s 6, .c (.i .i64 (1 : Int))], [7], none⟩,
    ⟨.k .mv, [.s 7], [8], none⟩,
    ⟨.k .mv, [.s 1], [9], some (8, false)⟩,
    ⟨.k (.bin .gtr), [.s 9, .c (.i .i64 (8 : Int))], [10], some (8, false)⟩,
    ⟨.k .pick, [.s 8, .c (.b true), .s 10], [11], none⟩,
    ⟨.k .mv, [.s 11], [12], none⟩,
    ⟨.k .mv, [.s 1], [13], some (12, false)⟩,
    ⟨.k .mv, [.s 0], [14], some (12, false)⟩,
    ⟨.k (.rcall 32 1 1 0 999999), [.s 14, .s 999999], [15], some (12, false)⟩,
    ⟨.k (.bin .gtr), [.s 13, .s 15], [16], some (12, false)⟩,
    ⟨.k .pick, [.s 12, .c (.b true), .s 16], [17], none⟩]) none (.cond (.s 17) [] (.seq (.reg [
    ⟨.k .mv, [.c (.sl .bs ([] : List UInt8))], [4], none⟩,
    ⟨.k .mv, [.c (.b false)], [5], none⟩]) none .ret) .skip)) none (.seq (.reg [
    ⟨.k .mv, [.s 0], [18], none⟩,
    ⟨.k (.nc 999999 0), [.s 18], [19], none⟩,
    ⟨.k (.fa 999999 0 1), [.s 19], [20], none⟩,
    ⟨.k (.ld 999999 1 1 false), [.s 20, .s 999999], [21], none⟩,
    ⟨.k .mv, [.s 1], [22], none⟩,
    ⟨.k (.bin .add), [.s 21, .s 22], [23], none⟩,
    ⟨.k (.nc 999999 0), [.s 18], [24], none⟩,
    ⟨.k (.fa 999999 0 1), [.s 24], [25], none⟩,
    ⟨.k (.st 999999 1 1), [.s 25, .s 999999, .s 23], [999999], none⟩]) none (.seq (.reg [
    ⟨.k .mv, [.s 0], [26], none⟩,
    ⟨.k (.nc 999999 0), [.s 26], [27], none⟩,
    ⟨.k (.fa 999999 0 0), [.s 27], [28], none⟩,
    ⟨.k (.ld 999999 0 1 false), [.s 28, .s 999999], [29], none⟩,
    ⟨.k .mv, [.s 0], [30], none⟩,
    ⟨.k (.nc 999999 0), [.s 30], [31], none⟩,
    ⟨.k (.fa 999999 0 1), [.s 31], [32], none⟩,
    ⟨.k (.ld 999999 1 1 false), [.s 32, .s 999999], [33], none⟩,
    ⟨.k .mv, [.s 1], [34], none⟩,
    ⟨.k (.bin .sub), [.s 33, .s 34], [35], none⟩,
    ⟨.k .mv, [.s 0], [36], none⟩,
    ⟨.k (.nc 999999 0), [.s 36], [37], none⟩,
    ⟨.k (.fa 999999 0 1), [.s 37], [38], none⟩,
    ⟨.k (.ld 999999 1 1 false), [.s 38, .s 999999], [39], none⟩,
    ⟨.k (.sc 1 true true), [.s 29, .s 35, .s 39], [40], none⟩,
    ⟨.k .mv, [.s 40], [4], none⟩,
    ⟨.k .mv, [.c (.b true)], [5], none⟩]) none .ret)))
def rd_next.d : TFD := { np := 2, m := rd_next.m, ref := some (0, 999999), tips := [], res := [.t 4, .t 5], own := [], new := none, tnew := [] }
noncomputable def rd_next.F (r : Rdr) (n : Int) : Option (List TV) := rd_next.d.run rd_next.E [(.ag (Rdr.cells r)), (.i .i64 n)]
theorem rd_next.F_in (r : Rdr) (n : Int) {ρ : Option (List TV)} (K : ∀ (v1 : Bool) (h1 : v1 = (cond (decide (n < (1 : Int))) true (decide ((8 : Int) < n)))) (v2 : Bool) (h2 : v2 = (cond v1 true (decide ((Cur.left r) < n)))) (v3 : Int) (h3 : v3 = (IntKind.i64.wrap ((Rdr.at_ r) + n))) (v4 : List UInt8) (h4 : v4 = (List.drop ((IntKind.i64.wrap (v3 - n))).toNat (List.take (v3).toNat (Rdr.b r)))), ck (!(!(decide (n < (1 : Int)))) || (!(decide (n < (1 : Int))))) (ck ((decide (n < (1 : Int))) || (!(decide (n < (1 : Int))))) (ck (!(!v1) || ((!v1) && (Cur.good r))) (ck (!(!v1) || ((!v1) && (!v1))) (ck (v1 || (!v1)) (cond v2
    (some [(.sl .bs ([] : List UInt8)), (.b false), (.ag (Rdr.cells r))])
    (ck (cutOK (IntKind.i64.wrap (v3 - n)) v3 ((Rdr.b r)).length) (some [(.sl .bs v4), (.b true), (.ag [(.sl .bs (Rdr.b r)), (.i .i64 v3)])]))))))) = ρ) : rd_next.F r n = ρ := Eq.trans (by kernel_rfl) (K _ rfl _ rfl _ rfl _ rfl)
theorem rd_next.chk : ((Go.Proofs.Try.prog.funcs[65]?).any fun fn => chkF Go.Proofs.Try.prog (fun k => ((envL noGl rd_next.env).fs k).2) fn rd_next.d.erase) = true := by kernel_rfl
end
noncomputable section
def rd_Take.env : List (Nat × (Ctr × FSig)) := [(32, (rd_Left.c, rd_Left.sg)), (43, (clone_bs.c, clone_bs.sg))]
def rd_Take.E : TEnv := envL noGl rd_Take.env
def rd_Take.m : TM := .seq (.reg [
    ⟨.k .mv, [.c (.sl .bs ([] : List UInt8))], [4], none⟩,
    ⟨.k .mv, [.c (.b false)], [5], none⟩]) none (.seq (.seq (.reg [
    ⟨.k .mv, [.s 1], [6], none⟩,
    ⟨.k (.bin .lss), [.s 6, .c (.i .i64 (0 : Int))], [7], none⟩,
    ⟨.k .mv, [.s 7], [8], none⟩,
    ⟨.k .mv, [.s 1], [9], some (8, false)⟩,
    ⟨.k .mv, [.s 0], [10], some (8, false)⟩,
    ⟨.k (.rcall 32 1 1 0 999999), [.s 10, .s 999999], [11], some (8, false)⟩,
    ⟨.k (.bin .gtr), [.s 9, .s 11], [12], some (8, false)⟩,
    ⟨.k .pick, [.s 8, .c (.b true), .s 12], [13], none⟩]) none (.cond (.s 13) [] (.seq (.reg [
    ⟨.k .mv, [.c (.sl .bs ([] : List UInt8))], [4], none⟩,
    ⟨.k .mv, [.c (.b false)], [5], none⟩]) none .ret) .skip)) none (.seq (.reg [
    ⟨.k .mv, [.s 0], [14], none⟩,
    ⟨.k (.nc 999999 0), [.s 14], [15], none⟩,
    ⟨.k (.fa 999999 0 1), [.s 15], [16], none⟩,
    ⟨.k (.ld 999999 1 1 false), [.s 16, .s 999999], [17], none⟩,
    ⟨.k .mv, [.s 1], [18], none⟩,
    ⟨.k (.bin .add), [.s 17, .s 18], [19], none⟩,
    ⟨.k (.nc 999999 0), [.s 14], [20], none⟩,
    ⟨.k (.fa 999999 0 1), [.s 20], [21], none⟩,
    ⟨.k (.st 999999 1 1), [.s 21, .s 999999, .s 19], [999999], none⟩]) none (.seq (.reg [
    ⟨.k .mv, [.s 0], [22], none⟩,
    ⟨.k (.nc 999999 0), [.s 22], [23], none⟩,
    ⟨.k (.fa 999999 0 0), [.s 23], [24], none⟩,
    ⟨.k (.ld 999999 0 1 false), [.s 24, .s 999999], [25], none⟩,
    ⟨.k .mv, [.s 0], [26], none⟩,
    ⟨.k (.nc 999999 0), [.s 26], [27], none⟩,
    ⟨.k (.fa 999999 0 1), [.s 27], [28], none⟩,
    ⟨.k (.ld 999999 1 1 false), [.s 28, .s 999999], [29], none⟩,
    ⟨.k .mv, [.s 1], [30], none⟩,
    ⟨.k (.bin .sub), [.s 29, .s 30], [31], none⟩,
    ⟨.k .mv, [.s 0], [32], none⟩,
    ⟨.k (.nc 999999 0), [.s 32], [33], none⟩,
    ⟨.k (.fa 999999 0 1), [.s 33], [34], none⟩,
    ⟨.k (.ld 999999 1 1 false), [.s 34, .s 999999], [35], none⟩,
    ⟨.k (.sc 1 true true), [.s 25, .s 31, .s 35], [36], none⟩,
    ⟨.k (.call 43 ⟨1, none, [], [], 1, [(0, 102, 1)], none, []⟩), [.s 36, .s (lk 102)], [37, lk 102], none⟩,
    ⟨.k .mv, [.s 37], [4], none⟩,
    ⟨.k .mv, [.c (.b true)], [5], none⟩]) none .ret)))
def rd_Take.d : TFD := { np := 2, m := rd_Take.m, ref := some (0, 999999), tips := [], res := [.t 4, .t 5], own := [], new := none, tnew := [] }
noncomputable def rd_Take.F (r : Rdr) (n : Int) : Option (List TV) := rd_Take.d.run rd_Take.E [(.ag (Rdr.cells r)), (.i .i64 n)]
theorem rd_Take.F_in (r : Rdr) (n : Int) {ρ : Option (List TV)} (K : ∀ (v1 : Bool) (h1 : v1 = (cond (decide (n < (0 : Int))) true (decide ((Cur.left r) < n)))) (v2 : Int) (h2 : v2 = (IntKind.i64.wrap ((Rdr.at_ r) + n))) (v3 : List UInt8) (h3 : v3 = (List.drop ((IntKind.i64.wrap (v2 - n))).toNat (List.take (v2).toNat (Rdr.b r)))), ck (!(!(decide (n < (0 : Int)))) || ((!(decide (n < (0 : Int)))) && (Cur.good r))) (ck (!(!(decide (n < (0 : Int)))) || ((!(decide (n < (0 : Int)))) && (!(decide (n < (0 : Int)))))) (ck ((decide (n < (0 : Int))) || (!(decide (n < (0 : Int))))) (cond v1
    (some [(.sl .bs ([] : List UInt8)), (.b false), (.ag (Rdr.cells r))])
    (ck (cutOK (IntKind.i64.wrap (v2 - n)) v2 ((Rdr.b r)).length) (ck (apOK (v3).length 1) (some [(.sl .bs (v3)), (.b true), (.ag [(.sl .bs (Rdr.b r)), (.i .i64 v2)])])))))) = ρ) : rd_Take.F r n = ρ := Eq.trans (by kernel_rfl) (K _ rfl _ rfl _ rfl)
theorem rd_Take.chk : ((Go.Proofs.Try.prog.funcs[66]?).any fun fn => chkF Go.Proofs.Try.prog (fun k => ((envL noGl rd_Take.env).fs k).2) fn rd_Take.d.erase) = true := by kernel_rfl
end
noncomputable section
def rd_High.env : List (Nat × (Ctr × FSig)) := [(65, (rd_next.c, rd_next.sg))]
def rd_High.E : TEnv := envL noGl rd_High.env
def rd_High.m1 : TM := .seq (.reg [
    ⟨.k (.bin .lss), [.s 19, .s 18], [20], none⟩]) none (.seq (.cond (.s 20) [] .skip (.exit 0)) none (.seq (.block 1 [(999999, .cl [])] (.seq (.reg [
    ⟨.k (.ix 1), [.s 17, .s 19], [21], none⟩,
    ⟨.k (.lr 1 false), [.s 21], [22], none⟩,
    ⟨.k .mv, [.s 22], [10], none⟩]) none (.reg [
    ⟨.k .mv, [.s 8], [23], none⟩,
    ⟨.k (.bin .shl), [.s 23, .c (.u64 (8 : UInt64))], [24], none⟩,
    ⟨.k .mv, [.s 10], [25], none⟩,
    ⟨.k (.ci .u64), [.s 25], [26], none⟩,
    ⟨.k (.bin .or), [.s 24, .s 26], [27], none⟩,
    ⟨.k .mv, [.s 27], [8], none⟩]))) none (.reg [
    ⟨.k (.bin .add), [.s 19, .c (.i .i64 (1 : Int))], [28], none⟩,
    ⟨.k .mv, [.s 28], [19], none⟩])))
def rd_High.m : TM := .seq (.reg [
    ⟨.k .mv, [.c (.u64 (0 : UInt64))], [4], none⟩,
    ⟨.k .mv, [.c (.b false)], [5], none⟩]) none (.seq (.reg [
    ⟨.k .mv, [.s 0], [12], none⟩,
    ⟨.k .mv, [.s 1], [13], none⟩,
    ⟨.k (.call 65 ⟨2, (some (0, 999999)), [], [], 2, [], none, []⟩), [.s 12, .s 13, .s 999999], [14, 999999], none⟩,
    ⟨.k .mv, [.s 14], [11], none⟩,
    ⟨.k (.ex 0), [.s 11], [15], none⟩,
    ⟨.k (.ex 1), [.s 11], [16], none⟩,
    ⟨.k .mv, [.s 15], [6], none⟩,
    ⟨.k .mv, [.s 16], [7], none⟩]) none (.seq (.reg [
    ⟨.k .mv, [.c (.u64 (0 : UInt64))], [8], none⟩]) none (.seq (.seq (.reg [
    ⟨.k .mv, [.s 6], [17], none⟩,
    ⟨.k .len, [.s 17], [18], none⟩,
    ⟨.k .mv, [.c (.i .i64 (0 : Int))], [19], none⟩]) none (.block 0 [(999999, .cl [])] (.loop [7, 8, 17, 18, 19, 999999] [(999999, .cl [])] rd_High.m1))) none (.seq (.reg [
    ⟨.k .mv, [.s 8], [29], none⟩,
    ⟨.k .mv, [.s 7], [30], none⟩,
    ⟨.k .mv, [.s 29], [4], none⟩,
    ⟨.k .mv, [.s 30], [5], none⟩]) none .ret))))
def rd_High.d : TFD := { np := 2, m := rd_High.m, ref := some (0, 999999), tips := [], res := [.t 4, .t 5], own := [], new := none, tnew := [] }
noncomputable def rd_High.F (r : Rdr) (n : Int) : Option (List TV) := rd_High.d.run rd_High.E [(.ag (Rdr.cells r)), (.i .i64 n)]
noncomputable def rd_High.k1 : Cont (List TV) := seqK (ev _ rd_High.E (.seq (.reg [
    ⟨.k .mv, [.s 8], [29], none⟩,
    ⟨.k .mv, [.s 7], [30], none⟩,
    ⟨.k .mv, [.s 29], [4], none⟩,
    ⟨.k .mv, [.s 30], [5], none⟩]) none .ret)) none (endK rd_High.d)
noncomputable def rd_High.l1 (x0 : Bool) (x1 : UInt64) (x2 : List UInt8) (x3 : Int) (x4 : Int) (x5 : Rdr) : Option (List TV) := loopL (evO _ rd_High.E rd_High.m1) isN [7, 8, 17, 18, 19, 999999] (headT [7, 8, 17, 18, 19, 999999] [(.b x0), (.u64 x1), (.sl .bs x2), (.i .i64 x3), (.i .i64 x4), (.ag (Rdr.cells x5))]) (blockK 0 rd_High.k1)
theorem rd_High.l1_in (x0 : Bool) (x1 : UInt64) (x2 : List UInt8) (x3 : Int) (x4 : Int) (x5 : Rdr) {ρ : Option (List TV)} (K : ∀ (v1 : UInt8) (h1 : v1 = (List.getD x2 (x4).toNat (0 : UInt8))) (v2 : UInt64) (h2 : v2 = (shl64 x1 (((8 : UInt64)).toNat))) (v3 : UInt64) (h3 : v3 = (UInt64.ofInt ((v1).toNat : Int))) (v4 : Int) (h4 : v4 = (IntKind.i64.wrap (x4 + (1 : Int)))), cond (decide (x4 < x3))
    (ck (idxOK x4 (x2).length) (rd_High.l1 x0 (v2 ||| v3) x2 x3 v4 x5))
    (some [(.u64 x1), (.b x0), (.ag (Rdr.cells x5))]) = ρ) : rd_High.l1 x0 x1 x2 x3 x4 x5 = ρ := ((ev_loop _ _ _ _ _ _).trans (by kernel_rfl)).trans (K _ rfl _ rfl _ rfl _ rfl)
theorem rd_High.F_in (r : Rdr) (n : Int) {ρ : Option (List TV)} (K : ∀ (v1 : Int) (h1 : v1 = (((Cur.nx r n (Cur.ok8 r n))).length : Int)), ck (Cur.good r) (rd_High.l1 (Cur.ok8 r n) (0 : UInt64) (Cur.nx r n (Cur.ok8 r n)) v1 (0 : Int) (Cur.adv r n (Cur.ok8 r n))) = ρ) : rd_High.F r n = ρ := Eq.trans (by kernel_rfl) (K _ rfl)
theorem rd_High.chk : ((Go.Proofs.Try.prog.funcs[50]?).any fun fn => chkF Go.Proofs.Try.prog (fun k => ((envL noGl rd_High.env).fs k).2) fn rd_High.d.erase) = true := by kernel_rfl
end
noncomputable section
def cur_New.env : List (Nat × (Ctr × FSig)) := [(43, (clone_bs.c, clone_bs.sg))]
def cur_New.E : TEnv := envL noGl cur_New.env
def cur_New.m : TM := .seq (.reg [
    ⟨.k .mv, [.c (.c (.pointer none))], [2], none⟩]) none (.seq (.reg [
    ⟨.k .mv, [.s 0], [3], none⟩,
    ⟨.k (.call 43 ⟨1, none, [], [], 1, [(0, 100, 1)], none, []⟩), [.s 3, .s (lk 100)], [4, lk 100], none⟩,
    ⟨.bd [(.sl .bs ([] : List UInt8)), (.i .i64 (0 : Int))] [(0, 1)], [.s 4], [5], none⟩,
    ⟨.k (.bx 1007), [.s 5, .s 1007], [6, 1007], none⟩,
    ⟨.k .mv, [.s 6], [2], none⟩]) none .ret)
def cur_New.d : TFD := { np := 1, m := cur_New.m, ref := none, tips := [], res := [.t 2], own := [], new := some (0, 1007), tnew := [] }
noncomputable def cur_New.F (b : List UInt8) : Option (List TV) := cur_New.d.run cur_New.E [(.sl .bs b)]
theorem cur_New.F_eq (b : List UInt8) : cur_New.F b = ck (apOK (b).length 1) (some [.pt, (.ag [(.sl .bs (b)), (.i .i64 (0 : Int))])]) := by kernel_rfl
theorem cur_New.chk : ((Go.Proofs.Try.prog.funcs[30]?).any fun fn => chkF Go.Proofs.Try.prog (fun k => ((envL noGl cur_New.env).fs k).2) fn cur_New.d.erase) = true := by kernel_rfl
end
noncomputable section
def cur_number.env : List (Nat × (Ctr × FSig)) := []
def cur_number.E : TEnv := envL noGl cur_number.env
def cur_number.m : TM := .seq (.reg [
    ⟨.k .mv, [.c (.b false)], [2], none⟩]) none (.seq (.reg [
    ⟨.k .mv, [.s 0], [3], none⟩,
    ⟨.k (.bin .geq), [.s 3, .c (.i .i64 (1 : Int))], [4], none⟩,
    ⟨.k .mv, [.s 4], [5], none⟩,
    ⟨.k .mv, [.s 0], [6], some (5, true)⟩,
    ⟨.k (.bin .leq), [.s 6, .c (.i .i64 (8 : Int))], [7], some (5, true)⟩,
    ⟨.k .pick, [.s 5, .s 7, .c (.b false)], [8], none⟩,
    ⟨.k .mv, [.s 8], [2], none⟩]) none .ret)
def cur_number.d : TFD := { np := 1, m := cur_number.m, ref := none, tips := [], res := [.t 2], own := [], new := none, tnew := [] }
noncomputable def cur_number.F (n : Int) : Option (List TV) := cur_number.d.run cur_number.E [(.i .i64 n)]
theorem cur_number.F_in (n : Int) {ρ : Option (List TV)} (K : ∀ (v1 : Bool) (h1 : v1 = (cond (decide ((1 : Int) ≤ n)) (decide (n ≤ (8 : Int))) false)), ck (!(decide ((1 : Int) ≤ n)) || (decide ((1 : Int) ≤ n))) (ck (!(decide ((1 : Int) ≤ n)) || (decide ((1 : Int) ≤ n))) (some [(.b v1)])) = ρ) : cur_number.F n = ρ := Eq.trans (by kernel_rfl) (K _ rfl)
theorem cur_number.chk : ((Go.Proofs.Try.prog.funcs[67]?).any fun fn => chkF Go.Proofs.Try.prog (fun k => ((envL noGl cur_number.env).fs k).2) fn cur_number.d.erase) = true := by kernel_rfl
end
noncomputable section
def cur_Lay.env : List (Nat × (Ctr × FSig)) := []
def cur_Lay.E : TEnv := envL noGl cur_Lay.env
def cur_Lay.m : TM := .seq (.reg [
    ⟨.k .mv, [.c (.c (.pointer none))], [0], none⟩]) none (.seq (.reg [
    ⟨.bd [(.c (.slice none 0 0))] [], [], [1], none⟩,
    ⟨.bxt 1003 [(0, 100, .bs)], [.s 1, .s 1003, .s (lk 100)], [2, 1003, lk 100], none⟩,
    ⟨.k .mv, [.s 2], [0], none⟩]) none .ret)
def cur_Lay.d : TFD := { np := 0, m := cur_Lay.m, ref := none, tips := [], res := [.t 0], own := [], new := some (0, 1003), tnew := [(0, 1)] }
noncomputable def cur_Lay.F  : Option (List TV) := cur_Lay.d.run cur_Lay.E []
theorem cur_Lay.F_eq  : cur_Lay.F  = some [.pt, (.ag [(.sl .bs ([] : List UInt8))])] := by kernel_rfl
theorem cur_Lay.chk : ((Go.Proofs.Try.prog.funcs[22]?).any fun fn => chkF Go.Proofs.Try.prog (fun k => ((envL noGl cur_Lay.env).fs k).2) fn cur_Lay.d.erase) = true := by kernel_rfl
end
noncomputable section
def wr_Byte.env : List (Nat × (Ctr × FSig)) := []
def wr_Byte.E : TEnv := envL noGl wr_Byte.env
def wr_Byte.m : TM := .reg [
    ⟨.k .mv, [.s 0], [4], none⟩,
    ⟨.k .mv, [.s 0], [5], none⟩,
    ⟨.k (.nc 999999 0), [.s 5], [6], none⟩,
    ⟨.k (.fa 999999 0 0), [.s 6], [7], none⟩,
    ⟨.k (.ld 999999 0 1 false), [.s 7, .s 999999], [8], none⟩,
    ⟨.k .mv, [.s 1], [9], none⟩,
    ⟨.k (.ci .u8), [.s 9], [10], none⟩,
    ⟨.bl .bs 1, [.s 10], [11], none⟩,
    ⟨.k (.ap 100 102 1 1), [.s 8, .s 11, .s (lk 100), .s (lk 102)], [12, lk 100, lk 102], none⟩,
    ⟨.k (.nc 999999 0), [.s 4], [13], none⟩,
    ⟨.k (.fa 999999 0 0), [.s 13], [14], none⟩,
    ⟨.k (.st 999999 0 1), [.s 14, .s 999999, .s 12], [999999], none⟩]
def wr_Byte.d : TFD := { np := 2, m := wr_Byte.m, ref := some (0, 999999), tips := [(0, 100, 1)], res := [], own := [], new := none, tnew := [] }
noncomputable def wr_Byte.F (w : Wtr) (v : Int) : Option (List TV) := wr_Byte.d.run wr_Byte.E [(.ag (Wtr.cells w)), (.i .i64 v)]
theorem wr_Byte.F_in (w : Wtr) (v : Int) {ρ : Option (List TV)} (K : ∀ (v1 : List UInt8) (h1 : v1 = ([(UInt8.ofInt v)] : List UInt8)), ck (apOK (((Wtr.b w)).length + (v1).length) 1) (some [(.ag [(.sl .bs ((Wtr.b w) ++ v1))])]) = ρ) : wr_Byte.F w v = ρ := Eq.trans (by kernel_rfl) (K _ rfl)
theorem wr_Byte.chk : ((Go.Proofs.Try.prog.funcs[40]?).any fun fn => chkF Go.Proofs.Try.prog (fun k => ((envL noGl wr_Byte.env).fs k).2) fn wr_Byte.d.erase) = true := by kernel_rfl
end
noncomputable section
def wr_Raw.env : List (Nat × (Ctr × FSig)) := []
def wr_Raw.E : TEnv := envL noGl wr_Raw.env
def wr_Raw.m : TM := .reg [
    ⟨.k .mv, [.s 0], [4], none⟩,
    ⟨.k .mv, [.s 0], [5], none⟩,
    ⟨.k (.nc 999999 0), [.s 5], [6], none⟩,
    ⟨.k (.fa 999999 0 0), [.s 6], [7], none⟩,
    ⟨.k (.ld 999999 0 1 false), [.s 7, .s 999999], [8], none⟩,
    ⟨.k .mv, [.s 1], [9], none⟩,
    ⟨.k (.ap 100 101 1 1), [.s 8, .s 9, .s (lk 100), .s (lk 101)], [10, lk 100, lk 101], none⟩,
    ⟨.k (.nc 999999 0), [.s 4], [11], none⟩,
    ⟨.k (.fa 999999 0 0), [.s 11], [12], none⟩,
    ⟨.k (.st 999999 0 1), [.s 12, .s 999999, .s 10], [999999], none⟩]
def wr_Raw.d : TFD := { np := 2, m := wr_Raw.m, ref := some (0, 999999), tips := [(0, 100, 1)], res := [], own := [], new := none, tnew := [] }
noncomputable def wr_Raw.F (w : Wtr) (b : List UInt8) : Option (List TV) := wr_Raw.d.run wr_Raw.E [(.ag (Wtr.cells w)), (.sl .bs b)]
theorem wr_Raw.F_eq (w : Wtr) (b : List UInt8) : wr_Raw.F w b = ck (apOK (((Wtr.b w)).length + (b).length) 1) (some [(.ag [(.sl .bs ((Wtr.b w) ++ b))])]) := by kernel_rfl
theorem wr_Raw.chk : ((Go.Proofs.Try.prog.funcs[42]?).any fun fn => chkF Go.Proofs.Try.prog (fun k => ((envL noGl wr_Raw.env).fs k).2) fn wr_Raw.d.erase) = true := by kernel_rfl
end
noncomputable section
def wr_High.env : List (Nat × (Ctr × FSig)) := [(67, (cur_number.c, cur_number.sg))]
def wr_High.E : TEnv := envL noGl wr_High.env
def wr_High.m1 : TM := .seq (.seq (.reg [
    ⟨.k .mv, [.s 2], [9], none⟩,
    ⟨.k (.call 67 (.plain 1 1)), [.s 9], [10], none⟩,
    ⟨.k .mv, [.s 10], [11], none⟩,
    ⟨.k .mv, [.s 6], [12], some (11, true)⟩,
    ⟨.k (.bin .geq), [.s 12, .c (.i .i64 (0 : Int))], [13], some (11, true)⟩,
    ⟨.k .pick, [.s 11, .s 13, .c (.b false)], [14], none⟩]) none (.cond (.s 14) [] .skip (.exit 0))) none (.seq (.block 1 [(0, .ptr 999999 0), (999999, .cl [(0, 102, 1)]), (lk 102, .live 1)] (.reg [
    ⟨.k .mv, [.s 0], [17], none⟩,
    ⟨.k .mv, [.s 0], [18], none⟩,
    ⟨.k (.nc 999999 0), [.s 18], [19], none⟩,
    ⟨.k (.fa 999999 0 0), [.s 19], [20], none⟩,
    ⟨.k (.ld 999999 0 1 false), [.s 20, .s 999999], [21], none⟩,
    ⟨.k .mv, [.s 1], [22], none⟩,
    ⟨.k .mv, [.s 6], [23], none⟩,
    ⟨.k (.bin .mul), [.c (.i .i64 (8 : Int)), .s 23], [24], none⟩,
    ⟨.k (.bin .shr), [.s 22, .s 24], [25], none⟩,
    ⟨.k (.ci .u8), [.s 25], [26], none⟩,
    ⟨.bl .bs 1, [.s 26], [27], none⟩,
    ⟨.k (.ap 100 102 1 1), [.s 21, .s 27, .s (lk 100), .s (lk 102)], [28, lk 100, lk 102], none⟩,
    ⟨.k (.nc 999999 0), [.s 17], [29], none⟩,
    ⟨.k (.fa 999999 0 0), [.s 29], [30], none⟩,
    ⟨.k (.st 999999 0 1), [.s 30, .s 999999, .s 28], [999999], none⟩])) none (.reg [
    ⟨.k .mv, [.s 6], [15], none⟩,
    ⟨.k (.bin .sub), [.s 15, .c (.i .i64 (1 : Int))], [16], none⟩,
    ⟨.k .mv, [.s 16], [6], none⟩]))
def wr_High.m : TM := .seq (.reg [
    ⟨.k .mv, [.s 2], [7], none⟩,
    ⟨.k (.bin .sub), [.s 7, .c (.i .i64 (1 : Int))], [8], none⟩,
    ⟨.k .mv, [.s 8], [6], none⟩]) none (.block 0 [(999999, .cl [(0, 100, 1)]), (lk 100, .live 1)] (.loop [0, 1, 2, 6, 999999] [(0, .ptr 999999 0), (999999, .cl [(0, 100, 1)]), (lk 100, .live 1)] wr_High.m1))
def wr_High.d : TFD := { np := 3, m := wr_High.m, ref := some (0, 999999), tips := [(0, 100, 1)], res := [], own := [], new := none, tnew := [] }
noncomputable def wr_High.F (w : Wtr) (v : UInt64) (n : Int) : Option (List TV) := wr_High.d.run wr_High.E [(.ag (Wtr.cells w)), (.u64 v), (.i .i64 n)]
noncomputable def wr_High.l1 (x0 : UInt64) (x1 : Int) (x2 : Int) (x3 : Wtr) : Option (List TV) := loopL (evO _ wr_High.E wr_High.m1) isN [0, 1, 2, 6, 999999] (headT [0, 1, 2, 6, 999999] [.pt, (.u64 x0), (.i .i64 x1), (.i .i64 x2), (.ag (Wtr.cells x3))]) (blockK 0 (endK wr_High.d))
theorem wr_High.l1_in (x0 : UInt64) (x1 : Int) (x2 : Int) (x3 : Wtr) {ρ : Option (List TV)} (K : ∀ (v1 : Bool) (h1 : v1 = (cond (decide (1 ≤ x1 ∧ x1 ≤ 8)) (decide ((0 : Int) ≤ x2)) false)) (v2 : Int) (h2 : v2 = (IntKind.i64.wrap ((8 : Int) * x2))) (v3 : UInt8) (h3 : v3 = (UInt8.ofInt (((shr64 x0 ((v2).toNat))).toNat : Int))) (v4 : List UInt8) (h4 : v4 = ((Wtr.b x3) ++ ([v3] : List UInt8))) (v5 : Int) (h5 : v5 = (IntKind.i64.wrap (x2 - (1 : Int)))), ck (!(decide (1 ≤ x1 ∧ x1 ≤ 8)) || (decide (1 ≤ x1 ∧ x1 ≤ 8))) (ck (!(decide (1 ≤ x1 ∧ x1 ≤ 8)) || (decide (1 ≤ x1 ∧ x1 ≤ 8))) (cond v1
    (ck (decide (0 ≤ v2)) (ck (apOK (((Wtr.b x3)).length + (([v3] : List UInt8)).length) 1) (wr_High.l1 x0 x1 v5 (Wtr.mk v4))))
    (some [(.ag (Wtr.cells x3))]))) = ρ) : wr_High.l1 x0 x1 x2 x3 = ρ := ((ev_loop _ _ _ _ _ _).trans (by kernel_rfl)).trans (K _ rfl _ rfl _ rfl _ rfl _ rfl)
theorem wr_High.F_in (w : Wtr) (v : UInt64) (n : Int) {ρ : Option (List TV)} (K : ∀ (v1 : Int) (h1 : v1 = (IntKind.i64.wrap (n - (1 : Int)))), wr_High.l1 v n v1 w = ρ) : wr_High.F w v n = ρ := Eq.trans (by kernel_rfl) (K _ rfl)
theorem wr_High.chk : ((Go.Proofs.Try.prog.funcs[58]?).any fun fn => chkF Go.Proofs.Try.prog (fun k => ((envL noGl wr_High.env).fs k).2) fn wr_High.d.erase) = true := by kernel_rfl
end
noncomputable section
def wr_Bytes.env : List (Nat × (Ctr × FSig)) := [(43, (clone_bs.c, clone_bs.sg))]
def wr_Bytes.E : TEnv := envL noGl wr_Bytes.env
def wr_Bytes.m : TM := .seq (.reg [
    ⟨.k .mv, [.c (.sl .bs ([] : List UInt8))], [2], none⟩]) none (.seq (.reg [
    ⟨.k .mv, [.s 0], [3], none⟩,
    ⟨.k (.nc 999999 0), [.s 3], [4], none⟩,
    ⟨.k (.fa 999999 0 0), [.s 4], [5], none⟩,
    ⟨.k (.ld 999999 0 1 false), [.s 5, .s 999999], [6], none⟩,
    ⟨.k (.call 43 ⟨1, none, [], [], 1, [(0, 102, 1)], none, []⟩), [.s 6, .s (lk 102)], [7, lk 102], none⟩,
    ⟨.k .mv, [.s 7], [2], none⟩]) none .ret)
def wr_Bytes.d : TFD := { np := 1, m := wr_Bytes.m, ref := some (0, 999999), tips := [(0, 100, 1)], res := [.t 2], own := [], new := none, tnew := [] }
noncomputable def wr_Bytes.F (w : Wtr) : Option (List TV) := wr_Bytes.d.run wr_Bytes.E [(.ag (Wtr.cells w))]
theorem wr_Bytes.F_eq (w : Wtr) : wr_Bytes.F w = ck (apOK (((Wtr.b w))).length 1) (some [(.sl .bs (((Wtr.b w)))), (.ag (Wtr.cells w))]) := by kernel_rfl
theorem wr_Bytes.chk : ((Go.Proofs.Try.prog.funcs[24]?).any fun fn => chkF Go.Proofs.Try.prog (fun k => ((envL noGl wr_Bytes.env).fs k).2) fn wr_Bytes.d.erase) = true := by kernel_rfl
end
noncomputable section
def mp_few.env : List (Nat × (Ctr × FSig)) := []
def mp_few.E : TEnv := envL noGl mp_few.env
def mp_few.m : TM := .seq (.reg [
    ⟨.k .mv, [.c (.b false)], [2], none⟩]) none (.seq (.reg [
    ⟨.k .mv, [.s 0], [3], none⟩,
    ⟨.k (.ci .u64), [.s 3], [4], none⟩,
    ⟨.k (.bin .lss), [.s 4, .c (.u64 (4294967296 : UInt64))], [5], none⟩,
    ⟨.k .mv, [.s 5], [2], none⟩]) none .ret)
def mp_few.d : TFD := { np := 1, m := mp_few.m, ref := none, tips := [], res := [.t 2], own := [], new := none, tnew := [] }
noncomputable def mp_few.F (n : Int) : Option (List TV) := mp_few.d.run mp_few.E [(.i .i64 n)]
theorem mp_few.F_eq (n : Int) : mp_few.F n = some [(.b (decide ((UInt64.ofInt n) < (4294967296 : UInt64))))] := by kernel_rfl
theorem mp_few.chk : ((Go.Proofs.Try.prog.funcs[45]?).any fun fn => chkF Go.Proofs.Try.prog (fun k => ((envL noGl mp_few.env).fs k).2) fn mp_few.d.erase) = true := by kernel_rfl
end
noncomputable section
def mp_fields.env : List (Nat × (Ctr × FSig)) := [(45, (mp_few.c, mp_few.sg))]
def mp_fields.E : TEnv := envL noGl mp_fields.env
def mp_fields.m1 : TM := .cond (.s 14) [(1, .ptr 1089 0), (1089, .cl [])] (.reg [
    ⟨.k (.fa 1089 0 1), [.s 1], [17], none⟩,
    ⟨.k (.st 1089 1 1), [.s 17, .s 1089, .c (.u64 (0 : UInt64))], [1089], none⟩]) (.seq (.reg [
    ⟨.k (.bin .eql), [.s 13, .c (.i .i64 (2 : Int))], [19], none⟩,
    ⟨.k .mv, [.s 19], [18], none⟩]) none (.cond (.s 18) [(1, .ptr 1089 0), (1089, .cl [])] (.reg [
    ⟨.k (.fa 1089 0 1), [.s 1], [20], none⟩,
    ⟨.k (.ld 1089 1 1 false), [.s 20, .s 1089], [21], none⟩,
    ⟨.k (.bin .lss), [.s 21, .c (.u64 (9223372036854775808 : UInt64))], [22], none⟩,
    ⟨.k .mv, [.s 22], [5], none⟩,
    ⟨.k (.fa 1089 0 1), [.s 1], [23], none⟩,
    ⟨.k (.st 1089 1 1), [.s 23, .s 1089, .c (.u64 (0 : UInt64))], [1089], none⟩]) (.seq (.reg [
    ⟨.k (.bin .eql), [.s 13, .c (.i .i64 (3 : Int))], [25], none⟩,
    ⟨.k .mv, [.s 25], [24], none⟩]) none (.cond (.s 24) [(1, .ptr 1089 0), (1089, .cl [])] (.reg [
    ⟨.k .mv, [.s 4], [26], none⟩,
    ⟨.k (.call 45 (.plain 1 1)), [.s 26], [27], none⟩,
    ⟨.k .mv, [.s 27], [5], none⟩,
    ⟨.k .mv, [.c (.i .i64 (0 : Int))], [4], none⟩]) (.seq (.reg [
    ⟨.k (.bin .eql), [.s 13, .c (.i .i64 (4 : Int))], [29], none⟩,
    ⟨.k .mv, [.s 29], [28], none⟩]) none (.cond (.s 28) [(1, .ptr 1089 0), (1089, .cl [])] (.reg [
    ⟨.k (.fa 1089 0 3), [.s 1], [30], none⟩,
    ⟨.k (.ld 1089 3 1 false), [.s 30, .s 1089], [31], none⟩,
    ⟨.k .lns, [.s 31], [32], none⟩,
    ⟨.k (.call 45 (.plain 1 1)), [.s 32], [33], none⟩,
    ⟨.k .mv, [.s 33], [5], none⟩,
    ⟨.k (.fa 1089 0 3), [.s 1], [34], none⟩,
    ⟨.k (.st 1089 3 1), [.s 34, .s 1089, .c (.s ([] : Str))], [1089], none⟩]) (.seq (.reg [
    ⟨.k (.bin .eql), [.s 13, .c (.i .i64 (5 : Int))], [36], none⟩,
    ⟨.k .mv, [.s 36], [35], none⟩]) none (.cond (.s 35) [(1, .ptr 1089 0), (1089, .cl [])] (.reg [
    ⟨.k .mv, [.s 3], [37], none⟩,
    ⟨.k (.call 45 (.plain 1 1)), [.s 37], [38], none⟩,
    ⟨.k .mv, [.s 38], [5], none⟩,
    ⟨.k .mv, [.c (.i .i64 (0 : Int))], [3], none⟩]) (.seq (.reg [
    ⟨.k (.bin .eql), [.s 13, .c (.i .i64 (6 : Int))], [40], none⟩,
    ⟨.k .mv, [.s 40], [39], none⟩]) none (.cond (.s 39) [(1, .ptr 1089 0), (1089, .cl [])] (.reg [
    ⟨.k .mv, [.s 3], [41], none⟩,
    ⟨.k (.bin .rem), [.s 41, .c (.i .i64 (2 : Int))], [42], none⟩,
    ⟨.k (.bin .eql), [.s 42, .c (.i .i64 (0 : Int))], [43], none⟩,
    ⟨.k .mv, [.s 43], [44], none⟩,
    ⟨.k .mv, [.s 3], [45], some (44, true)⟩,
    ⟨.k (.bin .quo), [.s 45, .c (.i .i64 (2 : Int))], [46], some (44, true)⟩,
    ⟨.k (.call 45 (.plain 1 1)), [.s 46], [47], some (44, true)⟩,
    ⟨.k .pick, [.s 44, .s 47, .c (.b false)], [48], none⟩,
    ⟨.k .mv, [.s 48], [5], none⟩,
    ⟨.k .mv, [.c (.i .i64 (0 : Int))], [3], none⟩]) (.seq (.reg [
    ⟨.k (.bin .eql), [.s 13, .c (.i .i64 (8 : Int))], [50], none⟩,
    ⟨.k .mv, [.s 50], [49], none⟩]) none (.cond (.s 49) [(1, .ptr 1089 0), (1089, .cl [])] (.reg [
    ⟨.k (.fa 1089 0 1), [.s 1], [51], none⟩,
    ⟨.k (.ld 1089 1 1 false), [.s 51, .s 1089], [52], none⟩,
    ⟨.k (.bin .geq), [.s 52, .c (.u64 (20 : UInt64))], [53], none⟩,
    ⟨.k .mv, [.s 53], [54], none⟩,
    ⟨.k (.fa 1089 0 1), [.s 1], [55], some (54, true)⟩,
    ⟨.k (.ld 1089 1 1 false), [.s 55, .s 1089], [56], some (54, true)⟩,
    ⟨.k (.bin .leq), [.s 56, .c (.u64 (22 : UInt64))], [57], some (54, true)⟩,
    ⟨.k .pick, [.s 54, .s 57, .c (.b false)], [58], none⟩,
    ⟨.k .mv, [.s 58], [5], none⟩,
    ⟨.k (.fa 1089 0 1), [.s 1], [59], none⟩,
    ⟨.k (.st 1089 1 1), [.s 59, .s 1089, .c (.u64 (0 : UInt64))], [1089], none⟩]) (.seq (.reg [
    ⟨.k (.bin .eql), [.s 13, .c (.i .i64 (10 : Int))], [61], none⟩,
    ⟨.k .mv, [.s 61], [60], none⟩]) none (.cond (.s 60) [(1, .ptr 1089 0), (1089, .cl [])] (.reg [
    ⟨.k (.fa 1089 0 1), [.s 1], [62], none⟩,
    ⟨.k (.ld 1089 1 1 false), [.s 62, .s 1089], [63], none⟩,
    ⟨.k (.bin .leq), [.s 63, .c (.u64 (127 : UInt64))], [64], none⟩,
    ⟨.k .mv, [.s 64], [65], none⟩,
    ⟨.k .mv, [.s 4], [66], some (65, true)⟩,
    ⟨.k (.call 45 (.plain 1 1)), [.s 66], [67], some (65, true)⟩,
    ⟨.k .pick, [.s 65, .s 67, .c (.b false)], [68], none⟩,
    ⟨.k .mv, [.s 68], [5], none⟩,
    ⟨.k (.fa 1089 0 1), [.s 1], [69], none⟩,
    ⟨.k (.st 1089 1 1), [.s 69, .s 1089, .c (.u64 (0 : UInt64))], [1089], none⟩,
    ⟨.k .mv, [.c (.i .i64 (0 : Int))], [4], none⟩]) .skip))))))))))))))
def mp_fields.m2 : TM := .seq (.reg [
    ⟨.k .mv, [.s 5], [70], none⟩,
    ⟨.k .mv, [.s 70], [71], none⟩,
    ⟨.k (.fa 1089 0 1), [.s 1], [72], some (71, true)⟩,
    ⟨.k (.ld 1089 1 1 false), [.s 72, .s 1089], [73], some (71, true)⟩,
    ⟨.k (.bin .eql), [.s 73, .c (.u64 (0 : UInt64))], [74], some (71, true)⟩,
    ⟨.k .pick, [.s 71, .s 74, .c (.b false)], [75], none⟩,
    ⟨.k .mv, [.s 75], [76], none⟩,
    ⟨.k .mv, [.s 4], [77], some (76, true)⟩,
    ⟨.k (.bin .eql), [.s 77, .c (.i .i64 (0 : Int))], [78], some (76, true)⟩,
    ⟨.k .pick, [.s 76, .s 78, .c (.b false)], [79], none⟩,
    ⟨.k .mv, [.s 79], [80], none⟩,
    ⟨.k (.fa 1089 0 3), [.s 1], [81], some (80, true)⟩,
    ⟨.k (.ld 1089 3 1 false), [.s 81, .s 1089], [82], some (80, true)⟩,
    ⟨.k (.bin .eql), [.s 82, .c (.s ([] : Str))], [83], some (80, true)⟩,
    ⟨.k .pick, [.s 80, .s 83, .c (.b false)], [84], none⟩,
    ⟨.k .mv, [.s 84], [85], none⟩,
    ⟨.k .mv, [.s 3], [86], some (85, true)⟩,
    ⟨.k (.bin .eql), [.s 86, .c (.i .i64 (0 : Int))], [87], some (85, true)⟩,
    ⟨.k .pick, [.s 85, .s 87, .c (.b false)], [88], none⟩,
    ⟨.k .mv, [.s 88], [2], none⟩]) none .ret
def mp_fields.m : TM := .seq (.reg [
    ⟨.k (.bx 1089), [.s 0, .s 1089], [1, 1089], none⟩,
    ⟨.k .mv, [.c (.b false)], [2], none⟩]) none (.seq (.reg [
    ⟨.k (.fa 1089 0 4), [.s 1], [6], none⟩,
    ⟨.k (.ld 1089 4 1 false), [.s 6, .s 1089], [7], none⟩,
    ⟨.k .len, [.s 7], [8], none⟩,
    ⟨.k (.fa 1089 0 2), [.s 1], [9], none⟩,
    ⟨.k (.ld 1089 2 1 false), [.s 9, .s 1089], [10], none⟩,
    ⟨.k .len, [.s 10], [11], none⟩,
    ⟨.k .mv, [.s 8], [3], none⟩,
    ⟨.k .mv, [.s 11], [4], none⟩]) none (.seq (.reg [
    ⟨.k .mv, [.c (.b true)], [5], none⟩]) none (.seq (.seq (.reg [
    ⟨.k (.fa 1089 0 0), [.s 1], [12], none⟩,
    ⟨.k (.ld 1089 0 1 false), [.s 12, .s 1089], [13], none⟩]) none (.block 0 [(1, .ptr 1089 0), (1089, .cl [])] (.seq (.seq (.reg [
    ⟨.k (.bin .eql), [.s 13, .c (.i .i64 (1 : Int))], [15], none⟩,
    ⟨.k .mv, [.s 15], [14], none⟩]) none (.cond (.s 14) [(1, .ptr 1089 0), (1089, .cl [])] .skip (.reg [
    ⟨.k (.bin .eql), [.s 13, .c (.i .i64 (9 : Int))], [16], none⟩,
    ⟨.k .mv, [.s 16], [14], none⟩]))) (some [1, 3, 4, 5, 13, 14, 1089]) mp_fields.m1))) (some [1, 3, 4, 5, 1089]) mp_fields.m2)))
def mp_fields.d : TFD := { np := 1, m := mp_fields.m, ref := none, tips := [], res := [.t 2], own := [], new := none, tnew := [] }
noncomputable def mp_fields.F (it : Itv) : Option (List TV) := mp_fields.d.run mp_fields.E [(.ag (Itv.cells it))]
noncomputable def mp_fields.k1 : Cont (List TV) := seqK (evO _ mp_fields.E mp_fields.m2) (some [1, 3, 4, 5, 1089]) (endK mp_fields.d)
noncomputable def mp_fields.j1 (x0 : Int) (x1 : Int) (x2 : Bool) (x3 : Int) (x4 : Bool) (x5 : Itv) : Option (List TV) := evO _ mp_fields.E mp_fields.m1 (headT [1, 3, 4, 5, 13, 14, 1089] [.pt, (.i .i64 x0), (.i .i64 x1), (.b x2), (.i .i64 x3), (.b x4), (.ag (Itv.cells x5))]) (blockK 0 mp_fields.k1)
noncomputable def mp_fields.j2 (x0 : Int) (x1 : Int) (x2 : Bool) (x3 : Itv) : Option (List TV) := evO _ mp_fields.E mp_fields.m2 (headT [1, 3, 4, 5, 1089] [.pt, (.i .i64 x0), (.i .i64 x1), (.b x2), (.ag (Itv.cells x3))]) (endK mp_fields.d)
theorem mp_fields.j1_in (x0 : Int) (x1 : Int) (x2 : Bool) (x3 : Int) (x4 : Bool) (x5 : Itv) {ρ : Option (List TV)} (K : ∀ (v1 : Int) (h1 : v1 = (((Itv.text x5)).length : Int)) (v2 : Int) (h2 : v2 = (IntKind.i64.wrap (Int.tdiv x0 (2 : Int)))) (v3 : Bool) (h3 : v3 = (cond (decide ((Int.tmod x0 (2 : Int)) = (0 : Int))) (decide (v2 < 4294967296)) false)) (v4 : Bool) (h4 : v4 = (cond (decide ((20 : UInt64) ≤ (Itv.n x5))) (decide ((Itv.n x5) ≤ (22 : UInt64))) false)) (v5 : Bool) (h5 : v5 = (cond (decide ((Itv.n x5) ≤ (127 : UInt64))) (decide (x1 < 4294967296)) false)), cond x4
    (mp_fields.j2 x0 x1 x2 (Itv.mk (Itv.kind x5) (0 : UInt64) (Itv.bytes x5) (Itv.text x5) (Itv.kids x5)))
    (cond (decide (x3 = (2 : Int)))
    (mp_fields.j2 x0 x1 (decide ((Itv.n x5) < (9223372036854775808 : UInt64))) (Itv.mk (Itv.kind x5) (0 : UInt64) (Itv.bytes x5) (Itv.text x5) (Itv.kids x5)))
    (cond (decide (x3 = (3 : Int)))
    (ck (decide (0 ≤ x1 ∧ x1 ≤ 1099511627776)) (mp_fields.j2 x0 (0 : Int) (decide (x1 < 4294967296)) x5))
    (cond (decide (x3 = (4 : Int)))
    (ck (decide (0 ≤ v1 ∧ v1 ≤ 1099511627776)) (mp_fields.j2 x0 x1 (decide (v1 < 4294967296)) (Itv.mk (Itv.kind x5) (Itv.n x5) (Itv.bytes x5) ([] : Str) (Itv.kids x5))))
    (cond (decide (x3 = (5 : Int)))
    (ck (decide (0 ≤ x0 ∧ x0 ≤ 1099511627776)) (mp_fields.j2 (0 : Int) x1 (decide (x0 < 4294967296)) x5))
    (cond (decide (x3 = (6 : Int)))
    (ck (!decide ((2 : Int) = 0)) (ck (!(decide ((Int.tmod x0 (2 : Int)) = (0 : Int))) || ((decide ((Int.tmod x0 (2 : Int)) = (0 : Int))) && (!decide ((2 : Int) = 0)))) (ck (!(decide ((Int.tmod x0 (2 : Int)) = (0 : Int))) || ((decide ((Int.tmod x0 (2 : Int)) = (0 : Int))) && (decide (0 ≤ v2 ∧ v2 ≤ 1099511627776)))) (ck (!(decide ((Int.tmod x0 (2 : Int)) = (0 : Int))) || (decide ((Int.tmod x0 (2 : Int)) = (0 : Int)))) (mp_fields.j2 (0 : Int) x1 v3 x5)))))
    (cond (decide (x3 = (8 : Int)))
    (ck (!(decide ((20 : UInt64) ≤ (Itv.n x5))) || (decide ((20 : UInt64) ≤ (Itv.n x5)))) (ck (!(decide ((20 : UInt64) ≤ (Itv.n x5))) || (decide ((20 : UInt64) ≤ (Itv.n x5)))) (ck (!(decide ((20 : UInt64) ≤ (Itv.n x5))) || (decide ((20 : UInt64) ≤ (Itv.n x5)))) (mp_fields.j2 x0 x1 v4 (Itv.mk (Itv.kind x5) (0 : UInt64) (Itv.bytes x5) (Itv.text x5) (Itv.kids x5))))))
    (cond (decide (x3 = (10 : Int)))
    (ck (!(decide ((Itv.n x5) ≤ (127 : UInt64))) || ((decide ((Itv.n x5) ≤ (127 : UInt64))) && (decide (0 ≤ x1 ∧ x1 ≤ 1099511627776)))) (ck (!(decide ((Itv.n x5) ≤ (127 : UInt64))) || (decide ((Itv.n x5) ≤ (127 : UInt64)))) (mp_fields.j2 x0 (0 : Int) v5 (Itv.mk (Itv.kind x5) (0 : UInt64) (Itv.bytes x5) (Itv.text x5) (Itv.kids x5)))))
    (mp_fields.j2 x0 x1 x2 x5)))))))) = ρ) : mp_fields.j1 x0 x1 x2 x3 x4 x5 = ρ := ((congrFun (congrFun (ev_eq _ _) _) _).trans (by kernel_rfl)).trans (K _ rfl _ rfl _ rfl _ rfl _ rfl)
theorem mp_fields.j2_in (x0 : Int) (x1 : Int) (x2 : Bool) (x3 : Itv) {ρ : Option (List TV)} (K : ∀ (v1 : Bool) (h1 : v1 = (cond x2 (decide ((Itv.n x3) = (0 : UInt64))) false)) (v2 : Bool) (h2 : v2 = (cond v1 (decide (x1 = (0 : Int))) false)) (v3 : Bool) (h3 : v3 = (cond v2 (decide ((Itv.text x3) = ([] : Str))) false)) (v4 : Bool) (h4 : v4 = (cond v3 (decide (x0 = (0 : Int))) false)), ck (!x2 || x2) (ck (!x2 || x2) (ck (!x2 || x2) (ck (!v1 || v1) (ck (!v1 || v1) (ck (!v2 || v2) (ck (!v2 || v2) (ck (!v2 || v2) (ck (!v3 || v3) (ck (!v3 || v3) (some [(.b v4)])))))))))) = ρ) : mp_fields.j2 x0 x1 x2 x3 = ρ := ((congrFun (congrFun (ev_eq _ _) _) _).trans (by kernel_rfl)).trans (K _ rfl _ rfl _ rfl _ rfl)
theorem mp_fields.F_in (it : Itv) {ρ : Option (List TV)} (K : ∀ (v1 : Int) (h1 : v1 = (((Itv.kids it)).length : Int)) (v2 : Int) (h2 : v2 = (((Itv.bytes it)).length : Int)), cond (decide ((Itv.kind it) = (1 : Int)))
    (mp_fields.j1 v1 v2 true (Itv.kind it) (decide ((Itv.kind it) = (1 : Int))) it)
    (mp_fields.j1 v1 v2 true (Itv.kind it) (decide ((Itv.kind it) = (9 : Int))) it) = ρ) : mp_fields.F it = ρ := Eq.trans (by kernel_rfl) (K _ rfl _ rfl)
theorem mp_fields.chk : ((Go.Proofs.Try.prog.funcs[26]?).any fun fn => chkF Go.Proofs.Try.prog (fun k => ((envL noGl mp_fields.env).fs k).2) fn mp_fields.d.erase) = true := by kernel_rfl
end
noncomputable section
def mp_Check.env (n : Nat) : List (Nat × (Ctr × FSig)) := [(13, (mp_Check.cn n, mp_Check.sg)), (26, (mp_fields.c, mp_fields.sg)), (27, (utf_Check.c, utf_Check.sg))]
def mp_Check.E (n : Nat) : TEnv := envL noGl (mp_Check.env n)
def mp_Check.m1 : TM := .seq (.reg [
    ⟨.k (.bin .lss), [.s 36, .s 35], [37], none⟩]) none (.seq (.cond (.s 37) [] .skip (.exit 0)) none (.seq (.block 1 [] (.seq (.reg [
    ⟨.k (.ix 5), [.s 34, .s 36], [38], none⟩,
    ⟨.k (.lr 5 true), [.s 38], [39], none⟩,
    ⟨.al 1047 [(.i .i64 (0 : Int)), (.u64 (0 : UInt64)), (.sl .bs ([] : List UInt8)), (.s ([] : Str)), (.sl .il ([] : List Itm))] [], [.s 1047], [6, 1047], none⟩,
    ⟨.k (.st 1047 0 5), [.s 6, .s 1047, .s 39], [1047], none⟩]) none (.seq (.reg [
    ⟨.k (.ld 1047 0 5 true), [.s 6, .s 1047], [40], none⟩,
    ⟨.k (.call 13 (.plain 1 1)), [.s 40], [41], none⟩,
    ⟨.k .mv, [.s 41], [7], none⟩]) none (.seq (.reg [
    ⟨.k .mv, [.s 7], [42], none⟩,
    ⟨.k (.bin .neq), [.s 42, .c (.i .i64 (0 : Int))], [43], none⟩]) none (.cond (.s 43) [] (.seq (.reg [
    ⟨.k .mv, [.s 7], [44], none⟩,
    ⟨.k .mv, [.s 44], [2], none⟩]) none .ret) .skip))))) none (.reg [
    ⟨.k (.bin .add), [.s 36, .c (.i .i64 (1 : Int))], [45], none⟩,
    ⟨.k .mv, [.s 45], [36], none⟩])))
def mp_Check.m : TM := .seq (.reg [
    ⟨.k (.bx 1046), [.s 0, .s 1046], [1, 1046], none⟩,
    ⟨.k .mv, [.c (.i .i64 (0 : Int))], [2], none⟩]) none (.seq (.seq (.reg [
    ⟨.k (.fa 1046 0 0), [.s 1], [8], none⟩,
    ⟨.k (.ld 1046 0 1 false), [.s 8, .s 1046], [9], none⟩,
    ⟨.k (.bin .lss), [.s 9, .c (.i .i64 (1 : Int))], [10], none⟩,
    ⟨.k .mv, [.s 10], [11], none⟩,
    ⟨.k (.fa 1046 0 0), [.s 1], [12], some (11, false)⟩,
    ⟨.k (.ld 1046 0 1 false), [.s 12, .s 1046], [13], some (11, false)⟩,
    ⟨.k (.bin .gtr), [.s 13, .c (.i .i64 (10 : Int))], [14], some (11, false)⟩,
    ⟨.k .pick, [.s 11, .c (.b true), .s 14], [15], none⟩,
    ⟨.k .mv, [.s 15], [16], none⟩,
    ⟨.k (.fa 1046 0 0), [.s 1], [17], some (16, false)⟩,
    ⟨.k (.ld 1046 0 1 false), [.s 17, .s 1046], [18], some (16, false)⟩,
    ⟨.k (.bin .eql), [.s 18, .c (.i .i64 (7 : Int))], [19], some (16, false)⟩,
    ⟨.k .pick, [.s 16, .c (.b true), .s 19], [20], none⟩]) none (.cond (.s 20) [] (.seq (.reg [
    ⟨.k .mv, [.c (.i .i64 (5 : Int))], [2], none⟩]) none .ret) .skip)) none (.seq (.seq (.reg [
    ⟨.k (.ld 1046 0 5 true), [.s 1, .s 1046], [21], none⟩,
    ⟨.k (.call 26 (.plain 1 1)), [.s 21], [22], none⟩,
    ⟨.k (.un .not), [.s 22], [23], none⟩]) none (.cond (.s 23) [] (.seq (.reg [
    ⟨.k .mv, [.c (.i .i64 (1 : Int))], [2], none⟩]) none .ret) .skip)) none (.seq (.seq (.reg [
    ⟨.k (.fa 1046 0 3), [.s 1], [25], none⟩,
    ⟨.k (.ld 1046 3 1 false), [.s 25, .s 1046], [26], none⟩,
    ⟨.k .sb, [.s 26], [27], none⟩,
    ⟨.k (.call 27 (.plain 1 2)), [.s 27], [28], none⟩,
    ⟨.k .mv, [.s 28], [24], none⟩,
    ⟨.k (.ex 0), [.s 24], [29], none⟩,
    ⟨.k (.ex 1), [.s 24], [30], none⟩,
    ⟨.k .mv, [.s 29], [3], none⟩,
    ⟨.k .mv, [.s 30], [4], none⟩]) none (.seq (.reg [
    ⟨.k .mv, [.s 4], [31], none⟩,
    ⟨.k (.un .not), [.s 31], [32], none⟩]) none (.cond (.s 32) [] (.seq (.reg [
    ⟨.k .mv, [.c (.i .i64 (4 : Int))], [2], none⟩]) none .ret) .skip))) none (.seq (.seq (.reg [
    ⟨.k (.fa 1046 0 4), [.s 1], [33], none⟩,
    ⟨.k (.ld 1046 4 1 false), [.s 33, .s 1046], [34], none⟩,
    ⟨.k .len, [.s 34], [35], none⟩,
    ⟨.k .mv, [.c (.i .i64 (0 : Int))], [36], none⟩]) none (.block 0 [] (.loop [34, 35, 36] [] mp_Check.m1))) none (.seq (.reg [
    ⟨.k .mv, [.c (.i .i64 (0 : Int))], [2], none⟩]) none .ret)))))
def mp_Check.d : TFD := { np := 1, m := mp_Check.m, ref := none, tips := [], res := [.t 2], own := [], new := none, tnew := [] }
noncomputable def mp_Check.F (n : Nat) (it : Itv) : Option (List TV) := mp_Check.d.run (mp_Check.E n) [(.ag (Itv.cells it))]
noncomputable def mp_Check.k1 (n : Nat) : Cont (List TV) := seqK (ev _ (mp_Check.E n) (.seq (.reg [
    ⟨.k .mv, [.c (.i .i64 (0 : Int))], [2], none⟩]) none .ret)) none (endK mp_Check.d)
noncomputable def mp_Check.l1 (n : Nat) (x0 : List Itm) (x1 : Int) (x2 : Int) : Option (List TV) := loopL (evO _ (mp_Check.E n) mp_Check.m1) isN [34, 35, 36] (headT [34, 35, 36] [(.sl .il x0), (.i .i64 x1), (.i .i64 x2)]) (blockK 0 (mp_Check.k1 n))
theorem mp_Check.l1_in (n : Nat) (x0 : List Itm) (x1 : Int) (x2 : Int) {ρ : Option (List TV)} (K : ∀ (v1 : Int) (h1 : v1 = (Mp.chk (Itm.of (Itm.val (List.getD x0 (x2).toNat (STy.dflt .il)))))) (v2 : Int) (h2 : v2 = (IntKind.i64.wrap (x2 + (1 : Int)))), cond (decide (x2 < x1))
    (ck (idxOK x2 (x0).length) (ck ((decide (Itm.bulk (Itm.of (Itm.val (List.getD x0 (x2).toNat (STy.dflt .il)))) ≤ 1099511627776)) && decide ((Itm.bulk (Itm.of (Itm.val (List.getD x0 (x2).toNat (STy.dflt .il))))) < n)) (cond (!decide (v1 = (0 : Int)))
    (some [(.i .i64 v1)])
    (mp_Check.l1 n x0 x1 v2))))
    (some [(.i .i64 (0 : Int))]) = ρ) : mp_Check.l1 n x0 x1 x2 = ρ := ((ev_loop _ _ _ _ _ _).trans (by kernel_rfl)).trans (K _ rfl _ rfl)
theorem mp_Check.F_in (n : Nat) (it : Itv) {ρ : Option (List TV)} (K : ∀ (v1 : Bool) (h1 : v1 = (cond (decide ((Itv.kind it) < (1 : Int))) true (decide ((10 : Int) < (Itv.kind it))))) (v2 : Bool) (h2 : v2 = (cond v1 true (decide ((Itv.kind it) = (7 : Int))))) (v3 : Int) (h3 : v3 = (((Utf.look ((Itv.text it))).1 : Int))) (v4 : Bool) (h4 : v4 = (!(Utf.whole ((Itv.text it))))) (v5 : Int) (h5 : v5 = (((Itv.kids it)).length : Int)), ck (!(!(decide ((Itv.kind it) < (1 : Int)))) || (!(decide ((Itv.kind it) < (1 : Int))))) (ck (!(!(decide ((Itv.kind it) < (1 : Int)))) || (!(decide ((Itv.kind it) < (1 : Int))))) (ck ((decide ((Itv.kind it) < (1 : Int))) || (!(decide ((Itv.kind it) < (1 : Int))))) (ck (!(!v1) || (!v1)) (ck (!(!v1) || (!v1)) (ck (v1 || (!v1)) (cond v2
    (some [(.i .i64 (5 : Int))])
    (ck (decide (Itm.bulk (Itm.of it) ≤ 1099511627776)) (cond (!(Mp.fieldsOK (Itm.of it)))
    (some [(.i .i64 (1 : Int))])
    (ck (lenOK ((Itv.text it)).length) (ck (decide (((Itv.text it)).length ≤ 1099511627776)) (cond v4
    (some [(.i .i64 (4 : Int))])
    (mp_Check.l1 n (Itv.kids it) v5 (0 : Int))))))))))))) = ρ) : mp_Check.F n it = ρ := Eq.trans (by kernel_rfl) (K _ rfl _ rfl _ rfl _ rfl _ rfl)
theorem mp_Check.chk (n : Nat) : ((Go.Proofs.Try.prog.funcs[13]?).any fun fn => chkF Go.Proofs.Try.prog (fun k => ((envL noGl (mp_Check.env n)).fs k).2) fn mp_Check.d.erase) = true := by kernel_rfl
end
noncomputable section
def mp_wrong.env : List (Nat × (Ctr × FSig)) := []
def mp_wrong.E : TEnv := envL noGl mp_wrong.env
def mp_wrong.m : TM := .seq (.reg [
    ⟨.al 1010 [(.i .i64 (0 : Int)), (.u64 (0 : UInt64)), (.sl .bs ([] : List UInt8)), (.s ([] : Str)), (.sl .il ([] : List Itm))] [], [.s 1010], [4, 1010], none⟩,
    ⟨.al 1011 [(.i .i64 (0 : Int)), (.i .i64 (0 : Int)), (.sl .is ([] : List Int))] [], [.s 1011], [5, 1011], none⟩]) none (.seq (.reg [
    ⟨.bd [(.i .i64 (0 : Int)), (.u64 (0 : UInt64)), (.sl .bs ([] : List UInt8)), (.s ([] : Str)), (.sl .il ([] : List Itm))] [], [], [6], none⟩,
    ⟨.k .mv, [.s 0], [7], none⟩,
    ⟨.k .mv, [.s 1], [8], none⟩,
    ⟨.bd [(.i .i64 (0 : Int)), (.i .i64 (0 : Int)), (.sl .is ([] : List Int))] [(0, 1), (1, 1)], [.s 7, .s 8], [9], none⟩,
    ⟨.k (.st 1010 0 5), [.s 4, .s 1010, .s 6], [1010], none⟩,
    ⟨.k (.st 1011 0 3), [.s 5, .s 1011, .s 9], [1011], none⟩]) none .ret)
def mp_wrong.d : TFD := { np := 2, m := mp_wrong.m, ref := none, tips := [], res := [.c 4 1010 5 true, .c 5 1011 3 true], own := [], new := none, tnew := [] }
noncomputable def mp_wrong.F (e : Int) (at_ : Int) : Option (List TV) := mp_wrong.d.run mp_wrong.E [(.i .i64 e), (.i .i64 at_)]
theorem mp_wrong.F_eq (e : Int) (at_ : Int) : mp_wrong.F e at_ = some [(.ag [(.i .i64 (0 : Int)), (.u64 (0 : UInt64)), (.sl .bs ([] : List UInt8)), (.s ([] : Str)), (.sl .il ([] : List Itm))]), (.ag [(.i .i64 e), (.i .i64 at_), (.sl .is ([] : List Int))])] := by kernel_rfl
theorem mp_wrong.chk : ((Go.Proofs.Try.prog.funcs[29]?).any fun fn => chkF Go.Proofs.Try.prog (fun k => ((envL noGl mp_wrong.env).fs k).2) fn mp_wrong.d.erase) = true := by kernel_rfl
end
noncomputable section
def mp_unsigned.env : List (Nat × (Ctr × FSig)) := []
def mp_unsigned.E : TEnv := envL noGl mp_unsigned.env
def mp_unsigned.m : TM := .seq (.reg [
    ⟨.al 1022 [(.i .i64 (0 : Int)), (.i .i64 (0 : Int))] [], [.s 1022], [2, 1022], none⟩]) none (.seq (.block 0 [(2, .ptr 1022 0), (1022, .cl [])] (.seq (.reg [
    ⟨.k .mv, [.s 0], [4], none⟩,
    ⟨.k (.bin .lss), [.s 4, .c (.u64 (128 : UInt64))], [5], none⟩,
    ⟨.k .mv, [.s 5], [3], none⟩]) none (.cond (.s 3) [] (.seq (.reg [
    ⟨.k .mv, [.s 0], [6], none⟩,
    ⟨.k (.ci .i64), [.s 6], [7], none⟩,
    ⟨.bd [(.i .i64 (0 : Int)), (.i .i64 (0 : Int))] [(0, 1), (1, 1)], [.s 7, .c (.i .i64 (0 : Int))], [8], none⟩,
    ⟨.k (.st 1022 0 2), [.s 2, .s 1022, .s 8], [1022], none⟩]) none .ret) (.seq (.reg [
    ⟨.k .mv, [.s 0], [10], none⟩,
    ⟨.k (.bin .lss), [.s 10, .c (.u64 (256 : UInt64))], [11], none⟩,
    ⟨.k .mv, [.s 11], [9], none⟩]) none (.cond (.s 9) [] (.seq (.reg [
    ⟨.bd [(.i .i64 (0 : Int)), (.i .i64 (0 : Int))] [(0, 1), (1, 1)], [.c (.i .i64 (204 : Int)), .c (.i .i64 (1 : Int))], [12], none⟩,
    ⟨.k (.st 1022 0 2), [.s 2, .s 1022, .s 12], [1022], none⟩]) none .ret) (.seq (.reg [
    ⟨.k .mv, [.s 0], [14], none⟩,
    ⟨.k (.bin .lss), [.s 14, .c (.u64 (65536 : UInt64))], [15], none⟩,
    ⟨.k .mv, [.s 15], [13], none⟩]) none (.cond (.s 13) [] (.seq (.reg [
    ⟨.bd [(.i .i64 (0 : Int)), (.i .i64 (0 : Int))] [(0, 1), (1, 1)], [.c (.i .i64 (205 : Int)), .c (.i .i64 (2 : Int))], [16], none⟩,
    ⟨.k (.st 1022 0 2), [.s 2, .s 1022, .s 16], [1022], none⟩]) none .ret) (.seq (.reg [
    ⟨.k .mv, [.s 0], [18], none⟩,
    ⟨.k (.bin .lss), [.s 18, .c (.u64 (4294967296 : UInt64))], [19], none⟩,
    ⟨.k .mv, [.s 19], [17], none⟩]) none (.cond (.s 17) [] (.seq (.reg [
    ⟨.bd [(.i .i64 (0 : Int)), (.i .i64 (0 : Int))] [(0, 1), (1, 1)], [.c (.i .i64 (206 : Int)), .c (.i .i64 (4 : Int))], [20], none⟩,
    ⟨.k (.st 1022 0 2), [.s 2, .s 1022, .s 20], [1022], none⟩]) none .ret) .skip))))))))) none (.seq (.reg [
    ⟨.bd [(.i .i64 (0 : Int)), (.i .i64 (0 : Int))] [(0, 1), (1, 1)], [.c (.i .i64 (207 : Int)), .c (.i .i64 (8 : Int))], [21], none⟩,
    ⟨.k (.st 1022 0 2), [.s 2, .s 1022, .s 21], [1022], none⟩]) none .ret))
def mp_unsigned.d : TFD := { np := 1, m := mp_unsigned.m, ref := none, tips := [], res := [.c 2 1022 2 true], own := [], new := none, tnew := [] }
noncomputable def mp_unsigned.F (n : UInt64) : Option (List TV) := mp_unsigned.d.run mp_unsigned.E [(.u64 n)]
theorem mp_unsigned.F_in (n : UInt64) {ρ : Option (List TV)} (K : ∀ (v1 : Int) (h1 : v1 = (IntKind.i64.wrap ((n).toNat : Int))), cond (decide (n < (128 : UInt64)))
    (some [(.ag [(.i .i64 v1), (.i .i64 (0 : Int))])])
    (cond (decide (n < (256 : UInt64)))
    (some [(.ag [(.i .i64 (204 : Int)), (.i .i64 (1 : Int))])])
    (cond (decide (n < (65536 : UInt64)))
    (some [(.ag [(.i .i64 (205 : Int)), (.i .i64 (2 : Int))])])
    (cond (decide (n < (4294967296 : UInt64)))
    (some [(.ag [(.i .i64 (206 : Int)), (.i .i64 (4 : Int))])])
    (some [(.ag [(.i .i64 (207 : Int)), (.i .i64 (8 : Int))])])))) = ρ) : mp_unsigned.F n = ρ := Eq.trans (by kernel_rfl) (K _ rfl)
theorem mp_unsigned.chk : ((Go.Proofs.Try.prog.funcs[38]?).any fun fn => chkF Go.Proofs.Try.prog (fun k => ((envL noGl mp_unsigned.env).fs k).2) fn mp_unsigned.d.erase) = true := by kernel_rfl
end
noncomputable section
def mp_signed.env : List (Nat × (Ctr × FSig)) := []
def mp_signed.E : TEnv := envL noGl mp_signed.env
def mp_signed.m : TM := .seq (.reg [
    ⟨.al 1023 [(.i .i64 (0 : Int)), (.i .i64 (0 : Int))] [], [.s 1023], [2, 1023], none⟩]) none (.seq (.block 0 [(2, .ptr 1023 0), (1023, .cl [])] (.seq (.reg [
    ⟨.k .mv, [.s 0], [4], none⟩,
    ⟨.k (.bin .lss), [.s 4, .c (.u64 (32 : UInt64))], [5], none⟩,
    ⟨.k .mv, [.s 5], [3], none⟩]) none (.cond (.s 3) [] (.seq (.reg [
    ⟨.k .mv, [.s 0], [6], none⟩,
    ⟨.k (.ci .i64), [.s 6], [7], none⟩,
    ⟨.k (.bin .sub), [.c (.i .i64 (255 : Int)), .s 7], [8], none⟩,
    ⟨.bd [(.i .i64 (0 : Int)), (.i .i64 (0 : Int))] [(0, 1), (1, 1)], [.s 8, .c (.i .i64 (0 : Int))], [9], none⟩,
    ⟨.k (.st 1023 0 2), [.s 2, .s 1023, .s 9], [1023], none⟩]) none .ret) (.seq (.reg [
    ⟨.k .mv, [.s 0], [11], none⟩,
    ⟨.k (.bin .lss), [.s 11, .c (.u64 (128 : UInt64))], [12], none⟩,
    ⟨.k .mv, [.s 12], [10], none⟩]) none (.cond (.s 10) [] (.seq (.reg [
    ⟨.bd [(.i .i64 (0 : Int)), (.i .i64 (0 : Int))] [(0, 1), (1, 1)], [.c (.i .i64 (208 : Int)), .c (.i .i64 (1 : Int))], [13], none⟩,
    ⟨.k (.st 1023 0 2), [.s 2, .s 1023, .s 13], [1023], none⟩]) none .ret) (.seq (.reg [
    ⟨.k .mv, [.s 0], [15], none⟩,
    ⟨.k (.bin .lss), [.s 15, .c (.u64 (32768 : UInt64))], [16], none⟩,
    ⟨.k .mv, [.s 16], [14], none⟩]) none (.cond (.s 14) [] (.seq (.reg [
    ⟨.bd [(.i .i64 (0 : Int)), (.i .i64 (0 : Int))] [(0, 1), (1, 1)], [.c (.i .i64 (209 : Int)), .c (.i .i64 (2 : Int))], [17], none⟩,
    ⟨.k (.st 1023 0 2), [.s 2, .s 1023, .s 17], [1023], none⟩]) none .ret) (.seq (.reg [
    ⟨.k .mv, [.s 0], [19], none⟩,
    ⟨.k (.bin .lss), [.s 19, .c (.u64 (2147483648 : UInt64))], [20], none⟩,
    ⟨.k .mv, [.s 20], [18], none⟩]) none (.cond (.s 18) [] (.seq (.reg [
    ⟨.bd [(.i .i64 (0 : Int)), (.i .i64 (0 : Int))] [(0, 1), (1, 1)], [.c (.i .i64 (210 : Int)), .c (.i .i64 (4 : Int))], [21], none⟩,
    ⟨.k (.st 1023 0 2), [.s 2, .s 1023, .s 21], [1023], none⟩]) none .ret) .skip))))))))) none (.seq (.reg [
    ⟨.bd [(.i .i64 (0 : Int)), (.i .i64 (0 : Int))] [(0, 1), (1, 1)], [.c (.i .i64 (211 : Int)), .c (.i .i64 (8 : Int))], [22], none⟩,
    ⟨.k (.st 1023 0 2), [.s 2, .s 1023, .s 22], [1023], none⟩]) none .ret))
def mp_signed.d : TFD := { np := 1, m := mp_signed.m, ref := none, tips := [], res := [.c 2 1023 2 true], own := [], new := none, tnew := [] }
noncomputable def mp_signed.F (n : UInt64) : Option (List TV) := mp_signed.d.run mp_signed.E [(.u64 n)]
theorem mp_signed.F_in (n : UInt64) {ρ : Option (List TV)} (K : ∀ (v1 : Int) (h1 : v1 = (IntKind.i64.wrap ((n).toNat : Int))) (v2 : Int) (h2 : v2 = (IntKind.i64.wrap ((255 : Int) - v1))), cond (decide (n < (32 : UInt64)))
    (some [(.ag [(.i .i64 v2), (.i .i64 (0 : Int))])])
    (cond (decide (n < (128 : UInt64)))
    (some [(.ag [(.i .i64 (208 : Int)), (.i .i64 (1 : Int))])])
    (cond (decide (n < (32768 : UInt64)))
    (some [(.ag [(.i .i64 (209 : Int)), (.i .i64 (2 : Int))])])
    (cond (decide (n < (2147483648 : UInt64)))
    (some [(.ag [(.i .i64 (210 : Int)), (.i .i64 (4 : Int))])])
    (some [(.ag [(.i .i64 (211 : Int)), (.i .i64 (8 : Int))])])))) = ρ) : mp_signed.F n = ρ := Eq.trans (by kernel_rfl) (K _ rfl _ rfl)
theorem mp_signed.chk : ((Go.Proofs.Try.prog.funcs[39]?).any fun fn => chkF Go.Proofs.Try.prog (fun k => ((envL noGl mp_signed.env).fs k).2) fn mp_signed.d.erase) = true := by kernel_rfl
end
noncomputable section
end
noncomputable section
def mp_put.env : List (Nat × (Ctr × FSig)) := [(40, (wr_Byte.c, wr_Byte.sg)), (58, (wr_High.c, wr_High.sg))]
def mp_put.E : TEnv := envL noGl mp_put.env
def mp_put.m : TM := .seq (.reg [
    ⟨.k (.bx 1015), [.s 1, .s 1015], [4, 1015], none⟩]) none (.seq (.reg [
    ⟨.k .mv, [.s 0], [6], none⟩,
    ⟨.k (.fa 1015 0 0), [.s 4], [7], none⟩,
    ⟨.k (.ld 1015 0 1 false), [.s 7, .s 1015], [8], none⟩,
    ⟨.k (.call 40 ⟨2, (some (0, 999999)), [(0, 100, 1)], [(0, 101, 1)], 0, [], none, []⟩), [.s 6, .s 8, .s 999999, .s (lk 100), .s (lk 101)], [9, 999999, lk 100, lk 101], none⟩]) none (.reg [
    ⟨.k .mv, [.s 0], [10], none⟩,
    ⟨.k .mv, [.s 2], [11], none⟩,
    ⟨.k (.fa 1015 0 1), [.s 4], [12], none⟩,
    ⟨.k (.ld 1015 1 1 false), [.s 12, .s 1015], [13], none⟩,
    ⟨.k (.call 58 ⟨3, (some (0, 999999)), [(0, 101, 1)], [(0, 102, 1)], 0, [], none, []⟩), [.s 10, .s 11, .s 13, .s 999999, .s (lk 101), .s (lk 102)], [14, 999999, lk 101, lk 102], none⟩]))
def mp_put.d : TFD := { np := 3, m := mp_put.m, ref := some (0, 999999), tips := [(0, 100, 1)], res := [], own := [], new := none, tnew := [] }
noncomputable def mp_put.F (w : Wtr) (f : Spn) (n : UInt64) : Option (List TV) := mp_put.d.run mp_put.E [(.ag (Wtr.cells w)), (.ag (Spn.cells f)), (.u64 n)]
theorem mp_put.F_in (w : Wtr) (f : Spn) (n : UInt64) {ρ : Option (List TV)} (K : ∀ (v1 : Wtr) (h1 : v1 = ((Wtr.mk ((w).b ++ [UInt8.ofInt ((Spn.at_ f))])))) (v2 : Wtr) (h2 : v2 = ((Wtr.mk ((v1).b ++ Cur.high n ((Spn.end_ f)))))), ck (decide ((w).b.length ≤ 1099511627776)) (ck (decide ((v1).b.length ≤ 1099511627776)) (some [(.ag (Wtr.cells v2))])) = ρ) : mp_put.F w f n = ρ := Eq.trans (by kernel_rfl) (K _ rfl _ rfl)
theorem mp_put.chk : ((Go.Proofs.Try.prog.funcs[37]?).any fun fn => chkF Go.Proofs.Try.prog (fun k => ((envL noGl mp_put.env).fs k).2) fn mp_put.d.erase) = true := by kernel_rfl
end
noncomputable section
def mp_lay.env (n : Nat) : List (Nat × (Ctr × FSig)) := [(23, (mp_lay.cn n, mp_lay.sg)), (37, (mp_put.c, mp_put.sg)), (38, (mp_unsigned.c, mp_unsigned.sg)), (39, (mp_signed.c, mp_signed.sg)), (40, (wr_Byte.c, wr_Byte.sg)), (41, (mp_sized.c, mp_sized.sg)), (42, (wr_Raw.c, wr_Raw.sg))]
def mp_lay.E (n : Nat) : TEnv := envL noGl (mp_lay.env n)
def mp_lay.m1 : TM := .seq (.reg [
    ⟨.k (.bin .lss), [.s 136, .s 135], [137], none⟩]) none (.seq (.cond (.s 137) [] .skip (.exit 1)) none (.seq (.block 2 [(0, .ptr 999999 0), (999999, .cl [(0, 117, 1)]), (lk 117, .live 1)] (.seq (.reg [
    ⟨.k (.ix 5), [.s 134, .s 136], [138], none⟩,
    ⟨.k (.lr 5 true), [.s 138], [139], none⟩,
    ⟨.al 1145 [(.i .i64 (0 : Int)), (.u64 (0 : UInt64)), (.sl .bs ([] : List UInt8)), (.s ([] : Str)), (.sl .il ([] : List Itm))] [], [.s 1145], [5, 1145], none⟩,
    ⟨.k (.st 1145 0 5), [.s 5, .s 1145, .s 139], [1145], none⟩]) none (.reg [
    ⟨.k .mv, [.s 0], [140], none⟩,
    ⟨.k (.ld 1145 0 5 true), [.s 5, .s 1145], [141], none⟩,
    ⟨.k (.call 23 ⟨2, (some (0, 999999)), [(0, 101, 1)], [(0, 117, 1)], 0, [], none, []⟩), [.s 140, .s 141, .s 999999, .s (lk 101), .s (lk 117)], [142, 999999, lk 101, lk 117], none⟩]))) none (.reg [
    ⟨.k (.bin .add), [.s 136, .c (.i .i64 (1 : Int))], [143], none⟩,
    ⟨.k .mv, [.s 143], [136], none⟩])))
def mp_lay.m2 : TM := .seq (.reg [
    ⟨.k (.fa 1144 0 4), [.s 3], [133], none⟩,
    ⟨.k (.ld 1144 4 1 false), [.s 133, .s 1144], [134], none⟩,
    ⟨.k .len, [.s 134], [135], none⟩,
    ⟨.k .mv, [.c (.i .i64 (0 : Int))], [136], none⟩]) none (.block 1 [(999999, .cl [(0, 101, 1)]), (lk 101, .live 1)] (.loop [0, 134, 135, 136, 999999] [(0, .ptr 999999 0), (999999, .cl [(0, 101, 1)]), (lk 101, .live 1)] mp_lay.m1))
def mp_lay.m : TM := .seq (.reg [
    ⟨.k (.bx 1144), [.s 1, .s 1144], [3, 1144], none⟩]) none (.seq (.seq (.reg [
    ⟨.k (.fa 1144 0 0), [.s 3], [6], none⟩,
    ⟨.k (.ld 1144 0 1 false), [.s 6, .s 1144], [7], none⟩]) none (.block 0 [(0, .ptr 999999 0), (3, .ptr 1144 0), (1144, .cl []), (999999, .cl [(0, 101, 1)]), (lk 101, .live 1)] (.seq (.reg [
    ⟨.k (.bin .eql), [.s 7, .c (.i .i64 (1 : Int))], [9], none⟩,
    ⟨.k .mv, [.s 9], [8], none⟩]) none (.cond (.s 8) [(0, .ptr 999999 0), (3, .ptr 1144 0), (1144, .cl []), (999999, .cl [(0, 101, 1)]), (lk 101, .live 1)] (.reg [
    ⟨.k .mv, [.s 0], [10], none⟩,
    ⟨.k (.fa 1144 0 1), [.s 3], [11], none⟩,
    ⟨.k (.ld 1144 1 1 false), [.s 11, .s 1144], [12], none⟩,
    ⟨.k (.call 38 (.plain 1 1)), [.s 12], [13], none⟩,
    ⟨.k (.fa 1144 0 1), [.s 3], [14], none⟩,
    ⟨.k (.ld 1144 1 1 false), [.s 14, .s 1144], [15], none⟩,
    ⟨.k (.call 37 ⟨3, (some (0, 999999)), [(0, 100, 1)], [(0, 101, 1)], 0, [], none, []⟩), [.s 10, .s 13, .s 15, .s 999999, .s (lk 100), .s (lk 101)], [16, 999999, lk 100, lk 101], none⟩]) (.seq (.reg [
    ⟨.k (.bin .eql), [.s 7, .c (.i .i64 (2 : Int))], [18], none⟩,
    ⟨.k .mv, [.s 18], [17], none⟩]) none (.cond (.s 17) [(0, .ptr 999999 0), (3, .ptr 1144 0), (1144, .cl []), (999999, .cl [(0, 102, 1)]), (lk 102, .live 1)] (.reg [
    ⟨.k .mv, [.s 0], [19], none⟩,
    ⟨.k (.fa 1144 0 1), [.s 3], [20], none⟩,
    ⟨.k (.ld 1144 1 1 false), [.s 20, .s 1144], [21], none⟩,
    ⟨.k (.call 39 (.plain 1 1)), [.s 21], [22], none⟩,
    ⟨.k (.fa 1144 0 1), [.s 3], [23], none⟩,
    ⟨.k (.ld 1144 1 1 false), [.s 23, .s 1144], [24], none⟩,
    ⟨.k (.un .xor), [.s 24], [25], none⟩,
    ⟨.k (.call 37 ⟨3, (some (0, 999999)), [(0, 100, 1)], [(0, 102, 1)], 0, [], none, []⟩), [.s 19, .s 22, .s 25, .s 999999, .s (lk 100), .s (lk 102)], [26, 999999, lk 100, lk 102], none⟩]) (.seq (.reg [
    ⟨.k (.bin .eql), [.s 7, .c (.i .i64 (8 : Int))], [28], none⟩,
    ⟨.k .mv, [.s 28], [27], none⟩]) none (.cond (.s 27) [(0, .ptr 999999 0), (3, .ptr 1144 0), (1144, .cl []), (999999, .cl [(0, 103, 1)]), (lk 103, .live 1)] (.reg [
    ⟨.k .mv, [.s 0], [29], none⟩,
    ⟨.bd [(.i .i64 (0 : Int)), (.i .i64 (0 : Int)), (.i .i64 (0 : Int))] [(0, 1), (1, 1), (2, 1)], [.c (.i .i64 (194 : Int)), .c (.i .i64 (195 : Int)), .c (.i .i64 (192 : Int))], [30], none⟩,
    ⟨.k (.fa 1144 0 1), [.s 3], [31], none⟩,
    ⟨.k (.ld 1144 1 1 false), [.s 31, .s 1144], [32], none⟩,
    ⟨.k (.bin .sub), [.s 32, .c (.u64 (20 : UInt64))], [33], none⟩,
    ⟨.k (.ai 3 1 false), [.s 30, .s 33], [34], none⟩,
    ⟨.k (.call 40 ⟨2, (some (0, 999999)), [(0, 100, 1)], [(0, 103, 1)], 0, [], none, []⟩), [.s 29, .s 34, .s 999999, .s (lk 100), .s (lk 103)], [35, 999999, lk 100, lk 103], none⟩]) (.seq (.reg [
    ⟨.k (.bin .eql), [.s 7, .c (.i .i64 (9 : Int))], [37], none⟩,
    ⟨.k .mv, [.s 37], [36], none⟩]) none (.cond (.s 36) [(0, .ptr 999999 0), (3, .ptr 1144 0), (1144, .cl []), (999999, .cl [(0, 104, 1)]), (lk 104, .live 1)] (.reg [
    ⟨.k .mv, [.s 0], [38], none⟩,
    ⟨.bd [(.i .i64 (0 : Int)), (.i .i64 (0 : Int))] [(0, 1), (1, 1)], [.c (.i .i64 (203 : Int)), .c (.i .i64 (8 : Int))], [39], none⟩,
    ⟨.k (.fa 1144 0 1), [.s 3], [40], none⟩,
    ⟨.k (.ld 1144 1 1 false), [.s 40, .s 1144], [41], none⟩,
    ⟨.k (.call 37 ⟨3, (some (0, 999999)), [(0, 100, 1)], [(0, 104, 1)], 0, [], none, []⟩), [.s 38, .s 39, .s 41, .s 999999, .s (lk 100), .s (lk 104)], [42, 999999, lk 100, lk 104], none⟩]) (.seq (.reg [
    ⟨.k (.bin .eql), [.s 7, .c (.i .i64 (4 : Int))], [44], none⟩,
    ⟨.k .mv, [.s 44], [43], none⟩]) none (.cond (.s 43) [(0, .ptr 999999 0), (3, .ptr 1144 0), (1144, .cl []), (999999, .cl [(0, 107, 1)]), (lk 107, .live 1)] (.seq (.reg [
    ⟨.k .mv, [.s 0], [45], none⟩,
    ⟨.k (.fa 1144 0 0), [.s 3], [46], none⟩,
    ⟨.k (.ld 1144 0 1 false), [.s 46, .s 1144], [47], none⟩,
    ⟨.k (.fa 1144 0 3), [.s 3], [48], none⟩,
    ⟨.k (.ld 1144 3 1 false), [.s 48, .s 1144], [49], none⟩,
    ⟨.k .lns, [.s 49], [50], none⟩,
    ⟨.k (.call 41 (.plain 2 1)), [.s 47, .s 50], [51], none⟩,
    ⟨.k (.fa 1144 0 3), [.s 3], [52], none⟩,
    ⟨.k (.ld 1144 3 1 false), [.s 52, .s 1144], [53], none⟩,
    ⟨.k .lns, [.s 53], [54], none⟩,
    ⟨.k (.ci .u64), [.s 54], [55], none⟩,
    ⟨.k (.call 37 ⟨3, (some (0, 999999)), [(0, 100, 1)], [(0, 105, 1)], 0, [], none, []⟩), [.s 45, .s 51, .s 55, .s 999999, .s (lk 100), .s (lk 105)], [56, 999999, lk 100, lk 105], none⟩]) none (.reg [
    ⟨.k .mv, [.s 0], [57], none⟩,
    ⟨.k (.fa 1144 0 3), [.s 3], [58], none⟩,
    ⟨.k (.ld 1144 3 1 false), [.s 58, .s 1144], [59], none⟩,
    ⟨.k .sb, [.s 59], [60], none⟩,
    ⟨.k (.call 42 ⟨2, (some (0, 999999)), [(0, 105, 1)], [(0, 107, 1)], 0, [], none, []⟩), [.s 57, .s 60, .s 999999, .s (lk 105), .s (lk 107)], [61, 999999, lk 105, lk 107], none⟩])) (.seq (.reg [
    ⟨.k (.bin .eql), [.s 7, .c (.i .i64 (3 : Int))], [63], none⟩,
    ⟨.k .mv, [.s 63], [62], none⟩]) none (.cond (.s 62) [(0, .ptr 999999 0), (3, .ptr 1144 0), (1144, .cl []), (999999, .cl [(0, 109, 1)]), (lk 109, .live 1)] (.seq (.reg [
    ⟨.k .mv, [.s 0], [64], none⟩,
    ⟨.k (.fa 1144 0 0), [.s 3], [65], none⟩,
    ⟨.k (.ld 1144 0 1 false), [.s 65, .s 1144], [66], none⟩,
    ⟨.k (.fa 1144 0 2), [.s 3], [67], none⟩,
    ⟨.k (.ld 1144 2 1 false), [.s 67, .s 1144], [68], none⟩,
    ⟨.k .len, [.s 68], [69], none⟩,
    ⟨.k (.call 41 (.plain 2 1)), [.s 66, .s 69], [70], none⟩,
    ⟨.k (.fa 1144 0 2), [.s 3], [71], none⟩,
    ⟨.k (.ld 1144 2 1 false), [.s 71, .s 1144], [72], none⟩,
    ⟨.k .len, [.s 72], [73], none⟩,
    ⟨.k (.ci .u64), [.s 73], [74], none⟩,
    ⟨.k (.call 37 ⟨3, (some (0, 999999)), [(0, 100, 1)], [(0, 108, 1)], 0, [], none, []⟩), [.s 64, .s 70, .s 74, .s 999999, .s (lk 100), .s (lk 108)], [75, 999999, lk 100, lk 108], none⟩]) none (.reg [
    ⟨.k .mv, [.s 0], [76], none⟩,
    ⟨.k (.fa 1144 0 2), [.s 3], [77], none⟩,
    ⟨.k (.ld 1144 2 1 false), [.s 77, .s 1144], [78], none⟩,
    ⟨.k (.call 42 ⟨2, (some (0, 999999)), [(0, 108, 1)], [(0, 109, 1)], 0, [], none, []⟩), [.s 76, .s 78, .s 999999, .s (lk 108), .s (lk 109)], [79, 999999, lk 108, lk 109], none⟩])) (.seq (.reg [
    ⟨.k (.bin .eql), [.s 7, .c (.i .i64 (10 : Int))], [81], none⟩,
    ⟨.k .mv, [.s 81], [80], none⟩]) none (.cond (.s 80) [(0, .ptr 999999 0), (3, .ptr 1144 0), (1144, .cl []), (999999, .cl [(0, 112, 1)]), (lk 112, .live 1)] (.seq (.reg [
    ⟨.k .mv, [.s 0], [82], none⟩,
    ⟨.k (.fa 1144 0 0), [.s 3], [83], none⟩,
    ⟨.k (.ld 1144 0 1 false), [.s 83, .s 1144], [84], none⟩,
    ⟨.k (.fa 1144 0 2), [.s 3], [85], none⟩,
    ⟨.k (.ld 1144 2 1 false), [.s 85, .s 1144], [86], none⟩,
    ⟨.k .len, [.s 86], [87], none⟩,
    ⟨.k (.call 41 (.plain 2 1)), [.s 84, .s 87], [88], none⟩,
    ⟨.k (.fa 1144 0 2), [.s 3], [89], none⟩,
    ⟨.k (.ld 1144 2 1 false), [.s 89, .s 1144], [90], none⟩,
    ⟨.k .len, [.s 90], [91], none⟩,
    ⟨.k (.ci .u64), [.s 91], [92], none⟩,
    ⟨.k (.call 37 ⟨3, (some (0, 999999)), [(0, 100, 1)], [(0, 110, 1)], 0, [], none, []⟩), [.s 82, .s 88, .s 92, .s 999999, .s (lk 100), .s (lk 110)], [93, 999999, lk 100, lk 110], none⟩]) none (.seq (.reg [
    ⟨.k .mv, [.s 0], [94], none⟩,
    ⟨.k (.fa 1144 0 1), [.s 3], [95], none⟩,
    ⟨.k (.ld 1144 1 1 false), [.s 95, .s 1144], [96], none⟩,
    ⟨.k (.ci .i64), [.s 96], [97], none⟩,
    ⟨.k (.call 40 ⟨2, (some (0, 999999)), [(0, 110, 1)], [(0, 111, 1)], 0, [], none, []⟩), [.s 94, .s 97, .s 999999, .s (lk 110), .s (lk 111)], [98, 999999, lk 110, lk 111], none⟩]) none (.reg [
    ⟨.k .mv, [.s 0], [99], none⟩,
    ⟨.k (.fa 1144 0 2), [.s 3], [100], none⟩,
    ⟨.k (.ld 1144 2 1 false), [.s 100, .s 1144], [101], none⟩,
    ⟨.k (.call 42 ⟨2, (some (0, 999999)), [(0, 111, 1)], [(0, 112, 1)], 0, [], none, []⟩), [.s 99, .s 101, .s 999999, .s (lk 111), .s (lk 112)], [102, 999999, lk 111, lk 112], none⟩]))) (.seq (.reg [
    ⟨.k (.bin .eql), [.s 7, .c (.i .i64 (5 : Int))], [104], none⟩,
    ⟨.k .mv, [.s 104], [103], none⟩]) none (.cond (.s 103) [(0, .ptr 999999 0), (3, .ptr 1144 0), (1144, .cl []), (999999, .cl [(0, 113, 1)]), (lk 113, .live 1)] (.reg [
    ⟨.k .mv, [.s 0], [105], none⟩,
    ⟨.k (.fa 1144 0 0), [.s 3], [106], none⟩,
    ⟨.k (.ld 1144 0 1 false), [.s 106, .s 1144], [107], none⟩,
    ⟨.k (.fa 1144 0 4), [.s 3], [108], none⟩,
    ⟨.k (.ld 1144 4 1 false), [.s 108, .s 1144], [109], none⟩,
    ⟨.k .len, [.s 109], [110], none⟩,
    ⟨.k (.call 41 (.plain 2 1)), [.s 107, .s 110], [111], none⟩,
    ⟨.k (.fa 1144 0 4), [.s 3], [112], none⟩,
    ⟨.k (.ld 1144 4 1 false), [.s 112, .s 1144], [113], none⟩,
    ⟨.k .len, [.s 113], [114], none⟩,
    ⟨.k (.ci .u64), [.s 114], [115], none⟩,
    ⟨.k (.call 37 ⟨3, (some (0, 999999)), [(0, 100, 1)], [(0, 113, 1)], 0, [], none, []⟩), [.s 105, .s 111, .s 115, .s 999999, .s (lk 100), .s (lk 113)], [116, 999999, lk 100, lk 113], none⟩]) (.seq (.reg [
    ⟨.k (.bin .eql), [.s 7, .c (.i .i64 (6 : Int))], [118], none⟩,
    ⟨.k .mv, [.s 118], [117], none⟩]) none (.cond (.s 117) [(0, .ptr 999999 0), (3, .ptr 1144 0), (1144, .cl []), (999999, .cl [(0, 114, 1)]), (lk 114, .live 1)] (.reg [
    ⟨.k .mv, [.s 0], [119], none⟩,
    ⟨.k (.fa 1144 0 0), [.s 3], [120], none⟩,
    ⟨.k (.ld 1144 0 1 false), [.s 120, .s 1144], [121], none⟩,
    ⟨.k (.fa 1144 0 4), [.s 3], [122], none⟩,
    ⟨.k (.ld 1144 4 1 false), [.s 122, .s 1144], [123], none⟩,
    ⟨.k .len, [.s 123], [124], none⟩,
    ⟨.k (.bin .quo), [.s 124, .c (.i .i64 (2 : Int))], [125], none⟩,
    ⟨.k (.call 41 (.plain 2 1)), [.s 121, .s 125], [126], none⟩,
    ⟨.k (.fa 1144 0 4), [.s 3], [127], none⟩,
    ⟨.k (.ld 1144 4 1 false), [.s 127, .s 1144], [128], none⟩,
    ⟨.k .len, [.s 128], [129], none⟩,
    ⟨.k (.bin .quo), [.s 129, .c (.i .i64 (2 : Int))], [130], none⟩,
    ⟨.k (.ci .u64), [.s 130], [131], none⟩,
    ⟨.k (.call 37 ⟨3, (some (0, 999999)), [(0, 100, 1)], [(0, 114, 1)], 0, [], none, []⟩), [.s 119, .s 126, .s 131, .s 999999, .s (lk 100), .s (lk 114)], [132, 999999, lk 100, lk 114], none⟩]) .skip)))))))))))))))))))) (some [0, 3, 1144, 999999]) mp_lay.m2)
def mp_lay.d : TFD := { np := 2, m := mp_lay.m, ref := some (0, 999999), tips := [(0, 100, 1)], res := [], own := [], new := none, tnew := [] }
noncomputable def mp_lay.F (n : Nat) (w : Wtr) (it : Itv) : Option (List TV) := mp_lay.d.run (mp_lay.E n) [(.ag (Wtr.cells w)), (.ag (Itv.cells it))]
noncomputable def mp_lay.j1 (n : Nat) (x0 : Itv) (x1 : Wtr) : Option (List TV) := evO _ (mp_lay.E n) mp_lay.m2 (headT [0, 3, 1144, 999999] [.pt, .pt, (.ag (Itv.cells x0)), (.ag (Wtr.cells x1))]) (endK mp_lay.d)
noncomputable def mp_lay.l2 (n : Nat) (x0 : List Itm) (x1 : Int) (x2 : Int) (x3 : Wtr) : Option (List TV) := loopL (evO _ (mp_lay.E n) mp_lay.m1) isN [0, 134, 135, 136, 999999] (headT [0, 134, 135, 136, 999999] [.pt, (.sl .il x0), (.i .i64 x1), (.i .i64 x2), (.ag (Wtr.cells x3))]) (blockK 1 (endK mp_lay.d))
theorem mp_lay.j1_in (n : Nat) (x0 : Itv) (x1 : Wtr) {ρ : Option (List TV)} (K : ∀ (v1 : Int) (h1 : v1 = (((Itv.kids x0)).length : Int)), mp_lay.l2 n (Itv.kids x0) v1 (0 : Int) x1 = ρ) : mp_lay.j1 n x0 x1 = ρ := ((congrFun (congrFun (ev_eq _ _) _) _).trans (by kernel_rfl)).trans (K _ rfl)
theorem mp_lay.l2_in (n : Nat) (x0 : List Itm) (x1 : Int) (x2 : Int) (x3 : Wtr) {ρ : Option (List TV)} (K : ∀ (v1 : Wtr) (h1 : v1 = ((Wtr.mk ((x3).b ++ Mp.lay (Itm.of (Itm.val (List.getD x0 (x2).toNat (STy.dflt .il)))))))) (v2 : Int) (h2 : v2 = (IntKind.i64.wrap (x2 + (1 : Int)))), cond (decide (x2 < x1))
    (ck (idxOK x2 (x0).length) (ck ((decide ((x3).b.length + 16 * Itm.bulk (Itm.of (Itm.val (List.getD x0 (x2).toNat (STy.dflt .il)))) ≤ 1099511627776) && decide (Mp.chk (Itm.of (Itm.val (List.getD x0 (x2).toNat (STy.dflt .il)))) = 0)) && decide ((Itm.bulk (Itm.of (Itm.val (List.getD x0 (x2).toNat (STy.dflt .il))))) < n)) (mp_lay.l2 n x0 x1 v2 v1)))
    (some [(.ag (Wtr.cells x3))]) = ρ) : mp_lay.l2 n x0 x1 x2 x3 = ρ := ((ev_loop _ _ _ _ _ _).trans (by kernel_rfl)).trans (K _ rfl _ rfl)
theorem mp_lay.F_in (n : Nat) (w : Wtr) (it : Itv) {ρ : Option (List TV)} (K : ∀ (v1 : Wtr) (h1 : v1 = ((Wtr.mk ((w).b ++ Mp.put (((Spn.mk (Mp.unsigned ((Itv.n it))).1 (Mp.unsigned ((Itv.n it))).2)).at_, ((Spn.mk (Mp.unsigned ((Itv.n it))).1 (Mp.unsigned ((Itv.n it))).2)).end_) ((Itv.n it)))))) (v2 : Wtr) (h2 : v2 = ((Wtr.mk ((w).b ++ Mp.put (((Spn.mk (Mp.signed ((Itv.n it))).1 (Mp.signed ((Itv.n it))).2)).at_, ((Spn.mk (Mp.signed ((Itv.n it))).1 (Mp.signed ((Itv.n it))).2)).end_) ((~~~(Itv.n it))))))) (v3 : Int) (h3 : v3 = (List.getD [(194 : Int), (195 : Int), (192 : Int)] ((((((Itv.n it) - (20 : UInt64))).toNat : Int)).toNat) (0 : Int))) (v4 : Wtr) (h4 : v4 = ((Wtr.mk ((w).b ++ [UInt8.ofInt v3])))) (v5 : Wtr) (h5 : v5 = ((Wtr.mk ((w).b ++ Mp.put (((Spn.mk (203 : Int) (8 : Int))).at_, ((Spn.mk (203 : Int) (8 : Int))).end_) ((Itv.n it)))))) (v6 : Int) (h6 : v6 = (((Itv.text it)).length : Int)) (v7 : Int) (h7 : v7 = ((Mp.sized ((Itv.kind it)) v6).1)) (v8 : Int) (h8 : v8 = ((Mp.sized ((Itv.kind it)) v6).2)) (v9 : Wtr) (h9 : v9 = ((Wtr.mk ((w).b ++ Mp.put (((Spn.mk v7 v8)).at_, ((Spn.mk v7 v8)).end_) ((UInt64.ofInt v6)))))) (v10 : Wtr) (h10 : v10 = ((Wtr.mk ((v9).b ++ ((Itv.text it)))))) (v11 : Int) (h11 : v11 = (((Itv.bytes it)).length : Int)) (v12 : Int) (h12 : v12 = ((Mp.sized ((Itv.kind it)) v11).1)) (v13 : Int) (h13 : v13 = ((Mp.sized ((Itv.kind it)) v11).2)) (v14 : Wtr) (h14 : v14 = ((Wtr.mk ((w).b ++ Mp.put (((Spn.mk v12 v13)).at_, ((Spn.mk v12 v13)).end_) ((UInt64.ofInt v11)))))) (v15 : Wtr) (h15 : v15 = ((Wtr.mk ((v14).b ++ ((Itv.bytes it)))))) (v16 : Int) (h16 : v16 = (IntKind.i64.wrap (((Itv.n it)).toNat : Int))) (v17 : Wtr) (h17 : v17 = ((Wtr.mk ((v14).b ++ [UInt8.ofInt v16])))) (v18 : Wtr) (h18 : v18 = ((Wtr.mk ((v17).b ++ ((Itv.bytes it)))))) (v19 : Int) (h19 : v19 = (((Itv.kids it)).length : Int)) (v20 : Int) (h20 : v20 = ((Mp.sized ((Itv.kind it)) v19).1)) (v21 : Int) (h21 : v21 = ((Mp.sized ((Itv.kind it)) v19).2)) (v22 : Wtr) (h22 : v22 = ((Wtr.mk ((w).b ++ Mp.put (((Spn.mk v20 v21)).at_, ((Spn.mk v20 v21)).end_) ((UInt64.ofInt v19)))))) (v23 : Int) (h23 : v23 = (IntKind.i64.wrap (Int.tdiv v19 (2 : Int)))) (v24 : Int) (h24 : v24 = ((Mp.sized ((Itv.kind it)) v23).1)) (v25 : Int) (h25 : v25 = ((Mp.sized ((Itv.kind it)) v23).2)) (v26 : Wtr) (h26 : v26 = ((Wtr.mk ((w).b ++ Mp.put (((Spn.mk v24 v25)).at_, ((Spn.mk v24 v25)).end_) ((UInt64.ofInt v23)))))), cond (decide ((Itv.kind it) = (1 : Int)))
    (ck (decide ((w).b.length + 10 ≤ 1099511627776)) (mp_lay.j1 n it v1))
    (cond (decide ((Itv.kind it) = (2 : Int)))
    (ck (decide ((w).b.length + 10 ≤ 1099511627776)) (mp_lay.j1 n it v2))
    (cond (decide ((Itv.kind it) = (8 : Int)))
    (ck (idxOK ((((Itv.n it) - (20 : UInt64))).toNat : Int) 3) (ck (decide ((w).b.length ≤ 1099511627776)) (mp_lay.j1 n it v4)))
    (cond (decide ((Itv.kind it) = (9 : Int)))
    (ck (decide ((w).b.length + 10 ≤ 1099511627776)) (mp_lay.j1 n it v5))
    (cond (decide ((Itv.kind it) = (4 : Int)))
    (ck (Mp.sizeds ((Itv.kind it)) && decide (0 ≤ v6 ∧ v6 < 4294967296)) (ck (decide ((w).b.length + 10 ≤ 1099511627776)) (ck (lenOK ((Itv.text it)).length) (ck (decide ((v9).b.length + (((Itv.text it))).length ≤ 1099511627776)) (mp_lay.j1 n it v10)))))
    (cond (decide ((Itv.kind it) = (3 : Int)))
    (ck (Mp.sizeds ((Itv.kind it)) && decide (0 ≤ v11 ∧ v11 < 4294967296)) (ck (decide ((w).b.length + 10 ≤ 1099511627776)) (ck (decide ((v14).b.length + (((Itv.bytes it))).length ≤ 1099511627776)) (mp_lay.j1 n it v15))))
    (cond (decide ((Itv.kind it) = (10 : Int)))
    (ck (Mp.sizeds ((Itv.kind it)) && decide (0 ≤ v11 ∧ v11 < 4294967296)) (ck (decide ((w).b.length + 10 ≤ 1099511627776)) (ck (decide ((v14).b.length ≤ 1099511627776)) (ck (decide ((v17).b.length + (((Itv.bytes it))).length ≤ 1099511627776)) (mp_lay.j1 n it v18)))))
    (cond (decide ((Itv.kind it) = (5 : Int)))
    (ck (Mp.sizeds ((Itv.kind it)) && decide (0 ≤ v19 ∧ v19 < 4294967296)) (ck (decide ((w).b.length + 10 ≤ 1099511627776)) (mp_lay.j1 n it v22)))
    (cond (decide ((Itv.kind it) = (6 : Int)))
    (ck (!decide ((2 : Int) = 0)) (ck (Mp.sizeds ((Itv.kind it)) && decide (0 ≤ v23 ∧ v23 < 4294967296)) (ck (!decide ((2 : Int) = 0)) (ck (decide ((w).b.length + 10 ≤ 1099511627776)) (mp_lay.j1 n it v26)))))
    (mp_lay.j1 n it w))))))))) = ρ) : mp_lay.F n w it = ρ := Eq.trans (by kernel_rfl) (K _ rfl _ rfl _ rfl _ rfl _ rfl _ rfl _ rfl _ rfl _ rfl _ rfl _ rfl _ rfl _ rfl _ rfl _ rfl _ rfl _ rfl _ rfl _ rfl _ rfl _ rfl _ rfl _ rfl _ rfl _ rfl _ rfl)
theorem mp_lay.chk (n : Nat) : ((Go.Proofs.Try.prog.funcs[23]?).any fun fn => chkF Go.Proofs.Try.prog (fun k => ((envL noGl (mp_lay.env n)).fs k).2) fn mp_lay.d.erase) = true := by kernel_rfl
end
noncomputable section
def mp_Encode.env : List (Nat × (Ctr × FSig)) := [(13, (mp_Check.c, mp_Check.sg)), (22, (cur_Lay.c, cur_Lay.sg)), (23, (mp_lay.c, mp_lay.sg)), (24, (wr_Bytes.c, wr_Bytes.sg))]
def mp_Encode.E : TEnv := envL noGl mp_Encode.env
def mp_Encode.m : TM := .seq (.reg [
    ⟨.k (.bx 1017), [.s 0, .s 1017], [1, 1017], none⟩,
    ⟨.k .mv, [.c (.sl .bs ([] : List UInt8))], [2], none⟩,
    ⟨.k .mv, [.c (.i .i64 (0 : Int))], [3], none⟩]) none (.seq (.seq (.reg [
    ⟨.k (.ld 1017 0 5 true), [.s 1, .s 1017], [6], none⟩,
    ⟨.k (.call 13 (.plain 1 1)), [.s 6], [7], none⟩,
    ⟨.k .mv, [.s 7], [4], none⟩]) none (.seq (.reg [
    ⟨.k .mv, [.s 4], [8], none⟩,
    ⟨.k (.bin .neq), [.s 8, .c (.i .i64 (0 : Int))], [9], none⟩]) none (.cond (.s 9) [] (.seq (.reg [
    ⟨.k .mv, [.s 4], [10], none⟩,
    ⟨.k .mv, [.c (.sl .bs ([] : List UInt8))], [2], none⟩,
    ⟨.k .mv, [.s 10], [3], none⟩]) none .ret) .skip))) none (.seq (.reg [
    ⟨.k (.call 22 ⟨0, none, [], [], 1, [], (some (0, 1018)), [(0, 102, 1)]⟩), [.s 1018, .s (lk 102)], [11, 1018, lk 102], none⟩,
    ⟨.k .mv, [.s 11], [5], none⟩]) none (.seq (.reg [
    ⟨.k .mv, [.s 5], [12], none⟩,
    ⟨.k (.ld 1017 0 5 true), [.s 1, .s 1017], [13], none⟩,
    ⟨.k (.call 23 ⟨2, (some (0, 1018)), [(0, 102, 1)], [(0, 103, 1)], 0, [], none, []⟩), [.s 12, .s 13, .s 1018, .s (lk 102), .s (lk 103)], [14, 1018, lk 102, lk 103], none⟩]) none (.seq (.reg [
    ⟨.k .mv, [.s 5], [15], none⟩,
    ⟨.k (.call 24 ⟨1, (some (0, 1018)), [(0, 103, 1)], [(0, 104, 1)], 1, [], none, []⟩), [.s 15, .s 1018, .s (lk 103), .s (lk 104)], [16, 1018, lk 103, lk 104], none⟩,
    ⟨.k .mv, [.s 16], [2], none⟩,
    ⟨.k .mv, [.c (.i .i64 (0 : Int))], [3], none⟩]) none .ret))))
def mp_Encode.d : TFD := { np := 1, m := mp_Encode.m, ref := none, tips := [], res := [.t 2, .t 3], own := [], new := none, tnew := [] }
noncomputable def mp_Encode.F (it : Itv) : Option (List TV) := mp_Encode.d.run mp_Encode.E [(.ag (Itv.cells it))]
theorem mp_Encode.F_in (it : Itv) {ρ : Option (List TV)} (K : ∀ (v1 : Wtr) (h1 : v1 = ((Wtr.mk ((((Wtr.mk []))).b ++ Mp.lay (Itm.of it))))), ck (decide (Itm.bulk (Itm.of it) ≤ 1099511627776)) (cond (!decide ((Mp.chk (Itm.of it)) = (0 : Int)))
    (some [(.sl .bs ([] : List UInt8)), (.i .i64 (Mp.chk (Itm.of it)))])
    (ck (decide ((((Wtr.mk []))).b.length + 16 * Itm.bulk (Itm.of it) ≤ 1099511627776) && decide (Mp.chk (Itm.of it) = 0)) (ck (decide ((v1).b.length ≤ 1099511627776)) (some [(.sl .bs (((v1).b))), (.i .i64 (0 : Int))])))) = ρ) : mp_Encode.F it = ρ := Eq.trans (by kernel_rfl) (K _ rfl)
theorem mp_Encode.chk : ((Go.Proofs.Try.prog.funcs[11]?).any fun fn => chkF Go.Proofs.Try.prog (fun k => ((envL noGl mp_Encode.env).fs k).2) fn mp_Encode.d.erase) = true := by kernel_rfl
end
noncomputable section
def mp_first.env : List (Nat × (Ctr × FSig)) := []
def mp_first.E : TEnv := envL noGl mp_first.env
def mp_first.m : TM := .seq (.reg [
    ⟨.k .mv, [.c (.i .i64 (0 : Int))], [2], none⟩,
    ⟨.k .mv, [.c (.u64 (0 : UInt64))], [3], none⟩,
    ⟨.k .mv, [.c (.i .i64 (0 : Int))], [4], none⟩]) none (.seq (.block 0 [] (.seq (.reg [
    ⟨.k .mv, [.s 0], [6], none⟩,
    ⟨.k (.bin .lss), [.s 6, .c (.i .i64 (128 : Int))], [7], none⟩,
    ⟨.k .mv, [.s 7], [5], none⟩]) none (.cond (.s 5) [] (.seq (.reg [
    ⟨.k .mv, [.s 0], [8], none⟩,
    ⟨.k (.ci .u64), [.s 8], [9], none⟩,
    ⟨.k .mv, [.c (.i .i64 (1 : Int))], [2], none⟩,
    ⟨.k .mv, [.s 9], [3], none⟩,
    ⟨.k .mv, [.c (.i .i64 (0 : Int))], [4], none⟩]) none .ret) (.seq (.reg [
    ⟨.k .mv, [.s 0], [11], none⟩,
    ⟨.k (.bin .lss), [.s 11, .c (.i .i64 (144 : Int))], [12], none⟩,
    ⟨.k .mv, [.s 12], [10], none⟩]) none (.cond (.s 10) [] (.seq (.reg [
    ⟨.k .mv, [.s 0], [13], none⟩,
    ⟨.k (.bin .sub), [.s 13, .c (.i .i64 (128 : Int))], [14], none⟩,
    ⟨.k (.ci .u64), [.s 14], [15], none⟩,
    ⟨.k .mv, [.c (.i .i64 (6 : Int))], [2], none⟩,
    ⟨.k .mv, [.s 15], [3], none⟩,
    ⟨.k .mv, [.c (.i .i64 (0 : Int))], [4], none⟩]) none .ret) (.seq (.reg [
    ⟨.k .mv, [.s 0], [17], none⟩,
    ⟨.k (.bin .lss), [.s 17, .c (.i .i64 (160 : Int))], [18], none⟩,
    ⟨.k .mv, [.s 18], [16], none⟩]) none (.cond (.s 16) [] (.seq (.reg [
    ⟨.k .mv, [.s 0], [19], none⟩,
    ⟨.k (.bin .sub), [.s 19, .c (.i .i64 (144 : Int))], [20], none⟩,
    ⟨.k (.ci .u64), [.s 20], [21], none⟩,
    ⟨.k .mv, [.c (.i .i64 (5 : Int))], [2], none⟩,
    ⟨.k .mv, [.s 21], [3], none⟩,
    ⟨.k .mv, [.c (.i .i64 (0 : Int))], [4], none⟩]) none .ret) (.seq (.reg [
    ⟨.k .mv, [.s 0], [23], none⟩,
    ⟨.k (.bin .lss), [.s 23, .c (.i .i64 (192 : Int))], [24], none⟩,
    ⟨.k .mv, [.s 24], [22], none⟩]) none (.cond (.s 22) [] (.seq (.reg [
    ⟨.k .mv, [.s 0], [25], none⟩,
    ⟨.k (.bin .sub), [.s 25, .c (.i .i64 (160 : Int))], [26], none⟩,
    ⟨.k (.ci .u64), [.s 26], [27], none⟩,
    ⟨.k .mv, [.c (.i .i64 (4 : Int))], [2], none⟩,
    ⟨.k .mv, [.s 27], [3], none⟩,
    ⟨.k .mv, [.c (.i .i64 (0 : Int))], [4], none⟩]) none .ret) (.seq (.reg [
    ⟨.k .mv, [.s 0], [29], none⟩,
    ⟨.k (.bin .geq), [.s 29, .c (.i .i64 (224 : Int))], [30], none⟩,
    ⟨.k .mv, [.s 30], [28], none⟩]) none (.cond (.s 28) [] (.seq (.reg [
    ⟨.k .mv, [.s 0], [31], none⟩,
    ⟨.k (.bin .sub), [.c (.i .i64 (255 : Int)), .s 31], [32], none⟩,
    ⟨.k (.ci .u64), [.s 32], [33], none⟩,
    ⟨.k .mv, [.c (.i .i64 (2 : Int))], [2], none⟩,
    ⟨.k .mv, [.s 33], [3], none⟩,
    ⟨.k .mv, [.c (.i .i64 (0 : Int))], [4], none⟩]) none .ret) (.seq (.reg [
    ⟨.k .mv, [.s 0], [35], none⟩,
    ⟨.k (.bin .eql), [.s 35, .c (.i .i64 (192 : Int))], [36], none⟩,
    ⟨.k .mv, [.s 36], [34], none⟩]) none (.cond (.s 34) [] (.seq (.reg [
    ⟨.k .mv, [.c (.i .i64 (8 : Int))], [2], none⟩,
    ⟨.k .mv, [.c (.u64 (22 : UInt64))], [3], none⟩,
    ⟨.k .mv, [.c (.i .i64 (0 : Int))], [4], none⟩]) none .ret) (.seq (.reg [
    ⟨.k .mv, [.s 0], [38], none⟩,
    ⟨.k (.bin .eql), [.s 38, .c (.i .i64 (194 : Int))], [39], none⟩,
    ⟨.k .mv, [.s 39], [40], none⟩,
    ⟨.k .mv, [.s 0], [41], some (40, false)⟩,
    ⟨.k (.bin .eql), [.s 41, .c (.i .i64 (195 : Int))], [42], some (40, false)⟩,
    ⟨.k .pick, [.s 40, .c (.b true), .s 42], [43], none⟩,
    ⟨.k .mv, [.s 43], [37], none⟩]) none (.cond (.s 37) [] (.seq (.reg [
    ⟨.k .mv, [.s 0], [44], none⟩,
    ⟨.k (.bin .sub), [.s 44, .c (.i .i64 (194 : Int))], [45], none⟩,
    ⟨.k (.bin .add), [.s 45, .c (.i .i64 (20 : Int))], [46], none⟩,
    ⟨.k (.ci .u64), [.s 46], [47], none⟩,
    ⟨.k .mv, [.c (.i .i64 (8 : Int))], [2], none⟩,
    ⟨.k .mv, [.s 47], [3], none⟩,
    ⟨.k .mv, [.c (.i .i64 (0 : Int))], [4], none⟩]) none .ret) (.seq (.reg [
    ⟨.k .mv, [.s 0], [49], none⟩,
    ⟨.k (.bin .geq), [.s 49, .c (.i .i64 (196 : Int))], [50], none⟩,
    ⟨.k .mv, [.s 50], [51], none⟩,
    ⟨.k .mv, [.s 0], [52], some (51, true)⟩,
    ⟨.k (.bin .leq), [.s 52, .c (.i .i64 (198 : Int))], [53], some (51, true)⟩,
    ⟨.k .pick, [.s 51, .s 53, .c (.b false)], [54], none⟩,
    ⟨.k .mv, [.s 54], [48], none⟩]) none (.cond (.s 48) [] (.seq (.reg [
    ⟨.k .mv, [.s 0], [55], none⟩,
    ⟨.k (.bin .sub), [.s 55, .c (.i .i64 (196 : Int))], [56], none⟩,
    ⟨.k (.bin .shl), [.c (.i .i64 (1 : Int)), .s 56], [57], none⟩,
    ⟨.k .mv, [.c (.i .i64 (3 : Int))], [2], none⟩,
    ⟨.k .mv, [.c (.u64 (0 : UInt64))], [3], none⟩,
    ⟨.k .mv, [.s 57], [4], none⟩]) none .ret) (.seq (.reg [
    ⟨.k .mv, [.s 0], [59], none⟩,
    ⟨.k (.bin .geq), [.s 59, .c (.i .i64 (199 : Int))], [60], none⟩,
    ⟨.k .mv, [.s 60], [61], none⟩,
    ⟨.k .mv, [.s 0], [62], some (61, true)⟩,
    ⟨.k (.bin .leq), [.s 62, .c (.i .i64 (201 : Int))], [63], some (61, true)⟩,
    ⟨.k .pick, [.s 61, .s 63, .c (.b false)], [64], none⟩,
    ⟨.k .mv, [.s 64], [58], none⟩]) none (.cond (.s 58) [] (.seq (.reg [
    ⟨.k .mv, [.s 0], [65], none⟩,
    ⟨.k (.bin .sub), [.s 65, .c (.i .i64 (199 : Int))], [66], none⟩,
    ⟨.k (.bin .shl), [.c (.i .i64 (1 : Int)), .s 66], [67], none⟩,
    ⟨.k .mv, [.c (.i .i64 (10 : Int))], [2], none⟩,
    ⟨.k .mv, [.c (.u64 (0 : UInt64))], [3], none⟩,
    ⟨.k .mv, [.s 67], [4], none⟩]) none .ret) (.seq (.reg [
    ⟨.k .mv, [.s 0], [69], none⟩,
    ⟨.k (.bin .eql), [.s 69, .c (.i .i64 (203 : Int))], [70], none⟩,
    ⟨.k .mv, [.s 70], [68], none⟩]) none (.cond (.s 68) [] (.seq (.reg [
    ⟨.k .mv, [.c (.i .i64 (9 : Int))], [2], none⟩,
    ⟨.k .mv, [.c (.u64 (0 : UInt64))], [3], none⟩,
    ⟨.k .mv, [.c (.i .i64 (8 : Int))], [4], none⟩]) none .ret) (.seq (.reg [
    ⟨.k .mv, [.s 0], [72], none⟩,
    ⟨.k (.bin .geq), [.s 72, .c (.i .i64 (204 : Int))], [73], none⟩,
    ⟨.k .mv, [.s 73], [74], none⟩,
    ⟨.k .mv, [.s 0], [75], some (74, true)⟩,
    ⟨.k (.bin .leq), [.s 75, .c (.i .i64 (207 : Int))], [76], some (74, true)⟩,
    ⟨.k .pick, [.s 74, .s 76, .c (.b false)], [77], none⟩,
    ⟨.k .mv, [.s 77], [71], none⟩]) none (.cond (.s 71) [] (.seq (.reg [
    ⟨.k .mv, [.s 0], [78], none⟩,
    ⟨.k (.bin .sub), [.s 78, .c (.i .i64 (204 : Int))], [79], none⟩,
    ⟨.k (.bin .shl), [.c (.i .i64 (1 : Int)), .s 79], [80], none⟩,
    ⟨.k .mv, [.c (.i .i64 (1 : Int))], [2], none⟩,
    ⟨.k .mv, [.c (.u64 (0 : UInt64))], [3], none⟩,
    ⟨.k .mv, [.s 80], [4], none⟩]) none .ret) (.seq (.reg [
    ⟨.k .mv, [.s 0], [82], none⟩,
    ⟨.k (.bin .geq), [.s 82, .c (.i .i64 (208 : Int))], [83], none⟩,
    ⟨.k .mv, [.s 83], [84], none⟩,
    ⟨.k .mv, [.s 0], [85], some (84, true)⟩,
    ⟨.k (.bin .leq), [.s 85, .c (.i .i64 (211 : Int))], [86], some (84, true)⟩,
    ⟨.k .pick, [.s 84, .s 86, .c (.b false)], [87], none⟩,
    ⟨.k .mv, [.s 87], [81], none⟩]) none (.cond (.s 81) [] (.seq (.reg [
    ⟨.k .mv, [.s 0], [88], none⟩,
    ⟨.k (.bin .sub), [.s 88, .c (.i .i64 (208 : Int))], [89], none⟩,
    ⟨.k (.bin .shl), [.c (.i .i64 (1 : Int)), .s 89], [90], none⟩,
    ⟨.k .mv, [.c (.i .i64 (2 : Int))], [2], none⟩,
    ⟨.k .mv, [.c (.u64 (0 : UInt64))], [3], none⟩,
    ⟨.k .mv, [.s 90], [4], none⟩]) none .ret) (.seq (.reg [
    ⟨.k .mv, [.s 0], [92], none⟩,
    ⟨.k (.bin .geq), [.s 92, .c (.i .i64 (212 : Int))], [93], none⟩,
    ⟨.k .mv, [.s 93], [94], none⟩,
    ⟨.k .mv, [.s 0], [95], some (94, true)⟩,
    ⟨.k (.bin .leq), [.s 95, .c (.i .i64 (216 : Int))], [96], some (94, true)⟩,
    ⟨.k .pick, [.s 94, .s 96, .c (.b false)], [97], none⟩,
    ⟨.k .mv, [.s 97], [91], none⟩]) none (.cond (.s 91) [] (.seq (.reg [
    ⟨.k .mv, [.s 0], [98], none⟩,
    ⟨.k (.bin .sub), [.s 98, .c (.i .i64 (212 : Int))], [99], none⟩,
    ⟨.k (.bin .shl), [.c (.u64 (1 : UInt64)), .s 99], [100], none⟩,
    ⟨.k .mv, [.c (.i .i64 (10 : Int))], [2], none⟩,
    ⟨.k .mv, [.s 100], [3], none⟩,
    ⟨.k .mv, [.c (.i .i64 (0 : Int))], [4], none⟩]) none .ret) (.seq (.reg [
    ⟨.k .mv, [.s 0], [102], none⟩,
    ⟨.k (.bin .geq), [.s 102, .c (.i .i64 (217 : Int))], [103], none⟩,
    ⟨.k .mv, [.s 103], [104], none⟩,
    ⟨.k .mv, [.s 0], [105], some (104, true)⟩,
    ⟨.k (.bin .leq), [.s 105, .c (.i .i64 (219 : Int))], [106], some (104, true)⟩,
    ⟨.k .pick, [.s 104, .s 106, .c (.b false)], [107], none⟩,
    ⟨.k .mv, [.s 107], [101], none⟩]) none (.cond (.s 101) [] (.seq (.reg [
    ⟨.k .mv, [.s 0], [108], none⟩,
    ⟨.k (.bin .sub), [.s 108, .c (.i .i64 (217 : Int))], [109], none⟩,
    ⟨.k (.bin .shl), [.c (.i .i64 (1 : Int)), .s 109], [110], none⟩,
    ⟨.k .mv, [.c (.i .i64 (4 : Int))], [2], none⟩,
    ⟨.k .mv, [.c (.u64 (0 : UInt64))], [3], none⟩,
    ⟨.k .mv, [.s 110], [4], none⟩]) none .ret) (.seq (.reg [
    ⟨.k .mv, [.s 0], [112], none⟩,
    ⟨.k (.bin .eql), [.s 112, .c (.i .i64 (220 : Int))], [113], none⟩,
    ⟨.k .mv, [.s 113], [114], none⟩,
    ⟨.k .mv, [.s 0], [115], some (114, false)⟩,
    ⟨.k (.bin .eql), [.s 115, .c (.i .i64 (221 : Int))], [116], some (114, false)⟩,
    ⟨.k .pick, [.s 114, .c (.b true), .s 116], [117], none⟩,
    ⟨.k .mv, [.s 117], [111], none⟩]) none (.cond (.s 111) [] (.seq (.reg [
    ⟨.k .mv, [.s 0], [118], none⟩,
    ⟨.k (.bin .sub), [.s 118, .c (.i .i64 (220 : Int))], [119], none⟩,
    ⟨.k (.bin .shl), [.c (.i .i64 (2 : Int)), .s 119], [120], none⟩,
    ⟨.k .mv, [.c (.i .i64 (5 : Int))], [2], none⟩,
    ⟨.k .mv, [.c (.u64 (0 : UInt64))], [3], none⟩,
    ⟨.k .mv, [.s 120], [4], none⟩]) none .ret) (.seq (.reg [
    ⟨.k .mv, [.s 0], [122], none⟩,
    ⟨.k (.bin .eql), [.s 122, .c (.i .i64 (222 : Int))], [123], none⟩,
    ⟨.k .mv, [.s 123], [124], none⟩,
    ⟨.k .mv, [.s 0], [125], some (124, false)⟩,
    ⟨.k (.bin .eql), [.s 125, .c (.i .i64 (223 : Int))], [126], some (124, false)⟩,
    ⟨.k .pick, [.s 124, .c (.b true), .s 126], [127], none⟩,
    ⟨.k .mv, [.s 127], [121], none⟩]) none (.cond (.s 121) [] (.seq (.reg [
    ⟨.k .mv, [.s 0], [128], none⟩,
    ⟨.k (.bin .sub), [.s 128, .c (.i .i64 (222 : Int))], [129], none⟩,
    ⟨.k (.bin .shl), [.c (.i .i64 (2 : Int)), .s 129], [130], none⟩,
    ⟨.k .mv, [.c (.i .i64 (6 : Int))], [2], none⟩,
    ⟨.k .mv, [.c (.u64 (0 : UInt64))], [3], none⟩,
    ⟨.k .mv, [.s 130], [4], none⟩]) none .ret) .skip))))))))))))))))))))))))))))))))) none (.seq (.reg [
    ⟨.k .mv, [.c (.i .i64 (0 : Int))], [2], none⟩,
    ⟨.k .mv, [.c (.u64 (0 : UInt64))], [3], none⟩,
    ⟨.k .mv, [.c (.i .i64 (0 : Int))], [4], none⟩]) none .ret))
def mp_first.d : TFD := { np := 1, m := mp_first.m, ref := none, tips := [], res := [.t 2, .t 3, .t 4], own := [], new := none, tnew := [] }
noncomputable def mp_first.F (c : Int) : Option (List TV) := mp_first.d.run mp_first.E [(.i .i64 c)]
theorem mp_first.F_in (c : Int) {ρ : Option (List TV)} (K : ∀ (v1 : Int) (h1 : v1 = (IntKind.i64.wrap (c - (128 : Int)))) (v2 : Int) (h2 : v2 = (IntKind.i64.wrap (c - (144 : Int)))) (v3 : Int) (h3 : v3 = (IntKind.i64.wrap (c - (160 : Int)))) (v4 : Int) (h4 : v4 = (IntKind.i64.wrap ((255 : Int) - c))) (v5 : Bool) (h5 : v5 = (cond (decide (c = (194 : Int))) true (decide (c = (195 : Int))))) (v6 : Int) (h6 : v6 = (IntKind.i64.wrap (c - (194 : Int)))) (v7 : Int) (h7 : v7 = (IntKind.i64.wrap (v6 + (20 : Int)))) (v8 : Bool) (h8 : v8 = (cond (decide ((196 : Int) ≤ c)) (decide (c ≤ (198 : Int))) false)) (v9 : Int) (h9 : v9 = (IntKind.i64.wrap (c - (196 : Int)))) (v10 : Int) (h10 : v10 = (IntKind.i64.wrap ((1 : Int) * 2 ^ (min ((v9).toNat) (IntKind.i64.bits))))) (v11 : Bool) (h11 : v11 = (cond (decide ((199 : Int) ≤ c)) (decide (c ≤ (201 : Int))) false)) (v12 : Int) (h12 : v12 = (IntKind.i64.wrap (c - (199 : Int)))) (v13 : Int) (h13 : v13 = (IntKind.i64.wrap ((1 : Int) * 2 ^ (min ((v12).toNat) (IntKind.i64.bits))))) (v14 : Bool) (h14 : v14 = (cond (decide ((204 : Int) ≤ c)) (decide (c ≤ (207 : Int))) false)) (v15 : Int) (h15 : v15 = (IntKind.i64.wrap (c - (204 : Int)))) (v16 : Int) (h16 : v16 = (IntKind.i64.wrap ((1 : Int) * 2 ^ (min ((v15).toNat) (IntKind.i64.bits))))) (v17 : Bool) (h17 : v17 = (cond (decide ((208 : Int) ≤ c)) (decide (c ≤ (211 : Int))) false)) (v18 : Int) (h18 : v18 = (IntKind.i64.wrap (c - (208 : Int)))) (v19 : Int) (h19 : v19 = (IntKind.i64.wrap ((1 : Int) * 2 ^ (min ((v18).toNat) (IntKind.i64.bits))))) (v20 : Bool) (h20 : v20 = (cond (decide ((212 : Int) ≤ c)) (decide (c ≤ (216 : Int))) false)) (v21 : Int) (h21 : v21 = (IntKind.i64.wrap (c - (212 : Int)))) (v22 : UInt64) (h22 : v22 = (shl64 (1 : UInt64) ((v21).toNat))) (v23 : Bool) (h23 : v23 = (cond (decide ((217 : Int) ≤ c)) (decide (c ≤ (219 : Int))) false)) (v24 : Int) (h24 : v24 = (IntKind.i64.wrap (c - (217 : Int)))) (v25 : Int) (h25 : v25 = (IntKind.i64.wrap ((1 : Int) * 2 ^ (min ((v24).toNat) (IntKind.i64.bits))))) (v26 : Bool) (h26 : v26 = (cond (decide (c = (220 : Int))) true (decide (c = (221 : Int))))) (v27 : Int) (h27 : v27 = (IntKind.i64.wrap (c - (220 : Int)))) (v28 : Int) (h28 : v28 = (IntKind.i64.wrap ((2 : Int) * 2 ^ (min ((v27).toNat) (IntKind.i64.bits))))) (v29 : Bool) (h29 : v29 = (cond (decide (c = (222 : Int))) true (decide (c = (223 : Int))))) (v30 : Int) (h30 : v30 = (IntKind.i64.wrap (c - (222 : Int)))) (v31 : Int) (h31 : v31 = (IntKind.i64.wrap ((2 : Int) * 2 ^ (min ((v30).toNat) (IntKind.i64.bits))))), cond (decide (c < (128 : Int)))
    (some [(.i .i64 (1 : Int)), (.u64 (UInt64.ofInt c)), (.i .i64 (0 : Int))])
    (cond (decide (c < (144 : Int)))
    (some [(.i .i64 (6 : Int)), (.u64 (UInt64.ofInt v1)), (.i .i64 (0 : Int))])
    (cond (decide (c < (160 : Int)))
    (some [(.i .i64 (5 : Int)), (.u64 (UInt64.ofInt v2)), (.i .i64 (0 : Int))])
    (cond (decide (c < (192 : Int)))
    (some [(.i .i64 (4 : Int)), (.u64 (UInt64.ofInt v3)), (.i .i64 (0 : Int))])
    (cond (decide ((224 : Int) ≤ c))
    (some [(.i .i64 (2 : Int)), (.u64 (UInt64.ofInt v4)), (.i .i64 (0 : Int))])
    (cond (decide (c = (192 : Int)))
    (some [(.i .i64 (8 : Int)), (.u64 (22 : UInt64)), (.i .i64 (0 : Int))])
    (ck (!(!(decide (c = (194 : Int)))) || (!(decide (c = (194 : Int))))) (ck ((decide (c = (194 : Int))) || (!(decide (c = (194 : Int))))) (cond v5
    (some [(.i .i64 (8 : Int)), (.u64 (UInt64.ofInt v7)), (.i .i64 (0 : Int))])
    (ck (!(decide ((196 : Int) ≤ c)) || (decide ((196 : Int) ≤ c))) (ck (!(decide ((196 : Int) ≤ c)) || (decide ((196 : Int) ≤ c))) (cond v8
    (ck (decide (0 ≤ v9)) (some [(.i .i64 (3 : Int)), (.u64 (0 : UInt64)), (.i .i64 v10)]))
    (ck (!(decide ((199 : Int) ≤ c)) || (decide ((199 : Int) ≤ c))) (ck (!(decide ((199 : Int) ≤ c)) || (decide ((199 : Int) ≤ c))) (cond v11
    (ck (decide (0 ≤ v12)) (some [(.i .i64 (10 : Int)), (.u64 (0 : UInt64)), (.i .i64 v13)]))
    (cond (decide (c = (203 : Int)))
    (some [(.i .i64 (9 : Int)), (.u64 (0 : UInt64)), (.i .i64 (8 : Int))])
    (ck (!(decide ((204 : Int) ≤ c)) || (decide ((204 : Int) ≤ c))) (ck (!(decide ((204 : Int) ≤ c)) || (decide ((204 : Int) ≤ c))) (cond v14
    (ck (decide (0 ≤ v15)) (some [(.i .i64 (1 : Int)), (.u64 (0 : UInt64)), (.i .i64 v16)]))
    (ck (!(decide ((208 : Int) ≤ c)) || (decide ((208 : Int) ≤ c))) (ck (!(decide ((208 : Int) ≤ c)) || (decide ((208 : Int) ≤ c))) (cond v17
    (ck (decide (0 ≤ v18)) (some [(.i .i64 (2 : Int)), (.u64 (0 : UInt64)), (.i .i64 v19)]))
    (ck (!(decide ((212 : Int) ≤ c)) || (decide ((212 : Int) ≤ c))) (ck (!(decide ((212 : Int) ≤ c)) || (decide ((212 : Int) ≤ c))) (cond v20
    (ck (decide (0 ≤ v21)) (some [(.i .i64 (10 : Int)), (.u64 v22), (.i .i64 (0 : Int))]))
    (ck (!(decide ((217 : Int) ≤ c)) || (decide ((217 : Int) ≤ c))) (ck (!(decide ((217 : Int) ≤ c)) || (decide ((217 : Int) ≤ c))) (cond v23
    (ck (decide (0 ≤ v24)) (some [(.i .i64 (4 : Int)), (.u64 (0 : UInt64)), (.i .i64 v25)]))
    (ck (!(!(decide (c = (220 : Int)))) || (!(decide (c = (220 : Int))))) (ck ((decide (c = (220 : Int))) || (!(decide (c = (220 : Int))))) (cond v26
    (ck (decide (0 ≤ v27)) (some [(.i .i64 (5 : Int)), (.u64 (0 : UInt64)), (.i .i64 v28)]))
    (ck (!(!(decide (c = (222 : Int)))) || (!(decide (c = (222 : Int))))) (ck ((decide (c = (222 : Int))) || (!(decide (c = (222 : Int))))) (cond v29
    (ck (decide (0 ≤ v30)) (some [(.i .i64 (6 : Int)), (.u64 (0 : UInt64)), (.i .i64 v31)]))
    (some [(.i .i64 (0 : Int)), (.u64 (0 : UInt64)), (.i .i64 (0 : Int))])))))))))))))))))))))))))))))))))) = ρ) : mp_first.F c = ρ := Eq.trans (by kernel_rfl) (K _ rfl _ rfl _ rfl _ rfl _ rfl _ rfl _ rfl _ rfl _ rfl _ rfl _ rfl _ rfl _ rfl _ rfl _ rfl _ rfl _ rfl _ rfl _ rfl _ rfl _ rfl _ rfl _ rfl _ rfl _ rfl _ rfl _ rfl _ rfl _ rfl _ rfl _ rfl)
theorem mp_first.chk : ((Go.Proofs.Try.prog.funcs[49]?).any fun fn => chkF Go.Proofs.Try.prog (fun k => ((envL noGl mp_first.env).fs k).2) fn mp_first.d.erase) = true := by kernel_rfl
end
noncomputable section
def mp_number.env : List (Nat × (Ctr × FSig)) := [(29, (mp_wrong.c, mp_wrong.sg))]
def mp_number.E : TEnv := envL noGl mp_number.env
def mp_number.m : TM := .seq (.reg [
    ⟨.k (.bx 1020), [.s 0, .s 1020], [4, 1020], none⟩,
    ⟨.k (.bx 1021), [.s 3, .s 1021], [7, 1021], none⟩,
    ⟨.al 1022 [(.i .i64 (0 : Int)), (.u64 (0 : UInt64)), (.sl .bs ([] : List UInt8)), (.s ([] : Str)), (.sl .il ([] : List Itm))] [], [.s 1022], [8, 1022], none⟩,
    ⟨.al 1023 [(.i .i64 (0 : Int)), (.i .i64 (0 : Int)), (.sl .is ([] : List Int))] [], [.s 1023], [9, 1023], none⟩]) none (.seq (.seq (.reg [
    ⟨.k (.fa 1021 0 0), [.s 7], [10], none⟩,
    ⟨.k (.ld 1021 0 1 false), [.s 10, .s 1021], [11], none⟩,
    ⟨.k .mv, [.s 2], [12], none⟩,
    ⟨.k (.bin .neq), [.s 11, .s 12], [13], none⟩]) none (.cond (.s 13) [] (.seq (.reg [
    ⟨.k .mv, [.s 1], [14], none⟩,
    ⟨.k (.call 29 (.plain 2 2)), [.c (.i .i64 (3 : Int)), .s 14], [15], none⟩,
    ⟨.k (.ex 0), [.s 15], [16], none⟩,
    ⟨.k (.ex 1), [.s 15], [17], none⟩,
    ⟨.k (.st 1022 0 5), [.s 8, .s 1022, .s 16], [1022], none⟩,
    ⟨.k (.st 1023 0 3), [.s 9, .s 1023, .s 17], [1023], none⟩]) none .ret) .skip)) none (.seq (.reg [
    ⟨.k (.ld 1020 0 5 true), [.s 4, .s 1020], [18], none⟩,
    ⟨.bd [(.i .i64 (0 : Int)), (.i .i64 (0 : Int)), (.sl .is ([] : List Int))] [], [], [19], none⟩,
    ⟨.k (.st 1022 0 5), [.s 8, .s 1022, .s 18], [1022], none⟩,
    ⟨.k (.st 1023 0 3), [.s 9, .s 1023, .s 19], [1023], none⟩]) none .ret))
def mp_number.d : TFD := { np := 4, m := mp_number.m, ref := none, tips := [], res := [.c 8 1022 5 true, .c 9 1023 3 true], own := [], new := none, tnew := [] }
noncomputable def mp_number.F (it : Itv) (p : Int) (c : Int) (f : Spn) : Option (List TV) := mp_number.d.run mp_number.E [(.ag (Itv.cells it)), (.i .i64 p), (.i .i64 c), (.ag (Spn.cells f))]
theorem mp_number.F_eq (it : Itv) (p : Int) (c : Int) (f : Spn) : mp_number.F it p c f = cond (!decide ((Spn.at_ f) = c))
    (some [(.ag (Itv.cells (Itm.val (Mp.zero)))), (.ag (Flt.cells ((Flt.mk ((3 : Int)) p []))))])
    (some [(.ag (Itv.cells it)), (.ag [(.i .i64 (0 : Int)), (.i .i64 (0 : Int)), (.sl .is ([] : List Int))])]) := by kernel_rfl
theorem mp_number.chk : ((Go.Proofs.Try.prog.funcs[51]?).any fun fn => chkF Go.Proofs.Try.prog (fun k => ((envL noGl mp_number.env).fs k).2) fn mp_number.d.erase) = true := by kernel_rfl
end
noncomputable section
def mp_row.env : List (Nat × (Ctr × FSig)) := [(27, (utf_Check.c, utf_Check.sg)), (29, (mp_wrong.c, mp_wrong.sg)), (66, (rd_Take.c, rd_Take.sg))]
def mp_row.E : TEnv := envL noGl mp_row.env
def mp_row.m : TM := .seq (.reg [
    ⟨.k (.bx 1049), [.s 1, .s 1049], [5, 1049], none⟩,
    ⟨.al 1050 [(.i .i64 (0 : Int)), (.u64 (0 : UInt64)), (.sl .bs ([] : List UInt8)), (.s ([] : Str)), (.sl .il ([] : List Itm))] [], [.s 1050], [8, 1050], none⟩,
    ⟨.al 1051 [(.i .i64 (0 : Int)), (.i .i64 (0 : Int)), (.sl .is ([] : List Int))] [], [.s 1051], [9, 1051], none⟩]) none (.seq (.reg [
    ⟨.k .mv, [.s 0], [15], none⟩,
    ⟨.k .mv, [.s 3], [16], none⟩,
    ⟨.k (.call 66 ⟨2, (some (0, 999999)), [], [], 2, [], none, []⟩), [.s 15, .s 16, .s 999999], [17, 999999], none⟩,
    ⟨.k .mv, [.s 17], [14], none⟩,
    ⟨.k (.ex 0), [.s 14], [18], none⟩,
    ⟨.k (.ex 1), [.s 14], [19], none⟩,
    ⟨.k .mv, [.s 18], [10], none⟩,
    ⟨.k .mv, [.s 19], [11], none⟩]) none (.seq (.seq (.reg [
    ⟨.k .mv, [.s 11], [20], none⟩,
    ⟨.k (.un .not), [.s 20], [21], none⟩]) none (.cond (.s 21) [] (.seq (.reg [
    ⟨.k .mv, [.s 2], [22], none⟩,
    ⟨.k (.call 29 (.plain 2 2)), [.c (.i .i64 (2 : Int)), .s 22], [23], none⟩,
    ⟨.k (.ex 0), [.s 23], [24], none⟩,
    ⟨.k (.ex 1), [.s 23], [25], none⟩,
    ⟨.k (.st 1050 0 5), [.s 8, .s 1050, .s 24], [1050], none⟩,
    ⟨.k (.st 1051 0 3), [.s 9, .s 1051, .s 25], [1051], none⟩]) none .ret) .skip)) none (.seq (.seq (.reg [
    ⟨.k (.fa 1049 0 0), [.s 5], [26], none⟩,
    ⟨.k (.ld 1049 0 1 false), [.s 26, .s 1049], [27], none⟩,
    ⟨.k (.bin .neq), [.s 27, .c (.i .i64 (4 : Int))], [28], none⟩]) none (.cond (.s 28) [] (.seq (.reg [
    ⟨.k .mv, [.s 10], [29], none⟩,
    ⟨.k (.fa 1049 0 2), [.s 5], [30], none⟩,
    ⟨.k (.st 1049 2 1), [.s 30, .s 1049, .s 29], [1049], none⟩]) none (.seq (.reg [
    ⟨.k (.ld 1049 0 5 true), [.s 5, .s 1049], [31], none⟩,
    ⟨.bd [(.i .i64 (0 : Int)), (.i .i64 (0 : Int)), (.sl .is ([] : List Int))] [], [], [32], none⟩,
    ⟨.k (.st 1050 0 5), [.s 8, .s 1050, .s 31], [1050], none⟩,
    ⟨.k (.st 1051 0 3), [.s 9, .s 1051, .s 32], [1051], none⟩]) none .ret)) .skip)) none (.seq (.seq (.reg [
    ⟨.k .mv, [.s 10], [34], none⟩,
    ⟨.k (.call 27 (.plain 1 2)), [.s 34], [35], none⟩,
    ⟨.k .mv, [.s 35], [33], none⟩,
    ⟨.k (.ex 0), [.s 33], [36], none⟩,
    ⟨.k (.ex 1), [.s 33], [37], none⟩,
    ⟨.k .mv, [.s 36], [12], none⟩,
    ⟨.k .mv, [.s 37], [13], none⟩]) none (.seq (.reg [
    ⟨.k .mv, [.s 13], [38], none⟩,
    ⟨.k (.un .not), [.s 38], [39], none⟩]) none (.cond (.s 39) [] (.seq (.reg [
    ⟨.k .mv, [.s 2], [40], none⟩,
    ⟨.k (.call 29 (.plain 2 2)), [.c (.i .i64 (4 : Int)), .s 40], [41], none⟩,
    ⟨.k (.ex 0), [.s 41], [42], none⟩,
    ⟨.k (.ex 1), [.s 41], [43], none⟩,
    ⟨.k (.st 1050 0 5), [.s 8, .s 1050, .s 42], [1050], none⟩,
    ⟨.k (.st 1051 0 3), [.s 9, .s 1051, .s 43], [1051], none⟩]) none .ret) .skip))) none (.seq (.reg [
    ⟨.k .mv, [.s 10], [44], none⟩,
    ⟨.k .bs, [.s 44], [45], none⟩,
    ⟨.k (.fa 1049 0 3), [.s 5], [46], none⟩,
    ⟨.k (.st 1049 3 1), [.s 46, .s 1049, .s 45], [1049], none⟩]) none (.seq (.reg [
    ⟨.k (.ld 1049 0 5 true), [.s 5, .s 1049], [47], none⟩,
    ⟨.bd [(.i .i64 (0 : Int)), (.i .i64 (0 : Int)), (.sl .is ([] : List Int))] [], [], [48], none⟩,
    ⟨.k (.st 1050 0 5), [.s 8, .s 1050, .s 47], [1050], none⟩,
    ⟨.k (.st 1051 0 3), [.s 9, .s 1051, .s 48], [1051], none⟩]) none .ret))))))
def mp_row.d : TFD := { np := 4, m := mp_row.m, ref := some (0, 999999), tips := [], res := [.c 8 1050 5 true, .c 9 1051 3 true], own := [], new := none, tnew := [] }
noncomputable def mp_row.F (r : Rdr) (it : Itv) (p : Int) (n : Int) : Option (List TV) := mp_row.d.run mp_row.E [(.ag (Rdr.cells r)), (.ag (Itv.cells it)), (.i .i64 p), (.i .i64 n)]
theorem mp_row.F_in (r : Rdr) (it : Itv) (p : Int) (n : Int) {ρ : Option (List TV)} (K : ∀ (v1 : Int) (h1 : v1 = (((Utf.look ((Cur.nx r n (Cur.okT r n)))).1 : Int))) (v2 : Bool) (h2 : v2 = (Utf.whole ((Cur.nx r n (Cur.okT r n))))), ck (Cur.good r) (cond (!(Cur.okT r n))
    (some [(.ag (Itv.cells (Itm.val (Mp.zero)))), (.ag (Flt.cells ((Flt.mk ((2 : Int)) p [])))), (.ag (Rdr.cells (Cur.adv r n (Cur.okT r n))))])
    (cond (!decide ((Itv.kind it) = (4 : Int)))
    (some [(.ag [(.i .i64 (Itv.kind it)), (.u64 (Itv.n it)), (.sl .bs (Cur.nx r n (Cur.okT r n))), (.s (Itv.text it)), (.sl .il (Itv.kids it))]), (.ag [(.i .i64 (0 : Int)), (.i .i64 (0 : Int)), (.sl .is ([] : List Int))]), (.ag (Rdr.cells (Cur.adv r n (Cur.okT r n))))])
    (ck (decide (((Cur.nx r n (Cur.okT r n))).length ≤ 1099511627776)) (cond (!v2)
    (some [(.ag (Itv.cells (Itm.val (Mp.zero)))), (.ag (Flt.cells ((Flt.mk ((4 : Int)) p [])))), (.ag (Rdr.cells (Cur.adv r n (Cur.okT r n))))])
    (some [(.ag [(.i .i64 (Itv.kind it)), (.u64 (Itv.n it)), (.sl .bs (Itv.bytes it)), (.s (Cur.nx r n (Cur.okT r n))), (.sl .il (Itv.kids it))]), (.ag [(.i .i64 (0 : Int)), (.i .i64 (0 : Int)), (.sl .is ([] : List Int))]), (.ag (Rdr.cells (Cur.adv r n (Cur.okT r n))))]))))) = ρ) : mp_row.F r it p n = ρ := Eq.trans (by kernel_rfl) (K _ rfl _ rfl)
theorem mp_row.chk : ((Go.Proofs.Try.prog.funcs[53]?).any fun fn => chkF Go.Proofs.Try.prog (fun k => ((envL noGl mp_row.env).fs k).2) fn mp_row.d.erase) = true := by kernel_rfl
end
noncomputable section
def mp_kids.env (n : Nat) : List (Nat × (Ctr × FSig)) := [(31, (mp_read.cn n, mp_read.sg))]
def mp_kids.E (n : Nat) : TEnv := envL noGl (mp_kids.env n)
def mp_kids.m1 : TM := .seq (.reg [
    ⟨.k (.bin .lss), [.s 18, .s 17], [19], none⟩]) none (.seq (.cond (.s 19) [] .skip (.exit 0)) none (.seq (.block 1 [(0, .ptr 999999 0), (5, .ptr 1041 0), (8, .ptr 1042 0), (9, .ptr 1043 0), (1041, .cl [(4, 111, 5)]), (1042, .cl []), (1043, .cl []), (999999, .cl []), (lk 111, .live 5)] (.seq (.reg [
    ⟨.k .mv, [.s 0], [21], none⟩,
    ⟨.k .mv, [.s 3], [22], none⟩,
    ⟨.k (.bin .sub), [.s 22, .c (.i .i64 (1 : Int))], [23], none⟩,
    ⟨.k (.call 31 ⟨2, (some (0, 999999)), [], [], 2, [], none, []⟩), [.s 21, .s 23, .s 999999], [24, 999999], none⟩,
    ⟨.k .mv, [.s 24], [20], none⟩,
    ⟨.k (.ex 0), [.s 20], [25], none⟩,
    ⟨.k (.ex 1), [.s 20], [26], none⟩,
    ⟨.al 1044 [(.i .i64 (0 : Int)), (.u64 (0 : UInt64)), (.sl .bs ([] : List UInt8)), (.s ([] : Str)), (.sl .il ([] : List Itm))] [], [.s 1044], [10, 1044], none⟩,
    ⟨.al 1045 [(.i .i64 (0 : Int)), (.i .i64 (0 : Int)), (.sl .is ([] : List Int))] [], [.s 1045], [11, 1045], none⟩,
    ⟨.k (.st 1044 0 5), [.s 10, .s 1044, .s 25], [1044], none⟩,
    ⟨.k (.st 1045 0 3), [.s 11, .s 1045, .s 26], [1045], none⟩]) none (.seq (.seq (.reg [
    ⟨.k (.fa 1045 0 0), [.s 11], [27], none⟩,
    ⟨.k (.ld 1045 0 1 false), [.s 27, .s 1045], [28], none⟩,
    ⟨.k (.bin .neq), [.s 28, .c (.i .i64 (0 : Int))], [29], none⟩]) none (.cond (.s 29) [] (.seq (.reg [
    ⟨.bd [(.i .i64 (0 : Int)), (.u64 (0 : UInt64)), (.sl .bs ([] : List UInt8)), (.s ([] : Str)), (.sl .il ([] : List Itm))] [], [], [30], none⟩,
    ⟨.k (.ld 1045 0 3 true), [.s 11, .s 1045], [31], none⟩,
    ⟨.k (.st 1042 0 5), [.s 8, .s 1042, .s 30], [1042], none⟩,
    ⟨.k (.st 1043 0 3), [.s 9, .s 1043, .s 31], [1043], none⟩]) none .ret) .skip)) none (.reg [
    ⟨.k (.fa 1041 0 4), [.s 5], [32], none⟩,
    ⟨.k (.ld 1041 4 1 false), [.s 32, .s 1041], [33], none⟩,
    ⟨.k (.ld 1044 0 5 true), [.s 10, .s 1044], [34], none⟩,
    ⟨.bl .il 1, [.s 34], [35], none⟩,
    ⟨.k (.ap 101 111 5 80), [.s 33, .s 35, .s (lk 101), .s (lk 111)], [36, lk 101, lk 111], none⟩,
    ⟨.k (.fa 1041 0 4), [.s 5], [37], none⟩,
    ⟨.k (.st 1041 4 1), [.s 37, .s 1041, .s 36], [1041], none⟩])))) none (.reg [
    ⟨.k (.bin .add), [.s 18, .c (.i .i64 (1 : Int))], [38], none⟩,
    ⟨.k .mv, [.s 38], [18], none⟩])))
def mp_kids.m2 : TM := .seq (.seq (.reg [
    ⟨.k .mv, [.s 2], [17], none⟩,
    ⟨.k .mv, [.c (.i .i64 (0 : Int))], [18], none⟩]) none (.block 0 [(5, .ptr 1041 0), (8, .ptr 1042 0), (9, .ptr 1043 0), (1041, .cl [(4, 101, 5)]), (1042, .cl []), (1043, .cl []), (999999, .cl []), (lk 101, .live 5)] (.loop [0, 3, 5, 8, 9, 17, 18, 1041, 1042, 1043, 999999] [(0, .ptr 999999 0), (5, .ptr 1041 0), (8, .ptr 1042 0), (9, .ptr 1043 0), (1041, .cl [(4, 101, 5)]), (1042, .cl []), (1043, .cl []), (999999, .cl []), (lk 101, .live 5)] mp_kids.m1))) none (.seq (.reg [
    ⟨.k (.ld 1041 0 5 true), [.s 5, .s 1041], [39], none⟩,
    ⟨.bd [(.i .i64 (0 : Int)), (.i .i64 (0 : Int)), (.sl .is ([] : List Int))] [], [], [40], none⟩,
    ⟨.stt 1042 0 5 [(2, 112, .bs)], [.s 8, .s 1042, .s 39, .s (lk 112)], [1042, lk 112], none⟩,
    ⟨.k (.st 1043 0 3), [.s 9, .s 1043, .s 40], [1043], none⟩]) none .ret)
def mp_kids.m : TM := .seq (.reg [
    ⟨.bxt 1041 [(4, 101, .il)], [.s 1, .s 1041, .s (lk 101)], [5, 1041, lk 101], none⟩,
    ⟨.al 1042 [(.i .i64 (0 : Int)), (.u64 (0 : UInt64)), (.sl .bs ([] : List UInt8)), (.s ([] : Str)), (.sl .il ([] : List Itm))] [], [.s 1042], [8, 1042], none⟩,
    ⟨.al 1043 [(.i .i64 (0 : Int)), (.i .i64 (0 : Int)), (.sl .is ([] : List Int))] [], [.s 1043], [9, 1043], none⟩]) none (.seq (.seq (.reg [
    ⟨.k (.fa 1041 0 0), [.s 5], [12], none⟩,
    ⟨.k (.ld 1041 0 1 false), [.s 12, .s 1041], [13], none⟩,
    ⟨.k (.bin .eql), [.s 13, .c (.i .i64 (6 : Int))], [14], none⟩]) none (.cond (.s 14) [(0, .ptr 999999 0), (5, .ptr 1041 0), (8, .ptr 1042 0), (9, .ptr 1043 0), (1041, .cl [(4, 101, 5)]), (1042, .cl []), (1043, .cl []), (999999, .cl []), (lk 101, .live 5)] (.reg [
    ⟨.k .mv, [.s 2], [15], none⟩,
    ⟨.k (.bin .mul), [.s 15, .c (.i .i64 (2 : Int))], [16], none⟩,
    ⟨.k .mv, [.s 16], [2], none⟩]) .skip)) (some [0, 2, 3, 5, 8, 9, 1041, 1042, 1043, 999999]) mp_kids.m2)
def mp_kids.d : TFD := { np := 4, m := mp_kids.m, ref := some (0, 999999), tips := [], res := [.c 8 1042 5 true, .c 9 1043 3 true], own := [], new := none, tnew := [] }
noncomputable def mp_kids.F (n : Nat) (r : Rdr) (it : Itv) (m : Int) (depth : Int) : Option (List TV) := mp_kids.d.run (mp_kids.E n) [(.ag (Rdr.cells r)), (.ag [(.i .i64 (Itv.kind it)), (.u64 (Itv.n it)), (.c (.slice none 0 0)), (.s (Itv.text it)), (.c (.slice none 0 0))]), (.i .i64 m), (.i .i64 depth)]
noncomputable def mp_kids.k1 (n : Nat) : Cont (List TV) := seqK (ev _ (mp_kids.E n) (.seq (.reg [
    ⟨.k (.ld 1041 0 5 true), [.s 5, .s 1041], [39], none⟩,
    ⟨.bd [(.i .i64 (0 : Int)), (.i .i64 (0 : Int)), (.sl .is ([] : List Int))] [], [], [40], none⟩,
    ⟨.stt 1042 0 5 [(2, 112, .bs)], [.s 8, .s 1042, .s 39, .s (lk 112)], [1042, lk 112], none⟩,
    ⟨.k (.st 1043 0 3), [.s 9, .s 1043, .s 40], [1043], none⟩]) none .ret)) none (endK mp_kids.d)
noncomputable def mp_kids.j1 (n : Nat) (x0 : Int) (x1 : Int) (x2 : Int) (x3 : UInt64) (x4 : Str) (x5 : List Itm) (x6 : Itv) (x7 : Flt) (x8 : Rdr) : Option (List TV) := evO _ (mp_kids.E n) mp_kids.m2 (headT [0, 2, 3, 5, 8, 9, 1041, 1042, 1043, 999999] [.pt, (.i .i64 x0), (.i .i64 x1), .pt, .pt, .pt, (.ag [(.i .i64 x2), (.u64 x3), (.c (.slice none 0 0)), (.s x4), (.sl .il x5)]), (.ag (Itv.cells x6)), (.ag (Flt.cells x7)), (.ag (Rdr.cells x8))]) (endK mp_kids.d)
noncomputable def mp_kids.l2 (n : Nat) (x0 : Int) (x1 : Int) (x2 : Int) (x3 : Int) (x4 : UInt64) (x5 : Str) (x6 : List Itm) (x7 : Itv) (x8 : Flt) (x9 : Rdr) : Option (List TV) := loopL (evO _ (mp_kids.E n) mp_kids.m1) isN [0, 3, 5, 8, 9, 17, 18, 1041, 1042, 1043, 999999] (headT [0, 3, 5, 8, 9, 17, 18, 1041, 1042, 1043, 999999] [.pt, (.i .i64 x0), .pt, .pt, .pt, (.i .i64 x1), (.i .i64 x2), (.ag [(.i .i64 x3), (.u64 x4), (.c (.slice none 0 0)), (.s x5), (.sl .il x6)]), (.ag (Itv.cells x7)), (.ag (Flt.cells x8)), (.ag (Rdr.cells x9))]) (blockK 0 (mp_kids.k1 n))
theorem mp_kids.j1_eq (n : Nat) (x0 : Int) (x1 : Int) (x2 : Int) (x3 : UInt64) (x4 : Str) (x5 : List Itm) (x6 : Itv) (x7 : Flt) (x8 : Rdr) : mp_kids.j1 n x0 x1 x2 x3 x4 x5 x6 x7 x8 = mp_kids.l2 n x1 x0 (0 : Int) x2 x3 x4 x5 x6 x7 x8 := ((congrFun (congrFun (ev_eq _ _) _) _).trans (by kernel_rfl))
theorem mp_kids.l2_in (n : Nat) (x0 : Int) (x1 : Int) (x2 : Int) (x3 : Int) (x4 : UInt64) (x5 : Str) (x6 : List Itm) (x7 : Itv) (x8 : Flt) (x9 : Rdr) {ρ : Option (List TV)} (K : ∀ (v1 : Int) (h1 : v1 = (IntKind.i64.wrap (x0 - (1 : Int)))) (v2 : Flt) (h2 : v2 = ((Flt.mk (Mp.read (x9).b (v1).toNat (x9).at_).err (Mp.read (x9).b (v1).toNat (x9).at_).at_ []))) (v3 : Rdr) (h3 : v3 = ((Rdr.mk (x9).b (Mp.read (x9).b (v1).toNat (x9).at_).pos))) (v4 : List Itm) (h4 : v4 = ([(Itm.of (Itm.val ((Mp.read (x9).b (v1).toNat (x9).at_).it)))] : List Itm)) (v5 : Int) (h5 : v5 = (IntKind.i64.wrap (x2 + (1 : Int)))), cond (decide (x2 < x1))
    (ck ((Cur.good x9 && decide (0 ≤ v1 ∧ v1 ≤ 1000)) && decide ((2 * (v1).toNat + 1) < n)) (cond (!decide ((Flt.err v2) = (0 : Int)))
    (some [(.ag [(.i .i64 (0 : Int)), (.u64 (0 : UInt64)), (.sl .bs ([] : List UInt8)), (.s ([] : Str)), (.sl .il ([] : List Itm))]), (.ag (Flt.cells v2)), (.ag (Rdr.cells v3))])
    (ck (apOK ((x6).length + (v4).length) 80) (mp_kids.l2 n x0 x1 v5 x3 x4 x5 (x6 ++ v4) x7 x8 v3))))
    (some [(.ag [(.i .i64 x3), (.u64 x4), (.sl .bs ([] : List UInt8)), (.s x5), (.sl .il x6)]), (.ag [(.i .i64 (0 : Int)), (.i .i64 (0 : Int)), (.sl .is ([] : List Int))]), (.ag (Rdr.cells x9))]) = ρ) : mp_kids.l2 n x0 x1 x2 x3 x4 x5 x6 x7 x8 x9 = ρ := ((ev_loop _ _ _ _ _ _).trans (by kernel_rfl)).trans (K _ rfl _ rfl _ rfl _ rfl _ rfl)
theorem mp_kids.F_in (n : Nat) (r : Rdr) (it : Itv) (m : Int) (depth : Int) {ρ : Option (List TV)} (K : ∀ (v1 : Int) (h1 : v1 = (IntKind.i64.wrap (m * (2 : Int)))), cond (decide ((Itv.kind it) = (6 : Int)))
    (mp_kids.j1 n v1 depth (Itv.kind it) (Itv.n it) (Itv.text it) ([] : List Itm) (Itv.mk (0 : Int) (0 : UInt64) ([] : List UInt8) ([] : Str) ([] : List Itm)) (Flt.mk (0 : Int) (0 : Int) ([] : List Int)) r)
    (mp_kids.j1 n m depth (Itv.kind it) (Itv.n it) (Itv.text it) ([] : List Itm) (Itv.mk (0 : Int) (0 : UInt64) ([] : List UInt8) ([] : Str) ([] : List Itm)) (Flt.mk (0 : Int) (0 : Int) ([] : List Int)) r) = ρ) : mp_kids.F n r it m depth = ρ := Eq.trans (by kernel_rfl) (K _ rfl)
theorem mp_kids.chk (n : Nat) : ((Go.Proofs.Try.prog.funcs[52]?).any fun fn => chkF Go.Proofs.Try.prog (fun k => ((envL noGl (mp_kids.env n)).fs k).2) fn mp_kids.d.erase) = true := by kernel_rfl
end
noncomputable section
def mp_read.env (n : Nat) : List (Nat × (Ctr × FSig)) := [(29, (mp_wrong.c, mp_wrong.sg)), (33, (rd_At.c, rd_At.sg)), (38, (mp_unsigned.c, mp_unsigned.sg)), (39, (mp_signed.c, mp_signed.sg)), (41, (mp_sized.c, mp_sized.sg)), (48, (rd_Byte.c, rd_Byte.sg)), (49, (mp_first.c, mp_first.sg)), (50, (rd_High.c, rd_High.sg)), (51, (mp_number.cw, mp_number.sg)), (52, (mp_kids.cn n, mp_kids.sg)), (53, (mp_row.cw, mp_row.sg))]
def mp_read.E (n : Nat) : TEnv := envL noGl (mp_read.env n)
def mp_read.m1 : TM := .seq (.seq (.reg [
    ⟨.k .mv, [.s 10], [114], none⟩,
    ⟨.k (.bin .geq), [.s 114, .c (.u64 (9223372036854775808 : UInt64))], [115], none⟩]) none (.cond (.s 115) [] (.seq (.reg [
    ⟨.k .mv, [.s 6], [116], none⟩,
    ⟨.k (.call 29 (.plain 2 2)), [.c (.i .i64 (3 : Int)), .s 116], [117], none⟩,
    ⟨.k (.ex 0), [.s 117], [118], none⟩,
    ⟨.k (.ex 1), [.s 117], [119], none⟩,
    ⟨.k (.st 1168 0 5), [.s 4, .s 1168, .s 118], [1168], none⟩,
    ⟨.k (.st 1169 0 3), [.s 5, .s 1169, .s 119], [1169], none⟩]) none .ret) .skip)) none (.seq (.reg [
    ⟨.k .mv, [.s 10], [120], none⟩,
    ⟨.k (.fa 1170 0 1), [.s 12], [121], none⟩,
    ⟨.k (.st 1170 1 1), [.s 121, .s 1170, .s 120], [1170], none⟩]) none (.seq (.reg [
    ⟨.k (.ld 1170 0 5 true), [.s 12, .s 1170], [122], none⟩,
    ⟨.k .mv, [.s 6], [123], none⟩,
    ⟨.k .mv, [.s 7], [124], none⟩,
    ⟨.k .mv, [.s 10], [125], none⟩,
    ⟨.k (.call 39 (.plain 1 1)), [.s 125], [126], none⟩,
    ⟨.k (.call 51 (.plain 4 2)), [.s 122, .s 123, .s 124, .s 126], [127], none⟩,
    ⟨.k (.ex 0), [.s 127], [128], none⟩,
    ⟨.k (.ex 1), [.s 127], [129], none⟩,
    ⟨.k (.st 1168 0 5), [.s 4, .s 1168, .s 128], [1168], none⟩,
    ⟨.k (.st 1169 0 3), [.s 5, .s 1169, .s 129], [1169], none⟩]) none .ret))
def mp_read.m2 : TM := .cond (.s 79) [] (.seq (.reg [
    ⟨.k .mv, [.s 10], [82], none⟩,
    ⟨.k (.fa 1170 0 1), [.s 12], [83], none⟩,
    ⟨.k (.st 1170 1 1), [.s 83, .s 1170, .s 82], [1170], none⟩]) none (.seq (.reg [
    ⟨.k (.ld 1170 0 5 true), [.s 12, .s 1170], [84], none⟩,
    ⟨.bd [(.i .i64 (0 : Int)), (.i .i64 (0 : Int)), (.sl .is ([] : List Int))] [], [], [85], none⟩,
    ⟨.stt 1168 0 5 [(2, 107, .bs), (4, 108, .il)], [.s 4, .s 1168, .s 84, .s (lk 107), .s (lk 108)], [1168, lk 107, lk 108], none⟩,
    ⟨.k (.st 1169 0 3), [.s 5, .s 1169, .s 85], [1169], none⟩]) none .ret)) (.seq (.reg [
    ⟨.k (.bin .eql), [.s 78, .c (.i .i64 (1 : Int))], [87], none⟩,
    ⟨.k .mv, [.s 87], [86], none⟩]) none (.cond (.s 86) [] (.seq (.reg [
    ⟨.k .mv, [.s 10], [88], none⟩,
    ⟨.k (.fa 1170 0 1), [.s 12], [89], none⟩,
    ⟨.k (.st 1170 1 1), [.s 89, .s 1170, .s 88], [1170], none⟩]) none (.seq (.reg [
    ⟨.k (.ld 1170 0 5 true), [.s 12, .s 1170], [90], none⟩,
    ⟨.k .mv, [.s 6], [91], none⟩,
    ⟨.k .mv, [.s 7], [92], none⟩,
    ⟨.k .mv, [.s 10], [93], none⟩,
    ⟨.k (.call 38 (.plain 1 1)), [.s 93], [94], none⟩,
    ⟨.k (.call 51 (.plain 4 2)), [.s 90, .s 91, .s 92, .s 94], [95], none⟩,
    ⟨.k (.ex 0), [.s 95], [96], none⟩,
    ⟨.k (.ex 1), [.s 95], [97], none⟩,
    ⟨.k (.st 1168 0 5), [.s 4, .s 1168, .s 96], [1168], none⟩,
    ⟨.k (.st 1169 0 3), [.s 5, .s 1169, .s 97], [1169], none⟩]) none .ret)) (.seq (.reg [
    ⟨.k (.bin .eql), [.s 78, .c (.i .i64 (2 : Int))], [99], none⟩,
    ⟨.k .mv, [.s 99], [98], none⟩]) none (.cond (.s 98) [] (.seq (.seq (.reg [
    ⟨.k .mv, [.s 11], [100], none⟩,
    ⟨.k (.bin .gtr), [.s 100, .c (.i .i64 (0 : Int))], [101], none⟩]) none (.cond (.s 101) [(4, .ptr 1168 0), (5, .ptr 1169 0), (12, .ptr 1170 0), (1168, .cl []), (1169, .cl []), (1170, .cl []), (999999, .cl [])] (.reg [
    ⟨.k .mv, [.s 10], [102], none⟩,
    ⟨.k .mv, [.s 11], [103], none⟩,
    ⟨.k (.bin .mul), [.c (.i .i64 (8 : Int)), .s 103], [104], none⟩,
    ⟨.k (.bin .sub), [.c (.i .i64 (64 : Int)), .s 104], [105], none⟩,
    ⟨.k (.bin .shl), [.s 102, .s 105], [106], none⟩,
    ⟨.k (.ci .i64), [.s 106], [107], none⟩,
    ⟨.k .mv, [.s 11], [108], none⟩,
    ⟨.k (.bin .mul), [.c (.i .i64 (8 : Int)), .s 108], [109], none⟩,
    ⟨.k (.bin .sub), [.c (.i .i64 (64 : Int)), .s 109], [110], none⟩,
    ⟨.k (.bin .shr), [.s 107, .s 110], [111], none⟩,
    ⟨.k (.ci .u64), [.s 111], [112], none⟩,
    ⟨.k (.un .xor), [.s 112], [113], none⟩,
    ⟨.k .mv, [.s 113], [10], none⟩]) .skip)) (some [4, 5, 6, 7, 10, 12, 1168, 1169, 1170, 999999]) mp_read.m1) .skip))))
def mp_read.m3 : TM := .seq (.seq (.reg [
    ⟨.k .mv, [.s 9], [78], none⟩]) none (.block 0 [(0, .ptr 999999 0), (4, .ptr 1168 0), (5, .ptr 1169 0), (12, .ptr 1170 0), (1168, .cl []), (1169, .cl []), (1170, .cl []), (999999, .cl [])] (.seq (.seq (.reg [
    ⟨.k (.bin .eql), [.s 78, .c (.i .i64 (8 : Int))], [80], none⟩,
    ⟨.k .mv, [.s 80], [79], none⟩]) none (.cond (.s 79) [(0, .ptr 999999 0), (4, .ptr 1168 0), (5, .ptr 1169 0), (12, .ptr 1170 0), (1168, .cl []), (1169, .cl []), (1170, .cl []), (999999, .cl [])] .skip (.reg [
    ⟨.k (.bin .eql), [.s 78, .c (.i .i64 (9 : Int))], [81], none⟩,
    ⟨.k .mv, [.s 81], [79], none⟩]))) (some [0, 1, 4, 5, 6, 7, 9, 10, 11, 12, 78, 79, 1168, 1169, 1170, 999999]) mp_read.m2))) none (.seq (.seq (.reg [
    ⟨.k .mv, [.s 9], [130], none⟩,
    ⟨.k .mv, [.s 10], [131], none⟩,
    ⟨.k (.ci .i64), [.s 131], [132], none⟩,
    ⟨.k (.call 41 (.plain 2 1)), [.s 130, .s 132], [133], none⟩,
    ⟨.k (.fe 0 1 false), [.s 133], [134], none⟩,
    ⟨.k .mv, [.s 7], [135], none⟩,
    ⟨.k (.bin .neq), [.s 134, .s 135], [136], none⟩,
    ⟨.k .mv, [.s 136], [137], none⟩,
    ⟨.k (.fa 1170 0 1), [.s 12], [138], some (137, false)⟩,
    ⟨.k (.ld 1170 1 1 false), [.s 138, .s 1170], [139], some (137, false)⟩,
    ⟨.k (.bin .gtr), [.s 139, .c (.u64 (127 : UInt64))], [140], some (137, false)⟩,
    ⟨.k .pick, [.s 137, .c (.b true), .s 140], [141], none⟩]) none (.cond (.s 141) [] (.seq (.reg [
    ⟨.k .mv, [.s 6], [142], none⟩,
    ⟨.k (.call 29 (.plain 2 2)), [.c (.i .i64 (3 : Int)), .s 142], [143], none⟩,
    ⟨.k (.ex 0), [.s 143], [144], none⟩,
    ⟨.k (.ex 1), [.s 143], [145], none⟩,
    ⟨.k (.st 1168 0 5), [.s 4, .s 1168, .s 144], [1168], none⟩,
    ⟨.k (.st 1169 0 3), [.s 5, .s 1169, .s 145], [1169], none⟩]) none .ret) .skip)) none (.seq (.seq (.reg [
    ⟨.k .mv, [.s 9], [146], none⟩,
    ⟨.k (.bin .eql), [.s 146, .c (.i .i64 (5 : Int))], [147], none⟩,
    ⟨.k .mv, [.s 147], [148], none⟩,
    ⟨.k .mv, [.s 9], [149], some (148, false)⟩,
    ⟨.k (.bin .eql), [.s 149, .c (.i .i64 (6 : Int))], [150], some (148, false)⟩,
    ⟨.k .pick, [.s 148, .c (.b true), .s 150], [151], none⟩]) none (.cond (.s 151) [] (.seq (.reg [
    ⟨.k .mv, [.s 0], [152], none⟩,
    ⟨.k (.ld 1170 0 5 true), [.s 12, .s 1170], [153], none⟩,
    ⟨.k .mv, [.s 10], [154], none⟩,
    ⟨.k (.ci .i64), [.s 154], [155], none⟩,
    ⟨.k .mv, [.s 1], [156], none⟩,
    ⟨.k (.call 52 ⟨4, (some (0, 999999)), [], [], 2, [], none, []⟩), [.s 152, .s 153, .s 155, .s 156, .s 999999], [157, 999999], none⟩,
    ⟨.k (.ex 0), [.s 157], [158], none⟩,
    ⟨.k (.ex 1), [.s 157], [159], none⟩,
    ⟨.k (.st 1168 0 5), [.s 4, .s 1168, .s 158], [1168], none⟩,
    ⟨.k (.st 1169 0 3), [.s 5, .s 1169, .s 159], [1169], none⟩]) none .ret) .skip)) none (.seq (.reg [
    ⟨.k .mv, [.s 0], [160], none⟩,
    ⟨.k (.ld 1170 0 5 true), [.s 12, .s 1170], [161], none⟩,
    ⟨.k .mv, [.s 6], [162], none⟩,
    ⟨.k .mv, [.s 10], [163], none⟩,
    ⟨.k (.ci .i64), [.s 163], [164], none⟩,
    ⟨.k (.call 53 ⟨4, (some (0, 999999)), [], [], 2, [], none, []⟩), [.s 160, .s 161, .s 162, .s 164, .s 999999], [165, 999999], none⟩,
    ⟨.k (.ex 0), [.s 165], [166], none⟩,
    ⟨.k (.ex 1), [.s 165], [167], none⟩,
    ⟨.k (.st 1168 0 5), [.s 4, .s 1168, .s 166], [1168], none⟩,
    ⟨.k (.st 1169 0 3), [.s 5, .s 1169, .s 167], [1169], none⟩]) none .ret)))
def mp_read.m4 : TM := .seq (.reg [
    ⟨.k .mv, [.s 9], [60], none⟩,
    ⟨.bd [(.i .i64 (0 : Int)), (.u64 (0 : UInt64)), (.c (.slice none 0 0)), (.s ([] : Str)), (.c (.slice none 0 0))] [(0, 1)], [.s 60], [61], none⟩,
    ⟨.al 1170 [(.i .i64 (0 : Int)), (.u64 (0 : UInt64)), (.sl .bs ([] : List UInt8)), (.s ([] : Str)), (.sl .il ([] : List Itm))] [], [.s 1170], [12, 1170], none⟩,
    ⟨.k (.st 1170 0 5), [.s 12, .s 1170, .s 61], [1170], none⟩]) none (.seq (.seq (.reg [
    ⟨.k .mv, [.s 9], [62], none⟩,
    ⟨.k (.bin .eql), [.s 62, .c (.i .i64 (10 : Int))], [63], none⟩]) none (.cond (.s 63) [(0, .ptr 999999 0), (4, .ptr 1168 0), (5, .ptr 1169 0), (12, .ptr 1170 0), (1168, .cl []), (1169, .cl []), (1170, .cl []), (999999, .cl [])] (.seq (.reg [
    ⟨.k .mv, [.s 0], [65], none⟩,
    ⟨.k (.call 48 ⟨1, (some (0, 999999)), [], [], 2, [], none, []⟩), [.s 65, .s 999999], [66, 999999], none⟩,
    ⟨.k .mv, [.s 66], [64], none⟩,
    ⟨.k (.ex 0), [.s 64], [67], none⟩,
    ⟨.k (.ex 1), [.s 64], [68], none⟩,
    ⟨.k .mv, [.s 67], [13], none⟩,
    ⟨.k .mv, [.s 68], [14], none⟩]) none (.seq (.seq (.reg [
    ⟨.k .mv, [.s 14], [69], none⟩,
    ⟨.k (.un .not), [.s 69], [70], none⟩]) none (.cond (.s 70) [] (.seq (.reg [
    ⟨.k .mv, [.s 6], [71], none⟩,
    ⟨.k (.call 29 (.plain 2 2)), [.c (.i .i64 (2 : Int)), .s 71], [72], none⟩,
    ⟨.k (.ex 0), [.s 72], [73], none⟩,
    ⟨.k (.ex 1), [.s 72], [74], none⟩,
    ⟨.k (.st 1168 0 5), [.s 4, .s 1168, .s 73], [1168], none⟩,
    ⟨.k (.st 1169 0 3), [.s 5, .s 1169, .s 74], [1169], none⟩]) none .ret) .skip)) none (.reg [
    ⟨.k .mv, [.s 13], [75], none⟩,
    ⟨.k (.ci .u64), [.s 75], [76], none⟩,
    ⟨.k (.fa 1170 0 1), [.s 12], [77], none⟩,
    ⟨.k (.st 1170 1 1), [.s 77, .s 1170, .s 76], [1170], none⟩]))) .skip)) (some [0, 1, 4, 5, 6, 7, 9, 10, 11, 12, 1168, 1169, 1170, 999999]) mp_read.m3)
def mp_read.m : TM := .seq (.reg [
    ⟨.al 1168 [(.i .i64 (0 : Int)), (.u64 (0 : UInt64)), (.sl .bs ([] : List UInt8)), (.s ([] : Str)), (.sl .il ([] : List Itm))] [], [.s 1168], [4, 1168], none⟩,
    ⟨.al 1169 [(.i .i64 (0 : Int)), (.i .i64 (0 : Int)), (.sl .is ([] : List Int))] [], [.s 1169], [5, 1169], none⟩]) none (.seq (.reg [
    ⟨.k .mv, [.s 0], [15], none⟩,
    ⟨.k (.rcall 33 1 1 0 999999), [.s 15, .s 999999], [16], none⟩,
    ⟨.k .mv, [.s 16], [6], none⟩]) none (.seq (.seq (.reg [
    ⟨.k .mv, [.s 1], [17], none⟩,
    ⟨.k (.bin .eql), [.s 17, .c (.i .i64 (0 : Int))], [18], none⟩]) none (.cond (.s 18) [] (.seq (.reg [
    ⟨.k .mv, [.s 6], [19], none⟩,
    ⟨.k (.call 29 (.plain 2 2)), [.c (.i .i64 (8 : Int)), .s 19], [20], none⟩,
    ⟨.k (.ex 0), [.s 20], [21], none⟩,
    ⟨.k (.ex 1), [.s 20], [22], none⟩,
    ⟨.k (.st 1168 0 5), [.s 4, .s 1168, .s 21], [1168], none⟩,
    ⟨.k (.st 1169 0 3), [.s 5, .s 1169, .s 22], [1169], none⟩]) none .ret) .skip)) none (.seq (.reg [
    ⟨.k .mv, [.s 0], [24], none⟩,
    ⟨.k (.call 48 ⟨1, (some (0, 999999)), [], [], 2, [], none, []⟩), [.s 24, .s 999999], [25, 999999], none⟩,
    ⟨.k .mv, [.s 25], [23], none⟩,
    ⟨.k (.ex 0), [.s 23], [26], none⟩,
    ⟨.k (.ex 1), [.s 23], [27], none⟩,
    ⟨.k .mv, [.s 26], [7], none⟩,
    ⟨.k .mv, [.s 27], [8], none⟩]) none (.seq (.seq (.reg [
    ⟨.k .mv, [.s 8], [28], none⟩,
    ⟨.k (.un .not), [.s 28], [29], none⟩]) none (.cond (.s 29) [] (.seq (.reg [
    ⟨.k .mv, [.s 6], [30], none⟩,
    ⟨.k (.call 29 (.plain 2 2)), [.c (.i .i64 (2 : Int)), .s 30], [31], none⟩,
    ⟨.k (.ex 0), [.s 31], [32], none⟩,
    ⟨.k (.ex 1), [.s 31], [33], none⟩,
    ⟨.k (.st 1168 0 5), [.s 4, .s 1168, .s 32], [1168], none⟩,
    ⟨.k (.st 1169 0 3), [.s 5, .s 1169, .s 33], [1169], none⟩]) none .ret) .skip)) none (.seq (.reg [
    ⟨.k .mv, [.s 7], [35], none⟩,
    ⟨.k (.call 49 (.plain 1 3)), [.s 35], [36], none⟩,
    ⟨.k .mv, [.s 36], [34], none⟩,
    ⟨.k (.ex 0), [.s 34], [37], none⟩,
    ⟨.k (.ex 1), [.s 34], [38], none⟩,
    ⟨.k (.ex 2), [.s 34], [39], none⟩,
    ⟨.k .mv, [.s 37], [9], none⟩,
    ⟨.k .mv, [.s 38], [10], none⟩,
    ⟨.k .mv, [.s 39], [11], none⟩]) none (.seq (.seq (.reg [
    ⟨.k .mv, [.s 9], [40], none⟩,
    ⟨.k (.bin .eql), [.s 40, .c (.i .i64 (0 : Int))], [41], none⟩]) none (.cond (.s 41) [] (.seq (.reg [
    ⟨.k .mv, [.s 6], [42], none⟩,
    ⟨.k (.call 29 (.plain 2 2)), [.c (.i .i64 (3 : Int)), .s 42], [43], none⟩,
    ⟨.k (.ex 0), [.s 43], [44], none⟩,
    ⟨.k (.ex 1), [.s 43], [45], none⟩,
    ⟨.k (.st 1168 0 5), [.s 4, .s 1168, .s 44], [1168], none⟩,
    ⟨.k (.st 1169 0 3), [.s 5, .s 1169, .s 45], [1169], none⟩]) none .ret) .skip)) none (.seq (.seq (.reg [
    ⟨.k .mv, [.s 11], [46], none⟩,
    ⟨.k (.bin .gtr), [.s 46, .c (.i .i64 (0 : Int))], [47], none⟩]) none (.cond (.s 47) [(0, .ptr 999999 0), (4, .ptr 1168 0), (5, .ptr 1169 0), (1168, .cl []), (1169, .cl []), (999999, .cl [])] (.seq (.reg [
    ⟨.k .mv, [.s 0], [49], none⟩,
    ⟨.k .mv, [.s 11], [50], none⟩,
    ⟨.k (.call 50 ⟨2, (some (0, 999999)), [], [], 2, [], none, []⟩), [.s 49, .s 50, .s 999999], [51, 999999], none⟩,
    ⟨.k .mv, [.s 51], [48], none⟩,
    ⟨.k (.ex 0), [.s 48], [52], none⟩,
    ⟨.k (.ex 1), [.s 48], [53], none⟩,
    ⟨.k .mv, [.s 52], [10], none⟩,
    ⟨.k .mv, [.s 53], [8], none⟩]) none (.seq (.reg [
    ⟨.k .mv, [.s 8], [54], none⟩,
    ⟨.k (.un .not), [.s 54], [55], none⟩]) none (.cond (.s 55) [] (.seq (.reg [
    ⟨.k .mv, [.s 6], [56], none⟩,
    ⟨.k (.call 29 (.plain 2 2)), [.c (.i .i64 (2 : Int)), .s 56], [57], none⟩,
    ⟨.k (.ex 0), [.s 57], [58], none⟩,
    ⟨.k (.ex 1), [.s 57], [59], none⟩,
    ⟨.k (.st 1168 0 5), [.s 4, .s 1168, .s 58], [1168], none⟩,
    ⟨.k (.st 1169 0 3), [.s 5, .s 1169, .s 59], [1169], none⟩]) none .ret) .skip))) .skip)) (some [0, 1, 4, 5, 6, 7, 9, 10, 11, 1168, 1169, 999999]) mp_read.m4)))))))
def mp_read.d : TFD := { np := 2, m := mp_read.m, ref := some (0, 999999), tips := [], res := [.c 4 1168 5 true, .c 5 1169 3 true], own := [], new := none, tnew := [] }
noncomputable def mp_read.F (n : Nat) (r : Rdr) (depth : Int) : Option (List TV) := mp_read.d.run (mp_read.E n) [(.ag (Rdr.cells r)), (.i .i64 depth)]
noncomputable def mp_read.k1 (n : Nat) : Cont (List TV) := seqK (ev _ (mp_read.E n) (.seq (.seq (.reg [
    ⟨.k .mv, [.s 9], [130], none⟩,
    ⟨.k .mv, [.s 10], [131], none⟩,
    ⟨.k (.ci .i64), [.s 131], [132], none⟩,
    ⟨.k (.call 41 (.plain 2 1)), [.s 130, .s 132], [133], none⟩,
    ⟨.k (.fe 0 1 false), [.s 133], [134], none⟩,
    ⟨.k .mv, [.s 7], [135], none⟩,
    ⟨.k (.bin .neq), [.s 134, .s 135], [136], none⟩,
    ⟨.k .mv, [.s 136], [137], none⟩,
    ⟨.k (.fa 1170 0 1), [.s 12], [138], some (137, false)⟩,
    ⟨.k (.ld 1170 1 1 false), [.s 138, .s 1170], [139], some (137, false)⟩,
    ⟨.k (.bin .gtr), [.s 139, .c (.u64 (127 : UInt64))], [140], some (137, false)⟩,
    ⟨.k .pick, [.s 137, .c (.b true), .s 140], [141], none⟩]) none (.cond (.s 141) [] (.seq (.reg [
    ⟨.k .mv, [.s 6], [142], none⟩,
    ⟨.k (.call 29 (.plain 2 2)), [.c (.i .i64 (3 : Int)), .s 142], [143], none⟩,
    ⟨.k (.ex 0), [.s 143], [144], none⟩,
    ⟨.k (.ex 1), [.s 143], [145], none⟩,
    ⟨.k (.st 1168 0 5), [.s 4, .s 1168, .s 144], [1168], none⟩,
    ⟨.k (.st 1169 0 3), [.s 5, .s 1169, .s 145], [1169], none⟩]) none .ret) .skip)) none (.seq (.seq (.reg [
    ⟨.k .mv, [.s 9], [146], none⟩,
    ⟨.k (.bin .eql), [.s 146, .c (.i .i64 (5 : Int))], [147], none⟩,
    ⟨.k .mv, [.s 147], [148], none⟩,
    ⟨.k .mv, [.s 9], [149], some (148, false)⟩,
    ⟨.k (.bin .eql), [.s 149, .c (.i .i64 (6 : Int))], [150], some (148, false)⟩,
    ⟨.k .pick, [.s 148, .c (.b true), .s 150], [151], none⟩]) none (.cond (.s 151) [] (.seq (.reg [
    ⟨.k .mv, [.s 0], [152], none⟩,
    ⟨.k (.ld 1170 0 5 true), [.s 12, .s 1170], [153], none⟩,
    ⟨.k .mv, [.s 10], [154], none⟩,
    ⟨.k (.ci .i64), [.s 154], [155], none⟩,
    ⟨.k .mv, [.s 1], [156], none⟩,
    ⟨.k (.call 52 ⟨4, (some (0, 999999)), [], [], 2, [], none, []⟩), [.s 152, .s 153, .s 155, .s 156, .s 999999], [157, 999999], none⟩,
    ⟨.k (.ex 0), [.s 157], [158], none⟩,
    ⟨.k (.ex 1), [.s 157], [159], none⟩,
    ⟨.k (.st 1168 0 5), [.s 4, .s 1168, .s 158], [1168], none⟩,
    ⟨.k (.st 1169 0 3), [.s 5, .s 1169, .s 159], [1169], none⟩]) none .ret) .skip)) none (.seq (.reg [
    ⟨.k .mv, [.s 0], [160], none⟩,
    ⟨.k (.ld 1170 0 5 true), [.s 12, .s 1170], [161], none⟩,
    ⟨.k .mv, [.s 6], [162], none⟩,
    ⟨.k .mv, [.s 10], [163], none⟩,
    ⟨.k (.ci .i64), [.s 163], [164], none⟩,
    ⟨.k (.call 53 ⟨4, (some (0, 999999)), [], [], 2, [], none, []⟩), [.s 160, .s 161, .s 162, .s 164, .s 999999], [165, 999999], none⟩,
    ⟨.k (.ex 0), [.s 165], [166], none⟩,
    ⟨.k (.ex 1), [.s 165], [167], none⟩,
    ⟨.k (.st 1168 0 5), [.s 4, .s 1168, .s 166], [1168], none⟩,
    ⟨.k (.st 1169 0 3), [.s 5, .s 1169, .s 167], [1169], none⟩]) none .ret)))) none (endK mp_read.d)
noncomputable def mp_read.j1 (n : Nat) (x0 : Int) (x1 : Int) (x2 : Int) (x3 : Int) (x4 : UInt64) (x5 : Int) (x6 : Itv) (x7 : Flt) (x8 : Rdr) : Option (List TV) := evO _ (mp_read.E n) mp_read.m4 (headT [0, 1, 4, 5, 6, 7, 9, 10, 11, 1168, 1169, 999999] [.pt, (.i .i64 x0), .pt, .pt, (.i .i64 x1), (.i .i64 x2), (.i .i64 x3), (.u64 x4), (.i .i64 x5), (.ag (Itv.cells x6)), (.ag (Flt.cells x7)), (.ag (Rdr.cells x8))]) (endK mp_read.d)
noncomputable def mp_read.j2 (n : Nat) (x0 : Int) (x1 : Int) (x2 : Int) (x3 : Int) (x4 : UInt64) (x5 : Int) (x6 : Itv) (x7 : Flt) (x8 : Int) (x9 : UInt64) (x10 : Str) (x11 : Rdr) : Option (List TV) := evO _ (mp_read.E n) mp_read.m3 (headT [0, 1, 4, 5, 6, 7, 9, 10, 11, 12, 1168, 1169, 1170, 999999] [.pt, (.i .i64 x0), .pt, .pt, (.i .i64 x1), (.i .i64 x2), (.i .i64 x3), (.u64 x4), (.i .i64 x5), .pt, (.ag (Itv.cells x6)), (.ag (Flt.cells x7)), (.ag [(.i .i64 x8), (.u64 x9), (.c (.slice none 0 0)), (.s x10), (.c (.slice none 0 0))]), (.ag (Rdr.cells x11))]) (endK mp_read.d)
noncomputable def mp_read.j3 (n : Nat) (x0 : Int) (x1 : Int) (x2 : Int) (x3 : Int) (x4 : UInt64) (x5 : Int) (x6 : Int) (x7 : Bool) (x8 : Itv) (x9 : Flt) (x10 : Int) (x11 : UInt64) (x12 : Str) (x13 : Rdr) : Option (List TV) := evO _ (mp_read.E n) mp_read.m2 (headT [0, 1, 4, 5, 6, 7, 9, 10, 11, 12, 78, 79, 1168, 1169, 1170, 999999] [.pt, (.i .i64 x0), .pt, .pt, (.i .i64 x1), (.i .i64 x2), (.i .i64 x3), (.u64 x4), (.i .i64 x5), .pt, (.i .i64 x6), (.b x7), (.ag (Itv.cells x8)), (.ag (Flt.cells x9)), (.ag [(.i .i64 x10), (.u64 x11), (.c (.slice none 0 0)), (.s x12), (.c (.slice none 0 0))]), (.ag (Rdr.cells x13))]) (blockK 0 (mp_read.k1 n))
noncomputable def mp_read.j4 (n : Nat) (x0 : Int) (x1 : Int) (x2 : UInt64) (x3 : Itv) (x4 : Flt) (x5 : Int) (x6 : UInt64) (x7 : Str) (x8 : Rdr) : Option (List TV) := evO _ (mp_read.E n) mp_read.m1 (headT [4, 5, 6, 7, 10, 12, 1168, 1169, 1170, 999999] [.pt, .pt, (.i .i64 x0), (.i .i64 x1), (.u64 x2), .pt, (.ag (Itv.cells x3)), (.ag (Flt.cells x4)), (.ag [(.i .i64 x5), (.u64 x6), (.c (.slice none 0 0)), (.s x7), (.c (.slice none 0 0))]), (.ag (Rdr.cells x8))]) (blockK 0 (mp_read.k1 n))
theorem mp_read.j1_eq (n : Nat) (x0 : Int) (x1 : Int) (x2 : Int) (x3 : Int) (x4 : UInt64) (x5 : Int) (x6 : Itv) (x7 : Flt) (x8 : Rdr) : mp_read.j1 n x0 x1 x2 x3 x4 x5 x6 x7 x8 = cond (decide (x3 = (10 : Int)))
    (ck (Cur.good x8) (cond (!(Cur.more x8))
    (some [(.ag (Itv.cells (Itm.val (Mp.zero)))), (.ag (Flt.cells ((Flt.mk ((2 : Int)) x1 [])))), (.ag (Rdr.cells (Cur.adv x8 1 (Cur.more x8))))])
    (mp_read.j2 n x0 x1 x2 x3 x4 x5 x6 x7 x3 (UInt64.ofInt (Cur.byte x8)) ([] : Str) (Cur.adv x8 1 (Cur.more x8)))))
    (mp_read.j2 n x0 x1 x2 x3 x4 x5 x6 x7 x3 (0 : UInt64) ([] : Str) x8) := ((congrFun (congrFun (ev_eq _ _) _) _).trans (by kernel_rfl))
theorem mp_read.j2_eq (n : Nat) (x0 : Int) (x1 : Int) (x2 : Int) (x3 : Int) (x4 : UInt64) (x5 : Int) (x6 : Itv) (x7 : Flt) (x8 : Int) (x9 : UInt64) (x10 : Str) (x11 : Rdr) : mp_read.j2 n x0 x1 x2 x3 x4 x5 x6 x7 x8 x9 x10 x11 = cond (decide (x3 = (8 : Int)))
    (mp_read.j3 n x0 x1 x2 x3 x4 x5 x3 (decide (x3 = (8 : Int))) x6 x7 x8 x9 x10 x11)
    (mp_read.j3 n x0 x1 x2 x3 x4 x5 x3 (decide (x3 = (9 : Int))) x6 x7 x8 x9 x10 x11) := ((congrFun (congrFun (ev_eq _ _) _) _).trans (by kernel_rfl))
theorem mp_read.j3_in (n : Nat) (x0 : Int) (x1 : Int) (x2 : Int) (x3 : Int) (x4 : UInt64) (x5 : Int) (x6 : Int) (x7 : Bool) (x8 : Itv) (x9 : Flt) (x10 : Int) (x11 : UInt64) (x12 : Str) (x13 : Rdr) {ρ : Option (List TV)} (K : ∀ (v1 : Flt) (h1 : v1 = ((Flt.mk (Mp.num (Itm.of (Itv.mk x10 x4 [] x12 [])) x1 x2 ((Spn.mk (Mp.unsigned x4).1 (Mp.unsigned x4).2)).at_ 0).err (Mp.num (Itm.of (Itv.mk x10 x4 [] x12 [])) x1 x2 ((Spn.mk (Mp.unsigned x4).1 (Mp.unsigned x4).2)).at_ 0).at_ []))) (v2 : Int) (h2 : v2 = (IntKind.i64.wrap ((8 : Int) * x5))) (v3 : Int) (h3 : v3 = (IntKind.i64.wrap ((64 : Int) - v2))) (v4 : Int) (h4 : v4 = (IntKind.i64.wrap (((shl64 x4 ((v3).toNat))).toNat : Int))) (v5 : Int) (h5 : v5 = (Int.fdiv v4 (2 ^ (min ((v3).toNat) (IntKind.i64.bits))))) (v6 : Int) (h6 : v6 = (IntKind.i64.wrap ((x4).toNat : Int))) (v7 : Bool) (h7 : v7 = (!(!decide ((Mp.sized x3 v6).1 = x2)))) (v8 : Bool) (h8 : v8 = (cond (!decide ((Mp.sized x3 v6).1 = x2)) true (decide ((127 : UInt64) < x11)))) (v9 : Bool) (h9 : v9 = (cond (decide (x3 = (5 : Int))) true (decide (x3 = (6 : Int))))) (v10 : Flt) (h10 : v10 = ((Flt.mk (Mp.kids (Mp.read (x13).b (x0 - 1).toNat) (Itm.of (Itv.mk x10 x11 [] x12 [])) (Mp.many ((Itv.mk x10 x11 [] x12 [])).kind v6) (x13).at_).err (Mp.kids (Mp.read (x13).b (x0 - 1).toNat) (Itm.of (Itv.mk x10 x11 [] x12 [])) (Mp.many ((Itv.mk x10 x11 [] x12 [])).kind v6) (x13).at_).at_ []))) (v11 : Rdr) (h11 : v11 = ((Rdr.mk (x13).b (Mp.kids (Mp.read (x13).b (x0 - 1).toNat) (Itm.of (Itv.mk x10 x11 [] x12 [])) (Mp.many ((Itv.mk x10 x11 [] x12 [])).kind v6) (x13).at_).pos))) (v12 : Flt) (h12 : v12 = ((Flt.mk (Mp.row (x13).b (Itm.of (Itv.mk x10 x11 [] x12 [])) x1 (x13).at_ v6).err (Mp.row (x13).b (Itm.of (Itv.mk x10 x11 [] x12 [])) x1 (x13).at_ v6).at_ []))) (v13 : Rdr) (h13 : v13 = ((Rdr.mk (x13).b (Mp.row (x13).b (Itm.of (Itv.mk x10 x11 [] x12 [])) x1 (x13).at_ v6).pos))), cond x7
    (some [(.ag [(.i .i64 x10), (.u64 x4), (.sl .bs ([] : List UInt8)), (.s x12), (.sl .il ([] : List Itm))]), (.ag [(.i .i64 (0 : Int)), (.i .i64 (0 : Int)), (.sl .is ([] : List Int))]), (.ag (Rdr.cells x13))])
    (cond (decide (x6 = (1 : Int)))
    (some [(.ag (Itv.cells (Itm.val ((Mp.num (Itm.of (Itv.mk x10 x4 [] x12 [])) x1 x2 ((Spn.mk (Mp.unsigned x4).1 (Mp.unsigned x4).2)).at_ 0).it)))), (.ag (Flt.cells v1)), (.ag (Rdr.cells x13))])
    (cond (decide (x6 = (2 : Int)))
    (cond (decide ((0 : Int) < x5))
    (ck (decide (0 ≤ v3)) (ck (decide (0 ≤ v3)) (mp_read.j4 n x1 x2 (~~~(UInt64.ofInt v5)) x8 x9 x10 x11 x12 x13)))
    (mp_read.j4 n x1 x2 x4 x8 x9 x10 x11 x12 x13))
    (ck (Mp.sizeds x3 && decide (0 ≤ v6 ∧ v6 < 4294967296)) (ck (!v7 || v7) (ck (!v7 || v7) (ck ((!decide ((Mp.sized x3 v6).1 = x2)) || v7) (cond v8
    (some [(.ag (Itv.cells (Itm.val (Mp.zero)))), (.ag (Flt.cells ((Flt.mk ((3 : Int)) x1 [])))), (.ag (Rdr.cells x13))])
    (ck (!(!(decide (x3 = (5 : Int)))) || (!(decide (x3 = (5 : Int))))) (ck ((decide (x3 = (5 : Int))) || (!(decide (x3 = (5 : Int))))) (cond v9
    (ck ((Cur.good x13 && decide (0 ≤ v6 ∧ v6 ≤ 4294967296 ∧ 1 ≤ x0 ∧ x0 ≤ 1000)) && decide ((2 * (x0).toNat) < n)) (some [(.ag (Itv.cells (Itm.val ((Mp.kids (Mp.read (x13).b (x0 - 1).toNat) (Itm.of (Itv.mk x10 x11 [] x12 [])) (Mp.many ((Itv.mk x10 x11 [] x12 [])).kind v6) (x13).at_).it)))), (.ag (Flt.cells v10)), (.ag (Rdr.cells v11))]))
    (ck (Cur.good x13) (some [(.ag (Itv.cells (Itm.val ((Mp.row (x13).b (Itm.of (Itv.mk x10 x11 [] x12 [])) x1 (x13).at_ v6).it)))), (.ag (Flt.cells v12)), (.ag (Rdr.cells v13))])))))))))))) = ρ) : mp_read.j3 n x0 x1 x2 x3 x4 x5 x6 x7 x8 x9 x10 x11 x12 x13 = ρ := ((congrFun (congrFun (ev_eq _ _) _) _).trans (by kernel_rfl)).trans (K _ rfl _ rfl _ rfl _ rfl _ rfl _ rfl _ rfl _ rfl _ rfl _ rfl _ rfl _ rfl _ rfl)
theorem mp_read.j4_in (n : Nat) (x0 : Int) (x1 : Int) (x2 : UInt64) (x3 : Itv) (x4 : Flt) (x5 : Int) (x6 : UInt64) (x7 : Str) (x8 : Rdr) {ρ : Option (List TV)} (K : ∀ (v1 : Flt) (h1 : v1 = ((Flt.mk (Mp.num (Itm.of (Itv.mk x5 x2 [] x7 [])) x0 x1 ((Spn.mk (Mp.signed x2).1 (Mp.signed x2).2)).at_ 0).err (Mp.num (Itm.of (Itv.mk x5 x2 [] x7 [])) x0 x1 ((Spn.mk (Mp.signed x2).1 (Mp.signed x2).2)).at_ 0).at_ []))), cond (decide ((9223372036854775808 : UInt64) ≤ x2))
    (some [(.ag (Itv.cells (Itm.val (Mp.zero)))), (.ag (Flt.cells ((Flt.mk ((3 : Int)) x0 [])))), (.ag (Rdr.cells x8))])
    (some [(.ag (Itv.cells (Itm.val ((Mp.num (Itm.of (Itv.mk x5 x2 [] x7 [])) x0 x1 ((Spn.mk (Mp.signed x2).1 (Mp.signed x2).2)).at_ 0).it)))), (.ag (Flt.cells v1)), (.ag (Rdr.cells x8))]) = ρ) : mp_read.j4 n x0 x1 x2 x3 x4 x5 x6 x7 x8 = ρ := ((congrFun (congrFun (ev_eq _ _) _) _).trans (by kernel_rfl)).trans (K _ rfl)
theorem mp_read.F_in (n : Nat) (r : Rdr) (depth : Int) {ρ : Option (List TV)} (K : ∀ (v1 : Flt) (h1 : v1 = ((Flt.mk ((8 : Int)) ((((r).at_))) []))) (v2 : Flt) (h2 : v2 = ((Flt.mk ((2 : Int)) ((((r).at_))) []))) (v3 : Int) (h3 : v3 = ((Mp.first ((Cur.byte r))).1)) (v4 : UInt64) (h4 : v4 = ((Mp.first ((Cur.byte r))).2.1)) (v5 : Int) (h5 : v5 = ((Mp.first ((Cur.byte r))).2.2)) (v6 : Flt) (h6 : v6 = ((Flt.mk ((3 : Int)) ((((r).at_))) []))) (v7 : UInt64) (h7 : v7 = (Cur.be (Cur.nx (Cur.adv r 1 (Cur.more r)) v5 (Cur.ok8 (Cur.adv r 1 (Cur.more r)) v5)))) (v8 : Bool) (h8 : v8 = (Cur.ok8 (Cur.adv r 1 (Cur.more r)) v5)) (v9 : Rdr) (h9 : v9 = (Cur.adv (Cur.adv r 1 (Cur.more r)) v5 (Cur.ok8 (Cur.adv r 1 (Cur.more r)) v5))), cond (decide (depth = (0 : Int)))
    (some [(.ag (Itv.cells (Itm.val (Mp.zero)))), (.ag (Flt.cells v1)), (.ag (Rdr.cells r))])
    (ck (Cur.good r) (cond (!(Cur.more r))
    (some [(.ag (Itv.cells (Itm.val (Mp.zero)))), (.ag (Flt.cells v2)), (.ag (Rdr.cells (Cur.adv r 1 (Cur.more r))))])
    (ck (decide (0 ≤ ((Cur.byte r)) ∧ ((Cur.byte r)) ≤ 255)) (cond (decide (v3 = (0 : Int)))
    (some [(.ag (Itv.cells (Itm.val (Mp.zero)))), (.ag (Flt.cells v6)), (.ag (Rdr.cells (Cur.adv r 1 (Cur.more r))))])
    (cond (decide ((0 : Int) < v5))
    (ck (Cur.good (Cur.adv r 1 (Cur.more r))) (cond (!v8)
    (some [(.ag (Itv.cells (Itm.val (Mp.zero)))), (.ag (Flt.cells v2)), (.ag (Rdr.cells v9))])
    (mp_read.j1 n depth (((r).at_)) (Cur.byte r) v3 v7 v5 (Itv.mk (0 : Int) (0 : UInt64) ([] : List UInt8) ([] : Str) ([] : List Itm)) (Flt.mk (0 : Int) (0 : Int) ([] : List Int)) v9)))
    (mp_read.j1 n depth (((r).at_)) (Cur.byte r) v3 v4 v5 (Itv.mk (0 : Int) (0 : UInt64) ([] : List UInt8) ([] : Str) ([] : List Itm)) (Flt.mk (0 : Int) (0 : Int) ([] : List Int)) (Cur.adv r 1 (Cur.more r)))))))) = ρ) : mp_read.F n r depth = ρ := Eq.trans (by kernel_rfl) (K _ rfl _ rfl _ rfl _ rfl _ rfl _ rfl _ rfl _ rfl _ rfl)
theorem mp_read.chk (n : Nat) : ((Go.Proofs.Try.prog.funcs[31]?).any fun fn => chkF Go.Proofs.Try.prog (fun k => ((envL noGl (mp_read.env n)).fs k).2) fn mp_read.d.erase) = true := by kernel_rfl
end
noncomputable section
def mp_Decode.env : List (Nat × (Ctr × FSig)) := [(29, (mp_wrong.c, mp_wrong.sg)), (30, (cur_New.c, cur_New.sg)), (31, (mp_read.c, mp_read.sg)), (32, (rd_Left.c, rd_Left.sg)), (33, (rd_At.c, rd_At.sg))]
def mp_Decode.E : TEnv := envL noGl mp_Decode.env
def mp_Decode.m : TM := .seq (.reg [
    ⟨.al 1041 [(.i .i64 (0 : Int)), (.u64 (0 : UInt64)), (.sl .bs ([] : List UInt8)), (.s ([] : Str)), (.sl .il ([] : List Itm))] [], [.s 1041], [4, 1041], none⟩,
    ⟨.al 1042 [(.i .i64 (0 : Int)), (.i .i64 (0 : Int)), (.sl .is ([] : List Int))] [], [.s 1042], [5, 1042], none⟩]) none (.seq (.seq (.reg [
    ⟨.k .mv, [.s 1], [9], none⟩,
    ⟨.k (.bin .lss), [.s 9, .c (.i .i64 (0 : Int))], [10], none⟩,
    ⟨.k .mv, [.s 10], [11], none⟩,
    ⟨.k .mv, [.s 1], [12], some (11, false)⟩,
    ⟨.k (.bin .gtr), [.s 12, .c (.i .i64 (1000 : Int))], [13], some (11, false)⟩,
    ⟨.k .pick, [.s 11, .c (.b true), .s 13], [14], none⟩]) none (.cond (.s 14) [] (.seq (.reg [
    ⟨.k (.call 29 (.plain 2 2)), [.c (.i .i64 (1 : Int)), .c (.i .i64 (0 : Int))], [15], none⟩,
    ⟨.k (.ex 0), [.s 15], [16], none⟩,
    ⟨.k (.ex 1), [.s 15], [17], none⟩,
    ⟨.k (.st 1041 0 5), [.s 4, .s 1041, .s 16], [1041], none⟩,
    ⟨.k (.st 1042 0 3), [.s 5, .s 1042, .s 17], [1042], none⟩]) none .ret) .skip)) none (.seq (.reg [
    ⟨.k .mv, [.s 0], [18], none⟩,
    ⟨.k (.call 30 ⟨1, none, [], [], 1, [], (some (0, 1043)), []⟩), [.s 18, .s 1043], [19, 1043], none⟩,
    ⟨.k .mv, [.s 19], [6], none⟩]) none (.seq (.reg [
    ⟨.k .mv, [.s 6], [21], none⟩,
    ⟨.k .mv, [.s 1], [22], none⟩,
    ⟨.k (.call 31 ⟨2, (some (0, 1043)), [], [], 2, [], none, []⟩), [.s 21, .s 22, .s 1043], [23, 1043], none⟩,
    ⟨.k .mv, [.s 23], [20], none⟩,
    ⟨.k (.ex 0), [.s 20], [24], none⟩,
    ⟨.k (.ex 1), [.s 20], [25], none⟩,
    ⟨.al 1044 [(.i .i64 (0 : Int)), (.u64 (0 : UInt64)), (.sl .bs ([] : List UInt8)), (.s ([] : Str)), (.sl .il ([] : List Itm))] [], [.s 1044], [7, 1044], none⟩,
    ⟨.al 1045 [(.i .i64 (0 : Int)), (.i .i64 (0 : Int)), (.sl .is ([] : List Int))] [], [.s 1045], [8, 1045], none⟩,
    ⟨.k (.st 1044 0 5), [.s 7, .s 1044, .s 24], [1044], none⟩,
    ⟨.k (.st 1045 0 3), [.s 8, .s 1045, .s 25], [1045], none⟩]) none (.seq (.seq (.reg [
    ⟨.k (.fa 1045 0 0), [.s 8], [26], none⟩,
    ⟨.k (.ld 1045 0 1 false), [.s 26, .s 1045], [27], none⟩,
    ⟨.k (.bin .neq), [.s 27, .c (.i .i64 (0 : Int))], [28], none⟩]) none (.cond (.s 28) [] (.seq (.reg [
    ⟨.bd [(.i .i64 (0 : Int)), (.u64 (0 : UInt64)), (.sl .bs ([] : List UInt8)), (.s ([] : Str)), (.sl .il ([] : List Itm))] [], [], [29], none⟩,
    ⟨.k (.ld 1045 0 3 true), [.s 8, .s 1045], [30], none⟩,
    ⟨.k (.st 1041 0 5), [.s 4, .s 1041, .s 29], [1041], none⟩,
    ⟨.k (.st 1042 0 3), [.s 5, .s 1042, .s 30], [1042], none⟩]) none .ret) .skip)) none (.seq (.seq (.reg [
    ⟨.k .mv, [.s 6], [31], none⟩,
    ⟨.k (.rcall 32 1 1 0 1043), [.s 31, .s 1043], [32], none⟩,
    ⟨.k (.bin .gtr), [.s 32, .c (.i .i64 (0 : Int))], [33], none⟩]) none (.cond (.s 33) [] (.seq (.reg [
    ⟨.k .mv, [.s 6], [34], none⟩,
    ⟨.k (.rcall 33 1 1 0 1043), [.s 34, .s 1043], [35], none⟩,
    ⟨.k (.call 29 (.plain 2 2)), [.c (.i .i64 (7 : Int)), .s 35], [36], none⟩,
    ⟨.k (.ex 0), [.s 36], [37], none⟩,
    ⟨.k (.ex 1), [.s 36], [38], none⟩,
    ⟨.k (.st 1041 0 5), [.s 4, .s 1041, .s 37], [1041], none⟩,
    ⟨.k (.st 1042 0 3), [.s 5, .s 1042, .s 38], [1042], none⟩]) none .ret) .skip)) none (.seq (.reg [
    ⟨.k (.ld 1044 0 5 true), [.s 7, .s 1044], [39], none⟩,
    ⟨.bd [(.i .i64 (0 : Int)), (.i .i64 (0 : Int)), (.sl .is ([] : List Int))] [], [], [40], none⟩,
    ⟨.k (.st 1041 0 5), [.s 4, .s 1041, .s 39], [1041], none⟩,
    ⟨.k (.st 1042 0 3), [.s 5, .s 1042, .s 40], [1042], none⟩]) none .ret))))))
def mp_Decode.d : TFD := { np := 2, m := mp_Decode.m, ref := none, tips := [], res := [.c 4 1041 5 true, .c 5 1042 3 true], own := [], new := none, tnew := [] }
noncomputable def mp_Decode.F (b : List UInt8) (depth : Int) : Option (List TV) := mp_Decode.d.run mp_Decode.E [(.sl .bs b), (.i .i64 depth)]
theorem mp_Decode.F_in (b : List UInt8) (depth : Int) {ρ : Option (List TV)} (K : ∀ (v1 : Bool) (h1 : v1 = (cond (decide (depth < (0 : Int))) true (decide ((1000 : Int) < depth)))) (v2 : Flt) (h2 : v2 = ((Flt.mk ((1 : Int)) ((0 : Int)) []))) (v3 : Flt) (h3 : v3 = ((Flt.mk (Mp.read (((Rdr.mk b 0))).b (depth).toNat (((Rdr.mk b 0))).at_).err (Mp.read (((Rdr.mk b 0))).b (depth).toNat (((Rdr.mk b 0))).at_).at_ []))) (v4 : Rdr) (h4 : v4 = ((Rdr.mk (((Rdr.mk b 0))).b (Mp.read (((Rdr.mk b 0))).b (depth).toNat (((Rdr.mk b 0))).at_).pos))) (v5 : Flt) (h5 : v5 = ((Flt.mk ((7 : Int)) ((((v4).at_))) []))), ck (!(!(decide (depth < (0 : Int)))) || (!(decide (depth < (0 : Int))))) (ck ((decide (depth < (0 : Int))) || (!(decide (depth < (0 : Int))))) (cond v1
    (some [(.ag (Itv.cells (Itm.val (Mp.zero)))), (.ag (Flt.cells v2))])
    (ck (decide ((b).length ≤ 1099511627776)) (ck (Cur.good ((Rdr.mk b 0)) && decide (0 ≤ depth ∧ depth ≤ 1000)) (cond (!decide ((Flt.err v3) = (0 : Int)))
    (some [(.ag [(.i .i64 (0 : Int)), (.u64 (0 : UInt64)), (.sl .bs ([] : List UInt8)), (.s ([] : Str)), (.sl .il ([] : List Itm))]), (.ag (Flt.cells v3))])
    (ck (Cur.good v4) (cond (decide ((0 : Int) < (Cur.left v4)))
    (some [(.ag (Itv.cells (Itm.val (Mp.zero)))), (.ag (Flt.cells v5))])
    (some [(.ag (Itv.cells (Itm.val ((Mp.read (((Rdr.mk b 0))).b (depth).toNat (((Rdr.mk b 0))).at_).it)))), (.ag [(.i .i64 (0 : Int)), (.i .i64 (0 : Int)), (.sl .is ([] : List Int))])])))))))) = ρ) : mp_Decode.F b depth = ρ := Eq.trans (by kernel_rfl) (K _ rfl _ rfl _ rfl _ rfl _ rfl)
theorem mp_Decode.chk : ((Go.Proofs.Try.prog.funcs[15]?).any fun fn => chkF Go.Proofs.Try.prog (fun k => ((envL noGl mp_Decode.env).fs k).2) fn mp_Decode.d.erase) = true := by kernel_rfl
end
noncomputable section
end
end Go.Eng
namespace Go.Eng
noncomputable section
end
noncomputable section
end
noncomputable section
end
noncomputable section
end
noncomputable section
end
noncomputable section
end
noncomputable section
end
noncomputable section
end
noncomputable section
end
noncomputable section
end
noncomputable section
end
noncomputable section
end
noncomputable section
end
noncomputable section
end
noncomputable section
end
noncomputable section
end
noncomputable section
end
noncomputable section
end
noncomputable section
end
noncomputable section
end
noncomputable section
end
noncomputable section
end
noncomputable section
end
noncomputable section
end
noncomputable section
def law29_awake.env : List (Nat × (Ctr × FSig)) := [(11, (mp_Encode.c, mp_Encode.sg)), (15, (mp_Decode.c, mp_Decode.sg))]
def law29_awake.E : TEnv := envL noGl law29_awake.env
def law29_awake.m : TM := .seq (.reg [
    ⟨.k .mv, [.c (.b false)], [0], none⟩]) none (.seq (.reg [
    ⟨.bd [(.i .i64 (0 : Int)), (.u64 (0 : UInt64)), (.sl .bs ([] : List UInt8)), (.s ([] : Str)), (.sl .il ([] : List Itm))] [(0, 1), (1, 1)], [.c (.i .i64 (2 : Int)), .c (.u64 (32 : UInt64))], [6], none⟩,
    ⟨.k (.call 11 (.plain 1 2)), [.s 6], [7], none⟩,
    ⟨.k .mv, [.s 7], [5], none⟩,
    ⟨.k (.ex 0), [.s 5], [8], none⟩,
    ⟨.k (.ex 1), [.s 5], [9], none⟩,
    ⟨.k .mv, [.s 8], [1], none⟩,
    ⟨.k .mv, [.s 9], [2], none⟩]) none (.seq (.reg [
    ⟨.bl .bs 2, [.c (.u8 (204 : UInt8)), .c (.u8 (127 : UInt8))], [11], none⟩,
    ⟨.k (.call 15 (.plain 2 2)), [.s 11, .c (.i .i64 (5 : Int))], [12], none⟩,
    ⟨.k .mv, [.s 12], [10], none⟩,
    ⟨.k (.ex 0), [.s 10], [13], none⟩,
    ⟨.k (.ex 1), [.s 10], [14], none⟩,
    ⟨.al 1032 [(.i .i64 (0 : Int)), (.u64 (0 : UInt64)), (.sl .bs ([] : List UInt8)), (.s ([] : Str)), (.sl .il ([] : List Itm))] [], [.s 1032], [3, 1032], none⟩,
    ⟨.al 1033 [(.i .i64 (0 : Int)), (.i .i64 (0 : Int)), (.sl .is ([] : List Int))] [], [.s 1033], [4, 1033], none⟩,
    ⟨.k (.st 1032 0 5), [.s 3, .s 1032, .s 13], [1032], none⟩,
    ⟨.k (.st 1033 0 3), [.s 4, .s 1033, .s 14], [1033], none⟩]) none (.seq (.reg [
    ⟨.k .mv, [.s 2], [15], none⟩,
    ⟨.k (.bin .eql), [.s 15, .c (.i .i64 (0 : Int))], [16], none⟩,
    ⟨.k .mv, [.s 16], [17], none⟩,
    ⟨.k .mv, [.s 1], [18], some (17, true)⟩,
    ⟨.k .bs, [.s 18], [19], some (17, true)⟩,
    ⟨.k (.bin .eql), [.s 19, .c (.s ([208, 223] : Str))], [20], some (17, true)⟩,
    ⟨.k .pick, [.s 17, .s 20, .c (.b false)], [21], none⟩,
    ⟨.k .mv, [.s 21], [22], none⟩,
    ⟨.k (.fa 1033 0 0), [.s 4], [23], some (22, true)⟩,
    ⟨.k (.ld 1033 0 1 false), [.s 23, .s 1033], [24], some (22, true)⟩,
    ⟨.k (.bin .eql), [.s 24, .c (.i .i64 (3 : Int))], [25], some (22, true)⟩,
    ⟨.k .pick, [.s 22, .s 25, .c (.b false)], [26], none⟩,
    ⟨.k .mv, [.s 26], [27], none⟩,
    ⟨.k (.fa 1033 0 1), [.s 4], [28], some (27, true)⟩,
    ⟨.k (.ld 1033 1 1 false), [.s 28, .s 1033], [29], some (27, true)⟩,
    ⟨.k (.bin .eql), [.s 29, .c (.i .i64 (0 : Int))], [30], some (27, true)⟩,
    ⟨.k .pick, [.s 27, .s 30, .c (.b false)], [31], none⟩,
    ⟨.k .mv, [.s 31], [0], none⟩]) none .ret)))
def law29_awake.d : TFD := { np := 0, m := law29_awake.m, ref := none, tips := [], res := [.t 0], own := [], new := none, tnew := [] }
noncomputable def law29_awake.F  : Option (List TV) := law29_awake.d.run law29_awake.E []
theorem law29_awake.F_in  {ρ : Option (List TV)} (K : ∀ (v1 : List UInt8) (h1 : v1 = (Mp.enc (Itm.of (Itv.mk (2 : Int) (32 : UInt64) ([] : List UInt8) ([] : Str) ([] : List Itm))))) (v2 : Int) (h2 : v2 = (Mp.chk (Itm.of (Itv.mk (2 : Int) (32 : UInt64) ([] : List UInt8) ([] : Str) ([] : List Itm))))) (v3 : List UInt8) (h3 : v3 = ([(204 : UInt8), (127 : UInt8)] : List UInt8)) (v4 : Bool) (h4 : v4 = (cond (decide (v2 = (0 : Int))) (decide (v1 = ([208, 223] : Str))) false)) (v5 : Int) (h5 : v5 = (Flt.err ((Mp.dec v3 ((5 : Int))).2))) (v6 : Bool) (h6 : v6 = (cond v4 (decide (v5 = (3 : Int))) false)) (v7 : Int) (h7 : v7 = (Flt.at_ ((Mp.dec v3 ((5 : Int))).2))) (v8 : Bool) (h8 : v8 = (cond v6 (decide (v7 = (0 : Int))) false)), ck (decide (Itm.bulk (Itm.of (Itv.mk (2 : Int) (32 : UInt64) ([] : List UInt8) ([] : Str) ([] : List Itm))) ≤ 1073741824)) (ck (decide ((v3).length ≤ 1099511627776)) (ck (!(decide (v2 = (0 : Int))) || (decide (v2 = (0 : Int)))) (ck (!(decide (v2 = (0 : Int))) || (decide (v2 = (0 : Int)))) (ck (!(decide (v2 = (0 : Int))) || (decide (v2 = (0 : Int)))) (ck (!v4 || v4) (ck (!v4 || v4) (ck (!v4 || v4) (ck (!v6 || v6) (ck (!v6 || v6) (ck (!v6 || v6) (some [(.b v8)]))))))))))) = ρ) : law29_awake.F  = ρ := Eq.trans (by kernel_rfl) (K _ rfl _ rfl _ rfl _ rfl _ rfl _ rfl _ rfl _ rfl)
theorem law29_awake.chk : ((Go.Proofs.Try.prog.funcs[9]?).any fun fn => chkF Go.Proofs.Try.prog (fun k => ((envL noGl law29_awake.env).fs k).2) fn law29_awake.d.erase) = true := by kernel_rfl
end
end Go.Eng
namespace Go.Eng
open Go.IntWalk
theorem Cur.good_iff {r : Rdr} : Cur.good r = true ↔ 0 ≤ r.at_ ∧ r.at_ ≤ r.b.length ∧ r.b.length ≤ 1099511627776 := by simp [Cur.good]
theorem rd_At.goal (r : Rdr) : rd_At.F r = some [.i .i64 (r.at_)] := rd_At.F_eq r
theorem rd_Left.goal (r : Rdr) (hp : Cur.good r = true) : rd_Left.F r = some [.i .i64 (Cur.left r)] := by
  obtain ⟨h0, h1, h2⟩ := Cur.good_iff.1 hp
  refine rd_Left.F_in r ?_
  intro v1 e1
  rw [e1, i64_in _ (by omega)]; rfl
theorem rd_Byte.goal (r : Rdr) (hp : Cur.good r = true) : rd_Byte.F r = some [.i .i64 (Cur.byte r), .b (Cur.more r), .ag (Rdr.cells (Cur.adv r 1 (Cur.more r)))] := by
  obtain ⟨h0, h1, h2⟩ := Cur.good_iff.1 hp
  refine rd_Byte.F_in r ?_
  intro v1 e1 v2 e2 v3 e3 v4 e4
  by_cases h : r.at_ = (r.b.length : Int)
  · rw [decide_eq_true h, cond_true, Cur.byte, if_neg (by omega), Cur.more, decide_eq_false (by omega)]; rfl
  · rw [decide_eq_false h, cond_false]
    have e1' : v1 = r.at_ + 1 := by rw [e1, i64_in _ (by omega)]
    have e2' : v2 = r.at_ := by rw [e2, i64_in _ (by omega)]; omega
    rw [ck_of (idx_ok (by omega) (by omega)), Cur.byte, if_pos (by omega), Cur.more, decide_eq_true (by omega)]
    rw [e4, i64_in _ (by have := v3.toNat_lt; omega), e3, e2', e1']; rfl
theorem rd_next.goal (r : Rdr) (n : Int) (hp : Cur.good r = true) : rd_next.F r n = some [.sl .bs (Cur.nx r n (Cur.ok8 r n)), .b (Cur.ok8 r n), .ag (Rdr.cells (Cur.adv r n (Cur.ok8 r n)))] := by
  obtain ⟨h0, h1, h2⟩ := Cur.good_iff.1 hp
  refine rd_next.F_in r n ?_
  intro v1 e1 v2 e2 v3 e3 v4 e4
  simp only [hp, Bool.not_not, Bool.and_self, Bool.and_true, Bool.not_or_self, Bool.or_not_self, ck_true]
  have ev2 : v2 = !Cur.ok8 r n := by
    rw [e2, e1, Cur.ok8, Cur.left]
    by_cases a : n < 1 <;> by_cases b : 8 < n <;> by_cases c : (r.b.length : Int) - r.at_ < n <;> simp [a, b, c] <;> omega
  rw [ev2]
  cases ho : Cur.ok8 r n with
  | false => rfl
  | true =>
    have ho' : 1 ≤ n ∧ n ≤ 8 ∧ n ≤ r.b.length - r.at_ := by simpa [Cur.ok8] using ho
    have e3' : v3 = r.at_ + n := by rw [e3, i64_in _ (by omega)]
    have e5 : IntKind.i64.wrap (v3 - n) = r.at_ := by rw [e3', i64_in _ (by omega)]; omega
    rw [Bool.not_true, cond_false, e5, ck_of (cut_ok h0 (by omega) (by omega)), e4, e5, e3', Cur.nx, Cur.adv, cond_true, cond_true, show (r.at_ + n).toNat = r.at_.toNat + n.toNat by omega, List.drop_take, show r.at_.toNat + n.toNat - r.at_.toNat = n.toNat by omega]
    rfl
theorem rd_Take.goal (r : Rdr) (n : Int) (hp : Cur.good r = true) : rd_Take.F r n = some [.sl .bs (Cur.nx r n (Cur.okT r n)), .b (Cur.okT r n), .ag (Rdr.cells (Cur.adv r n (Cur.okT r n)))] := by
  obtain ⟨h0, h1, h2⟩ := Cur.good_iff.1 hp
  refine rd_Take.F_in r n ?_
  intro v1 e1 v2 e2 v3 e3
  simp only [hp, Bool.not_not, Bool.and_self, Bool.and_true, Bool.not_or_self, Bool.or_not_self, ck_true]
  have ev1 : v1 = !Cur.okT r n := by
    rw [e1, Cur.okT, Cur.left]
    by_cases a : n < 0 <;> by_cases c : (r.b.length : Int) - r.at_ < n <;> simp [a, c] <;> omega
  rw [ev1]
  cases ho : Cur.okT r n with
  | false => rfl
  | true =>
    have ho' : 0 ≤ n ∧ n ≤ r.b.length - r.at_ := by simpa [Cur.okT] using ho
    have e2' : v2 = r.at_ + n := by rw [e2, i64_in _ (by omega)]
    have e5 : IntKind.i64.wrap (v2 - n) = r.at_ := by rw [e2', i64_in _ (by omega)]; omega
    have e6 : v3 = (r.b.drop r.at_.toNat).take n.toNat := by
      rw [e3, e5, e2', show (r.at_ + n).toNat = r.at_.toNat + n.toNat by omega, List.drop_take, show r.at_.toNat + n.toNat - r.at_.toNat = n.toNat by omega]
    have e7 : v3.length ≤ 1099511627776 := by rw [e6, List.length_take, List.length_drop]; omega
    rw [Bool.not_true, cond_false, e5, ck_of (cut_ok h0 (by omega) (by omega)), ck_of (big_ap (by omega) (by omega)), e6, e2', Cur.nx, Cur.adv, cond_true, cond_true]
    rfl
theorem be_step (x : UInt64) (c : UInt8) : shl64 x 8 ||| UInt64.ofInt (c.toNat : Int) = x * 256 + c.toUInt64 := by
  apply UInt64.toNat_inj.1
  have hc := c.toNat_lt
  have hx := x.toNat_lt
  rw [UInt64.toNat_or, u64_nat, shl64, UInt64.toNat_add, UInt64.toNat_mul, UInt64.toNat_ofNat', UInt8.toNat_toUInt64]
  rw [Nat.mod_eq_of_lt (show c.toNat < 18446744073709551616 by omega)]
  have e : x.toNat * 2 ^ 8 % 2 ^ 64 = (x.toNat % 2 ^ 56) * 2 ^ 8 := by omega
  rw [e, or_add (k := 8) (by omega), show (256 : UInt64).toNat = 256 from rfl]
  omega
theorem rd_High.l1_ok (ok : Bool) (l : Str) (q : Rdr) (hl : l.length ≤ 1099511627776) : ∀ (m i : Nat) (x : UInt64), i + m = l.length → rd_High.l1 ok x l (l.length : Int) i q = some [.u64 ((l.drop i).foldl (fun v x => v * 256 + x.toUInt64) x), .b ok, .ag (Rdr.cells q)] := by
  intro m
  induction m with
  | zero =>
    intro i x hi
    refine rd_High.l1_in _ _ _ _ _ _ ?_
    intro v1 e1 v2 e2 v3 e3 v4 e4
    rw [decide_eq_false (by omega), cond_false, List.drop_of_length_le (by omega)]; rfl
  | succ m ih =>
    intro i x hi
    refine rd_High.l1_in _ _ _ _ _ _ ?_
    intro v1 e1 v2 e2 v3 e3 v4 e4
    rw [Int.toNat_natCast] at e1
    rw [decide_eq_true (by omega), cond_true, ck_of (idx_ok (by omega) (by omega)), drop_cons (l := l) (i := i) (by omega) 0, List.foldl_cons, ← e1, show v4 = ((i + 1 : Nat) : Int) by rw [e4, i64_in _ (by omega)]; omega, ih _ _ (by omega), e2, e3, show (8 : UInt64).toNat = 8 from rfl, be_step]
theorem Cur.nx_len (r : Rdr) (n : Int) (ok : Bool) : (Cur.nx r n ok).length ≤ r.b.length := by
  unfold Cur.nx; cases ok <;> simp <;> omega
theorem rd_High.goal (r : Rdr) (n : Int) (hp : Cur.good r = true) : rd_High.F r n = some [.u64 (Cur.be (Cur.nx r n (Cur.ok8 r n))), .b (Cur.ok8 r n), .ag (Rdr.cells (Cur.adv r n (Cur.ok8 r n)))] := by
  obtain ⟨h0, h1, h2⟩ := Cur.good_iff.1 hp
  refine rd_High.F_in r n ?_
  intro v1 e1
  rw [ck_of hp, e1]
  have := Cur.nx_len r n (Cur.ok8 r n)
  exact rd_High.l1_ok _ _ _ (by omega) _ 0 _ (Nat.zero_add _)
theorem cur_New.goal (b : Str) (hp : decide (b.length ≤ 1099511627776) = true) : cur_New.F b = some [.pt, .ag (Rdr.cells (Rdr.mk b 0))] := by
  have h := of_decide_eq_true hp
  rw [cur_New.F_eq, ck_of (big_ap (by omega) (by omega))]; rfl
theorem cur_number.goal (n : Int) : cur_number.F n = some [.b (decide (1 ≤ n ∧ n ≤ 8))] := by
  refine cur_number.F_in n ?_
  intro v1 e1
  simp only [Bool.not_or_self, ck_true, e1]
  by_cases a : 1 ≤ n <;> by_cases b : n ≤ 8 <;> simp [a, b]
theorem cur_Lay.goal : cur_Lay.F = some [.pt, .ag (Wtr.cells (Wtr.mk []))] := cur_Lay.F_eq
theorem wr_Byte.goal (w : Wtr) (v : Int) (hp : decide (w.b.length ≤ 1099511627776) = true) : wr_Byte.F w v = some [.ag (Wtr.cells (Wtr.mk (w.b ++ [UInt8.ofInt v])))] := by
  have h := of_decide_eq_true hp
  refine wr_Byte.F_in w v ?_
  intro v1 e1
  subst e1
  rw [ck_of (big_ap (by simp; omega) (by simp; omega))]; rfl
theorem wr_Raw.goal (w : Wtr) (b : Str) (hp : decide (w.b.length + b.length ≤ 1099511627776) = true) : wr_Raw.F w b = some [.ag (Wtr.cells (Wtr.mk (w.b ++ b)))] := by
  have h := of_decide_eq_true hp
  rw [wr_Raw.F_eq, ck_of (big_ap (by omega) (by omega))]; rfl
theorem shr_div (v : UInt64) (n : Nat) : shr64 (v / 256) (8 * n) = shr64 v (8 * (n + 1)) := by
  rw [shr64, shr64, UInt64.toNat_div, show (256 : UInt64).toNat = 2 ^ 8 from rfl, Nat.div_div_eq_div_mul, ← Nat.pow_add, show 8 + 8 * n = 8 * (n + 1) by omega]
theorem Cur.putLow_last : ∀ (n : Nat) (v : UInt64), Cur.putLow v (n + 1) = Cur.putLow v n ++ [(shr64 v (8 * n)).toUInt8]
  | 0, v => by
    have : shr64 v (8 * 0) = v := by rw [shr64]; simp
    rw [this]; rfl
  | n + 1, v => by
    rw [Cur.putLow, Cur.putLow_last n, Cur.putLow, shr_div]; rfl
theorem Cur.putHigh_succ (v : UInt64) (n : Nat) : Cur.putHigh v (n + 1) = (shr64 v (8 * n)).toUInt8 :: Cur.putHigh v n := by
  rw [Cur.putHigh, Cur.putLow_last, List.reverse_append]; rfl
theorem Cur.putLow_len : ∀ (n : Nat) (v : UInt64), (Cur.putLow v n).length = n
  | 0, _ => rfl
  | n + 1, v => by rw [Cur.putLow, List.length_cons, Cur.putLow_len n]
theorem Cur.putHigh_len (v : UInt64) (n : Nat) : (Cur.putHigh v n).length = n := by rw [Cur.putHigh, List.length_reverse, Cur.putLow_len]
theorem u8_of (v : UInt64) : UInt8.ofInt (v.toNat : Int) = v.toUInt8 := by
  apply UInt8.toNat_inj.1
  rw [u8_nat, UInt64.toNat_toUInt8]
theorem wr_High.l1_ok (v : UInt64) (n : Int) (hn : 1 ≤ n ∧ n ≤ 8) : ∀ (k : Nat) (w : Wtr), k ≤ 8 → w.b.length + k ≤ 1099511627786 → wr_High.l1 v n ((k : Int) - 1) w = some [.ag (Wtr.cells (Wtr.mk (w.b ++ Cur.putHigh v k)))] := by
  intro k
  induction k with
  | zero =>
    intro w _ _
    refine wr_High.l1_in _ _ _ _ ?_
    intro v1 e1 v2 e2 v3 e3 v4 e4 v5 e5
    simp only [Bool.not_or_self, ck_true]
    rw [e1, decide_eq_true hn, cond_true, decide_eq_false (by omega), cond_false, show Cur.putHigh v 0 = [] from rfl, List.append_nil]
  | succ k ih =>
    intro w hk hw
    refine wr_High.l1_in _ _ _ _ ?_
    intro v1 e1 v2 e2 v3 e3 v4 e4 v5 e5
    simp only [Bool.not_or_self, ck_true]
    have e2' : v2 = ((8 * k : Nat) : Int) := by rw [e2, i64_in _ (by omega)]; omega
    rw [e1, decide_eq_true hn, cond_true, decide_eq_true (by omega), cond_true, ck_of (decide_eq_true (by omega)), ck_of (big_ap (by simp; omega) (by simp; omega))]
    rw [show v5 = (k : Int) - 1 by rw [e5, i64_in _ (by omega)]; omega, ih _ (by omega) (by rw [e4]; simp; omega), e4, e3, e2', Int.toNat_natCast, u8_of, Cur.putHigh_succ, List.append_assoc]
    rfl
theorem wr_High.goal (w : Wtr) (v : UInt64) (n : Int) (hp : decide (w.b.length ≤ 1099511627776) = true) : wr_High.F w v n = some [.ag (Wtr.cells (Wtr.mk (w.b ++ Cur.high v n)))] := by
  have h := of_decide_eq_true hp
  refine wr_High.F_in w v n ?_
  intro v1 e1
  by_cases hn : 1 ≤ n ∧ n ≤ 8
  · rw [show v1 = ((n.toNat : Nat) : Int) - 1 by rw [e1, i64_in _ (by omega)]; omega, wr_High.l1_ok v n hn _ _ (by omega) (by omega), Cur.high, if_pos hn]
  · refine wr_High.l1_in _ _ _ _ ?_
    intro u1 f1 u2 f2 u3 f3 u4 f4 u5 f5
    simp only [Bool.not_or_self, ck_true]
    rw [f1, decide_eq_false hn, cond_false, cond_false, Cur.high, if_neg hn, List.append_nil]
theorem wr_Bytes.goal (w : Wtr) (hp : decide (w.b.length ≤ 1099511627776) = true) : wr_Bytes.F w = some [.sl .bs (w.b), .ag (Wtr.cells w)] := by
  have h := of_decide_eq_true hp
  rw [wr_Bytes.F_eq, ck_of (big_ap (by omega) (by omega))]
end Go.Eng
namespace Go.Eng
open Go.IntWalk
theorem utf_is.goal (r : Int) : utf_is.F r = some [.b (Utf.isRune r)] := by
  refine utf_is.F_in r ?_
  intro v1 h1 v2 h2 v3 h3
  subst h1 h2 h3
  by_cases a : 0 ≤ r <;> by_cases b : r ≤ 1114111 <;> by_cases c : r < 55296 <;> simp [ck, a, b, c, Utf.isRune]
theorem and192 : ∀ n, n < 256 → ((n &&& 192 = 128) ↔ (128 ≤ n ∧ n < 192)) := by decide +kernel
theorem and63 : ∀ n, n < 256 → (128 ≤ n ∧ n < 192) → n &&& 63 = n - 128 := by decide +kernel
theorem and31 : ∀ n, n < 256 → (192 ≤ n ∧ n < 224) → n &&& 31 = n - 192 := by decide +kernel
theorem and15 : ∀ n, n < 256 → (224 ≤ n ∧ n < 240) → n &&& 15 = n - 224 := by decide +kernel
theorem and7 : ∀ n, n < 256 → (240 ≤ n ∧ n < 248) → n &&& 7 = n - 240 := by decide +kernel
theorem u8lt (c : UInt8) : c.toNat < 256 := by have := c.toNat_lt; simpa using this
theorem cont_byte (c : UInt8) : decide ((c &&& (192 : UInt8)) = (128 : UInt8)) = decide (128 ≤ c.toNat ∧ c.toNat < 192) := by
  have h := and192 c.toNat (u8lt c)
  rw [Bool.eq_iff_iff]
  simp only [decide_eq_true_eq]
  rw [← h, ← UInt8.toNat_inj, UInt8.toNat_and]
  exact Iff.rfl
theorem low6 (c : UInt8) (h : 128 ≤ c.toNat ∧ c.toNat < 192) : ((c &&& (63 : UInt8)).toNat : Int) = ((c.toNat - 128 : Nat) : Int) := by
  rw [UInt8.toNat_and]
  exact congrArg _ (and63 c.toNat (u8lt c) h)
def mres (r : Option Nat) (more least : Nat) : Option (List TV) := match r with
  | some r => if r < least ∨ Utf.isRune r = false then some [.i .i64 0, .i .i64 0] else some [.i .i64 r, .i .i64 (more + 1 : Int)]
  | none => some [.i .i64 0, .i .i64 0]
theorem mres_eq (c : Nat) (more least : Nat) (l : Str) : mres (Utf.cont c more l) more least = some [.i .i64 (Utf.multi c more least l).1, .i .i64 (Utf.multi c more least l).2] := by
  unfold mres Utf.multi
  cases Utf.cont c more l with
  | none => rfl
  | some r => simp only; split <;> rfl
theorem utf_Rune.end_ (r : Nat) (more least : Nat) (hm : more < 8) :
    (ck (!(!(decide ((r : Int) < (least : Int)))) || (!(decide ((r : Int) < (least : Int))))) (ck (!(!(decide ((r : Int) < (least : Int)))) || (!(decide ((r : Int) < (least : Int))))) (ck ((decide ((r : Int) < (least : Int))) || (!(decide ((r : Int) < (least : Int))))) (cond (cond (decide ((r : Int) < (least : Int))) true (!(Utf.isRune r)))
    (utf_Rune.l1)
    (some [(.i .i64 (r : Int)), (.i .i64 (IntKind.i64.wrap ((more : Int) + (1 : Int))))]))))) = mres (some r) more least := by
  simp only [Bool.not_or_self, Bool.or_not_self, ck_true]
  rw [i64_in _ (by omega), utf_Rune.l1_eq]
  unfold mres
  by_cases h : r < least
  · simp [h]
  · simp only [show ¬ ((r : Int) < (least : Int)) by omega, decide_false, cond_false, h, false_or]
    cases Utf.isRune r <;> simp
theorem utf_Rune.l3_ok (b : Str) (at_ : Nat) (more least : Nat) (hm : more < 8) (hb : b.length ≤ 1099511627776) (hlt : at_ + more < b.length) : ∀ (k i r : Nat), i + k = more + 1 → r < 2 ^ (10 + 6 * i) →
    utf_Rune.l3 b at_ r more least i = mres (Utf.cont r k (b.drop (at_ + i))) more least := by
  intro k
  induction k with
  | zero =>
    intro i r hi hr
    refine utf_Rune.l3_in _ _ _ _ _ _ ?_
    intro v1 h1 v2 h2 v3 h3 v4 h4 v5 h5 v6 h6 v7 h7
    rw [show decide ((i : Int) ≤ (more : Int)) = false by simp; omega, cond_false]
    subst h6 h7
    rw [Utf.cont]
    exact utf_Rune.end_ r more least hm
  | succ k ih =>
    intro i r hi hr
    refine utf_Rune.l3_in _ _ _ _ _ _ ?_
    intro v1 h1 v2 h2 v3 h3 v4 h4 v5 h5 v6 h6 v7 h7
    have hw : IntKind.i64.wrap ((at_ : Int) + (i : Int)) = ((at_ + i : Nat) : Int) := by rw [i64_in _ (by omega)]; omega
    have hdr := drop_cons (l := b) (i := at_ + i) (by omega) 0
    rw [show decide ((i : Int) ≤ (more : Int)) = true by simp; omega, cond_true, hw]
    rw [hw, Int.toNat_natCast] at h1
    rw [ck_of (idx_ok (by omega) (by omega)), hdr, ← h1, Utf.cont, h2, cont_byte]
    by_cases hc : 128 ≤ v1.toNat ∧ v1.toNat < 192
    · rw [if_pos hc, decide_eq_true hc]
      simp only [Bool.not_true, cond_false]
      rw [ck_of (idx_ok (by omega) (by omega))]
      have hp : 2 ^ (10 + 6 * i) * 64 = 2 ^ (10 + 6 * (i + 1)) := by rw [show 10 + 6 * (i + 1) = (10 + 6 * i) + 6 by omega, Nat.pow_add 2 (10 + 6 * i) 6]
      have hp2 : 2 ^ (10 + 6 * (i + 1)) ≤ 2 ^ 58 := Nat.pow_le_pow_right (by omega) (by omega)
      have hr64 : r * 64 + 64 ≤ 2 ^ (10 + 6 * (i + 1)) := by
        rw [← hp]; have := Nat.mul_le_mul_right 64 (Nat.succ_le_of_lt hr); omega
      have e3 : v3 = ((r * 64 : Nat) : Int) := by
        rw [h3]
        have : (min (((6 : UInt64)).toNat) (IntKind.i64.bits)) = 6 := by decide
        rw [this, i64_in _ (by simp at hp2; omega)]; simp
      have e4 : v4 = ((v1.toNat - 128 : Nat) : Int) := by
        rw [h4, low6 v1 hc]; exact i64_in _ (by omega)
      have e5 : v5 = ((i + 1 : Nat) : Int) := by rw [h5, i64_in _ (by omega)]; omega
      have e6 : intBitsV .or .i64 v3 v4 = ((r * 64 + (v1.toNat - 128) : Nat) : Int) := by
        rw [e3, e4, or_i64 _ _ (by simp at hp2; omega) (by omega)]
        have := or_add (a := r) (b := v1.toNat - 128) (k := 6) (by simp; omega)
        simp at this
        rw [this]
      rw [e6, e5, ih (i + 1) _ (by omega) (by omega), Nat.add_assoc]
    · rw [if_neg hc, decide_eq_false hc]
      simp only [Bool.not_false, cond_true]
      rw [utf_Rune.l1_eq]; rfl
theorem utf_Rune.j2_ok (b : Str) (at_ : Nat) (r more least : Nat) (hm : 1 ≤ more ∧ more < 8) (hb : b.length ≤ 1099511627776) (hlt : at_ < b.length) (hr : r < 1024) :
    utf_Rune.j2 b at_ r more least = mres (Utf.cont r more (b.drop (at_ + 1))) more least := by
  have hcn : ∀ (k r : Nat) (l : Str), l.length < k → Utf.cont r k l = none := by
    intro k
    induction k with
    | zero => intro r l h; omega
    | succ k ih =>
      intro r l h
      cases l with
      | nil => rfl
      | cons c l => rw [Utf.cont]; split
                    · exact ih _ _ (by simp at h; omega)
                    · rfl
  have key := fun (h : at_ + more < b.length) => utf_Rune.l3_ok b at_ more least hm.2 hb h more 1 r (by omega) (by simp; omega)
  by_cases hx : at_ + more < b.length
  · rw [← key hx]
    refine utf_Rune.j2_in _ _ _ _ _ ?_
    intro v1 h1 v2 h2 v3 h3 v4 h4 v5 h5 v6 h6 v7 h7 v8 h8 v9 h9 v10 h10
    symm
    refine utf_Rune.l3_in _ _ _ _ _ _ ?_
    intro w1 k1 w2 k2 w3 k3 w4 k4 w5 k5 w6 k6 w7 k7
    have e1 : v1 = (b.length : Int) - at_ := by rw [h1]; exact i64_in _ (by omega)
    have e2 : v2 = (b.length : Int) - at_ - 1 := by rw [h2, e1]; exact i64_in _ (by omega)
    rw [show decide (v2 < (more : Int)) = false by simp; omega, cond_false]
    have a1 : ((1 : Nat) : Int) = 1 := rfl
    simp only [a1] at k1 k2 k3 k4 k5 k6 k7 ⊢
    subst h3; subst h4; subst h5; subst h6; subst h7; subst h8; subst h9; subst h10; subst k1; subst k2; subst k3; subst k4; subst k5; subst k6; subst k7
    rfl
  · refine utf_Rune.j2_in _ _ _ _ _ ?_
    intro v1 h1 v2 h2 v3 h3 v4 h4 v5 h5 v6 h6 v7 h7 v8 h8 v9 h9 v10 h10
    have e1 : v1 = (b.length : Int) - at_ := by rw [h1]; exact i64_in _ (by omega)
    have e2 : v2 = (b.length : Int) - at_ - 1 := by rw [h2, e1]; exact i64_in _ (by omega)
    rw [show decide (v2 < (more : Int)) = true by simp; omega, cond_true, utf_Rune.l1_eq, hcn _ _ _ (by simp; omega)]
    rfl
theorem rng (lo hi n : Nat) : (cond (decide ((lo : Int) ≤ (n : Int))) (decide ((n : Int) < (hi : Int))) false) = decide (lo ≤ n ∧ n < hi) := by
  by_cases a : lo ≤ n
  · rw [show decide ((lo : Int) ≤ (n : Int)) = true by simp; omega, cond_true, Bool.eq_iff_iff]; simp; omega
  · rw [show decide ((lo : Int) ≤ (n : Int)) = false by simp; omega, cond_false, decide_eq_false (by omega)]
theorem utf_Rune.goal (b : Str) (at_ : Int) (hp : decide (b.length ≤ 1099511627776) = true) : utf_Rune.F b at_ = some [.i .i64 (Utf.runeAt b at_).1, .i .i64 (Utf.runeAt b at_).2] := by
  have hb : b.length ≤ 1099511627776 := of_decide_eq_true hp
  refine utf_Rune.F_in b at_ ?_
  intro v1 h1 v2 h2 v3 h3 v4 h4 v5 h5 v6 h6 v7 h7 v8 h8 v9 h9
  unfold Utf.runeAt
  by_cases h0 : at_ < 0
  · subst h1
    simp [h0, ck, utf_Rune.l1_eq]
  · have hd0 : decide (at_ < 0) = false := decide_eq_false h0
    obtain ⟨i, rfl⟩ := Int.eq_ofNat_of_zero_le (show 0 ≤ at_ by omega)
    rw [hd0] at h1 ⊢
    subst h1
    simp only [Bool.not_false, Bool.not_true, Bool.false_or, Bool.or_true, ck_true, cond_false, Int.toNat_natCast] at h2 ⊢
    by_cases hl : b.length ≤ i
    · rw [show decide ((b.length : Int) ≤ (i : Int)) = true by simp; omega, if_pos (.inr (by omega)), cond_true, utf_Rune.l1_eq]; rfl
    · rw [show decide ((b.length : Int) ≤ (i : Int)) = false by simp; omega, if_neg (by omega), cond_false, ck_of (idx_ok (by omega) (by omega)), drop_cons (l := b) (i := i) (by omega) 0, ← h2, Utf.rune]
      have hc := u8lt v2
      have e3 : v3 = (v2.toNat : Int) := by rw [h3]; exact i64_in _ (by omega)
      have an : ∀ (m : Nat), m < 256 → intBitsV .and .i64 v3 m = ((v2.toNat &&& m : Nat) : Int) := fun m h => by rw [e3, and_i64 _ _ (by omega) (by omega)]
      have an1 : v5 = ((v2.toNat &&& 31 : Nat) : Int) := h5.trans (an 31 (by omega))
      have an2 : v7 = ((v2.toNat &&& 15 : Nat) : Int) := h7.trans (an 15 (by omega))
      have an3 : v9 = ((v2.toNat &&& 7 : Nat) : Int) := h9.trans (an 7 (by omega))
      have e4 : v4 = decide (192 ≤ v2.toNat ∧ v2.toNat < 224) := by rw [h4, e3]; exact rng 192 224 _
      have e6 : v6 = decide (224 ≤ v2.toNat ∧ v2.toNat < 240) := by rw [h6, e3]; exact rng 224 240 _
      have e8 : v8 = decide (240 ≤ v2.toNat ∧ v2.toNat < 248) := by rw [h8, e3]; exact rng 240 248 _
      have J : ∀ (r more least : Nat), 1 ≤ more ∧ more < 8 → r < 1024 → utf_Rune.j2 b i r more least = some [.i .i64 (Utf.multi r more least (b.drop (i + 1))).1, .i .i64 (Utf.multi r more least (b.drop (i + 1))).2] := fun r more least h1 h2 =>
        (utf_Rune.j2_ok b i r more least h1 hb (by omega) h2).trans (mres_eq _ _ _ _)
      simp only [Bool.not_or_self, ck_true]
      by_cases c1 : v2.toNat < 128
      · rw [if_pos c1, e3, show decide ((v2.toNat : Int) < 128) = true by simp; omega, cond_true]; rfl
      · rw [if_neg c1, show decide (v3 < (128 : Int)) = false by rw [e3]; simp; omega, cond_false, e4]
        by_cases c2 : 192 ≤ v2.toNat ∧ v2.toNat < 224
        · rw [if_pos c2, decide_eq_true c2, cond_true, an1, and31 _ hc c2]; exact J _ 1 128 (by omega) (by omega)
        · rw [if_neg c2, decide_eq_false c2, cond_false, e6]
          by_cases c3 : 224 ≤ v2.toNat ∧ v2.toNat < 240
          · rw [if_pos c3, decide_eq_true c3, cond_true, an2, and15 _ hc c3]; exact J _ 2 2048 (by omega) (by omega)
          · rw [if_neg c3, decide_eq_false c3, cond_false, e8]
            by_cases c4 : 240 ≤ v2.toNat ∧ v2.toNat < 248
            · rw [if_pos c4, decide_eq_true c4, cond_true, an3, and7 _ hc c4]; exact J _ 3 65536 (by omega) (by omega)
            · rw [if_neg c4, decide_eq_false c4, cond_false, utf_Rune.l1_eq]; rfl
theorem Utf.rune_size (l : Str) : 0 ≤ (Utf.rune l).2 ∧ (Utf.rune l).2 ≤ l.length := by
  have hcl : ∀ (k r q : Nat) (l : Str), Utf.cont r k l = some q → k ≤ l.length := by
    intro k
    induction k with
    | zero => intro r q l _; omega
    | succ k ih =>
      intro r q l h
      cases l with
      | nil => cases h
      | cons c l =>
        rw [Utf.cont] at h
        split at h
        · have := ih _ _ _ h; simp; omega
        · cases h
  have hmu : ∀ (r more least : Nat) (l : Str), 0 ≤ (Utf.multi r more least l).2 ∧ (Utf.multi r more least l).2 ≤ l.length + 1 := by
    intro r more least l
    unfold Utf.multi
    cases h : Utf.cont r more l with
    | none => simp; omega
    | some q =>
      have := hcl _ _ _ _ h
      simp only
      split <;> simp <;> omega
  cases l with
  | nil => exact ⟨by decide, by decide⟩
  | cons c l =>
    unfold Utf.rune
    simp only [List.length_cons]
    split
    · simp; omega
    · split
      · have := hmu (c.toNat - 192) 1 128 l; omega
      · split
        · have := hmu (c.toNat - 224) 2 2048 l; omega
        · split
          · have := hmu (c.toNat - 240) 3 65536 l; omega
          · simp; omega
theorem Utf.lookN_ge (l : Str) : ∀ n, l.length ≤ n → Utf.lookN n l = Utf.lookN l.length l := by
  have key : ∀ (m : Nat) (l : Str), l.length ≤ m → ∀ n, l.length ≤ n → Utf.lookN n l = Utf.lookN l.length l := by
    intro m
    induction m with
    | zero =>
      intro l hl n hn
      have : l = [] := List.length_eq_zero_iff.1 (by omega)
      subst this
      cases n with
      | zero => rfl
      | succ n => rfl
    | succ m ih =>
      intro l hl n hn
      cases h : l.length with
      | zero =>
        have : l = [] := List.length_eq_zero_iff.1 h
        subst this
        cases n <;> rfl
      | succ k =>
        cases n with
        | zero => omega
        | succ n =>
          unfold Utf.lookN
          have hs := Utf.rune_size l
          by_cases h0 : (Utf.rune l).2 = 0
          · rw [if_pos h0, if_pos h0]
          · rw [if_neg h0, if_neg h0]
            have hd : (l.drop (Utf.rune l).2.toNat).length ≤ k := by simp; omega
            rw [ih _ (by simp; omega) n (by simp; omega), ih _ (by simp; omega) k hd]
  exact fun n hn => key _ l (Nat.le_refl _) n hn
theorem Utf.look_step (l : Str) (h : (Utf.rune l).2 ≠ 0) : Utf.look l = ((Utf.look (l.drop (Utf.rune l).2.toNat)).1 + (Utf.rune l).2.toNat, (Utf.look (l.drop (Utf.rune l).2.toNat)).2 + 1) := by
  have hs := Utf.rune_size l
  unfold Utf.look
  cases hl : l.length with
  | zero => omega
  | succ k =>
    rw [Utf.lookN, if_neg h]
    simp only
    rw [Utf.lookN_ge _ k (by simp; omega)]
theorem Utf.look_none (l : Str) (h : (Utf.rune l).2 = 0) : Utf.look l = (0, 0) := by
  unfold Utf.look
  cases l.length with
  | zero => rfl
  | succ k => rw [Utf.lookN, if_pos h]
theorem Utf.runeAt_nat (b : Str) (i : Nat) (h : i < b.length) : Utf.runeAt b i = Utf.rune (b.drop i) := by
  unfold Utf.runeAt; rw [if_neg (by omega), Int.toNat_natCast]
theorem utf_look.l1_ok (b : Str) (hb : b.length ≤ 1099511627776) : ∀ (m i k : Nat), b.length - i ≤ m → i ≤ b.length → k ≤ i →
    utf_look.l1 b i k = some [.i .i64 ((i + (Utf.look (b.drop i)).1 : Nat) : Int), .i .i64 ((k + (Utf.look (b.drop i)).2 : Nat) : Int)] := by
  intro m
  induction m with
  | zero =>
    intro i k hm hi hk
    refine utf_look.l1_in _ _ _ ?_
    intro v1 h1 v2 h2
    rw [show decide ((i : Int) < (b.length : Int)) = false by simp; omega, cond_false, utf_look.j2_eq, List.drop_of_length_le (by omega)]
    rfl
  | succ m ih =>
    intro i k hm hi hk
    by_cases hlt : i < b.length
    · refine utf_look.l1_in _ _ _ ?_
      intro v1 h1 v2 h2
      rw [Utf.runeAt_nat b i hlt] at h1 ⊢
      have hs := Utf.rune_size (b.drop i)
      rw [List.length_drop] at hs
      rw [show decide ((i : Int) < (b.length : Int)) = true by simp; omega, cond_true, ck_of (decide_eq_true hb)]
      by_cases h0 : (Utf.rune (b.drop i)).2 = 0
      · rw [decide_eq_true h0, cond_true, utf_look.j2_eq, Utf.look_none _ h0]; rfl
      · rw [decide_eq_false h0, cond_false, Utf.look_step _ h0]
        have e1 : v1 = ((i + (Utf.rune (b.drop i)).2.toNat : Nat) : Int) := by rw [h1, i64_in _ (by omega)]; omega
        have e2 : v2 = ((k + 1 : Nat) : Int) := by rw [h2, i64_in _ (by omega)]; omega
        rw [e1, e2, ih _ _ (by omega) (by omega) (by omega), List.drop_drop]
        simp only [Option.some.injEq, List.cons.injEq, TV.i.injEq, true_and, and_true]
        exact ⟨by omega, by omega⟩
    · refine utf_look.l1_in _ _ _ ?_
      intro v1 h1 v2 h2
      rw [show decide ((i : Int) < (b.length : Int)) = false by simp; omega, cond_false, utf_look.j2_eq, List.drop_of_length_le (by omega)]
      rfl
theorem utf_look.goal (b : Str) (hp : decide (b.length ≤ 1099511627776) = true) : utf_look.F b = some [.i .i64 ((Utf.look b).1 : Int), .i .i64 ((Utf.look b).2 : Int)] := by
  rw [utf_look.F_eq]
  have := utf_look.l1_ok b (of_decide_eq_true hp) b.length 0 0 (by omega) (by omega) (by omega)
  simpa using this
theorem utf_Check.goal (b : Str) (hp : decide (b.length ≤ 1099511627776) = true) : utf_Check.F b = some [.i .i64 ((Utf.look b).1 : Int), .b (Utf.whole b)] := by
  have e : decide (((Utf.look b).1 : Int) = (b.length : Int)) = Utf.whole b := by unfold Utf.whole; rw [Bool.eq_iff_iff]; simp; omega
  rw [utf_Check.F_eq, ck_of hp, e]
end Go.Eng
namespace Go.Eng
open Go.IntWalk
mutual
theorem Itm.bulk_kids : ∀ (ks : List Itm), ks.length ≤ Itm.bulks ks
  | [] => Nat.le_refl _
  | k :: r => by
    have h1 := Itm.bulk_pos k
    have h2 := Itm.bulk_kids r
    simp only [Itm.bulks, List.length_cons]; omega
theorem Itm.bulk_pos : ∀ (k : Itm), 1 ≤ Itm.bulk k
  | .mk _ _ b t ks => by simp only [Itm.bulk]; omega
end
theorem Itm.bulks_at : ∀ (ks : List Itm) (i : Nat), i < ks.length → Itm.bulk (ks.getD i (STy.dflt .il)) ≤ Itm.bulks ks
  | [], _, h => by simp at h
  | k :: r, 0, _ => by simp only [List.getD_cons_zero, Itm.bulks]; omega
  | k :: r, i + 1, h => by
    have := Itm.bulks_at r i (by simpa using h)
    simp only [List.getD_cons_succ, Itm.bulks]; omega
theorem Itm.bulk_of (it : Itv) : Itm.bulk (Itm.of it) = 1 + it.bytes.length + it.text.length + Itm.bulks it.kids := by simp only [Itm.of, Itm.bulk]
theorem len0 {α : Type} (l : List α) : ((l.length : Int) = 0) = (l = []) := by
  simp
theorem lt32 (m : Nat) : ((m : Int) < 4294967296) = (m < 4294967296) := propext (by omega)
theorem eq0 (m : Nat) : ((m : Int) = 0) = (m = 0) := propext (by omega)
theorem mp_few.goal (n : Int) (hp : decide (0 ≤ n ∧ n ≤ 1099511627776) = true) : mp_few.F n = some [.b (decide (n < 4294967296))] := by
  have h := of_decide_eq_true hp
  obtain ⟨m, rfl⟩ : ∃ m : Nat, n = m := ⟨n.toNat, by omega⟩
  have e : (UInt64.ofInt (m : Int) < 4294967296) = ((m : Int) < 4294967296) := by
    rw [UInt64.lt_iff_toNat_lt, u64_nat, show (4294967296 : UInt64).toNat = 4294967296 from rfl]
    apply propext; omega
  rw [mp_few.F_eq]
  simp only [e]
theorem mp_fields.j2_ok (a b : Int) (ok : Bool) (it : Itv) : mp_fields.j2 a b ok it = some [.b (ok && decide (it.n = 0) && decide (b = 0) && decide (it.text = []) && decide (a = 0))] := by
  refine mp_fields.j2_in _ _ _ _ ?_
  intro v1 e1 v2 e2 v3 e3 v4 e4
  simp only [Bool.not_or_self, ck_true]
  rw [e4, e3, e2, e1]
  cases ok <;> simp [Bool.cond_false_right]
theorem mp_fields.goal (it : Itv) (hp : decide (Itm.bulk (Itm.of it) ≤ 1099511627776) = true) : mp_fields.F it = some [.b (Mp.fieldsOK (Itm.of it))] := by
  have h := of_decide_eq_true hp
  rw [Itm.bulk_of] at h
  have hk := Itm.bulk_kids it.kids
  obtain ⟨k, n, b, t, ks⟩ := it
  simp only at h hk
  refine mp_fields.F_in _ ?_
  intro v1 e1 v2 e2
  simp only at e1 e2
  have key : ∀ x4 : Bool, x4 = decide (k = 1 ∨ k = 9) → mp_fields.j1 v1 v2 true k x4 ⟨k, n, b, t, ks⟩ = some [.b (Mp.fieldsOK (Itm.of ⟨k, n, b, t, ks⟩))] := by
    intro x4 hx
    refine mp_fields.j1_in _ _ _ _ _ _ ?_
    intro u1 f1 u2 f2 u3 f3 u4 f4 u5 f5
    simp only at f1 f4 f5
    simp only [Bool.not_or_self, ck_true]
    subst e1 e2 f1
    have hdiv : Int.tdiv (ks.length : Int) 2 = ((ks.length / 2 : Nat) : Int) := rfl
    have hmod : Int.tmod (ks.length : Int) 2 = ((ks.length % 2 : Nat) : Int) := rfl
    rw [hdiv, i64_in _ (by omega)] at f2
    simp only [Mp.fieldsOK, Itm.of]
    by_cases k1 : k = 1 ∨ k = 9
    · rw [hx, decide_eq_true k1, cond_true, if_pos k1, mp_fields.j2_ok]
      simp [Bool.decide_and, len0, Bool.and_assoc]
    rw [hx, decide_eq_false k1, cond_false, if_neg k1]
    by_cases k2 : k = 2
    · rw [decide_eq_true k2, cond_true, if_pos k2, mp_fields.j2_ok]
      simp [Bool.decide_and, len0, Bool.and_assoc]
    rw [decide_eq_false k2, cond_false, if_neg k2]
    by_cases k3 : k = 3
    · rw [decide_eq_true k3, cond_true, if_pos k3, mp_fields.j2_ok, ck_of (decide_eq_true (by omega))]
      simp [Bool.decide_and, len0, lt32, Bool.and_assoc]
    rw [decide_eq_false k3, cond_false, if_neg k3]
    by_cases k4 : k = 4
    · rw [decide_eq_true k4, cond_true, if_pos k4, mp_fields.j2_ok, ck_of (decide_eq_true (by omega))]
      simp [Bool.decide_and, len0, lt32, Bool.and_assoc]
    rw [decide_eq_false k4, cond_false, if_neg k4]
    by_cases k5 : k = 5
    · rw [decide_eq_true k5, cond_true, if_pos k5, mp_fields.j2_ok, ck_of (decide_eq_true (by omega))]
      simp [Bool.decide_and, len0, lt32, Bool.and_assoc]
    rw [decide_eq_false k5, cond_false, if_neg k5]
    by_cases k6 : k = 6
    · rw [decide_eq_true k6, cond_true, if_pos k6, mp_fields.j2_ok, hmod]
      rw [show (decide (0 ≤ u2 ∧ u2 ≤ 1099511627776)) = true from decide_eq_true (by omega), show (!decide ((2 : Int) = 0)) = true from rfl]
      simp only [Bool.and_true, Bool.not_or_self, ck_true]
      rw [f3, hmod, f2]
      simp [Bool.decide_and, len0, lt32, eq0, Bool.and_assoc, Bool.cond_false_right]
      rw [show decide ((ks.length : Int) % 2 = 0) = decide (ks.length % 2 = 0) from decide_eq_decide.2 (by omega), show decide ((ks.length : Int) / 2 < 4294967296) = decide (ks.length / 2 < 4294967296) from decide_eq_decide.2 (by omega)]
    rw [decide_eq_false k6, cond_false, if_neg k6]
    by_cases k8 : k = 8
    · rw [decide_eq_true k8, cond_true, if_pos k8, mp_fields.j2_ok, f4]
      simp [Bool.decide_and, len0, Bool.and_assoc, Bool.cond_false_right]
    rw [decide_eq_false k8, cond_false, if_neg k8]
    by_cases k10 : k = 10
    · rw [decide_eq_true k10, cond_true, if_pos k10, mp_fields.j2_ok, f5]
      rw [show (decide (0 ≤ (b.length : Int) ∧ (b.length : Int) ≤ 1099511627776)) = true from decide_eq_true (by omega)]
      simp only [Bool.and_true, Bool.not_or_self, ck_true]
      simp [Bool.decide_and, len0, lt32, eq0, Bool.and_assoc, Bool.cond_false_right]
    rw [decide_eq_false k10, cond_false, if_neg k10, mp_fields.j2_ok]
    simp [Bool.decide_and, len0, Bool.and_assoc]
  by_cases k1 : k = 1
  · rw [decide_eq_true k1, cond_true]
    exact key _ (by simp [k1])
  · rw [decide_eq_false k1, cond_false]
    exact key _ (by simp [k1])
theorem Mp.own_eq (it : Itv) : Mp.own (Itm.of it) = if it.kind < 1 ∨ 10 < it.kind ∨ it.kind = 7 then 5 else if Mp.fieldsOK (Itm.of it) = false then 1 else if Utf.whole it.text then 0 else 4 := by
  obtain ⟨k, n, b, t, ks⟩ := it
  simp only [Mp.own, Mp.fieldsOK, Itm.of]
  by_cases h0 : k < 1 ∨ 10 < k ∨ k = 7
  · rw [if_pos h0, if_pos h0]
  rw [if_neg h0, if_neg h0]
  have hk : k = 1 ∨ k = 2 ∨ k = 3 ∨ k = 4 ∨ k = 5 ∨ k = 6 ∨ k = 8 ∨ k = 9 ∨ k = 10 := by omega
  have l0 : ∀ {α : Type} (l : List α), l = [] → l.length = 0 := fun l h => by rw [h]; rfl
  rcases hk with rfl | rfl | rfl | rfl | rfl | rfl | rfl | rfl | rfl <;> simp <;> grind
theorem Mp.chks_at : ∀ (ks : List Itm) (i : Nat), i < ks.length → Mp.chks (ks.drop i) = if Mp.chk (ks.getD i (STy.dflt .il)) = 0 then Mp.chks (ks.drop (i + 1)) else Mp.chk (ks.getD i (STy.dflt .il)) := by
  intro ks i h
  rw [drop_cons h (STy.dflt .il), Mp.chks]
theorem mp_Check.l1_ok (n : Nat) (ks : List Itm) (hb : Itm.bulks ks ≤ 1099511627776) (hn : Itm.bulks ks < n) : ∀ (m i : Nat), i + m = ks.length → mp_Check.l1 n ks (ks.length : Int) i = some [.i .i64 (Mp.chks (ks.drop i))] := by
  have hk := Itm.bulk_kids ks
  intro m
  induction m with
  | zero =>
    intro i hi
    refine mp_Check.l1_in _ _ _ _ ?_
    intro v1 e1 v2 e2
    rw [decide_eq_false (by omega), cond_false, List.drop_of_length_le (by omega)]; rfl
  | succ m ih =>
    intro i hi
    refine mp_Check.l1_in _ _ _ _ ?_
    intro v1 e1 v2 e2
    have hi' : i < ks.length := by omega
    have hb' := Itm.bulks_at ks i hi'
    rw [Int.toNat_natCast, Itm.of_val] at e1
    rw [decide_eq_true (by omega), cond_true, ck_of (idx_ok (by omega) (by omega)), Int.toNat_natCast, Itm.of_val, ck_of (by rw [decide_eq_true (by omega), decide_eq_true (by omega)]; rfl), Mp.chks_at ks i hi', ← e1]
    by_cases a : v1 = 0
    · rw [decide_eq_true a, Bool.not_true, cond_false, if_pos a, show v2 = ((i + 1 : Nat) : Int) by rw [e2, i64_in _ (by omega)]; omega, ih _ (by omega)]
    · rw [decide_eq_false a, Bool.not_false, cond_true, if_neg a]
theorem Mp.chk_of (it : Itv) : Mp.chk (Itm.of it) = if Mp.own (Itm.of it) = 0 then Mp.chks it.kids else Mp.own (Itm.of it) := by rw [Itm.of, Mp.chk]
theorem mp_Check.goal (n : Nat) (it : Itv) (hp : ((decide (Itm.bulk (Itm.of it) ≤ 1099511627776)) && decide ((Itm.bulk (Itm.of it)) < n + 1)) = true) : mp_Check.F n it = some [.i .i64 (Mp.chk (Itm.of it))] := by
  simp only [Bool.and_eq_true, decide_eq_true_eq] at hp
  obtain ⟨h, hn⟩ := hp
  rw [Itm.bulk_of] at h hn
  refine mp_Check.F_in _ _ ?_
  intro v1 e1 v2 e2 v3 e3 v4 e4 v5 e5
  simp only [Bool.not_or_self, Bool.or_not_self, ck_true]
  rw [ck_of (decide_eq_true (by rw [Itm.bulk_of]; omega)), ck_of (big_len (by omega)), ck_of (decide_eq_true (by omega)), e5, e4]
  have hl := mp_Check.l1_ok n it.kids (by omega) (by omega) it.kids.length 0 (by omega)
  rw [show mp_Check.l1 n it.kids (it.kids.length : Int) 0 = some [.i .i64 (Mp.chks it.kids)] from hl, Mp.chk_of, Mp.own_eq]
  have hv : v2 = decide (it.kind < 1 ∨ 10 < it.kind ∨ it.kind = 7) := by
    rw [e2, e1]
    by_cases a : it.kind < 1 <;> by_cases b : 10 < it.kind <;> by_cases c : it.kind = 7 <;> simp [a, b, c]
  rw [hv]
  by_cases h0 : it.kind < 1 ∨ 10 < it.kind ∨ it.kind = 7
  · rw [decide_eq_true h0, cond_true, if_pos h0]; rfl
  rw [decide_eq_false h0, cond_false, if_neg h0]
  cases hf : Mp.fieldsOK (Itm.of it) with
  | false => rfl
  | true =>
    cases hw : Utf.whole it.text <;> rfl
theorem mp_wrong.goal (e at_ : Int) : mp_wrong.F e at_ = some [.ag (Itv.cells (Itm.val Mp.zero)), .ag (Flt.cells (Flt.mk e at_ []))] := mp_wrong.F_eq e at_
theorem mp_unsigned.goal (n : UInt64) : mp_unsigned.F n = some [.ag [.i .i64 (Mp.unsigned n).1, .i .i64 (Mp.unsigned n).2]] := by
  refine mp_unsigned.F_in _ ?_
  intro v1 e1
  unfold Mp.unsigned
  by_cases a : n < 128
  · rw [decide_eq_true a, cond_true, if_pos a, e1, i64_in _ (by have := UInt64.lt_iff_toNat_lt.1 a; simp at this; omega)]
  rw [decide_eq_false a, cond_false, if_neg a]
  by_cases a : n < 256
  · rw [decide_eq_true a, cond_true, if_pos a]
  rw [decide_eq_false a, cond_false, if_neg a]
  by_cases a : n < 65536
  · rw [decide_eq_true a, cond_true, if_pos a]
  rw [decide_eq_false a, cond_false, if_neg a]
  by_cases a : n < 4294967296
  · rw [decide_eq_true a, cond_true, if_pos a]
  rw [decide_eq_false a, cond_false, if_neg a]
theorem mp_signed.goal (n : UInt64) : mp_signed.F n = some [.ag [.i .i64 (Mp.signed n).1, .i .i64 (Mp.signed n).2]] := by
  refine mp_signed.F_in _ ?_
  intro v1 e1 v2 e2
  unfold Mp.signed
  by_cases a : n < 32
  · have := UInt64.lt_iff_toNat_lt.1 a
    simp at this
    rw [decide_eq_true a, cond_true, if_pos a, e2, e1, i64_in (n.toNat : Int) (by omega), i64_in _ (by omega)]
  rw [decide_eq_false a, cond_false, if_neg a]
  by_cases a : n < 128
  · rw [decide_eq_true a, cond_true, if_pos a]
  rw [decide_eq_false a, cond_false, if_neg a]
  by_cases a : n < 32768
  · rw [decide_eq_true a, cond_true, if_pos a]
  rw [decide_eq_false a, cond_false, if_neg a]
  by_cases a : n < 2147483648
  · rw [decide_eq_true a, cond_true, if_pos a]
  rw [decide_eq_false a, cond_false, if_neg a]
theorem mp_put.goal (w : Wtr) (f : Spn) (n : UInt64) (hp : decide (w.b.length + 10 ≤ 1099511627776) = true) : mp_put.F w f n = some [.ag (Wtr.cells (Wtr.mk (w.b ++ Mp.put (f.at_, f.end_) n)))] := by
  have h := of_decide_eq_true hp
  refine mp_put.F_in _ _ _ ?_
  intro v1 e1 v2 e2
  rw [ck_of (decide_eq_true (by omega)), e2, e1, ck_of (decide_eq_true (by simp; omega))]
  simp [Mp.put]
theorem mp_number.goal (it : Itv) (p c : Int) (f : Spn) : mp_number.F it p c f = some [.ag (Itv.cells (Itm.val (Mp.num (Itm.of it) p c f.at_ 0).it)), .ag (Flt.cells (Flt.mk (Mp.num (Itm.of it) p c f.at_ 0).err (Mp.num (Itm.of it) p c f.at_ 0).at_ []))] := by
  rw [mp_number.F_eq, Mp.num]
  by_cases a : f.at_ = c
  · rw [decide_eq_true a, Bool.not_true, cond_false, if_neg (fun h => h a)]; rfl
  · rw [decide_eq_false a, Bool.not_false, cond_true, if_pos a]; rfl
end Go.Eng
namespace Go.Eng
open Go.IntWalk
theorem Mp.own0 (it : Itv) (h : Mp.own (Itm.of it) = 0) : (1 ≤ it.kind ∧ it.kind ≤ 10 ∧ it.kind ≠ 7) ∧ (it.kind = 3 ∨ it.kind = 4 ∨ it.kind = 5 ∨ it.kind = 6 → it.n = 0) ∧ (it.kind ≠ 3 → it.kind ≠ 10 → it.bytes = []) ∧ (it.kind ≠ 4 → it.text = []) ∧
    (it.kind ≠ 5 → it.kind ≠ 6 → it.kids = []) ∧ (it.kind = 2 → it.n < 9223372036854775808) ∧ (it.kind = 8 → 20 ≤ it.n ∧ it.n ≤ 22) ∧ (it.kind = 10 → it.n ≤ 127) ∧ (it.kind = 6 → it.kids.length % 2 = 0) ∧
    it.bytes.length < 4294967296 ∧ it.text.length < 4294967296 ∧ (it.kind = 5 → it.kids.length < 4294967296) ∧ it.kids.length / 2 < 4294967296 ∧ Utf.whole it.text = true := by
  obtain ⟨k, n, b, t, ks⟩ := it
  simp only [Mp.own, Itm.of] at h
  simp only
  by_cases h1 : k < 1 ∨ 10 < k ∨ k = 7
  · rw [if_pos h1] at h; cases h
  rw [if_neg h1] at h
  split at h
  · cases h
  rename_i h2
  split at h
  · cases h
  rename_i h3
  split at h
  · cases h
  rename_i h4
  split at h
  · cases h
  rename_i h5
  split at h
  · rename_i h6
    refine ⟨by omega, ?_, ?_, ?_, ?_, ?_, ?_, ?_, ?_, by omega, by omega, ?_, by omega, h6⟩ <;> grind
  · cases h
theorem Cur.high_len (v : UInt64) (n : Int) : (Cur.high v n).length ≤ 8 := by
  unfold Cur.high
  split
  · rw [Cur.putHigh_len]; omega
  · simp
theorem Mp.put_len (f : Int × Int) (n : UInt64) : (Mp.put f n).length ≤ 9 := by
  have := Cur.high_len n f.2
  simp only [Mp.put, List.length_cons]; omega
theorem Mp.head_len (it : Itm) : (Mp.head it).length ≤ 10 := by
  obtain ⟨k, n, b, t, ks⟩ := it
  unfold Mp.head
  repeat' split
  all_goals first | exact Nat.le_succ_of_le (Mp.put_len _ _) | skip
  · simp
  · simp
  · simp
  · rw [List.length_append, List.length_singleton]; exact Nat.succ_le_succ (Mp.put_len _ _)
mutual
theorem Mp.lay_len : ∀ (it : Itm), (Mp.lay it).length ≤ 16 * Itm.bulk it
  | .mk k n b t ks => by
    have h1 := Mp.head_len (.mk k n b t ks)
    have h2 := Mp.lays_len ks
    simp only [Mp.lay, Itm.bulk, List.length_append]; omega
theorem Mp.lays_len : ∀ (ks : List Itm), (Mp.lays ks).length ≤ 16 * Itm.bulks ks
  | [] => Nat.zero_le _
  | k :: r => by
    have h1 := Mp.lay_len k
    have h2 := Mp.lays_len r
    simp only [Mp.lays, Itm.bulks, List.length_append]; omega
end
theorem Mp.chks_cons {k : Itm} {r : List Itm} (h : Mp.chks (k :: r) = 0) : Mp.chk k = 0 ∧ Mp.chks r = 0 := by
  rw [Mp.chks] at h
  split at h
  · exact ⟨by assumption, h⟩
  · rename_i h'; exact (h' h).elim
theorem Itm.bulks_drop : ∀ (ks : List Itm) (i : Nat), i < ks.length → Itm.bulks (ks.drop i) = Itm.bulk (ks.getD i (STy.dflt .il)) + Itm.bulks (ks.drop (i + 1)) := by
  intro ks i h
  rw [drop_cons h (STy.dflt .il), Itm.bulks]
theorem mp_lay.l2_ok (n : Nat) (ks : List Itm) (hn : Itm.bulks ks < n) (hks : ks.length ≤ 1099511627776) : ∀ (m i : Nat) (w : Wtr), i + m = ks.length → w.b.length + 16 * Itm.bulks (ks.drop i) ≤ 1099511627776 → Mp.chks (ks.drop i) = 0 →
    mp_lay.l2 n ks (ks.length : Int) i w = some [.ag (Wtr.cells (Wtr.mk (w.b ++ Mp.lays (ks.drop i))))] := by
  have hk := Itm.bulk_kids ks
  intro m
  induction m with
  | zero =>
    intro i w hi _ _
    refine mp_lay.l2_in _ _ _ _ _ ?_
    intro v1 e1 v2 e2
    rw [decide_eq_false (by omega), cond_false, List.drop_of_length_le (by omega), show Mp.lays [] = [] from rfl, List.append_nil]
  | succ m ih =>
    intro i w hi hw hc
    refine mp_lay.l2_in _ _ _ _ _ ?_
    intro v1 e1 v2 e2
    have hi' : i < ks.length := by omega
    have hb' := Itm.bulks_at ks i hi'
    have hd := Itm.bulks_drop ks i hi'
    rw [drop_cons hi' (STy.dflt .il)] at hc
    obtain ⟨c1, c2⟩ := Mp.chks_cons hc
    have hl := Mp.lay_len (ks.getD i (STy.dflt .il))
    rw [Int.toNat_natCast, Itm.of_val] at e1
    rw [decide_eq_true (by omega), cond_true, ck_of (idx_ok (by omega) (by omega)), Int.toNat_natCast, Itm.of_val, ck_of (by rw [decide_eq_true (by omega), decide_eq_true c1, decide_eq_true (by omega)]; rfl), show v2 = ((i + 1 : Nat) : Int) by rw [e2, i64_in _ (by omega)]; omega, ih _ _ (by omega) (by rw [e1]; simp only [List.length_append]; omega) c2, e1, drop_cons hi' (STy.dflt .il), Mp.lays]
    simp
theorem mp_lay.j1_ok (n : Nat) (it : Itv) (w : Wtr) (hn : Itm.bulks it.kids < n) (hks : it.kids.length ≤ 1099511627776) (hw : w.b.length + 16 * Itm.bulks it.kids ≤ 1099511627776) (hc : Mp.chks it.kids = 0) :
    mp_lay.j1 n it w = some [.ag (Wtr.cells (Wtr.mk (w.b ++ Mp.lays it.kids)))] := by
  refine mp_lay.j1_in _ _ _ ?_
  intro v1 e1
  subst e1
  exact mp_lay.l2_ok n it.kids hn hks it.kids.length 0 w (by omega) hw hc
theorem Mp.lay_of (it : Itv) : Mp.lay (Itm.of it) = Mp.head (Itm.of it) ++ it.bytes ++ it.text ++ Mp.lays it.kids := by rw [Itm.of, Mp.lay]
theorem Mp.chk0 (it : Itv) (h : Mp.chk (Itm.of it) = 0) : Mp.own (Itm.of it) = 0 ∧ Mp.chks it.kids = 0 := by
  rw [Mp.chk_of] at h
  split at h
  · exact ⟨by assumption, h⟩
  · rename_i h'; exact (h' h).elim
theorem u64_nat' (n : Nat) : UInt64.ofInt (n : Int) = UInt64.ofNat n := by
  apply UInt64.toNat_inj.1
  rw [u64_nat, UInt64.toNat_ofNat']
theorem u8_n (v : UInt64) (h : v.toNat < 9223372036854775808) : UInt8.ofInt (IntKind.i64.wrap (v.toNat : Int)) = v.toUInt8 := by
  rw [i64_in _ (by omega), u8_of]
theorem mp_lay.goal (n : Nat) (w : Wtr) (it : Itv) (hp : ((decide (w.b.length + 16 * Itm.bulk (Itm.of it) ≤ 1099511627776) && decide (Mp.chk (Itm.of it) = 0)) && decide ((Itm.bulk (Itm.of it)) < n + 1)) = true) :
    mp_lay.F n w it = some [.ag (Wtr.cells (Wtr.mk (w.b ++ Mp.lay (Itm.of it))))] := by
  simp only [Bool.and_eq_true, decide_eq_true_eq] at hp
  obtain ⟨⟨hw, hc⟩, hn⟩ := hp
  obtain ⟨ho, hcs⟩ := Mp.chk0 it hc
  obtain ⟨p1, p2, p3, p4, p5, p6, p7, p8, p9, p10, p11, p12, p13, p14⟩ := Mp.own0 it ho
  rw [Itm.bulk_of] at hw hn
  have hk := Itm.bulk_kids it.kids
  have J := fun (w' : Wtr) (h' : w'.b.length ≤ w.b.length + 16 + it.bytes.length + it.text.length) => mp_lay.j1_ok n it w' (by omega) (by omega) (by omega) hcs
  rw [Mp.lay_of]
  obtain ⟨k, u, b, t, ks⟩ := it
  simp only at p1 p2 p3 p4 p5 p6 p7 p8 p9 p10 p11 p12 p13 p14 hw hn hk J ⊢
  refine mp_lay.F_in _ _ _ ?_
  intro v1 e1 v2 e2 v3 e3 v4 e4 v5 e5 v6 e6 v7 e7 v8 e8 v9 e9 v10 e10 v11 e11 v12 e12 v13 e13 v14 e14 v15 e15 v16 e16 v17 e17 v18 e18 v19 e19 v20 e20 v21 e21 v22 e22 v23 e23 v24 e24 v25 e25 v26 e26
  simp only at e1 e2 e3 e4 e5 e6 e7 e8 e9 e10 e11 e12 e13 e14 e15 e16 e17 e18 e19 e20 e21 e22 e23 e24 e25 e26 ⊢
  have L := fun f m => Mp.put_len f m
  have hk' : k = 1 ∨ k = 2 ∨ k = 3 ∨ k = 4 ∨ k = 5 ∨ k = 6 ∨ k = 8 ∨ k = 9 ∨ k = 10 := by omega
  have c10 : decide (w.b.length + 10 ≤ 1099511627776) = true := decide_eq_true (by omega)
  rcases hk' with rfl | rfl | rfl | rfl | rfl | rfl | rfl | rfl | rfl
  all_goals simp only [Int.reduceEq, decide_true, decide_false, cond_true, cond_false, c10, ck_true, Bool.not_false]
  · have h3 := p3 (by decide) (by decide)
    have h4 := p4 (by decide)
    subst h3 h4
    have := L ((Mp.unsigned u).1, (Mp.unsigned u).2) u
    rw [J v1 (by rw [e1]; simp only [List.length_append]; omega), e1]
    simp [Itm.of, Mp.head]
  · have h3 := p3 (by decide) (by decide)
    have h4 := p4 (by decide)
    subst h3 h4
    have := L ((Mp.signed u).1, (Mp.signed u).2) (~~~ u)
    rw [J v2 (by rw [e2]; simp only [List.length_append]; omega), e2]
    simp [Itm.of, Mp.head]
  · have h4 := p4 (by decide)
    subst h4
    have := L (v12, v13) (UInt64.ofInt v11)
    rw [ck_of (by rw [decide_eq_true (by omega)]; rfl), ck_of (decide_eq_true (by rw [e14]; simp only [List.length_append]; omega)), J v15 (by rw [e15, e14]; simp only [List.length_append]; omega), e15, e14, e12, e13, e11, u64_nat']
    simp [Itm.of, Mp.head]
  · have h3 := p3 (by decide) (by decide)
    subst h3
    have := L (v7, v8) (UInt64.ofInt v6)
    rw [ck_of (by rw [decide_eq_true (by omega)]; rfl), ck_of (big_len (by omega)), ck_of (decide_eq_true (by rw [e9]; simp only [List.length_append]; omega)), J v10 (by rw [e10, e9]; simp only [List.length_append]; omega), e10, e9, e7, e8, e6, u64_nat']
    simp [Itm.of, Mp.head]
  · have h3 := p3 (by decide) (by decide)
    have h4 := p4 (by decide)
    subst h3 h4
    have := p12 rfl
    have := L (v20, v21) (UInt64.ofInt v19)
    rw [ck_of (by rw [decide_eq_true (by omega)]; rfl), J v22 (by rw [e22]; simp only [List.length_append]; omega), e22, e20, e21, e19, u64_nat']
    simp [Itm.of, Mp.head]
  · have h3 := p3 (by decide) (by decide)
    have h4 := p4 (by decide)
    subst h3 h4
    have e23' : v23 = ((ks.length / 2 : Nat) : Int) := by rw [e23, e19, show Int.tdiv (ks.length : Int) 2 = ((ks.length / 2 : Nat) : Int) from rfl, i64_in _ (by omega)]
    have := L (v24, v25) (UInt64.ofInt v23)
    rw [ck_of (by rw [decide_eq_true (by omega)]; rfl), J v26 (by rw [e26]; simp only [List.length_append]; omega), e26, e24, e25, e23', u64_nat']
    simp [Itm.of, Mp.head]
  · have h3 := p3 (by decide) (by decide)
    have h4 := p4 (by decide)
    subst h3 h4
    obtain ⟨q1, q2⟩ := p7 rfl
    have hu : u = 20 ∨ u = 21 ∨ u = 22 := by
      have a := UInt64.le_iff_toNat_le.1 q1
      have b := UInt64.le_iff_toNat_le.1 q2
      simp at a b
      have : u.toNat = 20 ∨ u.toNat = 21 ∨ u.toNat = 22 := by omega
      rcases this with h | h | h
      · exact .inl (UInt64.toNat_inj.1 h)
      · exact .inr (.inl (UInt64.toNat_inj.1 h))
      · exact .inr (.inr (UInt64.toNat_inj.1 h))
    have hv4 : v4.b.length = w.b.length + 1 := by rw [e4]; simp
    rw [ck_of (by rcases hu with rfl | rfl | rfl <;> rfl), ck_of (decide_eq_true (by omega)), J v4 (by omega), e4, e3]
    rcases hu with rfl | rfl | rfl <;> simp [Itm.of, Mp.head] <;> rfl
  · have h3 := p3 (by decide) (by decide)
    have h4 := p4 (by decide)
    subst h3 h4
    have := L (203, 8) u
    rw [J v5 (by rw [e5]; simp only [List.length_append]; omega), e5]
    simp [Itm.of, Mp.head]
  · have h4 := p4 (by decide)
    subst h4
    have h8 := UInt64.le_iff_toNat_le.1 (p8 rfl)
    simp at h8
    have := L (v12, v13) (UInt64.ofInt v11)
    have l14 : v14.b.length ≤ w.b.length + 9 := by rw [e14]; simp only [List.length_append]; omega
    have l17 : v17.b.length ≤ w.b.length + 10 := by rw [e17]; simp only [List.length_append, List.length_singleton]; omega
    rw [ck_of (by rw [decide_eq_true (by omega)]; rfl), ck_of (decide_eq_true (by omega)), ck_of (decide_eq_true (by omega)), J v18 (by rw [e18]; simp only [List.length_append]; omega), e18, e17, e14, e16, u8_n _ (by omega), e12, e13, e11, u64_nat']
    simp [Itm.of, Mp.head]
theorem mp_Encode.goal (it : Itv) (hp : decide (Itm.bulk (Itm.of it) ≤ 1073741824) = true) : mp_Encode.F it = some [.sl .bs (Mp.enc (Itm.of it)), .i .i64 (Mp.chk (Itm.of it))] := by
  have h := of_decide_eq_true hp
  refine mp_Encode.F_in _ ?_
  intro v1 e1
  have hl := Mp.lay_len (Itm.of it)
  rw [ck_of (decide_eq_true (by omega)), Mp.enc]
  by_cases a : Mp.chk (Itm.of it) = 0
  · have l1 : v1.b.length ≤ 1099511627776 := by rw [e1]; simp only [List.nil_append]; omega
    rw [decide_eq_true a, Bool.not_true, cond_false, if_pos a, ck_of (by rw [decide_eq_true (by simp only [List.length_nil]; omega)]; rfl), ck_of (decide_eq_true l1), e1, a]
    rfl
  · rw [decide_eq_false a, Bool.not_false, cond_true, if_neg a]
end Go.Eng
namespace Go.Eng
open Go.IntWalk
theorem mp_first.k192 : mp_first.F 192 = some [.i .i64 (Mp.first 192).1, .u64 (Mp.first 192).2.1, .i .i64 (Mp.first 192).2.2] := by kernel_rfl
theorem mp_first.k193 : mp_first.F 193 = some [.i .i64 (Mp.first 193).1, .u64 (Mp.first 193).2.1, .i .i64 (Mp.first 193).2.2] := by kernel_rfl
theorem mp_first.k194 : mp_first.F 194 = some [.i .i64 (Mp.first 194).1, .u64 (Mp.first 194).2.1, .i .i64 (Mp.first 194).2.2] := by kernel_rfl
theorem mp_first.k195 : mp_first.F 195 = some [.i .i64 (Mp.first 195).1, .u64 (Mp.first 195).2.1, .i .i64 (Mp.first 195).2.2] := by kernel_rfl
theorem mp_first.k196 : mp_first.F 196 = some [.i .i64 (Mp.first 196).1, .u64 (Mp.first 196).2.1, .i .i64 (Mp.first 196).2.2] := by kernel_rfl
theorem mp_first.k197 : mp_first.F 197 = some [.i .i64 (Mp.first 197).1, .u64 (Mp.first 197).2.1, .i .i64 (Mp.first 197).2.2] := by kernel_rfl
theorem mp_first.k198 : mp_first.F 198 = some [.i .i64 (Mp.first 198).1, .u64 (Mp.first 198).2.1, .i .i64 (Mp.first 198).2.2] := by kernel_rfl
theorem mp_first.k199 : mp_first.F 199 = some [.i .i64 (Mp.first 199).1, .u64 (Mp.first 199).2.1, .i .i64 (Mp.first 199).2.2] := by kernel_rfl
theorem mp_first.k200 : mp_first.F 200 = some [.i .i64 (Mp.first 200).1, .u64 (Mp.first 200).2.1, .i .i64 (Mp.first 200).2.2] := by kernel_rfl
theorem mp_first.k201 : mp_first.F 201 = some [.i .i64 (Mp.first 201).1, .u64 (Mp.first 201).2.1, .i .i64 (Mp.first 201).2.2] := by kernel_rfl
theorem mp_first.k202 : mp_first.F 202 = some [.i .i64 (Mp.first 202).1, .u64 (Mp.first 202).2.1, .i .i64 (Mp.first 202).2.2] := by kernel_rfl
theorem mp_first.k203 : mp_first.F 203 = some [.i .i64 (Mp.first 203).1, .u64 (Mp.first 203).2.1, .i .i64 (Mp.first 203).2.2] := by kernel_rfl
theorem mp_first.k204 : mp_first.F 204 = some [.i .i64 (Mp.first 204).1, .u64 (Mp.first 204).2.1, .i .i64 (Mp.first 204).2.2] := by kernel_rfl
theorem mp_first.k205 : mp_first.F 205 = some [.i .i64 (Mp.first 205).1, .u64 (Mp.first 205).2.1, .i .i64 (Mp.first 205).2.2] := by kernel_rfl
theorem mp_first.k206 : mp_first.F 206 = some [.i .i64 (Mp.first 206).1, .u64 (Mp.first 206).2.1, .i .i64 (Mp.first 206).2.2] := by kernel_rfl
theorem mp_first.k207 : mp_first.F 207 = some [.i .i64 (Mp.first 207).1, .u64 (Mp.first 207).2.1, .i .i64 (Mp.first 207).2.2] := by kernel_rfl
theorem mp_first.k208 : mp_first.F 208 = some [.i .i64 (Mp.first 208).1, .u64 (Mp.first 208).2.1, .i .i64 (Mp.first 208).2.2] := by kernel_rfl
theorem mp_first.k209 : mp_first.F 209 = some [.i .i64 (Mp.first 209).1, .u64 (Mp.first 209).2.1, .i .i64 (Mp.first 209).2.2] := by kernel_rfl
theorem mp_first.k210 : mp_first.F 210 = some [.i .i64 (Mp.first 210).1, .u64 (Mp.first 210).2.1, .i .i64 (Mp.first 210).2.2] := by kernel_rfl
theorem mp_first.k211 : mp_first.F 211 = some [.i .i64 (Mp.first 211).1, .u64 (Mp.first 211).2.1, .i .i64 (Mp.first 211).2.2] := by kernel_rfl
theorem mp_first.k212 : mp_first.F 212 = some [.i .i64 (Mp.first 212).1, .u64 (Mp.first 212).2.1, .i .i64 (Mp.first 212).2.2] := by kernel_rfl
theorem mp_first.k213 : mp_first.F 213 = some [.i .i64 (Mp.first 213).1, .u64 (Mp.first 213).2.1, .i .i64 (Mp.first 213).2.2] := by kernel_rfl
theorem mp_first.k214 : mp_first.F 214 = some [.i .i64 (Mp.first 214).1, .u64 (Mp.first 214).2.1, .i .i64 (Mp.first 214).2.2] := by kernel_rfl
theorem mp_first.k215 : mp_first.F 215 = some [.i .i64 (Mp.first 215).1, .u64 (Mp.first 215).2.1, .i .i64 (Mp.first 215).2.2] := by kernel_rfl
theorem mp_first.k216 : mp_first.F 216 = some [.i .i64 (Mp.first 216).1, .u64 (Mp.first 216).2.1, .i .i64 (Mp.first 216).2.2] := by kernel_rfl
theorem mp_first.k217 : mp_first.F 217 = some [.i .i64 (Mp.first 217).1, .u64 (Mp.first 217).2.1, .i .i64 (Mp.first 217).2.2] := by kernel_rfl
theorem mp_first.k218 : mp_first.F 218 = some [.i .i64 (Mp.first 218).1, .u64 (Mp.first 218).2.1, .i .i64 (Mp.first 218).2.2] := by kernel_rfl
theorem mp_first.k219 : mp_first.F 219 = some [.i .i64 (Mp.first 219).1, .u64 (Mp.first 219).2.1, .i .i64 (Mp.first 219).2.2] := by kernel_rfl
theorem mp_first.k220 : mp_first.F 220 = some [.i .i64 (Mp.first 220).1, .u64 (Mp.first 220).2.1, .i .i64 (Mp.first 220).2.2] := by kernel_rfl
theorem mp_first.k221 : mp_first.F 221 = some [.i .i64 (Mp.first 221).1, .u64 (Mp.first 221).2.1, .i .i64 (Mp.first 221).2.2] := by kernel_rfl
theorem mp_first.k222 : mp_first.F 222 = some [.i .i64 (Mp.first 222).1, .u64 (Mp.first 222).2.1, .i .i64 (Mp.first 222).2.2] := by kernel_rfl
theorem mp_first.k223 : mp_first.F 223 = some [.i .i64 (Mp.first 223).1, .u64 (Mp.first 223).2.1, .i .i64 (Mp.first 223).2.2] := by kernel_rfl
theorem mp_first.goal (c : Int) (hp : decide (0 ≤ c ∧ c ≤ 255) = true) : mp_first.F c = some [.i .i64 (Mp.first c).1, .u64 (Mp.first c).2.1, .i .i64 (Mp.first c).2.2] := by
  have h := of_decide_eq_true hp
  by_cases hc : 192 ≤ c ∧ c < 224
  · have : c = 192 ∨ c = 193 ∨ c = 194 ∨ c = 195 ∨ c = 196 ∨ c = 197 ∨ c = 198 ∨ c = 199 ∨ c = 200 ∨ c = 201 ∨ c = 202 ∨ c = 203 ∨ c = 204 ∨ c = 205 ∨ c = 206 ∨ c = 207 ∨ c = 208 ∨ c = 209 ∨ c = 210 ∨ c = 211 ∨ c = 212 ∨ c = 213 ∨ c = 214 ∨ c = 215 ∨ c = 216 ∨ c = 217 ∨ c = 218 ∨ c = 219 ∨ c = 220 ∨ c = 221 ∨ c = 222 ∨ c = 223 := by omega
    rcases this with rfl | rfl | rfl | rfl | rfl | rfl | rfl | rfl | rfl | rfl | rfl | rfl | rfl | rfl | rfl | rfl | rfl | rfl | rfl | rfl | rfl | rfl | rfl | rfl | rfl | rfl | rfl | rfl | rfl | rfl | rfl | rfl 
    · exact mp_first.k192
    · exact mp_first.k193
    · exact mp_first.k194
    · exact mp_first.k195
    · exact mp_first.k196
    · exact mp_first.k197
    · exact mp_first.k198
    · exact mp_first.k199
    · exact mp_first.k200
    · exact mp_first.k201
    · exact mp_first.k202
    · exact mp_first.k203
    · exact mp_first.k204
    · exact mp_first.k205
    · exact mp_first.k206
    · exact mp_first.k207
    · exact mp_first.k208
    · exact mp_first.k209
    · exact mp_first.k210
    · exact mp_first.k211
    · exact mp_first.k212
    · exact mp_first.k213
    · exact mp_first.k214
    · exact mp_first.k215
    · exact mp_first.k216
    · exact mp_first.k217
    · exact mp_first.k218
    · exact mp_first.k219
    · exact mp_first.k220
    · exact mp_first.k221
    · exact mp_first.k222
    · exact mp_first.k223
  refine mp_first.F_in _ ?_
  intro v1 e1 v2 e2 v3 e3 v4 e4
  intros
  unfold Mp.first
  by_cases a : c < 128
  · rw [decide_eq_true a, cond_true, if_pos a]
  rw [decide_eq_false a, cond_false, if_neg a]
  by_cases a : c < 144
  · rw [decide_eq_true a, cond_true, if_pos a, e1, i64_in _ (by omega)]
  rw [decide_eq_false a, cond_false, if_neg a]
  by_cases a : c < 160
  · rw [decide_eq_true a, cond_true, if_pos a, e2, i64_in _ (by omega)]
  rw [decide_eq_false a, cond_false, if_neg a]
  by_cases a : c < 192
  · rw [decide_eq_true a, cond_true, if_pos a, e3, i64_in _ (by omega)]
  rw [decide_eq_false a, cond_false, if_neg a, decide_eq_true (show (224 : Int) ≤ c by omega), cond_true, if_pos (show (224 : Int) ≤ c by omega), e4, i64_in _ (by omega)]
set_option maxRecDepth 100000 in
theorem Mp.first_kinds (c : Int) (h : 0 ≤ c ∧ c ≤ 255) : ((Mp.first c).1 = 0 ∨ (Mp.first c).1 = 1 ∨ (Mp.first c).1 = 2 ∨ (Mp.first c).1 = 3 ∨ (Mp.first c).1 = 4 ∨ (Mp.first c).1 = 5 ∨ (Mp.first c).1 = 6 ∨ (Mp.first c).1 = 8 ∨ (Mp.first c).1 = 9 ∨ (Mp.first c).1 = 10) ∧
    ((Mp.first c).2.2 = 0 ∨ (Mp.first c).2.2 = 1 ∨ (Mp.first c).2.2 = 2 ∨ (Mp.first c).2.2 = 4 ∨ (Mp.first c).2.2 = 8) ∧ ((Mp.first c).2.2 = 8 → (Mp.first c).1 = 1 ∨ (Mp.first c).1 = 2 ∨ (Mp.first c).1 = 9) ∧
    ((Mp.first c).2.2 = 0 → (Mp.first c).2.1.toNat ≤ 127) ∧ ((Mp.first c).1 = 2 → (Mp.first c).2.2 = 0 → (Mp.first c).2.1.toNat ≤ 31) := by
  obtain ⟨m, rfl⟩ : ∃ m : Nat, c = m := ⟨c.toNat, by omega⟩
  have key : ∀ m : Fin 256, ((Mp.first m.val).1 = 0 ∨ (Mp.first m.val).1 = 1 ∨ (Mp.first m.val).1 = 2 ∨ (Mp.first m.val).1 = 3 ∨ (Mp.first m.val).1 = 4 ∨ (Mp.first m.val).1 = 5 ∨ (Mp.first m.val).1 = 6 ∨ (Mp.first m.val).1 = 8 ∨ (Mp.first m.val).1 = 9 ∨ (Mp.first m.val).1 = 10) ∧
    ((Mp.first m.val).2.2 = 0 ∨ (Mp.first m.val).2.2 = 1 ∨ (Mp.first m.val).2.2 = 2 ∨ (Mp.first m.val).2.2 = 4 ∨ (Mp.first m.val).2.2 = 8) ∧ ((Mp.first m.val).2.2 = 8 → (Mp.first m.val).1 = 1 ∨ (Mp.first m.val).1 = 2 ∨ (Mp.first m.val).1 = 9) ∧
    ((Mp.first m.val).2.2 = 0 → (Mp.first m.val).2.1.toNat ≤ 127) ∧ ((Mp.first m.val).1 = 2 → (Mp.first m.val).2.2 = 0 → (Mp.first m.val).2.1.toNat ≤ 31) := by decide +kernel
  exact key ⟨m, by omega⟩
theorem mp_row.goal (r : Rdr) (it : Itv) (p n : Int) (hp : Cur.good r = true) : mp_row.F r it p n = some [.ag (Itv.cells (Itm.val (Mp.row r.b (Itm.of it) p r.at_ n).it)), .ag (Flt.cells (Flt.mk (Mp.row r.b (Itm.of it) p r.at_ n).err (Mp.row r.b (Itm.of it) p r.at_ n).at_ [])), .ag (Rdr.cells (Rdr.mk r.b (Mp.row r.b (Itm.of it) p r.at_ n).pos))] := by
  obtain ⟨h0, h1, h2⟩ := Cur.good_iff.1 hp
  refine mp_row.F_in _ _ _ _ ?_
  intro v1 e1 v2 e2
  have hl := Cur.nx_len r n (Cur.okT r n)
  rw [ck_of hp]
  cases ho : Cur.okT r n with
  | false =>
    have ho' : n < 0 ∨ (r.b.length : Int) - r.at_ < n := by
      have := of_decide_eq_false ho; omega
    rw [Mp.row, if_pos ho']; rfl
  | true =>
    have ho' : ¬ (n < 0 ∨ (r.b.length : Int) - r.at_ < n) := by
      have := of_decide_eq_true ho; omega
    rw [ho] at hl e2
    rw [Mp.row, if_neg ho', Bool.not_true, cond_false]
    by_cases a : it.kind = 4
    · rw [decide_eq_true a, Bool.not_true, cond_false, if_neg (show ¬ (Itm.of it).kind ≠ 4 from fun h => h a), ck_of (decide_eq_true (by omega)), e2, show Cur.nx r n true = (r.b.drop r.at_.toNat).take n.toNat from rfl]
      cases hw : Utf.whole ((r.b.drop r.at_.toNat).take n.toNat) <;> rfl
    · rw [decide_eq_false a, Bool.not_false, cond_true, if_pos (show (Itm.of it).kind ≠ 4 from a)]; rfl
theorem Mp.kids_pos (b : Str) (f : Int → Mp.Got) (hf : ∀ q : Int, 0 ≤ q → q ≤ b.length → q ≤ (f q).pos ∧ (f q).pos ≤ b.length ∧ ((f q).err = 0 → q < (f q).pos)) : ∀ (n : Nat) (it : Itm) (q : Int), 0 ≤ q → q ≤ b.length →
    q ≤ (Mp.kids f it n q).pos ∧ (Mp.kids f it n q).pos ≤ b.length := by
  intro n
  induction n with
  | zero => intro it q h0 h1; exact ⟨Int.le_refl _, h1⟩
  | succ n ih =>
    intro it q h0 h1
    obtain ⟨a, c, _⟩ := hf q h0 h1
    rw [Mp.kids]
    split
    · exact ⟨a, c⟩
    · have := ih (.mk it.kind it.n it.bytes it.text (it.kids ++ [(f q).it])) (f q).pos (by omega) c
      exact ⟨by omega, this.2⟩
theorem Mp.num_pos (it : Itm) (p c f q : Int) : (Mp.num it p c f q).pos = q := by unfold Mp.num; split <;> rfl
theorem Mp.row_pos (b : Str) (it : Itm) (p q n : Int) (h : q ≤ b.length) : q ≤ (Mp.row b it p q n).pos ∧ (Mp.row b it p q n).pos ≤ b.length := by
  unfold Mp.row; repeat' split
  all_goals simp only [Mp.bad]; omega
theorem Mp.end_pos (b : Str) (sub : Int → Mp.Got) (hf : ∀ q : Int, 0 ≤ q → q ≤ b.length → q ≤ (sub q).pos ∧ (sub q).pos ≤ b.length ∧ ((sub q).err = 0 → q < (sub q).pos)) (p c k : Int) (n : UInt64) (long : Int) (t : UInt64) (q : Int) (h0 : 0 ≤ q) (h : q ≤ b.length) :
    q ≤ (Mp.readEnd b sub p c k n long t q).pos ∧ (Mp.readEnd b sub p c k n long t q).pos ≤ b.length := by
  unfold Mp.readEnd
  repeat' split
  all_goals first
    | exact ⟨Int.le_refl _, h⟩
    | (rw [Mp.num_pos]; exact ⟨Int.le_refl _, h⟩)
    | exact Mp.kids_pos b _ hf _ _ q h0 h
    | exact Mp.row_pos b _ _ q _ h
theorem Mp.read_pos (b : Str) : ∀ (d : Nat) (p : Int), 0 ≤ p → p ≤ b.length → p ≤ (Mp.read b d p).pos ∧ (Mp.read b d p).pos ≤ b.length ∧ ((Mp.read b d p).err = 0 → p < (Mp.read b d p).pos) := by
  intro d
  induction d with
  | zero => intro p h0 h1; exact ⟨Int.le_refl _, h1, fun h => by simp [Mp.read, Mp.bad] at h⟩
  | succ d ih =>
    intro p h0 h1
    rw [Mp.read]
    by_cases g1 : (b.length : Int) ≤ p
    · rw [if_pos g1]; exact ⟨Int.le_refl _, h1, fun h => by simp [Mp.bad] at h⟩
    rw [if_neg g1]
    have hc := Mp.first_kinds ((b.getD p.toNat 0).toNat : Int) ⟨by omega, by have := (b.getD p.toNat 0).toNat_lt; omega⟩
    generalize Mp.first ((b.getD p.toNat 0).toNat : Int) = F at hc
    obtain ⟨k, n0, long⟩ := F
    simp only at hc ⊢
    obtain ⟨hk, hl, _⟩ := hc
    have step : ∀ (q : Int), p + 1 ≤ q → q ≤ b.length → ∀ g : Mp.Got, q ≤ g.pos ∧ g.pos ≤ b.length → p ≤ g.pos ∧ g.pos ≤ b.length ∧ (g.err = 0 → p < g.pos) := fun q a c g x => ⟨by omega, x.2, fun _ => by omega⟩
    have bp : ∀ (e q : Int), q ≤ b.length → q ≤ (Mp.bad e p q).pos ∧ (Mp.bad e p q).pos ≤ b.length := fun e q h => ⟨Int.le_refl _, h⟩
    unfold Mp.readAt
    by_cases g2 : k = 0
    · rw [if_pos g2]; exact step (p + 1) (by omega) (by omega) _ (bp _ _ (by omega))
    rw [if_neg g2]
    by_cases g3 : (b.length : Int) - (p + 1) < long
    · rw [if_pos g3]; exact step (p + 1) (by omega) (by omega) _ (bp _ _ (by omega))
    rw [if_neg g3]
    unfold Mp.readTail
    by_cases g4 : k = 10
    · rw [if_pos g4]
      by_cases g5 : (b.length : Int) - (p + 1 + long) < 1
      · rw [if_pos g5]; exact step (p + 1 + long) (by omega) (by omega) _ (bp _ _ (by omega))
      rw [if_neg g5]
      exact step (p + 1 + long + 1) (by omega) (by omega) _ (Mp.end_pos b _ ih _ _ _ _ _ _ _ (by omega) (by omega))
    · rw [if_neg g4]
      exact step (p + 1 + long) (by omega) (by omega) _ (Mp.end_pos b _ ih _ _ _ _ _ _ _ (by omega) (by omega))
end Go.Eng
namespace Go.Eng
open Go.IntWalk
theorem Cur.be_lt : ∀ (l : Str) (x : UInt64) (k : Nat), x.toNat < 256 ^ k → k + l.length ≤ 8 → (l.foldl (fun v y => v * 256 + y.toUInt64) x).toNat < 256 ^ (k + l.length)
  | [], x, k, h, _ => by simpa using h
  | y :: l, x, k, h, hl => by
    rw [List.foldl_cons, List.length_cons, show k + (l.length + 1) = (k + 1) + l.length by omega]
    refine Cur.be_lt l _ (k + 1) ?_ (by simp at hl; omega)
    have hy := y.toNat_lt
    have h8 : k + 1 ≤ 8 := by simp at hl; omega
    have hp : 256 ^ (k + 1) ≤ 256 ^ 8 := Nat.pow_le_pow_right (by omega) h8
    rw [UInt64.toNat_add, UInt64.toNat_mul, UInt8.toNat_toUInt64, show (256 : UInt64).toNat = 256 from rfl, Nat.pow_succ]
    rw [Nat.pow_succ] at hp
    omega
theorem Cur.be_bound (l : Str) (n : Nat) (h : l.length = n) (hn : n ≤ 8) : (Cur.be l).toNat < 256 ^ n := by
  have := Cur.be_lt l 0 0 (by simp) (by omega)
  rw [Nat.zero_add, h] at this
  exact this
theorem mp_kids.l2_ok (n : Nat) (b : Str) (hb : b.length ≤ 1099511627776) (depth : Int) (hd : 1 ≤ depth ∧ depth ≤ 1000) (hn : 2 * depth.toNat < n + 1) (M : Int) (hM : M ≤ 8589934592) (kind : Int) (u : UInt64) (t : Str) (x7 : Itv) (x8 : Flt) :
    ∀ (k : Nat) (i : Int) (acc : List Itm) (q : Int), 0 ≤ i → i + k = M → 0 ≤ q → q ≤ b.length → (acc.length : Int) ≤ q →
      mp_kids.l2 n depth M i kind u t acc x7 x8 ⟨b, q⟩ = some [.ag (Itv.cells (Itm.val (Mp.kids (Mp.read b (depth - 1).toNat) (Itm.mk kind u [] t acc) k q).it)), .ag (Flt.cells (Flt.mk (Mp.kids (Mp.read b (depth - 1).toNat) (Itm.mk kind u [] t acc) k q).err (Mp.kids (Mp.read b (depth - 1).toNat) (Itm.mk kind u [] t acc) k q).at_ [])), .ag (Rdr.cells (Rdr.mk b (Mp.kids (Mp.read b (depth - 1).toNat) (Itm.mk kind u [] t acc) k q).pos))] := by
  intro k
  induction k with
  | zero =>
    intro i acc q hi0 hi h0 h1 ha
    refine mp_kids.l2_in _ _ _ _ _ _ _ _ _ _ _ ?_
    intro v1 e1 v2 e2 v3 e3 v4 e4 v5 e5
    rw [decide_eq_false (by omega), cond_false]; rfl
  | succ k ih =>
    intro i acc q hi0 hi h0 h1 ha
    refine mp_kids.l2_in _ _ _ _ _ _ _ _ _ _ _ ?_
    intro v1 e1 v2 e2 v3 e3 v4 e4 v5 e5
    have e1' : v1 = depth - 1 := by rw [e1, i64_in _ (by omega)]
    obtain ⟨g1, g2, g3⟩ := Mp.read_pos b (depth - 1).toNat q h0 h1
    rw [e1'] at e2 e3 e4
    simp only [Itm.of_val] at e2 e3 e4
    rw [decide_eq_true (by omega), cond_true, ck_of (by rw [Cur.good_iff.2 ⟨h0, h1, hb⟩, decide_eq_true (by omega), decide_eq_true (by omega)]; rfl), Mp.kids, e2]
    by_cases a : (Mp.read b (depth - 1).toNat q).err = 0
    · rw [decide_eq_true a, Bool.not_true, cond_false, if_neg (fun h => h a), e4]
      have := g3 a
      rw [ck_of (big_ap (by simp only [List.length_singleton]; omega) (by simp only [List.length_singleton]; omega)), show v5 = i + 1 by rw [e5, i64_in _ (by omega)], e3]
      exact ih (i + 1) (acc ++ [(Mp.read b (depth - 1).toNat q).it]) _ (by omega) (by omega) (by omega) g2 (by rw [List.length_append, List.length_singleton]; omega)
    · rw [decide_eq_false a, Bool.not_false, cond_true, if_pos a, e3]; rfl
theorem mp_kids.goal (n : Nat) (r : Rdr) (it : Itv) (m depth : Int) (hp : ((Cur.good r && decide (0 ≤ m ∧ m ≤ 4294967296 ∧ 1 ≤ depth ∧ depth ≤ 1000)) && decide ((2 * depth.toNat) < n + 1)) = true) :
    mp_kids.F n r it m depth = some [.ag (Itv.cells (Itm.val (Mp.kids (Mp.read r.b (depth - 1).toNat) (Itm.mk it.kind it.n [] it.text []) (Mp.many it.kind m) r.at_).it)), .ag (Flt.cells (Flt.mk (Mp.kids (Mp.read r.b (depth - 1).toNat) (Itm.mk it.kind it.n [] it.text []) (Mp.many it.kind m) r.at_).err (Mp.kids (Mp.read r.b (depth - 1).toNat) (Itm.mk it.kind it.n [] it.text []) (Mp.many it.kind m) r.at_).at_ [])), .ag (Rdr.cells (Rdr.mk r.b (Mp.kids (Mp.read r.b (depth - 1).toNat) (Itm.mk it.kind it.n [] it.text []) (Mp.many it.kind m) r.at_).pos))] := by
  simp only [Bool.and_eq_true, decide_eq_true_eq] at hp
  obtain ⟨⟨hg, hm⟩, hn⟩ := hp
  obtain ⟨h0, h1, h2⟩ := Cur.good_iff.1 hg
  refine mp_kids.F_in _ _ _ _ _ ?_
  intro v1 e1
  have e1' : v1 = m * 2 := by rw [e1, i64_in _ (by omega)]
  unfold Mp.many
  by_cases a : it.kind = 6
  · rw [decide_eq_true a, cond_true, if_pos a, mp_kids.j1_eq]
    exact mp_kids.l2_ok n r.b h2 depth (by omega) (by omega) v1 (by omega) _ _ _ _ _ _ 0 [] _ (by omega) (by omega) h0 h1 h0
  · rw [decide_eq_false a, cond_false, if_neg a, mp_kids.j1_eq]
    exact mp_kids.l2_ok n r.b h2 depth (by omega) (by omega) m (by omega) _ _ _ _ _ _ 0 [] _ (by omega) (by omega) h0 h1 h0
theorem shl_toNat (n : UInt64) (k : Nat) : (shl64 n k).toNat = n.toNat * 2 ^ k % 18446744073709551616 := by
  rw [shl64, UInt64.toNat_ofNat']
theorem not_u64 (v : UInt64) : (~~~ v).toNat = 18446744073709551615 - v.toNat := by
  have := v.toNat_lt
  have h : UInt64.size = 18446744073709551616 := rfl
  rw [UInt64.toNat_not]; omega
theorem u64_int (n : Int) : (UInt64.ofInt n).toNat = (n % 18446744073709551616).toNat := by
  have h := u64_ofInt n
  rw [wrap_u64'] at h; omega
theorem Mp.below_eq (n : UInt64) (long : Int) (hl : long = 1 ∨ long = 2 ∨ long = 4 ∨ long = 8) (hn : n.toNat < 256 ^ long.toNat) (s : Int) (hs : s = 64 - 8 * long) (v : UInt64)
    (hv : v = ~~~ (UInt64.ofInt (Int.fdiv (IntKind.i64.wrap ((shl64 n s.toNat).toNat : Int)) (2 ^ (min s.toNat IntKind.i64.bits))))) :
    match Mp.below n long with | none => 9223372036854775808 ≤ v | some m => v = m ∧ ¬ 9223372036854775808 ≤ v := by
  have hw := n.toNat_lt
  have key : ∀ (top : UInt64) (k L : Nat), s.toNat = k → k + L = 64 → 0 < L → top.toNat = 2 ^ (L - 1) → n.toNat < 2 ^ L → (match (if n < top then none else some (top - 1 - (n - top)) : Option UInt64) with | none => 9223372036854775808 ≤ v | some m => v = m ∧ ¬ 9223372036854775808 ≤ v) := by
    intro top k L hk hkL hL ht hnL
    have hb : (2 : Nat) ^ (k + (L - 1)) = 2 ^ 63 := by rw [show k + (L - 1) = 63 by omega]
    rw [Nat.pow_add] at hb
    have hkp : 0 < 2 ^ k := Nat.pow_pos (by omega)
    have hLp : 0 < 2 ^ (L - 1) := Nat.pow_pos (by omega)
    have h2L : 2 ^ L = 2 * 2 ^ (L - 1) := by
      have e : L = (L - 1) + 1 := by omega
      conv => lhs; rw [e, Nat.pow_succ]
      omega
    have hmul : n.toNat * 2 ^ k < 18446744073709551616 := by
      have : n.toNat * 2 ^ k < 2 ^ L * 2 ^ k := Nat.mul_lt_mul_of_pos_right hnL hkp
      rw [h2L, Nat.mul_assoc, Nat.mul_comm (2 ^ (L - 1)), hb] at this
      exact this
    have hsh : (shl64 n s.toNat).toNat = n.toNat * 2 ^ k := by rw [shl_toNat, hk, Nat.mod_eq_of_lt hmul]
    have hmin : min s.toNat IntKind.i64.bits = k := by rw [hk]; show min k 64 = k; omega
    rw [hsh, hmin] at hv
    have hcast : ((2 : Int) ^ k) = ((2 ^ k : Nat) : Int) := by rw [Int.natCast_pow]; rfl
    rw [hcast] at hv
    have hvn : v.toNat = 18446744073709551615 - (UInt64.ofInt (Int.fdiv (IntKind.i64.wrap ((n.toNat * 2 ^ k : Nat) : Int)) ((2 ^ k : Nat) : Int))).toNat := by rw [hv, not_u64]
    by_cases a : n < top
    · rw [if_pos a]
      have a' := UInt64.lt_iff_toNat_lt.1 a
      rw [ht] at a'
      have hsmall : n.toNat * 2 ^ k < 9223372036854775808 := by
        have : n.toNat * 2 ^ k < 2 ^ (L - 1) * 2 ^ k := Nat.mul_lt_mul_of_pos_right a' hkp
        rw [Nat.mul_comm (2 ^ (L - 1)), hb] at this
        exact this
      rw [i64_in _ (by omega), Int.fdiv_eq_ediv_of_nonneg _ (by omega), show ((n.toNat * 2 ^ k : Nat) : Int) / ((2 ^ k : Nat) : Int) = ((n.toNat * 2 ^ k / 2 ^ k : Nat) : Int) from rfl, Nat.mul_div_cancel _ hkp, u64_nat, Nat.mod_eq_of_lt hw] at hvn
      have hL63 : 2 ^ (L - 1) ≤ 2 ^ 63 := Nat.pow_le_pow_right (by omega) (by omega)
      show 9223372036854775808 ≤ v
      rw [UInt64.le_iff_toNat_le, hvn, show (9223372036854775808 : UInt64).toNat = 9223372036854775808 from rfl]
      omega
    · rw [if_neg a]
      have a' : 2 ^ (L - 1) ≤ n.toNat := by rw [← ht]; exact Nat.le_of_not_lt fun h => a (UInt64.lt_iff_toNat_lt.2 h)
      have hbig : 9223372036854775808 ≤ n.toNat * 2 ^ k := by
        have : 2 ^ (L - 1) * 2 ^ k ≤ n.toNat * 2 ^ k := Nat.mul_le_mul_right _ a'
        rw [Nat.mul_comm (2 ^ (L - 1)), hb] at this
        exact this
      have hwr : IntKind.i64.wrap ((n.toNat * 2 ^ k : Nat) : Int) = ((n.toNat : Int) - ((2 ^ L : Nat) : Int)) * ((2 ^ k : Nat) : Int) := by
        rw [IntKind.wrap_i64, Int.sub_mul, show ((2 ^ L : Nat) : Int) * ((2 ^ k : Nat) : Int) = ((2 ^ L * 2 ^ k : Nat) : Int) by simp, h2L, Nat.mul_assoc, Nat.mul_comm (2 ^ (L - 1)), hb, show (n.toNat : Int) * ((2 ^ k : Nat) : Int) = ((n.toNat * 2 ^ k : Nat) : Int) by simp]
        omega
      have hL64 : 2 ^ L ≤ 2 ^ 64 := Nat.pow_le_pow_right (by omega) (by omega)
      rw [hwr, Int.mul_fdiv_cancel _ (by omega), u64_int] at hvn
      have e1 : (1 : UInt64).toNat = 1 := rfl
      have hm : (top - 1 - (n - top)).toNat = 2 ^ L - 1 - n.toNat := by
        have h1 : (top - 1).toNat = 2 ^ (L - 1) - 1 := by
          rw [UInt64.toNat_sub_of_le _ _ (by rw [UInt64.le_iff_toNat_le, ht, e1]; omega), ht, e1]
        have h2 : (n - top).toNat = n.toNat - 2 ^ (L - 1) := by
          rw [UInt64.toNat_sub_of_le _ _ (by rw [UInt64.le_iff_toNat_le, ht]; exact a'), ht]
        rw [UInt64.toNat_sub_of_le _ _ (by rw [UInt64.le_iff_toNat_le, h1, h2]; omega), h1, h2]; omega
      refine ⟨UInt64.toNat_inj.1 ?_, fun h => ?_⟩
      · rw [hm, hvn]; omega
      · rw [UInt64.le_iff_toNat_le, hvn, show (9223372036854775808 : UInt64).toNat = 9223372036854775808 from rfl] at h
        omega
  unfold Mp.below
  rcases hl with rfl | rfl | rfl | rfl
  · exact key 128 56 8 (by omega) rfl (by decide) rfl (by simpa using hn)
  · exact key 32768 48 16 (by omega) rfl (by decide) rfl (by simpa using hn)
  · exact key 2147483648 32 32 (by omega) rfl (by decide) rfl (by simpa using hn)
  · exact key 9223372036854775808 0 64 (by omega) rfl (by decide) rfl (by simpa using hn)
section
variable {n : Nat} {depth p c k long q : Int} {u t : UInt64} {b : Str}
def Mp.Got.tvs (b : Str) (g : Mp.Got) : List TV := [.ag (Itv.cells (Itm.val g.it)), .ag (Flt.cells (Flt.mk g.err g.at_ [])), .ag (Rdr.cells (Rdr.mk b g.pos))]
theorem mp_read.j4_ok (x3 : Itv) (x4 : Flt) (v : UInt64) (x6 : UInt64) (hv : match (none : Option UInt64) with | none => True | some _ => True) :
    mp_read.j4 n p c v x3 x4 k x6 [] ⟨b, q⟩ = some (Mp.Got.tvs b (if 9223372036854775808 ≤ v then Mp.bad 3 p q else Mp.num (.mk k v [] [] []) p c (Mp.signed v).1 q)) := by
  refine mp_read.j4_in _ _ _ _ _ _ _ _ _ _ ?_
  intro v1 e1
  by_cases a : 9223372036854775808 ≤ v
  · rw [decide_eq_true a, cond_true, if_pos a]; rfl
  · rw [decide_eq_false a, cond_false, if_neg a, e1]
    simp only [Mp.num, Itm.of]
    split <;> rfl
theorem mp_read.j3_ok (x8 : Itv) (x9 : Flt) (hd : 1 ≤ depth ∧ depth ≤ 1000) (hn : 2 * depth.toNat < n) (hb : b.length ≤ 1099511627776) (hq : 0 ≤ q ∧ q ≤ b.length)
    (hk : k = 1 ∨ k = 2 ∨ k = 3 ∨ k = 4 ∨ k = 5 ∨ k = 6 ∨ k = 8 ∨ k = 9 ∨ k = 10) (hl : long = 0 ∨ long = 1 ∨ long = 2 ∨ long = 4 ∨ long = 8)
    (hu : long ≠ 0 → u.toNat < 256 ^ long.toNat) (hu0 : long = 0 → u.toNat ≤ 127) (h8 : long = 8 → k = 1 ∨ k = 2 ∨ k = 9) :
    mp_read.j3 n depth p c k u long k (decide (k = 8 ∨ k = 9)) x8 x9 k t [] ⟨b, q⟩ = some (Mp.Got.tvs b (Mp.readEnd b (Mp.read b (depth - 1).toNat) p c k u long t q)) := by
  refine mp_read.j3_in _ _ _ _ _ _ _ _ _ _ _ _ _ _ _ ?_
  intro v1 e1 v2 e2 v3 e3 v4 e4 v5 e5 v6 e6 v7 e7 v8 e8 v9 e9 v10 e10 v11 e11 v12 e12 v13 e13
  have hg : Cur.good ⟨b, q⟩ = true := Cur.good_iff.2 ⟨hq.1, hq.2, hb⟩
  unfold Mp.readEnd
  by_cases a : k = 8 ∨ k = 9
  · rw [decide_eq_true a, cond_true, if_pos a]; rfl
  rw [decide_eq_false a, cond_false, if_neg a]
  by_cases a1 : k = 1
  · rw [decide_eq_true a1, cond_true, if_pos a1, e1]
    simp only [Mp.num, Itm.of]
    split <;> rfl
  rw [decide_eq_false a1, cond_false, if_neg a1]
  by_cases a2 : k = 2
  · rw [decide_eq_true a2, cond_true, if_pos a2]
    by_cases a3 : long = 0
    · rw [decide_eq_false (by omega), cond_false, if_pos a3, mp_read.j4_ok _ _ _ _ trivial, if_neg (fun h => by
        have := UInt64.le_iff_toNat_le.1 h
        have := hu0 a3
        rw [show (9223372036854775808 : UInt64).toNat = 9223372036854775808 from rfl] at *
        omega)]
    · have hl' : long = 1 ∨ long = 2 ∨ long = 4 ∨ long = 8 := by omega
      have e3' : v3 = 64 - 8 * long := by rw [e3, e2, i64_in (8 * long) (by omega), i64_in _ (by omega)]
      have hB := Mp.below_eq u long hl' (hu a3) v3 e3' _ rfl
      rw [decide_eq_true (by omega), cond_true, if_neg a3, ck_of (decide_eq_true (by omega)), ck_of (decide_eq_true (by omega)), mp_read.j4_ok _ _ _ _ trivial, e5, e4]
      cases hbl : Mp.below u long with
      | none => rw [hbl] at hB; rw [if_pos hB]
      | some m => rw [hbl] at hB; rw [if_neg hB.2, hB.1]
  rw [decide_eq_false a2, cond_false, if_neg a2]
  have hu32 : u.toNat < 4294967296 := by
    by_cases a3 : long = 0
    · have := hu0 a3; omega
    · have hq3 := hu a3
      have h124 : long = 1 ∨ long = 2 ∨ long = 4 := by
        rcases hl with h | h | h | h | h
        · exact (a3 h).elim
        · exact .inl h
        · exact .inr (.inl h)
        · exact .inr (.inr h)
        · have := h8 h; omega
      rcases h124 with h | h | h <;> rw [h] at hq3 <;> simp at hq3 <;> omega
  have e6' : v6 = (u.toNat : Int) := by rw [e6, i64_in _ (by omega)]
  have hs : Mp.sizeds k = true := by unfold Mp.sizeds; exact decide_eq_true (by omega)
  rw [ck_of (by rw [hs, decide_eq_true (by omega)]; rfl)]
  have h7 : (!decide ((Mp.sized k v6).1 = c) || v7) = true := by rw [e7]; cases decide ((Mp.sized k v6).1 = c) <;> rfl
  simp only [Bool.not_or_self, ck_true]
  rw [ck_of h7, e8, e6']
  by_cases a4 : (Mp.sized k u.toNat).1 ≠ c ∨ 127 < t
  · rw [if_pos a4, show (cond (!decide ((Mp.sized k u.toNat).1 = c)) true (decide (127 < t))) = true by
      by_cases a5 : (Mp.sized k u.toNat).1 = c
      · rw [decide_eq_true a5]; simpa using a4.resolve_left (fun h => h a5)
      · rw [decide_eq_false a5]; rfl]; rfl
  · have a5 : (Mp.sized k u.toNat).1 = c := Classical.byContradiction fun h => a4 (.inl h)
    have a6 : ¬ 127 < t := fun h => a4 (.inr h)
    rw [if_neg a4, a5, decide_eq_true rfl, decide_eq_false a6]
    simp only [Bool.not_true, cond_false, Bool.or_not_self, ck_true]
    rw [e9]
    by_cases k5 : k = 5
    · rw [decide_eq_true k5, cond_true, cond_true, if_pos k5, ck_of (by rw [hg, decide_eq_true (by omega), decide_eq_true (by omega)]; rfl), e10, e11, e6', show Mp.many (Itv.kind ⟨k, t, [], [], []⟩) (u.toNat : Int) = u.toNat by unfold Mp.many; rw [if_neg (by show ¬ k = 6; omega)]; omega]
      rfl
    rw [decide_eq_false k5, cond_false, if_neg k5]
    by_cases k6 : k = 6
    · rw [decide_eq_true k6, cond_true, if_pos k6, ck_of (by rw [hg, decide_eq_true (by omega), decide_eq_true (by omega)]; rfl), e10, e11, e6', show Mp.many (Itv.kind ⟨k, t, [], [], []⟩) (u.toNat : Int) = 2 * u.toNat by unfold Mp.many; rw [if_pos (by show k = 6; omega)]; omega]
      rfl
    rw [decide_eq_false k6, cond_false, if_neg k6, ck_of hg, e12, e13, e6']
    rfl
theorem u8_u64 (v : UInt8) : UInt64.ofInt ((v.toNat : Nat) : Int) = v.toUInt64 := by
  apply UInt64.toNat_inj.1
  have := v.toNat_lt
  rw [u64_nat, UInt8.toNat_toUInt64]; omega
theorem mp_read.j1_ok (x6 : Itv) (x7 : Flt) (hd : 1 ≤ depth ∧ depth ≤ 1000) (hn : 2 * depth.toNat < n) (hb : b.length ≤ 1099511627776) (hq : 0 ≤ q ∧ q ≤ b.length)
    (hk : k = 1 ∨ k = 2 ∨ k = 3 ∨ k = 4 ∨ k = 5 ∨ k = 6 ∨ k = 8 ∨ k = 9 ∨ k = 10) (hl : long = 0 ∨ long = 1 ∨ long = 2 ∨ long = 4 ∨ long = 8)
    (hu : long ≠ 0 → u.toNat < 256 ^ long.toNat) (hu0 : long = 0 → u.toNat ≤ 127) (h8 : long = 8 → k = 1 ∨ k = 2 ∨ k = 9) :
    mp_read.j1 n depth p c k u long x6 x7 ⟨b, q⟩ = some (Mp.Got.tvs b (Mp.readTail b (Mp.read b (depth - 1).toNat) p c k u long q)) := by
  have hg : Cur.good ⟨b, q⟩ = true := Cur.good_iff.2 ⟨hq.1, hq.2, hb⟩
  have two : ∀ (t : UInt64) (q' : Int), 0 ≤ q' ∧ q' ≤ b.length → mp_read.j2 n depth p c k u long x6 x7 k t [] ⟨b, q'⟩ = some (Mp.Got.tvs b (Mp.readEnd b (Mp.read b (depth - 1).toNat) p c k u long t q')) := by
    intro t q' hq'
    rw [mp_read.j2_eq]
    have J := mp_read.j3_ok (n := n) (depth := depth) (p := p) (c := c) (k := k) (long := long) (q := q') (u := u) (t := t) (b := b) x6 x7 hd hn hb hq' hk hl hu hu0 h8
    by_cases a : k = 8
    · rw [decide_eq_true a, cond_true, ← J]
      congr 1
      exact (decide_eq_true (Or.inl a)).symm
    · rw [decide_eq_false a, cond_false, ← J]
      congr 1
      by_cases a9 : k = 9
      · rw [decide_eq_true a9]; exact (decide_eq_true (Or.inr a9)).symm
      · rw [decide_eq_false a9]; exact (decide_eq_false (by omega)).symm
  rw [mp_read.j1_eq, Mp.readTail]
  by_cases a : k = 10
  · rw [decide_eq_true a, cond_true, if_pos a, ck_of hg]
    by_cases m : q < b.length
    · rw [show Cur.more ⟨b, q⟩ = true from decide_eq_true m, Bool.not_true, cond_false, if_neg (by omega), show Cur.byte ⟨b, q⟩ = ((b.getD q.toNat 0).toNat : Int) from if_pos m, u8_u64]
      exact two _ (q + 1) (by omega)
    · rw [show Cur.more ⟨b, q⟩ = false from decide_eq_false m, Bool.not_false, cond_true, if_pos (by omega)]; rfl
  · rw [decide_eq_false a, cond_false, if_neg a]
    exact two 0 q hq
end
theorem mp_read.goal (n : Nat) (r : Rdr) (depth : Int) (hp : ((Cur.good r && decide (0 ≤ depth ∧ depth ≤ 1000)) && decide ((2 * depth.toNat + 1) < n + 1)) = true) :
    mp_read.F n r depth = some [.ag (Itv.cells (Itm.val (Mp.read r.b depth.toNat r.at_).it)), .ag (Flt.cells (Flt.mk (Mp.read r.b depth.toNat r.at_).err (Mp.read r.b depth.toNat r.at_).at_ [])), .ag (Rdr.cells (Rdr.mk r.b (Mp.read r.b depth.toNat r.at_).pos))] := by
  simp only [Bool.and_eq_true, decide_eq_true_eq] at hp
  obtain ⟨⟨hg, hd⟩, hn⟩ := hp
  obtain ⟨h0, h1, h2⟩ := Cur.good_iff.1 hg
  obtain ⟨b, p⟩ := r
  simp only at h0 h1 h2 ⊢
  show mp_read.F n ⟨b, p⟩ depth = some (Mp.Got.tvs b (Mp.read b depth.toNat p))
  refine mp_read.F_in _ _ _ ?_
  intro v1 e1 v2 e2 v3 e3 v4 e4 v5 e5 v6 e6 v7 e7 v8 e8 v9 e9
  by_cases a : depth = 0
  · rw [decide_eq_true a, cond_true, a, e1]; rfl
  obtain ⟨d, rfl⟩ : ∃ d : Nat, depth = (d : Int) + 1 := ⟨(depth - 1).toNat, by omega⟩
  rw [decide_eq_false a, cond_false, ck_of hg, show ((d : Int) + 1).toNat = d + 1 by omega, Mp.read]
  by_cases m : p < b.length
  · have hm : Cur.more ⟨b, p⟩ = true := decide_eq_true m
    have hby : Cur.byte ⟨b, p⟩ = ((b.getD p.toNat 0).toNat : Int) := if_pos m
    have hc : 0 ≤ ((b.getD p.toNat 0).toNat : Int) ∧ ((b.getD p.toNat 0).toNat : Int) ≤ 255 := ⟨by omega, by have := (b.getD p.toNat 0).toNat_lt; omega⟩
    rw [hby] at e3 e4 e5
    rw [hm] at e7 e8 e9
    have had : Cur.adv ⟨b, p⟩ 1 true = ⟨b, p + 1⟩ := rfl
    rw [had] at e7 e8 e9
    obtain ⟨F1, F2, F3, F4, F5⟩ := Mp.first_kinds _ hc
    rw [hm, Bool.not_true, cond_false, hby, had, ck_of (decide_eq_true hc), if_neg (by omega), ← e3, ← e4, ← e5, Mp.readAt]
    rw [← e3, ← e4, ← e5] at *
    by_cases k0 : v3 = 0
    · rw [decide_eq_true k0, cond_true, if_pos k0, e6]; rfl
    rw [decide_eq_false k0, cond_false, if_neg k0]
    have hg' : Cur.good ⟨b, p + 1⟩ = true := Cur.good_iff.2 ⟨by show 0 ≤ p + 1; omega, by show p + 1 ≤ (b.length : Int); omega, h2⟩
    by_cases l0 : v5 = 0
    · rw [decide_eq_false (by omega), cond_false, if_neg (by omega), if_pos l0, l0, Int.add_zero]
      have J := mp_read.j1_ok (n := n) (depth := (d : Int) + 1) (p := p) (c := ((b.getD p.toNat 0).toNat : Int)) (k := v3) (long := 0) (q := p + 1) (u := v4) (b := b) ⟨0, 0, [], [], []⟩ ⟨0, 0, []⟩ (by omega) (by omega) h2 (by omega) (by omega) (by omega) (fun h => (h rfl).elim) (fun _ => F4 l0) (fun h => by omega)
      rw [show ((d : Int) + 1 - 1).toNat = d by omega] at J
      exact J
    · rw [decide_eq_true (by omega), cond_true, ck_of hg']
      have h8' : v8 = !decide ((b.length : Int) - (p + 1) < v5) := by
        rw [e8, Cur.ok8]
        by_cases x : (b.length : Int) - (p + 1) < v5
        · rw [decide_eq_true x]; exact decide_eq_false (by show ¬ (1 ≤ v5 ∧ v5 ≤ 8 ∧ v5 ≤ (b.length : Int) - (p + 1)); omega)
        · rw [decide_eq_false x]; exact decide_eq_true (by show 1 ≤ v5 ∧ v5 ≤ 8 ∧ v5 ≤ (b.length : Int) - (p + 1); omega)
      rw [← e8] at e7 e9
      by_cases x : (b.length : Int) - (p + 1) < v5
      · rw [decide_eq_true x] at h8'
        rw [if_pos x, h8', e2, e9, h8']; rfl
      · rw [decide_eq_false x] at h8'
        rw [if_neg x, if_neg l0, h8', e9, e7, h8', Bool.not_false, Bool.not_true, cond_false]
        have hbl := Cur.be_bound ((b.drop (p + 1).toNat).take v5.toNat) v5.toNat (by rw [List.length_take, List.length_drop]; omega) (by omega)
        have J := mp_read.j1_ok (n := n) (depth := (d : Int) + 1) (p := p) (c := ((b.getD p.toNat 0).toNat : Int)) (k := v3) (long := v5) (q := p + 1 + v5) (u := Cur.be ((b.drop (p + 1).toNat).take v5.toNat)) (b := b) ⟨0, 0, [], [], []⟩ ⟨0, 0, []⟩ (by omega) (by omega) h2 (by omega) (by omega) F2 (fun _ => hbl) (fun h => (l0 h).elim) F3
        rw [show ((d : Int) + 1 - 1).toNat = d by omega] at J
        exact J
  · have hm : Cur.more ⟨b, p⟩ = false := decide_eq_false m
    rw [hm, Bool.not_false, cond_true, if_pos (by omega), e2]; rfl
theorem mp_Decode.goal (b : Str) (depth : Int) (hp : decide (b.length ≤ 1099511627776) = true) : mp_Decode.F b depth = some [.ag (Itv.cells (Itm.val (Mp.dec b depth).1)), .ag (Flt.cells (Mp.dec b depth).2)] := by
  have hb := of_decide_eq_true hp
  refine mp_Decode.F_in _ _ ?_
  intro v1 e1 v2 e2 v3 e3 v4 e4 v5 e5
  simp only [Bool.not_or_self, Bool.or_not_self, ck_true]
  have e1' : v1 = decide (depth < 0 ∨ 1000 < depth) := by
    rw [e1]
    by_cases a : depth < 0 <;> by_cases b : 1000 < depth <;> simp [a, b]
  rw [e1', Mp.dec]
  by_cases a : depth < 0 ∨ 1000 < depth
  · rw [decide_eq_true a, cond_true, if_pos a, e2]
  have hg : Cur.good ⟨b, 0⟩ = true := Cur.good_iff.2 ⟨Int.le_refl _, by show (0 : Int) ≤ (b.length : Int); omega, hb⟩
  obtain ⟨g1, g2, _⟩ := Mp.read_pos b depth.toNat 0 (Int.le_refl _) (by omega)
  simp only at e3 e4
  rw [decide_eq_false a, cond_false, if_neg a, ck_of hp, ck_of (by rw [hg, decide_eq_true (by omega)]; rfl), e3]
  by_cases x : (Mp.read b depth.toNat 0).err = 0
  · have hg4 : Cur.good v4 = true := by rw [e4]; exact Cur.good_iff.2 ⟨g1, g2, hb⟩
    rw [decide_eq_true x, Bool.not_true, cond_false, if_neg (fun h => h x), ck_of hg4, e5, e4]
    by_cases y : (Mp.read b depth.toNat 0).pos < b.length
    · rw [decide_eq_true (by show 0 < (b.length : Int) - (Mp.read b depth.toNat 0).pos; omega), cond_true, if_pos y]
    · rw [decide_eq_false (by show ¬ 0 < (b.length : Int) - (Mp.read b depth.toNat 0).pos; omega), cond_false, if_neg y]; rfl
  · rw [decide_eq_false x, Bool.not_false, cond_true, if_pos x]; rfl
end Go.Eng
namespace Go.Eng
open Go.IntWalk
theorem Cur.be_snoc (l : Str) (y : UInt8) : Cur.be (l ++ [y]) = Cur.be l * 256 + y.toUInt64 := by
  rw [Cur.be, List.foldl_append]; rfl
theorem Cur.be_put : ∀ (n : Nat) (v : UInt64), n ≤ 8 → (Cur.be (Cur.putHigh v n)).toNat = v.toNat % 256 ^ n
  | 0, v, _ => by rw [Nat.pow_zero, Nat.mod_one]; rfl
  | n + 1, v, hn => by
    have ih := Cur.be_put n (v / 256) (by omega)
    have hp : 256 ^ n ≤ 256 ^ 7 := Nat.pow_le_pow_right (by omega) (by omega)
    have h1 : Cur.putHigh v (n + 1) = Cur.putHigh (v / 256) n ++ [v.toUInt8] := by rw [Cur.putHigh, Cur.putLow, List.reverse_cons]; rfl
    have hlt : (v / 256).toNat % 256 ^ n < 256 ^ n := Nat.mod_lt _ (Nat.pow_pos (by omega))
    rw [h1, Cur.be_snoc, UInt64.toNat_add, UInt64.toNat_mul, ih, UInt8.toNat_toUInt64, UInt64.toNat_toUInt8, show (256 : UInt64).toNat = 256 from rfl]
    rw [UInt64.toNat_div, show (256 : UInt64).toNat = 256 from rfl] at hlt ⊢
    have hm : v.toNat % 256 ^ (n + 1) = v.toNat % 256 + 256 * (v.toNat / 256 % 256 ^ n) := by rw [Nat.pow_succ, Nat.mul_comm (256 ^ n), Nat.mod_mul]
    have h8 : v.toNat % 2 ^ 8 = v.toNat % 256 := rfl
    rw [hm, h8]; omega
end Go.Eng
namespace Go.Eng
open Go.IntWalk
section
variable {c : UInt8} {L : Str} {u : UInt64} {k : Int} {n0 : UInt64} {long : Int}
structure Mp.Says (c : UInt8) (L : Str) (u : UInt64) (k : Int) (n0 : UInt64) (long : Int) : Prop where
  f : Mp.first (c.toNat : Int) = (k, n0, long)
  k0 : k ≠ 0
  l : L.length = long.toNat
  u : u = if long = 0 then n0 else Cur.be L
theorem Mp.Says.long' (h : Mp.Says c L u k n0 long) : long = 0 ∨ long = 1 ∨ long = 2 ∨ long = 4 ∨ long = 8 := by
  have := (Mp.first_kinds (c.toNat : Int) ⟨by omega, by have := c.toNat_lt; omega⟩).2.1
  rw [h.f] at this; exact this
end
end Go.Eng
namespace Go.Eng
open Go.IntWalk
section
variable {n : Nat} {b : Str} {p w d k q : Int} {u t : UInt64}
def Mp.body (b : Str) (f : Int → Mp.Got) (p k : Int) (u t : UInt64) (q : Int) : Mp.Got :=
  if k = 4 ∨ k = 3 ∨ k = 10 then Mp.row b (.mk k t [] [] []) p q u.toNat
  else if k = 6 then Mp.kids f (.mk k 0 [] [] []) (2 * u.toNat) q
  else if k = 5 then Mp.kids f (.mk k 0 [] [] []) u.toNat q
  else ⟨.mk k u [] [] [], 0, 0, q⟩
end
end Go.Eng
namespace Go.Eng
open Go.IntWalk
section
variable {c : UInt8} {L : Str} {u : UInt64} {k : Int} {n0 : UInt64} {long : Int}
theorem Mp.Says.kinds (h : Mp.Says c L u k n0 long) : (k = 1 ∨ k = 2 ∨ k = 3 ∨ k = 4 ∨ k = 5 ∨ k = 6 ∨ k = 8 ∨ k = 9 ∨ k = 10) ∧ (long = 8 → k = 1 ∨ k = 2 ∨ k = 9) ∧ (long = 0 → u.toNat ≤ 127) ∧ (k = 2 → long = 0 → u.toNat ≤ 31) := by
  have hc : 0 ≤ (c.toNat : Int) ∧ (c.toNat : Int) ≤ 255 := ⟨by omega, by have := c.toNat_lt; omega⟩
  obtain ⟨F1, _, F3, F4, F5⟩ := Mp.first_kinds _ hc
  rw [h.f] at F1 F3 F4 F5
  simp only at F1 F3 F4 F5
  have hk0 := h.k0
  refine ⟨by omega, F3, fun a => ?_, fun a b => ?_⟩
  · rw [h.u, if_pos a]; exact F4 a
  · rw [h.u, if_pos b]; exact F5 a b
theorem Mp.Says.u8 (h : Mp.Says c L u k n0 long) : long ≠ 0 → u.toNat < 256 ^ long.toNat := by
  intro a
  have hl := h.long'
  rw [h.u, if_neg a]
  exact Cur.be_bound L long.toNat h.l (by omega)
theorem Mp.Says.u32 (h : Mp.Says c L u k n0 long) (hk : k = 4 ∨ k = 3 ∨ k = 10 ∨ k = 5 ∨ k = 6) : u.toNat < 4294967296 := by
  obtain ⟨_, F3, F4, _⟩ := h.kinds
  by_cases a3 : long = 0
  · have := F4 a3; omega
  · have hq3 := h.u8 a3
    have h124 : long = 1 ∨ long = 2 ∨ long = 4 := by
      rcases h.long' with h | h | h | h | h
      · exact (a3 h).elim
      · exact .inl h
      · exact .inr (.inl h)
      · exact .inr (.inr h)
      · have := F3 h; omega
    clear F3 F4 hk a3
    rcases h124 with h | h | h
    · rw [h] at hq3; exact Nat.lt_trans hq3 (by decide)
    · rw [h] at hq3; exact Nat.lt_trans hq3 (by decide)
    · rw [h] at hq3; exact hq3
end
section
variable {n : Nat} {b : Str} {p w d k : Int} {u n0 : UInt64} {long : Int}
end
end Go.Eng
namespace Go.Eng
open Go.IntWalk
theorem law29_awake.goal : law29_awake.F = some [.b true] := by
  refine law29_awake.F_in ?_
  intro v1 e1 v2 e2 v3 e3 v4 e4 v5 e5 v6 e6 v7 e7 v8 e8
  have c2 : v2 = 0 := by rw [e2]; decide +kernel
  have c1 : v1 = [208, 223] := by rw [e1]; decide +kernel
  have c5 : v5 = 3 := by rw [e5, e3]; decide +kernel
  have c7 : v7 = 0 := by rw [e7, e3]; decide +kernel
  simp only [Bool.not_or_self, ck_true]
  rw [ck_of (by decide +kernel), ck_of (by rw [e3]; rfl), e8, e6, e4, c2, c1, c5, c7]
  rfl
end Go.Eng
