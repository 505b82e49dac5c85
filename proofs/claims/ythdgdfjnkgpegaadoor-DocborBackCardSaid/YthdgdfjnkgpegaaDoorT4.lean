/- Texts of my own, one behind the other: DbGp0. -/
import Derived.Test.YthdgdfjnkgpegaaDoorT3
set_option linter.unusedVariables false
set_option linter.unusedSimpArgs false
namespace Go.Eng
open Go.Proofs
noncomputable def trydbGl:Nat→TV:=glL [(1,tabV .u64 Lib.pow10Tab)]
noncomputable section
def utf_is.sg:FSig:={}
def utf_is.c:Ctr:=fun l=>match l with
 | [.i .i64 r] => .ok [(.b (Utf.isRune r))]
 | _ => .err
def utf_Rune.sg:FSig:={ nres:=2 }
def utf_Rune.c:Ctr:=fun l=>match l with
 | [.sl .bs b,.i .i64 at_] => .if_ (decide (b.length≤1099511627776)) [(.i .i64 ((Utf.runeAt b at_).1)),(.i .i64 ((Utf.runeAt b at_).2))]
 | _ => .err
def utf_look.sg:FSig:={ nres:=2 }
def utf_look.c:Ctr:=fun l=>match l with
 | [.sl .bs b] => .if_ (decide (b.length≤1099511627776)) [(.i .i64 (((Utf.look b).1:Int))),(.i .i64 (((Utf.look b).2:Int)))]
 | _ => .err
def utf_Check.sg:FSig:={ nres:=2 }
def utf_Check.c:Ctr:=fun l=>match l with
 | [.sl .bs b] => .if_ (decide (b.length≤1099511627776)) [(.i .i64 (((Utf.look b).1:Int))),(.b (Utf.whole b))]
 | _ => .err
def ref2_Rune.sg:FSig:={ nres:=2 }
def ref2_Rune.c:Ctr:=fun l=>match l with
 | [.sl .bs b,.i .i64 at_] => .if_ (decide (b.length≤1099511627776)) [(.i .i64 ((Utf.runeAt b at_).1)),(.i .i64 ((Utf.runeAt b at_).2))]
 | _ => .err
def ref2_Check.sg:FSig:={ nres:=2 }
def ref2_Check.c:Ctr:=fun l=>match l with
 | [.sl .bs b] => .if_ (decide (b.length≤1099511627776)) [(.i .i64 (((Utf.look b).1:Int))),(.b (Utf.whole b))]
 | _ => .err
def ref2_Whole.sg:FSig:={}
def ref2_Whole.c:Ctr:=fun l=>match l with
 | [.s s] => .if_ (decide (s.length≤1099511627776)) [(.b (Utf.whole s))]
 | _ => .err
def sl_IndexByte.sg:FSig:={}
def sl_IndexByte.c:Ctr:=fun l=>match l with
 | [.s s,.u8 c] => .ok [(.i .i64 (Lib.indexByte s c))]
 | _ => .err
def sl_Index.sg:FSig:={}
def sl_Index.c:Ctr:=fun l=>match l with
 | [.s s,.s t] => .if_ (decide (t.length=1)) [(.i .i64 (Lib.indexByte s (t.getD 0 0)))]
 | _ => .err
def st_Index.sg:FSig:={}
def st_Index.c:Ctr:=fun l=>match l with
 | [.s s,.s t] => .if_ (decide (t.length=1)) [(.i .i64 (Lib.indexByte s (t.getD 0 0)))]
 | _ => .err
def st_Contains.sg:FSig:={}
def st_Contains.c:Ctr:=fun l=>match l with
 | [.s s,.s t] => .if_ (decide (t.length=1)) [(.b (decide (0≤Lib.indexByte s (t.getD 0 0))))]
 | _ => .err
def clone_is.sg:FSig:={ ps:=some (0,1) }
def clone_is.c:Ctr:=cloneC .is 8
def tree_Name.sg:FSig:={}
def tree_Name.c:Ctr:=fun l=>match l with
 | [.i .i64 k] => .ok [(.s (Tree.name k))]
 | _ => .err
def tree_fields.sg:FSig:={}
def tree_fields.c:Ctr:=fun l=>match l with
 | [.ag [.i .i64 v_kind,.u64 v_bits,.u64 v_high,.u64 v_low,.s v_text,.s v_more,.i .i64 v_sub,.sl .bs v_bytes,.sl .fl v_kids]] => .ok [(.b (Tree.fieldsOK (Val.mk v_kind v_bits v_high v_low v_text v_more v_sub v_bytes v_kids)))]
 | _ => .err
def tree_whole.sg:FSig:={}
def tree_whole.c:Ctr:=fun l=>match l with
 | [.s s,.b plain] => .if_ (decide (s.length≤1099511627776)) [(.b (Tree.wholeT s plain))]
 | _ => .err
def tree_check.sg:FSig:={ nres:=2,ps:=some (2,1) }
def tree_check.c:Ctr:=fun l=>match l with
 | [.ag [.i .i64 v_kind,.u64 v_bits,.u64 v_high,.u64 v_low,.s v_text,.s v_more,.i .i64 v_sub,.sl .bs v_bytes,.sl .fl v_kids],.s name,.sl .is path] => .if_ (decide (Fld.bulk (Fld.of name (Val.mk v_kind v_bits v_high v_low v_text v_more v_sub v_bytes v_kids))+path.length≤1099511627776)) [(.sl .is ((Tree.chkF (Fld.of name (Val.mk v_kind v_bits v_high v_low v_text v_more v_sub v_bytes v_kids)) path).1)),(.i .i64 ((Tree.chkF (Fld.of name (Val.mk v_kind v_bits v_high v_low v_text v_more v_sub v_bytes v_kids)) path).2))]
 | _ => .err
def tree_check.cn (n:Nat):Ctr:=fun l=>match l with
 | [.ag [.i .i64 v_kind,.u64 v_bits,.u64 v_high,.u64 v_low,.s v_text,.s v_more,.i .i64 v_sub,.sl .bs v_bytes,.sl .fl v_kids],.s name,.sl .is path] => .if_ ((decide (Fld.bulk (Fld.of name (Val.mk v_kind v_bits v_high v_low v_text v_more v_sub v_bytes v_kids))+path.length≤1099511627776))&&decide ((Fld.bulk (Fld.of name (Val.mk v_kind v_bits v_high v_low v_text v_more v_sub v_bytes v_kids)))<n)) [(.sl .is ((Tree.chkF (Fld.of name (Val.mk v_kind v_bits v_high v_low v_text v_more v_sub v_bytes v_kids)) path).1)),(.i .i64 ((Tree.chkF (Fld.of name (Val.mk v_kind v_bits v_high v_low v_text v_more v_sub v_bytes v_kids)) path).2))]
 | _ => .err
def tree_Check.sg:FSig:={ nres:=2 }
def tree_Check.c:Ctr:=fun l=>match l with
 | [.ag [.i .i64 v_kind,.u64 v_bits,.u64 v_high,.u64 v_low,.s v_text,.s v_more,.i .i64 v_sub,.sl .bs v_bytes,.sl .fl v_kids]] => .if_ (decide (Fld.bulk (Fld.of [] (Val.mk v_kind v_bits v_high v_low v_text v_more v_sub v_bytes v_kids))≤1099511627776)) [(.sl .is ((Tree.chkF (Fld.of [] (Val.mk v_kind v_bits v_high v_low v_text v_more v_sub v_bytes v_kids)) []).1)),(.i .i64 ((Tree.chkF (Fld.of [] (Val.mk v_kind v_bits v_high v_low v_text v_more v_sub v_bytes v_kids)) []).2))]
 | _ => .err
def ref17_Own.sg:FSig:={}
def ref17_Own.c:Ctr:=fun l=>match l with
 | [.ag [.i .i64 a_kind,.u64 a_bits,.u64 a_high,.u64 a_low,.s a_text,.s a_more,.i .i64 a_sub,.sl .bs a_bytes,.sl .fl a_kids],.ag [.i .i64 b_kind,.u64 b_bits,.u64 b_high,.u64 b_low,.s b_text,.s b_more,.i .i64 b_sub,.sl .bs b_bytes,.sl .fl b_kids]] => .ok [(.b (Tree.ownSame (Val.mk a_kind a_bits a_high a_low a_text a_more a_sub a_bytes a_kids) (Val.mk b_kind b_bits b_high b_low b_text b_more b_sub b_bytes b_kids)))]
 | _ => .err
def ref17_Same.sg:FSig:={}
def ref17_Same.c:Ctr:=fun l=>match l with
 | [.ag [.i .i64 a_kind,.u64 a_bits,.u64 a_high,.u64 a_low,.s a_text,.s a_more,.i .i64 a_sub,.sl .bs a_bytes,.sl .fl a_kids],.ag [.i .i64 b_kind,.u64 b_bits,.u64 b_high,.u64 b_low,.s b_text,.s b_more,.i .i64 b_sub,.sl .bs b_bytes,.sl .fl b_kids]] => .if_ (decide (Fld.bulk (Fld.of [] (Val.mk a_kind a_bits a_high a_low a_text a_more a_sub a_bytes a_kids))≤1099511627776)) [(.b (Tree.same (Val.mk a_kind a_bits a_high a_low a_text a_more a_sub a_bytes a_kids) (Val.mk b_kind b_bits b_high b_low b_text b_more b_sub b_bytes b_kids)))]
 | _ => .err
def ref17_Same.cn (n:Nat):Ctr:=fun l=>match l with
 | [.ag [.i .i64 a_kind,.u64 a_bits,.u64 a_high,.u64 a_low,.s a_text,.s a_more,.i .i64 a_sub,.sl .bs a_bytes,.sl .fl a_kids],.ag [.i .i64 b_kind,.u64 b_bits,.u64 b_high,.u64 b_low,.s b_text,.s b_more,.i .i64 b_sub,.sl .bs b_bytes,.sl .fl b_kids]] => .if_ ((decide (Fld.bulk (Fld.of [] (Val.mk a_kind a_bits a_high a_low a_text a_more a_sub a_bytes a_kids))≤1099511627776))&&decide ((Fld.bulk (Fld.of [] (Val.mk a_kind a_bits a_high a_low a_text a_more a_sub a_bytes a_kids)))<n)) [(.b (Tree.same (Val.mk a_kind a_bits a_high a_low a_text a_more a_sub a_bytes a_kids) (Val.mk b_kind b_bits b_high b_low b_text b_more b_sub b_bytes b_kids)))]
 | _ => .err
def book_Room.sg:FSig:={}
def book_Room.c:Ctr:=fun l=>match l with
 | [.i .i64 left,.sl .is sizes] => .if_ (decide (left≤10000∧sizes.length≤10)&&sizes.all (fun s=>decide (0≤s))) [(.i .i64 (Book.room left sizes))]
 | _ => .err
def book_Value.sg:FSig:={}
def book_Value.c:Ctr:=fun l=>match l with
 | [.i .i64 left,.ag [.i .i64 v_kind,.u64 v_bits,.u64 v_high,.u64 v_low,.s v_text,.s v_more,.i .i64 v_sub,.sl .bs v_bytes,.sl .fl v_kids]] => .if_ (decide (left≤10000)) [(.i .i64 (Book.value left (Fld.of [] (Val.mk v_kind v_bits v_high v_low v_text v_more v_sub v_bytes v_kids))))]
 | _ => .err
def book_Value.cn (n:Nat):Ctr:=fun l=>match l with
 | [.i .i64 left,.ag [.i .i64 v_kind,.u64 v_bits,.u64 v_high,.u64 v_low,.s v_text,.s v_more,.i .i64 v_sub,.sl .bs v_bytes,.sl .fl v_kids]] => .if_ ((decide (left≤10000))&&decide ((Fld.bulk (Fld.of [] (Val.mk v_kind v_bits v_high v_low v_text v_more v_sub v_bytes v_kids)))<n)) [(.i .i64 (Book.value left (Fld.of [] (Val.mk v_kind v_bits v_high v_low v_text v_more v_sub v_bytes v_kids))))]
 | _ => .err
def book_Small.sg:FSig:={}
def book_Small.c:Ctr:=fun l=>match l with
 | [.ag [.i .i64 v_kind,.u64 v_bits,.u64 v_high,.u64 v_low,.s v_text,.s v_more,.i .i64 v_sub,.sl .bs v_bytes,.sl .fl v_kids]] => .ok [(.b (decide (0≤Book.value 1200 (Fld.of [] (Val.mk v_kind v_bits v_high v_low v_text v_more v_sub v_bytes v_kids)))))]
 | _ => .err
def clone_bs.sg:FSig:={ own:=[(0,1)] }
def clone_bs.c:Ctr:=cloneC .bs 1
def ref28_Same.sg:FSig:={}
def ref28_Same.c:Ctr:=fun l=>match l with
 | [.ag [.i .i64 a_kind,.u64 a_n,.sl .bs a_bytes,.s a_text,.sl .il a_kids],.ag [.i .i64 b_kind,.u64 b_n,.sl .bs b_bytes,.s b_text,.sl .il b_kids]] => .if_ (decide (Itm.bulk (Itm.of (Itv.mk a_kind a_n a_bytes a_text a_kids))≤1099511627776)) [(.b (Itm.same (Itm.of (Itv.mk a_kind a_n a_bytes a_text a_kids)) (Itm.of (Itv.mk b_kind b_n b_bytes b_text b_kids))))]
 | _ => .err
def ref28_Same.cn (n:Nat):Ctr:=fun l=>match l with
 | [.ag [.i .i64 a_kind,.u64 a_n,.sl .bs a_bytes,.s a_text,.sl .il a_kids],.ag [.i .i64 b_kind,.u64 b_n,.sl .bs b_bytes,.s b_text,.sl .il b_kids]] => .if_ ((decide (Itm.bulk (Itm.of (Itv.mk a_kind a_n a_bytes a_text a_kids))≤1099511627776))&&decide ((Itm.bulk (Itm.of (Itv.mk a_kind a_n a_bytes a_text a_kids)))<n)) [(.b (Itm.same (Itm.of (Itv.mk a_kind a_n a_bytes a_text a_kids)) (Itm.of (Itv.mk b_kind b_n b_bytes b_text b_kids))))]
 | _ => .err
def sc_Itoa.sg:FSig:={}
def sc_Itoa.c:Ctr:=itoaC
def tree_Regular.sg:FSig:={}
def tree_Regular.c:Ctr:=fun l=>match l with
 | [.sl .fl l] => .if_ (decide (l.length≤1099511627776)) [(.b (Tree.regular l))]
 | _ => .err
def cb_fields.sg:FSig:={}
def cb_fields.c:Ctr:=fun l=>match l with
 | [.ag [.i .i64 it_kind,.u64 it_n,.sl .bs it_bytes,.s it_text,.sl .il it_kids]] => .if_ (decide (Itm.bulk (Itm.of (Itv.mk it_kind it_n it_bytes it_text it_kids))≤1099511627776)) [(.b (Cb.fieldsOK (Itm.of (Itv.mk it_kind it_n it_bytes it_text it_kids))))]
 | _ => .err
def cb_Check.sg:FSig:={}
def cb_Check.c:Ctr:=fun l=>match l with
 | [.ag [.i .i64 it_kind,.u64 it_n,.sl .bs it_bytes,.s it_text,.sl .il it_kids]] => .if_ (decide (Itm.bulk (Itm.of (Itv.mk it_kind it_n it_bytes it_text it_kids))≤1099511627776)) [(.i .i64 (Cb.chk (Itm.of (Itv.mk it_kind it_n it_bytes it_text it_kids))))]
 | _ => .err
def cb_Check.cn (n:Nat):Ctr:=fun l=>match l with
 | [.ag [.i .i64 it_kind,.u64 it_n,.sl .bs it_bytes,.s it_text,.sl .il it_kids]] => .if_ ((decide (Itm.bulk (Itm.of (Itv.mk it_kind it_n it_bytes it_text it_kids))≤1099511627776))&&decide ((Itm.bulk (Itm.of (Itv.mk it_kind it_n it_bytes it_text it_kids)))<n)) [(.i .i64 (Cb.chk (Itm.of (Itv.mk it_kind it_n it_bytes it_text it_kids))))]
 | _ => .err
def ref28_own.sg:FSig:={}
def ref28_own.c:Ctr:=fun l=>match l with
 | [.ag [.i .i64 it_kind,.u64 it_n,.sl .bs it_bytes,.s it_text,.sl .il it_kids]] => .if_ (decide (Itm.bulk (Itm.of (Itv.mk it_kind it_n it_bytes it_text it_kids))≤1099511627776)) [(.i .i64 (Cb.own (Itm.of (Itv.mk it_kind it_n it_bytes it_text it_kids))))]
 | _ => .err
def ref28_Check.sg:FSig:={}
def ref28_Check.c:Ctr:=fun l=>match l with
 | [.ag [.i .i64 it_kind,.u64 it_n,.sl .bs it_bytes,.s it_text,.sl .il it_kids]] => .if_ (decide (Itm.bulk (Itm.of (Itv.mk it_kind it_n it_bytes it_text it_kids))≤1099511627776)) [(.i .i64 (Cb.chk (Itm.of (Itv.mk it_kind it_n it_bytes it_text it_kids))))]
 | _ => .err
def ref28_Check.cn (n:Nat):Ctr:=fun l=>match l with
 | [.ag [.i .i64 it_kind,.u64 it_n,.sl .bs it_bytes,.s it_text,.sl .il it_kids]] => .if_ ((decide (Itm.bulk (Itm.of (Itv.mk it_kind it_n it_bytes it_text it_kids))≤1099511627776))&&decide ((Itm.bulk (Itm.of (Itv.mk it_kind it_n it_bytes it_text it_kids)))<n)) [(.i .i64 (Cb.chk (Itm.of (Itv.mk it_kind it_n it_bytes it_text it_kids))))]
 | _ => .err
def db_text.sg:FSig:={}
def db_text.c:Ctr:=fun l=>match l with
 | [.s s] => .ok [(.ag (Itv.cells (Itm.val (Db.text s))))]
 | _ => .err
def db_raw.sg:FSig:={}
def db_raw.c:Ctr:=fun l=>match l with
 | [.sl .bs b] => .if_ (decide ((b).length≤1099511627776)) [(.ag (Itv.cells (Itm.val (Db.raw b))))]
 | _ => .err
def db_plus.sg:FSig:={}
def db_plus.c:Ctr:=fun l=>match l with
 | [.u64 n] => .ok [(.ag (Itv.cells (Itm.val (Db.plus n))))]
 | _ => .err
def db_simple.sg:FSig:={}
def db_simple.c:Ctr:=fun l=>match l with
 | [.u64 n] => .ok [(.ag (Itv.cells (Itm.val (Db.simple n))))]
 | _ => .err
def db_list.sg:FSig:={}
def db_list.c:Ctr:=fun l=>match l with
 | [.c (.slice none 0 0)] => .ok [(.ag [(.i .i64 (Itm.kind (Db.list []))),(.u64 (Itm.n (Db.list []))),(.sl .bs (Itm.bytes (Db.list []))),(.s (Itm.text (Db.list []))),(.c (.slice none 0 0))])]
 | [.sl .il l] => .ok [(.ag (Itv.cells (Itm.val (Db.list l))))]
 | _ => .err
def db_integer.sg:FSig:={}
def db_integer.c:Ctr:=fun l=>match l with
 | [.i .i64 v] => .if_ (decide (-9223372036854775808≤v∧v≤9223372036854775807)) [(.ag (Itv.cells (Itm.val (Db.integer v))))]
 | _ => .err
def db_words.sg:FSig:={}
def db_words.c:Ctr:=fun l=>match l with
 | [.ag [.i .i64 v_kind,.u64 v_bits,.u64 v_high,.u64 v_low,.s v_text,.s v_more,.i .i64 v_sub,.sl .bs v_bytes,.sl .fl v_kids]] => .ok [(.ag (Itv.cells (Itm.val (Db.raw (Db.words ((Val.mk v_kind v_bits v_high v_low v_text v_more v_sub v_bytes v_kids)).high ((Val.mk v_kind v_bits v_high v_low v_text v_more v_sub v_bytes v_kids)).low)))))]
 | _ => .err
def db_mapped.sg:FSig:={}
def db_mapped.c:Ctr:=fun l=>match l with
 | [.sl .fl l] => .if_ (decide (Fld.bulks l≤1073741824)) [(.ag (Itv.cells (Itm.val (Db.map (Db.mapped l)))))]
 | _ => .err
def db_mapped.cn (n:Nat):Ctr:=fun l=>match l with
 | [.sl .fl l] => .if_ ((decide (Fld.bulks l≤1073741824))&&decide ((3 * Fld.bulks l+3)<n)) [(.ag (Itv.cells (Itm.val (Db.map (Db.mapped l)))))]
 | _ => .err
def db_item.sg:FSig:={}
def db_item.cn (n:Nat):Ctr:=fun l=>match l with
 | [.ag [.i .i64 v_kind,.u64 v_bits,.u64 v_high,.u64 v_low,.s v_text,.s v_more,.i .i64 v_sub,.sl .bs v_bytes,.sl .fl v_kids]] => .if_ ((decide (Fld.bulk (Fld.of [] (Val.mk v_kind v_bits v_high v_low v_text v_more v_sub v_bytes v_kids))≤1073741824))&&decide ((3 * Fld.bulk (Fld.of [] (Val.mk v_kind v_bits v_high v_low v_text v_more v_sub v_bytes v_kids))+2)<n)) [(.ag (Itv.cells (Itm.val (Db.item (Fld.of [] (Val.mk v_kind v_bits v_high v_low v_text v_more v_sub v_bytes v_kids))))))]
 | _ => .err
def db_tagged.sg:FSig:={}
def db_tagged.cn (n:Nat):Ctr:=fun l=>match l with
 | [.ag [.i .i64 v_kind,.u64 v_bits,.u64 v_high,.u64 v_low,.s v_text,.s v_more,.i .i64 v_sub,.sl .bs v_bytes,.sl .fl v_kids]] => .if_ ((decide (Fld.bulk (Fld.of [] (Val.mk v_kind v_bits v_high v_low v_text v_more v_sub v_bytes v_kids))≤1073741824))&&decide ((3 * Fld.bulk (Fld.of [] (Val.mk v_kind v_bits v_high v_low v_text v_more v_sub v_bytes v_kids))+1)<n)) [(.ag (Itv.cells (Itm.val (Db.tagged (Val.mk v_kind v_bits v_high v_low v_text v_more v_sub v_bytes v_kids) (Db.mapped ((Val.mk v_kind v_bits v_high v_low v_text v_more v_sub v_bytes v_kids)).kids)))))]
 | _ => .err
def db_Item.sg:FSig:={ nres:=2 }
def db_Item.c:Ctr:=fun l=>match l with
 | [.ag [.i .i64 v_kind,.u64 v_bits,.u64 v_high,.u64 v_low,.s v_text,.s v_more,.i .i64 v_sub,.sl .bs v_bytes,.sl .fl v_kids]] => .if_ (decide (Fld.bulk (Fld.of [] (Val.mk v_kind v_bits v_high v_low v_text v_more v_sub v_bytes v_kids))≤1073741824)) [(.ag (Itv.cells (Itm.val ((Db.enc (Val.mk v_kind v_bits v_high v_low v_text v_more v_sub v_bytes v_kids)).1)))),(.ag (Flt.cells ((Db.enc (Val.mk v_kind v_bits v_high v_low v_text v_more v_sub v_bytes v_kids)).2)))]
 | _ => .err
def db_none.sg:FSig:={ ps:=some (0,1) }
def db_none.c:Ctr:=fun l=>match l with
 | [.sl .is path] => .if_ (decide ((path).length≤1099511627776)) [(.ag (Flt.cells ((Flt.mk 12 0 path))))]
 | _ => .err
def db_number.sg:FSig:={ nres:=2 }
def db_number.c:Ctr:=fun l=>match l with
 | [.ag [.i .i64 it_kind,.u64 it_n,.sl .bs it_bytes,.s it_text,.sl .il it_kids]] => .ok [(.i .i64 ((Db.number (Itm.of (Itv.mk it_kind it_n it_bytes it_text it_kids))).getD 0)),(.b ((Db.number (Itm.of (Itv.mk it_kind it_n it_bytes it_text it_kids))).isSome))]
 | _ => .err
def db_regular.sg:FSig:={}
def db_regular.c:Ctr:=fun l=>match l with
 | [.sl .il l] => .if_ (decide ((l).length≤1099511627776)) [(.b (Db.regular l))]
 | _ => .err
def db_kinds.sg:FSig:={}
def db_kinds.c:Ctr:=fun l=>match l with
 | [.ag [.i .i64 it_kind,.u64 it_n,.sl .bs it_bytes,.s it_text,.sl .il it_kids],.i .i64 a,.i .i64 b] => .ok [(.b (Db.kinds (Itm.of (Itv.mk it_kind it_n it_bytes it_text it_kids)) a b))]
 | _ => .err
def db_small.sg:FSig:={ nres:=2 }
def db_small.c:Ctr:=fun l=>match l with
 | [.u64 n,.ag [.i .i64 it_kind,.u64 it_n,.sl .bs it_bytes,.s it_text,.sl .il it_kids]] => .if_ (decide (Itm.bulk (Itm.of (Itv.mk it_kind it_n it_bytes it_text it_kids))≤1099511627776)) [(.ag (Val.cells ((Db.smallV n (Itm.of (Itv.mk it_kind it_n it_bytes it_text it_kids))).1))),(.b ((Db.smallV n (Itm.of (Itv.mk it_kind it_n it_bytes it_text it_kids))).2))]
 | _ => .err
def db_with.sg:FSig:={ nres:=2,ps:=some (2,1) }
def db_with.c:Ctr:=fun l=>match l with
 | [.ag [.i .i64 v_kind,.u64 v_bits,.u64 v_high,.u64 v_low,.s v_text,.s v_more,.i .i64 v_sub,.c (.slice none 0 0),.c (.slice none 0 0)],.sl .il l,.sl .is path] => .if_ (decide (Itm.bulks l+(path).length≤1073741824)&&decide (Cb.chks l=0∧(l).length % 2=0)) [(.ag (Val.cells (Db.Got.val (Db.Gots.got (Val.mk v_kind v_bits v_high v_low v_text v_more v_sub [] []) (Db.fields l 0 path))))),(.ag (Flt.cells (Db.Got.flt (Db.Gots.got (Val.mk v_kind v_bits v_high v_low v_text v_more v_sub [] []) (Db.fields l 0 path)))))]
 | _ => .err
def db_with.cn (n:Nat):Ctr:=fun l=>match l with
 | [.ag [.i .i64 v_kind,.u64 v_bits,.u64 v_high,.u64 v_low,.s v_text,.s v_more,.i .i64 v_sub,.c (.slice none 0 0),.c (.slice none 0 0)],.sl .il l,.sl .is path] => .if_ ((decide (Itm.bulks l+(path).length≤1073741824)&&decide (Cb.chks l=0∧(l).length % 2=0))&&decide ((2 * Itm.bulks l+2)<n)) [(.ag (Val.cells (Db.Got.val (Db.Gots.got (Val.mk v_kind v_bits v_high v_low v_text v_more v_sub [] []) (Db.fields l 0 path))))),(.ag (Flt.cells (Db.Got.flt (Db.Gots.got (Val.mk v_kind v_bits v_high v_low v_text v_more v_sub [] []) (Db.fields l 0 path)))))]
 | _ => .err
def db_value.sg:FSig:={ nres:=2,ps:=some (1,1) }
def db_value.cn (n:Nat):Ctr:=fun l=>match l with
 | [.ag [.i .i64 it_kind,.u64 it_n,.sl .bs it_bytes,.s it_text,.sl .il it_kids],.sl .is path] => .if_ ((decide (Itm.bulk (Itm.of (Itv.mk it_kind it_n it_bytes it_text it_kids))+(path).length≤1073741824)&&decide (Cb.chk (Itm.of (Itv.mk it_kind it_n it_bytes it_text it_kids))=0))&&decide ((2 * Itm.bulk (Itm.of (Itv.mk it_kind it_n it_bytes it_text it_kids))+1)<n)) [(.ag (Val.cells (Db.Got.val (Db.value (Itm.of (Itv.mk it_kind it_n it_bytes it_text it_kids)) path)))),(.ag (Flt.cells (Db.Got.flt (Db.value (Itm.of (Itv.mk it_kind it_n it_bytes it_text it_kids)) path))))]
 | _ => .err
def db_tag.sg:FSig:={ nres:=2,ps:=some (1,1) }
def db_tag.cn (n:Nat):Ctr:=fun l=>match l with
 | [.ag [.i .i64 it_kind,.u64 it_n,.sl .bs it_bytes,.s it_text,.sl .il it_kids],.sl .is path] => .if_ ((decide (Itm.bulk (Itm.of (Itv.mk it_kind it_n it_bytes it_text it_kids))+(path).length≤1073741824)&&decide (Cb.chk (Itm.of (Itv.mk it_kind it_n it_bytes it_text it_kids))=0∧((Itv.mk it_kind it_n it_bytes it_text it_kids)).kind=7))&&decide ((2 * Itm.bulk (Itm.of (Itv.mk it_kind it_n it_bytes it_text it_kids)))<n)) [(.ag (Val.cells (Db.Got.val (Db.value (Itm.of (Itv.mk it_kind it_n it_bytes it_text it_kids)) path)))),(.ag (Flt.cells (Db.Got.flt (Db.value (Itm.of (Itv.mk it_kind it_n it_bytes it_text it_kids)) path))))]
 | _ => .err
def db_Value.sg:FSig:={ nres:=2 }
def db_Value.c:Ctr:=fun l=>match l with
 | [.ag [.i .i64 it_kind,.u64 it_n,.sl .bs it_bytes,.s it_text,.sl .il it_kids]] => .if_ (decide (Itm.bulk (Itm.of (Itv.mk it_kind it_n it_bytes it_text it_kids))≤1073741824)) [(.ag (Val.cells ((Db.dec (Itm.of (Itv.mk it_kind it_n it_bytes it_text it_kids))).1))),(.ag (Flt.cells ((Db.dec (Itm.of (Itv.mk it_kind it_n it_bytes it_text it_kids))).2)))]
 | _ => .err
def law30_awake.sg:FSig:={}
def law30_awake.c:Ctr:=fun l=>match l with
 | [] => .ok [(.b (true))]
 | _ => .err
end
noncomputable section
def utf_is.env:List (Nat × (Ctr × FSig)):=[]
def utf_is.E:TEnv:=envL trydbGl utf_is.env
def utf_is.m:TM := .seq (.reg [
  ⟨.k .mv,[.c (.b false)],[2],none⟩]) none (.seq (.reg [
  ⟨.k .mv,[.s 0],[3],none⟩,
  ⟨.k (.bin .geq),[.s 3,.c (.i .i64 (0:Int))],[4],none⟩,
  ⟨.k .mv,[.s 4],[5],none⟩,
  ⟨.k .mv,[.s 0],[6],some (5,true)⟩,
  ⟨.k (.bin .leq),[.s 6,.c (.i .i64 (1114111:Int))],[7],some (5,true)⟩,
  ⟨.k .pick,[.s 5,.s 7,.c (.b false)],[8],none⟩,
  ⟨.k .mv,[.s 8],[9],none⟩,
  ⟨.k .mv,[.s 0],[10],some (9,true)⟩,
  ⟨.k (.bin .lss),[.s 10,.c (.i .i64 (55296:Int))],[11],some (9,true)⟩,
  ⟨.k .mv,[.s 11],[12],some (9,true)⟩,
  ⟨.k .mv,[.s 0],[13],some (12,false)⟩,
  ⟨.k (.bin .gtr),[.s 13,.c (.i .i64 (57343:Int))],[14],some (12,false)⟩,
  ⟨.k .pick,[.s 12,.c (.b true),.s 14],[15],some (9,true)⟩,
  ⟨.k .pick,[.s 9,.s 15,.c (.b false)],[16],none⟩,
  ⟨.k .mv,[.s 16],[2],none⟩]) none .ret)
def utf_is.d:TFD:={ np:=1,m:=utf_is.m,ref:=none,tips:=[],res:=[.t 2],own:=[],new:=none,tnew:=[] }
noncomputable def utf_is.F (r:Int):Option (List TV):=utf_is.d.run utf_is.E [(.i .i64 r)]
theorem utf_is.F_in (r:Int) {ρ:Option (List TV)} (K:∀(v1:Bool) (h1:v1=(cond (decide ((0:Int)≤r)) (decide (r≤(1114111:Int))) false)) (v2:Bool) (h2:v2=(v1&&(!(decide (r<(55296:Int)))))) (v3:Bool) (h3:v3=(cond (decide (r<(55296:Int))) true (decide ((57343:Int)<r)))),ck (!(decide ((0:Int)≤r)) || (decide ((0:Int)≤r))) (ck (!(decide ((0:Int)≤r)) || (decide ((0:Int)≤r))) (ck (!v1 || v1) (ck (!v1 || v1) (ck (!v2 || v2) (ck (!v1 || (v1&&((decide (r<(55296:Int))) || v2))) (ck (!v1 || v1) (some [(.b (cond v1 v3 false))])))))))=ρ):utf_is.F r=ρ:=Eq.trans (by kernel_rfl) (K _ rfl _ rfl _ rfl)
theorem utf_is.chk:((Go.Proofs.Tryd.prog.funcs[94]?).any fun fn=>chkF Go.Proofs.Tryd.prog (fun k=>((envL trydbGl utf_is.env).fs k).2) fn utf_is.d.erase)=true:=by kernel_rfl
end
noncomputable section
def utf_Rune.env:List (Nat × (Ctr × FSig)):=[(94,(utf_is.c,utf_is.sg))]
def utf_Rune.E:TEnv:=envL trydbGl utf_Rune.env
def utf_Rune.m1:TM := .seq (.seq (.reg [
  ⟨.k .mv,[.s 7],[54],none⟩,
  ⟨.k .mv,[.s 0],[55],none⟩,
  ⟨.k .len,[.s 55],[56],none⟩,
  ⟨.k .mv,[.s 1],[57],none⟩,
  ⟨.k (.bin .sub),[.s 56,.s 57],[58],none⟩,
  ⟨.k (.bin .sub),[.s 58,.c (.i .i64 (1:Int))],[59],none⟩,
  ⟨.k (.bin .gtr),[.s 54,.s 59],[60],none⟩]) none (.cond (.s 60) [] (.exit (gid 0)) .skip)) none (.seq (.reg [
  ⟨.k .mv,[.c (.i .i64 (1:Int))],[9],none⟩]) none (.seq .skip none (.seq (.seq (.reg [
  ⟨.k .mv,[.s 9],[61],none⟩,
  ⟨.k .mv,[.s 7],[62],none⟩,
  ⟨.k (.bin .leq),[.s 61,.s 62],[63],none⟩]) none (.cond (.s 63) [] (.seq (.seq (.reg [
  ⟨.k .mv,[.s 0],[64],none⟩,
  ⟨.k .mv,[.s 1],[65],none⟩,
  ⟨.k .mv,[.s 9],[66],none⟩,
  ⟨.k (.bin .add),[.s 65,.s 66],[67],none⟩,
  ⟨.k (.ix 1),[.s 64,.s 67],[68],none⟩,
  ⟨.k (.lr 1 false),[.s 68],[69],none⟩,
  ⟨.k (.bin .and),[.s 69,.c (.u8 (192:UInt8))],[70],none⟩,
  ⟨.k (.bin .neq),[.s 70,.c (.u8 (128:UInt8))],[71],none⟩]) none (.cond (.s 71) [] (.exit (gid 0)) .skip)) none (.seq (.reg [
  ⟨.k .mv,[.s 4],[72],none⟩,
  ⟨.k (.bin .shl),[.s 72,.c (.u64 (6:UInt64))],[73],none⟩,
  ⟨.k .mv,[.s 0],[74],none⟩,
  ⟨.k .mv,[.s 1],[75],none⟩,
  ⟨.k .mv,[.s 9],[76],none⟩,
  ⟨.k (.bin .add),[.s 75,.s 76],[77],none⟩,
  ⟨.k (.ix 1),[.s 74,.s 77],[78],none⟩,
  ⟨.k (.lr 1 false),[.s 78],[79],none⟩,
  ⟨.k (.bin .and),[.s 79,.c (.u8 (63:UInt8))],[80],none⟩,
  ⟨.k (.ci .i64),[.s 80],[81],none⟩,
  ⟨.k (.bin .or),[.s 73,.s 81],[82],none⟩,
  ⟨.k .mv,[.s 82],[4],none⟩]) none (.seq (.reg [
  ⟨.k .mv,[.s 9],[83],none⟩,
  ⟨.k (.bin .add),[.s 83,.c (.i .i64 (1:Int))],[84],none⟩,
  ⟨.k .mv,[.s 84],[9],none⟩]) none (.exit (gid 1))))) .skip)) none (.seq (.seq (.reg [
  ⟨.k .mv,[.s 4],[85],none⟩,
  ⟨.k .mv,[.s 8],[86],none⟩,
  ⟨.k (.bin .lss),[.s 85,.s 86],[87],none⟩,
  ⟨.k .mv,[.s 87],[88],none⟩,
  ⟨.k .mv,[.s 4],[89],some (88,false)⟩,
  ⟨.k (.call 94 (.plain 1 1)),[.s 89],[90],some (88,false)⟩,
  ⟨.k (.un .not),[.s 90],[91],some (88,false)⟩,
  ⟨.k .pick,[.s 88,.c (.b true),.s 91],[92],none⟩]) none (.cond (.s 92) [] (.exit (gid 0)) .skip)) none (.seq (.seq (.reg [
  ⟨.k .mv,[.s 4],[93],none⟩,
  ⟨.k .mv,[.s 7],[94],none⟩,
  ⟨.k (.bin .add),[.s 94,.c (.i .i64 (1:Int))],[95],none⟩,
  ⟨.k .mv,[.s 93],[4],none⟩,
  ⟨.k .mv,[.s 95],[5],none⟩]) none .ret) none .skip)))))
def utf_Rune.m2:TM := .seq .skip none (.seq (.seq (.reg [
  ⟨.k .mv,[.s 9],[61],none⟩,
  ⟨.k .mv,[.s 7],[62],none⟩,
  ⟨.k (.bin .leq),[.s 61,.s 62],[63],none⟩]) none (.cond (.s 63) [] (.seq (.seq (.reg [
  ⟨.k .mv,[.s 0],[64],none⟩,
  ⟨.k .mv,[.s 1],[65],none⟩,
  ⟨.k .mv,[.s 9],[66],none⟩,
  ⟨.k (.bin .add),[.s 65,.s 66],[67],none⟩,
  ⟨.k (.ix 1),[.s 64,.s 67],[68],none⟩,
  ⟨.k (.lr 1 false),[.s 68],[69],none⟩,
  ⟨.k (.bin .and),[.s 69,.c (.u8 (192:UInt8))],[70],none⟩,
  ⟨.k (.bin .neq),[.s 70,.c (.u8 (128:UInt8))],[71],none⟩]) none (.cond (.s 71) [] (.exit (gid 0)) .skip)) none (.seq (.reg [
  ⟨.k .mv,[.s 4],[72],none⟩,
  ⟨.k (.bin .shl),[.s 72,.c (.u64 (6:UInt64))],[73],none⟩,
  ⟨.k .mv,[.s 0],[74],none⟩,
  ⟨.k .mv,[.s 1],[75],none⟩,
  ⟨.k .mv,[.s 9],[76],none⟩,
  ⟨.k (.bin .add),[.s 75,.s 76],[77],none⟩,
  ⟨.k (.ix 1),[.s 74,.s 77],[78],none⟩,
  ⟨.k (.lr 1 false),[.s 78],[79],none⟩,
  ⟨.k (.bin .and),[.s 79,.c (.u8 (63:UInt8))],[80],none⟩,
  ⟨.k (.ci .i64),[.s 80],[81],none⟩,
  ⟨.k (.bin .or),[.s 73,.s 81],[82],none⟩,
  ⟨.k .mv,[.s 82],[4],none⟩]) none (.seq (.reg [
  ⟨.k .mv,[.s 9],[83],none⟩,
  ⟨.k (.bin .add),[.s 83,.c (.i .i64 (1:Int))],[84],none⟩,
  ⟨.k .mv,[.s 84],[9],none⟩]) none (.exit (gid 1))))) .skip)) none (.seq (.seq (.reg [
  ⟨.k .mv,[.s 4],[85],none⟩,
  ⟨.k .mv,[.s 8],[86],none⟩,
  ⟨.k (.bin .lss),[.s 85,.s 86],[87],none⟩,
  ⟨.k .mv,[.s 87],[88],none⟩,
  ⟨.k .mv,[.s 4],[89],some (88,false)⟩,
  ⟨.k (.call 94 (.plain 1 1)),[.s 89],[90],some (88,false)⟩,
  ⟨.k (.un .not),[.s 90],[91],some (88,false)⟩,
  ⟨.k .pick,[.s 88,.c (.b true),.s 91],[92],none⟩]) none (.cond (.s 92) [] (.exit (gid 0)) .skip)) none (.seq (.seq (.reg [
  ⟨.k .mv,[.s 4],[93],none⟩,
  ⟨.k .mv,[.s 7],[94],none⟩,
  ⟨.k (.bin .add),[.s 94,.c (.i .i64 (1:Int))],[95],none⟩,
  ⟨.k .mv,[.s 93],[4],none⟩,
  ⟨.k .mv,[.s 95],[5],none⟩]) none .ret) none .skip)))
def utf_Rune.m3:TM := .seq .skip none (.seq (.reg [
  ⟨.k .mv,[.c (.i .i64 (0:Int))],[4],none⟩,
  ⟨.k .mv,[.c (.i .i64 (0:Int))],[5],none⟩]) none .ret)
def utf_Rune.m:TM := .seq (.reg [
  ⟨.k .mv,[.c (.i .i64 (0:Int))],[4],none⟩,
  ⟨.k .mv,[.c (.i .i64 (0:Int))],[5],none⟩]) none (.sco (.lab 0 [] [] utf_Rune.m3 (.lab 1 [0,1,4,7,8,9] [] utf_Rune.m2 (.scp (.seq (.reg [
  ⟨.k .mv,[.c (.i .i64 (0:Int))],[6],none⟩,
  ⟨.k .mv,[.c (.i .i64 (0:Int))],[7],none⟩,
  ⟨.k .mv,[.c (.i .i64 (0:Int))],[8],none⟩,
  ⟨.k .mv,[.c (.i .i64 (0:Int))],[9],none⟩]) none (.seq (.seq (.reg [
  ⟨.k .mv,[.s 1],[10],none⟩,
  ⟨.k (.bin .lss),[.s 10,.c (.i .i64 (0:Int))],[11],none⟩,
  ⟨.k .mv,[.s 11],[12],none⟩,
  ⟨.k .mv,[.s 1],[13],some (12,false)⟩,
  ⟨.k .mv,[.s 0],[14],some (12,false)⟩,
  ⟨.k .len,[.s 14],[15],some (12,false)⟩,
  ⟨.k (.bin .geq),[.s 13,.s 15],[16],some (12,false)⟩,
  ⟨.k .pick,[.s 12,.c (.b true),.s 16],[17],none⟩]) none (.cond (.s 17) [] (.exit (gid 0)) .skip)) none (.seq (.reg [
  ⟨.k .mv,[.s 0],[18],none⟩,
  ⟨.k .mv,[.s 1],[19],none⟩,
  ⟨.k (.ix 1),[.s 18,.s 19],[20],none⟩,
  ⟨.k (.lr 1 false),[.s 20],[21],none⟩,
  ⟨.k (.ci .i64),[.s 21],[22],none⟩,
  ⟨.k .mv,[.s 22],[6],none⟩]) none (.seq (.block 0 [] (.seq (.reg [
  ⟨.k .mv,[.s 6],[24],none⟩,
  ⟨.k (.bin .lss),[.s 24,.c (.i .i64 (128:Int))],[25],none⟩,
  ⟨.k .mv,[.s 25],[23],none⟩]) none (.cond (.s 23) [] (.seq (.reg [
  ⟨.k .mv,[.s 6],[26],none⟩,
  ⟨.k .mv,[.s 26],[4],none⟩,
  ⟨.k .mv,[.c (.i .i64 (1:Int))],[5],none⟩]) none .ret) (.seq (.reg [
  ⟨.k .mv,[.s 6],[28],none⟩,
  ⟨.k (.bin .geq),[.s 28,.c (.i .i64 (192:Int))],[29],none⟩,
  ⟨.k .mv,[.s 29],[30],none⟩,
  ⟨.k .mv,[.s 6],[31],some (30,true)⟩,
  ⟨.k (.bin .lss),[.s 31,.c (.i .i64 (224:Int))],[32],some (30,true)⟩,
  ⟨.k .pick,[.s 30,.s 32,.c (.b false)],[33],none⟩,
  ⟨.k .mv,[.s 33],[27],none⟩]) none (.cond (.s 27) [] (.reg [
  ⟨.k .mv,[.s 6],[34],none⟩,
  ⟨.k (.bin .and),[.s 34,.c (.i .i64 (31:Int))],[35],none⟩,
  ⟨.k .mv,[.s 35],[4],none⟩,
  ⟨.k .mv,[.c (.i .i64 (1:Int))],[7],none⟩,
  ⟨.k .mv,[.c (.i .i64 (128:Int))],[8],none⟩]) (.seq (.reg [
  ⟨.k .mv,[.s 6],[37],none⟩,
  ⟨.k (.bin .geq),[.s 37,.c (.i .i64 (224:Int))],[38],none⟩,
  ⟨.k .mv,[.s 38],[39],none⟩,
  ⟨.k .mv,[.s 6],[40],some (39,true)⟩,
  ⟨.k (.bin .lss),[.s 40,.c (.i .i64 (240:Int))],[41],some (39,true)⟩,
  ⟨.k .pick,[.s 39,.s 41,.c (.b false)],[42],none⟩,
  ⟨.k .mv,[.s 42],[36],none⟩]) none (.cond (.s 36) [] (.reg [
  ⟨.k .mv,[.s 6],[43],none⟩,
  ⟨.k (.bin .and),[.s 43,.c (.i .i64 (15:Int))],[44],none⟩,
  ⟨.k .mv,[.s 44],[4],none⟩,
  ⟨.k .mv,[.c (.i .i64 (2:Int))],[7],none⟩,
  ⟨.k .mv,[.c (.i .i64 (2048:Int))],[8],none⟩]) (.seq (.reg [
  ⟨.k .mv,[.s 6],[46],none⟩,
  ⟨.k (.bin .geq),[.s 46,.c (.i .i64 (240:Int))],[47],none⟩,
  ⟨.k .mv,[.s 47],[48],none⟩,
  ⟨.k .mv,[.s 6],[49],some (48,true)⟩,
  ⟨.k (.bin .lss),[.s 49,.c (.i .i64 (248:Int))],[50],some (48,true)⟩,
  ⟨.k .pick,[.s 48,.s 50,.c (.b false)],[51],none⟩,
  ⟨.k .mv,[.s 51],[45],none⟩]) none (.cond (.s 45) [] (.reg [
  ⟨.k .mv,[.s 6],[52],none⟩,
  ⟨.k (.bin .and),[.s 52,.c (.i .i64 (7:Int))],[53],none⟩,
  ⟨.k .mv,[.s 53],[4],none⟩,
  ⟨.k .mv,[.c (.i .i64 (3:Int))],[7],none⟩,
  ⟨.k .mv,[.c (.i .i64 (65536:Int))],[8],none⟩]) (.exit (gid 0))))))))))) (some [0,1,4,7,8]) utf_Rune.m1))))))))
def utf_Rune.d:TFD:={ np:=2,m:=utf_Rune.m,ref:=none,tips:=[],res:=[.t 4,.t 5],own:=[],new:=none,tnew:=[] }
noncomputable def utf_Rune.F (b:List UInt8) (at_:Int):Option (List TV):=utf_Rune.d.run utf_Rune.E [(.sl .bs b),(.i .i64 at_)]
noncomputable def utf_Rune.k1:Cont (List TV):=againK (evO _ utf_Rune.E utf_Rune.m3) (isG 0) [] (endK utf_Rune.d)
noncomputable def utf_Rune.k2:Cont (List TV):=againK (evO _ utf_Rune.E utf_Rune.m2) (isG 1) [0,1,4,7,8,9] utf_Rune.k1
noncomputable def utf_Rune.l1:Option (List TV):=loopL (evO _ utf_Rune.E utf_Rune.m3) (isG 0) [] (headT [] []) (endK utf_Rune.d)
noncomputable def utf_Rune.j2 (x0:List UInt8) (x1:Int) (x2:Int) (x3:Int) (x4:Int):Option (List TV):=evO _ utf_Rune.E utf_Rune.m1 (headT [0,1,4,7,8] [(.sl .bs x0),(.i .i64 x1),(.i .i64 x2),(.i .i64 x3),(.i .i64 x4)]) utf_Rune.k2
noncomputable def utf_Rune.l3 (x0:List UInt8) (x1:Int) (x2:Int) (x3:Int) (x4:Int) (x5:Int):Option (List TV):=loopL (evO _ utf_Rune.E utf_Rune.m2) (isG 1) [0,1,4,7,8,9] (headT [0,1,4,7,8,9] [(.sl .bs x0),(.i .i64 x1),(.i .i64 x2),(.i .i64 x3),(.i .i64 x4),(.i .i64 x5)]) utf_Rune.k1
theorem utf_Rune.l1_eq:utf_Rune.l1=some [(.i .i64 (0:Int)),(.i .i64 (0:Int))]:=((ev_loop _ _ _ _ _ _).trans (by kernel_rfl))
theorem utf_Rune.j2_in (x0:List UInt8) (x1:Int) (x2:Int) (x3:Int) (x4:Int) {ρ:Option (List TV)} (K:∀(v1:Int) (h1:v1=(IntKind.i64.wrap (((x0).length:Int) - x1))) (v2:Int) (h2:v2=(IntKind.i64.wrap (v1 - (1:Int)))) (v3:Int) (h3:v3=(IntKind.i64.wrap (x1+(1:Int)))) (v4:UInt8) (h4:v4=(List.getD x0 (v3).toNat (0:UInt8))) (v5:Bool) (h5:v5=(!decide ((v4 &&& (192:UInt8))=(128:UInt8)))) (v6:Int) (h6:v6=(IntKind.i64.wrap (x2 * 2 ^ (min (((6:UInt64)).toNat) (IntKind.i64.bits))))) (v7:Int) (h7:v7=(IntKind.i64.wrap (((v4 &&& (63:UInt8))).toNat:Int))) (v8:Int) (h8:v8=(IntKind.i64.wrap ((1:Int)+(1:Int)))) (v9:Bool) (h9:v9=(cond (decide (x2<x4)) true (!(Utf.isRune x2)))) (v10:Int) (h10:v10=(IntKind.i64.wrap (x3+(1:Int)))),cond (decide (v2<x3))
  (utf_Rune.l1)
  (cond (decide ((1:Int)≤x3))
  (ck (idxOK v3 (x0).length) (cond v5
  (utf_Rune.l1)
  (ck (idxOK v3 (x0).length) (utf_Rune.l3 x0 x1 (intBitsV .or .i64 v6 v7) x3 x4 v8))))
  (ck (!(!(decide (x2<x4))) || (!(decide (x2<x4)))) (ck (!(!(decide (x2<x4))) || (!(decide (x2<x4)))) (ck ((decide (x2<x4)) || (!(decide (x2<x4)))) (cond v9
  (utf_Rune.l1)
  (some [(.i .i64 x2),(.i .i64 v10)]))))))=ρ):utf_Rune.j2 x0 x1 x2 x3 x4=ρ:=((congrFun (congrFun (ev_eq _ _) _) _).trans (by kernel_rfl)).trans (K _ rfl _ rfl _ rfl _ rfl _ rfl _ rfl _ rfl _ rfl _ rfl _ rfl)
theorem utf_Rune.l3_in (x0:List UInt8) (x1:Int) (x2:Int) (x3:Int) (x4:Int) (x5:Int) {ρ:Option (List TV)} (K:∀(v1:UInt8) (h1:v1=(List.getD x0 ((IntKind.i64.wrap (x1+x5))).toNat (0:UInt8))) (v2:Bool) (h2:v2=(!decide ((v1 &&& (192:UInt8))=(128:UInt8)))) (v3:Int) (h3:v3=(IntKind.i64.wrap (x2 * 2 ^ (min (((6:UInt64)).toNat) (IntKind.i64.bits))))) (v4:Int) (h4:v4=(IntKind.i64.wrap (((v1 &&& (63:UInt8))).toNat:Int))) (v5:Int) (h5:v5=(IntKind.i64.wrap (x5+(1:Int)))) (v6:Bool) (h6:v6=(cond (decide (x2<x4)) true (!(Utf.isRune x2)))) (v7:Int) (h7:v7=(IntKind.i64.wrap (x3+(1:Int)))),cond (decide (x5≤x3))
  (ck (idxOK (IntKind.i64.wrap (x1+x5)) (x0).length) (cond v2
  (utf_Rune.l1)
  (ck (idxOK (IntKind.i64.wrap (x1+x5)) (x0).length) (utf_Rune.l3 x0 x1 (intBitsV .or .i64 v3 v4) x3 x4 v5))))
  (ck (!(!(decide (x2<x4))) || (!(decide (x2<x4)))) (ck (!(!(decide (x2<x4))) || (!(decide (x2<x4)))) (ck ((decide (x2<x4)) || (!(decide (x2<x4)))) (cond v6
  (utf_Rune.l1)
  (some [(.i .i64 x2),(.i .i64 v7)])))))=ρ):utf_Rune.l3 x0 x1 x2 x3 x4 x5=ρ:=((ev_loop _ _ _ _ _ _).trans (by kernel_rfl)).trans (K _ rfl _ rfl _ rfl _ rfl _ rfl _ rfl _ rfl)
theorem utf_Rune.F_in (b:List UInt8) (at_:Int) {ρ:Option (List TV)} (K:∀(v1:Bool) (h1:v1=(cond (decide (at_<(0:Int))) true (decide (((b).length:Int)≤at_)))) (v2:UInt8) (h2:v2=(List.getD b (at_).toNat (0:UInt8))) (v3:Int) (h3:v3=(IntKind.i64.wrap ((v2).toNat:Int))) (v4:Bool) (h4:v4=(cond (decide ((192:Int)≤v3)) (decide (v3<(224:Int))) false)) (v5:Int) (h5:v5=(intBitsV .and .i64 v3 (31:Int))) (v6:Bool) (h6:v6=(cond (decide ((224:Int)≤v3)) (decide (v3<(240:Int))) false)) (v7:Int) (h7:v7=(intBitsV .and .i64 v3 (15:Int))) (v8:Bool) (h8:v8=(cond (decide ((240:Int)≤v3)) (decide (v3<(248:Int))) false)) (v9:Int) (h9:v9=(intBitsV .and .i64 v3 (7:Int))),ck (!(!(decide (at_<(0:Int)))) || (!(decide (at_<(0:Int))))) (ck (!(!(decide (at_<(0:Int)))) || ((!(decide (at_<(0:Int))))&&(!(decide (at_<(0:Int)))))) (ck ((decide (at_<(0:Int))) || (!(decide (at_<(0:Int))))) (cond v1
  (utf_Rune.l1)
  (ck (idxOK at_ (b).length) (cond (decide (v3<(128:Int)))
  (some [(.i .i64 v3),(.i .i64 (1:Int))])
  (ck (!(decide ((192:Int)≤v3)) || (decide ((192:Int)≤v3))) (ck (!(decide ((192:Int)≤v3)) || (decide ((192:Int)≤v3))) (cond v4
  (utf_Rune.j2 b at_ v5 (1:Int) (128:Int))
  (ck (!(decide ((224:Int)≤v3)) || (decide ((224:Int)≤v3))) (ck (!(decide ((224:Int)≤v3)) || (decide ((224:Int)≤v3))) (cond v6
  (utf_Rune.j2 b at_ v7 (2:Int) (2048:Int))
  (ck (!(decide ((240:Int)≤v3)) || (decide ((240:Int)≤v3))) (ck (!(decide ((240:Int)≤v3)) || (decide ((240:Int)≤v3))) (cond v8
  (utf_Rune.j2 b at_ v9 (3:Int) (65536:Int))
  (utf_Rune.l1)))))))))))))))=ρ):utf_Rune.F b at_=ρ:=Eq.trans (by kernel_rfl) (K _ rfl _ rfl _ rfl _ rfl _ rfl _ rfl _ rfl _ rfl _ rfl)
theorem utf_Rune.chk:((Go.Proofs.Tryd.prog.funcs[84]?).any fun fn=>chkF Go.Proofs.Tryd.prog (fun k=>((envL trydbGl utf_Rune.env).fs k).2) fn utf_Rune.d.erase)=true:=by kernel_rfl
end
noncomputable section
def utf_look.env:List (Nat × (Ctr × FSig)):=[(84,(utf_Rune.c,utf_Rune.sg))]
def utf_look.E:TEnv:=envL trydbGl utf_look.env
def utf_look.m1:TM := .seq (.seq (.reg [
  ⟨.k .mv,[.s 2],[6],none⟩,
  ⟨.k .mv,[.s 0],[7],none⟩,
  ⟨.k .len,[.s 7],[8],none⟩,
  ⟨.k (.bin .lss),[.s 6,.s 8],[9],none⟩]) none (.cond (.s 9) [] .skip (.exit 0))) none (.block 1 [] (.seq (.reg [
  ⟨.k .mv,[.s 0],[11],none⟩,
  ⟨.k .mv,[.s 2],[12],none⟩,
  ⟨.k (.call 84 (.plain 2 2)),[.s 11,.s 12],[13],none⟩,
  ⟨.k .mv,[.s 13],[10],none⟩,
  ⟨.k (.ex 0),[.s 10],[14],none⟩,
  ⟨.k (.ex 1),[.s 10],[15],none⟩,
  ⟨.k .mv,[.s 14],[4],none⟩,
  ⟨.k .mv,[.s 15],[5],none⟩]) none (.seq (.seq (.reg [
  ⟨.k .mv,[.s 5],[16],none⟩,
  ⟨.k (.bin .eql),[.s 16,.c (.i .i64 (0:Int))],[17],none⟩]) none (.cond (.s 17) [] (.exit 0) .skip)) none (.seq (.reg [
  ⟨.k .mv,[.s 2],[18],none⟩,
  ⟨.k .mv,[.s 5],[19],none⟩,
  ⟨.k (.bin .add),[.s 18,.s 19],[20],none⟩,
  ⟨.k .mv,[.s 20],[2],none⟩]) none (.reg [
  ⟨.k .mv,[.s 3],[21],none⟩,
  ⟨.k (.bin .add),[.s 21,.c (.i .i64 (1:Int))],[22],none⟩,
  ⟨.k .mv,[.s 22],[3],none⟩])))))
def utf_look.m2:TM := .seq (.reg [
  ⟨.k .mv,[.s 2],[23],none⟩,
  ⟨.k .mv,[.s 3],[24],none⟩,
  ⟨.k .mv,[.s 23],[2],none⟩,
  ⟨.k .mv,[.s 24],[3],none⟩]) none .ret
def utf_look.m:TM := .seq (.reg [
  ⟨.k .mv,[.c (.i .i64 (0:Int))],[2],none⟩,
  ⟨.k .mv,[.c (.i .i64 (0:Int))],[3],none⟩]) none (.seq (.block 0 [] (.loop [0,2,3] [] utf_look.m1)) (some [2,3]) utf_look.m2)
def utf_look.d:TFD:={ np:=1,m:=utf_look.m,ref:=none,tips:=[],res:=[.t 2,.t 3],own:=[],new:=none,tnew:=[] }
noncomputable def utf_look.F (b:List UInt8):Option (List TV):=utf_look.d.run utf_look.E [(.sl .bs b)]
noncomputable def utf_look.k1:Cont (List TV):=seqK (evO _ utf_look.E utf_look.m2) (some [2,3]) (endK utf_look.d)
noncomputable def utf_look.l1 (x0:List UInt8) (x1:Int) (x2:Int):Option (List TV):=loopL (evO _ utf_look.E utf_look.m1) isN [0,2,3] (headT [0,2,3] [(.sl .bs x0),(.i .i64 x1),(.i .i64 x2)]) (blockK 0 utf_look.k1)
noncomputable def utf_look.j2 (x0:Int) (x1:Int):Option (List TV):=evO _ utf_look.E utf_look.m2 (headT [2,3] [(.i .i64 x0),(.i .i64 x1)]) (endK utf_look.d)
theorem utf_look.l1_in (x0:List UInt8) (x1:Int) (x2:Int) {ρ:Option (List TV)} (K:∀(v1:Int) (h1:v1=(IntKind.i64.wrap (x1+((Utf.runeAt x0 x1).2)))) (v2:Int) (h2:v2=(IntKind.i64.wrap (x2+(1:Int)))),cond (decide (x1<((x0).length:Int)))
  (ck (decide (x0.length≤1099511627776)) (cond (decide (((Utf.runeAt x0 x1).2)=(0:Int)))
  (utf_look.j2 x1 x2)
  (utf_look.l1 x0 v1 v2)))
  (utf_look.j2 x1 x2)=ρ):utf_look.l1 x0 x1 x2=ρ:=((ev_loop _ _ _ _ _ _).trans (by kernel_rfl)).trans (K _ rfl _ rfl)
theorem utf_look.j2_eq (x0:Int) (x1:Int):utf_look.j2 x0 x1=some [(.i .i64 x0),(.i .i64 x1)]:=((congrFun (congrFun (ev_eq _ _) _) _).trans (by kernel_rfl))
theorem utf_look.F_eq (b:List UInt8):utf_look.F b=utf_look.l1 b (0:Int) (0:Int):=by kernel_rfl
theorem utf_look.chk:((Go.Proofs.Tryd.prog.funcs[67]?).any fun fn=>chkF Go.Proofs.Tryd.prog (fun k=>((envL trydbGl utf_look.env).fs k).2) fn utf_look.d.erase)=true:=by kernel_rfl
end
noncomputable section
def utf_Check.env:List (Nat × (Ctr × FSig)):=[(67,(utf_look.c,utf_look.sg))]
def utf_Check.E:TEnv:=envL trydbGl utf_Check.env
def utf_Check.m:TM := .seq (.reg [
  ⟨.k .mv,[.c (.i .i64 (0:Int))],[2],none⟩,
  ⟨.k .mv,[.c (.b false)],[3],none⟩]) none (.seq (.reg [
  ⟨.k .mv,[.s 0],[7],none⟩,
  ⟨.k (.call 67 (.plain 1 2)),[.s 7],[8],none⟩,
  ⟨.k .mv,[.s 8],[6],none⟩,
  ⟨.k (.ex 0),[.s 6],[9],none⟩,
  ⟨.k (.ex 1),[.s 6],[10],none⟩,
  ⟨.k .mv,[.s 9],[4],none⟩,
  ⟨.k .mv,[.s 10],[5],none⟩]) none (.seq (.reg [
  ⟨.k .mv,[.s 4],[11],none⟩,
  ⟨.k .mv,[.s 4],[12],none⟩,
  ⟨.k .mv,[.s 0],[13],none⟩,
  ⟨.k .len,[.s 13],[14],none⟩,
  ⟨.k (.bin .eql),[.s 12,.s 14],[15],none⟩,
  ⟨.k .mv,[.s 11],[2],none⟩,
  ⟨.k .mv,[.s 15],[3],none⟩]) none .ret))
def utf_Check.d:TFD:={ np:=1,m:=utf_Check.m,ref:=none,tips:=[],res:=[.t 2,.t 3],own:=[],new:=none,tnew:=[] }
noncomputable def utf_Check.F (b:List UInt8):Option (List TV):=utf_Check.d.run utf_Check.E [(.sl .bs b)]
theorem utf_Check.F_eq (b:List UInt8):utf_Check.F b=ck (decide (b.length≤1099511627776)) (some [(.i .i64 (((Utf.look b).1:Int))),(.b (decide ((((Utf.look b).1:Int))=((b).length:Int))))]):=by kernel_rfl
theorem utf_Check.chk:((Go.Proofs.Tryd.prog.funcs[41]?).any fun fn=>chkF Go.Proofs.Tryd.prog (fun k=>((envL trydbGl utf_Check.env).fs k).2) fn utf_Check.d.erase)=true:=by kernel_rfl
end
noncomputable section
def ref2_Rune.env:List (Nat × (Ctr × FSig)):=[]
def ref2_Rune.E:TEnv:=envL trydbGl ref2_Rune.env
def ref2_Rune.m1:TM := .seq (.seq (.reg [
  ⟨.k .mv,[.s 10],[62],none⟩,
  ⟨.k .mv,[.s 7],[63],none⟩,
  ⟨.k (.bin .lss),[.s 62,.s 63],[64],none⟩]) none (.cond (.s 64) [] .skip (.exit 1))) none (.seq (.block 2 [] (.seq (.reg [
  ⟨.k .mv,[.s 0],[67],none⟩,
  ⟨.k .mv,[.s 1],[68],none⟩,
  ⟨.k .mv,[.s 10],[69],none⟩,
  ⟨.k (.bin .add),[.s 68,.s 69],[70],none⟩,
  ⟨.k (.ix 1),[.s 67,.s 70],[71],none⟩,
  ⟨.k (.lr 1 false),[.s 71],[72],none⟩,
  ⟨.k (.ci .i64),[.s 72],[73],none⟩,
  ⟨.k .mv,[.s 73],[11],none⟩]) none (.seq (.seq (.reg [
  ⟨.k .mv,[.s 11],[74],none⟩,
  ⟨.k (.bin .lss),[.s 74,.c (.i .i64 (128:Int))],[75],none⟩,
  ⟨.k .mv,[.s 75],[76],none⟩,
  ⟨.k .mv,[.s 11],[77],some (76,false)⟩,
  ⟨.k (.bin .geq),[.s 77,.c (.i .i64 (192:Int))],[78],some (76,false)⟩,
  ⟨.k .pick,[.s 76,.c (.b true),.s 78],[79],none⟩]) none (.cond (.s 79) [] (.seq (.reg [
  ⟨.k .mv,[.c (.i .i64 (0:Int))],[4],none⟩,
  ⟨.k .mv,[.c (.i .i64 (0:Int))],[5],none⟩]) none .ret) .skip)) none (.reg [
  ⟨.k .mv,[.s 8],[80],none⟩,
  ⟨.k (.bin .mul),[.s 80,.c (.i .i64 (64:Int))],[81],none⟩,
  ⟨.k .mv,[.s 11],[82],none⟩,
  ⟨.k (.bin .add),[.s 81,.s 82],[83],none⟩,
  ⟨.k (.bin .sub),[.s 83,.c (.i .i64 (128:Int))],[84],none⟩,
  ⟨.k .mv,[.s 84],[8],none⟩])))) none (.reg [
  ⟨.k .mv,[.s 10],[65],none⟩,
  ⟨.k (.bin .add),[.s 65,.c (.i .i64 (1:Int))],[66],none⟩,
  ⟨.k .mv,[.s 66],[10],none⟩]))
def ref2_Rune.m2:TM := .seq (.seq (.reg [
  ⟨.k .mv,[.s 0],[56],none⟩,
  ⟨.k .len,[.s 56],[57],none⟩,
  ⟨.k .mv,[.s 1],[58],none⟩,
  ⟨.k (.bin .sub),[.s 57,.s 58],[59],none⟩,
  ⟨.k .mv,[.s 7],[60],none⟩,
  ⟨.k (.bin .lss),[.s 59,.s 60],[61],none⟩]) none (.cond (.s 61) [] (.seq (.reg [
  ⟨.k .mv,[.c (.i .i64 (0:Int))],[4],none⟩,
  ⟨.k .mv,[.c (.i .i64 (0:Int))],[5],none⟩]) none .ret) .skip)) none (.seq (.seq (.reg [
  ⟨.k .mv,[.c (.i .i64 (1:Int))],[10],none⟩]) none (.block 1 [] (.loop [0,1,7,8,9,10] [] ref2_Rune.m1))) none (.seq (.seq (.reg [
  ⟨.k .mv,[.s 8],[85],none⟩,
  ⟨.k .mv,[.s 9],[86],none⟩,
  ⟨.k (.bin .lss),[.s 85,.s 86],[87],none⟩,
  ⟨.k .mv,[.s 87],[88],none⟩,
  ⟨.k .mv,[.s 8],[89],some (88,false)⟩,
  ⟨.k (.bin .gtr),[.s 89,.c (.i .i64 (1114111:Int))],[90],some (88,false)⟩,
  ⟨.k .pick,[.s 88,.c (.b true),.s 90],[91],none⟩,
  ⟨.k .mv,[.s 91],[92],none⟩,
  ⟨.k .mv,[.s 8],[93],some (92,false)⟩,
  ⟨.k (.bin .geq),[.s 93,.c (.i .i64 (55296:Int))],[94],some (92,false)⟩,
  ⟨.k .mv,[.s 94],[95],some (92,false)⟩,
  ⟨.k .mv,[.s 8],[96],some (95,true)⟩,
  ⟨.k (.bin .leq),[.s 96,.c (.i .i64 (57343:Int))],[97],some (95,true)⟩,
  ⟨.k .pick,[.s 95,.s 97,.c (.b false)],[98],some (92,false)⟩,
  ⟨.k .pick,[.s 92,.c (.b true),.s 98],[99],none⟩]) none (.cond (.s 99) [] (.seq (.reg [
  ⟨.k .mv,[.c (.i .i64 (0:Int))],[4],none⟩,
  ⟨.k .mv,[.c (.i .i64 (0:Int))],[5],none⟩]) none .ret) .skip)) none (.seq (.reg [
  ⟨.k .mv,[.s 8],[100],none⟩,
  ⟨.k .mv,[.s 7],[101],none⟩,
  ⟨.k .mv,[.s 100],[4],none⟩,
  ⟨.k .mv,[.s 101],[5],none⟩]) none .ret)))
def ref2_Rune.m:TM := .seq (.reg [
  ⟨.k .mv,[.c (.i .i64 (0:Int))],[4],none⟩,
  ⟨.k .mv,[.c (.i .i64 (0:Int))],[5],none⟩]) none (.seq (.seq (.reg [
  ⟨.k .mv,[.s 1],[12],none⟩,
  ⟨.k (.bin .lss),[.s 12,.c (.i .i64 (0:Int))],[13],none⟩,
  ⟨.k .mv,[.s 13],[14],none⟩,
  ⟨.k .mv,[.s 1],[15],some (14,false)⟩,
  ⟨.k .mv,[.s 0],[16],some (14,false)⟩,
  ⟨.k .len,[.s 16],[17],some (14,false)⟩,
  ⟨.k (.bin .geq),[.s 15,.s 17],[18],some (14,false)⟩,
  ⟨.k .pick,[.s 14,.c (.b true),.s 18],[19],none⟩]) none (.cond (.s 19) [] (.seq (.reg [
  ⟨.k .mv,[.c (.i .i64 (0:Int))],[4],none⟩,
  ⟨.k .mv,[.c (.i .i64 (0:Int))],[5],none⟩]) none .ret) .skip)) none (.seq (.reg [
  ⟨.k .mv,[.s 0],[20],none⟩,
  ⟨.k .mv,[.s 1],[21],none⟩,
  ⟨.k (.ix 1),[.s 20,.s 21],[22],none⟩,
  ⟨.k (.lr 1 false),[.s 22],[23],none⟩,
  ⟨.k (.ci .i64),[.s 23],[24],none⟩,
  ⟨.k .mv,[.s 24],[6],none⟩]) none (.seq (.reg [
  ⟨.k .mv,[.c (.i .i64 (0:Int))],[7],none⟩,
  ⟨.k .mv,[.c (.i .i64 (0:Int))],[8],none⟩,
  ⟨.k .mv,[.c (.i .i64 (0:Int))],[9],none⟩]) none (.seq (.block 0 [] (.seq (.reg [
  ⟨.k .mv,[.s 6],[26],none⟩,
  ⟨.k (.bin .lss),[.s 26,.c (.i .i64 (128:Int))],[27],none⟩,
  ⟨.k .mv,[.s 27],[25],none⟩]) none (.cond (.s 25) [] (.seq (.reg [
  ⟨.k .mv,[.s 6],[28],none⟩,
  ⟨.k .mv,[.s 28],[4],none⟩,
  ⟨.k .mv,[.c (.i .i64 (1:Int))],[5],none⟩]) none .ret) (.seq (.reg [
  ⟨.k .mv,[.s 6],[30],none⟩,
  ⟨.k (.bin .geq),[.s 30,.c (.i .i64 (192:Int))],[31],none⟩,
  ⟨.k .mv,[.s 31],[32],none⟩,
  ⟨.k .mv,[.s 6],[33],some (32,true)⟩,
  ⟨.k (.bin .lss),[.s 33,.c (.i .i64 (224:Int))],[34],some (32,true)⟩,
  ⟨.k .pick,[.s 32,.s 34,.c (.b false)],[35],none⟩,
  ⟨.k .mv,[.s 35],[29],none⟩]) none (.cond (.s 29) [] (.reg [
  ⟨.k .mv,[.s 6],[36],none⟩,
  ⟨.k (.bin .sub),[.s 36,.c (.i .i64 (192:Int))],[37],none⟩,
  ⟨.k .mv,[.c (.i .i64 (2:Int))],[7],none⟩,
  ⟨.k .mv,[.s 37],[8],none⟩,
  ⟨.k .mv,[.c (.i .i64 (128:Int))],[9],none⟩]) (.seq (.reg [
  ⟨.k .mv,[.s 6],[39],none⟩,
  ⟨.k (.bin .geq),[.s 39,.c (.i .i64 (224:Int))],[40],none⟩,
  ⟨.k .mv,[.s 40],[41],none⟩,
  ⟨.k .mv,[.s 6],[42],some (41,true)⟩,
  ⟨.k (.bin .lss),[.s 42,.c (.i .i64 (240:Int))],[43],some (41,true)⟩,
  ⟨.k .pick,[.s 41,.s 43,.c (.b false)],[44],none⟩,
  ⟨.k .mv,[.s 44],[38],none⟩]) none (.cond (.s 38) [] (.reg [
  ⟨.k .mv,[.s 6],[45],none⟩,
  ⟨.k (.bin .sub),[.s 45,.c (.i .i64 (224:Int))],[46],none⟩,
  ⟨.k .mv,[.c (.i .i64 (3:Int))],[7],none⟩,
  ⟨.k .mv,[.s 46],[8],none⟩,
  ⟨.k .mv,[.c (.i .i64 (2048:Int))],[9],none⟩]) (.seq (.reg [
  ⟨.k .mv,[.s 6],[48],none⟩,
  ⟨.k (.bin .geq),[.s 48,.c (.i .i64 (240:Int))],[49],none⟩,
  ⟨.k .mv,[.s 49],[50],none⟩,
  ⟨.k .mv,[.s 6],[51],some (50,true)⟩,
  ⟨.k (.bin .lss),[.s 51,.c (.i .i64 (248:Int))],[52],some (50,true)⟩,
  ⟨.k .pick,[.s 50,.s 52,.c (.b false)],[53],none⟩,
  ⟨.k .mv,[.s 53],[47],none⟩]) none (.cond (.s 47) [] (.reg [
  ⟨.k .mv,[.s 6],[54],none⟩,
  ⟨.k (.bin .sub),[.s 54,.c (.i .i64 (240:Int))],[55],none⟩,
  ⟨.k .mv,[.c (.i .i64 (4:Int))],[7],none⟩,
  ⟨.k .mv,[.s 55],[8],none⟩,
  ⟨.k .mv,[.c (.i .i64 (65536:Int))],[9],none⟩]) (.seq (.reg [
  ⟨.k .mv,[.c (.i .i64 (0:Int))],[4],none⟩,
  ⟨.k .mv,[.c (.i .i64 (0:Int))],[5],none⟩]) none .ret)))))))))) (some [0,1,7,8,9]) ref2_Rune.m2))))
def ref2_Rune.d:TFD:={ np:=2,m:=ref2_Rune.m,ref:=none,tips:=[],res:=[.t 4,.t 5],own:=[],new:=none,tnew:=[] }
noncomputable def ref2_Rune.F (b:List UInt8) (at_:Int):Option (List TV):=ref2_Rune.d.run ref2_Rune.E [(.sl .bs b),(.i .i64 at_)]
noncomputable def ref2_Rune.k1:Cont (List TV):=seqK (ev _ ref2_Rune.E (.seq (.seq (.reg [
  ⟨.k .mv,[.s 8],[85],none⟩,
  ⟨.k .mv,[.s 9],[86],none⟩,
  ⟨.k (.bin .lss),[.s 85,.s 86],[87],none⟩,
  ⟨.k .mv,[.s 87],[88],none⟩,
  ⟨.k .mv,[.s 8],[89],some (88,false)⟩,
  ⟨.k (.bin .gtr),[.s 89,.c (.i .i64 (1114111:Int))],[90],some (88,false)⟩,
  ⟨.k .pick,[.s 88,.c (.b true),.s 90],[91],none⟩,
  ⟨.k .mv,[.s 91],[92],none⟩,
  ⟨.k .mv,[.s 8],[93],some (92,false)⟩,
  ⟨.k (.bin .geq),[.s 93,.c (.i .i64 (55296:Int))],[94],some (92,false)⟩,
  ⟨.k .mv,[.s 94],[95],some (92,false)⟩,
  ⟨.k .mv,[.s 8],[96],some (95,true)⟩,
  ⟨.k (.bin .leq),[.s 96,.c (.i .i64 (57343:Int))],[97],some (95,true)⟩,
  ⟨.k .pick,[.s 95,.s 97,.c (.b false)],[98],some (92,false)⟩,
  ⟨.k .pick,[.s 92,.c (.b true),.s 98],[99],none⟩]) none (.cond (.s 99) [] (.seq (.reg [
  ⟨.k .mv,[.c (.i .i64 (0:Int))],[4],none⟩,
  ⟨.k .mv,[.c (.i .i64 (0:Int))],[5],none⟩]) none .ret) .skip)) none (.seq (.reg [
  ⟨.k .mv,[.s 8],[100],none⟩,
  ⟨.k .mv,[.s 7],[101],none⟩,
  ⟨.k .mv,[.s 100],[4],none⟩,
  ⟨.k .mv,[.s 101],[5],none⟩]) none .ret))) none (endK ref2_Rune.d)
noncomputable def ref2_Rune.j1 (x0:List UInt8) (x1:Int) (x2:Int) (x3:Int) (x4:Int):Option (List TV):=evO _ ref2_Rune.E ref2_Rune.m2 (headT [0,1,7,8,9] [(.sl .bs x0),(.i .i64 x1),(.i .i64 x2),(.i .i64 x3),(.i .i64 x4)]) (endK ref2_Rune.d)
noncomputable def ref2_Rune.l2 (x0:List UInt8) (x1:Int) (x2:Int) (x3:Int) (x4:Int) (x5:Int):Option (List TV):=loopL (evO _ ref2_Rune.E ref2_Rune.m1) isN [0,1,7,8,9,10] (headT [0,1,7,8,9,10] [(.sl .bs x0),(.i .i64 x1),(.i .i64 x2),(.i .i64 x3),(.i .i64 x4),(.i .i64 x5)]) (blockK 1 ref2_Rune.k1)
theorem ref2_Rune.j1_in (x0:List UInt8) (x1:Int) (x2:Int) (x3:Int) (x4:Int) {ρ:Option (List TV)} (K:∀(v1:Int) (h1:v1=(IntKind.i64.wrap (((x0).length:Int) - x1))),cond (decide (v1<x2))
  (some [(.i .i64 (0:Int)),(.i .i64 (0:Int))])
  (ref2_Rune.l2 x0 x1 x2 x3 x4 (1:Int))=ρ):ref2_Rune.j1 x0 x1 x2 x3 x4=ρ:=((congrFun (congrFun (ev_eq _ _) _) _).trans (by kernel_rfl)).trans (K _ rfl)
theorem ref2_Rune.l2_in (x0:List UInt8) (x1:Int) (x2:Int) (x3:Int) (x4:Int) (x5:Int) {ρ:Option (List TV)} (K:∀(v1:UInt8) (h1:v1=(List.getD x0 ((IntKind.i64.wrap (x1+x5))).toNat (0:UInt8))) (v2:Int) (h2:v2=(IntKind.i64.wrap ((v1).toNat:Int))) (v3:Bool) (h3:v3=(cond (decide (v2<(128:Int))) true (decide ((192:Int)≤v2)))) (v4:Int) (h4:v4=(IntKind.i64.wrap (x3 * (64:Int)))) (v5:Int) (h5:v5=(IntKind.i64.wrap ((IntKind.i64.wrap (v4+v2)) - (128:Int)))) (v6:Int) (h6:v6=(IntKind.i64.wrap (x5+(1:Int)))) (v7:Bool) (h7:v7=(cond (decide (x3<x4)) true (decide ((1114111:Int)<x3)))) (v8:Bool) (h8:v8=((!v7)&&(decide ((55296:Int)≤x3)))) (v9:Bool) (h9:v9=(cond (decide ((55296:Int)≤x3)) (decide (x3≤(57343:Int))) false)),cond (decide (x5<x2))
  (ck (idxOK (IntKind.i64.wrap (x1+x5)) (x0).length) (ck (!(!(decide (v2<(128:Int)))) || (!(decide (v2<(128:Int))))) (ck ((decide (v2<(128:Int))) || (!(decide (v2<(128:Int))))) (cond v3
  (some [(.i .i64 (0:Int)),(.i .i64 (0:Int))])
  (ref2_Rune.l2 x0 x1 x2 v5 x4 v6)))))
  (ck (!(!(decide (x3<x4))) || (!(decide (x3<x4)))) (ck ((decide (x3<x4)) || (!(decide (x3<x4)))) (ck (!(!v7) || (!v7)) (ck (!(!v7) || (!v7)) (ck (!v8 || v8) (ck (!(!v7) || ((!v7)&&(!(decide ((55296:Int)≤x3)) || v8))) (ck (v7 || (!v7)) (cond (cond v7 true v9)
  (some [(.i .i64 (0:Int)),(.i .i64 (0:Int))])
  (some [(.i .i64 x3),(.i .i64 x2)])))))))))=ρ):ref2_Rune.l2 x0 x1 x2 x3 x4 x5=ρ:=((ev_loop _ _ _ _ _ _).trans (by kernel_rfl)).trans (K _ rfl _ rfl _ rfl _ rfl _ rfl _ rfl _ rfl _ rfl _ rfl)
theorem ref2_Rune.F_in (b:List UInt8) (at_:Int) {ρ:Option (List TV)} (K:∀(v1:Bool) (h1:v1=(cond (decide (at_<(0:Int))) true (decide (((b).length:Int)≤at_)))) (v2:UInt8) (h2:v2=(List.getD b (at_).toNat (0:UInt8))) (v3:Int) (h3:v3=(IntKind.i64.wrap ((v2).toNat:Int))) (v4:Bool) (h4:v4=(cond (decide ((192:Int)≤v3)) (decide (v3<(224:Int))) false)) (v5:Int) (h5:v5=(IntKind.i64.wrap (v3 - (192:Int)))) (v6:Bool) (h6:v6=(cond (decide ((224:Int)≤v3)) (decide (v3<(240:Int))) false)) (v7:Int) (h7:v7=(IntKind.i64.wrap (v3 - (224:Int)))) (v8:Bool) (h8:v8=(cond (decide ((240:Int)≤v3)) (decide (v3<(248:Int))) false)) (v9:Int) (h9:v9=(IntKind.i64.wrap (v3 - (240:Int)))),ck (!(!(decide (at_<(0:Int)))) || (!(decide (at_<(0:Int))))) (ck (!(!(decide (at_<(0:Int)))) || ((!(decide (at_<(0:Int))))&&(!(decide (at_<(0:Int)))))) (ck ((decide (at_<(0:Int))) || (!(decide (at_<(0:Int))))) (cond v1
  (some [(.i .i64 (0:Int)),(.i .i64 (0:Int))])
  (ck (idxOK at_ (b).length) (cond (decide (v3<(128:Int)))
  (some [(.i .i64 v3),(.i .i64 (1:Int))])
  (ck (!(decide ((192:Int)≤v3)) || (decide ((192:Int)≤v3))) (ck (!(decide ((192:Int)≤v3)) || (decide ((192:Int)≤v3))) (cond v4
  (ref2_Rune.j1 b at_ (2:Int) v5 (128:Int))
  (ck (!(decide ((224:Int)≤v3)) || (decide ((224:Int)≤v3))) (ck (!(decide ((224:Int)≤v3)) || (decide ((224:Int)≤v3))) (cond v6
  (ref2_Rune.j1 b at_ (3:Int) v7 (2048:Int))
  (ck (!(decide ((240:Int)≤v3)) || (decide ((240:Int)≤v3))) (ck (!(decide ((240:Int)≤v3)) || (decide ((240:Int)≤v3))) (cond v8
  (ref2_Rune.j1 b at_ (4:Int) v9 (65536:Int))
  (some [(.i .i64 (0:Int)),(.i .i64 (0:Int))])))))))))))))))=ρ):ref2_Rune.F b at_=ρ:=Eq.trans (by kernel_rfl) (K _ rfl _ rfl _ rfl _ rfl _ rfl _ rfl _ rfl _ rfl _ rfl)
theorem ref2_Rune.chk:((Go.Proofs.Tryd.prog.funcs[92]?).any fun fn=>chkF Go.Proofs.Tryd.prog (fun k=>((envL trydbGl ref2_Rune.env).fs k).2) fn ref2_Rune.d.erase)=true:=by kernel_rfl
end
noncomputable section
def ref2_Check.env:List (Nat × (Ctr × FSig)):=[(92,(ref2_Rune.c,ref2_Rune.sg))]
def ref2_Check.E:TEnv:=envL trydbGl ref2_Check.env
def ref2_Check.m1:TM := .seq (.seq (.reg [
  ⟨.k .mv,[.s 4],[7],none⟩,
  ⟨.k .mv,[.s 0],[8],none⟩,
  ⟨.k .len,[.s 8],[9],none⟩,
  ⟨.k (.bin .lss),[.s 7,.s 9],[10],none⟩]) none (.cond (.s 10) [] .skip (.exit 0))) none (.block 1 [] (.seq (.reg [
  ⟨.k .mv,[.s 0],[12],none⟩,
  ⟨.k .mv,[.s 4],[13],none⟩,
  ⟨.k (.call 92 (.plain 2 2)),[.s 12,.s 13],[14],none⟩,
  ⟨.k .mv,[.s 14],[11],none⟩,
  ⟨.k (.ex 0),[.s 11],[15],none⟩,
  ⟨.k (.ex 1),[.s 11],[16],none⟩,
  ⟨.k .mv,[.s 15],[5],none⟩,
  ⟨.k .mv,[.s 16],[6],none⟩]) none (.seq (.seq (.reg [
  ⟨.k .mv,[.s 6],[17],none⟩,
  ⟨.k (.bin .eql),[.s 17,.c (.i .i64 (0:Int))],[18],none⟩]) none (.cond (.s 18) [] (.seq (.reg [
  ⟨.k .mv,[.s 4],[19],none⟩,
  ⟨.k .mv,[.s 19],[2],none⟩,
  ⟨.k .mv,[.c (.b false)],[3],none⟩]) none .ret) .skip)) none (.reg [
  ⟨.k .mv,[.s 4],[20],none⟩,
  ⟨.k .mv,[.s 6],[21],none⟩,
  ⟨.k (.bin .add),[.s 20,.s 21],[22],none⟩,
  ⟨.k .mv,[.s 22],[4],none⟩]))))
def ref2_Check.m:TM := .seq (.reg [
  ⟨.k .mv,[.c (.i .i64 (0:Int))],[2],none⟩,
  ⟨.k .mv,[.c (.b false)],[3],none⟩]) none (.seq (.seq (.reg [
  ⟨.k .mv,[.c (.i .i64 (0:Int))],[4],none⟩]) none (.block 0 [] (.loop [0,4] [] ref2_Check.m1))) none (.seq (.reg [
  ⟨.k .mv,[.s 0],[23],none⟩,
  ⟨.k .len,[.s 23],[24],none⟩,
  ⟨.k .mv,[.s 24],[2],none⟩,
  ⟨.k .mv,[.c (.b true)],[3],none⟩]) none .ret))
def ref2_Check.d:TFD:={ np:=1,m:=ref2_Check.m,ref:=none,tips:=[],res:=[.t 2,.t 3],own:=[],new:=none,tnew:=[] }
noncomputable def ref2_Check.F (b:List UInt8):Option (List TV):=ref2_Check.d.run ref2_Check.E [(.sl .bs b)]
noncomputable def ref2_Check.k1:Cont (List TV):=seqK (ev _ ref2_Check.E (.seq (.reg [
  ⟨.k .mv,[.s 0],[23],none⟩,
  ⟨.k .len,[.s 23],[24],none⟩,
  ⟨.k .mv,[.s 24],[2],none⟩,
  ⟨.k .mv,[.c (.b true)],[3],none⟩]) none .ret)) none (endK ref2_Check.d)
noncomputable def ref2_Check.l1 (x0:List UInt8) (x1:Int):Option (List TV):=loopL (evO _ ref2_Check.E ref2_Check.m1) isN [0,4] (headT [0,4] [(.sl .bs x0),(.i .i64 x1)]) (blockK 0 ref2_Check.k1)
theorem ref2_Check.l1_in (x0:List UInt8) (x1:Int) {ρ:Option (List TV)} (K:∀(v1:Int) (h1:v1=(IntKind.i64.wrap (x1+((Utf.runeAt x0 x1).2)))),cond (decide (x1<((x0).length:Int)))
  (ck (decide (x0.length≤1099511627776)) (cond (decide (((Utf.runeAt x0 x1).2)=(0:Int)))
  (some [(.i .i64 x1),(.b false)])
  (ref2_Check.l1 x0 v1)))
  (some [(.i .i64 ((x0).length:Int)),(.b true)])=ρ):ref2_Check.l1 x0 x1=ρ:=((ev_loop _ _ _ _ _ _).trans (by kernel_rfl)).trans (K _ rfl)
theorem ref2_Check.F_eq (b:List UInt8):ref2_Check.F b=ref2_Check.l1 b (0:Int):=by kernel_rfl
theorem ref2_Check.chk:((Go.Proofs.Tryd.prog.funcs[78]?).any fun fn=>chkF Go.Proofs.Tryd.prog (fun k=>((envL trydbGl ref2_Check.env).fs k).2) fn ref2_Check.d.erase)=true:=by kernel_rfl
end
noncomputable section
def ref2_Whole.env:List (Nat × (Ctr × FSig)):=[(78,(ref2_Check.c,ref2_Check.sg))]
def ref2_Whole.E:TEnv:=envL trydbGl ref2_Whole.env
def ref2_Whole.m:TM := .seq (.reg [
  ⟨.k .mv,[.c (.b false)],[2],none⟩]) none (.seq (.reg [
  ⟨.k .mv,[.s 0],[6],none⟩,
  ⟨.k .sb,[.s 6],[7],none⟩,
  ⟨.k (.call 78 (.plain 1 2)),[.s 7],[8],none⟩,
  ⟨.k .mv,[.s 8],[5],none⟩,
  ⟨.k (.ex 0),[.s 5],[9],none⟩,
  ⟨.k (.ex 1),[.s 5],[10],none⟩,
  ⟨.k .mv,[.s 9],[3],none⟩,
  ⟨.k .mv,[.s 10],[4],none⟩]) none (.seq (.reg [
  ⟨.k .mv,[.s 4],[11],none⟩,
  ⟨.k .mv,[.s 11],[2],none⟩]) none .ret))
def ref2_Whole.d:TFD:={ np:=1,m:=ref2_Whole.m,ref:=none,tips:=[],res:=[.t 2],own:=[],new:=none,tnew:=[] }
noncomputable def ref2_Whole.F (s:Str):Option (List TV):=ref2_Whole.d.run ref2_Whole.E [(.s s)]
theorem ref2_Whole.F_eq (s:Str):ref2_Whole.F s=ck (lenOK (s).length) (ck (decide (s.length≤1099511627776)) (some [(.b (Utf.whole s))])):=by kernel_rfl
theorem ref2_Whole.chk:((Go.Proofs.Tryd.prog.funcs[48]?).any fun fn=>chkF Go.Proofs.Tryd.prog (fun k=>((envL trydbGl ref2_Whole.env).fs k).2) fn ref2_Whole.d.erase)=true:=by kernel_rfl
end
noncomputable section
end
noncomputable section
def sl_IndexByte.env:List (Nat × (Ctr × FSig)):=[]
def sl_IndexByte.E:TEnv:=envL trydbGl sl_IndexByte.env
def sl_IndexByte.m:TM := .seq (.reg [
  ⟨.k .mv,[.c (.i .i64 (0:Int))],[4],none⟩]) none (.seq (.reg [
  ⟨.k .mv,[.s 0],[5],none⟩,
  ⟨.k .mv,[.s 1],[6],none⟩,
  ⟨.k .xib,[.s 5,.s 6],[7],none⟩,
  ⟨.k .mv,[.s 7],[4],none⟩]) none .ret)
def sl_IndexByte.d:TFD:={ np:=2,m:=sl_IndexByte.m,ref:=none,tips:=[],res:=[.t 4],own:=[],new:=none,tnew:=[] }
noncomputable def sl_IndexByte.F (s:Str) (c:UInt8):Option (List TV):=sl_IndexByte.d.run sl_IndexByte.E [(.s s),(.u8 c)]
theorem sl_IndexByte.F_eq (s:Str) (c:UInt8):sl_IndexByte.F s c=some [(.i .i64 (Lib.indexByte s c))]:=by kernel_rfl
theorem sl_IndexByte.chk:((Go.Proofs.Tryd.prog.funcs[95]?).any fun fn=>chkF Go.Proofs.Tryd.prog (fun k=>((envL trydbGl sl_IndexByte.env).fs k).2) fn sl_IndexByte.d.erase)=true:=by kernel_rfl
end
noncomputable section
def sl_Index.env:List (Nat × (Ctr × FSig)):=[(95,(sl_IndexByte.c,sl_IndexByte.sg))]
def sl_Index.E:TEnv:=envL trydbGl sl_Index.env
def sl_Index.m1:TM := .seq (.seq (.reg [
  ⟨.k .mv,[.s 0],[78],none⟩,
  ⟨.k .mv,[.s 8],[79],none⟩,
  ⟨.k (.bin .add),[.s 79,.c (.i .i64 (1:Int))],[80],none⟩,
  ⟨.k .si,[.s 78,.s 80],[81],none⟩,
  ⟨.k .mv,[.s 7],[82],none⟩,
  ⟨.k (.bin .eql),[.s 81,.s 82],[83],none⟩,
  ⟨.k .mv,[.s 83],[84],none⟩,
  ⟨.k .mv,[.s 0],[85],some (84,true)⟩,
  ⟨.k .mv,[.s 8],[86],some (84,true)⟩,
  ⟨.k .mv,[.s 8],[87],some (84,true)⟩,
  ⟨.k .mv,[.s 5],[88],some (84,true)⟩,
  ⟨.k (.bin .add),[.s 87,.s 88],[89],some (84,true)⟩,
  ⟨.k (.ss true true),[.s 85,.s 86,.s 89],[90],some (84,true)⟩,
  ⟨.k .mv,[.s 1],[91],some (84,true)⟩,
  ⟨.k (.bin .eql),[.s 90,.s 91],[92],some (84,true)⟩,
  ⟨.k .pick,[.s 84,.s 92,.c (.b false)],[93],none⟩]) none (.cond (.s 93) [] (.seq (.reg [
  ⟨.k .mv,[.s 8],[94],none⟩,
  ⟨.k .mv,[.s 94],[4],none⟩]) none .ret) .skip)) none (.seq (.reg [
  ⟨.k .mv,[.s 8],[95],none⟩,
  ⟨.k (.bin .add),[.s 95,.c (.i .i64 (1:Int))],[96],none⟩,
  ⟨.k .mv,[.s 96],[8],none⟩]) none (.seq (.reg [
  ⟨.k .mv,[.s 10],[97],none⟩,
  ⟨.k (.bin .add),[.s 97,.c (.i .i64 (1:Int))],[98],none⟩,
  ⟨.k .mv,[.s 98],[10],none⟩]) none (.seq (.reg [
  ⟨.k .mv,[.s 5],[99],none⟩,
  ⟨.k (.lr 1 false),[.g 0],[100],none⟩,
  ⟨.k (.bin .leq),[.s 99,.s 100],[101],none⟩,
  ⟨.k .mv,[.s 101],[102],none⟩,
  ⟨.k .mv,[.s 10],[103],some (102,true)⟩,
  ⟨.k .mv,[.s 8],[104],some (102,true)⟩,
  ⟨.k (.call 97 (.plain 1 1)),[.s 104],[105],some (102,true)⟩,
  ⟨.k (.bin .gtr),[.s 103,.s 105],[106],some (102,true)⟩,
  ⟨.k .pick,[.s 102,.s 106,.c (.b false)],[107],none⟩]) none (.cond (.s 107) [] (.seq (.reg [
  ⟨.k .mv,[.s 0],[108],none⟩,
  ⟨.k .mv,[.s 8],[109],none⟩,
  ⟨.k (.ss true false),[.s 108,.s 109],[110],none⟩,
  ⟨.k .mv,[.s 1],[111],none⟩,
  ⟨.k (.nev true),[],[112],none⟩,
  ⟨.k .mv,[.s 112],[12],none⟩]) none (.seq (.seq (.reg [
  ⟨.k .mv,[.s 12],[113],none⟩,
  ⟨.k (.bin .geq),[.s 113,.c (.i .i64 (0:Int))],[114],none⟩]) none (.cond (.s 114) [] (.seq (.reg [
  ⟨.k .mv,[.s 12],[115],none⟩,
  ⟨.k .mv,[.s 8],[116],none⟩,
  ⟨.k (.bin .add),[.s 115,.s 116],[117],none⟩,
  ⟨.k .mv,[.s 117],[4],none⟩]) none .ret) .skip)) none (.seq (.reg [
  ⟨.k .mv,[.c (.i .i64 (-1:Int))],[4],none⟩]) none .ret))) (.seq (.reg [
  ⟨.k .mv,[.s 5],[118],none⟩,
  ⟨.k (.lr 1 false),[.g 0],[119],none⟩,
  ⟨.k (.bin .gtr),[.s 118,.s 119],[120],none⟩,
  ⟨.k .mv,[.s 120],[121],none⟩,
  ⟨.k .mv,[.s 10],[122],some (121,true)⟩,
  ⟨.k .mv,[.s 8],[123],some (121,true)⟩,
  ⟨.k (.bin .shr),[.s 123,.c (.u64 (4:UInt64))],[124],some (121,true)⟩,
  ⟨.k (.bin .add),[.c (.i .i64 (4:Int)),.s 124],[125],some (121,true)⟩,
  ⟨.k (.bin .geq),[.s 122,.s 125],[126],some (121,true)⟩,
  ⟨.k .pick,[.s 121,.s 126,.c (.b false)],[127],none⟩,
  ⟨.k .mv,[.s 127],[128],none⟩,
  ⟨.k .mv,[.s 8],[129],some (128,true)⟩,
  ⟨.k .mv,[.s 9],[130],some (128,true)⟩,
  ⟨.k (.bin .lss),[.s 129,.s 130],[131],some (128,true)⟩,
  ⟨.k .pick,[.s 128,.s 131,.c (.b false)],[132],none⟩]) none (.cond (.s 132) [] (.seq (.reg [
  ⟨.k .mv,[.s 0],[133],none⟩,
  ⟨.k .mv,[.s 8],[134],none⟩,
  ⟨.k (.ss true false),[.s 133,.s 134],[135],none⟩,
  ⟨.k .mv,[.s 1],[136],none⟩,
  ⟨.k (.call 98 (.plain 2 1)),[.s 135,.s 136],[137],none⟩,
  ⟨.k .mv,[.s 137],[13],none⟩]) none (.seq (.seq (.reg [
  ⟨.k .mv,[.s 13],[138],none⟩,
  ⟨.k (.bin .lss),[.s 138,.c (.i .i64 (0:Int))],[139],none⟩]) none (.cond (.s 139) [] (.seq (.reg [
  ⟨.k .mv,[.c (.i .i64 (-1:Int))],[4],none⟩]) none .ret) .skip)) none (.seq (.reg [
  ⟨.k .mv,[.s 8],[140],none⟩,
  ⟨.k .mv,[.s 13],[141],none⟩,
  ⟨.k (.bin .add),[.s 140,.s 141],[142],none⟩,
  ⟨.k .mv,[.s 142],[4],none⟩]) none .ret))) .skip))))))
def sl_Index.m2:TM := .seq (.seq (.reg [
  ⟨.k .mv,[.s 8],[57],none⟩,
  ⟨.k .mv,[.s 9],[58],none⟩,
  ⟨.k (.bin .lss),[.s 57,.s 58],[59],none⟩]) none (.cond (.s 59) [] .skip (.exit 1))) none (.block 2 [] (.seq (.seq (.reg [
  ⟨.k .mv,[.s 0],[60],none⟩,
  ⟨.k .mv,[.s 8],[61],none⟩,
  ⟨.k .si,[.s 60,.s 61],[62],none⟩,
  ⟨.k .mv,[.s 6],[63],none⟩,
  ⟨.k (.bin .neq),[.s 62,.s 63],[64],none⟩]) none (.cond (.s 64) [] (.seq (.reg [
  ⟨.k .mv,[.s 0],[65],none⟩,
  ⟨.k .mv,[.s 8],[66],none⟩,
  ⟨.k (.bin .add),[.s 66,.c (.i .i64 (1:Int))],[67],none⟩,
  ⟨.k .mv,[.s 9],[68],none⟩,
  ⟨.k (.ss true true),[.s 65,.s 67,.s 68],[69],none⟩,
  ⟨.k .mv,[.s 6],[70],none⟩,
  ⟨.k (.call 95 (.plain 2 1)),[.s 69,.s 70],[71],none⟩,
  ⟨.k .mv,[.s 71],[11],none⟩]) none (.seq (.seq (.reg [
  ⟨.k .mv,[.s 11],[72],none⟩,
  ⟨.k (.bin .lss),[.s 72,.c (.i .i64 (0:Int))],[73],none⟩]) none (.cond (.s 73) [] (.seq (.reg [
  ⟨.k .mv,[.c (.i .i64 (-1:Int))],[4],none⟩]) none .ret) .skip)) none (.reg [
  ⟨.k .mv,[.s 8],[74],none⟩,
  ⟨.k .mv,[.s 11],[75],none⟩,
  ⟨.k (.bin .add),[.s 75,.c (.i .i64 (1:Int))],[76],none⟩,
  ⟨.k (.bin .add),[.s 74,.s 76],[77],none⟩,
  ⟨.k .mv,[.s 77],[8],none⟩]))) .skip)) (some [0,1,5,6,7,8,9,10]) sl_Index.m1))
def sl_Index.m:TM := .seq (.reg [
  ⟨.k .mv,[.c (.i .i64 (0:Int))],[4],none⟩]) none (.seq (.reg [
  ⟨.k .mv,[.s 1],[14],none⟩,
  ⟨.k .lns,[.s 14],[15],none⟩,
  ⟨.k .mv,[.s 15],[5],none⟩]) none (.seq (.block 0 [] (.seq (.reg [
  ⟨.k .mv,[.s 5],[17],none⟩,
  ⟨.k (.bin .eql),[.s 17,.c (.i .i64 (0:Int))],[18],none⟩,
  ⟨.k .mv,[.s 18],[19],none⟩,
  ⟨.k .mv,[.s 1],[20],some (19,false)⟩,
  ⟨.k .mv,[.s 0],[21],some (19,false)⟩,
  ⟨.k (.bin .eql),[.s 20,.s 21],[22],some (19,false)⟩,
  ⟨.k .pick,[.s 19,.c (.b true),.s 22],[23],none⟩,
  ⟨.k .mv,[.s 23],[16],none⟩]) none (.cond (.s 16) [] (.seq (.reg [
  ⟨.k .mv,[.c (.i .i64 (0:Int))],[4],none⟩]) none .ret) (.seq (.reg [
  ⟨.k .mv,[.s 5],[25],none⟩,
  ⟨.k (.bin .eql),[.s 25,.c (.i .i64 (1:Int))],[26],none⟩,
  ⟨.k .mv,[.s 26],[24],none⟩]) none (.cond (.s 24) [] (.seq (.reg [
  ⟨.k .mv,[.s 0],[27],none⟩,
  ⟨.k .mv,[.s 1],[28],none⟩,
  ⟨.k .si,[.s 28,.c (.i .i64 (0:Int))],[29],none⟩,
  ⟨.k (.call 95 (.plain 2 1)),[.s 27,.s 29],[30],none⟩,
  ⟨.k .mv,[.s 30],[4],none⟩]) none .ret) (.seq (.reg [
  ⟨.k .mv,[.s 5],[32],none⟩,
  ⟨.k .mv,[.s 0],[33],none⟩,
  ⟨.k .lns,[.s 33],[34],none⟩,
  ⟨.k (.bin .geq),[.s 32,.s 34],[35],none⟩,
  ⟨.k .mv,[.s 35],[31],none⟩]) none (.cond (.s 31) [] (.seq (.reg [
  ⟨.k .mv,[.c (.i .i64 (-1:Int))],[4],none⟩]) none .ret) (.seq (.reg [
  ⟨.k .mv,[.s 5],[37],none⟩,
  ⟨.k (.lr 1 false),[.g 0],[38],none⟩,
  ⟨.k (.bin .leq),[.s 37,.s 38],[39],none⟩,
  ⟨.k .mv,[.s 39],[40],none⟩,
  ⟨.k .mv,[.s 0],[41],some (40,true)⟩,
  ⟨.k .lns,[.s 41],[42],some (40,true)⟩,
  ⟨.k (.bin .leq),[.s 42,.c (.i .i64 (64:Int))],[43],some (40,true)⟩,
  ⟨.k .pick,[.s 40,.s 43,.c (.b false)],[44],none⟩,
  ⟨.k .mv,[.s 44],[36],none⟩]) none (.cond (.s 36) [] (.seq (.reg [
  ⟨.k .mv,[.s 0],[45],none⟩,
  ⟨.k .mv,[.s 1],[46],none⟩,
  ⟨.k (.nev true),[],[47],none⟩,
  ⟨.k .mv,[.s 47],[4],none⟩]) none .ret) .skip))))))))) none (.seq (.reg [
  ⟨.k .mv,[.s 1],[48],none⟩,
  ⟨.k .si,[.s 48,.c (.i .i64 (0:Int))],[49],none⟩,
  ⟨.k .mv,[.s 49],[6],none⟩]) none (.seq (.reg [
  ⟨.k .mv,[.s 1],[50],none⟩,
  ⟨.k .si,[.s 50,.c (.i .i64 (1:Int))],[51],none⟩,
  ⟨.k .mv,[.s 51],[7],none⟩]) none (.seq (.reg [
  ⟨.k .mv,[.c (.i .i64 (0:Int))],[8],none⟩]) none (.seq (.reg [
  ⟨.k .mv,[.s 0],[52],none⟩,
  ⟨.k .lns,[.s 52],[53],none⟩,
  ⟨.k .mv,[.s 5],[54],none⟩,
  ⟨.k (.bin .sub),[.s 53,.s 54],[55],none⟩,
  ⟨.k (.bin .add),[.s 55,.c (.i .i64 (1:Int))],[56],none⟩,
  ⟨.k .mv,[.s 56],[9],none⟩]) none (.seq (.reg [
  ⟨.k .mv,[.c (.i .i64 (0:Int))],[10],none⟩]) none (.seq (.block 1 [] (.loop [0,1,5,6,7,8,9,10] [] sl_Index.m2)) none (.seq (.reg [
  ⟨.k .mv,[.c (.i .i64 (-1:Int))],[4],none⟩]) none .ret)))))))))
def sl_Index.d:TFD:={ np:=2,m:=sl_Index.m,ref:=none,tips:=[],res:=[.t 4],own:=[],new:=none,tnew:=[] }
noncomputable def sl_Index.F (s:Str) (t:Str):Option (List TV):=sl_Index.d.run sl_Index.E [(.s s),(.s t)]
theorem sl_Index.F_in (s:Str) (t:Str) {ρ:Option (List TV)} (K:∀(v1:Bool) (h1:v1=(cond (decide (((t).length:Int)=(0:Int))) true (decide (t=s)))) (v2:UInt8) (h2:v2=(List.getD t ((0:Int)).toNat (0:UInt8))),ck (!(!(decide (((t).length:Int)=(0:Int)))) || ((!(decide (((t).length:Int)=(0:Int))))&&(!(decide (((t).length:Int)=(0:Int)))))) (ck ((decide (((t).length:Int)=(0:Int))) || (!(decide (((t).length:Int)=(0:Int))))) (cond v1
  (some [(.i .i64 (0:Int))])
  (cond (decide (((t).length:Int)=(1:Int)))
  (ck (idxOK (0:Int) (t).length) (some [(.i .i64 (Lib.indexByte s v2))]))
  (cond (decide (((s).length:Int)≤((t).length:Int)))
  (some [(.i .i64 (-1:Int))])
  (none)))))=ρ):sl_Index.F s t=ρ:=Eq.trans (by kernel_rfl) (K _ rfl _ rfl)
theorem sl_Index.chk:((Go.Proofs.Tryd.prog.funcs[85]?).any fun fn=>chkF Go.Proofs.Tryd.prog (fun k=>((envL trydbGl sl_Index.env).fs k).2) fn sl_Index.d.erase)=true:=by kernel_rfl
end
noncomputable section
def st_Index.env:List (Nat × (Ctr × FSig)):=[(85,(sl_Index.c,sl_Index.sg))]
def st_Index.E:TEnv:=envL trydbGl st_Index.env
def st_Index.m:TM := .seq (.reg [
  ⟨.k .mv,[.c (.i .i64 (0:Int))],[4],none⟩]) none (.seq (.reg [
  ⟨.k .mv,[.s 0],[5],none⟩,
  ⟨.k .mv,[.s 1],[6],none⟩,
  ⟨.k (.call 85 (.plain 2 1)),[.s 5,.s 6],[7],none⟩,
  ⟨.k .mv,[.s 7],[4],none⟩]) none .ret)
def st_Index.d:TFD:={ np:=2,m:=st_Index.m,ref:=none,tips:=[],res:=[.t 4],own:=[],new:=none,tnew:=[] }
noncomputable def st_Index.F (s:Str) (t:Str):Option (List TV):=st_Index.d.run st_Index.E [(.s s),(.s t)]
theorem st_Index.F_in (s:Str) (t:Str) {ρ:Option (List TV)} (K:∀(v1:Int) (h1:v1=(Lib.indexByte s (t.getD 0 0))),ck (decide (t.length=1)) (some [(.i .i64 v1)])=ρ):st_Index.F s t=ρ:=Eq.trans (by kernel_rfl) (K _ rfl)
theorem st_Index.chk:((Go.Proofs.Tryd.prog.funcs[68]?).any fun fn=>chkF Go.Proofs.Tryd.prog (fun k=>((envL trydbGl st_Index.env).fs k).2) fn st_Index.d.erase)=true:=by kernel_rfl
end
noncomputable section
def st_Contains.env:List (Nat × (Ctr × FSig)):=[(68,(st_Index.c,st_Index.sg))]
def st_Contains.E:TEnv:=envL trydbGl st_Contains.env
def st_Contains.m:TM := .seq (.reg [
  ⟨.k .mv,[.c (.b false)],[4],none⟩]) none (.seq (.reg [
  ⟨.k .mv,[.s 0],[5],none⟩,
  ⟨.k .mv,[.s 1],[6],none⟩,
  ⟨.k (.call 68 (.plain 2 1)),[.s 5,.s 6],[7],none⟩,
  ⟨.k (.bin .geq),[.s 7,.c (.i .i64 (0:Int))],[8],none⟩,
  ⟨.k .mv,[.s 8],[4],none⟩]) none .ret)
def st_Contains.d:TFD:={ np:=2,m:=st_Contains.m,ref:=none,tips:=[],res:=[.t 4],own:=[],new:=none,tnew:=[] }
noncomputable def st_Contains.F (s:Str) (t:Str):Option (List TV):=st_Contains.d.run st_Contains.E [(.s s),(.s t)]
theorem st_Contains.F_in (s:Str) (t:Str) {ρ:Option (List TV)} (K:∀(v1:Int) (h1:v1=(Lib.indexByte s (t.getD 0 0))),ck (decide (t.length=1)) (some [(.b (decide ((0:Int)≤v1)))])=ρ):st_Contains.F s t=ρ:=Eq.trans (by kernel_rfl) (K _ rfl)
theorem st_Contains.chk:((Go.Proofs.Tryd.prog.funcs[43]?).any fun fn=>chkF Go.Proofs.Tryd.prog (fun k=>((envL trydbGl st_Contains.env).fs k).2) fn st_Contains.d.erase)=true:=by kernel_rfl
end
noncomputable section
theorem clone_is.ok:SpecOK Go.Proofs.Tryd.prog (fun n=>(trydbGl n).av) 42 (Ctr.fs (clone_is.c,clone_is.sg)):=cloneP_ok (t := .is) (b:=8) (by kernel_rfl)
end
noncomputable section
def tree_Name.env:List (Nat × (Ctr × FSig)):=[]
def tree_Name.E:TEnv:=envL trydbGl tree_Name.env
def tree_Name.m:TM := .seq (.reg [
  ⟨.k .mv,[.c (.s ([]:Str))],[2],none⟩]) none (.seq (.reg [
  ⟨.bd [(.s ([]:Str)),(.s ([]:Str)),(.s ([]:Str)),(.s ([]:Str)),(.s ([]:Str)),(.s ([]:Str)),(.s ([]:Str)),(.s ([]:Str)),(.s ([]:Str)),(.s ([]:Str)),(.s ([]:Str)),(.s ([]:Str)),(.s ([]:Str)),(.s ([]:Str)),(.s ([]:Str)),(.s ([]:Str)),(.s ([]:Str)),(.s ([]:Str)),(.s ([]:Str)),(.s ([]:Str))] [(0,1),(1,1),(2,1),(3,1),(4,1),(5,1),(6,1),(7,1),(8,1),(9,1),(10,1),(11,1),(12,1),(13,1),(14,1),(15,1),(16,1),(17,1),(18,1),(19,1)],[.c (.s ([]:Str)),.c (.s ([100,111,117,98,108,101]:Str)),.c (.s ([115,116,114,105,110,103]:Str)),.c (.s ([100,111,99,117,109,101,110,116]:Str)),.c (.s ([97,114,114,97,121]:Str)),.c (.s ([98,105,110,97,114,121]:Str)),.c (.s ([117,110,100,101,102,105,110,101,100]:Str)),.c (.s ([111,98,106,101,99,116,105,100]:Str)),.c (.s ([98,111,111,108]:Str)),.c (.s ([100,97,116,101]:Str)),.c (.s ([110,117,108,108]:Str)),.c (.s ([114,101,103,101,120]:Str)),.c (.s ([112,111,105,110,116,101,114]:Str)),.c (.s ([99,111,100,101]:Str)),.c (.s ([115,121,109,98,111,108]:Str)),.c (.s ([115,99,111,112,101,100]:Str)),.c (.s ([105,110,116,51,50]:Str)),.c (.s ([116,105,109,101,115,116,97,109,112]:Str)),.c (.s ([105,110,116,54,52]:Str)),.c (.s ([100,101,99,105,109,97,108]:Str))],[4],none⟩,
  ⟨.al 1021 [(.s ([]:Str)),(.s ([]:Str)),(.s ([]:Str)),(.s ([]:Str)),(.s ([]:Str)),(.s ([]:Str)),(.s ([]:Str)),(.s ([]:Str)),(.s ([]:Str)),(.s ([]:Str)),(.s ([]:Str)),(.s ([]:Str)),(.s ([]:Str)),(.s ([]:Str)),(.s ([]:Str)),(.s ([]:Str)),(.s ([]:Str)),(.s ([]:Str)),(.s ([]:Str)),(.s ([]:Str))] [],[.s 1021],[3,1021],none⟩,
  ⟨.k (.st 1021 0 20),[.s 3,.s 1021,.s 4],[1021],none⟩]) none (.seq (.block 0 [(3,.ptr 1021 0),(1021,.cl [])] (.seq (.reg [
  ⟨.k .mv,[.s 0],[6],none⟩,
  ⟨.k (.bin .eql),[.s 6,.c (.i .i64 (127:Int))],[7],none⟩,
  ⟨.k .mv,[.s 7],[5],none⟩]) none (.cond (.s 5) [] (.seq (.reg [
  ⟨.k .mv,[.c (.s ([109,97,120,107,101,121]:Str))],[2],none⟩]) none .ret) (.seq (.reg [
  ⟨.k .mv,[.s 0],[9],none⟩,
  ⟨.k (.bin .eql),[.s 9,.c (.i .i64 (255:Int))],[10],none⟩,
  ⟨.k .mv,[.s 10],[8],none⟩]) none (.cond (.s 8) [] (.seq (.reg [
  ⟨.k .mv,[.c (.s ([109,105,110,107,101,121]:Str))],[2],none⟩]) none .ret) (.seq (.reg [
  ⟨.k .mv,[.s 0],[12],none⟩,
  ⟨.k (.bin .lss),[.s 12,.c (.i .i64 (0:Int))],[13],none⟩,
  ⟨.k .mv,[.s 13],[14],none⟩,
  ⟨.k .mv,[.s 0],[15],some (14,false)⟩,
  ⟨.k (.bin .geq),[.s 15,.c (.i .i64 (20:Int))],[16],some (14,false)⟩,
  ⟨.k .pick,[.s 14,.c (.b true),.s 16],[17],none⟩,
  ⟨.k .mv,[.s 17],[11],none⟩]) none (.cond (.s 11) [] (.seq (.reg [
  ⟨.k .mv,[.c (.s ([]:Str))],[2],none⟩]) none .ret) .skip))))))) none (.seq (.reg [
  ⟨.k .mv,[.s 0],[18],none⟩,
  ⟨.k (.la 1021 20 1),[.s 3,.s 18,.s 1021],[19],none⟩,
  ⟨.k (.ll 1021 1),[.s 19,.s 1021],[20],none⟩,
  ⟨.k .mv,[.s 20],[2],none⟩]) none .ret)))
def tree_Name.d:TFD:={ np:=1,m:=tree_Name.m,ref:=none,tips:=[],res:=[.t 2],own:=[],new:=none,tnew:=[] }
noncomputable def tree_Name.F (k:Int):Option (List TV):=tree_Name.d.run tree_Name.E [(.i .i64 k)]
theorem tree_Name.F_in (k:Int) {ρ:Option (List TV)} (K:∀(v1:Bool) (h1:v1=(cond (decide (k<(0:Int))) true (decide ((20:Int)≤k)))) (v2:Str) (h2:v2=(List.getD [([]:Str),([100,111,117,98,108,101]:Str),([115,116,114,105,110,103]:Str),([100,111,99,117,109,101,110,116]:Str),([97,114,114,97,121]:Str),([98,105,110,97,114,121]:Str),([117,110,100,101,102,105,110,101,100]:Str),([111,98,106,101,99,116,105,100]:Str),([98,111,111,108]:Str),([100,97,116,101]:Str),([110,117,108,108]:Str),([114,101,103,101,120]:Str),([112,111,105,110,116,101,114]:Str),([99,111,100,101]:Str),([115,121,109,98,111,108]:Str),([115,99,111,112,101,100]:Str),([105,110,116,51,50]:Str),([116,105,109,101,115,116,97,109,112]:Str),([105,110,116,54,52]:Str),([100,101,99,105,109,97,108]:Str)] ((k).toNat) ([]:Str))),cond (decide (k=(127:Int)))
  (some [(.s ([109,97,120,107,101,121]:Str))])
  (cond (decide (k=(255:Int)))
  (some [(.s ([109,105,110,107,101,121]:Str))])
  (ck (!(!(decide (k<(0:Int)))) || (!(decide (k<(0:Int))))) (ck ((decide (k<(0:Int))) || (!(decide (k<(0:Int))))) (cond v1
  (some [(.s ([]:Str))])
  (ck (idxOK k 20) (ck (decide ((k).toNat<20)) (some [(.s v2)])))))))=ρ):tree_Name.F k=ρ:=Eq.trans (by kernel_rfl) (K _ rfl _ rfl)
theorem tree_Name.chk:((Go.Proofs.Tryd.prog.funcs[52]?).any fun fn=>chkF Go.Proofs.Tryd.prog (fun k=>((envL trydbGl tree_Name.env).fs k).2) fn tree_Name.d.erase)=true:=by kernel_rfl
end
noncomputable section
def tree_fields.env:List (Nat × (Ctr × FSig)):=[]
def tree_fields.E:TEnv:=envL trydbGl tree_fields.env
def tree_fields.m1:TM := .cond (.s 64) [(1,.ptr 1115 0),(1115,.cl [])] (.reg [
  ⟨.k (.fa 1115 0 8),[.s 1],[67],none⟩,
  ⟨.k (.st 1115 8 1),[.s 67,.s 1115,.c (.sl .fl ([]:List Fld))],[1115],none⟩]) (.seq (.reg [
  ⟨.k (.bin .eql),[.s 5,.c (.i .i64 (15:Int))],[69],none⟩,
  ⟨.k .mv,[.s 69],[68],none⟩]) none (.cond (.s 68) [(1,.ptr 1115 0),(1115,.cl [])] (.reg [
  ⟨.k (.fa 1115 0 4),[.s 1],[70],none⟩,
  ⟨.k (.st 1115 4 1),[.s 70,.s 1115,.c (.s ([]:Str))],[1115],none⟩,
  ⟨.k (.fa 1115 0 8),[.s 1],[71],none⟩,
  ⟨.k (.st 1115 8 1),[.s 71,.s 1115,.c (.sl .fl ([]:List Fld))],[1115],none⟩]) .skip))
def tree_fields.m2:TM := .cond (.s 28) [(1,.ptr 1115 0),(1115,.cl [])] (.reg [
  ⟨.k (.fa 1115 0 4),[.s 1],[32],none⟩,
  ⟨.k (.st 1115 4 1),[.s 32,.s 1115,.c (.s ([]:Str))],[1115],none⟩]) (.seq (.reg [
  ⟨.k (.bin .eql),[.s 5,.c (.i .i64 (11:Int))],[34],none⟩,
  ⟨.k .mv,[.s 34],[33],none⟩]) none (.cond (.s 33) [(1,.ptr 1115 0),(1115,.cl [])] (.reg [
  ⟨.k (.fa 1115 0 4),[.s 1],[35],none⟩,
  ⟨.k (.st 1115 4 1),[.s 35,.s 1115,.c (.s ([]:Str))],[1115],none⟩,
  ⟨.k (.fa 1115 0 5),[.s 1],[36],none⟩,
  ⟨.k (.st 1115 5 1),[.s 36,.s 1115,.c (.s ([]:Str))],[1115],none⟩]) (.seq (.reg [
  ⟨.k (.bin .eql),[.s 5,.c (.i .i64 (5:Int))],[38],none⟩,
  ⟨.k .mv,[.s 38],[37],none⟩]) none (.cond (.s 37) [(1,.ptr 1115 0),(1115,.cl [])] (.reg [
  ⟨.k (.fa 1115 0 6),[.s 1],[39],none⟩,
  ⟨.k (.ld 1115 6 1 false),[.s 39,.s 1115],[40],none⟩,
  ⟨.k (.bin .geq),[.s 40,.c (.i .i64 (0:Int))],[41],none⟩,
  ⟨.k .mv,[.s 41],[42],none⟩,
  ⟨.k (.fa 1115 0 6),[.s 1],[43],some (42,true)⟩,
  ⟨.k (.ld 1115 6 1 false),[.s 43,.s 1115],[44],some (42,true)⟩,
  ⟨.k (.bin .leq),[.s 44,.c (.i .i64 (255:Int))],[45],some (42,true)⟩,
  ⟨.k .pick,[.s 42,.s 45,.c (.b false)],[46],none⟩,
  ⟨.k .mv,[.s 46],[3],none⟩,
  ⟨.k (.fa 1115 0 6),[.s 1],[47],none⟩,
  ⟨.k (.st 1115 6 1),[.s 47,.s 1115,.c (.i .i64 (0:Int))],[1115],none⟩,
  ⟨.k (.fa 1115 0 7),[.s 1],[48],none⟩,
  ⟨.k (.st 1115 7 1),[.s 48,.s 1115,.c (.sl .bs ([]:List UInt8))],[1115],none⟩]) (.seq (.reg [
  ⟨.k (.bin .eql),[.s 5,.c (.i .i64 (7:Int))],[50],none⟩,
  ⟨.k .mv,[.s 50],[49],none⟩]) none (.cond (.s 49) [(1,.ptr 1115 0),(1115,.cl [])] (.reg [
  ⟨.k (.fa 1115 0 7),[.s 1],[51],none⟩,
  ⟨.k (.ld 1115 7 1 false),[.s 51,.s 1115],[52],none⟩,
  ⟨.k .len,[.s 52],[53],none⟩,
  ⟨.k (.bin .eql),[.s 53,.c (.i .i64 (12:Int))],[54],none⟩,
  ⟨.k .mv,[.s 54],[3],none⟩,
  ⟨.k (.fa 1115 0 7),[.s 1],[55],none⟩,
  ⟨.k (.st 1115 7 1),[.s 55,.s 1115,.c (.sl .bs ([]:List UInt8))],[1115],none⟩]) (.seq (.reg [
  ⟨.k (.bin .eql),[.s 5,.c (.i .i64 (12:Int))],[57],none⟩,
  ⟨.k .mv,[.s 57],[56],none⟩]) none (.cond (.s 56) [(1,.ptr 1115 0),(1115,.cl [])] (.reg [
  ⟨.k (.fa 1115 0 7),[.s 1],[58],none⟩,
  ⟨.k (.ld 1115 7 1 false),[.s 58,.s 1115],[59],none⟩,
  ⟨.k .len,[.s 59],[60],none⟩,
  ⟨.k (.bin .eql),[.s 60,.c (.i .i64 (12:Int))],[61],none⟩,
  ⟨.k .mv,[.s 61],[3],none⟩,
  ⟨.k (.fa 1115 0 4),[.s 1],[62],none⟩,
  ⟨.k (.st 1115 4 1),[.s 62,.s 1115,.c (.s ([]:Str))],[1115],none⟩,
  ⟨.k (.fa 1115 0 7),[.s 1],[63],none⟩,
  ⟨.k (.st 1115 7 1),[.s 63,.s 1115,.c (.sl .bs ([]:List UInt8))],[1115],none⟩]) (.seq (.seq (.reg [
  ⟨.k (.bin .eql),[.s 5,.c (.i .i64 (3:Int))],[65],none⟩,
  ⟨.k .mv,[.s 65],[64],none⟩]) none (.cond (.s 64) [(1,.ptr 1115 0),(1115,.cl [])] .skip (.reg [
  ⟨.k (.bin .eql),[.s 5,.c (.i .i64 (4:Int))],[66],none⟩,
  ⟨.k .mv,[.s 66],[64],none⟩]))) (some [1,3,5,64,1115]) tree_fields.m1)))))))))
def tree_fields.m3:TM := .cond (.s 6) [(1,.ptr 1115 0),(1115,.cl [])] (.reg [
  ⟨.k (.fa 1115 0 1),[.s 1],[11],none⟩,
  ⟨.k (.st 1115 1 1),[.s 11,.s 1115,.c (.u64 (0:UInt64))],[1115],none⟩]) (.seq (.reg [
  ⟨.k (.bin .eql),[.s 5,.c (.i .i64 (16:Int))],[13],none⟩,
  ⟨.k .mv,[.s 13],[12],none⟩]) none (.cond (.s 12) [(1,.ptr 1115 0),(1115,.cl [])] (.reg [
  ⟨.k (.fa 1115 0 1),[.s 1],[14],none⟩,
  ⟨.k (.ld 1115 1 1 false),[.s 14,.s 1115],[15],none⟩,
  ⟨.k (.bin .lss),[.s 15,.c (.u64 (4294967296:UInt64))],[16],none⟩,
  ⟨.k .mv,[.s 16],[3],none⟩,
  ⟨.k (.fa 1115 0 1),[.s 1],[17],none⟩,
  ⟨.k (.st 1115 1 1),[.s 17,.s 1115,.c (.u64 (0:UInt64))],[1115],none⟩]) (.seq (.reg [
  ⟨.k (.bin .eql),[.s 5,.c (.i .i64 (8:Int))],[19],none⟩,
  ⟨.k .mv,[.s 19],[18],none⟩]) none (.cond (.s 18) [(1,.ptr 1115 0),(1115,.cl [])] (.reg [
  ⟨.k (.fa 1115 0 1),[.s 1],[20],none⟩,
  ⟨.k (.ld 1115 1 1 false),[.s 20,.s 1115],[21],none⟩,
  ⟨.k (.bin .lss),[.s 21,.c (.u64 (2:UInt64))],[22],none⟩,
  ⟨.k .mv,[.s 22],[3],none⟩,
  ⟨.k (.fa 1115 0 1),[.s 1],[23],none⟩,
  ⟨.k (.st 1115 1 1),[.s 23,.s 1115,.c (.u64 (0:UInt64))],[1115],none⟩]) (.seq (.reg [
  ⟨.k (.bin .eql),[.s 5,.c (.i .i64 (19:Int))],[25],none⟩,
  ⟨.k .mv,[.s 25],[24],none⟩]) none (.cond (.s 24) [(1,.ptr 1115 0),(1115,.cl [])] (.reg [
  ⟨.k (.fa 1115 0 2),[.s 1],[26],none⟩,
  ⟨.k (.st 1115 2 1),[.s 26,.s 1115,.c (.u64 (0:UInt64))],[1115],none⟩,
  ⟨.k (.fa 1115 0 3),[.s 1],[27],none⟩,
  ⟨.k (.st 1115 3 1),[.s 27,.s 1115,.c (.u64 (0:UInt64))],[1115],none⟩]) (.seq (.seq (.reg [
  ⟨.k (.bin .eql),[.s 5,.c (.i .i64 (2:Int))],[29],none⟩,
  ⟨.k .mv,[.s 29],[28],none⟩]) none (.cond (.s 28) [(1,.ptr 1115 0),(1115,.cl [])] .skip (.seq (.reg [
  ⟨.k (.bin .eql),[.s 5,.c (.i .i64 (13:Int))],[30],none⟩,
  ⟨.k .mv,[.s 30],[28],none⟩]) none (.cond (.s 28) [(1,.ptr 1115 0),(1115,.cl [])] .skip (.reg [
  ⟨.k (.bin .eql),[.s 5,.c (.i .i64 (14:Int))],[31],none⟩,
  ⟨.k .mv,[.s 31],[28],none⟩]))))) (some [1,3,5,28,1115]) tree_fields.m2)))))))
def tree_fields.m4:TM := .seq (.reg [
  ⟨.k .mv,[.s 3],[72],none⟩,
  ⟨.k .mv,[.s 72],[73],none⟩,
  ⟨.k (.fa 1115 0 1),[.s 1],[74],some (73,true)⟩,
  ⟨.k (.ld 1115 1 1 false),[.s 74,.s 1115],[75],some (73,true)⟩,
  ⟨.k (.bin .eql),[.s 75,.c (.u64 (0:UInt64))],[76],some (73,true)⟩,
  ⟨.k .pick,[.s 73,.s 76,.c (.b false)],[77],none⟩,
  ⟨.k .mv,[.s 77],[78],none⟩,
  ⟨.k (.fa 1115 0 2),[.s 1],[79],some (78,true)⟩,
  ⟨.k (.ld 1115 2 1 false),[.s 79,.s 1115],[80],some (78,true)⟩,
  ⟨.k (.bin .eql),[.s 80,.c (.u64 (0:UInt64))],[81],some (78,true)⟩,
  ⟨.k .pick,[.s 78,.s 81,.c (.b false)],[82],none⟩,
  ⟨.k .mv,[.s 82],[83],none⟩,
  ⟨.k (.fa 1115 0 3),[.s 1],[84],some (83,true)⟩,
  ⟨.k (.ld 1115 3 1 false),[.s 84,.s 1115],[85],some (83,true)⟩,
  ⟨.k (.bin .eql),[.s 85,.c (.u64 (0:UInt64))],[86],some (83,true)⟩,
  ⟨.k .pick,[.s 83,.s 86,.c (.b false)],[87],none⟩,
  ⟨.k .mv,[.s 87],[88],none⟩,
  ⟨.k (.fa 1115 0 4),[.s 1],[89],some (88,true)⟩,
  ⟨.k (.ld 1115 4 1 false),[.s 89,.s 1115],[90],some (88,true)⟩,
  ⟨.k (.bin .eql),[.s 90,.c (.s ([]:Str))],[91],some (88,true)⟩,
  ⟨.k .pick,[.s 88,.s 91,.c (.b false)],[92],none⟩,
  ⟨.k .mv,[.s 92],[93],none⟩,
  ⟨.k (.fa 1115 0 5),[.s 1],[94],some (93,true)⟩,
  ⟨.k (.ld 1115 5 1 false),[.s 94,.s 1115],[95],some (93,true)⟩,
  ⟨.k (.bin .eql),[.s 95,.c (.s ([]:Str))],[96],some (93,true)⟩,
  ⟨.k .pick,[.s 93,.s 96,.c (.b false)],[97],none⟩,
  ⟨.k .mv,[.s 97],[98],none⟩,
  ⟨.k (.fa 1115 0 6),[.s 1],[99],some (98,true)⟩,
  ⟨.k (.ld 1115 6 1 false),[.s 99,.s 1115],[100],some (98,true)⟩,
  ⟨.k (.bin .eql),[.s 100,.c (.i .i64 (0:Int))],[101],some (98,true)⟩,
  ⟨.k .pick,[.s 98,.s 101,.c (.b false)],[102],none⟩,
  ⟨.k .mv,[.s 102],[103],none⟩,
  ⟨.k (.fa 1115 0 7),[.s 1],[104],some (103,true)⟩,
  ⟨.k (.ld 1115 7 1 false),[.s 104,.s 1115],[105],some (103,true)⟩,
  ⟨.k .len,[.s 105],[106],some (103,true)⟩,
  ⟨.k (.bin .eql),[.s 106,.c (.i .i64 (0:Int))],[107],some (103,true)⟩,
  ⟨.k .pick,[.s 103,.s 107,.c (.b false)],[108],none⟩,
  ⟨.k .mv,[.s 108],[109],none⟩,
  ⟨.k (.fa 1115 0 8),[.s 1],[110],some (109,true)⟩,
  ⟨.k (.ld 1115 8 1 false),[.s 110,.s 1115],[111],some (109,true)⟩,
  ⟨.k .len,[.s 111],[112],some (109,true)⟩,
  ⟨.k (.bin .eql),[.s 112,.c (.i .i64 (0:Int))],[113],some (109,true)⟩,
  ⟨.k .pick,[.s 109,.s 113,.c (.b false)],[114],none⟩,
  ⟨.k .mv,[.s 114],[2],none⟩]) none .ret
def tree_fields.m:TM := .seq (.reg [
  ⟨.k (.bx 1115),[.s 0,.s 1115],[1,1115],none⟩,
  ⟨.k .mv,[.c (.b false)],[2],none⟩]) none (.seq (.reg [
  ⟨.k .mv,[.c (.b true)],[3],none⟩]) none (.seq (.seq (.reg [
  ⟨.k (.fa 1115 0 0),[.s 1],[4],none⟩,
  ⟨.k (.ld 1115 0 1 false),[.s 4,.s 1115],[5],none⟩]) none (.block 0 [(1,.ptr 1115 0),(1115,.cl [])] (.seq (.seq (.reg [
  ⟨.k (.bin .eql),[.s 5,.c (.i .i64 (1:Int))],[7],none⟩,
  ⟨.k .mv,[.s 7],[6],none⟩]) none (.cond (.s 6) [(1,.ptr 1115 0),(1115,.cl [])] .skip (.seq (.reg [
  ⟨.k (.bin .eql),[.s 5,.c (.i .i64 (9:Int))],[8],none⟩,
  ⟨.k .mv,[.s 8],[6],none⟩]) none (.cond (.s 6) [(1,.ptr 1115 0),(1115,.cl [])] .skip (.seq (.reg [
  ⟨.k (.bin .eql),[.s 5,.c (.i .i64 (17:Int))],[9],none⟩,
  ⟨.k .mv,[.s 9],[6],none⟩]) none (.cond (.s 6) [(1,.ptr 1115 0),(1115,.cl [])] .skip (.reg [
  ⟨.k (.bin .eql),[.s 5,.c (.i .i64 (18:Int))],[10],none⟩,
  ⟨.k .mv,[.s 10],[6],none⟩]))))))) (some [1,3,5,6,1115]) tree_fields.m3))) (some [1,3,1115]) tree_fields.m4))
def tree_fields.d:TFD:={ np:=1,m:=tree_fields.m,ref:=none,tips:=[],res:=[.t 2],own:=[],new:=none,tnew:=[] }
noncomputable def tree_fields.F (v:Val):Option (List TV):=tree_fields.d.run tree_fields.E [(.ag (Val.cells v))]
noncomputable def tree_fields.k1:Cont (List TV):=seqK (evO _ tree_fields.E tree_fields.m4) (some [1,3,1115]) (endK tree_fields.d)
noncomputable def tree_fields.j1 (x0:Bool) (x1:Int) (x2:Bool) (x3:Val):Option (List TV):=evO _ tree_fields.E tree_fields.m3 (headT [1,3,5,6,1115] [.pt,(.b x0),(.i .i64 x1),(.b x2),(.ag (Val.cells x3))]) (blockK 0 tree_fields.k1)
noncomputable def tree_fields.j2 (x0:Bool) (x1:Val):Option (List TV):=evO _ tree_fields.E tree_fields.m4 (headT [1,3,1115] [.pt,(.b x0),(.ag (Val.cells x1))]) (endK tree_fields.d)
noncomputable def tree_fields.j3 (x0:Bool) (x1:Int) (x2:Bool) (x3:Val):Option (List TV):=evO _ tree_fields.E tree_fields.m2 (headT [1,3,5,28,1115] [.pt,(.b x0),(.i .i64 x1),(.b x2),(.ag (Val.cells x3))]) (blockK 0 tree_fields.k1)
noncomputable def tree_fields.j4 (x0:Bool) (x1:Int) (x2:Bool) (x3:Val):Option (List TV):=evO _ tree_fields.E tree_fields.m1 (headT [1,3,5,64,1115] [.pt,(.b x0),(.i .i64 x1),(.b x2),(.ag (Val.cells x3))]) (blockK 0 tree_fields.k1)
theorem tree_fields.j1_eq (x0:Bool) (x1:Int) (x2:Bool) (x3:Val):tree_fields.j1 x0 x1 x2 x3=cond x2
  (tree_fields.j2 x0 (Val.mk (Val.kind x3) (0:UInt64) (Val.high x3) (Val.low x3) (Val.text x3) (Val.more x3) (Val.sub x3) (Val.bytes x3) (Val.kids x3)))
  (cond (decide (x1=(16:Int)))
  (tree_fields.j2 (decide ((Val.bits x3)<(4294967296:UInt64))) (Val.mk (Val.kind x3) (0:UInt64) (Val.high x3) (Val.low x3) (Val.text x3) (Val.more x3) (Val.sub x3) (Val.bytes x3) (Val.kids x3)))
  (cond (decide (x1=(8:Int)))
  (tree_fields.j2 (decide ((Val.bits x3)<(2:UInt64))) (Val.mk (Val.kind x3) (0:UInt64) (Val.high x3) (Val.low x3) (Val.text x3) (Val.more x3) (Val.sub x3) (Val.bytes x3) (Val.kids x3)))
  (cond (decide (x1=(19:Int)))
  (tree_fields.j2 x0 (Val.mk (Val.kind x3) (Val.bits x3) (0:UInt64) (0:UInt64) (Val.text x3) (Val.more x3) (Val.sub x3) (Val.bytes x3) (Val.kids x3)))
  (cond (decide (x1=(2:Int)))
  (tree_fields.j3 x0 x1 (decide (x1=(2:Int))) x3)
  (cond (decide (x1=(13:Int)))
  (tree_fields.j3 x0 x1 (decide (x1=(13:Int))) x3)
  (tree_fields.j3 x0 x1 (decide (x1=(14:Int))) x3)))))):=((congrFun (congrFun (ev_eq _ _) _) _).trans (by kernel_rfl))
theorem tree_fields.j2_in (x0:Bool) (x1:Val) {ρ:Option (List TV)} (K:∀(v1:Bool) (h1:v1=(cond x0 (decide ((Val.bits x1)=(0:UInt64))) false)) (v2:Bool) (h2:v2=(cond v1 (decide ((Val.high x1)=(0:UInt64))) false)) (v3:Bool) (h3:v3=(cond v2 (decide ((Val.low x1)=(0:UInt64))) false)) (v4:Bool) (h4:v4=(cond v3 (decide ((Val.text x1)=([]:Str))) false)) (v5:Bool) (h5:v5=(cond v4 (decide ((Val.more x1)=([]:Str))) false)) (v6:Bool) (h6:v6=(cond v5 (decide ((Val.sub x1)=(0:Int))) false)) (v7:Int) (h7:v7=(((Val.bytes x1)).length:Int)) (v8:Bool) (h8:v8=(cond v6 (decide (v7=(0:Int))) false)) (v9:Int) (h9:v9=(((Val.kids x1)).length:Int)) (v10:Bool) (h10:v10=(cond v8 (decide (v9=(0:Int))) false)),ck (!x0 || x0) (ck (!x0 || x0) (ck (!x0 || x0) (ck (!v1 || v1) (ck (!v1 || v1) (ck (!v1 || v1) (ck (!v2 || v2) (ck (!v2 || v2) (ck (!v2 || v2) (ck (!v3 || v3) (ck (!v3 || v3) (ck (!v3 || v3) (ck (!v4 || v4) (ck (!v4 || v4) (ck (!v4 || v4) (ck (!v5 || v5) (ck (!v5 || v5) (ck (!v5 || v5) (ck (!v6 || v6) (ck (!v6 || v6) (ck (!v6 || v6) (ck (!v6 || v6) (ck (!v8 || v8) (ck (!v8 || v8) (ck (!v8 || v8) (ck (!v8 || v8) (some [(.b v10)]))))))))))))))))))))))))))=ρ):tree_fields.j2 x0 x1=ρ:=((congrFun (congrFun (ev_eq _ _) _) _).trans (by kernel_rfl)).trans (K _ rfl _ rfl _ rfl _ rfl _ rfl _ rfl _ rfl _ rfl _ rfl _ rfl)
theorem tree_fields.j3_in (x0:Bool) (x1:Int) (x2:Bool) (x3:Val) {ρ:Option (List TV)} (K:∀(v1:Bool) (h1:v1=(cond (decide ((0:Int)≤(Val.sub x3))) (decide ((Val.sub x3)≤(255:Int))) false)) (v2:Int) (h2:v2=(((Val.bytes x3)).length:Int)),cond x2
  (tree_fields.j2 x0 (Val.mk (Val.kind x3) (Val.bits x3) (Val.high x3) (Val.low x3) ([]:Str) (Val.more x3) (Val.sub x3) (Val.bytes x3) (Val.kids x3)))
  (cond (decide (x1=(11:Int)))
  (tree_fields.j2 x0 (Val.mk (Val.kind x3) (Val.bits x3) (Val.high x3) (Val.low x3) ([]:Str) ([]:Str) (Val.sub x3) (Val.bytes x3) (Val.kids x3)))
  (cond (decide (x1=(5:Int)))
  (ck (!(decide ((0:Int)≤(Val.sub x3))) || (decide ((0:Int)≤(Val.sub x3)))) (ck (!(decide ((0:Int)≤(Val.sub x3))) || (decide ((0:Int)≤(Val.sub x3)))) (ck (!(decide ((0:Int)≤(Val.sub x3))) || (decide ((0:Int)≤(Val.sub x3)))) (tree_fields.j2 v1 (Val.mk (Val.kind x3) (Val.bits x3) (Val.high x3) (Val.low x3) (Val.text x3) (Val.more x3) (0:Int) ([]:List UInt8) (Val.kids x3))))))
  (cond (decide (x1=(7:Int)))
  (tree_fields.j2 (decide (v2=(12:Int))) (Val.mk (Val.kind x3) (Val.bits x3) (Val.high x3) (Val.low x3) (Val.text x3) (Val.more x3) (Val.sub x3) ([]:List UInt8) (Val.kids x3)))
  (cond (decide (x1=(12:Int)))
  (tree_fields.j2 (decide (v2=(12:Int))) (Val.mk (Val.kind x3) (Val.bits x3) (Val.high x3) (Val.low x3) ([]:Str) (Val.more x3) (Val.sub x3) ([]:List UInt8) (Val.kids x3)))
  (cond (decide (x1=(3:Int)))
  (tree_fields.j4 x0 x1 (decide (x1=(3:Int))) x3)
  (tree_fields.j4 x0 x1 (decide (x1=(4:Int))) x3))))))=ρ):tree_fields.j3 x0 x1 x2 x3=ρ:=((congrFun (congrFun (ev_eq _ _) _) _).trans (by kernel_rfl)).trans (K _ rfl _ rfl)
theorem tree_fields.j4_eq (x0:Bool) (x1:Int) (x2:Bool) (x3:Val):tree_fields.j4 x0 x1 x2 x3=cond x2
  (tree_fields.j2 x0 (Val.mk (Val.kind x3) (Val.bits x3) (Val.high x3) (Val.low x3) (Val.text x3) (Val.more x3) (Val.sub x3) (Val.bytes x3) ([]:List Fld)))
  (cond (decide (x1=(15:Int)))
  (tree_fields.j2 x0 (Val.mk (Val.kind x3) (Val.bits x3) (Val.high x3) (Val.low x3) ([]:Str) (Val.more x3) (Val.sub x3) (Val.bytes x3) ([]:List Fld)))
  (tree_fields.j2 x0 x3)):=((congrFun (congrFun (ev_eq _ _) _) _).trans (by kernel_rfl))
theorem tree_fields.F_eq (v:Val):tree_fields.F v=cond (decide ((Val.kind v)=(1:Int)))
  (tree_fields.j1 true (Val.kind v) (decide ((Val.kind v)=(1:Int))) v)
  (cond (decide ((Val.kind v)=(9:Int)))
  (tree_fields.j1 true (Val.kind v) (decide ((Val.kind v)=(9:Int))) v)
  (cond (decide ((Val.kind v)=(17:Int)))
  (tree_fields.j1 true (Val.kind v) (decide ((Val.kind v)=(17:Int))) v)
  (tree_fields.j1 true (Val.kind v) (decide ((Val.kind v)=(18:Int))) v))):=by kernel_rfl
theorem tree_fields.chk:((Go.Proofs.Tryd.prog.funcs[53]?).any fun fn=>chkF Go.Proofs.Tryd.prog (fun k=>((envL trydbGl tree_fields.env).fs k).2) fn tree_fields.d.erase)=true:=by kernel_rfl
end
noncomputable section
def tree_whole.env:List (Nat × (Ctr × FSig)):=[(41,(utf_Check.c,utf_Check.sg)),(43,(st_Contains.c,st_Contains.sg))]
def tree_whole.E:TEnv:=envL trydbGl tree_whole.env
def tree_whole.m:TM := .seq (.reg [
  ⟨.k .mv,[.c (.b false)],[4],none⟩]) none (.seq (.reg [
  ⟨.k .mv,[.s 0],[8],none⟩,
  ⟨.k .sb,[.s 8],[9],none⟩,
  ⟨.k (.call 41 (.plain 1 2)),[.s 9],[10],none⟩,
  ⟨.k .mv,[.s 10],[7],none⟩,
  ⟨.k (.ex 0),[.s 7],[11],none⟩,
  ⟨.k (.ex 1),[.s 7],[12],none⟩,
  ⟨.k .mv,[.s 11],[5],none⟩,
  ⟨.k .mv,[.s 12],[6],none⟩]) none (.seq (.reg [
  ⟨.k .mv,[.s 6],[13],none⟩,
  ⟨.k .mv,[.s 13],[14],none⟩,
  ⟨.k .mv,[.s 1],[15],some (14,true)⟩,
  ⟨.k .mv,[.s 15],[16],some (14,true)⟩,
  ⟨.k .mv,[.s 0],[17],some (16,true)⟩,
  ⟨.k (.call 43 (.plain 2 1)),[.s 17,.c (.s ([0]:Str))],[18],some (16,true)⟩,
  ⟨.k .pick,[.s 16,.s 18,.c (.b false)],[19],some (14,true)⟩,
  ⟨.k (.un .not),[.s 19],[20],some (14,true)⟩,
  ⟨.k .pick,[.s 14,.s 20,.c (.b false)],[21],none⟩,
  ⟨.k .mv,[.s 21],[4],none⟩]) none .ret))
def tree_whole.d:TFD:={ np:=2,m:=tree_whole.m,ref:=none,tips:=[],res:=[.t 4],own:=[],new:=none,tnew:=[] }
noncomputable def tree_whole.F (s:Str) (plain:Bool):Option (List TV):=tree_whole.d.run tree_whole.E [(.s s),(.b plain)]
theorem tree_whole.F_in (s:Str) (plain:Bool) {ρ:Option (List TV)} (K:∀(v1:Bool) (h1:v1=(cond plain (decide (0≤Lib.indexByte s ((([0]:Str)).getD 0 0))) false)) (v2:Bool) (h2:v2=(cond (Utf.whole s) (!v1) false)),ck (lenOK (s).length) (ck (decide (s.length≤1099511627776)) (ck (!(Utf.whole s) || (Utf.whole s)) (ck (!((Utf.whole s)&&plain) || (((Utf.whole s)&&plain)&&(decide ((([0]:Str)).length=1)))) (ck (!(Utf.whole s) || ((Utf.whole s)&&(!plain || ((Utf.whole s)&&plain)))) (ck (!(Utf.whole s) || (Utf.whole s)) (ck (!(Utf.whole s) || (Utf.whole s)) (some [(.b v2)])))))))=ρ):tree_whole.F s plain=ρ:=Eq.trans (by kernel_rfl) (K _ rfl _ rfl)
theorem tree_whole.chk:((Go.Proofs.Tryd.prog.funcs[54]?).any fun fn=>chkF Go.Proofs.Tryd.prog (fun k=>((envL trydbGl tree_whole.env).fs k).2) fn tree_whole.d.erase)=true:=by kernel_rfl
end
noncomputable section
def tree_check.env (n:Nat):List (Nat × (Ctr × FSig)):=[(35,(tree_check.cn n,tree_check.sg)),(42,(clone_is.c,clone_is.sg)),(52,(tree_Name.c,tree_Name.sg)),(53,(tree_fields.c,tree_fields.sg)),(54,(tree_whole.c,tree_whole.sg))]
def tree_check.E (n:Nat):TEnv:=envL trydbGl (tree_check.env n)
def tree_check.m1:TM := .seq (.reg [
  ⟨.k (.bin .lss),[.s 52,.s 51],[53],none⟩]) none (.seq (.cond (.s 53) [] .skip (.exit 1)) none (.seq (.block 2 [(2,.tip 999999 1),(lk 999999,.pv 1)] (.seq (.reg [
  ⟨.k .mv,[.s 52],[54],none⟩,
  ⟨.k (.ix 10),[.s 50,.s 52],[55],none⟩,
  ⟨.k (.lr 10 true),[.s 55],[56],none⟩,
  ⟨.al 1075 [(.s ([]:Str)),(.i .i64 (0:Int)),(.u64 (0:UInt64)),(.u64 (0:UInt64)),(.u64 (0:UInt64)),(.s ([]:Str)),(.s ([]:Str)),(.i .i64 (0:Int)),(.sl .bs ([]:List UInt8)),(.sl .fl ([]:List Fld))] [],[.s 1075],[10,1075],none⟩,
  ⟨.k .mv,[.s 54],[9],none⟩,
  ⟨.k (.st 1075 0 10),[.s 10,.s 1075,.s 56],[1075],none⟩]) none (.seq (.reg [
  ⟨.k (.fa 1075 0 1),[.s 10],[58],none⟩,
  ⟨.k (.ld 1075 1 9 true),[.s 58,.s 1075],[59],none⟩,
  ⟨.k (.fa 1075 0 0),[.s 10],[60],none⟩,
  ⟨.k (.ld 1075 0 1 false),[.s 60,.s 1075],[61],none⟩,
  ⟨.k .mv,[.s 2],[62],none⟩,
  ⟨.k .mv,[.s 9],[63],none⟩,
  ⟨.bl .is 1,[.s 63],[64],none⟩,
  ⟨.k (.ppa 999999 104 1 8),[.s 62,.s 64,.s (lk 999999),.s (lk 104)],[65,lk 999999,lk 104],none⟩,
  ⟨.k (.pcall 35 3 2 2 104 1),[.s 59,.s 61,.s 65,.s (lk 104)],[66],none⟩,
  ⟨.k .mv,[.s 66],[57],none⟩,
  ⟨.k (.ex 0),[.s 57],[67],none⟩,
  ⟨.k (.ex 1),[.s 57],[68],none⟩,
  ⟨.k .mv,[.s 67],[11],none⟩,
  ⟨.k .mv,[.s 68],[12],none⟩]) none (.seq (.reg [
  ⟨.k .mv,[.s 12],[69],none⟩,
  ⟨.k (.bin .neq),[.s 69,.c (.i .i64 (0:Int))],[70],none⟩]) none (.cond (.s 70) [] (.seq (.reg [
  ⟨.k .mv,[.s 11],[71],none⟩,
  ⟨.k .mv,[.s 12],[72],none⟩,
  ⟨.k .mv,[.s 71],[6],none⟩,
  ⟨.k .mv,[.s 72],[7],none⟩]) none .ret) .skip))))) none (.reg [
  ⟨.k (.bin .add),[.s 52,.c (.i .i64 (1:Int))],[73],none⟩,
  ⟨.k .mv,[.s 73],[52],none⟩])))
def tree_check.m:TM := .seq (.reg [
  ⟨.k (.bx 1074),[.s 0,.s 1074],[3,1074],none⟩,
  ⟨.k .mv,[.c (.sl .is ([]:List Int))],[6],none⟩,
  ⟨.k .mv,[.c (.i .i64 (0:Int))],[7],none⟩]) none (.seq (.reg [
  ⟨.k (.fa 1074 0 0),[.s 3],[13],none⟩,
  ⟨.k (.ld 1074 0 1 false),[.s 13,.s 1074],[14],none⟩,
  ⟨.k (.bin .eql),[.s 14,.c (.i .i64 (11:Int))],[15],none⟩,
  ⟨.k .mv,[.s 15],[8],none⟩]) none (.seq (.block 0 [(2,.tip 999999 1),(3,.ptr 1074 0),(1074,.cl []),(lk 999999,.pv 1)] (.seq (.reg [
  ⟨.k (.fa 1074 0 0),[.s 3],[17],none⟩,
  ⟨.k (.ld 1074 0 1 false),[.s 17,.s 1074],[18],none⟩,
  ⟨.k (.call 52 (.plain 1 1)),[.s 18],[19],none⟩,
  ⟨.k (.bin .eql),[.s 19,.c (.s ([]:Str))],[20],none⟩,
  ⟨.k .mv,[.s 20],[16],none⟩]) none (.cond (.s 16) [] (.seq (.reg [
  ⟨.k .mv,[.s 2],[21],none⟩,
  ⟨.k (.pcall 42 1 1 0 999999 1),[.s 21,.s (lk 999999)],[22],none⟩,
  ⟨.k .mv,[.s 22],[6],none⟩,
  ⟨.k .mv,[.c (.i .i64 (5:Int))],[7],none⟩]) none .ret) (.seq (.reg [
  ⟨.k (.ld 1074 0 9 true),[.s 3,.s 1074],[24],none⟩,
  ⟨.k (.call 53 (.plain 1 1)),[.s 24],[25],none⟩,
  ⟨.k (.un .not),[.s 25],[26],none⟩,
  ⟨.k .mv,[.s 26],[23],none⟩]) none (.cond (.s 23) [] (.seq (.reg [
  ⟨.k .mv,[.s 2],[27],none⟩,
  ⟨.k (.pcall 42 1 1 0 999999 1),[.s 27,.s (lk 999999)],[28],none⟩,
  ⟨.k .mv,[.s 28],[6],none⟩,
  ⟨.k .mv,[.c (.i .i64 (1:Int))],[7],none⟩]) none .ret) (.seq (.reg [
  ⟨.k (.fa 1074 0 4),[.s 3],[30],none⟩,
  ⟨.k (.ld 1074 4 1 false),[.s 30,.s 1074],[31],none⟩,
  ⟨.k .mv,[.s 8],[32],none⟩,
  ⟨.k (.call 54 (.plain 2 1)),[.s 31,.s 32],[33],none⟩,
  ⟨.k (.un .not),[.s 33],[34],none⟩,
  ⟨.k .mv,[.s 34],[35],none⟩,
  ⟨.k (.fa 1074 0 5),[.s 3],[36],some (35,false)⟩,
  ⟨.k (.ld 1074 5 1 false),[.s 36,.s 1074],[37],some (35,false)⟩,
  ⟨.k .mv,[.s 8],[38],some (35,false)⟩,
  ⟨.k (.call 54 (.plain 2 1)),[.s 37,.s 38],[39],some (35,false)⟩,
  ⟨.k (.un .not),[.s 39],[40],some (35,false)⟩,
  ⟨.k .pick,[.s 35,.c (.b true),.s 40],[41],none⟩,
  ⟨.k .mv,[.s 41],[42],none⟩,
  ⟨.k .mv,[.s 1],[43],some (42,false)⟩,
  ⟨.k (.call 54 (.plain 2 1)),[.s 43,.c (.b true)],[44],some (42,false)⟩,
  ⟨.k (.un .not),[.s 44],[45],some (42,false)⟩,
  ⟨.k .pick,[.s 42,.c (.b true),.s 45],[46],none⟩,
  ⟨.k .mv,[.s 46],[29],none⟩]) none (.cond (.s 29) [] (.seq (.reg [
  ⟨.k .mv,[.s 2],[47],none⟩,
  ⟨.k (.pcall 42 1 1 0 999999 1),[.s 47,.s (lk 999999)],[48],none⟩,
  ⟨.k .mv,[.s 48],[6],none⟩,
  ⟨.k .mv,[.c (.i .i64 (4:Int))],[7],none⟩]) none .ret) .skip))))))) none (.seq (.seq (.reg [
  ⟨.k (.fa 1074 0 8),[.s 3],[49],none⟩,
  ⟨.k (.ld 1074 8 1 false),[.s 49,.s 1074],[50],none⟩,
  ⟨.k .len,[.s 50],[51],none⟩,
  ⟨.k .mv,[.c (.i .i64 (0:Int))],[52],none⟩]) none (.block 1 [(lk 999999,.pv 1)] (.loop [2,50,51,52,lk 999999] [(2,.tip 999999 1),(lk 999999,.pv 1)] tree_check.m1))) none (.seq (.reg [
  ⟨.k .mv,[.c (.sl .is ([]:List Int))],[6],none⟩,
  ⟨.k .mv,[.c (.i .i64 (0:Int))],[7],none⟩]) none .ret))))
def tree_check.d:TFD:={ np:=3,m:=tree_check.m,ref:=none,tips:=[],res:=[.t 6,.t 7],own:=[],new:=none,tnew:=[],ps:=some (2,999999,1) }
noncomputable def tree_check.F (n:Nat) (v:Val) (name:Str) (path:List Int):Option (List TV):=tree_check.d.run (tree_check.E n) [(.ag (Val.cells v)),(.s name),(.sl .is path)]
noncomputable def tree_check.k1 (n:Nat):Cont (List TV):=seqK (ev _ (tree_check.E n) (.seq (.reg [
  ⟨.k .mv,[.c (.sl .is ([]:List Int))],[6],none⟩,
  ⟨.k .mv,[.c (.i .i64 (0:Int))],[7],none⟩]) none .ret)) none (endK tree_check.d)
noncomputable def tree_check.l1 (n:Nat) (x0:List Fld) (x1:Int) (x2:Int) (x3:List Int):Option (List TV):=loopL (evO _ (tree_check.E n) tree_check.m1) isN [2,50,51,52,lk 999999] (headT [2,50,51,52,lk 999999] [.pt,(.sl .fl x0),(.i .i64 x1),(.i .i64 x2),(.sl .is x3)]) (blockK 1 (tree_check.k1 n))
theorem tree_check.l1_in (n:Nat) (x0:List Fld) (x1:Int) (x2:Int) (x3:List Int) {ρ:Option (List TV)} (K:∀(v1:Fld) (h1:v1=(List.getD x0 (x2).toNat (STy.dflt .fl))) (v2:List Int) (h2:v2=((Tree.chkF (Fld.of ((Fld.name v1)) (Fld.val v1)) ((x3++([x2]:List Int)))).1)) (v3:Int) (h3:v3=((Tree.chkF (Fld.of ((Fld.name v1)) (Fld.val v1)) ((x3++([x2]:List Int)))).2)) (v4:Int) (h4:v4=(IntKind.i64.wrap (x2+(1:Int)))),cond (decide (x2<x1))
  (ck (idxOK x2 (x0).length) (ck (apOK ((x3).length+(([x2]:List Int)).length) 8) (ck ((decide (Fld.bulk (Fld.of ((Fld.name v1)) (Fld.val v1))+((x3++([x2]:List Int))).length≤1099511627776))&&decide ((Fld.bulk (Fld.of ((Fld.name v1)) (Fld.val v1)))<n)) (cond (!decide (v3=(0:Int)))
  (some [(.sl .is v2),(.i .i64 v3),(.sl .is x3)])
  (tree_check.l1 n x0 x1 v4 x3)))))
  (some [(.sl .is ([]:List Int)),(.i .i64 (0:Int)),(.sl .is x3)])=ρ):tree_check.l1 n x0 x1 x2 x3=ρ:=((ev_loop _ _ _ _ _ _).trans (by kernel_rfl)).trans (K _ rfl _ rfl _ rfl _ rfl)
theorem tree_check.F_in (n:Nat) (v:Val) (name:Str) (path:List Int) {ρ:Option (List TV)} (K:∀(v1:Bool) (h1:v1=(Tree.wholeT ((Val.text v)) ((decide ((Val.kind v)=(11:Int)))))) (v2:Bool) (h2:v2=(Tree.wholeT ((Val.more v)) ((decide ((Val.kind v)=(11:Int)))))) (v3:Bool) (h3:v3=(cond (cond (!v1) true (!v2)) true (!(Tree.wholeT name true)))) (v4:Int) (h4:v4=(((Val.kids v)).length:Int)),cond (decide ((Tree.name ((Val.kind v)))=([]:Str)))
  (ck (apOK (path).length 8) (some [(.sl .is (path)),(.i .i64 (5:Int)),(.sl .is path)]))
  (cond (!(Tree.fieldsOK v))
  (ck (apOK (path).length 8) (some [(.sl .is (path)),(.i .i64 (1:Int)),(.sl .is path)]))
  (ck (decide (((Val.text v)).length≤1099511627776)) (ck (!(!(!v1)) || (!(!v1))) (ck (!(!(!v1)) || (((!(!v1))&&(!(!v1)))&&(decide (((Val.more v)).length≤1099511627776)))) (ck (!(!(!v1)) || (!(!v1))) (ck ((!v1) || (!(!v1))) (ck (!(!(cond (!v1) true (!v2))) || ((!(cond (!v1) true (!v2)))&&(decide (name.length≤1099511627776)))) (ck (!(!(cond (!v1) true (!v2))) || (!(cond (!v1) true (!v2)))) (ck ((cond (!v1) true (!v2)) || (!(cond (!v1) true (!v2)))) (cond v3
  (ck (apOK (path).length 8) (some [(.sl .is (path)),(.i .i64 (4:Int)),(.sl .is path)]))
  (tree_check.l1 n (Val.kids v) v4 (0:Int) path)))))))))))=ρ):tree_check.F n v name path=ρ:=Eq.trans (by kernel_rfl) (K _ rfl _ rfl _ rfl _ rfl)
theorem tree_check.chk (n:Nat):((Go.Proofs.Tryd.prog.funcs[35]?).any fun fn=>chkF Go.Proofs.Tryd.prog (fun k=>((envL trydbGl (tree_check.env n)).fs k).2) fn tree_check.d.erase)=true:=by kernel_rfl
end
noncomputable section
def tree_Check.env:List (Nat × (Ctr × FSig)):=[(35,(tree_check.c,tree_check.sg))]
def tree_Check.E:TEnv:=envL trydbGl tree_Check.env
def tree_Check.m:TM := .seq (.reg [
  ⟨.k (.bx 1008),[.s 0,.s 1008],[1,1008],none⟩,
  ⟨.k .mv,[.c (.sl .is ([]:List Int))],[2],none⟩,
  ⟨.k .mv,[.c (.i .i64 (0:Int))],[3],none⟩]) none (.seq (.reg [
  ⟨.k (.ld 1008 0 9 true),[.s 1,.s 1008],[4],none⟩,
  ⟨.k (.pcaln 35 3 2 2 1),[.s 4,.c (.s ([]:Str)),.c (.sl .is ([]:List Int))],[5],none⟩,
  ⟨.k (.ex 0),[.s 5],[6],none⟩,
  ⟨.k (.ex 1),[.s 5],[7],none⟩,
  ⟨.k .mv,[.s 6],[2],none⟩,
  ⟨.k .mv,[.s 7],[3],none⟩]) none .ret)
def tree_Check.d:TFD:={ np:=1,m:=tree_Check.m,ref:=none,tips:=[],res:=[.t 2,.t 3],own:=[],new:=none,tnew:=[] }
noncomputable def tree_Check.F (v:Val):Option (List TV):=tree_Check.d.run tree_Check.E [(.ag (Val.cells v))]
theorem tree_Check.F_in (v:Val) {ρ:Option (List TV)} (K:∀(v1:List Int) (h1:v1=((Tree.chkF (Fld.of (([]:Str)) v) (([]:List Int))).1)) (v2:Int) (h2:v2=((Tree.chkF (Fld.of (([]:Str)) v) (([]:List Int))).2)),ck (decide (Fld.bulk (Fld.of (([]:Str)) v)+(([]:List Int)).length≤1099511627776)) (some [(.sl .is v1),(.i .i64 v2)])=ρ):tree_Check.F v=ρ:=Eq.trans (by kernel_rfl) (K _ rfl _ rfl)
theorem tree_Check.chk:((Go.Proofs.Tryd.prog.funcs[21]?).any fun fn=>chkF Go.Proofs.Tryd.prog (fun k=>((envL trydbGl tree_Check.env).fs k).2) fn tree_Check.d.erase)=true:=by kernel_rfl
end
noncomputable section
end
noncomputable section
end
noncomputable section
end
noncomputable section
end
noncomputable section
end
noncomputable section
end
noncomputable section
end
noncomputable section
end
noncomputable section
def ref17_Own.env:List (Nat × (Ctr × FSig)):=[]
def ref17_Own.E:TEnv:=envL trydbGl ref17_Own.env
def ref17_Own.m:TM := .seq (.reg [
  ⟨.k (.bx 1061),[.s 0,.s 1061],[2,1061],none⟩,
  ⟨.k (.bx 1062),[.s 1,.s 1062],[3,1062],none⟩,
  ⟨.k .mv,[.c (.b false)],[4],none⟩]) none (.seq (.reg [
  ⟨.k (.fa 1061 0 0),[.s 2],[5],none⟩,
  ⟨.k (.ld 1061 0 1 false),[.s 5,.s 1061],[6],none⟩,
  ⟨.k (.fa 1062 0 0),[.s 3],[7],none⟩,
  ⟨.k (.ld 1062 0 1 false),[.s 7,.s 1062],[8],none⟩,
  ⟨.k (.bin .eql),[.s 6,.s 8],[9],none⟩,
  ⟨.k .mv,[.s 9],[10],none⟩,
  ⟨.k (.fa 1061 0 1),[.s 2],[11],some (10,true)⟩,
  ⟨.k (.ld 1061 1 1 false),[.s 11,.s 1061],[12],some (10,true)⟩,
  ⟨.k (.fa 1062 0 1),[.s 3],[13],some (10,true)⟩,
  ⟨.k (.ld 1062 1 1 false),[.s 13,.s 1062],[14],some (10,true)⟩,
  ⟨.k (.bin .eql),[.s 12,.s 14],[15],some (10,true)⟩,
  ⟨.k .pick,[.s 10,.s 15,.c (.b false)],[16],none⟩,
  ⟨.k .mv,[.s 16],[17],none⟩,
  ⟨.k (.fa 1061 0 2),[.s 2],[18],some (17,true)⟩,
  ⟨.k (.ld 1061 2 1 false),[.s 18,.s 1061],[19],some (17,true)⟩,
  ⟨.k (.fa 1062 0 2),[.s 3],[20],some (17,true)⟩,
  ⟨.k (.ld 1062 2 1 false),[.s 20,.s 1062],[21],some (17,true)⟩,
  ⟨.k (.bin .eql),[.s 19,.s 21],[22],some (17,true)⟩,
  ⟨.k .pick,[.s 17,.s 22,.c (.b false)],[23],none⟩,
  ⟨.k .mv,[.s 23],[24],none⟩,
  ⟨.k (.fa 1061 0 3),[.s 2],[25],some (24,true)⟩,
  ⟨.k (.ld 1061 3 1 false),[.s 25,.s 1061],[26],some (24,true)⟩,
  ⟨.k (.fa 1062 0 3),[.s 3],[27],some (24,true)⟩,
  ⟨.k (.ld 1062 3 1 false),[.s 27,.s 1062],[28],some (24,true)⟩,
  ⟨.k (.bin .eql),[.s 26,.s 28],[29],some (24,true)⟩,
  ⟨.k .pick,[.s 24,.s 29,.c (.b false)],[30],none⟩,
  ⟨.k .mv,[.s 30],[31],none⟩,
  ⟨.k (.fa 1061 0 4),[.s 2],[32],some (31,true)⟩,
  ⟨.k (.ld 1061 4 1 false),[.s 32,.s 1061],[33],some (31,true)⟩,
  ⟨.k (.fa 1062 0 4),[.s 3],[34],some (31,true)⟩,
  ⟨.k (.ld 1062 4 1 false),[.s 34,.s 1062],[35],some (31,true)⟩,
  ⟨.k (.bin .eql),[.s 33,.s 35],[36],some (31,true)⟩,
  ⟨.k .pick,[.s 31,.s 36,.c (.b false)],[37],none⟩,
  ⟨.k .mv,[.s 37],[38],none⟩,
  ⟨.k (.fa 1061 0 5),[.s 2],[39],some (38,true)⟩,
  ⟨.k (.ld 1061 5 1 false),[.s 39,.s 1061],[40],some (38,true)⟩,
  ⟨.k (.fa 1062 0 5),[.s 3],[41],some (38,true)⟩,
  ⟨.k (.ld 1062 5 1 false),[.s 41,.s 1062],[42],some (38,true)⟩,
  ⟨.k (.bin .eql),[.s 40,.s 42],[43],some (38,true)⟩,
  ⟨.k .pick,[.s 38,.s 43,.c (.b false)],[44],none⟩,
  ⟨.k .mv,[.s 44],[45],none⟩,
  ⟨.k (.fa 1061 0 6),[.s 2],[46],some (45,true)⟩,
  ⟨.k (.ld 1061 6 1 false),[.s 46,.s 1061],[47],some (45,true)⟩,
  ⟨.k (.fa 1062 0 6),[.s 3],[48],some (45,true)⟩,
  ⟨.k (.ld 1062 6 1 false),[.s 48,.s 1062],[49],some (45,true)⟩,
  ⟨.k (.bin .eql),[.s 47,.s 49],[50],some (45,true)⟩,
  ⟨.k .pick,[.s 45,.s 50,.c (.b false)],[51],none⟩,
  ⟨.k .mv,[.s 51],[52],none⟩,
  ⟨.k (.fa 1061 0 7),[.s 2],[53],some (52,true)⟩,
  ⟨.k (.ld 1061 7 1 false),[.s 53,.s 1061],[54],some (52,true)⟩,
  ⟨.k .bs,[.s 54],[55],some (52,true)⟩,
  ⟨.k (.fa 1062 0 7),[.s 3],[56],some (52,true)⟩,
  ⟨.k (.ld 1062 7 1 false),[.s 56,.s 1062],[57],some (52,true)⟩,
  ⟨.k .bs,[.s 57],[58],some (52,true)⟩,
  ⟨.k (.bin .eql),[.s 55,.s 58],[59],some (52,true)⟩,
  ⟨.k .pick,[.s 52,.s 59,.c (.b false)],[60],none⟩,
  ⟨.k .mv,[.s 60],[4],none⟩]) none .ret)
def ref17_Own.d:TFD:={ np:=2,m:=ref17_Own.m,ref:=none,tips:=[],res:=[.t 4],own:=[],new:=none,tnew:=[] }
noncomputable def ref17_Own.F (a:Val) (b:Val):Option (List TV):=ref17_Own.d.run ref17_Own.E [(.ag (Val.cells a)),(.ag (Val.cells b))]
theorem ref17_Own.F_in (a:Val) (b:Val) {ρ:Option (List TV)} (K:∀(v1:Bool) (h1:v1=(cond (decide ((Val.kind a)=(Val.kind b))) (decide ((Val.bits a)=(Val.bits b))) false)) (v2:Bool) (h2:v2=(cond v1 (decide ((Val.high a)=(Val.high b))) false)) (v3:Bool) (h3:v3=(cond v2 (decide ((Val.low a)=(Val.low b))) false)) (v4:Bool) (h4:v4=(cond v3 (decide ((Val.text a)=(Val.text b))) false)) (v5:Bool) (h5:v5=(cond v4 (decide ((Val.more a)=(Val.more b))) false)) (v6:Bool) (h6:v6=(cond v5 (decide ((Val.sub a)=(Val.sub b))) false)) (v7:Bool) (h7:v7=(cond v6 (decide ((Val.bytes a)=(Val.bytes b))) false)),ck (!(decide ((Val.kind a)=(Val.kind b))) || (decide ((Val.kind a)=(Val.kind b)))) (ck (!(decide ((Val.kind a)=(Val.kind b))) || (decide ((Val.kind a)=(Val.kind b)))) (ck (!(decide ((Val.kind a)=(Val.kind b))) || ((decide ((Val.kind a)=(Val.kind b)))&&(decide ((Val.kind a)=(Val.kind b))))) (ck (!(decide ((Val.kind a)=(Val.kind b))) || (decide ((Val.kind a)=(Val.kind b)))) (ck (!v1 || v1) (ck (!v1 || v1) (ck (!v1 || (v1&&v1)) (ck (!v1 || v1) (ck (!v2 || v2) (ck (!v2 || v2) (ck (!v2 || (v2&&v2)) (ck (!v2 || v2) (ck (!v3 || v3) (ck (!v3 || v3) (ck (!v3 || (v3&&v3)) (ck (!v3 || v3) (ck (!v4 || v4) (ck (!v4 || v4) (ck (!v4 || (v4&&v4)) (ck (!v4 || v4) (ck (!v5 || v5) (ck (!v5 || v5) (ck (!v5 || (v5&&v5)) (ck (!v5 || v5) (ck (!v6 || v6) (ck (!v6 || v6) (ck (!v6 || v6) (ck (!v6 || v6) (ck (!v6 || (v6&&v6)) (ck (!v6 || v6) (some [(.b v7)]))))))))))))))))))))))))))))))=ρ):ref17_Own.F a b=ρ:=Eq.trans (by kernel_rfl) (K _ rfl _ rfl _ rfl _ rfl _ rfl _ rfl _ rfl)
theorem ref17_Own.chk:((Go.Proofs.Tryd.prog.funcs[31]?).any fun fn=>chkF Go.Proofs.Tryd.prog (fun k=>((envL trydbGl ref17_Own.env).fs k).2) fn ref17_Own.d.erase)=true:=by kernel_rfl
end
noncomputable section
def ref17_Same.env (n:Nat):List (Nat × (Ctr × FSig)):=[(17,(ref17_Same.cn n,ref17_Same.sg)),(31,(ref17_Own.c,ref17_Own.sg))]
def ref17_Same.E (n:Nat):TEnv:=envL trydbGl (ref17_Same.env n)
def ref17_Same.m1:TM := .seq (.seq (.reg [
  ⟨.k .mv,[.s 5],[19],none⟩,
  ⟨.k (.fa 1055 0 8),[.s 2],[20],none⟩,
  ⟨.k (.ld 1055 8 1 false),[.s 20,.s 1055],[21],none⟩,
  ⟨.k .len,[.s 21],[22],none⟩,
  ⟨.k (.bin .lss),[.s 19,.s 22],[23],none⟩]) none (.cond (.s 23) [] .skip (.exit 0))) none (.seq (.block 1 [(2,.ptr 1055 0),(3,.ptr 1056 0),(1055,.cl []),(1056,.cl [])] (.seq (.reg [
  ⟨.k (.fa 1055 0 8),[.s 2],[26],none⟩,
  ⟨.k (.ld 1055 8 1 false),[.s 26,.s 1055],[27],none⟩,
  ⟨.k .mv,[.s 5],[28],none⟩,
  ⟨.k (.ix 10),[.s 27,.s 28],[29],none⟩,
  ⟨.k (.fr 0 1 false),[.s 29],[30],none⟩,
  ⟨.k (.lr 1 false),[.s 30],[31],none⟩,
  ⟨.k (.fa 1056 0 8),[.s 3],[32],none⟩,
  ⟨.k (.ld 1056 8 1 false),[.s 32,.s 1056],[33],none⟩,
  ⟨.k .mv,[.s 5],[34],none⟩,
  ⟨.k (.ix 10),[.s 33,.s 34],[35],none⟩,
  ⟨.k (.fr 0 1 false),[.s 35],[36],none⟩,
  ⟨.k (.lr 1 false),[.s 36],[37],none⟩,
  ⟨.k (.bin .neq),[.s 31,.s 37],[38],none⟩,
  ⟨.k .mv,[.s 38],[39],none⟩,
  ⟨.k (.fa 1055 0 8),[.s 2],[40],some (39,false)⟩,
  ⟨.k (.ld 1055 8 1 false),[.s 40,.s 1055],[41],some (39,false)⟩,
  ⟨.k .mv,[.s 5],[42],some (39,false)⟩,
  ⟨.k (.ix 10),[.s 41,.s 42],[43],some (39,false)⟩,
  ⟨.k (.fr 1 9 true),[.s 43],[44],some (39,false)⟩,
  ⟨.k (.lr 9 true),[.s 44],[45],some (39,false)⟩,
  ⟨.k (.fa 1056 0 8),[.s 3],[46],some (39,false)⟩,
  ⟨.k (.ld 1056 8 1 false),[.s 46,.s 1056],[47],some (39,false)⟩,
  ⟨.k .mv,[.s 5],[48],some (39,false)⟩,
  ⟨.k (.ix 10),[.s 47,.s 48],[49],some (39,false)⟩,
  ⟨.k (.fr 1 9 true),[.s 49],[50],some (39,false)⟩,
  ⟨.k (.lr 9 true),[.s 50],[51],some (39,false)⟩,
  ⟨.k (.call 17 (.plain 2 1)),[.s 45,.s 51],[52],some (39,false)⟩,
  ⟨.k (.un .not),[.s 52],[53],some (39,false)⟩,
  ⟨.k .pick,[.s 39,.c (.b true),.s 53],[54],none⟩]) none (.cond (.s 54) [] (.seq (.reg [
  ⟨.k .mv,[.c (.b false)],[4],none⟩]) none .ret) .skip))) none (.reg [
  ⟨.k .mv,[.s 5],[24],none⟩,
  ⟨.k (.bin .add),[.s 24,.c (.i .i64 (1:Int))],[25],none⟩,
  ⟨.k .mv,[.s 25],[5],none⟩]))
def ref17_Same.m:TM := .seq (.reg [
  ⟨.k (.bx 1055),[.s 0,.s 1055],[2,1055],none⟩,
  ⟨.k (.bx 1056),[.s 1,.s 1056],[3,1056],none⟩,
  ⟨.k .mv,[.c (.b false)],[4],none⟩]) none (.seq (.seq (.reg [
  ⟨.k (.ld 1055 0 9 true),[.s 2,.s 1055],[6],none⟩,
  ⟨.k (.ld 1056 0 9 true),[.s 3,.s 1056],[7],none⟩,
  ⟨.k (.call 31 (.plain 2 1)),[.s 6,.s 7],[8],none⟩,
  ⟨.k (.un .not),[.s 8],[9],none⟩,
  ⟨.k .mv,[.s 9],[10],none⟩,
  ⟨.k (.fa 1055 0 8),[.s 2],[11],some (10,false)⟩,
  ⟨.k (.ld 1055 8 1 false),[.s 11,.s 1055],[12],some (10,false)⟩,
  ⟨.k .len,[.s 12],[13],some (10,false)⟩,
  ⟨.k (.fa 1056 0 8),[.s 3],[14],some (10,false)⟩,
  ⟨.k (.ld 1056 8 1 false),[.s 14,.s 1056],[15],some (10,false)⟩,
  ⟨.k .len,[.s 15],[16],some (10,false)⟩,
  ⟨.k (.bin .neq),[.s 13,.s 16],[17],some (10,false)⟩,
  ⟨.k .pick,[.s 10,.c (.b true),.s 17],[18],none⟩]) none (.cond (.s 18) [] (.seq (.reg [
  ⟨.k .mv,[.c (.b false)],[4],none⟩]) none .ret) .skip)) none (.seq (.seq (.reg [
  ⟨.k .mv,[.c (.i .i64 (0:Int))],[5],none⟩]) none (.block 0 [] (.loop [2,3,5,1055,1056] [(2,.ptr 1055 0),(3,.ptr 1056 0),(1055,.cl []),(1056,.cl [])] ref17_Same.m1))) none (.seq (.reg [
  ⟨.k .mv,[.c (.b true)],[4],none⟩]) none .ret)))
def ref17_Same.d:TFD:={ np:=2,m:=ref17_Same.m,ref:=none,tips:=[],res:=[.t 4],own:=[],new:=none,tnew:=[] }
noncomputable def ref17_Same.F (n:Nat) (a:Val) (b:Val):Option (List TV):=ref17_Same.d.run (ref17_Same.E n) [(.ag (Val.cells a)),(.ag (Val.cells b))]
noncomputable def ref17_Same.k1 (n:Nat):Cont (List TV):=seqK (ev _ (ref17_Same.E n) (.seq (.reg [
  ⟨.k .mv,[.c (.b true)],[4],none⟩]) none .ret)) none (endK ref17_Same.d)
noncomputable def ref17_Same.l1 (n:Nat) (x0:Int) (x1:Val) (x2:Val):Option (List TV):=loopL (evO _ (ref17_Same.E n) ref17_Same.m1) isN [2,3,5,1055,1056] (headT [2,3,5,1055,1056] [.pt,.pt,(.i .i64 x0),(.ag (Val.cells x1)),(.ag (Val.cells x2))]) (blockK 0 (ref17_Same.k1 n))
theorem ref17_Same.l1_in (n:Nat) (x0:Int) (x1:Val) (x2:Val) {ρ:Option (List TV)} (K:∀(v1:Int) (h1:v1=(((Val.kids x1)).length:Int)) (v2:Fld) (h2:v2=(List.getD (Val.kids x1) (x0).toNat (STy.dflt .fl))) (v3:Fld) (h3:v3=(List.getD (Val.kids x2) (x0).toNat (STy.dflt .fl))) (v4:Bool) (h4:v4=(!(!decide ((Fld.name v2)=(Fld.name v3))))) (v5:Bool) (h5:v5=(Tree.same (Fld.val v2) (Fld.val v3))) (v6:Bool) (h6:v6=(cond (!decide ((Fld.name v2)=(Fld.name v3))) true (!v5))) (v7:Int) (h7:v7=(IntKind.i64.wrap (x0+(1:Int)))),cond (decide (x0<v1))
  (ck (idxOK x0 ((Val.kids x1)).length) (ck (idxOK x0 ((Val.kids x2)).length) (ck (!v4 || v4) (ck (!v4 || ((v4&&v4)&&(idxOK x0 ((Val.kids x1)).length))) (ck (!v4 || v4) (ck (!v4 || v4) (ck (!v4 || v4) (ck (!v4 || ((v4&&v4)&&(idxOK x0 ((Val.kids x2)).length))) (ck (!v4 || v4) (ck (!v4 || v4) (ck (!v4 || ((v4&&v4)&&((decide (Fld.bulk (Fld.of [] (Fld.val v2))≤1099511627776))&&decide ((Fld.bulk (Fld.of [] (Fld.val v2)))<n)))) (ck (!v4 || v4) (ck ((!decide ((Fld.name v2)=(Fld.name v3))) || v4) (cond v6
  (some [(.b false)])
  (ref17_Same.l1 n v7 x1 x2)))))))))))))))
  (some [(.b true)])=ρ):ref17_Same.l1 n x0 x1 x2=ρ:=((ev_loop _ _ _ _ _ _).trans (by kernel_rfl)).trans (K _ rfl _ rfl _ rfl _ rfl _ rfl _ rfl _ rfl)
theorem ref17_Same.F_in (n:Nat) (a:Val) (b:Val) {ρ:Option (List TV)} (K:∀(v1:Int) (h1:v1=(((Val.kids a)).length:Int)) (v2:Int) (h2:v2=(((Val.kids b)).length:Int)) (v3:Bool) (h3:v3=(cond (!(Tree.ownSame a b)) true (!decide (v1=v2)))),ck (!(!(!(Tree.ownSame a b))) || (!(!(Tree.ownSame a b)))) (ck (!(!(!(Tree.ownSame a b))) || (!(!(Tree.ownSame a b)))) (ck (!(!(!(Tree.ownSame a b))) || (!(!(Tree.ownSame a b)))) (ck (!(!(!(Tree.ownSame a b))) || (!(!(Tree.ownSame a b)))) (ck (!(!(!(Tree.ownSame a b))) || ((!(!(Tree.ownSame a b)))&&(!(!(Tree.ownSame a b))))) (ck ((!(Tree.ownSame a b)) || (!(!(Tree.ownSame a b)))) (cond v3
  (some [(.b false)])
  (ref17_Same.l1 n (0:Int) a b)))))))=ρ):ref17_Same.F n a b=ρ:=Eq.trans (by kernel_rfl) (K _ rfl _ rfl _ rfl)
theorem ref17_Same.chk (n:Nat):((Go.Proofs.Tryd.prog.funcs[17]?).any fun fn=>chkF Go.Proofs.Tryd.prog (fun k=>((envL trydbGl (ref17_Same.env n)).fs k).2) fn ref17_Same.d.erase)=true:=by kernel_rfl
end
noncomputable section
end
noncomputable section
def book_Room.env:List (Nat × (Ctr × FSig)):=[]
def book_Room.E:TEnv:=envL trydbGl book_Room.env
def book_Room.m1:TM := .seq (.seq (.reg [
  ⟨.k .mv,[.s 5],[6],none⟩,
  ⟨.k .mv,[.s 1],[7],none⟩,
  ⟨.k .len,[.s 7],[8],none⟩,
  ⟨.k (.bin .lss),[.s 6,.s 8],[9],none⟩]) none (.cond (.s 9) [] .skip (.exit 0))) none (.seq (.block 1 [] (.seq (.seq (.reg [
  ⟨.k .mv,[.s 0],[12],none⟩,
  ⟨.k (.bin .lss),[.s 12,.c (.i .i64 (0:Int))],[13],none⟩,
  ⟨.k .mv,[.s 13],[14],none⟩,
  ⟨.k .mv,[.s 1],[15],some (14,false)⟩,
  ⟨.k .mv,[.s 5],[16],some (14,false)⟩,
  ⟨.k (.ix 1),[.s 15,.s 16],[17],some (14,false)⟩,
  ⟨.k (.lr 1 false),[.s 17],[18],some (14,false)⟩,
  ⟨.k .mv,[.s 0],[19],some (14,false)⟩,
  ⟨.k (.bin .gtr),[.s 18,.s 19],[20],some (14,false)⟩,
  ⟨.k .pick,[.s 14,.c (.b true),.s 20],[21],none⟩]) none (.cond (.s 21) [] (.seq (.reg [
  ⟨.k .mv,[.c (.i .i64 (-1:Int))],[4],none⟩]) none .ret) .skip)) none (.reg [
  ⟨.k .mv,[.s 0],[22],none⟩,
  ⟨.k .mv,[.s 1],[23],none⟩,
  ⟨.k .mv,[.s 5],[24],none⟩,
  ⟨.k (.ix 1),[.s 23,.s 24],[25],none⟩,
  ⟨.k (.lr 1 false),[.s 25],[26],none⟩,
  ⟨.k (.bin .sub),[.s 22,.s 26],[27],none⟩,
  ⟨.k .mv,[.s 27],[0],none⟩]))) none (.reg [
  ⟨.k .mv,[.s 5],[10],none⟩,
  ⟨.k (.bin .add),[.s 10,.c (.i .i64 (1:Int))],[11],none⟩,
  ⟨.k .mv,[.s 11],[5],none⟩]))
def book_Room.m:TM := .seq (.reg [
  ⟨.k .mv,[.c (.i .i64 (0:Int))],[4],none⟩]) none (.seq (.seq (.reg [
  ⟨.k .mv,[.c (.i .i64 (0:Int))],[5],none⟩]) none (.block 0 [] (.loop [0,1,5] [] book_Room.m1))) none (.seq (.reg [
  ⟨.k .mv,[.s 0],[28],none⟩,
  ⟨.k .mv,[.s 28],[4],none⟩]) none .ret))
def book_Room.d:TFD:={ np:=2,m:=book_Room.m,ref:=none,tips:=[],res:=[.t 4],own:=[],new:=none,tnew:=[] }
noncomputable def book_Room.F (left:Int) (sizes:List Int):Option (List TV):=book_Room.d.run book_Room.E [(.i .i64 left),(.sl .is sizes)]
noncomputable def book_Room.k1:Cont (List TV):=seqK (ev _ book_Room.E (.seq (.reg [
  ⟨.k .mv,[.s 0],[28],none⟩,
  ⟨.k .mv,[.s 28],[4],none⟩]) none .ret)) none (endK book_Room.d)
noncomputable def book_Room.l1 (x0:Int) (x1:List Int) (x2:Int):Option (List TV):=loopL (evO _ book_Room.E book_Room.m1) isN [0,1,5] (headT [0,1,5] [(.i .i64 x0),(.sl .is x1),(.i .i64 x2)]) (blockK 0 book_Room.k1)
theorem book_Room.l1_in (x0:Int) (x1:List Int) (x2:Int) {ρ:Option (List TV)} (K:∀(v1:Int) (h1:v1=(List.getD x1 (x2).toNat (0:Int))) (v2:Bool) (h2:v2=(cond (decide (x0<(0:Int))) true (decide (x0<v1)))) (v3:Int) (h3:v3=(IntKind.i64.wrap (x2+(1:Int)))),cond (decide (x2<((x1).length:Int)))
  (ck (!(!(decide (x0<(0:Int)))) || (((!(decide (x0<(0:Int))))&&(!(decide (x0<(0:Int)))))&&(idxOK x2 (x1).length))) (ck (!(!(decide (x0<(0:Int)))) || (!(decide (x0<(0:Int))))) (ck (!(!(decide (x0<(0:Int)))) || ((!(decide (x0<(0:Int))))&&(!(decide (x0<(0:Int)))))) (ck ((decide (x0<(0:Int))) || (!(decide (x0<(0:Int))))) (cond v2
  (some [(.i .i64 (-1:Int))])
  (ck (idxOK x2 (x1).length) (book_Room.l1 (IntKind.i64.wrap (x0 - v1)) x1 v3)))))))
  (some [(.i .i64 x0)])=ρ):book_Room.l1 x0 x1 x2=ρ:=((ev_loop _ _ _ _ _ _).trans (by kernel_rfl)).trans (K _ rfl _ rfl _ rfl)
theorem book_Room.F_eq (left:Int) (sizes:List Int):book_Room.F left sizes=book_Room.l1 left sizes (0:Int):=by kernel_rfl
theorem book_Room.chk:((Go.Proofs.Tryd.prog.funcs[34]?).any fun fn=>chkF Go.Proofs.Tryd.prog (fun k=>((envL trydbGl book_Room.env).fs k).2) fn book_Room.d.erase)=true:=by kernel_rfl
end
noncomputable section
def book_Value.env (n:Nat):List (Nat × (Ctr × FSig)):=[(20,(book_Value.cn n,book_Value.sg)),(34,(book_Room.c,book_Room.sg))]
def book_Value.E (n:Nat):TEnv:=envL trydbGl (book_Value.env n)
def book_Value.m1:TM := .seq (.seq (.reg [
  ⟨.k .mv,[.s 5],[18],none⟩,
  ⟨.k (.fa 1047 0 8),[.s 3],[19],none⟩,
  ⟨.k (.ld 1047 8 1 false),[.s 19,.s 1047],[20],none⟩,
  ⟨.k .len,[.s 20],[21],none⟩,
  ⟨.k (.bin .lss),[.s 18,.s 21],[22],none⟩,
  ⟨.k .mv,[.s 22],[23],none⟩,
  ⟨.k .mv,[.s 0],[24],some (23,true)⟩,
  ⟨.k (.bin .geq),[.s 24,.c (.i .i64 (0:Int))],[25],some (23,true)⟩,
  ⟨.k .pick,[.s 23,.s 25,.c (.b false)],[26],none⟩]) none (.cond (.s 26) [] .skip (.exit 0))) none (.seq (.block 1 [(3,.ptr 1047 0),(1047,.cl [])] (.reg [
  ⟨.k .mv,[.s 0],[29],none⟩,
  ⟨.k (.fa 1047 0 8),[.s 3],[30],none⟩,
  ⟨.k (.ld 1047 8 1 false),[.s 30,.s 1047],[31],none⟩,
  ⟨.k .mv,[.s 5],[32],none⟩,
  ⟨.k (.ix 10),[.s 31,.s 32],[33],none⟩,
  ⟨.k (.fr 0 1 false),[.s 33],[34],none⟩,
  ⟨.k (.lr 1 false),[.s 34],[35],none⟩,
  ⟨.k .lns,[.s 35],[36],none⟩,
  ⟨.bl .is 1,[.s 36],[37],none⟩,
  ⟨.k (.call 34 (.plain 2 1)),[.s 29,.s 37],[38],none⟩,
  ⟨.k (.fa 1047 0 8),[.s 3],[39],none⟩,
  ⟨.k (.ld 1047 8 1 false),[.s 39,.s 1047],[40],none⟩,
  ⟨.k .mv,[.s 5],[41],none⟩,
  ⟨.k (.ix 10),[.s 40,.s 41],[42],none⟩,
  ⟨.k (.fr 1 9 true),[.s 42],[43],none⟩,
  ⟨.k (.lr 9 true),[.s 43],[44],none⟩,
  ⟨.k (.call 20 (.plain 2 1)),[.s 38,.s 44],[45],none⟩,
  ⟨.k .mv,[.s 45],[0],none⟩])) none (.reg [
  ⟨.k .mv,[.s 5],[27],none⟩,
  ⟨.k (.bin .add),[.s 27,.c (.i .i64 (1:Int))],[28],none⟩,
  ⟨.k .mv,[.s 28],[5],none⟩]))
def book_Value.m:TM := .seq (.reg [
  ⟨.k (.bx 1047),[.s 1,.s 1047],[3,1047],none⟩,
  ⟨.k .mv,[.c (.i .i64 (0:Int))],[4],none⟩]) none (.seq (.reg [
  ⟨.k .mv,[.s 0],[6],none⟩,
  ⟨.k (.fa 1047 0 4),[.s 3],[7],none⟩,
  ⟨.k (.ld 1047 4 1 false),[.s 7,.s 1047],[8],none⟩,
  ⟨.k .lns,[.s 8],[9],none⟩,
  ⟨.k (.fa 1047 0 5),[.s 3],[10],none⟩,
  ⟨.k (.ld 1047 5 1 false),[.s 10,.s 1047],[11],none⟩,
  ⟨.k .lns,[.s 11],[12],none⟩,
  ⟨.k (.fa 1047 0 7),[.s 3],[13],none⟩,
  ⟨.k (.ld 1047 7 1 false),[.s 13,.s 1047],[14],none⟩,
  ⟨.k .len,[.s 14],[15],none⟩,
  ⟨.bl .is 4,[.c (.i .i64 (2:Int)),.s 9,.s 12,.s 15],[16],none⟩,
  ⟨.k (.call 34 (.plain 2 1)),[.s 6,.s 16],[17],none⟩,
  ⟨.k .mv,[.s 17],[0],none⟩]) none (.seq (.seq (.reg [
  ⟨.k .mv,[.c (.i .i64 (0:Int))],[5],none⟩]) none (.block 0 [] (.loop [0,3,5,1047] [(3,.ptr 1047 0),(1047,.cl [])] book_Value.m1))) none (.seq (.reg [
  ⟨.k .mv,[.s 0],[46],none⟩,
  ⟨.k .mv,[.s 46],[4],none⟩]) none .ret)))
def book_Value.d:TFD:={ np:=2,m:=book_Value.m,ref:=none,tips:=[],res:=[.t 4],own:=[],new:=none,tnew:=[] }
noncomputable def book_Value.F (n:Nat) (left:Int) (v:Val):Option (List TV):=book_Value.d.run (book_Value.E n) [(.i .i64 left),(.ag (Val.cells v))]
noncomputable def book_Value.k1 (n:Nat):Cont (List TV):=seqK (ev _ (book_Value.E n) (.seq (.reg [
  ⟨.k .mv,[.s 0],[46],none⟩,
  ⟨.k .mv,[.s 46],[4],none⟩]) none .ret)) none (endK book_Value.d)
noncomputable def book_Value.l1 (n:Nat) (x0:Int) (x1:Int) (x2:Val):Option (List TV):=loopL (evO _ (book_Value.E n) book_Value.m1) isN [0,3,5,1047] (headT [0,3,5,1047] [(.i .i64 x0),.pt,(.i .i64 x1),(.ag (Val.cells x2))]) (blockK 0 (book_Value.k1 n))
theorem book_Value.l1_in (n:Nat) (x0:Int) (x1:Int) (x2:Val) {ρ:Option (List TV)} (K:∀(v1:Int) (h1:v1=(((Val.kids x2)).length:Int)) (v2:Bool) (h2:v2=(cond (decide (x1<v1)) (decide ((0:Int)≤x0)) false)) (v3:Fld) (h3:v3=(List.getD (Val.kids x2) (x1).toNat (STy.dflt .fl))) (v4:Int) (h4:v4=(((Fld.name v3)).length:Int)) (v5:Int) (h5:v5=(Book.room x0 (([v4]:List Int)))) (v6:Int) (h6:v6=(Book.value v5 (Fld.of [] (Fld.val v3)))) (v7:Int) (h7:v7=(IntKind.i64.wrap (x1+(1:Int)))),ck (!(decide (x1<v1)) || (decide (x1<v1))) (ck (!(decide (x1<v1)) || (decide (x1<v1))) (cond v2
  (ck (idxOK x1 ((Val.kids x2)).length) (ck (decide (x0≤10000∧(([v4]:List Int)).length≤10)&&(([v4]:List Int)).all (fun s=>decide (0≤s))) (ck (idxOK x1 ((Val.kids x2)).length) (ck ((decide (v5≤10000))&&decide ((Fld.bulk (Fld.of [] (Fld.val v3)))<n)) (book_Value.l1 n v6 v7 x2)))))
  (some [(.i .i64 x0)])))=ρ):book_Value.l1 n x0 x1 x2=ρ:=((ev_loop _ _ _ _ _ _).trans (by kernel_rfl)).trans (K _ rfl _ rfl _ rfl _ rfl _ rfl _ rfl _ rfl)
theorem book_Value.F_in (n:Nat) (left:Int) (v:Val) {ρ:Option (List TV)} (K:∀(v1:Int) (h1:v1=(((Val.text v)).length:Int)) (v2:Int) (h2:v2=(((Val.more v)).length:Int)) (v3:Int) (h3:v3=(((Val.bytes v)).length:Int)) (v4:List Int) (h4:v4=([(2:Int),v1,v2,v3]:List Int)),ck (decide (left≤10000∧v4.length≤10)&&v4.all (fun s=>decide (0≤s))) (book_Value.l1 n (Book.room left v4) (0:Int) v)=ρ):book_Value.F n left v=ρ:=Eq.trans (by kernel_rfl) (K _ rfl _ rfl _ rfl _ rfl)
theorem book_Value.chk (n:Nat):((Go.Proofs.Tryd.prog.funcs[20]?).any fun fn=>chkF Go.Proofs.Tryd.prog (fun k=>((envL trydbGl (book_Value.env n)).fs k).2) fn book_Value.d.erase)=true:=by kernel_rfl
end
noncomputable section
def book_Small.env:List (Nat × (Ctr × FSig)):=[(20,(book_Value.c,book_Value.sg))]
def book_Small.E:TEnv:=envL trydbGl book_Small.env
def book_Small.m:TM := .seq (.reg [
  ⟨.k (.bx 1006),[.s 0,.s 1006],[1,1006],none⟩,
  ⟨.k .mv,[.c (.b false)],[2],none⟩]) none (.seq (.reg [
  ⟨.k (.ld 1006 0 9 true),[.s 1,.s 1006],[3],none⟩,
  ⟨.k (.call 20 (.plain 2 1)),[.c (.i .i64 (1200:Int)),.s 3],[4],none⟩,
  ⟨.k (.bin .geq),[.s 4,.c (.i .i64 (0:Int))],[5],none⟩,
  ⟨.k .mv,[.s 5],[2],none⟩]) none .ret)
def book_Small.d:TFD:={ np:=1,m:=book_Small.m,ref:=none,tips:=[],res:=[.t 2],own:=[],new:=none,tnew:=[] }
noncomputable def book_Small.F (v:Val):Option (List TV):=book_Small.d.run book_Small.E [(.ag (Val.cells v))]
theorem book_Small.F_in (v:Val) {ρ:Option (List TV)} (K:∀(v1:Int) (h1:v1=(Book.value ((1200:Int)) (Fld.of [] v))),ck (decide (((1200:Int))≤10000)) (some [(.b (decide ((0:Int)≤v1)))])=ρ):book_Small.F v=ρ:=Eq.trans (by kernel_rfl) (K _ rfl)
theorem book_Small.chk:((Go.Proofs.Tryd.prog.funcs[9]?).any fun fn=>chkF Go.Proofs.Tryd.prog (fun k=>((envL trydbGl book_Small.env).fs k).2) fn book_Small.d.erase)=true:=by kernel_rfl
end
noncomputable section
theorem clone_bs.ok:SpecOK Go.Proofs.Tryd.prog (fun n=>(trydbGl n).av) 69 (Ctr.fs (clone_bs.c,clone_bs.sg)):=clone_ok (t := .bs) (b:=1) (by kernel_rfl)
end
noncomputable section
end
noncomputable section
end
noncomputable section
end
noncomputable section
end
noncomputable section
def ref28_Same.env (n:Nat):List (Nat × (Ctr × FSig)):=[(13,(ref28_Same.cn n,ref28_Same.sg))]
def ref28_Same.E (n:Nat):TEnv:=envL trydbGl (ref28_Same.env n)
def ref28_Same.m1:TM := .seq (.seq (.reg [
  ⟨.k .mv,[.s 5],[43],none⟩,
  ⟨.k (.fa 1062 0 4),[.s 2],[44],none⟩,
  ⟨.k (.ld 1062 4 1 false),[.s 44,.s 1062],[45],none⟩,
  ⟨.k .len,[.s 45],[46],none⟩,
  ⟨.k (.bin .lss),[.s 43,.s 46],[47],none⟩]) none (.cond (.s 47) [] .skip (.exit 0))) none (.seq (.block 1 [(2,.ptr 1062 0),(3,.ptr 1063 0),(1062,.cl []),(1063,.cl [])] (.seq (.reg [
  ⟨.k (.fa 1062 0 4),[.s 2],[50],none⟩,
  ⟨.k (.ld 1062 4 1 false),[.s 50,.s 1062],[51],none⟩,
  ⟨.k .mv,[.s 5],[52],none⟩,
  ⟨.k (.ix 5),[.s 51,.s 52],[53],none⟩,
  ⟨.k (.lr 5 true),[.s 53],[54],none⟩,
  ⟨.k (.fa 1063 0 4),[.s 3],[55],none⟩,
  ⟨.k (.ld 1063 4 1 false),[.s 55,.s 1063],[56],none⟩,
  ⟨.k .mv,[.s 5],[57],none⟩,
  ⟨.k (.ix 5),[.s 56,.s 57],[58],none⟩,
  ⟨.k (.lr 5 true),[.s 58],[59],none⟩,
  ⟨.k (.call 13 (.plain 2 1)),[.s 54,.s 59],[60],none⟩,
  ⟨.k (.un .not),[.s 60],[61],none⟩]) none (.cond (.s 61) [] (.seq (.reg [
  ⟨.k .mv,[.c (.b false)],[4],none⟩]) none .ret) .skip))) none (.reg [
  ⟨.k .mv,[.s 5],[48],none⟩,
  ⟨.k (.bin .add),[.s 48,.c (.i .i64 (1:Int))],[49],none⟩,
  ⟨.k .mv,[.s 49],[5],none⟩]))
def ref28_Same.m:TM := .seq (.reg [
  ⟨.k (.bx 1062),[.s 0,.s 1062],[2,1062],none⟩,
  ⟨.k (.bx 1063),[.s 1,.s 1063],[3,1063],none⟩,
  ⟨.k .mv,[.c (.b false)],[4],none⟩]) none (.seq (.seq (.reg [
  ⟨.k (.fa 1062 0 0),[.s 2],[6],none⟩,
  ⟨.k (.ld 1062 0 1 false),[.s 6,.s 1062],[7],none⟩,
  ⟨.k (.fa 1063 0 0),[.s 3],[8],none⟩,
  ⟨.k (.ld 1063 0 1 false),[.s 8,.s 1063],[9],none⟩,
  ⟨.k (.bin .neq),[.s 7,.s 9],[10],none⟩,
  ⟨.k .mv,[.s 10],[11],none⟩,
  ⟨.k (.fa 1062 0 1),[.s 2],[12],some (11,false)⟩,
  ⟨.k (.ld 1062 1 1 false),[.s 12,.s 1062],[13],some (11,false)⟩,
  ⟨.k (.fa 1063 0 1),[.s 3],[14],some (11,false)⟩,
  ⟨.k (.ld 1063 1 1 false),[.s 14,.s 1063],[15],some (11,false)⟩,
  ⟨.k (.bin .neq),[.s 13,.s 15],[16],some (11,false)⟩,
  ⟨.k .pick,[.s 11,.c (.b true),.s 16],[17],none⟩,
  ⟨.k .mv,[.s 17],[18],none⟩,
  ⟨.k (.fa 1062 0 3),[.s 2],[19],some (18,false)⟩,
  ⟨.k (.ld 1062 3 1 false),[.s 19,.s 1062],[20],some (18,false)⟩,
  ⟨.k (.fa 1063 0 3),[.s 3],[21],some (18,false)⟩,
  ⟨.k (.ld 1063 3 1 false),[.s 21,.s 1063],[22],some (18,false)⟩,
  ⟨.k (.bin .neq),[.s 20,.s 22],[23],some (18,false)⟩,
  ⟨.k .pick,[.s 18,.c (.b true),.s 23],[24],none⟩,
  ⟨.k .mv,[.s 24],[25],none⟩,
  ⟨.k (.fa 1062 0 2),[.s 2],[26],some (25,false)⟩,
  ⟨.k (.ld 1062 2 1 false),[.s 26,.s 1062],[27],some (25,false)⟩,
  ⟨.k .bs,[.s 27],[28],some (25,false)⟩,
  ⟨.k (.fa 1063 0 2),[.s 3],[29],some (25,false)⟩,
  ⟨.k (.ld 1063 2 1 false),[.s 29,.s 1063],[30],some (25,false)⟩,
  ⟨.k .bs,[.s 30],[31],some (25,false)⟩,
  ⟨.k (.bin .neq),[.s 28,.s 31],[32],some (25,false)⟩,
  ⟨.k .pick,[.s 25,.c (.b true),.s 32],[33],none⟩,
  ⟨.k .mv,[.s 33],[34],none⟩,
  ⟨.k (.fa 1062 0 4),[.s 2],[35],some (34,false)⟩,
  ⟨.k (.ld 1062 4 1 false),[.s 35,.s 1062],[36],some (34,false)⟩,
  ⟨.k .len,[.s 36],[37],some (34,false)⟩,
  ⟨.k (.fa 1063 0 4),[.s 3],[38],some (34,false)⟩,
  ⟨.k (.ld 1063 4 1 false),[.s 38,.s 1063],[39],some (34,false)⟩,
  ⟨.k .len,[.s 39],[40],some (34,false)⟩,
  ⟨.k (.bin .neq),[.s 37,.s 40],[41],some (34,false)⟩,
  ⟨.k .pick,[.s 34,.c (.b true),.s 41],[42],none⟩]) none (.cond (.s 42) [] (.seq (.reg [
  ⟨.k .mv,[.c (.b false)],[4],none⟩]) none .ret) .skip)) none (.seq (.seq (.reg [
  ⟨.k .mv,[.c (.i .i64 (0:Int))],[5],none⟩]) none (.block 0 [] (.loop [2,3,5,1062,1063] [(2,.ptr 1062 0),(3,.ptr 1063 0),(1062,.cl []),(1063,.cl [])] ref28_Same.m1))) none (.seq (.reg [
  ⟨.k .mv,[.c (.b true)],[4],none⟩]) none .ret)))
def ref28_Same.d:TFD:={ np:=2,m:=ref28_Same.m,ref:=none,tips:=[],res:=[.t 4],own:=[],new:=none,tnew:=[] }
noncomputable def ref28_Same.F (n:Nat) (a:Itv) (b:Itv):Option (List TV):=ref28_Same.d.run (ref28_Same.E n) [(.ag (Itv.cells a)),(.ag (Itv.cells b))]
noncomputable def ref28_Same.k1 (n:Nat):Cont (List TV):=seqK (ev _ (ref28_Same.E n) (.seq (.reg [
  ⟨.k .mv,[.c (.b true)],[4],none⟩]) none .ret)) none (endK ref28_Same.d)
noncomputable def ref28_Same.l1 (n:Nat) (x0:Int) (x1:Itv) (x2:Itv):Option (List TV):=loopL (evO _ (ref28_Same.E n) ref28_Same.m1) isN [2,3,5,1062,1063] (headT [2,3,5,1062,1063] [.pt,.pt,(.i .i64 x0),(.ag (Itv.cells x1)),(.ag (Itv.cells x2))]) (blockK 0 (ref28_Same.k1 n))
theorem ref28_Same.l1_in (n:Nat) (x0:Int) (x1:Itv) (x2:Itv) {ρ:Option (List TV)} (K:∀(v1:Int) (h1:v1=(((Itv.kids x1)).length:Int)) (v2:Bool) (h2:v2=(Itm.same (Itm.of (Itm.val (List.getD (Itv.kids x1) (x0).toNat (STy.dflt .il)))) (Itm.of (Itm.val (List.getD (Itv.kids x2) (x0).toNat (STy.dflt .il)))))) (v3:Int) (h3:v3=(IntKind.i64.wrap (x0+(1:Int)))),cond (decide (x0<v1))
  (ck (idxOK x0 ((Itv.kids x1)).length) (ck (idxOK x0 ((Itv.kids x2)).length) (ck ((decide (Itm.bulk (Itm.of (Itm.val (List.getD (Itv.kids x1) (x0).toNat (STy.dflt .il))))≤1099511627776))&&decide ((Itm.bulk (Itm.of (Itm.val (List.getD (Itv.kids x1) (x0).toNat (STy.dflt .il)))))<n)) (cond (!v2)
  (some [(.b false)])
  (ref28_Same.l1 n v3 x1 x2)))))
  (some [(.b true)])=ρ):ref28_Same.l1 n x0 x1 x2=ρ:=((ev_loop _ _ _ _ _ _).trans (by kernel_rfl)).trans (K _ rfl _ rfl _ rfl)
theorem ref28_Same.F_in (n:Nat) (a:Itv) (b:Itv) {ρ:Option (List TV)} (K:∀(v1:Bool) (h1:v1=(!(!decide ((Itv.kind a)=(Itv.kind b))))) (v2:Bool) (h2:v2=(cond (!decide ((Itv.kind a)=(Itv.kind b))) true (!decide ((Itv.n a)=(Itv.n b))))) (v3:Bool) (h3:v3=(cond v2 true (!decide ((Itv.text a)=(Itv.text b))))) (v4:Bool) (h4:v4=(cond v3 true (!decide ((Itv.bytes a)=(Itv.bytes b))))) (v5:Int) (h5:v5=(((Itv.kids a)).length:Int)) (v6:Int) (h6:v6=(((Itv.kids b)).length:Int)) (v7:Bool) (h7:v7=(cond v4 true (!decide (v5=v6)))),ck (!v1 || v1) (ck (!v1 || v1) (ck (!v1 || (v1&&v1)) (ck ((!decide ((Itv.kind a)=(Itv.kind b))) || v1) (ck (!(!v2) || (!v2)) (ck (!(!v2) || (!v2)) (ck (!(!v2) || ((!v2)&&(!v2))) (ck (v2 || (!v2)) (ck (!(!v3) || (!v3)) (ck (!(!v3) || (!v3)) (ck (!(!v3) || (!v3)) (ck (!(!v3) || (!v3)) (ck (!(!v3) || ((!v3)&&(!v3))) (ck (v3 || (!v3)) (ck (!(!v4) || (!v4)) (ck (!(!v4) || (!v4)) (ck (!(!v4) || (!v4)) (ck (!(!v4) || (!v4)) (ck (!(!v4) || ((!v4)&&(!v4))) (ck (v4 || (!v4)) (cond v7
  (some [(.b false)])
  (ref28_Same.l1 n (0:Int) a b)))))))))))))))))))))=ρ):ref28_Same.F n a b=ρ:=Eq.trans (by kernel_rfl) (K _ rfl _ rfl _ rfl _ rfl _ rfl _ rfl _ rfl)
theorem ref28_Same.chk (n:Nat):((Go.Proofs.Tryd.prog.funcs[13]?).any fun fn=>chkF Go.Proofs.Tryd.prog (fun k=>((envL trydbGl (ref28_Same.env n)).fs k).2) fn ref28_Same.d.erase)=true:=by kernel_rfl
end
noncomputable section
end
noncomputable section
end
noncomputable section
theorem sc_Itoa.ok:SpecOK Go.Proofs.Tryd.prog (fun n=>(trydbGl n).av) 71 (Ctr.fs (sc_Itoa.c,sc_Itoa.sg)):=itoa_ok rfl Tryd.itoa
end
end Go.Eng
