/- Typed values: slices, texts and numbers as Lean's own; how they stand as abstract values. -/
import Derived.Test.YtenbejbhjgkibaaEngX
import Derived.KernelRfl
set_option linter.unusedVariables false
set_option linter.unusedSimpArgs false
namespace Go.Eng

abbrev Str := List UInt8

/-- A value of a document under its name; a value. -/
inductive Fld where
  | mk (name : Str) (kind : Int) (bits high low : UInt64) (text more : Str) (sub : Int) (bytes : Str) (kids : List Fld)
  deriving Inhabited
structure Val where
  kind : Int
  bits : UInt64
  high : UInt64
  low : UInt64
  text : Str
  more : Str
  sub : Int
  bytes : Str
  kids : List Fld
  deriving Inhabited
namespace Fld
def name : Fld → Str | .mk x _ _ _ _ _ _ _ _ _ => x
def kind : Fld → Int | .mk _ x _ _ _ _ _ _ _ _ => x
def bits : Fld → UInt64 | .mk _ _ x _ _ _ _ _ _ _ => x
def high : Fld → UInt64 | .mk _ _ _ x _ _ _ _ _ _ => x
def low : Fld → UInt64 | .mk _ _ _ _ x _ _ _ _ _ => x
def text : Fld → Str | .mk _ _ _ _ _ x _ _ _ _ => x
def more : Fld → Str | .mk _ _ _ _ _ _ x _ _ _ => x
def sub : Fld → Int | .mk _ _ _ _ _ _ _ x _ _ => x
def bytes : Fld → Str | .mk _ _ _ _ _ _ _ _ x _ => x
def kids : Fld → List Fld | .mk _ _ _ _ _ _ _ _ _ x => x
def val (f : Fld) : Val := ⟨f.kind, f.bits, f.high, f.low, f.text, f.more, f.sub, f.bytes, f.kids⟩
def of (n : Str) (v : Val) : Fld := .mk n v.kind v.bits v.high v.low v.text v.more v.sub v.bytes v.kids
end Fld
/-- A value of JSON under its name; a value of JSON. -/
inductive Mem where
  | mk (name : Str) (kind : Int) (text : Str) (kids : List Mem)
  deriving Inhabited
structure Jsn where
  kind : Int
  text : Str
  kids : List Mem
  deriving Inhabited
namespace Mem
def name : Mem → Str | .mk x _ _ _ => x
def kind : Mem → Int | .mk _ x _ _ => x
def text : Mem → Str | .mk _ _ x _ => x
def kids : Mem → List Mem | .mk _ _ _ x => x
def val (f : Mem) : Jsn := ⟨f.kind, f.text, f.kids⟩
def of (n : Str) (v : Jsn) : Mem := .mk n v.kind v.text v.kids
end Mem
/-- An item. -/
inductive Itm where
  | mk (kind : Int) (n : UInt64) (bytes text : Str) (kids : List Itm)
  deriving Inhabited
namespace Itm
def kind : Itm → Int | .mk x _ _ _ _ => x
def n : Itm → UInt64 | .mk _ x _ _ _ => x
def bytes : Itm → Str | .mk _ _ x _ _ => x
def text : Itm → Str | .mk _ _ _ x _ => x
def kids : Itm → List Itm | .mk _ _ _ _ x => x
end Itm
structure Spn where
  at_ : Int
  end_ : Int
  deriving Inhabited
structure Out where
  at_ : Int
  bytes : Str
  loss : List (List Int)
  err : Int
  fat : Int
  path : List Int
  deriving Inhabited

/-- Kinds of slices, by what their elements are. -/
inductive STy where
  | bs | is | ws | ss | iss | fl | ml | il | sp | ou
  deriving DecidableEq, Inhabited

abbrev STy.El : STy → Type
  | .bs => UInt8
  | .is => Int
  | .ws => UInt16
  | .ss => Str
  | .iss => List Int
  | .fl => Fld
  | .ml => Mem
  | .il => Itm
  | .sp => Spn
  | .ou => Out

def STy.size : STy → Nat
  | .fl => 10
  | .ml => 4
  | .il => 5
  | .sp => 2
  | .ou => 6
  | _ => 1

def STy.dflt : (t : STy) → t.El
  | .bs => 0
  | .is => 0
  | .ws => 0
  | .ss => []
  | .iss => []
  | .fl => .mk [] 0 0 0 0 [] [] 0 [] []
  | .ml => .mk [] 0 [] []
  | .il => .mk 0 0 [] [] []
  | .sp => ⟨0, 0⟩
  | .ou => ⟨0, [], [], 0, 0, []⟩

inductive TV where
  | u8 (n : UInt8)
  | u16 (n : UInt16)
  | u32 (n : UInt32)
  | u64 (n : UInt64)
  | i (k : IntKind) (n : Int)
  | b (x : Bool)
  | s (l : Str)
  | sl (t : STy) (l : List t.El)
  | ag (l : List TV)
  | tu (l : List TV)
  | ro (x : TV)
  | gd (c : Bool) (x : TV)
  | c (x : Value)
  | pt
  | dead
  | el (p z q : Nat)
  deriving Inhabited

/-! ## As abstract values -/
def iAV (n : Int) : AV := .v (.int .i64 n)
def strAV (l : Str) : AV := .v (.string ⟨⟨l⟩⟩)
def u64AV (n : UInt64) : AV := .v (.int .u64 n.toNat)
def bytesAV (l : Str) : AV := .sl 1 (l.map byteAV)
def intsAV (l : List Int) : AV := .sl 1 (l.map iAV)

mutual
def fldAV : Fld → AV
  | .mk n k b h l t m s y ks => .ag [strAV n, iAV k, u64AV b, u64AV h, u64AV l, strAV t, strAV m, iAV s, bytesAV y, .sl 10 (fldsAV ks)]
def fldsAV : List Fld → List AV
  | [] => []
  | f :: r => fldAV f :: fldsAV r
end
mutual
def memAV : Mem → AV
  | .mk n k t ks => .ag [strAV n, iAV k, strAV t, .sl 4 (memsAV ks)]
def memsAV : List Mem → List AV
  | [] => []
  | f :: r => memAV f :: memsAV r
end
mutual
def itmAV : Itm → AV
  | .mk k n b t ks => .ag [iAV k, u64AV n, bytesAV b, strAV t, .sl 5 (itmsAV ks)]
def itmsAV : List Itm → List AV
  | [] => []
  | f :: r => itmAV f :: itmsAV r
end
theorem fldsAV_map : ∀ l : List Fld, fldsAV l = l.map fldAV
  | [] => rfl
  | f :: r => by rw [fldsAV, fldsAV_map r]; rfl
theorem memsAV_map : ∀ l : List Mem, memsAV l = l.map memAV
  | [] => rfl
  | f :: r => by rw [memsAV, memsAV_map r]; rfl
theorem itmsAV_map : ∀ l : List Itm, itmsAV l = l.map itmAV
  | [] => rfl
  | f :: r => by rw [itmsAV, itmsAV_map r]; rfl

def STy.av : (t : STy) → t.El → AV
  | .bs, x => byteAV x
  | .is, x => iAV x
  | .ws, x => .v (.int .u16 (UInt16.toNat x))
  | .ss, x => strAV x
  | .iss, x => intsAV x
  | .fl, x => fldAV x
  | .ml, x => memAV x
  | .il, x => itmAV x
  | .sp, x => .ag [iAV (Spn.at_ x), iAV (Spn.end_ x)]
  | .ou, x => .ag [iAV (Out.at_ x), bytesAV (Out.bytes x), .sl 1 ((Out.loss x).map intsAV), iAV (Out.err x), iAV (Out.fat x), intsAV (Out.path x)]

mutual
def TV.av : TV → AV
  | .u8 n => byteAV n
  | .u16 n => .v (.int .u16 n.toNat)
  | .u32 n => .v (.int .u32 n.toNat)
  | .u64 n => u64AV n
  | .i k n => .v (.int k n)
  | .b x => .v (.bool x)
  | .s l => strAV l
  | .sl t l => .sl t.size (l.map t.av)
  | .ag l => .ag (TV.avs l)
  | .tu l => .tu (TV.avs l)
  | .ro x => .ro x.av
  | .gd q x => if q then x.av else .sk
  | .c x => .v x
  | .pt => .pt
  | .dead => .dead
  | .el p z q => .el p z q
def TV.avs : List TV → List AV
  | [] => []
  | x :: r => x.av :: TV.avs r
end
theorem TV.avs_map : ∀ l : List TV, TV.avs l = l.map TV.av
  | [] => rfl
  | f :: r => by rw [TV.avs, TV.avs_map r]; rfl

/-! ## An element, as a value; values, as an element -/
def Val.cells (v : Val) : List TV := [.i .i64 v.kind, .u64 v.bits, .u64 v.high, .u64 v.low, .s v.text, .s v.more, .i .i64 v.sub, .sl .bs v.bytes, .sl .fl v.kids]
def Fld.cells (f : Fld) : List TV := [.s f.name, .i .i64 f.kind, .u64 f.bits, .u64 f.high, .u64 f.low, .s f.text, .s f.more, .i .i64 f.sub, .sl .bs f.bytes, .sl .fl f.kids]
def Jsn.cells (v : Jsn) : List TV := [.i .i64 v.kind, .s v.text, .sl .ml v.kids]
def Mem.cells (f : Mem) : List TV := [.s f.name, .i .i64 f.kind, .s f.text, .sl .ml f.kids]
def Itm.cells (f : Itm) : List TV := [.i .i64 f.kind, .u64 f.n, .sl .bs f.bytes, .s f.text, .sl .il f.kids]
def Spn.cells (f : Spn) : List TV := [.i .i64 f.at_, .i .i64 f.end_]
def Out.cells (f : Out) : List TV := [.i .i64 f.at_, .sl .bs f.bytes, .sl .iss f.loss, .i .i64 f.err, .i .i64 f.fat, .sl .is f.path]

def STy.tv : (t : STy) → t.El → TV
  | .bs, x => .u8 x
  | .is, x => .i .i64 x
  | .ws, x => .u16 x
  | .ss, x => .s x
  | .iss, x => .sl .is x
  | .fl, x => .ag (Fld.cells x)
  | .ml, x => .ag (Mem.cells x)
  | .il, x => .ag (Itm.cells x)
  | .sp, x => .ag (Spn.cells x)
  | .ou, x => .ag (Out.cells x)

theorem STy.tv_av (t : STy) (x : t.El) : (t.tv x).av = t.av x := by
  cases t with
  | fl => cases x; simp [STy.tv, STy.av, TV.av, TV.avs, Fld.cells, Fld.name, Fld.kind, Fld.bits, Fld.high, Fld.low, Fld.text, Fld.more, Fld.sub, Fld.bytes, Fld.kids, fldAV, fldsAV_map, strAV, iAV, u64AV, bytesAV, STy.size]
  | ml => cases x; simp [STy.tv, STy.av, TV.av, TV.avs, Mem.cells, Mem.name, Mem.kind, Mem.text, Mem.kids, memAV, memsAV_map, strAV, iAV, STy.size]
  | il => cases x; simp [STy.tv, STy.av, TV.av, TV.avs, Itm.cells, Itm.kind, Itm.n, Itm.bytes, Itm.text, Itm.kids, itmAV, itmsAV_map, strAV, iAV, u64AV, bytesAV, STy.size]
  | iss => rfl
  | sp => rfl
  | ou => rfl
  | _ => rfl

/-- The element that a value is. -/
def STy.el : (t : STy) → TV → Option t.El
  | .bs, .u8 x => some x
  | .is, .i .i64 x => some x
  | .ws, .u16 x => some x
  | .ss, .s x => some x
  | .iss, .sl .is x => some x
  | .fl, .ag [.s n, .i .i64 k, .u64 b, .u64 h, .u64 l, .s t, .s m, .i .i64 s, .sl .bs y, .sl .fl ks] => some (.mk n k b h l t m s y ks)
  | .ml, .ag [.s n, .i .i64 k, .s t, .sl .ml ks] => some (.mk n k t ks)
  | .il, .ag [.i .i64 k, .u64 n, .sl .bs b, .s t, .sl .il ks] => some (.mk k n b t ks)
  | .sp, .ag [.i .i64 a, .i .i64 e] => some ⟨a, e⟩
  | .ou, .ag [.i .i64 a, .sl .bs b, .sl .iss l, .i .i64 e, .i .i64 f, .sl .is p] => some ⟨a, b, l, e, f, p⟩
  | _, _ => none

theorem STy.el_av {t : STy} {x : TV} {y : t.El} (h : t.el x = some y) : t.av y = x.av := by
  unfold STy.el at h
  split at h <;> cases h <;> first | rfl | (simp [STy.av, TV.av, TV.avs, fldAV, memAV, itmAV, fldsAV_map, memsAV_map, itmsAV_map, STy.size, iAV, bytesAV, strAV, intsAV, u64AV])
end Go.Eng
