/- Texts of my own, one behind the other: EngFl, XA, XB, XC, XD, YD, YI, XE, XF, XG, XH, XO, XI, XJ, XK, XL, XM, XN, XP, XQ, XR, XS, XU. -/
import Derived.Laws.FloatArith
import Derived.WalkKit
import Derived.Calls
import Derived.Below
import Derived.Laws.OwnMore
import Derived.Lib.Bytealg
import Derived.Orders
import Derived.KernelRfl
import Derived.Laws.IdiomStrings
import Derived.Laws.Entries
import Derived.Laws.BytesString
import Derived.Laws.Strings
import Derived.ChangeKeysEq
import Derived.Laws.StructEq
import Derived.Laws.BytesArg
import Derived.Laws.Cover2
import Derived.Lib.Strings
import Derived.Laws.MakeOwn
import Derived.Laws.CopyRow
set_option linter.unusedVariables false
set_option linter.unusedSimpArgs false
namespace Go.Eng
abbrev aa:=@decide_eq_true
abbrev ab:=@decide_eq_false
abbrev ae:=@cond_false
abbrev af:=@Bool.and_eq_true
abbrev ah:=@cond_true
abbrev ai:=@List.getD_eq_getElem?_getD
abbrev aj:=@List.length_append
abbrev ak:=@Int.toNat_natCast
abbrev ao:=@if_neg
abbrev aq:=@of_decide_eq_true
abbrev ar:=@List.getElem?_eq_getElem
abbrev au:=@if_pos
abbrev av:=@Nat.mul_le_mul_right
abbrev aw:=@Nat.eq_of_beq_eq_true
abbrev ay:=@List.length_singleton
abbrev az:=@List.length_cons
abbrev aA:=@decide_eq_true_eq
abbrev aB:=@List.length_nil
abbrev aC:=@List.drop_of_length_le
abbrev aD:=@List.all_eq_true
abbrev aE:=@List.append_assoc
abbrev aF:=@List.length_take
abbrev aG:=@Bool.not_true
abbrev aH:=@List.getElem?_eq_some_iff
abbrev aI:=@Bool.not_false
abbrev aJ:=@UInt64.le_iff_toNat_le
abbrev aK:=@List.mem_of_getElem?
abbrev aL:=@Option.some.injEq
abbrev aM:=@Option.map_eq_some_iff
abbrev aN:=@Option.bind_eq_some_iff
abbrev aO:=@Bool.and_eq_true_iff
abbrev aP:=@List.mem_cons
abbrev aQ:=@Int.emod_eq_of_lt
abbrev aR:=@List.getElem?_append_right
abbrev aS:=@Bool.eq_iff_iff
abbrev aT:=@UInt64.lt_iff_toNat_lt
abbrev aU:=@List.getElem?_take
abbrev aV:=@List.length_drop
abbrev aW:=@Bool.not_or_self
abbrev aX:=@List.map_cons
abbrev aY:=@decide_eq_decide
abbrev aZ:=@Bool.and_self
abbrev bc:=@List.length_map
abbrev bf:=@List.eq_nil_of_length_eq_zero
abbrev bg:=@List.mem_map
abbrev bh:=@List.drop_zero
abbrev bj:=@List.append_nil
abbrev bm:=@UInt64.toNat_inj
abbrev bn:=@Bool.or_not_self
abbrev bo:=@Option.ite_none_right_eq_some
abbrev bp:=@Bool.false_eq_true
abbrev bq:=@List.nil_append
abbrev br:=@List.getElem?_map
abbrev bt:=@List.cons.injEq
abbrev bw:=@List.map_nil
end Go.Eng
namespace Go.Eng
namespace Fl
def add (a b:Nat):Nat:=(Ieee.double.add a b).getD 0
def lx (a b:Nat):Bool:=(Ieee.double.add a b).isSome
def sub (a b:Nat):Nat:=(Ieee.double.sub a b).getD 0
def sf (a b:Nat):Bool:=(Ieee.double.sub a b).isSome
def mul (a b:Nat):Nat:=(Ieee.double.mul a b).getD 0
def oH (a b:Nat):Bool:=(Ieee.double.mul a b).isSome
def eq (a b:Nat):Bool:=Ieee.double.order a b == some .eq
def lt (a b:Nat):Bool:=Ieee.double.order a b == some .lt
def gt (a b:Nat):Bool:=Ieee.double.order a b == some .gt
def neg (a:Nat):Nat:=a ^^^ 9223372036854775808
def rT (a b c d:Nat):Nat:=sub (mul a c) (mul b d)
def rU (a b c d:Nat):Nat:=add (mul a d) (mul b c)
def oR (a b c d:Nat):Bool:=oH a c&&oH b d&&sf (mul a c) (mul b d)&&(oH a d&&oH b c&&lx (mul a d) (mul b c))
def ofInt (n:Int):Nat:=FloatKind.f64.nearest n
def kU (a:Nat):Nat:=FloatKind.f64.encode ((FloatKind.f64.decode a).integral .zero)
def num (a:Nat):Bool:=!(FloatKind.f64.decode a).isNaN
def toInt (a:Nat):Int:=(floatToIntVal .f64 a .i64).getD 0
def nv (a:Nat):Bool:=(floatToIntVal .f64 a .i64).isSome
theorem yM {a b:Nat} (h:lx a b=true):Ieee.double.add a b=some (add a b):=by
 unfold lx at h;obtain ⟨x,hx⟩:=Option.isSome_iff_exists.1 h;unfold add;rw [hx];rfl
theorem yJ {a b:Nat} (h:sf a b=true):Ieee.double.sub a b=some (sub a b):=by
 unfold sf at h;obtain ⟨x,hx⟩:=Option.isSome_iff_exists.1 h;unfold sub;rw [hx];rfl
theorem yK {a b:Nat} (h:oH a b=true):Ieee.double.mul a b=some (mul a b):=by
 unfold oH at h;obtain ⟨x,hx⟩:=Option.isSome_iff_exists.1 h;unfold mul;rw [hx];rfl
end Fl
def z6:BinOp→Value→Value→Option Value
 | .add,.float .f64 a,.float .f64 b=>if Fl.lx a b then some (.float .f64 (Fl.add a b)) else none
 | .sub,.float .f64 a,.float .f64 b=>if Fl.sf a b then some (.float .f64 (Fl.sub a b)) else none
 | .mul,.float .f64 a,.float .f64 b=>if Fl.oH a b then some (.float .f64 (Fl.mul a b)) else none
 | .eql,.float .f64 a,.float .f64 b=>some (.bool (Fl.eq a b))
 | .neq,.float .f64 a,.float .f64 b=>some (.bool (!Fl.eq a b))
 | .lss,.float .f64 a,.float .f64 b=>some (.bool (Fl.lt a b))
 | .leq,.float .f64 a,.float .f64 b=>some (.bool (Fl.lt a b || Fl.eq a b))
 | .gtr,.float .f64 a,.float .f64 b=>some (.bool (Fl.gt a b))
 | .geq,.float .f64 a,.float .f64 b=>some (.bool (Fl.gt a b || Fl.eq a b))
 | .add,.complex .f64 a b,.complex .f64 c d=>if Fl.lx a c&&Fl.lx b d then some (.complex .f64 (Fl.add a c) (Fl.add b d)) else none
 | .mul,.complex .f64 a b,.complex .f64 c d=>if Fl.oR a b c d then some (.complex .f64 (Fl.rT a b c d) (Fl.rU a b c d)) else none
 | .lss,.string a,.string b=>some (.bool (Op.bytesLess a.toList b.toList))
 | .leq,.string a,.string b=>some (.bool (Op.bytesLess a.toList b.toList || a.toList == b.toList))
 | .gtr,.string a,.string b=>some (.bool (!(Op.bytesLess a.toList b.toList || a.toList == b.toList)))
 | .geq,.string a,.string b=>some (.bool (!Op.bytesLess a.toList b.toList))
 | _,_,_=>none
section
variable {P:Program} {w:World}
theorem mL {a b:Nat} (h:Fl.lx a b=true):(Op.Complex.arith .add .f64 a b).run P w = .ok (Fl.add a b) w:=by
 have e:FloatKind.f64.format.add a b=some (Fl.add a b):=Fl.yM h
 simp [Op.Complex.arith,Op.floatArith,e]
theorem vp {a b:Nat} (h:Fl.sf a b=true):(Op.Complex.arith .sub .f64 a b).run P w = .ok (Fl.sub a b) w:=by
 have e:FloatKind.f64.format.sub a b=some (Fl.sub a b):=Fl.yJ h
 simp [Op.Complex.arith,Op.floatArith,e]
theorem kO {a b:Nat} (h:Fl.oH a b=true):(Op.Complex.arith .mul .f64 a b).run P w = .ok (Fl.mul a b) w:=by
 have e:FloatKind.f64.format.mul a b=some (Fl.mul a b):=Fl.yK h
 simp [Op.Complex.arith,Op.floatArith,e]
theorem G3 {op:BinOp} {t:TypeId} {x y z:Value} (h:z6 op x y=some z):(binOp op t x y).run P w = .ok z w:=by
 unfold z6 at h
 split at h
 ·rw [bo] at h
  obtain ⟨h1,h⟩:=h
  cases h
  have e:FloatKind.f64.format.add _ _=some (Fl.add _ _):=Fl.yM h1
  simp [binOp,Op.floatArith,e]
 ·rw [bo] at h
  obtain ⟨h1,h⟩:=h
  cases h
  have e:FloatKind.f64.format.sub _ _=some (Fl.sub _ _):=Fl.yJ h1
  simp [binOp,Op.floatArith,e]
 ·rw [bo] at h
  obtain ⟨h1,h⟩:=h
  cases h
  have e:FloatKind.f64.format.mul _ _=some (Fl.mul _ _):=Fl.yK h1
  simp [binOp,Op.floatArith,e]
 ·cases h;rfl
 ·cases h;rfl
 ·cases h;rfl
 ·cases h;rfl
 ·cases h;rfl
 ·cases h;rfl
 ·rw [bo,af] at h
  obtain ⟨⟨h1,h2⟩,h⟩:=h
  cases h
  simp [binOp,Op.complexOp,mL h1,mL h2]
 ·rw [bo] at h
  obtain ⟨h1,h⟩:=h
  cases h
  unfold Fl.oR at h1
  simp only [af] at h1
  obtain ⟨⟨⟨a1,a2⟩,a3⟩,⟨a4,a5⟩,a6⟩:=h1
  simp [binOp,Op.complexOp,Op.Complex.conv,Op.Complex.product,Op.Complex.mul,Op.Complex.sub,Op.Complex.add,kO a1,kO a2,vp a3,kO a4,kO a5,mL a6,Fl.rT,Fl.rU]
 ·cases h;rfl
 ·cases h;rfl
 ·cases h;rfl
 ·cases h;rfl
 ·cases h
theorem BH {op:BinOp} {t:TypeId} {x y:Operand} {u v z:Value} (h:z6 op u v=some z):eqGuard op t x y u v=pure ():=by
 unfold z6 at h
 split at h <;> first | rfl | cases h
theorem vo {a:Nat}:(Op.unary .neg (.float .f64 a)).run P w = .ok (.float .f64 (Fl.neg a)) w:=rfl
end
end Go.Eng
namespace Go.Eng
abbrev bz:=List UInt8
inductive bA where
 | mk (name:bz) (kind:Int) (bits high low:UInt64) (text more:bz) (sub:Int) (bytes:bz) (kids:List bA)
 deriving Inhabited
structure Val where
 kind:Int
 bits:UInt64
 high:UInt64
 low:UInt64
 text:bz
 more:bz
 sub:Int
 bytes:bz
 kids:List bA
 deriving Inhabited
namespace bA
def name:bA→bz | .mk x _ _ _ _ _ _ _ _ _=>x
def kind:bA→Int | .mk _ x _ _ _ _ _ _ _ _=>x
def bits:bA→UInt64 | .mk _ _ x _ _ _ _ _ _ _=>x
def high:bA→UInt64 | .mk _ _ _ x _ _ _ _ _ _=>x
def low:bA→UInt64 | .mk _ _ _ _ x _ _ _ _ _=>x
def text:bA→bz | .mk _ _ _ _ _ x _ _ _ _=>x
def more:bA→bz | .mk _ _ _ _ _ _ x _ _ _=>x
def sub:bA→Int | .mk _ _ _ _ _ _ _ x _ _=>x
def bytes:bA→bz | .mk _ _ _ _ _ _ _ _ x _=>x
def kids:bA→List bA | .mk _ _ _ _ _ _ _ _ _ x=>x
def val (f:bA):Val:=⟨f.kind,f.bits,f.high,f.low,f.text,f.more,f.sub,f.bytes,f.kids⟩
def of (n:bz) (v:Val):bA := .mk n v.kind v.bits v.high v.low v.text v.more v.sub v.bytes v.kids
end bA
inductive Mem where
 | mk (name:bz) (kind:Int) (text:bz) (kids:List Mem)
 deriving Inhabited
structure bP where
 kind:Int
 text:bz
 kids:List Mem
 deriving Inhabited
namespace Mem
def name:Mem→bz | .mk x _ _ _=>x
def kind:Mem→Int | .mk _ x _ _=>x
def text:Mem→bz | .mk _ _ x _=>x
def kids:Mem→List Mem | .mk _ _ _ x=>x
def val (f:Mem):bP:=⟨f.kind,f.text,f.kids⟩
def of (n:bz) (v:bP):Mem := .mk n v.kind v.text v.kids
end Mem
inductive B2 where
 | mk (kind:Int) (n:UInt64) (bytes text:bz) (kids:List B2)
 deriving Inhabited
namespace B2
def kind:B2→Int | .mk x _ _ _ _=>x
def n:B2→UInt64 | .mk _ x _ _ _=>x
def bytes:B2→bz | .mk _ _ x _ _=>x
def text:B2→bz | .mk _ _ _ x _=>x
def kids:B2→List B2 | .mk _ _ _ _ x=>x
end B2
namespace B2
end B2
structure QH where
 at_:Int
 end_:Int
 deriving Inhabited
structure Out where
 at_:Int
 bytes:bz
 Rd:List (List Int)
 err:Int
 Wn:Int
 path:List Int
 deriving Inhabited
structure dH where
 high:UInt64
 low:UInt64
 deriving Inhabited,DecidableEq
abbrev Cx:=Nat × Nat
structure Qd where
 c0:Cx
 c1:Cx
 c2:Cx
 c3:Cx
 deriving Inhabited
def Qd.set (x:Qd) (i:Nat) (y:Cx):Qd:=⟨cond (Nat.beq 0 i) y x.c0,cond (Nat.beq 1 i) y x.c1,cond (Nat.beq 2 i) y x.c2,cond (Nat.beq 3 i) y x.c3⟩
def Qd.get (x:Qd) (i:Nat):Cx:=List.getD [x.c0,x.c1,x.c2,x.c3] i (0,0)
inductive fx where
 | bs | is | ws | ss | od | fl | ml | il | sp | ou | us | qd
 deriving DecidableEq,Inhabited
abbrev fx.El:fx→Type
 | .bs=>UInt8
 | .is=>Int
 | .ws=>UInt16
 | .ss=>bz
 | .od=>List Int
 | .fl=>bA
 | .ml=>Mem
 | .il=>B2
 | .sp=>QH
 | .ou=>Out
 | .us=>UInt64
 | .qd=>Qd
def fx.size:fx→Nat
 | .fl=>10
 | .ml=>4
 | .il=>5
 | .sp=>2
 | .ou=>6
 | .qd=>4
 | _=>1
def fx.gm:(t:fx)→t.El
 | .bs=>0
 | .is=>0
 | .ws=>0
 | .ss=>[]
 | .od=>[]
 | .fl => .mk [] 0 0 0 0 [] [] 0 [] []
 | .ml => .mk [] 0 [] []
 | .il => .mk 0 0 [] [] []
 | .sp=>⟨0,0⟩
 | .ou=>⟨0,[],[],0,0,[]⟩
 | .us=>0
 | .qd=>⟨(0,0),(0,0),(0,0),(0,0)⟩
inductive TV where
 | u8 (n:UInt8)
 | u16 (n:UInt16)
 | u32 (n:UInt32)
 | u64 (n:UInt64)
 | i (k:IntKind) (n:Int)
 | b (x:Bool)
 | s (l:bz)
 | sl (t:fx) (l:List t.El)
 | ag (l:List TV)
 | tu (l:List TV)
 | ro (x:TV)
 | gd (c:Bool) (x:TV)
 | c (x:Value)
 | pt
 | dead
 | el (p z q:Nat)
 | nl (t:fx)
 | ub (e:Bool)
 deriving Inhabited
def Val.cells (v:Val):List TV:=[.i .i64 v.kind,.u64 v.bits,.u64 v.high,.u64 v.low,.s v.text,.s v.more,.i .i64 v.sub,.sl .bs v.bytes,.sl .fl v.kids]
def bA.cells (f:bA):List TV:=[.s f.name,.i .i64 f.kind,.u64 f.bits,.u64 f.high,.u64 f.low,.s f.text,.s f.more,.i .i64 f.sub,.sl .bs f.bytes,.sl .fl f.kids]
def bP.cells (v:bP):List TV:=[.i .i64 v.kind,.s v.text,.sl .ml v.kids]
def Mem.cells (f:Mem):List TV:=[.s f.name,.i .i64 f.kind,.s f.text,.sl .ml f.kids]
def B2.cells (f:B2):List TV:=[.i .i64 f.kind,.u64 f.n,.sl .bs f.bytes,.s f.text,.sl .il f.kids]
def QH.cells (f:QH):List TV:=[.i .i64 f.at_,.i .i64 f.end_]
def Out.cells (f:Out):List TV:=[.i .i64 f.at_,.sl .bs f.bytes,.sl .od f.Rd,.i .i64 f.err,.i .i64 f.Wn,.sl .is f.path]
def dH.cells (f:dH):List TV:=[.u64 f.high,.u64 f.low]
def Qd.cells (x:Qd):List TV:=[.c (.complex .f64 x.c0.1 x.c0.2),.c (.complex .f64 x.c1.1 x.c1.2),.c (.complex .f64 x.c2.1 x.c2.2),.c (.complex .f64 x.c3.1 x.c3.2)]
def fx.tv:(t:fx)→t.El→TV
 | .bs,x => .u8 x
 | .is,x => .i .i64 x
 | .ws,x => .u16 x
 | .ss,x => .s x
 | .od,x => .sl .is x
 | .fl,x => .ag (bA.cells x)
 | .ml,x => .ag (Mem.cells x)
 | .il,x => .ag (B2.cells x)
 | .sp,x => .ag (QH.cells x)
 | .ou,x => .ag (Out.cells x)
 | .us,x => .u64 x
 | .qd,x => .ag (Qd.cells x)
def fx.el:(t:fx)→TV→Option t.El
 | .bs,.u8 x=>some x
 | .is,.i .i64 x=>some x
 | .ws,.u16 x=>some x
 | .ss,.s x=>some x
 | .od,.sl .is x=>some x
 | .fl,.ag [.s n,.i .i64 k,.u64 b,.u64 h,.u64 l,.s t,.s m,.i .i64 s,.sl .bs y,.sl .fl ks]=>some (.mk n k b h l t m s y ks)
 | .ml,.ag [.s n,.i .i64 k,.s t,.sl .ml ks]=>some (.mk n k t ks)
 | .il,.ag [.i .i64 k,.u64 n,.sl .bs b,.s t,.sl .il ks]=>some (.mk k n b t ks)
 | .sp,.ag [.i .i64 a,.i .i64 e]=>some ⟨a,e⟩
 | .us,.u64 x=>some x
 | .qd,.ag [.c (.complex .f64 a b),.c (.complex .f64 c d),.c (.complex .f64 e f),.c (.complex .f64 g h)]=>some ⟨(a,b),(c,d),(e,f),(g,h)⟩
 | .ou,.ag [.i .i64 a,.sl .bs b,.sl .od l,.i .i64 e,.i .i64 f,.sl .is p]=>some ⟨a,b,l,e,f,p⟩
 | _,_=>none
theorem fx.KH {t:fx} {x:TV} {y:t.El} (h:t.el x=some y):t.tv y=x:=by
 unfold fx.el at h
 split at h <;> cases h <;> rfl
end Go.Eng
namespace Go.Eng
abbrev OT:=Option (List TV)
end Go.Eng
namespace Go.Eng
def cU (o:BinOp) (k:IntKind) (x y:Int):Int :=
 let a:=BitVec.ofInt k.bits x
 let b:=BitVec.ofInt k.bits y
 match o with
 | .and=>k.wrap (a &&& b).toNat
 | .or=>k.wrap (a ||| b).toNat
 | .xor=>k.wrap (a ^^^ b).toNat
 | _=>k.wrap (a &&& ~~~b).toNat
inductive oc where
 | ok (ws:List TV)
 | eF (p:Bool) (ws:List TV)
 | err
abbrev ck {R:Type} (p:Bool) (x:Option R):Option R:=cond p x none
theorem bU {R:Type} (x:Option R):ck true x=x:=rfl
def CL (k:IntKind) (n:Int):TV :=
 match k with
 | .u8 => .u8 (UInt8.ofInt n)
 | .u16 => .u16 (UInt16.ofInt n)
 | .u32 => .u32 (UInt32.ofInt n)
 | .u64 => .u64 (UInt64.ofInt n)
 | k => .i k (k.wrap n)
def TV.int?:TV→Option (IntKind × Int)
 | .u8 n=>some (.u8,n.toNat)
 | .u16 n=>some (.u16,n.toNat)
 | .u32 n=>some (.u32,n.toNat)
 | .u64 n=>some (.u64,n.toNat)
 | .i k n=>some (k,n)
 | _=>none
def M8 (o:BinOp) (a b:UInt8):oc :=
 match o with
 | .add => .ok [.u8 (a+b)]
 | .sub => .ok [.u8 (a - b)]
 | .mul => .ok [.u8 (a * b)]
 | .quo => .eF (!decide (b=0)) [.u8 (a / b)]
 | .rem => .eF (!decide (b=0)) [.u8 (a % b)]
 | .and => .ok [.u8 (a &&& b)]
 | .or => .ok [.u8 (a ||| b)]
 | .xor => .ok [.u8 (a ^^^ b)]
 | .andNot => .ok [.u8 (a &&& ~~~b)]
 | .eql => .ok [.b (decide (a=b))]
 | .neq => .ok [.b (!decide (a=b))]
 | .lss => .ok [.b (decide (a<b))]
 | .leq => .ok [.b (decide (a≤b))]
 | .gtr => .ok [.b (decide (b<a))]
 | .geq => .ok [.b (decide (b≤a))]
 | _ => .err
def mj (a:UInt8) (n:Nat):UInt8:=UInt8.ofNat (a.toNat * 2 ^ n)
def lO (a:UInt8) (n:Nat):UInt8:=UInt8.ofNat (a.toNat / 2 ^ n)
def HQ (o:BinOp) (a b:UInt16):oc :=
 match o with
 | .add => .ok [.u16 (a+b)]
 | .sub => .ok [.u16 (a - b)]
 | .mul => .ok [.u16 (a * b)]
 | .quo => .eF (!decide (b=0)) [.u16 (a / b)]
 | .rem => .eF (!decide (b=0)) [.u16 (a % b)]
 | .and => .ok [.u16 (a &&& b)]
 | .or => .ok [.u16 (a ||| b)]
 | .xor => .ok [.u16 (a ^^^ b)]
 | .andNot => .ok [.u16 (a &&& ~~~b)]
 | .eql => .ok [.b (decide (a=b))]
 | .neq => .ok [.b (!decide (a=b))]
 | .lss => .ok [.b (decide (a<b))]
 | .leq => .ok [.b (decide (a≤b))]
 | .gtr => .ok [.b (decide (b<a))]
 | .geq => .ok [.b (decide (b≤a))]
 | _ => .err
def Fy (a:UInt16) (n:Nat):UInt16:=UInt16.ofNat (a.toNat * 2 ^ n)
def qe (a:UInt16) (n:Nat):UInt16:=UInt16.ofNat (a.toNat / 2 ^ n)
def HO (o:BinOp) (a b:UInt32):oc :=
 match o with
 | .add => .ok [.u32 (a+b)]
 | .sub => .ok [.u32 (a - b)]
 | .mul => .ok [.u32 (a * b)]
 | .quo => .eF (!decide (b=0)) [.u32 (a / b)]
 | .rem => .eF (!decide (b=0)) [.u32 (a % b)]
 | .and => .ok [.u32 (a &&& b)]
 | .or => .ok [.u32 (a ||| b)]
 | .xor => .ok [.u32 (a ^^^ b)]
 | .andNot => .ok [.u32 (a &&& ~~~b)]
 | .eql => .ok [.b (decide (a=b))]
 | .neq => .ok [.b (!decide (a=b))]
 | .lss => .ok [.b (decide (a<b))]
 | .leq => .ok [.b (decide (a≤b))]
 | .gtr => .ok [.b (decide (b<a))]
 | .geq => .ok [.b (decide (b≤a))]
 | _ => .err
def qf (a:UInt32) (n:Nat):UInt32:=UInt32.ofNat (a.toNat * 2 ^ n)
def tV (a:UInt32) (n:Nat):UInt32:=UInt32.ofNat (a.toNat / 2 ^ n)
def HM (o:BinOp) (a b:UInt64):oc :=
 match o with
 | .add => .ok [.u64 (a+b)]
 | .sub => .ok [.u64 (a - b)]
 | .mul => .ok [.u64 (a * b)]
 | .quo => .eF (!decide (b=0)) [.u64 (a / b)]
 | .rem => .eF (!decide (b=0)) [.u64 (a % b)]
 | .and => .ok [.u64 (a &&& b)]
 | .or => .ok [.u64 (a ||| b)]
 | .xor => .ok [.u64 (a ^^^ b)]
 | .andNot => .ok [.u64 (a &&& ~~~b)]
 | .eql => .ok [.b (decide (a=b))]
 | .neq => .ok [.b (!decide (a=b))]
 | .lss => .ok [.b (decide (a<b))]
 | .leq => .ok [.b (decide (a≤b))]
 | .gtr => .ok [.b (decide (b<a))]
 | .geq => .ok [.b (decide (b≤a))]
 | _ => .err
def jr (a:UInt64) (n:Nat):UInt64:=UInt64.ofNat (a.toNat * 2 ^ n)
def dQ (a:UInt64) (n:Nat):UInt64:=UInt64.ofNat (a.toNat / 2 ^ n)
def oc.holds:oc→List TV→Prop
 | .ok ws,r=>r=ws
 | .eF p ws,r=>p=true∧r=ws
 | .err,_=>False
def M7 (o:BinOp) (k:IntKind) (a b:Int):oc :=
 match o with
 | .add => .ok [.i k (k.wrap (a+b))]
 | .sub => .ok [.i k (k.wrap (a - b))]
 | .mul => .ok [.i k (k.wrap (a * b))]
 | .quo => .eF (!decide (b=0)) [.i k (k.wrap (a.tdiv b))]
 | .rem => .eF (!decide (b=0)) [.i k (a.tmod b)]
 | .and => .ok [.i k (cU .and k a b)]
 | .or => .ok [.i k (cU .or k a b)]
 | .xor => .ok [.i k (cU .xor k a b)]
 | .andNot => .ok [.i k (cU .andNot k a b)]
 | .eql => .ok [.b (decide (a=b))]
 | .neq => .ok [.b (!decide (a=b))]
 | .lss => .ok [.b (decide (a<b))]
 | .leq => .ok [.b (decide (a≤b))]
 | .gtr => .ok [.b (decide (b<a))]
 | .geq => .ok [.b (decide (b≤a))]
 | _ => .err
def M6 (o:BinOp) (a b:bz):oc :=
 match o with
 | .add => .eF (decide (a.length+b.length≤9223372036854775807)) [.s (a++b)]
 | .eql => .ok [.b (decide (a=b))]
 | .neq => .ok [.b (!decide (a=b))]
 | .lss => .ok [.b (Op.bytesLess a b)]
 | .leq => .ok [.b (Op.bytesLess a b || decide (a=b))]
 | .gtr => .ok [.b (!(Op.bytesLess a b || decide (a=b)))]
 | .geq => .ok [.b (!Op.bytesLess a b)]
 | _ => .err
def TV.count:TV→Option (Option Bool × Nat)
 | .u8 n=>some (none,n.toNat)
 | .u16 n=>some (none,n.toNat)
 | .u32 n=>some (none,n.toNat)
 | .u64 n=>some (none,n.toNat)
 | .i _ n=>some (some (decide (0≤n)),n.toNat)
 | _=>none
def oc.under (p:Option Bool) (ws:List TV):oc :=
 match p with
 | none => .ok ws
 | some p => .eF p ws
def Lh (x y:TV):oc :=
 match y.count with
 | some (p,n)=>match x with
  | .u8 a => .under p [.u8 (mj a n)]
  | .u16 a => .under p [.u16 (Fy a n)]
  | .u32 a => .under p [.u32 (qf a n)]
  | .u64 a => .under p [.u64 (jr a n)]
  | .i k a => .under p [.i k (k.wrap (a * 2 ^ (min n k.bits)))]
  | _ => .err
 | none => .err
def Lg (x y:TV):oc :=
 match y.count with
 | some (p,n)=>match x with
  | .u8 a => .under p [.u8 (lO a n)]
  | .u16 a => .under p [.u16 (qe a n)]
  | .u32 a => .under p [.u32 (tV a n)]
  | .u64 a => .under p [.u64 (dQ a n)]
  | .i k a => .under p [.i k (a.fdiv (2 ^ (min n k.bits)))]
  | _ => .err
 | none => .err
def sW:BinOp→Option Bool
 | .shl=>some true
 | .shr=>some false
 | _=>none
def ME (o:BinOp) (x y:Value):oc :=
 match o,x,y with
 | .add,.float .f64 a,.float .f64 b => .eF (Fl.lx a b) [.c (.float .f64 (Fl.add a b))]
 | .sub,.float .f64 a,.float .f64 b => .eF (Fl.sf a b) [.c (.float .f64 (Fl.sub a b))]
 | .mul,.float .f64 a,.float .f64 b => .eF (Fl.oH a b) [.c (.float .f64 (Fl.mul a b))]
 | .eql,.float .f64 a,.float .f64 b => .ok [.b (Fl.eq a b)]
 | .neq,.float .f64 a,.float .f64 b => .ok [.b (!Fl.eq a b)]
 | .lss,.float .f64 a,.float .f64 b => .ok [.b (Fl.lt a b)]
 | .leq,.float .f64 a,.float .f64 b => .ok [.b (Fl.lt a b || Fl.eq a b)]
 | .gtr,.float .f64 a,.float .f64 b => .ok [.b (Fl.gt a b)]
 | .geq,.float .f64 a,.float .f64 b => .ok [.b (Fl.gt a b || Fl.eq a b)]
 | .add,.complex .f64 a b,.complex .f64 c d => .eF (Fl.lx a c&&Fl.lx b d) [.c (.complex .f64 (Fl.add a c) (Fl.add b d))]
 | .mul,.complex .f64 a b,.complex .f64 c d => .eF (Fl.oR a b c d) [.c (.complex .f64 (Fl.rT a b c d) (Fl.rU a b c d))]
 | _,_,_ => .err
def JP (o:BinOp) (x y:TV):oc :=
 match sW o with
 | some true=>Lh x y
 | some false=>Lg x y
 | none=>match x,y with
  | .u8 a,.u8 b=>M8 o a b
  | .u16 a,.u16 b=>HQ o a b
  | .u32 a,.u32 b=>HO o a b
  | .u64 a,.u64 b=>HM o a b
  | .i k a,.i k' b=>if k=k' then M7 o k a b else .err
  | .s a,.s b=>M6 o a b
  | .c a,.c b=>ME o a b
  | _,_ => .err
def PV (o:UnOp) (x:TV):oc :=
 match o,x with
 | .neg,.u8 a => .ok [.u8 (0 - a)]
 | .neg,.u16 a => .ok [.u16 (0 - a)]
 | .neg,.u32 a => .ok [.u32 (0 - a)]
 | .neg,.u64 a => .ok [.u64 (0 - a)]
 | .neg,.i k a => .ok [.i k (k.wrap (0 - a))]
 | .xor,.u8 a => .ok [.u8 (~~~a)]
 | .xor,.u16 a => .ok [.u16 (~~~a)]
 | .xor,.u32 a => .ok [.u32 (~~~a)]
 | .xor,.u64 a => .ok [.u64 (~~~a)]
 | .xor,.i k a => .ok [.i k (cU .xor k (if k.signed then -1 else k.max) a)]
 | .not,.b a => .ok [.b !a]
 | .neg,.c (.float .f64 a) => .ok [.c (.float .f64 (Fl.neg a))]
 | _,_ => .err
def TV.sG:TV→Bool
 | .ag _=>true
 | _=>false
def TV.cells:TV→List TV
 | .ag cs=>cs
 | x=>[x]
def TV.plain:TV→Bool
 | .u8 _=>true
 | .u16 _=>true
 | .u32 _=>true
 | .u64 _=>true
 | .i _ _=>true
 | .b _=>true
 | .s _=>true
 | .sl _ _=>true
 | .nl _=>true
 | .ag _=>true
 | .ro _=>true
 | .c x=>x.oneCell'
 | _=>false
def mA (cs:List TV) (o n:Nat) (agg:Bool):Option TV :=
 match agg with
 | true=>cond (Nat.ble (o+n) cs.length) (some (.ag ((cs.drop o).take n))) none
 | false=>cs[o]?
def gI (cs:List TV) (o:Nat) (xs:List TV):List TV:=cs.take o++xs++cs.drop (o+xs.length)
def TV.On:TV→Bool
 | .pt=>true
 | x=>x.plain
def oO (z:List TV):List (Nat × Nat)→List TV→OT
 | [],[]=>some z
 | (o,n) :: pl,x :: xs=>cond (x.On&&Nat.beq x.cells.length n&&Nat.ble (o+n) z.length) (oO (gI z o x.cells) pl xs) none
 | _,_=>none
def xk (e:TV) (o n:Nat) (agg:Bool):Option TV :=
 match e with
 | .ag cs=>mA cs o n agg
 | x=>cond (Nat.beq o 0&&Nat.beq n 1&&!agg) (some x) none
def Bh (e:TV) (o:Nat) (x:TV):Option TV :=
 match e with
 | .ag cs=>cond (Nat.ble (o+x.cells.length) cs.length) (some (.ag (gI cs o x.cells))) none
 | _=>cond (Nat.beq o 0&&!x.sG) (some x) none
def fx.app:(t:fx)→List t.El→(t':fx)→List t'.El→Option (List t.El)
 | .bs,l,.bs,m=>some (l++m)
 | .is,l,.is,m=>some (l++m)
 | .ws,l,.ws,m=>some (l++m)
 | .ss,l,.ss,m=>some (l++m)
 | .od,l,.od,m=>some (l++m)
 | .fl,l,.fl,m=>some (l++m)
 | .ml,l,.ml,m=>some (l++m)
 | .il,l,.il,m=>some (l++m)
 | .sp,l,.sp,m=>some (l++m)
 | .ou,l,.ou,m=>some (l++m)
 | .us,l,.us,m=>some (l++m)
 | .qd,l,.qd,m=>some (l++m)
 | _,_,_,_=>none
def fx.Pn (t:fx):List TV→Option (List t.El)
 | []=>some []
 | x :: r=>match t.el x with
  | some y=>match t.Pn r with
   | some l=>some (y :: l)
   | none=>none
  | none=>none
def allM {A:Type} (f:TV→Option A):List TV→Option (List A)
 | []=>some []
 | x :: r=>match f x with
  | some y=>match allM f r with
   | some l=>some (y :: l)
   | none=>none
  | none=>none
def TV.str?:TV→Option bz | .s l=>some l | _=>none
def TV.i64?:TV→Option Int | .i .i64 l=>some l | _=>none
def TV.u8?:TV→Option UInt8 | .u8 l=>some l | _=>none
def TV.u64?:TV→Option UInt64 | .u64 l=>some l | _=>none
def TV.bool?:TV→Option Bool | .b l=>some l | _=>none
def TV.cx?:TV→Option Cx | .c (.complex .f64 x y)=>some (x,y) | _=>none
def TV.sl? (t:fx):TV→Option (List t.El)
 | .sl t' l=>if h:t'=t then some (h ▸ l) else none
 | _=>none
def EK (cs:List TV) (n:Nat):Option TV :=
 match cs with
 | .s _ :: _=>match allM TV.str? cs with | some l=>some (.s (l.getD n [])) | none=>none
 | .i _ _ :: _=>match allM TV.i64? cs with | some l=>some (.i .i64 (l.getD n 0)) | none=>none
 | .u8 _ :: _=>match allM TV.u8? cs with | some l=>some (.u8 (l.getD n 0)) | none=>none
 | .u64 _ :: _=>match allM TV.u64? cs with | some l=>some (.u64 (l.getD n 0)) | none=>none
 | .b _ :: _=>match allM TV.bool? cs with | some l=>some (.b (l.getD n false)) | none=>none
 | .c _ :: _=>match allM TV.cx? cs with | some l=>some (.c (.complex .f64 (List.getD l n (0,0)).1 (List.getD l n (0,0)).2)) | none=>none
 | .sl t _ :: _=>match allM (TV.sl? t) cs with | some l=>some (.sl t (l.getD n [])) | none=>none
 | _=>none
def M0 (s m j:Nat) (cs:List TV):List TV:=(List.range m).map fun q=>cs.getD (q * s+j) .dead
def Am (s m n:Nat) (cs:List TV):Nat→OT
 | 0=>some []
 | j+1=>match EK (M0 s m (s - (j+1)) cs) n with
  | some x=>match Am s m n cs j with
   | some xs=>some (x :: xs)
   | none=>none
  | none=>none
def so (n:Nat):Bool:=decide (n≤maxLen)
def bD (n:Int) (l:Nat):Bool:=decide (0≤n)&&decide (n<l)
def gY (a b:Int) (l:Nat):Bool:=decide (0≤a)&&decide (a≤b)&&decide (b≤l)
def fi (n pf:Nat):Bool:=decide (n≤maxLen)&&decide (n * pf≤140737488355328)
def pO (l c:Int) (pf:Nat):Bool:=decide (0≤l)&&decide (l≤c)&&decide (c * pf≤140737488355328)&&decide (c≤maxLen)
def TV.bare:TV→TV
 | .gd _ x=>x
 | x=>x
def TV.HA:TV→Option Bool
 | .gd q _=>some q
 | _=>none
def FN (t:Bool) (x y:TV):Option TV :=
 match x,y with
 | .b a,.b b=>some (.b (cond t a b))
 | .i k a,.i k' b=>if k=k' then some (.i k (cond t a b)) else none
 | .u8 a,.u8 b=>some (.u8 (cond t a b))
 | .u16 a,.u16 b=>some (.u16 (cond t a b))
 | .u32 a,.u32 b=>some (.u32 (cond t a b))
 | .u64 a,.u64 b=>some (.u64 (cond t a b))
 | .s a,.s b=>some (.s (cond t a b))
 | _,_=>none
def Cq (t:Bool) (x y:TV):oc :=
 match FN t x.bare y.bare with
 | some z=>match x.HA,y.HA with
  | none,none => .ok [z]
  | some p,none => .eF (!t || p) [z]
  | none,some q => .eF (t || q) [z]
  | some p,some q => .eF (cond t p q) [z]
 | none => .err
def A5:Nat→List Cx→Nat→Cx→List Cx
 | _,[],_,_=>[]
 | j,p :: r,i,q=>cond (Nat.beq j i) q p :: A5 (j+1) r i q
def Sw (p:Cx):TV := .c (.complex .f64 p.1 p.2)
def Cz:List Cx→List TV
 | []=>[]
 | p :: r => .c (.complex .f64 p.1 p.2) :: Cz r
def P5 (cs:List TV) (i:Nat) (x:TV):OT :=
 match x.cx?,allM TV.cx? cs with
 | some q,some l=>some (Cz (A5 0 l i q))
 | _,_=>none
end Go.Eng
namespace Go.Eng
inductive Gh where
 | no | hid | zz | ptr (m o:Nat) | fB (k:Nat) | pe (k:Nat) | J6 (l:List (Nat × Nat)) | ow (ts:List (Nat × Nat)) | cl (ts:List (Nat × Nat)) | pv | lv | us | pw (d:Nat) | pc (r:Nat)
 deriving DecidableEq,Inhabited
abbrev Cell:=TV × Gh
abbrev St:=Nat→Cell
inductive Md where
 | pl | rf | sl | sm | gv
 deriving DecidableEq,Inhabited
structure bW where
 md:List Md:=[]
 fh:Nat:=1
 own:List Nat:=[]
abbrev eu:=List TV→oc
structure cr where
 fs:Nat→eu × bW
 ty:Nat→Option (fx × Nat)
 z:Nat→OT
 ld:List Nat:=[]
def nrm:TV→TV
 | .nl t => .sl t []
 | x=>x
def Ol:TV→TV
 | .nl t => .sl t []
 | .ag cs => .ag (cs.map nrm)
 | x=>x
def LQ (k:IntKind) (n:Int):Option TV :=
 match k with
 | .u8=>cond (decide (0≤n)&&decide (n<256)) (some (.u8 (UInt8.ofNat n.toNat))) none
 | .u16=>cond (decide (0≤n)&&decide (n<65536)) (some (.u16 (UInt16.ofNat n.toNat))) none
 | .u32=>cond (decide (0≤n)&&decide (n<4294967296)) (some (.u32 (UInt32.ofNat n.toNat))) none
 | .u64=>cond (decide (0≤n)&&decide (n<18446744073709551616)) (some (.u64 (UInt64.ofNat n.toNat))) none
 | k=>some (.i k n)
def Q4:Value→Option TV
 | .bool b=>some (.b b)
 | .int k n=>LQ k n
 | .string s=>some (.s s.data.toList)
 | .float k b=>some (.c (.float k b))
 | .complex k a b=>some (.c (.complex k a b))
 | .pointer none=>some (.c (.pointer none))
 | .nilFunc=>some (.c .nilFunc)
 | .nilIface=>some (.c .nilIface)
 | _=>none
def B3:Value→TV→Bool
 | .slice none 0 0,.nl _=>true
 | .bool b,.b c=>b == c
 | .int .u8 n,.u8 m=>n == m.toNat
 | .int .u16 n,.u16 m=>n == m.toNat
 | .int .u32 n,.u32 m=>n == m.toNat
 | .int .u64 n,.u64 m=>n == m.toNat
 | .int j n,.i k m=>j == k&&n == m
 | .string s,.s l=>s.data.toList == l
 | .float j n,.c (.float k m)=>j == k&&n == m
 | .complex j n n',.c (.complex k m m')=>j == k&&n == m&&n' == m'
 | .pointer none,.c (.pointer none)=>true
 | .nilFunc,.c .nilFunc=>true
 | .nilIface,.c .nilIface=>true
 | _,_=>false
def og:List Value→List TV→Bool
 | [],[]=>true
 | x :: xs,y :: ys=>B3 x y&&og xs ys
 | _,_=>false
structure gX where
 p:Option Bool
 x:Cell
 ws:List (Nat × Cell):=[]
def gX.ok (x:TV) (g:Gh := .no) (ws:List (Nat × Cell):=[]):Option gX:=some ⟨none,(x,g),ws⟩
def gX.eF (p:Bool) (x:TV) (g:Gh := .no) (ws:List (Nat × Cell):=[]):Option gX:=some ⟨some p,(x,g),ws⟩
def oc.KJ (r:oc):Option gX :=
 match r with
 | .ok [x]=>gX.ok x
 | .eF p [x]=>gX.eF p x
 | _=>none
def rr (nt:Nat) (V:St) (k:Nat):Bool:=decide ((V k).2 = .no)&&Nat.blt k 1000000&&Nat.ble nt k
def Jd (a b:Int):Int:=if b<a then b else a
def nZ (a b:Int):Int:=if a<b then b else a
abbrev fw {A:Type} (p:Bool) (x:Option A):Option A:=cond p x none
section
variable (P:Program) (E:cr) (nt:Nat) (own:Nat→Nat) (V:St)
def jl (t:TypeId):Option (Nat × Bool) :=
 (P.info? t).bind fun i=>(P.underlying t).map fun d=>(i.size,match d with | .struct _=>true | .array _ _=>true | _=>false)
def rJ (t:TypeId) (f:Nat):Option Field:=(P.underlying t).bind fun d=>match d with | .struct fs=>fs[f]? | _=>none
def Hy (t:TypeId) (v:Value):Option TV :=
 match v with
 | .slice none 0 0=>(E.ty t).map fun p => .nl p.1
 | .agg cs=>(E.z t).bind fun z=>fw (og cs.toList z) (some (.ag z))
 | v=>Q4 v
def gr (t:TypeId) (o:Operand):Option Cell :=
 match o with
 | .tmp i=>fw (Nat.blt i nt) (match V i with
  | (_,.hid)=>none
  | c=>some c)
 | .const v=>(Hy E t v).map fun x=>(x,.no)
 | .func f=>some (.c (.func (.func f) #[] #[]),.no)
 | .global _=>none
def vi (c:Cell):Option TV :=
 match c with
 | (.pt,.fB k)=>match V k with
  | (y,.pv)=>some y
  | (y,.lv)=>some y
  | (y,.us)=>some y
  | (y,.pw _)=>some y
  | (y,.pc _)=>some y
  | _=>none
 | (x,.no)=>some (Ol x)
 | _=>none
def CU (c:Cell):Option (TV × List (Nat × Cell)) :=
 match c with
 | (.pt,.fB k)=>match V k with
  | (y,.pv)=>some (y,[(k,(y,.lv))])
  | (y,.lv)=>some (y,[])
  | (y,.us)=>fw y.plain (some (y,[]))
  | _=>none
 | (x,.no)=>some (Ol x,[])
 | _=>none
def nh (o n:Nat):List (Nat × Nat)→List TV→Option (List TV × List (Nat × Cell))
 | [],cs=>some (cs,[])
 | (c,k) :: r,cs=>match nh o n r cs with
  | some (cs,ws)=>cond (Nat.ble o c&&Nat.blt c (o+n)) (match CU V (.pt,.fB k) with
   | some (x,us)=>some (cs.set c x,us++ws)
   | none=>none) (some (cs,ws))
  | none=>none
def zZ (c:Cell):Option (TV × List (Nat × Cell)) :=
 match c with
 | (.ag cs,.ow ts)=>match nh V 0 cs.length ts cs with
  | some (cs,ws)=>some (.ag (cs.map nrm),ws)
  | none=>none
 | c=>CU V c
def Io:List Cell→Option (List TV × List (Nat × Cell))
 | []=>some ([],[])
 | c :: r=>match zZ V c with
  | some (x,ws)=>match Io r with
   | some (xs,us)=>some (x :: xs,ws++us)
   | none=>none
  | none=>none
def nL:List Cell→Option (List Cell × Nat)
 | []=>none
 | [(.pt,.fB k)]=>some ([],k)
 | [_]=>none
 | c :: d :: r=>match nL (d :: r) with
  | some (cs,k)=>some (c :: cs,k)
  | none=>none
def pq (ts:List TypeId) (os:List Operand):Option (List Cell) :=
 match ts,os with
 | [],[]=>some []
 | t :: ts,o :: os=>match gr E nt V t o with
  | some c=>match pq ts os with
   | some cs=>some (c :: cs)
   | none=>none
  | none=>none
 | _,_=>none
def Cl (o n:Nat) (ts:List (Nat × Nat)):List (Nat × Nat):=ts.filter fun t=>Nat.blt t.1 o || Nat.ble (o+n) t.1
def mc (c:Nat):List (Nat × Nat)→Option Nat
 | []=>none
 | (d,k) :: r=>cond (Nat.beq d c) (some k) (mc c r)
def Nc (m:Md) (c:Cell):Option (TV × List (Nat × Cell)) :=
 match m,c with
 | .pl,c=>zZ V c
 | .rf,(.pt,.ptr k 0)=>match V k with
  | (.ag cs,.cl ts)=>match nh V 0 cs.length ts cs with
   | some (cs,ws)=>some (.ag (cs.map nrm),ws)
   | none=>none
  | _=>none
 | .rf,_=>none
 | m,(.pt,.fB k)=>match m,V k with
  | _,(y,.pv)=>some (y,[])
  | .sm,(y,.pc _)=>some (y,[])
  | _,_=>none
 | .sm,(.nl t,.no)=>some (.sl t [],[])
 | .gv,(.nl t,.no)=>some (.sl t [],[])
 | _,_=>none
def AA (ms:List Md):List Cell→Option (List TV × List (Nat × Cell))
 | []=>some ([],[])
 | c :: r=>match Nc V (ms.headD .pl) c with
  | some (x,ws)=>match AA ms.tail r with
   | some (xs,us)=>some (x :: xs,ws++us)
   | none=>none
  | none=>none
def kE:List Md→List TV→List TV→OT
 | [],_,outs=>fw outs.isEmpty (some [])
 | .rf :: ms,_ :: ins,x :: outs=>(kE ms ins outs).map (x :: ·)
 | .sl :: ms,_ :: ins,x :: outs=>(kE ms ins outs).map (x :: ·)
 | .pl :: ms,y :: ins,outs=>(kE ms ins outs).map (y :: ·)
 | .sm :: ms,y :: ins,outs=>(kE ms ins outs).map (y :: ·)
 | .gv :: ms,y :: ins,outs=>(kE ms ins outs).map (y :: ·)
 | _ :: _,_,_=>none
def lu (m:Md) (c:Cell) (y:TV):Option (Nat × Cell) :=
 match m,c.2 with
 | .rf,.ptr k _=>some (k,(y,.cl []))
 | .sl,.fB k=>some (k,(y,.pv))
 | .sm,.fB k=>some (k,(y,(V k).2))
 | .gv,.fB k=>some (k,(.dead,.zz))
 | _,_=>none
def ig:List Md→List Cell→List TV→List (Nat × Cell)
 | m :: ms,c :: cs,y :: ys=>match lu V m c y with
  | some p=>p :: ig ms cs ys
  | none=>ig ms cs ys
 | _,_,_=>[]
def xR:List (Nat × Cell)→Bool
 | []=>true
 | (k,_) :: r=>(r.all fun p=>!Nat.beq p.1 k)&&xR r
def po (outs:List TV) (i:Nat):Option TV:=cond (Nat.blt i 1000) (outs[i]?) (match outs[0]? with | some (TV.ag cs)=>cs[i - 1000]? | _=>none)
def I9:List Nat→Nat→List TV→Option (List (Nat × Cell))
 | [],_,_=>some []
 | i :: r,j,outs=>match po outs i with
  | some x=>fw (rr nt V (own j)) ((I9 r (j+1) outs).map ((own j,(x,.pv)) :: ·))
  | none=>none
def P0 (l:List Nat):TV→TV
 | .ag cs => .ag (cs.mapIdx fun c y=>cond (l.contains (1000+c)) .pt y)
 | x=>x
def kI (l:List Nat):Bool:=l.all fun i=>Nat.blt i 1000
def pJ (l:List Nat) (outs:List TV):List TV:=cond (kI l) (outs.mapIdx fun i x=>cond (l.contains i) .pt x) (outs.map (P0 l))
def okO (sg:bW):Bool:=kI sg.own || (Nat.beq sg.fh 1&&Nat.beq sg.own.length 1)
def DH (sg:bW) (outs:List TV):Cell :=
 cond (Nat.beq sg.fh 1) (match sg.own with
  | []=>(outs.headD .dead,.no)
  | i :: _=>cond (Nat.blt i 1000) (.pt,.fB (own 0)) ((pJ sg.own outs).headD .dead,.ow [(i - 1000,own 0)]))
  (.tu (pJ sg.own outs),cond sg.own.isEmpty .no (.J6 (sg.own.mapIdx fun j i=>(i,own j))))
def Ar (sg:bW) (cs:List Cell) (xs:List TV) (ws:List (Nat × Cell)) (p:Option Bool) (outs:List TV):Option gX :=
 fw (Nat.ble sg.fh outs.length&&Nat.blt 0 nt&&okO sg) (match I9 nt own V sg.own 0 (outs.take sg.fh),kE sg.md xs (outs.drop sg.fh) with
  | some ns,some ys=>fw (xR (ig V sg.md cs ys)&&(ws.all fun q=>(ig V sg.md cs ys).all fun p=>!Nat.beq p.1 q.1)) (some ⟨p,DH own sg (outs.take sg.fh),ig V sg.md cs ys++(ns++ws)⟩)
  | _,_=>none)
def C8 (f:Nat) (ts:List TypeId) (args:List Operand):Option gX :=
 match pq E nt V ts args with
 | some cs=>match AA V (E.fs f).2.md cs with
  | some (xs,ws)=>match (E.fs f).1 xs with
   | .ok outs=>Ar nt own V (E.fs f).2 cs xs ws none outs
   | .eF p outs=>Ar nt own V (E.fs f).2 cs xs ws (some p) outs
   | .err=>none
  | none=>none
 | none=>none
def I8 (x:TV) (p:Option Bool) (ws:List (Nat × Cell)):Option gX:=fw (rr nt V (own 0)) (some ⟨p,(.pt,.fB (own 0)),(own 0,(x,.pv)) :: ws⟩)
def CD (pf:Nat) (k:Nat) (t:fx) (l:List t.El) (st':fx) (m:List st'.El) (ws:List (Nat × Cell)):Option gX :=
 match t.app l st' m with
 | some n=>fw (rr nt V (own 0)) (some ⟨some (fi (l.length+m.length) pf),(.pt,.fB (own 0)),[(own 0,(.sl t n,.pc k)),(k,(.sl t l,.pw (own 0)))]++ws⟩)
 | none=>none
def JY (st:fx) (pf:Nat) (c:Cell) (st':fx) (m:List st'.El):Option gX :=
 match c with
 | (.pt,.fB k)=>match V k with
  | (.sl t l,.pv)=>match E.ld.contains (own 0) with
   | true=>fw (decide (t=st)) (CD nt own V pf k t l st' m [])
   | false=>match t.app l st' m with
    | some n=>fw (decide (t=st)&&rr nt V (own 0)) (some ⟨some (fi (l.length+m.length) pf),(.pt,.fB (own 0)),[(own 0,(.sl t n,.pv)),(k,(.dead,.zz))]⟩)
    | none=>none
  | (.sl t l,.pw d)=>fw (decide (t=st)) (CD nt own V pf k t l st' m [(d,(.dead,.zz))])
  | (.sl t l,.lv)=>match t.app l st' m with
   | some n=>fw (decide (t=st)&&rr nt V (own 0)) (some ⟨some (fi (l.length+m.length) pf),(.pt,.fB (own 0)),[(own 0,(.sl t n,.lv)),(k,(.sl t l,.us))]⟩)
   | none=>none
  | _=>none
 | (.nl t,.no)=>fw (decide (t=st')&&decide (t=st)) (I8 nt own V (.sl st' m) (some (fi m.length pf)) [])
 | _=>none
def uW (b:Builtin) (ts:List TypeId) (args:List Operand):Option gX :=
 match b,ts,args with
 | .len,[t],[x]=>match P.underlying t,(gr E nt V t x).bind (vi V) with
  | some (.slice _),some (.sl _ l)=>gX.ok (.i .i64 l.length)
  | some .string,some (.s l)=>gX.ok (.i .i64 l.length)
  | _,_=>none
 | .append,[t,u],[x,y]=>match E.ty t,gr E nt V t x,P.underlying u,(gr E nt V u y).bind (vi V) with
  | some (st,pf),some c,some (.slice _),some (.sl st' m)=>JY E nt own V st pf c st' m
  | some (st,pf),some c,some .string,some (.s m)=>JY E nt own V st pf c .bs m
  | _,_,_,_=>none
 | .min,_,[x,y]=>match gr E nt V 0 x,gr E nt V 0 y with
  | some (.i k a,.no),some (.i k' b,.no)=>fw (decide (k=k')) (gX.ok (.i k (Jd a b)))
  | _,_=>none
 | .max,_,[x,y]=>match gr E nt V 0 x,gr E nt V 0 y with
  | some (.i k a,.no),some (.i k' b,.no)=>fw (decide (k=k')) (gX.ok (.i k (nZ a b)))
  | _,_=>none
 | .real,_,[x]=>match gr E nt V 0 x with
  | some (.c (.complex k a _),.no)=>gX.ok (.c (.float k a))
  | _=>none
 | .imag,_,[x]=>match gr E nt V 0 x with
  | some (.c (.complex k _ b),.no)=>gX.ok (.c (.float k b))
  | _=>none
 | .complex,_,[x,y]=>match gr E nt V 0 x,gr E nt V 0 y with
  | some (.c (.float .f64 a),.no),some (.c (.float .f64 b),.no)=>gX.ok (.c (.complex .f64 a b))
  | _,_=>none
 | _,_,_=>none
def Hx (s d:TypeId) (x:TV):Option gX :=
 match P.underlying s,P.underlying d with
 | some (.int _),some (.int k)=>match x.int? with
  | some (_,n)=>gX.ok (CL k n)
  | none=>none
 | some (.int _),some (.float .f64)=>match x with
  | .i _ n=>gX.ok (.c (.float .f64 (Fl.ofInt n)))
  | _=>none
 | some (.float .f64),some (.int .i64)=>match x with
  | .c (.float .f64 b)=>gX.eF (Fl.nv b) (.i .i64 (Fl.toInt b))
  | _=>none
 | some .string,some .string=>match x with
  | .s l=>gX.ok (.s l)
  | _=>none
 | some .string,some (.slice e)=>match P.underlying e,x with
  | some (.int .u8),.s l=>I8 nt own V (.sl .bs l) (some (so l.length)) []
  | _,_=>none
 | some (.slice e),some .string=>match P.underlying e,x with
  | some (.int .u8),.sl .bs l=>gX.ok (.s l)
  | _,_=>none
 | _,_=>none
def MZ (t:fx) (l:List t.El) (lo hi:Option Int):Option gX :=
 match lo,hi with
 | some a,some b=>gX.eF (gY a b l.length) (.sl t ((l.take b.toNat).drop a.toNat))
 | some a,none=>gX.eF (gY a l.length l.length) (.sl t (l.drop a.toNat))
 | none,some b=>gX.eF (gY 0 b l.length) (.sl t (l.take b.toNat))
 | none,none=>gX.ok (.sl t l)
def MY (l:bz) (lo hi:Option Int):Option gX :=
 match lo,hi with
 | some a,some b=>gX.eF (gY a b l.length) (.s ((l.take b.toNat).drop a.toNat))
 | some a,none=>gX.eF (gY a l.length l.length) (.s (l.drop a.toNat))
 | none,some b=>gX.eF (gY 0 b l.length) (.s (l.take b.toNat))
 | none,none=>gX.ok (.s l)
def pS (o:Operand):Option Int :=
 match gr E nt V 0 o with
 | some (x,.no)=>(x.int?).map (·.2)
 | _=>none
def mF (o:Option Operand):Option (Option Int) :=
 match o with
 | none=>some none
 | some o=>(pS E nt V o).map some
def sF (x:TypeId) (st:fx):Bool:=match E.ty x with | some (st',_)=>Nat.beq st'.size st.size | none=>false
def Hu (t:TypeId) (c:Cell) (lo hi:Option Int):Option gX :=
 match zZ V c with
 | some (.sl st l,ws)=>fw (sF E t st) ((MZ st l lo hi).map fun e=>{ e with ws:=ws })
 | _=>none
def F9 (t:TypeId) (c:Cell):Option gX :=
 match jl P t with
 | some (n,agg)=>fw (agg || Nat.beq n 1) (match c with
  | (.pt,.ptr m o)=>match V m with
   | (.ag cs,.cl ts)=>match agg,mc o ts with
    | false,some k=>gX.ok .pt (.fB k)
    | _,_=>match E.ld.contains (own 0) with
     | true=>fw (agg&&Nat.beq o 0&&Nat.beq n cs.length) (gX.ok (.ag cs) (.ow ts))
     | false=>match nh V o n ts cs with
      | some (cs,ws)=>match mA cs o n agg with
       | some x=>gX.ok x .no ws
       | none=>none
      | none=>none
   | _=>none
  | (.el i s o,.pe k)=>match V k with
   | (.sl t l,g)=>match xk (t.tv (l.getD i t.gm)) o n agg with
    | some x=>fw ((decide (g = .pv) || decide (g = .lv))&&Nat.beq s t.size) (gX.eF (decide (i<l.length)) x)
    | none=>none
   | (.ag cs,.cl [])=>match EK cs i with
    | some x=>fw (Nat.beq s 1&&Nat.beq o 0&&Nat.beq n 1&&!agg) (gX.eF (decide (i<cs.length)) x)
    | none=>none
   | _=>none
  | (.ro x,.no)=>fw (x.plain&&(x.sG == agg)&&Nat.beq x.cells.length n) (gX.ok x)
  | _=>none)
 | none=>none
def A0 (t:TypeId) (c v:Cell):Option gX :=
 match jl P t with
 | some (n,_)=>match c with
  | (.pt,.ptr m o)=>match V m with
   | (.ag cs,.cl ts)=>match v with
    | (.pt,.fB k)=>fw (Nat.beq n 1&&Nat.blt o cs.length&&(!Nat.beq k m&&ts.all fun t=>!Nat.beq t.2 m)) (some ⟨none,(.dead,.no),[(m,(.ag (gI cs o [.pt]),.cl ((o,k) :: Cl o n ts)))]⟩)
    | (.ag xs,.ow us)=>fw (Nat.beq o 0&&Nat.beq xs.length n&&Nat.beq n cs.length&&us.all fun t=>!Nat.beq t.2 m) (some ⟨none,(.dead,.no),[(m,(.ag xs,.cl us))]⟩)
    | (x,.no)=>fw (x.plain&&Nat.beq x.cells.length n&&Nat.ble (o+n) cs.length&&ts.all fun t=>!Nat.beq t.2 m) (some ⟨none,(.dead,.no),[(m,(.ag (gI cs o x.cells),.cl (Cl o n ts)))]⟩)
    | _=>none
   | _=>none
  | (.el i s o,.pe k)=>match zZ V v with
   | some (x,ws)=>match V k with
    | (.sl t l,.pv)=>match Bh (t.tv (l.getD i t.gm)) o x with
     | some y=>match t.el y with
      | some z=>fw (x.plain&&Nat.beq s t.size&&Nat.beq x.cells.length n&&ws.all fun p=>!Nat.beq p.1 k) (some ⟨some (decide (i<l.length)),(.dead,.no),(k,(.sl t (l.set i z),.pv)) :: ws⟩)
      | none=>none
     | none=>none
    | (.ag cs,.cl [])=>match P5 cs i x with
     | some ds=>fw (Nat.beq s 1&&Nat.beq o 0&&Nat.beq n 1&&ws.all fun p=>!Nat.beq p.1 k) (some ⟨some (decide (i<cs.length)),(.dead,.no),(k,(.ag ds,.cl [])) :: ws⟩)
     | none=>none
    | _=>none
   | none=>none
  | _=>none
 | none=>none
def oA (t:TypeId) (j:Nat):Option (Nat × (Nat × TypeId)) :=
 match P.underlying t with
 | some (.struct fs)=>(fs[j]?).bind fun f=>(P.info? f.type).map fun i=>(f.offset,i.size,f.type)
 | some (.array _ e)=>(P.info? e).map fun i=>(j * i.size,i.size,e)
 | _=>none
def nB (t:TypeId):List (Nat × Operand)→Option (List (Nat × (Nat × TypeId)))
 | []=>some []
 | (j,_) :: r=>match oA P t j,nB t r with
  | some q,some l=>some (q :: l)
  | _,_=>none
def Rh (x:TypeId) (c:Cell) (n:Int):Option gX :=
 match P.underlying x,c with
 | some (.slice _),(.pt,.fB k)=>match V k with
  | (.sl t l,.pv)=>fw (sF E x t) (gX.eF (bD n l.length) (.el n.toNat t.size 0) (.pe k))
  | (.sl t l,.lv)=>fw (sF E x t) (gX.eF (bD n l.length) (.ro (t.tv (l.getD n.toNat t.gm))))
  | (.sl t l,.us)=>fw (sF E x t) (gX.eF (bD n l.length) (.ro (t.tv (l.getD n.toNat t.gm))))
  | _=>none
 | some (.slice _),(.sl t l,.no)=>fw (sF E x t) (gX.eF (bD n l.length) (.ro (t.tv (l.getD n.toNat t.gm))))
 | some (.array m e),(.pt,.ptr k 0)=>match V k with
  | (.ag _,.cl _)=>(P.info? e).bind fun i=>gX.eF (bD n m) (.el n.toNat i.size 0) (.pe k)
  | _=>none
 | _,_=>none
def LW:String:=((Extern.BytealgIndexByte.rows[1]?).map Prod.fst).getD ""
def Fg:String := "math.archTrunc"
def qE (f:Nat) (nm:String):Bool:=(P.funcs[f]?).any fun fn=>fn.name == nm&&fn.body.isNone&&(fn.origin == "" || fn.origin == nm)
def MI (f:Nat) (cs:Option (List Cell)):Option gX:=match cs with
 | some [(.c (.float .f64 b),.no)]=>fw (qE P f Fg) (gX.eF (Fl.num b) (.c (.float .f64 (Fl.kU b))))
 | some [(.s l,.no),(.u8 c,.no)]=>fw (qE P f LW) (gX.ok (.i .i64 (Lib.indexByte l c)))
 | _=>none
def CQ (f:Nat):Bool:=match P.funcs[f]? with
 | some fn=>fn.body.isSome
 | none=>true
def CJ (f:Field) (o:Nat):Bool:=f.name != "_" && Nat.beq f.offset o&&match P.underlying f.type with | some (.int .u64)=>true | _=>false
def NP (t:TypeId) (fs:Array Field) (x y:TV):Option Bool :=
 match fs.toList,x,y with
 | [f,g],.ag [.u64 a,.u64 b],.ag [.u64 c,.u64 d]=>fw (CJ P f 0&&CJ P g 1&&!P.stoodInHeld t&&!P.eqGuardType P.depth t) (some (decide (a=c)&&decide (b=d)))
 | _,_,_=>none
def yH (ty:TypeId) (op:Op):Option gX :=
 match op with
 | .move x=>(gr E nt V ty x).map fun c=>⟨none,c,[]⟩
 | .assign x=>(gr E nt V ty x).map fun c=>⟨none,c,[]⟩
 | .pick c a b=>match gr E nt V 0 c,gr E nt V ty a,gr E nt V ty b with
  | some (.b t,.no),some (x,.no),some (y,.no)=>(Cq t x y).KJ
  | _,_,_=>none
 | .binOp o t x y u=>match gr E nt V t x,gr E nt V u y with
  | some c,some d=>match P.underlying t with
   | some (.slice _)=>match o,vi V c,d with
    | .eql,some (.sl _ l),(.nl _,.no)=>gX.ok (.ub l.isEmpty)
    | _,_,_=>none
   | some .bool=>match o,c,d with
    | .eql,(.b a,.no),(.b b,.no)=>gX.ok (.b (a == b))
    | .neq,(.b a,.no),(.b b,.no)=>gX.ok (.b (!(a == b)))
    | _,_,_=>none
   | some (.struct fs)=>match o,c,d with
    | .eql,(a,.no),(b,.no)=>(NP P t fs a b).bind fun r=>gX.ok (.b r)
    | .neq,(a,.no),(b,.no)=>(NP P t fs a b).bind fun r=>gX.ok (.b !r)
    | _,_,_=>none
   | _=>match c,d with
    | (a,.no),(b,.no)=>(JP o a b).KJ
    | _,_=>none
  | _,_=>none
 | .unOp o t x=>match gr E nt V t x with
  | some (a,.no)=>(PV o a).KJ
  | _=>none
 | .convert s d x=>match gr E nt V s x with
  | some c=>match vi V c with
   | some a=>Hx P nt own V s d a
   | none=>none
  | none=>none
 | .call { callee := .builtin b,args,argTypes }=>uW P E nt own V b argTypes.toList args.toList
 | .call { callee := .value (.func f),args,argTypes }=>cond (CQ P f) (C8 E nt own V f argTypes.toList args.toList) (MI P f (pq E nt V argTypes.toList args.toList))
 | .call { callee := .value (.tmp i),args,argTypes }=>match gr E nt V 0 (.tmp i) with
  | some (.c (.func (.func f) ⟨[]⟩ ⟨[]⟩),.no)=>C8 E nt own V f argTypes.toList args.toList
  | _=>none
 | .indexAddr t x i=>match gr E nt V t x,pS E nt V i with
  | some c,some n=>Rh P E V t c n
  | _,_=>none
 | .index t x i=>match gr E nt V t x,pS E nt V i with
  | some (.s l,.no),some n=>match P.underlying t with
   | some .string=>gX.eF (bD n l.length) (.u8 (l.getD n.toNat 0))
   | _=>none
  | some (.ag cs,.no),some n=>match P.underlying t with
   | some (.array m e)=>match jl P e with
    | some (1,false)=>match EK cs n.toNat with
     | some x=>fw (Nat.beq m cs.length) (gX.eF (bD n m) x)
     | none=>none
    | some (s,true)=>match Am s m n.toNat cs s with
     | some xs=>fw (Nat.beq (m * s) cs.length) (gX.eF (bD n m) (.ag xs))
     | none=>none
    | _=>none
   | _=>none
  | _,_=>none
 | .field t x f=>match gr E nt V t x,rJ P t f with
  | some (.ag cs,.no),some fl=>match jl P fl.type with
   | some (n,agg)=>match mA cs fl.offset n agg with
    | some x=>fw (agg || Nat.beq n 1) (gX.ok x)
    | none=>none
   | none=>none
  | _,_=>none
 | .fieldAddr t x f=>match gr E nt V 0 x,rJ P t f with
  | some c,some fl=>match jl P fl.type with
   | some (n,agg)=>fw (Nat.blt 0 n) (match c with
    | (.pt,.ptr m o)=>gX.ok .pt (.ptr m (o+fl.offset))
    | (.el i s o,.pe k)=>gX.ok (.el i s (o+fl.offset)) (.pe k)
    | (.ro (.ag cs),.no)=>match mA cs fl.offset n agg with
     | some x=>gX.ok (.ro x)
     | none=>none
    | _=>none)
   | none=>none
  | _,_=>none
 | .nilCheck x=>match gr E nt V 0 x with
  | some (.pt,.ptr m o)=>gX.ok .pt (.ptr m o)
  | some (.ro x,.no)=>gX.ok (.ro x)
  | _=>none
 | .extract x i=>match gr E nt V 0 x with
  | some (.tu vs,.no)=>(vs[i]?).bind gX.ok
  | some (.tu vs,.J6 l)=>match mc i l with
   | some k=>match V k with
    | (_,.pv)=>gX.ok .pt (.fB k)
    | _=>none
   | none=>(vs[i]?).bind gX.ok
  | _=>none
 | .load t x=>match gr E nt V 0 x with
  | some c=>F9 P E own V t c
  | none=>none
 | .store t x v=>match gr E nt V 0 x,gr E nt V t v with
  | some c,some d=>A0 P V t c d
  | _,_=>none
 | .slice t x lo hi none=>match P.underlying t,gr E nt V t x,mF E nt V lo,mF E nt V hi with
  | some .string,some (.s l,.no),some a,some b=>MY l a b
  | some (.slice _),some c,some a,some b=>match c,a,b with
   | (.pt,.fB k),none,some n=>match V k with
    | (.sl st l,.pv)=>fw (sF E t st&&rr nt V (own 0)) (some ⟨some (gY 0 n l.length),(.pt,.fB (own 0)),[(own 0,(.sl st (l.take n.toNat),.pv)),(k,(.dead,.zz))]⟩)
    | _=>Hu E V t c a b
   | _,_,_=>Hu E V t c a b
  | _,_,_,_=>none
 | .buildSlice t n parts=>match E.ty t,P.underlying t with
  | some (st,_),some (.slice e)=>match pq E nt V (parts.toList.map fun _=>e) (parts.toList.map (·.2)) with
   | some cs=>match Io V cs with
    | some (xs,ws)=>match st.Pn xs with
     | some l=>fw (Nat.beq n parts.size&&Nat.ble (n * st.size) 16777216&&decide (parts.toList.map (·.1)=List.range n)) (I8 nt own V (.sl st l) none ws)
     | none=>none
    | none=>none
   | none=>none
  | _,_=>none
 | .build t parts=>match E.z t,nB P t parts.toList with
  | some z,some pl=>match pq E nt V (pl.map (·.2.2)) (parts.toList.map (·.2)) with
   | some cs=>match E.ld.contains (own 0),nL cs with
    | true,some (xS,k)=>match Io V xS with
     | some (xs,ws)=>match oO z (pl.map fun q=>(q.1,q.2.1)) (xs++[.pt]),pl.getLast? with
      | some ds,some q=>fw (xs.all TV.plain&&(Nat.beq q.2.1 1&&ws.all fun p=>!Nat.beq p.1 k)) (gX.ok (.ag ds) (.ow [(q.1,k)]) ws)
      | _,_=>none
     | none=>none
    | _,_=>match Io V cs with
     | some (xs,ws)=>match oO z (pl.map fun q=>(q.1,q.2.1)) xs with
      | some ds=>fw (xs.all TV.plain) (gX.ok (.ag ds) .no ws)
      | none=>none
     | none=>none
   | none=>none
  | _,_=>none
 | .alloc t=>(E.z t).bind fun z=>fw (rr nt V (own 0)) (gX.ok .pt (.ptr (own 0) 0) [(own 0,(.ag z,.cl []))])
 | .box t v=>match gr E nt V t v with
  | some (x,.no)=>fw (x.plain&&rr nt V (own 0)) (gX.ok .pt (.ptr (own 0) 0) [(own 0,(.ag x.cells,.cl []))])
  | _=>none
 | .makeSlice t l c=>match E.ty t,pS E nt V l,pS E nt V c with
  | some (st,pf),some a,some b=>I8 nt own V (.sl st (List.replicate a.toNat st.gm)) (some (pO a b pf)) []
  | _,_,_=>none
 | _=>none
end
end Go.Eng
namespace Go.Eng
abbrev GL:=List (Nat × Gh)
inductive Hint where
 | o | s (a b:Hint) | j (G:GL) (a b:Hint) | c (a b:Hint) | b (a:Hint) | l (G:GL) (a:Hint) | sc (ls:List (Nat × GL)) (a:Hint)
def Hint.s1:Hint→Hint | .s a _=>a | .j _ a _=>a | .c a _=>a | .b a=>a | .l _ a=>a | .sc _ a=>a | .o => .o
def Hint.s2:Hint→Hint | .s _ a=>a | .j _ _ a=>a | .c _ a=>a | _ => .o
def cR (S:St) (d:Nat) (x:Cell):St:=fun k=>cond (Nat.beq k d) x (S k)
def fo (S:St):List (Nat × Cell)→St
 | []=>S
 | (k,x) :: r=>cR (fo S r) k x
def kb (nt:Nat) (ts:List Nat) (S:St):St:=fun k=>cond (Nat.blt k nt&&ts.contains k) ((S k).1.bare,(S k).2) (S k)
def GU (x:TV) (b:Bool):Option Bool :=
 match x with
 | .b x=>some (cond b x (!x))
 | .gd q (.b x)=>some (q&&cond b x (!x))
 | _=>none
def sI:List TV→Option Bool
 | []=>none
 | x :: r=>match x.HA,sI r with
  | none,q=>q
  | some p,none=>some p
  | some p,some q=>some (p&&q)
def J7 (op:Op):List Nat:=op.operands.toList.filterMap fun x=>match x with | .tmp t=>some t | _=>none
def TV.Gu:TV→Bool
 | .gd _ _=>true
 | _=>false
def SQ (nt:Nat) (V:St) (k:Nat):Bool:=Nat.ble nt k&&match (V k).2 with
 | .no=>false
 | .hid=>false
 | _=>true
def Gh.slot:Gh→Bool
 | .no | .ptr _ _ | .fB _ | .pe _ | .J6 _ | .ow _=>true
 | _=>false
def Gh.df:Gh→List Nat
 | .ptr m _=>[m]
 | .fB k=>[k]
 | .pe k=>[k]
 | .J6 l=>l.map (·.2)
 | .ow l=>l.map (·.2)
 | .cl ts=>ts.map (·.2)
 | .pw d=>[d]
 | .pc r=>[r]
 | _=>[]
def E6 (nt:Nat) (V:St) (c:Bool) (q:Option Bool) (e:gX):Option gX :=
 fw (e.ws.isEmpty&&(e.x.2.slot&&!e.x.1.Gu)&&e.x.2.df.all (SQ nt V)) (some ⟨match e.p,q with
  | none,none=>none
  | none,some q=>some (!c || q)
  | some p,none=>some (!c || p)
  | some p,some q=>some (!c || (q&&p)),(.gd c e.x.1,e.x.2),[]⟩)
def G2 (nt:Nat) (c:Bool) (q:Option Bool) (e:gX):Option gX :=
 fw (e.ws.all fun p=>Nat.ble nt p.1) (some ⟨some (match e.p,q with
  | none,none=>c
  | none,some q=>c&&q
  | some p,none=>c&&p
  | some p,some q=>c&&(q&&p)),e.x,e.ws⟩)
def uT (nt:Nat) (o:Oper):Bool :=
 match o.op,o.dst with
 | .store _ _ _,none=>true
 | .store _ _ _,some _=>false
 | .call { callee := .value _,args:=_,argTypes:=_ },none=>true
 | _,some d=>Nat.blt d nt
 | _,none=>false
def watch (op:Op):List Nat :=
 match op with
 | .pick _ _ _=>(J7 op).take 1
 | _=>J7 op
section
variable (P:Program) (E:cr) (nt:Nat)
def y8 (d:Option Nat) (j:Nat):Nat:=(j+1) * nt+d.getD 0
def mU (ops:Array Oper) (o:Oper) (V:St):Option gX :=
 fw (uT nt o) (match o.guard with
 | none=>yH P E nt (y8 nt o.dst) V o.type o.op
 | some (j,b)=>match (ops[j]?).bind (·.dst) with
  | some t=>match V t with
   | (x,.no)=>match GU x b,yH P E nt (y8 nt o.dst) (kb nt (watch o.op) V) o.type o.op with
    | some c,some e=>fw (Nat.blt t nt&&(o.dst.isSome&&(watch o.op).all fun t=>!(V t).1.bare.Gu)) (cond (E.ld.contains (y8 nt o.dst 1)) (G2 nt c (sI ((watch o.op).map fun t=>(V t).1)) e) (E6 nt V c (sI ((watch o.op).map fun t=>(V t).1)) e))
    | _,_=>none
   | _=>none
  | none=>none)
def iY (S:St) (d:Option Nat) (e:gX):St :=
 match d with
 | some d=>cR (fo S e.ws) d e.x
 | none=>fo S e.ws
variable {R:Type}
abbrev JM (p:Option Bool) (x:Option R):Option R:=match p with | none=>x | some p=>ck p x
noncomputable abbrev DA (ops:Array Oper) (l:List Oper) (S:St) (K:St→Option R):Option R :=
 List.rec (motive:=fun _=>St→(St→Option R)→Option R) (fun S K=>K S)
  (fun o _ ih S K=>match mU P E nt ops o S with
   | some e=>JM e.p (ih (iY S o.dst e) K)
   | none=>none) l S K
theorem Dz (ops:Array Oper) (o:Oper) (r:List Oper) (S:St) (K:St→Option R):DA P E nt ops (o :: r) S K=match mU P E nt ops o S with
 | some e=>JM e.p (DA P E nt ops r (iY S o.dst e) K)
 | none=>none:=rfl
def ky (d:Option Nat) (e:gX):List Nat:=d.toList++e.ws.map (·.1)
def pC (ds:List Nat) (S:St):St:=fun k=>cond (ds.contains k) (.dead,.hid) (S k)
def r8 (o:Oper):List Nat:=(o.after.toList.filter (Region.binds .any)).map (·.on)
def mI (ops:List Oper):List (List Nat) :=
 ops.foldl (fun acc o=>acc++[(r8 o).flatMap fun e=>e :: (acc.getD e [])]) []
def td (ops:List Oper):Bool:=ops.zipIdx.all fun (o,i)=>(r8 o).all fun e=>decide (e<i)
def Gl (ops:Array Oper):List Oper→St→Option (List (List Nat))
 | [],_=>some []
 | o :: r,S=>match mU P E nt ops o S with
  | some e=>match Gl ops r (iY S o.dst e) with
   | some l=>some (ky o.dst e :: l)
   | none=>none
  | none=>none
def rq (W B:List (List Nat)) (i:Nat):List Nat :=
 (W.zipIdx.filter fun (_,j)=>!(Nat.beq j i)&&!((B.getD i []).contains j)&&!((B.getD j []).contains i)).flatMap (·.1)
noncomputable abbrev DC (ops:Array Oper) (W B:List (List Nat)) (i:Nat) (l:List Oper) (S:St) (K:St→Option R):Option R :=
 List.rec (motive:=fun _=>Nat→St→(St→Option R)→Option R) (fun _ S K=>K S)
  (fun o _ ih i S K=>match mU P E nt ops o (pC (rq W B i) S) with
   | some e=>fw (decide (ky o.dst e=W.getD i [])&&(rq W B i).all fun k=>!((W.getD i []).contains k)) (JM e.p (ih (i+1) (iY S o.dst e) K))
   | none=>none) l i S K
theorem DB (ops:Array Oper) (W B:List (List Nat)) (i:Nat) (o:Oper) (r:List Oper) (S:St) (K:St→Option R):DC P E nt ops W B i (o :: r) S K=match mU P E nt ops o (pC (rq W B i) S) with
 | some e=>fw (decide (ky o.dst e=W.getD i [])&&(rq W B i).all fun k=>!((W.getD i []).contains k)) (JM e.p (DC P E nt ops W B (i+1) r (iY S o.dst e) K))
 | none=>none:=rfl
noncomputable abbrev Dy (ops:Array Oper) (draw:Bool) (S:St) (K:St→Option R):Option R :=
 match draw with
 | false=>DA P E nt ops ops.toList S K
 | true=>fw (td ops.toList) (match Gl P E nt ops ops.toList S with
  | some W=>DC P E nt ops W (mI ops.toList) 0 ops.toList S K
  | none=>none)
inductive MX where
 | normal
 | exit (id:Nat)
 | goto (l:Nat)
 | ret
abbrev fy (R:Type):=MX→St→Option R
def oz (S:St):GL→List (Nat × Option Nat)
 | []=>[]
 | (k,.fB i) :: r=>(match S k with | (_,.fB j)=>[(i,some j)] | (.nl _,.no)=>[(i,none)] | _=>[])++oz S r
 | (m,.cl ts) :: r=>(match S m with
  | (.ag cs,.cl us)=>ts.filterMap fun t=>match mc t.1 us,cs[t.1]? with
   | some j,_=>some (t.2,some j)
   | none,some (.nl _)=>some (t.2,none)
   | _,_=>none
  | _=>[])++oz S r
 | _ :: r=>oz S r
def oI (k:Nat):List (Nat × Option Nat)→Option (Option Nat)
 | []=>none
 | (i,j) :: r=>cond (Nat.beq i k) (some j) (oI k r)
def vU (S:St) (i:Nat):GL→Option fx
 | []=>none
 | (k,.fB i') :: r=>match Nat.beq i' i,S k with | true,(.nl t,_)=>some t | _,_=>vU S i r
 | (m,.cl ts) :: r=>match S m,ts.find? (fun t=>Nat.beq t.2 i) with
  | (.ag cs,_),some t=>match cs[t.1]? with | some (.nl t)=>some t | _=>vU S i r
  | _,_=>vU S i r
 | _ :: r=>vU S i r
def vO (ts:List (Nat × Nat)) (cs:List TV):List TV:=ts.foldl (fun cs t=>cs.set t.1 .pt) cs
def jw (ρ:List (Nat × Option Nat)) (k:Nat):Option Nat:=(oI k ρ).getD (some k)
def Ow:Option TV→Bool
 | some (.nl _)=>true
 | _=>false
def AV (S:St) (G:GL) (ρ:List (Nat × Option Nat)) (p:Nat × Gh):Option (TV × List (Nat × Cell)) :=
 match p.2 with
 | .no=>fw (Nat.blt p.1 nt) (zZ S (S p.1))
 | .fB _=>fw (Nat.blt p.1 nt) (match S p.1 with
  | (.pt,.fB _)=>some (.pt,[])
  | (.nl _,.no)=>some (.pt,[])
  | _=>none)
 | .ptr m o=>fw (Nat.blt p.1 nt) (match S p.1 with
  | (.pt,.ptr m' o')=>fw (Nat.beq m' m&&Nat.beq o' o) (some (.pt,[]))
  | _=>none)
 | .cl ts=>fw (Nat.ble nt p.1) (match S p.1 with
  | (.ag cs,.cl us)=>fw (ts.all fun t=>(mc t.1 us).isSome || Ow cs[t.1]?) (match nh S 0 cs.length (us.filter fun u=>(mc u.1 ts).isNone) cs with
   | some (cs,ws)=>some (.ag (vO ts (cs.map nrm)),ws)
   | none=>none)
  | _=>none)
 | .pv=>fw (Nat.ble nt p.1) (match jw ρ p.1 with
  | some j=>match S j with
   | (y,.pv)=>some (y,[])
   | _=>none
  | none=>(vU S p.1 G).map fun t=>(.sl t [],[]))
 | .lv=>fw (Nat.ble nt p.1) (match jw ρ p.1 with
  | some j=>match S j with
   | (y,.pv)=>some (y,[(j,(y,.lv))])
   | (y,.lv)=>some (y,[])
   | _=>none
  | none=>(vU S p.1 G).map fun t=>(.sl t [],[]))
 | _=>none
def sb (S:St) (G:GL) (ρ:List (Nat × Option Nat)):GL→Option (List TV × List (Nat × Cell))
 | []=>some ([],[])
 | p :: r=>match AV nt S G ρ p with
  | some (x,ws)=>match sb S G ρ r with
   | some (xs,us)=>some (x :: xs,ws++us)
   | none=>none
  | none=>none
def Gh.own:Gh→Bool
 | .cl _ | .pv | .lv | .pw _ | .pc _=>true
 | _=>false
def me:List Nat→Bool
 | []=>true
 | k :: r=>(r.all fun j=>!Nat.beq j k)&&me r
def P1 (G:GL) (ρ:List (Nat × Option Nat)) (ws:List (Nat × Cell)):Bool :=
 me (G.map (·.1))&&(ρ.all fun p=>decide (oI p.1 ρ=some p.2)&&(Nat.blt p.1 1000000 || decide (p.2=some p.1))&&Nat.ble nt p.1) &&
 me (G.filterMap fun p=>cond p.2.own (jw ρ p.1) none)&&(G.all fun p=>p.2.df.all fun i=>G.any fun q=>Nat.beq q.1 i&&q.2.own) &&
 G.all fun p=>match p.2 with
  | .cl _=>(oI p.1 ρ).isNone
  | .ptr m _=>(oI m ρ).isNone
  | .pv=>match jw ρ p.1 with
   | some j=>ws.all fun q=>!Nat.beq q.1 j
   | none=>true
  | _=>true
def gE:GL→List TV→St
 | (k,g) :: G,x :: xs=>fun j=>cond (Nat.beq j k) (x,g) (gE G xs j)
 | _,_=>fun _=>(.dead,.no)
def yW:List Nat→St→St
 | [],S=>S
 | k :: r,S=>match S k with
  | (x,.pw d)=>yW r (cR (cR S k (x,.pv)) d (.dead,.zz))
  | _=>yW r S
def Q9 (G:GL) (ρ:List (Nat × Option Nat)):List Nat:=G.filterMap fun p=>match p.2 with | .pv=>jw ρ p.1 | _=>none
def ua (G:GL) (S:St):OT :=
 match sb nt S G (oz S G) G with
 | some (xs,ws)=>fw (P1 nt G (oz S G) ws) (some xs)
 | none=>none
def jL (G:GL) (S:St):OT:=ua nt G (yW (Q9 G (oz S G)) S)
abbrev IQ (f:St→fy R→Option R) (K:fy R):fy R:=fun e S =>
 match e with
 | .normal=>f S K
 | e=>K e S
abbrev uI (f:St→fy R→Option R) (G:GL) (K:fy R):fy R:=fun e S =>
 match e with
 | .normal=>match jL nt G S with
  | some xs=>f (gE G xs) K
  | none=>none
 | e=>K e S
abbrev mM (id:Nat) (K:fy R):fy R:=fun e S =>
 match e with
 | .exit j=>match Nat.beq j id with
  | true=>K .normal S
  | false=>K (.exit j) S
 | e=>K e S
def oN {ι:Type} (f:ι→fy R→Option R) (tr:MX→St→Option (Option ι)):Nat→ι→fy R→Option R
 | 0,_,_=>none
 | n+1,i,K=>f i fun e S =>
  match tr e S with
  | none=>K e S
  | some none=>none
  | some (some j)=>oN f tr n j K
open Classical in
noncomputable def Re (g:Nat→Option R):Option R:=if h:∃n r,g n=some r then g h.choose else none
noncomputable def En {ι:Type} (f:ι→fy R→Option R) (tr:MX→St→Option (Option ι)) (i:ι) (K:fy R):Option R:=Re fun n=>oN f tr n i K
noncomputable abbrev vw {ι:Type} (f:ι→fy R→Option R) (tr:MX→St→Option (Option ι)) (K:fy R):fy R:=fun e S =>
 match tr e S with
 | none=>K e S
 | some none=>none
 | some (some j)=>En f tr j K
def N8 (G:GL):MX→St→Option (OT)
 | .normal,S=>some (jL nt G S)
 | _,_=>none
def QC (f:St→fy R→Option R) (G:GL) (xs:List TV):fy R→Option R:=f (gE G xs)
noncomputable def CA (f:St→fy R→Option R) (G:GL) (xs:List TV) (K:fy R):Option R:=En (QC f G) (N8 nt G) xs K
noncomputable abbrev zi (f:St→fy R→Option R) (G:GL) (S:St) (K:fy R):Option R :=
 match jL nt G S with
 | some xs=>CA nt f G xs K
 | none=>none
noncomputable abbrev xY (f:St→fy R→Option R) (G:GL) (K:fy R):fy R:=vw (QC f G) (N8 nt G) K
abbrev Ev (R:Type):=Hint→St→fy R→Option R
def vZ (l:Nat):List (Nat × GL)→Option GL
 | []=>none
 | (k,G) :: r=>cond (Nat.beq k l) (some G) (vZ l r)
def Ib (ls:List (Nat × GL)):MX→St→Option (Option (Nat × List TV))
 | .goto l,S=>some (match vZ l ls with
  | some G=>(jL nt G S).map fun xs=>(l,xs)
  | none=>none)
 | _,_=>none
def HW (f:Nat→Option (Ev R)) (ls:List (Nat × GL)) (a:Hint) (i:Nat × List TV) (K:fy R):Option R :=
 match f i.1,vZ i.1 ls with
 | some g,some G=>g a (gE G i.2) K
 | _,_=>none
noncomputable def A7 (f:Nat→Option (Ev R)) (ls:List (Nat × GL)) (a:Hint) (i:Nat × List TV) (K:fy R):Option R:=En (HW f ls a) (Ib nt ls) i K
noncomputable abbrev lP (f:Nat→Option (Ev R)) (ls:List (Nat × GL)) (a:Hint) (K:fy R):fy R:=vw (HW f ls a) (Ib nt ls) K
abbrev Dg (R:Type):=Ev R × (Nat→Option (Ev R))
abbrev iy (f:Ev R):Dg R:=(f,fun _=>none)
abbrev Ll (g b o:Ev R):Ev R:=fun h S K=>match h with
 | .j G a c=>g a S (uI nt (o c) G K)
 | h=>g h.s1 S (IQ (b h.s2) K)
abbrev A6 (fa fb:Nat→Option (Ev R)) (b o:Ev R) (l:Nat):Option (Ev R):=match fa l with
 | some g=>some (Ll nt g b o)
 | none=>match fb l with
  | some g=>some fun h=>g h.s2
  | none=>none
abbrev IP (fa fb:Dg R) (o:Ev R):Dg R:=(Ll nt fa.1 fb.1 o,A6 nt fa.2 fb.2 fb.1 o)
open Classical in
noncomputable def both (x y:Option R):Option R:=if x=y then x else none
noncomputable abbrev C6 (x:Operand) (fa fb:Dg R):Dg R:=iy fun h S K=>match gr E nt S 0 x with
 | some (.b t,.no)=>cond t (fa.1 h.s1 S K) (fb.1 h.s2 S K)
 | some (.ub e,.no)=>cond e (both (fa.1 h.s1 S K) (fb.1 h.s2 S K)) (fb.1 h.s2 S K)
 | _=>none
noncomputable abbrev Ki (o:Ev R):Dg R:=iy fun h S K=>match h with
 | .l G a=>zi nt (o a) G S K
 | _=>none
noncomputable abbrev xf (f:Dg R) (o:Nat→Option (Ev R)):Dg R:=iy fun h S K=>match h with
 | .sc ls a=>f.1 a S (lP nt o ls a K)
 | _=>none
abbrev pR (l l':Nat):Option (Ev R):=cond (Nat.beq l l') (some fun _ S K=>K .normal S) none
abbrev Gg (l:Nat):Dg R:=(fun _ S K=>K .normal S,pR l)
noncomputable def EU (c:Code):Dg R :=
 Code.rec (motive:=fun _=>Dg R)
  (iy fun _ S K=>K .normal S)
  (fun _ ops draw=>iy fun _ S K=>Dy P E nt ops draw S (K .normal))
  (fun _ _ fa fb=>IP nt fa fb fb.1)
  (fun x _ _ fa fb=>C6 E nt x fa fb)
  (fun id _ f=>iy fun h S K=>f.1 h.s1 S (mM id K))
  (fun _ f=>Ki nt f.1)
  (fun _ _ _ _ _ _=>iy fun _ _ _=>none)
  (fun id=>iy fun _ S K=>K (.exit id) S)
  (fun _ f=>xf nt f f.2)
  Gg
  (fun l=>iy fun _ S K=>K (.goto l) S)
  (iy fun _ S K=>K .ret S)
  (fun _=>iy fun _ _ _=>none) c
noncomputable def oe (c:Code):Ev R:=(EU P E nt c).1
noncomputable def yg (c:Code):Nat→Option (Ev R):=(EU P E nt c).2
noncomputable def He (c:Code):Dg R :=
 Code.rec (motive:=fun _=>Dg R)
  (iy fun _ S K=>K .normal S)
  (fun _ ops draw=>iy fun _ S K=>Dy P E nt ops draw S (K .normal))
  (fun _ d fa fb=>IP nt fa fb (oe P E nt d))
  (fun x _ _ fa fb=>C6 E nt x fa fb)
  (fun id _ f=>iy fun h S K=>f.1 h.s1 S (mM id K))
  (fun d _=>Ki nt (oe P E nt d))
  (fun _ _ _ _ _ _=>iy fun _ _ _=>none)
  (fun id=>iy fun _ S K=>K (.exit id) S)
  (fun d f=>xf nt f (yg P E nt d))
  Gg
  (fun l=>iy fun _ S K=>K (.goto l) S)
  (iy fun _ S K=>K .ret S)
  (fun _=>iy fun _ _ _=>none) c
noncomputable def ev (c:Code):Ev R:=(He P E nt c).1
def Ic (n:Nat) (ms:List Md) (sE:List TV):St:=fun k =>
 cond (Nat.blt k n) (match ms.getD k .pl with
  | .pl=>(sE.getD k .dead,.no)
  | .rf=>(.pt,.ptr (1000000+k) 0)
  | _=>(.pt,.fB (1000000+k)))
 (cond (Nat.ble 1000000 k&&Nat.blt k (1000000+n)) (match ms.getD (k - 1000000) .pl with
  | .pl=>(.dead,.no)
  | .rf=>(sE.getD (k - 1000000) .dead,.cl [])
  | _=>(sE.getD (k - 1000000) .dead,.pv)) (.dead,.no))
def rX (own:List Nat):Nat→List ResultVar→St→Option (List TV × St)
 | _,[],S=>some ([],S)
 | i,.tmp _ :: rs,S=>match rX own (i+1) rs S with
  | some (xs,S)=>some (.dead :: xs,S)
  | none=>none
 | i,.cell a t :: rs,S=>fw (Nat.blt a nt&&!own.contains i) (match S a,jl P t with
  | (.pt,.ptr m o),some (n,agg)=>fw (agg || Nat.beq n 1) (match S m with
   | (.ag cs,.cl ts)=>match nh S o n ts cs with
    | some (cs,ws)=>match mA cs o n agg with
     | some x=>match rX own (i+1) rs (fo S ws) with
      | some (xs,S)=>some (Ol x :: xs,S)
      | none=>none
     | none=>none
    | none=>none
   | _=>none)
  | _,_=>none)
def Bf (own:List Nat):Nat→List ResultVar→GL
 | _,[]=>[]
 | i,.tmp t :: rs=>cond (own.contains i) [(t,.fB (900000+i)),(900000+i,.pv)] [(t,.no)]++Bf own (i+1) rs
 | i,.cell _ _ :: rs=>Bf own (i+1) rs
def nW:Nat→List Md→GL
 | _,[]=>[]
 | k,.rf :: ms=>(1000000+k,.cl []) :: nW (k+1) ms
 | k,.sl :: ms=>(1000000+k,.pv) :: nW (k+1) ms
 | k,.sm :: ms=>(1000000+k,.pv) :: nW (k+1) ms
 | k,_ :: ms=>nW (k+1) ms
def rh (own:List Nat) (H:St):Nat→List ResultVar→List TV→List TV
 | i,.tmp t :: rs,_ :: xs=>cond (own.contains i) (H (900000+i)).1 (H t).1 :: rh own H (i+1) rs xs
 | i,.cell _ _ :: rs,x :: xs=>x :: rh own H (i+1) rs xs
 | _,_,_=>[]
def qJ (H:St):Nat→List Md→List TV
 | _,[]=>[]
 | k,.rf :: ms=>(H (1000000+k)).1 :: qJ H (k+1) ms
 | k,.sl :: ms=>(H (1000000+k)).1 :: qJ H (k+1) ms
 | k,_ :: ms=>qJ H (k+1) ms
def oJ (H:St):Nat→List Md→List TV
 | _,[]=>[]
 | k,.sm :: ms=>(H (1000000+k)).1 :: oJ H (k+1) ms
 | k,_ :: ms=>oJ H (k+1) ms
def Hj (fn:Func) (sg:bW):GL:=Bf sg.own 0 fn.results.toList++nW 0 sg.md
def DM (fn:Func) (sg:bW):Option ((Nat × TypeId) × Nat) :=
 match fn.results.toList,sg.own with
 | [.cell a t],[j]=>cond (Nat.blt j 1000) none (some ((a,t),j - 1000))
 | _,_=>none
def Et (a m c:Nat) (sg:bW):GL:=(a,.ptr m 0) :: (m,.cl [(c,900000)]) :: (900000,.pv) :: nW 0 sg.md
def Pl (a:Nat) (t:TypeId) (c:Nat) (sg:bW) (S:St):OT :=
 match S a,jl P t with
 | (.pt,.ptr m 0),some (n,true)=>match jL nt (Et a m c sg) S with
  | some ys=>match gE (Et a m c sg) ys m with
   | (.ag cs,_)=>fw (Nat.beq n cs.length&&Nat.blt a nt) (some (.ag (cs.set c (gE (Et a m c sg) ys 900000).1) :: (qJ (gE (Et a m c sg) ys) 0 sg.md++oJ (gE (Et a m c sg) ys) 0 sg.md)))
   | _=>none
  | none=>none
 | _,_=>none
def BK (fn:Func) (sg:bW) (S:St):OT :=
 match DM fn sg with
 | some ((a,t),c)=>Pl P nt a t c sg S
 | none=>match rX P nt sg.own 0 fn.results.toList S with
  | some (xs,S)=>match jL nt (Hj fn sg) S with
   | some ys=>some (rh sg.own (gE (Hj fn sg) ys) 0 fn.results.toList xs++qJ (gE (Hj fn sg) ys) 0 sg.md++oJ (gE (Hj fn sg) ys) 0 sg.md)
   | none=>none
  | none=>none
def Pm (fn:Func) (sg:bW):fy (List TV):=fun e S =>
 match e with
 | .ret=>BK P nt fn sg S
 | .normal=>BK P nt fn sg S
 | _=>none
def BJ (fn:Func) (sg:bW):Bool :=
 Nat.blt fn.ntmps 900000&&Nat.ble fn.params.size fn.ntmps&&Nat.ble sg.md.length fn.params.size&&Nat.beq sg.fh fn.results.size&&Nat.blt fn.results.size 1000&&((DM fn sg).isSome || sg.own.all fun i=>Nat.blt i sg.fh)&&me sg.own&&!(fn.name == "runtime.NumGoroutine")
def mD:List Md→List TV→List TV
 | .sm :: ms,x :: xs=>x :: mD ms xs
 | _ :: ms,_ :: xs=>mD ms xs
 | _,_=>[]
noncomputable def cI (f:Nat) (sg:bW) (h:Hint) (ins:List TV):OT :=
 match P.funcs[f]? with
 | some fn=>match fn.body with
  | some c=>fw (BJ fn sg&&Nat.beq ins.length fn.params.size) (ev P E fn.ntmps c h (Ic fn.params.size sg.md ins) (Pm P fn.ntmps fn sg))
  | none=>none
 | none=>none
end
end Go.Eng
namespace Go.Eng
section
variable {R:Type} (P:Program) (E:cr) (nt:Nat)
theorem Hf (c:Code):EU (R:=R) P E nt c=He P E nt c:=by
 induction c with
 | seq a b Ie Gv =>
  show IP nt (EU P E nt a) (EU P E nt b) (EU P E nt b).1=IP nt (He P E nt a) (He P E nt b) (oe P E nt b)
  rw [←Ie,←Gv];rfl
 | cond x a b Ie Gv =>
  show C6 E nt x (EU P E nt a) (EU P E nt b)=C6 E nt x (He P E nt a) (He P E nt b)
  rw [Ie,Gv]
 | block id a ih =>
  show (iy fun h S K=>(EU P E nt a).1 h.s1 S (mM id K))=(iy fun h S K=>(He P E nt a).1 h.s1 S (mM id K):Dg R)
  rw [ih]
 | scope a ih =>
  show xf nt (EU P E nt a) (EU P E nt a).2=xf nt (He P E nt a) (yg P E nt a)
  rw [←ih];rfl
 | _=>rfl
theorem Hd (c:Code):oe (R:=R) P E nt c=ev P E nt c:=by show (EU P E nt c).1=(He P E nt c).1;rw [Hf]
end
section
variable {R:Type} {nt:Nat}
abbrev qL:=List (Option (MX × St))
def vy (l:qL) (K:MX × St→Option R) (r:R):Prop:=∀q∈l,∃p,q=some p∧K p=some r
def Ix (K:fy R) (q:MX × St):Option R:=K q.1 q.2
def lG (g:fy R→Option R):Prop:=∃l:qL,∀(K:fy R) (r:R),g K=some r ↔ vy l (Ix K) r
theorem lG.nil {g:fy R→Option R} (h:∀K,g K=none):lG g:=⟨[none],fun K r=>by rw [h];exact ⟨fun h=>(by cases h),fun h=>(by obtain ⟨p,e,_⟩:=h none (List.mem_singleton.2 rfl);cases e)⟩⟩
theorem lG.one {g:fy R→Option R} (e:MX) (S:St) (h:∀K,g K=K e S):lG g:=⟨[some (e,S)],fun K r=>by rw [h];exact ⟨fun h q hq=>⟨_,List.mem_singleton.1 hq,h⟩,fun h=>by obtain ⟨p,e,h⟩:=h _ (List.mem_singleton.2 rfl);cases e;exact h⟩⟩
theorem rZ {x y:Option R} {r:R}:both x y=some r ↔ x=some r∧y=some r:=by
 unfold both
 split
 ·rename_i e;rw [←e];simp
 ·rename_i e;simp only [reduceCtorEq,false_iff];rintro ⟨rfl,rfl⟩;exact e rfl
theorem EI (x:Option R):both x x=x:=by simp [both]
theorem lG.bind {l:qL} {g:fy R→Option R} {F:fy R→MX × St→Option R} (hF:∀q,lG fun K=>F K q) (h:∀K r,g K=some r ↔ vy l (F K) r):lG g:=by
 have key:∀l:qL,∃l':qL,∀K r,vy l (F K) r ↔ vy l' (Ix K) r:=by
  intro l
  induction l with
  | nil=>exact ⟨[],fun K r=>by simp [vy]⟩
  | cons q t ih =>
   obtain ⟨lt,ht⟩:=ih
   cases q with
   | none=>exact ⟨[none],fun K r=>⟨fun h=>(by obtain ⟨p,e,_⟩:=h none (List.mem_cons_self ..);cases e),fun h=>(by obtain ⟨p,e,_⟩:=h none (List.mem_singleton.2 rfl);cases e)⟩⟩
   | some q =>
    obtain ⟨lq,hq⟩:=hF q
    refine ⟨lq++lt,fun K r=>?_⟩
    have h1:=hq K r
    have h2:=ht K r
    constructor
    ·intro ha x hx
     rcases List.mem_append.1 hx with hx | hx
     ·obtain ⟨p,e,hp⟩:=ha _ (List.mem_cons_self ..)
      cases e
      exact h1.1 hp x hx
     ·exact h2.1 (fun y hy=>ha y (List.mem_cons_of_mem _ hy)) x hx
    ·intro ha x hx
     rcases aP.1 hx with rfl | hx
     ·exact ⟨q,rfl,h1.2 fun y hy=>ha y (List.mem_append_left _ hy)⟩
     ·exact h2.2 (fun y hy=>ha y (List.mem_append_right _ hy)) x hx
 obtain ⟨l',hl⟩:=key l
 exact ⟨l',fun K r=>(h K r).trans (hl K r)⟩
def wU (f:St→fy R→Option R):Prop:=∀S,lG (f S)
theorem uB {g:Nat→Option R} (hm:∀n r,g n=some r→g (n+1)=some r) {r:R}:Re g=some r ↔ ∃n,g n=some r:=by
 have up:∀n k r,g n=some r→g (n+k)=some r:=by
  intro n k
  induction k with
  | zero=>exact fun r h=>h
  | succ k ih=>exact fun r h=>hm _ _ (ih r h)
 unfold Re
 constructor
 ·intro h
  split at h
  ·rename_i hx;exact ⟨_,h⟩
  ·cases h
 ·rintro ⟨n,hn⟩
  have hx:∃n r,g n=some r:=⟨n,r,hn⟩
  rw [dif_pos hx]
  obtain ⟨r',EO⟩:=hx.choose_spec
  rw [EO]
  have h1:=up _ n _ EO
  have h2:=up _ hx.choose _ hn
  rw [Nat.add_comm] at h2
  rw [h1] at h2
  exact h2
section
variable {ι:Type} {f:ι→fy R→Option R} {tr:MX→St→Option (Option ι)}
def qp (tr:MX→St→Option (Option ι)) (g:ι→Option R) (K:fy R) (q:MX × St):Option R :=
 match tr q.1 q.2 with
 | none=>K q.1 q.2
 | some none=>none
 | some (some j)=>g j
theorem pN {g g':ι→Option R} {K:fy R} {q:MX × St} {r:R} (h:∀j,g j=some r→g' j=some r) (e:qp tr g K q=some r):qp tr g' K q=some r:=by
 unfold qp at e ⊢
 split at e
 ·exact e
 ·cases e
 ·exact h _ e
theorem s0 {K:fy R} {i:ι} {l:qL} (hp:∀(K:fy R) r,f i K=some r ↔ vy l (Ix K) r) (n:Nat) (r:R) :
  oN f tr (n+1) i K=some r ↔ vy l (qp tr (fun j=>oN f tr n j K) K) r:=by
 rw [oN,hp]
 rfl
theorem nf (hf:∀i,lG (f i)) {K:fy R}:∀(n:Nat) (i:ι) (r:R),oN f tr n i K=some r→oN f tr (n+1) i K=some r
 | 0,_,_,h=>by cases h
 | n+1,i,r,h=>by
  obtain ⟨l,hp⟩:=hf i
  rw [s0 hp] at h ⊢
  intro q hq
  obtain ⟨p,e,h1⟩:=h q hq
  exact ⟨p,e,pN (fun j hj=>nf hf n j r hj) h1⟩
theorem sZ (hf:∀i,lG (f i)) {K:fy R} {n:Nat} {i:ι} {r:R} (h:oN f tr n i K=some r):∀m,oN f tr (n+m) i K=some r
 | 0=>h
 | m+1=>nf hf _ i r (sZ hf h m)
theorem o9 (hf:∀i,lG (f i)) (i:ι) (K:fy R) (r:R):En f tr i K=some r ↔ ∃n,oN f tr n i K=some r:=uB fun n r=>nf hf n i r
theorem I2 {x y:Option R} (h:∀r,x=some r ↔ y=some r):x=y:=by
 cases x with
 | none=>cases y with
  | none=>rfl
  | some b=>exact absurd ((h b).2 rfl) (by simp)
 | some a=>exact ((h a).1 rfl).symm
theorem wy (hf:∀i,lG (f i)) {K:fy R} {q:MX × St} {r:R}:Ix (vw f tr K) q=some r ↔ ∃n,qp tr (fun j=>oN f tr n j K) K q=some r:=by
 unfold Ix vw qp
 cases tr q.1 q.2 with
 | none=>exact ⟨fun h=>⟨0,h⟩,fun ⟨_,h⟩=>h⟩
 | some j=>cases j with
  | none=>exact ⟨fun h=>(by cases h),fun ⟨_,h⟩=>(by cases h)⟩
  | some j=>exact o9 hf j K r
theorem CT (hf:∀i,lG (f i)) (i:ι) (K:fy R):En f tr i K=f i (vw f tr K):=by
 obtain ⟨l,hp⟩:=hf i
 refine I2 fun r=>?_
 rw [o9 hf,hp]
 constructor
 ·rintro ⟨n,hn⟩ q hq
  cases n with
  | zero=>cases hn
  | succ n =>
   obtain ⟨p,e,h1⟩:=(s0 hp n r).1 hn q hq
   exact ⟨p,e,(wy hf).2 ⟨n,h1⟩⟩
 ·intro h
  have key:∀l:qL,(∀q∈l,∃p,q=some p∧Ix (vw f tr K) p=some r)→∃n,vy l (qp tr (fun j=>oN f tr n j K) K) r:=by
   intro l
   induction l with
   | nil=>exact fun _=>⟨0,fun q hq=>by cases hq⟩
   | cons q t ih =>
    intro h
    obtain ⟨n,hn⟩:=ih fun x hx=>h x (List.mem_cons_of_mem _ hx)
    obtain ⟨p,e,h1⟩:=h q (List.mem_cons_self ..)
    obtain ⟨m,hm⟩:=(wy hf).1 h1
    refine ⟨n+m,fun x hx=>?_⟩
    rcases aP.1 hx with rfl | hx
    ·exact ⟨p,e,pN (fun j hj=>by rw [Nat.add_comm];exact sZ hf hj n) hm⟩
    ·obtain ⟨p',e',h2⟩:=hn x hx
     exact ⟨p',e',pN (fun j hj=>sZ hf hj m) h2⟩
  obtain ⟨n,hn⟩:=key l h
  exact ⟨n+1,(s0 hp n r).2 hn⟩
noncomputable def lh (L:ι→qL) (tr:MX→St→Option (Option ι)):Nat→ι→qL
 | 0,_=>[none]
 | n+1,i=>(L i).flatMap fun q=>match q with
  | none=>[none]
  | some p=>match tr p.1 p.2 with
   | none=>[some p]
   | some none=>[none]
   | some (some j)=>lh L tr n j
theorem zX (hf:∀i,lG (f i)) (i:ι):lG (En f tr i):=by
 let L:=fun i=>(hf i).choose
 have hL:∀i (K:fy R) r,f i K=some r ↔ vy (L i) (Ix K) r:=fun i=>(hf i).choose_spec
 have hI:∀n i (K:fy R) r,oN f tr n i K=some r ↔ vy (lh L tr n i) (Ix K) r:=by
  intro n
  induction n with
  | zero=>exact fun i K r=>⟨fun h=>(by cases h),fun h=>by obtain ⟨p,e,_⟩:=h none (List.mem_singleton.2 rfl);cases e⟩
  | succ n ih =>
   intro i K r
   rw [s0 (hL i)]
   constructor
   ·intro h q hq
    obtain ⟨x,hx,hq⟩:=List.mem_flatMap.1 hq
    obtain ⟨p,rfl,h1⟩:=h x hx
    simp only at hq
    unfold qp at h1
    cases e:tr p.1 p.2 with
    | none=>rw [e] at h1 hq;exact ⟨p,List.mem_singleton.1 hq,h1⟩
    | some j=>cases j with
     | none=>rw [e] at h1;cases h1
     | some j=>rw [e] at h1 hq;exact (ih j K r).1 h1 q hq
   ·intro h x hx
    have sub:∀q,q∈(match x with
      | none=>[none]
      | some p=>match tr p.1 p.2 with
       | none=>[some p]
       | some none=>[none]
       | some (some j)=>lh L tr n j:qL)→∃p,q=some p∧Ix K p=some r:=fun q hq=>h q (List.mem_flatMap.2 ⟨x,hx,hq⟩)
    cases x with
    | none=>obtain ⟨p,e,_⟩:=sub none (List.mem_singleton.2 rfl);cases e
    | some p =>
     refine ⟨p,rfl,?_⟩
     simp only at sub
     unfold qp
     cases e:tr p.1 p.2 with
     | none=>rw [e] at sub;obtain ⟨p',e',h1⟩:=sub _ (List.mem_singleton.2 rfl);cases e';exact h1
     | some j=>cases j with
      | none=>rw [e] at sub;obtain ⟨p',e',_⟩:=sub _ (List.mem_singleton.2 rfl);cases e'
      | some j=>rw [e] at sub;exact (ih j K r).2 sub
 have stay:∀n i,none ∉ lh L tr n i→lh L tr (n+1) i=lh L tr n i:=by
  intro n
  induction n with
  | zero=>intro i h;exact absurd (List.mem_singleton.2 rfl) h
  | succ n ih =>
   intro i h
   rw [lh,lh]
   rw [lh] at h
   have:∀l:qL,none ∉ (l.flatMap fun q=>match q with
     | none=>[none]
     | some p=>match tr p.1 p.2 with
      | none=>[some p]
      | some none=>[none]
      | some (some j)=>lh L tr n j:qL)→(l.flatMap fun q=>match q with
     | none=>[none]
     | some p=>match tr p.1 p.2 with
      | none=>[some p]
      | some none=>[none]
      | some (some j)=>lh L tr (n+1) j:qL)=(l.flatMap fun q=>match q with
     | none=>[none]
     | some p=>match tr p.1 p.2 with
      | none=>[some p]
      | some none=>[none]
      | some (some j)=>lh L tr n j:qL):=by
    intro l
    induction l with
    | nil=>exact fun _=>rfl
    | cons q t Ve =>
     intro h
     rw [List.flatMap_cons,List.mem_append] at h
     rw [List.flatMap_cons,List.flatMap_cons,Ve fun hx=>h (.inr hx)]
     congr 1
     split
     ·rfl
     ·rename_i p
      simp only at h
      split
      ·rfl
      ·rfl
      ·rename_i j e
       rw [e] at h
       exact ih j fun hx=>h (.inl hx)
   exact this _ h
 by_cases hx:∃n,none ∉ lh L tr n i
 ·obtain ⟨n,hn⟩:=hx
  have UU:∀m,lh L tr (n+m) i=lh L tr n i:=by
   intro m
   induction m with
   | zero=>rfl
   | succ m ih=>rw [←ih];exact stay (n+m) i (by rw [ih];exact hn)
  refine ⟨lh L tr n i,fun K r=>?_⟩
  rw [o9 hf,←hI]
  refine ⟨fun ⟨m,hm⟩=>?_,fun h=>⟨n,h⟩⟩
  have h1:=sZ hf hm n
  rw [Nat.add_comm,hI,UU,←hI] at h1
  exact h1
 ·refine ⟨[none],fun K r=>?_⟩
  rw [o9 hf]
  refine ⟨fun ⟨n,hn⟩=>?_,fun h=>by obtain ⟨p,e,_⟩:=h none (List.mem_singleton.2 rfl);cases e⟩
  have:none∈lh L tr n i:=Classical.byContradiction fun h=>hx ⟨n,h⟩
  obtain ⟨p,e,_⟩:=(hI n i K r).1 hn none this
  cases e
end
theorem xU {f:St→fy R→Option R} (hf:wU f) (G:GL):∀xs,lG (QC f G xs):=fun xs=>hf (gE G xs)
theorem F6 {f:St→fy R→Option R} (hf:wU f) (G:GL) (xs:List TV) (K:fy R):CA nt f G xs K=f (gE G xs) (xY nt f G K):=CT (xU hf G) xs K
theorem DZ {f:St→fy R→Option R} (hf:wU f) (G:GL):wU (zi nt f G):=fun S=>by
 unfold zi
 cases jL nt G S with
 | none=>exact .nil fun K=>rfl
 | some xs=>exact zX (xU hf G) xs
theorem xT {f:Nat→Option (Ev R)} (hf:∀l g,f l=some g→∀h,wU (g h)) (ls:List (Nat × GL)) (a:Hint) (i:Nat × List TV):lG (HW f ls a i):=by
 cases e1:f i.1 with
 | none=>exact .nil fun K=>by simp only [HW,e1]
 | some g =>
  cases e2:vZ i.1 ls with
  | none=>exact .nil fun K=>by simp only [HW,e1,e2]
  | some G =>
   obtain ⟨p,hp⟩:=hf _ g e1 a (gE G i.2)
   exact ⟨p,fun K r=>by simp only [HW,e1,e2];exact hp K r⟩
theorem Dx {f:Nat→Option (Ev R)} (hf:∀l g,f l=some g→∀h,wU (g h)) (ls:List (Nat × GL)) (a:Hint) (i:Nat × List TV) (K:fy R):A7 nt f ls a i K=HW f ls a i (lP nt f ls a K):=CT (xT hf ls a) i K
theorem lG.then {g g':fy R→Option R} (hf:lG g) (F:fy R→fy R) (h:∀K,g' K=g (F K)) (hF:∀e S,lG fun K=>F K e S):lG g':=by
 obtain ⟨l,hl⟩:=hf
 exact lG.bind (F:=fun K q=>F K q.1 q.2) (fun q=>hF q.1 q.2) fun K r=>by rw [h];exact hl (F K) r
theorem A8 {f:Ev R} {o:Nat→Option (Ev R)} (hf:∀h,wU (f h)) (ho:∀l g,o l=some g→∀h,wU (g h)) (ls:List (Nat × GL)) (a:Hint):wU fun S K=>f a S (lP nt o ls a K):=fun S =>
 (hf a S).then _ (fun K=>rfl) fun e S'=>by
  cases ht:Ib nt ls e S' with
  | none=>exact .one e S' fun K=>by simp only [lP,vw,ht]
  | some j =>
   cases j with
   | none=>exact .nil fun K=>by simp only [lP,vw,ht]
   | some j =>
    obtain ⟨p',Ma⟩:=zX (xT ho ls a) (tr:=Ib nt ls) j
    exact ⟨p',fun K r=>by simp only [lP,vw,ht];exact Ma K r⟩
theorem yP {f g:St→fy R→Option R} (hf:wU f) (hg:wU g):wU fun S K=>f S (IQ g K):=fun S =>
 (hf S).then _ (fun K=>rfl) fun e S'=>by
  cases e with
  | normal=>exact hg S'
  | _=>exact .one _ S' fun K=>rfl
theorem wh {f g:St→fy R→Option R} (hf:wU f) (hg:wU g) (G:GL):wU fun S K=>f S (uI nt g G K):=fun S =>
 (hf S).then _ (fun K=>rfl) fun e S'=>by
  cases e with
  | normal =>
   cases hr:jL nt G S' with
   | none=>exact .nil fun K=>by simp only [uI,hr]
   | some xs =>
    obtain ⟨p,hp⟩:=hg (gE G xs)
    exact ⟨p,fun K r=>by simp only [uI,hr];exact hp K r⟩
  | _=>exact .one _ S' fun K=>rfl
theorem BQ {f:St→fy R→Option R} (hf:wU f) (id:Nat):wU fun S K=>f S (mM id K):=fun S =>
 (hf S).then _ (fun K=>rfl) fun e S'=>by
  cases e with
  | exit j =>
   cases hb:Nat.beq j id with
   | true=>exact .one .normal S' fun K=>by simp only [mM,hb]
   | false=>exact .one (.exit j) S' fun K=>by simp only [mM,hb]
  | _=>exact .one _ S' fun K=>rfl
variable (P:Program) (E:cr)
theorem C7 {X:Type} {p:Option Bool} {f:(X→Option R)→Option R} (h:∃q:Option X,∀K,f K=q.bind K):∃q:Option X,∀K,JM p (f K)=q.bind K:=by
 obtain ⟨q,hq⟩:=h
 cases p with
 | none=>exact ⟨q,hq⟩
 | some b=>cases b with
  | true=>exact ⟨q,hq⟩
  | false=>exact ⟨none,fun K=>rfl⟩
theorem yQ (ops:Array Oper):∀(os:List Oper) (S:St),∃p:Option St,∀K:St→Option R,DA P E nt ops os S K=p.bind K
 | [],S=>⟨some S,fun K=>rfl⟩
 | o :: os,S=>by
  show ∃p:Option St,∀K:St→Option R,(match mU P E nt ops o S with | some e=>JM e.p (DA P E nt ops os (iY S o.dst e) K) | none=>none)=p.bind K
  cases mU P E nt ops o S with
  | none=>exact ⟨none,fun K=>rfl⟩
  | some e=>exact C7 (yQ ops os _)
theorem yR (ops:Array Oper) (W B:List (List Nat)):∀(os:List Oper) (i:Nat) (S:St),∃p:Option St,∀K:St→Option R,DC P E nt ops W B i os S K=p.bind K
 | [],_,S=>⟨some S,fun K=>rfl⟩
 | o :: os,i,S=>by
  show ∃p:Option St,∀K:St→Option R,(match mU P E nt ops o (pC (rq W B i) S) with | some e=>fw (decide (ky o.dst e=W.getD i [])&&(rq W B i).all fun k=>!((W.getD i []).contains k)) (JM e.p (DC P E nt ops W B (i+1) os (iY S o.dst e) K)) | none=>none)=p.bind K
  cases mU P E nt ops o (pC (rq W B i) S) with
  | none=>exact ⟨none,fun K=>rfl⟩
  | some e =>
   simp only
   generalize (decide (ky o.dst e=W.getD i [])&&(rq W B i).all fun k=>!((W.getD i []).contains k))=b
   cases b with
   | false=>exact ⟨none,fun K=>rfl⟩
   | true=>exact C7 (yR ops W B os (i+1) _)
theorem FG (ops:Array Oper) (draw:Bool) (S:St):∃p:Option St,∀K:St→Option R,Dy P E nt ops draw S K=p.bind K:=by
 cases draw with
 | false=>exact yQ P E ops _ S
 | true =>
  simp only [Dy]
  cases td ops.toList with
  | false=>exact ⟨none,fun K=>rfl⟩
  | true =>
   cases Gl P E nt ops ops.toList S with
   | none=>exact ⟨none,fun K=>rfl⟩
   | some W=>exact yR P E ops W _ _ 0 S
theorem tc (c:Code):(∀h,wU (oe (R:=R) P E nt c h))∧∀l g,yg (R:=R) P E nt c l=some g→∀h,wU (g h):=by
 have uv:∀{f:Ev R},∀l g,(iy f).2 l=some g→∀h,wU (g h):=fun l g e=>by cases e
 induction c with
 | skip=>exact ⟨fun h S => .one .normal S fun K=>rfl,uv⟩
 | label l =>
  refine ⟨fun h S => .one .normal S fun K=>rfl,fun l' g e=>?_⟩
  have e:pR l l'=some g:=e
  unfold pR at e
  cases hb:Nat.beq l l' with
  | true=>rw [hb] at e;cases e;exact fun h S => .one .normal S fun K=>rfl
  | false=>rw [hb] at e;cases e
 | exit id=>exact ⟨fun h S => .one (.exit id) S fun K=>rfl,uv⟩
 | goto l=>exact ⟨fun h S => .one (.goto l) S fun K=>rfl,uv⟩
 | ret=>exact ⟨fun h S => .one .ret S fun K=>rfl,uv⟩
 | region id ops draw =>
  refine ⟨fun h S=>?_,uv⟩
  obtain ⟨p,hp⟩:=FG (R:=R) P E (nt:=nt) ops draw S
  cases p with
  | none=>exact .nil fun K=>hp _
  | some S'=>exact .one .normal S' fun K=>hp _
 | seq a b Ie Gv =>
  refine ⟨fun h=>?_,fun l g e=>?_⟩
  ·cases h <;> first | exact yP (Ie.1 _) (Gv.1 _) | exact wh (Ie.1 _) (Gv.1 _) _
  ·have e:A6 nt (yg P E nt a) (yg P E nt b) (oe P E nt b) (oe P E nt b) l=some g:=e
   unfold A6 at e
   split at e
   ·rename_i ga ea
    cases e
    intro h
    cases h <;> first | exact yP (Ie.2 l ga ea _) (Gv.1 _) | exact wh (Ie.2 l ga ea _) (Gv.1 _) _
   ·split at e
    ·rename_i gb eb;cases e;exact fun h=>Gv.2 l gb eb _
    ·cases e
 | cond x a b Ie Gv =>
  refine ⟨fun h S=>?_,uv⟩
  obtain ⟨p,hp⟩:=Ie.1 h.s1 S
  obtain ⟨p',Ma⟩:=Gv.1 h.s2 S
  have two:lG (R:=R) fun K=>both (oe P E nt a h.s1 S K) (oe P E nt b h.s2 S K):=by
   refine ⟨p++p',fun K r=>?_⟩
   rw [rZ,hp,Ma]
   refine ⟨fun ⟨h1,h2⟩ q hq=>(List.mem_append.1 hq).elim (h1 q) (h2 q),fun h=>⟨fun q hq=>h q (List.mem_append_left _ hq),fun q hq=>h q (List.mem_append_right _ hq)⟩⟩
  show lG fun K:fy R=>(match gr E nt S 0 x with | some (.b t,.no)=>cond t (oe P E nt a h.s1 S K) (oe P E nt b h.s2 S K) | some (.ub e,.no)=>cond e (both (oe P E nt a h.s1 S K) (oe P E nt b h.s2 S K)) (oe P E nt b h.s2 S K) | _=>none)
  split
  ·rename_i t _
   cases t with
   | true=>exact ⟨p,hp⟩
   | false=>exact ⟨p',Ma⟩
  ·rename_i t _
   cases t with
   | true=>exact two
   | false=>exact ⟨p',Ma⟩
  ·exact .nil fun K=>rfl
 | block id a ih=>exact ⟨fun h=>BQ (ih.1 _) id,uv⟩
 | loop a ih =>
  refine ⟨fun h=>?_,uv⟩
  cases h <;> first | exact DZ (ih.1 _) _ | exact fun S => .nil fun K=>rfl
 | rangeFunc _ _ _ _ _ _=>exact ⟨fun h S => .nil fun K=>rfl,uv⟩
 | scope a ih =>
  refine ⟨fun h=>?_,uv⟩
  cases h <;> first | exact A8 ih.1 ih.2 _ _ | exact fun S => .nil fun K=>rfl
 | refuse _=>exact ⟨fun h S => .nil fun K=>rfl,uv⟩
theorem JE (c:Code) (h:Hint) (G:GL) (xs:List TV) (K:fy R):CA nt (oe P E nt c h) G xs K=ev P E nt c h (gE G xs) (xY nt (oe P E nt c h) G K):=by
 rw [F6 ((tc P E c).1 h),Hd]
theorem Hc (c:Code) (ls:List (Nat × GL)) (a:Hint) (i:Nat × List TV) (K:fy R):A7 nt (yg P E nt c) ls a i K=HW (He P E nt c).2 ls a i (lP nt (yg P E nt c) ls a K):=by
 rw [Dx (tc P E c).2,←Hf];rfl
end
end Go.Eng
namespace Go.Eng
def bits:Nat→Nat→List Bool
 | 0,_=>[]
 | f+1,n=>cond (Nat.ble n 1) [] (Nat.beq (n % 2) 1 :: bits f (n / 2))
section
variable {R:Type} (P:Program) (E:cr) (nt:Nat)
noncomputable def walk:List Bool→Code→Hint→fy R→Code × Hint × fy R
 | [],c,h,K=>(c,h,K)
 | false :: p,.seq a b,.j G h1 h2,K=>walk p a h1 (uI nt (oe P E nt b h2) G K)
 | true :: p,.seq _ b,.j _ _ h2,K=>walk p b h2 K
 | false :: p,.seq a b,h,K=>walk p a h.s1 (IQ (ev P E nt b h.s2) K)
 | true :: p,.seq _ b,h,K=>walk p b h.s2 K
 | false :: p,.cond _ a _,h,K=>walk p a h.s1 K
 | true :: p,.cond _ _ b,h,K=>walk p b h.s2 K
 | _ :: p,.block id a,h,K=>walk p a h.s1 (mM id K)
 | _ :: p,.loop a,.l G h,K=>walk p a h (xY nt (oe P E nt a h) G K)
 | _ :: p,.scope a,.sc ls h,K=>walk p a h (lP nt (yg P E nt a) ls h K)
 | _ :: _,_,_,_=>(.skip,.o,fun _ _=>none)
end
noncomputable def Ny (P:Program) (E:cr) (f:Nat) (sg:bW) (h:Hint) (p:Nat):Nat × Code × Hint × fy (List TV) :=
 match P.funcs[f]? with
 | some fn=>match fn.body with
  | some c=>(fn.ntmps,walk P E fn.ntmps (bits 500 p) c h (Pm P fn.ntmps fn sg))
  | none=>(0,.skip,.o,fun _ _=>none)
 | none=>(0,.skip,.o,fun _ _=>none)
noncomputable def eD (P:Program) (E:cr) (f:Nat) (sg:bW) (h:Hint) (p:Nat) (xs:List TV):OT :=
 match Ny P E f sg h p with
 | (nt,.seq _ b,.j G _ h2,K)=>oe P E nt b h2 (gE G xs) K
 | _=>none
noncomputable def dL (P:Program) (E:cr) (f:Nat) (sg:bW) (h:Hint) (p:Nat) (xs:List TV):OT :=
 match Ny P E f sg h p with
 | (nt,.loop a,.l G h1,K)=>CA nt (oe P E nt a h1) G xs K
 | _=>none
noncomputable def xx (P:Program) (E:cr) (f:Nat) (sg:bW) (h:Hint) (p l:Nat) (xs:List TV):OT :=
 match Ny P E f sg h p with
 | (nt,.scope a,.sc ls h1,K)=>A7 nt (yg P E nt a) ls h1 (l,xs) K
 | _=>none
theorem cp (P:Program) (E:cr) (f:Nat) (sg:bW) (h:Hint) (p:Nat) (xs:List TV):eD P E f sg h p xs=match Ny P E f sg h p with
  | (nt,.seq _ b,.j G _ h2,K)=>ev P E nt b h2 (gE G xs) K
  | _=>none:=by
 unfold eD
 split
 ·rw [Hd]
 ·rfl
theorem bV (P:Program) (E:cr) (f:Nat) (sg:bW) (h:Hint) (p:Nat) (xs:List TV):dL P E f sg h p xs=match Ny P E f sg h p with
  | (nt,.loop a,.l G h1,K)=>ev P E nt a h1 (gE G xs) (xY nt (oe P E nt a h1) G K)
  | _=>none:=by
 unfold dL
 split
 ·rw [JE]
 ·rfl
theorem wg (P:Program) (E:cr) (f:Nat) (sg:bW) (h:Hint) (p l:Nat) (xs:List TV):xx P E f sg h p l xs=match Ny P E f sg h p with
  | (nt,.scope a,.sc ls h1,K)=>HW (He P E nt a).2 ls h1 (l,xs) (lP nt (yg P E nt a) ls h1 K)
  | _=>none:=by
 unfold xx
 split
 ·rw [Hc]
 ·rfl
end Go.Eng
namespace Go.Eng
open Go.RowKit
def TV.val:TV→Option Value
 | .u8 n=>some (.int .u8 n.toNat)
 | .u16 n=>some (.int .u16 n.toNat)
 | .u32 n=>some (.int .u32 n.toNat)
 | .u64 n=>some (.int .u64 n.toNat)
 | .i k n=>some (.int k n)
 | .b x=>some (.bool x)
 | .s l=>some (.string ⟨⟨l⟩⟩)
 | .c v=>some v
 | _=>none
abbrev Reach:=Nat→Nat→Prop
mutual
inductive Rep (R:Reach) (w:World):TV→Value→Prop
 | sc {x:TV} {v:Value}:x.val=some v→Rep R w x v
 | ag {cs:List TV} {ys:List Value}:dq R w cs ys→Rep R w (.ag cs) (.agg ⟨ys⟩)
 | tu {vs:List TV} {ys:List Value}:iv R w vs ys→Rep R w (.tu vs) (.tuple ⟨ys⟩)
 | nl (t:fx):Rep R w (.nl t) (.slice none 0 0)
 | ub {e b:Bool}:(b=true→e=true)→Rep R w (.ub e) (.bool b)
 | sn (t:fx):Rep R w (.sl t []) (.slice none 0 0)
 | sl {t:fx} {l:List t.El} {b off n cap:Nat}:n=l.length→n≤cap→cap≤maxLen→kf R w t.size (l.map t.tv) b off→Rep R w (.sl t l) (.slice (some ⟨b,off,none⟩) n cap)
 | em {a:Addr} {cap:Nat} (t:fx):cap≤maxLen→Rep R w (.sl t []) (.slice (some a) 0 cap)
 | ro {x:TV} {b off s:Nat}:ly R w s x b off→Rep R w (.ro x) (.pointer (some ⟨b,off,none⟩))
 | pt (y:Value):Rep R w .pt y
 | dead (y:Value):Rep R w .dead y
 | NN {x:TV} {y:Value}:Rep R w x y→Rep R w (.gd true x) y
 | Pj (x:TV):Rep R w (.gd false x) undef
inductive dq (R:Reach) (w:World):List TV→List Value→Prop
 | nil:dq R w [] []
 | cons {x:TV} {y:Value} {xs:List TV} {ys:List Value}:y.oneCell'=true→Rep R w x y→dq R w xs ys→dq R w (x :: xs) (y :: ys)
inductive iv (R:Reach) (w:World):List TV→List Value→Prop
 | nil:iv R w [] []
 | cons {x:TV} {y:Value} {xs:List TV} {ys:List Value}:Rep R w x y→iv R w xs ys→iv R w (x :: xs) (y :: ys)
inductive lF (R:Reach) (w:World):List TV→Nat→Nat→Prop
 | nil (b off:Nat):lF R w [] b off
 | cons {x:TV} {y:Value} {xs:List TV} {b off:Nat}:R b off→w.cell? ⟨b,off,none⟩=some y→y.oneCell'=true→Rep R w x y→lF R w xs b (off+1)→lF R w (x :: xs) b off
inductive ly (R:Reach) (w:World):Nat→TV→Nat→Nat→Prop
 | ag {cs:List TV} {b off s:Nat}:s=cs.length→lF R w cs b off→ly R w s (.ag cs) b off
 | one {x:TV} {y:Value} {b off:Nat}:x.sG=false→R b off→w.cell? ⟨b,off,none⟩=some y→y.oneCell'=true→Rep R w x y→ly R w 1 x b off
inductive kf (R:Reach) (w:World):Nat→List TV→Nat→Nat→Prop
 | nil (s b off:Nat):kf R w s [] b off
 | cons {s:Nat} {x:TV} {xs:List TV} {b off:Nat}:ly R w s x b off→kf R w s xs b (off+s)→kf R w s (x :: xs) b off
end
def dT (R:Reach) (w:World) (R':Reach) (w':World):Prop:=∀b o,R b o→R' b o∧w'.cell? ⟨b,o,none⟩=w.cell? ⟨b,o,none⟩
theorem dT.refl (R:Reach) (w:World):dT R w R w:=fun _ _ h=>⟨h,rfl⟩
theorem dT.trans {R R' PR:Reach} {w w' SL:World} (h:dT R w R' w') (k:dT R' w' PR SL):dT R w PR SL :=
 fun b o hr=>⟨(k b o (h b o hr).1).1,(k b o (h b o hr).1).2.trans (h b o hr).2⟩
section
variable {R R':Reach} {w w':World}
mutual
theorem Rep.mono (k:dT R w R' w'):∀{x:TV} {y:Value},Rep R w x y→Rep R' w' x y
 | _,_,.sc h => .sc h
 | _,_,.ag h => .ag (dq.mono k h)
 | _,_,.tu h => .tu (iv.mono k h)
 | _,_,.nl t => .nl t
 | _,_,.ub h => .ub h
 | _,_,.sn t => .sn t
 | _,_,.sl a b c h => .sl a b c (kf.mono k h)
 | _,_,.em t h => .em t h
 | _,_,.ro h => .ro (ly.mono k h)
 | _,_,.pt y => .pt y
 | _,_,.dead y => .dead y
 | _,_,.NN h => .NN (Rep.mono k h)
 | _,_,.Pj x => .Pj x
theorem dq.mono (k:dT R w R' w'):∀{x:List TV} {y:List Value},dq R w x y→dq R' w' x y
 | _,_,.nil => .nil
 | _,_,.cons a h t => .cons a (Rep.mono k h) (dq.mono k t)
theorem iv.mono (k:dT R w R' w'):∀{x:List TV} {y:List Value},iv R w x y→iv R' w' x y
 | _,_,.nil => .nil
 | _,_,.cons h t => .cons (Rep.mono k h) (iv.mono k t)
theorem lF.mono (k:dT R w R' w'):∀{x:List TV} {b o:Nat},lF R w x b o→lF R' w' x b o
 | _,_,_,.nil b o => .nil b o
 | _,_,_,.cons r c a h t => .cons (k _ _ r).1 ((k _ _ r).2.trans c) a (Rep.mono k h) (lF.mono k t)
theorem ly.mono (k:dT R w R' w'):∀{s:Nat} {x:TV} {b o:Nat},ly R w s x b o→ly R' w' s x b o
 | _,_,_,_,.ag e h => .ag e (lF.mono k h)
 | _,_,_,_,.one n r c a h => .one n (k _ _ r).1 ((k _ _ r).2.trans c) a (Rep.mono k h)
theorem kf.mono (k:dT R w R' w'):∀{s:Nat} {x:List TV} {b o:Nat},kf R w s x b o→kf R' w' s x b o
 | _,_,_,_,.nil s b o => .nil s b o
 | _,_,_,_,.cons h t => .cons (ly.mono k h) (kf.mono k t)
end
end
section
variable {R:Reach} {w:World}
theorem dq.length:∀{xs:List TV} {ys:List Value},dq R w xs ys→xs.length=ys.length
 | _,_,.nil=>rfl
 | _,_,.cons _ _ t=>by simp [dq.length t]
theorem iv.length:∀{xs:List TV} {ys:List Value},iv R w xs ys→xs.length=ys.length
 | _,_,.nil=>rfl
 | _,_,.cons _ t=>by simp [iv.length t]
theorem dq.get:∀{xs:List TV} {ys:List Value} (_:dq R w xs ys) (i:Nat) (x:TV),xs[i]?=some x→∃y,ys[i]?=some y∧y.oneCell'=true∧Rep R w x y
 | _,_,.cons a h _,0,x,e=>by simp at e;subst e;exact ⟨_,rfl,a,h⟩
 | _,_,.cons _ _ t,i+1,x,e=>by simpa using dq.get t i x (by simpa using e)
theorem iv.get:∀{xs:List TV} {ys:List Value} (_:iv R w xs ys) (i:Nat) (x:TV),xs[i]?=some x→∃y,ys[i]?=some y∧Rep R w x y
 | _,_,.cons h _,0,x,e=>by simp at e;subst e;exact ⟨_,rfl,h⟩
 | _,_,.cons _ t,i+1,x,e=>by simpa using iv.get t i x (by simpa using e)
theorem dq.one:∀{xs:List TV} {ys:List Value},dq R w xs ys→∀y∈ys,y.oneCell'=true
 | _,_,.cons a _ t,y,hy=>by
  rcases aP.1 hy with rfl | h
  ·exact a
  ·exact dq.one t y h
theorem dq.append:∀{xs:List TV} {ys:List Value} {H9:List TV} {wV:List Value},dq R w xs ys→dq R w H9 wV→dq R w (xs++H9) (ys++wV)
 | _,_,_,_,.nil,h=>h
 | _,_,_,_,.cons a h t,k => .cons a h (dq.append t k)
theorem dq.take:∀{xs:List TV} {ys:List Value} (n:Nat),dq R w xs ys→dq R w (xs.take n) (ys.take n)
 | _,_,0,_=>by simp;exact .nil
 | _,_,n+1,.nil=>by simp;exact .nil
 | _,_,n+1,.cons a h t=>by simp;exact .cons a h (dq.take n t)
theorem dq.drop:∀{xs:List TV} {ys:List Value} (n:Nat),dq R w xs ys→dq R w (xs.drop n) (ys.drop n)
 | _,_,0,h=>by simpa using h
 | _,_,n+1,.nil=>by simp;exact .nil
 | _,_,n+1,.cons a h t=>by simp;exact dq.drop n t
theorem lF.read:∀{xs:List TV} {b o:Nat},lF R w xs b o→∃ys,dq R w xs ys∧∀j y,ys[j]?=some y→w.cell? ⟨b,o+j,none⟩=some y
 | _,_,_,.nil _ _=>⟨[],.nil,by simp⟩
 | _,b,o,.cons (y:=y) r c a h t=>by
  obtain ⟨ys,hl,hc⟩:=lF.read t
  refine ⟨y :: ys,.cons a h hl,fun j z hz=>?_⟩
  cases j with
  | zero=>simp at hz;subst hz;exact c
  | succ j=>have:=hc j z (by simpa using hz);rw [show o+(j+1)=o+1+j by omega];exact this
theorem lF.write:∀{xs:List TV} {ys:List Value} {b o:Nat},dq R w xs ys→(∀j,j<ys.length→R b (o+j))→(∀j y,ys[j]?=some y→w.cell? ⟨b,o+j,none⟩=some y)→lF R w xs b o
 | _,_,b,o,.nil,_,_ => .nil b o
 | _,_,b,o,.cons a h t,hr,hc => .cons (hr 0 (by simp)) (hc 0 _ rfl) a h
   (lF.write t (fun j hj=>by have:=hr (j+1) (by simp;omega);rwa [show o+(j+1)=o+1+j by omega] at this)
    (fun j y hy=>by have:=hc (j+1) y (by simpa using hy);rwa [show o+(j+1)=o+1+j by omega] at this))
theorem lF.drop:∀{xs:List TV} {b o:Nat} (n:Nat),lF R w xs b o→lF R w (xs.drop n) b (o+n)
 | _,b,o,0,h=>by simpa using h
 | _,b,o,n+1,.nil _ _=>by simp;exact .nil _ _
 | _,b,o,n+1,.cons r c a h t=>by simp;have:=lF.drop n t;rwa [show o+1+n=o+(n+1) by omega] at this
theorem lF.take:∀{xs:List TV} {b o:Nat} (n:Nat),lF R w xs b o→lF R w (xs.take n) b o
 | _,b,o,0,h=>by simp;exact .nil _ _
 | _,b,o,n+1,.nil _ _=>by simp;exact .nil _ _
 | _,b,o,n+1,.cons r c a h t=>by simp;exact .cons r c a h (lF.take n t)
theorem kf.get:∀{s:Nat} {es:List TV} {b o:Nat} (_:kf R w s es b o) (i:Nat) (x:TV),es[i]?=some x→ly R w s x b (o+i * s)
 | s,_,b,o,.cons h _,0,x,e=>by simp at e;subst e;simpa using h
 | s,_,b,o,.cons _ t,i+1,x,e=>by
  have:=kf.get t i x (by simpa using e)
  rwa [show o+s+i * s=o+(i+1) * s by rw [Nat.succ_mul];omega] at this
theorem kf.drop:∀{s:Nat} {es:List TV} {b o:Nat} (n:Nat),kf R w s es b o→kf R w s (es.drop n) b (o+n * s)
 | s,_,b,o,0,h=>by simpa using h
 | s,_,b,o,n+1,.nil _ _ _=>by simp;exact .nil _ _ _
 | s,_,b,o,n+1,.cons h t=>by simp;have:=kf.drop n t;rwa [show o+s+n * s=o+(n+1) * s by rw [Nat.succ_mul];omega] at this
theorem kf.take:∀{s:Nat} {es:List TV} {b o:Nat} (n:Nat),kf R w s es b o→kf R w s (es.take n) b o
 | s,_,b,o,0,h=>by simp;exact .nil _ _ _
 | s,_,b,o,n+1,.nil _ _ _=>by simp;exact .nil _ _ _
 | s,_,b,o,n+1,.cons h t=>by simp;exact .cons h (kf.take n t)
theorem ly.read {s:Nat} {x:TV} {b o:Nat} (h:ly R w s x b o):∃ys:List Value,ys.length=s∧(∀j y,ys[j]?=some y→w.cell? ⟨b,o+j,none⟩=some y)∧dq R w x.cells ys:=by
 cases h with
 | ag e h=>obtain ⟨ys,hl,hc⟩:=h.read;exact ⟨ys,by rw [e,hl.length],hc,hl⟩
 | one n r c a h =>
  rename_i y
  refine ⟨[y],rfl,?_,?_⟩
  ·intro j z hz
   cases j with
   | zero=>simp at hz;subst hz;exact c
   | succ j=>simp at hz
  ·cases x <;> simp [TV.cells,TV.sG] at n ⊢ <;> exact .cons a h .nil
theorem ly.write {s:Nat} {x:TV} {ys:List Value} {b o:Nat} (hs:x.cells.length=s) (h:dq R w x.cells ys) (hr:∀j,j<s→R b (o+j)) (hc:∀j y,ys[j]?=some y→w.cell? ⟨b,o+j,none⟩=some y):ly R w s x b o:=by
 have hl:=h.length
 cases x with
 | ag cs=>exact .ag hs.symm (lF.write h (fun j hj=>hr j (by omega)) hc)
 | _ =>
  simp only [TV.cells,ay] at hs h hl
  subst hs
  cases h with
  | cons a h t=>exact .one rfl (hr 0 (by omega)) (hc 0 _ rfl) a h
theorem kf.cells:∀{s:Nat} {es:List TV} {b o:Nat},kf R w s es b o→∃ys:List Value,ys.length=es.length * s∧(∀j y,ys[j]?=some y→w.cell? ⟨b,o+j,none⟩=some y)∧dq R w (es.flatMap TV.cells) ys∧∀e∈es,e.cells.length=s
 | s,_,b,o,.nil _ _ _=>⟨[],by simp,by simp,.nil,by simp⟩
 | s,_,b,o,.cons (x:=x) (xs:=xs) h t=>by
  obtain ⟨ys,hl,hc,hr⟩:=h.read
  obtain ⟨zs,kl,kc,kr,ke⟩:=kf.cells t
  have hx:x.cells.length=s:=by rw [hr.length,hl]
  refine ⟨ys++zs,by simp [hl,kl,Nat.succ_mul];omega,?_,?_,?_⟩
  ·intro j y hy
   by_cases hj:j<ys.length
   ·exact hc j y (by rwa [List.getElem?_append_left hj] at hy)
   ·rw [aR (by omega)] at hy
    have:=kc _ y hy
    rwa [show o+s+(j - ys.length)=o+j by omega] at this
  ·simpa using hr.append kr
  ·intro e he
   rcases aP.1 he with rfl | h'
   ·exact hx
   ·exact ke e h'
theorem kf.write:∀{s:Nat} {es:List TV} {ys:List Value} {b o:Nat},(∀e∈es,e.cells.length=s)→dq R w (es.flatMap TV.cells) ys→(∀j,j<es.length * s→R b (o+j)) →
  (∀j y,ys[j]?=some y→w.cell? ⟨b,o+j,none⟩=some y)→kf R w s es b o
 | s,[],ys,b,o,_,_,_,_ => .nil _ _ _
 | s,e :: es,ys,b,o,he,h,hr,hc=>by
  have hs:=he e (by simp)
  have hl:=h.length
  simp only [List.flatMap_cons,aj] at hl
  have h1:dq R w e.cells (ys.take s):=by simpa [hs] using h.take s
  have h2:dq R w (es.flatMap TV.cells) (ys.drop s):=by have:=h.drop s;simpa [List.drop_append,hs,aC] using this
  refine .cons (.write hs h1 (fun j hj=>hr j (by simp [Nat.succ_mul];omega)) (fun j y hy=>hc j y ?_))
   (kf.write (fun e' h'=>he e' (by simp [h'])) h2 (fun j hj=>?_) (fun j y hy=>?_))
  ·rw [aU] at hy;split at hy
   ·exact hy
   ·cases hy
  ·have:=hr (s+j) (by simp [Nat.succ_mul];omega);rwa [←Nat.add_assoc] at this
  ·have:=hc (s+j) y (by simpa using hy);rwa [←Nat.add_assoc] at this
end
theorem fx.kN (t:fx) (x:t.El):(t.tv x).cells.length=t.size:=by cases t <;> rfl
theorem fx.Fb (t:fx) (x:t.El):(t.tv x).plain=true:=by cases t <;> rfl
end Go.Eng
namespace Go.Eng
open Go.RowKit
def Value.gR:Value→Option Nat
 | .pointer (some a)=>some a.block
 | .slice (some a) _ _=>some a.block
 | _=>none
def Gh.CK:Gh→Bool
 | .pw _ | .pc _=>true
 | _=>false
def Gh.CJ:Gh→Bool
 | .pw _=>true
 | _=>false
def gb (τ:Nat→Value) (g:Gh) (v:Value):Option Nat:=match g with
 | .pw d=>if Value.gR v=Value.gR (τ d) then none else Value.gR v
 | g=>if g.own then Value.gR v else none
def gR (τ:Nat→Value) (S:St) (k:Nat):Option Nat:=gb τ (S k).2 (τ k)
theorem MB {τ:Nat→Value} {g:Gh} {v:Value} {b:Nat} (h:gb τ g v=some b):g.own=true∧Value.gR v=some b:=by
 unfold gb at h
 split at h
 ·split at h
  ·cases h
  ·exact ⟨rfl,h⟩
 ·split at h
  ·exact ⟨‹_›,h⟩
  ·cases h
theorem GY {τ:Nat→Value} {g:Gh} {v:Value} {b:Nat} (ho:g.own=true) (hw:g.CJ=false) (h:Value.gR v=some b):gb τ g v=some b:=by
 unfold gb
 split
 ·cases hw
 ·rw [au ho,h]
theorem GX {τ nX:Nat→Value} {g:Gh} {v:Value} (h:∀m∈g.df,nX m=τ m):gb nX g v=gb τ g v:=by
 unfold gb
 split
 ·rw [h _ (List.mem_singleton.2 rfl)]
 ·rfl
def ft (R:Reach) (w:World) (p:Bool) (v:Value) (x:TV):Prop :=
 ∃t l,x = .sl t l∧((l=[]∧v = .slice none 0 0)∨∃g cap cur e fz,v = .slice (some ⟨g,0,none⟩) l.length cap∧w.heap[g]?=some (.cells cur e fz)∧(∀o,o<cur.size→¬(fz.1≤o∧o<fz.2)) ∧
  cur.size=cap * t.size∧l.length≤cap∧cap≤maxLen∧dq R w ((l.map t.tv).flatMap TV.cells) (cur.toList.take (l.length * t.size))∧∀o,R g o ↔ (p=true∧o<l.length * t.size))
def Nq (R:Reach) (w:World) (v:Value) (x:TV) (u:Value):Prop :=
 (ft R w false v x∧(Value.gR v=none∨Value.gR v≠Value.gR u))∨∃t l g cap n,x = .sl t l∧v = .slice (some ⟨g,0,none⟩) l.length cap∧u = .slice (some ⟨g,0,none⟩) n cap
def wT (R:Reach) (w:World) (τ:Nat→Value) (v:Value) (x:TV) (ts:List (Nat × Nat)):Prop :=
 ∃b cs e xs,v = .pointer (some ⟨b,0,none⟩)∧w.heap[b]?=some (.cells ⟨cs⟩ e (0,0))∧x = .ag xs∧dq R w xs cs∧(∀t∈ts,cs[t.1]?=some (τ t.2))∧∀o,¬R b o
def jF (R:Reach) (w:World) (τ:Nat→Value) (x:TV) (g:Gh) (v:Value):Prop :=
 match g with
 | .ptr m o=>∃b,τ m = .pointer (some ⟨b,0,none⟩)∧v = .pointer (some ⟨b,o,none⟩)
 | .fB k=>v=τ k∧v.oneCell'=true
 | .pe k=>∃b i s o,Value.gR (τ k)=some b∧x = .el i s o∧v = .pointer (some ⟨b,i * s+o,none⟩)
 | .J6 l=>∃ys vs,v = .tuple ⟨ys⟩∧x = .tu vs∧iv R w vs ys∧∀p∈l,ys[p.1]?=some (τ p.2)
 | .ow l=>∃ys vs,v = .agg ⟨ys⟩∧x = .ag vs∧dq R w vs ys∧∀p∈l,ys[p.1]?=some (τ p.2)
 | _=>Rep R w x v
def dS (R:Reach) (w:World) (τ:Nat→Value) (x:TV) (g:Gh) (v:Value):Prop :=
 match x with
 | .gd false _=>v=undef
 | .gd true x=>jF R w τ x g v
 | x=>jF R w τ x g v
def ji (R:Reach) (w:World) (τ:Nat→Value) (x:TV) (g:Gh) (v:Value):Prop :=
 match g with
 | .cl ts=>wT R w τ v x ts
 | .pv=>ft R w false v x
 | .pw d=>Nq R w v x (τ d)
 | .pc _=>ft R w false v x
 | .lv=>ft R w true v x
 | .us=>Rep R w x v
 | .zz=>True
 | .hid=>True
 | g=>dS R w τ x g v
structure Core (nt:Nat) (R:Reach) (w:World) (dK:Nat→Prop) (τ:Nat→Value) (S:St):Prop where
 key:∀k,ji R w τ (S k).1 (S k).2 (τ k)
 sep:∀k k' g,gR τ S k=some g→gR τ S k'=some g→k=k'
 dK:∀k g,gR τ S k=some g→dK g
 inv:∀j,∀k∈(S j).2.df,nt≤k∧(S k).2 ≠ .no
 re:∀b o,R b o→b<w.heap.size
 slt:∀k,k<nt→(S k).2.slot=true
 par:∀k d,(S k).2 = .pw d→(S d).2 = .pc k∧∃t l m,(S k).1 = .sl t l∧(S d).1 = .sl t (l++m)
theorem fX {τ:Nat→Value} {S:St} {k g:Nat} (h:gR τ S k=some g):(S k).2.own=true∧Value.gR (τ k)=some g:=MB h
theorem ft.lt {R:Reach} {w:World} {p:Bool} {v:Value} {x:TV} {g:Nat} (h:ft R w p v x) (hb:Value.gR v=some g):g<w.heap.size:=by
 obtain ⟨t,l,rfl,⟨_,rfl⟩ | ⟨g',cap,cur,e,fz,rfl,h,_⟩⟩:=h
 ·cases hb
 ·cases hb;exact (Array.getElem?_eq_some_iff.1 h).1
theorem wT.lt {R:Reach} {w:World} {τ:Nat→Value} {v:Value} {x:TV} {ts:List (Nat × Nat)} {g:Nat} (h:wT R w τ v x ts) (hb:Value.gR v=some g):g<w.heap.size:=by
 obtain ⟨b,cs,e,xs,rfl,h,_⟩:=h
 cases hb;exact (Array.getElem?_eq_some_iff.1 h).1
def qg (S:St) (d:Nat) (x:Cell):St:=fun k=>if k=d then x else S k
theorem sQ (S:St) (d:Nat) (x:Cell):qg S d x=cR S d x:=by
 funext k
 unfold qg cR
 by_cases h:k=d
 ·simp [h]
 ·rw [ao h]
  cases hb:Nat.beq k d with
  | true=>exact (h (aw hb)).elim
  | false=>rfl
section
variable {nt:Nat} {R R':Reach} {w w':World} {dK Cw:Nat→Prop} {τ nX:Nat→Value} {S S':St}
theorem Core.lt (h:Core nt R w dK τ S) {k g:Nat} (hb:gR τ S k=some g):g<w.heap.size:=by
 have pE:=hb
 obtain ⟨ho,hb⟩:=fX hb
 have hk:=h.key k
 cases hg:(S k).2 <;> rw [hg] at ho hk <;> first | (cases ho;done) | exact wT.lt hk hb | exact ft.lt hk hb | skip
 unfold gR at pE;rw [hg] at pE
 rcases hk with ⟨hk,_⟩ | ⟨t,l,g',cap,n,_,e1,e2⟩
 ·exact ft.lt hk hb
 ·simp only [gb,e1,e2,Value.gR,if_true] at pE;cases pE
theorem ft.dM {p:Bool} {v:Value} {x:TV} (h:ft R w p v x) (k:dT R w R' w') (hh:∀g,Value.gR v=some g→w'.heap[g]?=w.heap[g]?∧∀o,R' g o→R g o):ft R' w' p v x:=by
 obtain ⟨t,l,rfl,h | ⟨g,cap,cur,e,fz,rfl,h1,h2,h3,h4,h5,h6,h7⟩⟩:=h
 ·exact ⟨t,l,rfl,.inl h⟩
 ·obtain ⟨e1,e2⟩:=hh g rfl
  exact ⟨t,l,rfl,.inr ⟨g,cap,cur,e,fz,rfl,e1.trans h1,h2,h3,h4,h5,h6.mono k,fun o=>⟨fun hr=>(h7 o).1 (e2 o hr),fun hr=>(k g o ((h7 o).2 hr)).1⟩⟩⟩
theorem jF.dM {x:TV} {g:Gh} {v:Value} (h:jF R w τ x g v) (k:dT R w R' w') (ht:∀m∈g.df,nX m=τ m):jF R' w' nX x g v:=by
 cases g <;> simp only [jF,Gh.df,List.mem_singleton,forall_eq,bg,forall_exists_index,and_imp,forall_apply_eq_imp_iff₂] at * <;> first | exact h.mono k | (rw [ht];exact h) | skip
 all_goals
  obtain ⟨ys,vs,h1,h2,h3,h4⟩:=h
  exact ⟨ys,vs,h1,h2,h3.mono k,fun p hp=>by rw [ht p hp];exact h4 p hp⟩
theorem ji.dM {x:TV} {g:Gh} {v:Value} (h:ji R w τ x g v) (k:dT R w R' w') (ht:∀m∈g.df,nX m=τ m) (hh:∀b,gb τ g v=some b→w'.heap[b]?=w.heap[b]?∧∀o,R' b o→R b o):ji R' w' nX x g v:=by
 have slot:dS R w τ x g v→dS R' w' nX x g v:=fun h=>by
  unfold dS at h ⊢
  split at h <;> first | exact h | exact jF.dM h k ht
 cases g <;> simp only [ji] at h ⊢ <;> first | exact slot h | exact h.dM k hh | exact h.mono k | trivial | skip
 case pw d =>
  rw [ht d (List.mem_singleton.2 rfl)]
  rcases h with ⟨h1,h2⟩ | h
  ·refine .inl ⟨h1.dM k fun b hb=>hh b ?_,h2⟩
   rcases h2 with h2 | h2
   ·rw [h2] at hb;cases hb
   ·simp only [gb,ao h2];exact hb
  ·exact .inr h
 rename_i ts
 obtain ⟨b,cs,e,xs,rfl,h1,rfl,h2,h3,h4⟩:=h
 obtain ⟨e1,e2⟩:=hh b rfl
 exact ⟨b,cs,e,xs,rfl,e1.trans h1,rfl,h2.mono k,fun t SY=>by rw [ht _ (List.mem_map_of_mem (f:=(·.2)) SY)];exact h3 t SY,fun o hr=>h4 o (e2 o hr)⟩
theorem Core.step (h:Core nt R w dK τ S) (U:Nat→Prop) (dM:dT R w R' w') (out:∀k,¬U k→S' k=S k∧nX k=τ k)
  (M5:∀k g,¬U k→gR τ S k=some g→w'.heap[g]?=w.heap[g]?∧∀o,R' g o→R g o)
  (new:∀k,U k→ji R' w' nX (S' k).1 (S' k).2 (nX k)) (QX:∀k,U k→nX k=τ k∨k<nt∨(S k).2 = .no) (no:∀k,U k→k<nt∨(S' k).2 ≠ .no)
  (P3:∀k,U k→((S k).2.CK=false∧(S' k).2.CK=false)∨((S k).2.CJ=false∧S' k=S k)) (_grow:∀k,U k→(S' k).2.own=true→(S k).2.own=true∨(S k).2 = .no)
  (own:∀k g,U k→gR nX S' k=some g→Cw g∧(∀k',U k'→k'≠k→gR nX S' k'≠some g)∧(w.heap.size≤g∨∃k0,U k0∧gR τ S k0=some g))
  (min:∀g,dK g→Cw g) (inv:∀k,U k→∀j∈(S' k).2.df,nt≤j∧(S' j).2 ≠ .no) (re:∀b o,R' b o→b<w'.heap.size) (slt:∀k,U k→k<nt→(S' k).2.slot=true):Core nt R' w' Cw nX S':=by
 have ht:∀j,∀m∈(S j).2.df,nX m=τ m:=fun j m hm=>by
  obtain ⟨h1,h2⟩:=h.inv j m hm
  by_cases hu:U m
  ·rcases QX m hu with e | e | e
   ·exact e
   ·omega
   ·exact (h2 e).elim
  ·exact (out m hu).2
 have hb:∀k,¬U k→gR nX S' k=gR τ S k:=fun k hk=>by unfold gR;rw [(out k hk).1,(out k hk).2,GX (ht k)]
 have hn:∀j,(S j).2 ≠ .no→nt≤j→(S' j).2 ≠ .no:=fun j hj hl=>by
  by_cases hu:U j
  ·rcases no j hu with e | e
   ·omega
   ·exact e
  ·rw [(out j hu).1];exact hj
 refine ⟨fun k=>?_,fun k k' g h1 h2=>?_,fun k g hk=>?_,fun j k hk=>?_,re,fun k hk=>?_,fun k d hk=>?_⟩
 ·by_cases hu:U k
  ·exact new k hu
  ·obtain ⟨e1,e2⟩:=out k hu
   rw [e1,e2]
   exact (h.key k).dM dM (ht k) fun b lr=>M5 k b hu lr
 ·by_cases e:k=k'
  ·exact e
  ·-- one of U,one not: nothing in common
   have one:∀k k' g,U k→¬U k'→gR nX S' k=some g→gR nX S' k'=some g→False:=fun k k' g u u' h1 h2=>by
    obtain ⟨_,_,h3 | ⟨k0,u0,h3⟩⟩:=own k g u h1
    ·rw [hb k' u'] at h2
     have:=h.lt h2;omega
    ·rw [hb k' u'] at h2
     exact u' (h.sep k0 k' g h3 h2 ▸ u0)
   by_cases u:U k <;> by_cases u':U k'
   ·exact ((own k g u h1).2.1 k' u' (Ne.symm e) h2).elim
   ·exact (one k k' g u u' h1 h2).elim
   ·exact (one k' k g u' u h2 h1).elim
   ·rw [hb k u] at h1;rw [hb k' u'] at h2
    exact h.sep k k' g h1 h2
 ·by_cases hu:U k
  ·exact (own k g hu hk).1
  ·rw [hb k hu] at hk;exact min g (h.dK k g hk)
 ·by_cases hu:U j
  ·exact inv j hu k hk
  ·rw [(out j hu).1] at hk
   obtain ⟨h1,h2⟩:=h.inv j k hk
   exact ⟨h1,hn k h2 h1⟩
 ·by_cases hu:U k
  ·exact slt k hu hk
  ·rw [(out k hu).1];exact h.slt k hk
 ·have e1:S' k=S k:=by
   by_cases hu:U k
   ·rcases P3 k hu with e | e
    ·have:=e.2;rw [hk] at this;cases this
    ·exact e.2
   ·exact (out k hu).1
  rw [e1] at hk
  obtain ⟨p,q⟩:=h.par k d hk
  have e2:S' d=S d:=by
   by_cases hu:U d
   ·rcases P3 d hu with e | e
    ·have:=e.1;rw [p] at this;cases this
    ·exact e.2
   ·exact (out d hu).1
  rw [e1,e2]
  exact ⟨p,q⟩
theorem Core.waits (h:Core nt R w dK τ S) {k d:Nat} {x:TV} (hk:S k=(x,.pw d)):ft R w false (τ k) x:=by
 have h1:=h.key k
 rw [hk] at h1
 rcases h1 with ⟨h1,_⟩ | ⟨t,l,g,cap,n,rfl,e1,e2⟩
 ·exact h1
 ·obtain ⟨p1,t',l',m,q1,q2⟩:=h.par k d (by rw [hk])
  rw [hk] at q1;cases q1
  have h2:=h.key d
  rw [p1,q2] at h2
  obtain ⟨t2,l2,e3,⟨_,e4⟩ | ⟨g',Sz,cur,e,fz,e4,k1,k2,k3,k4,k5,k6,k7⟩⟩:=h2
  ·rw [e2] at e4;cases e4
  ·cases e3
   rw [e2] at e4;cases e4
   refine ⟨t,l,rfl,.inr ⟨g,cap,cur,e,fz,e1,k1,k2,k3,by rw [aj] at k4;omega,k5,?_,fun o=>⟨fun hr=>by simpa using (k7 o).1 hr,fun hr=>by simp at hr⟩⟩⟩
   have hl:l.length * t.size≤(l++m).length * t.size:=av _ (by rw [aj];omega)
   have:=k6.take (l.length * t.size)
   rw [List.take_take,Nat.min_eq_left hl] at this
   rw [List.map_append,List.flatMap_append] at this
   have e5:((l.map t.tv).flatMap TV.cells).length=l.length * t.size:=by
    have:∀l:List t.El,((l.map t.tv).flatMap TV.cells).length=l.length * t.size:=fun l=>by
     induction l with
     | nil=>simp
     | cons a r ih=>simp only [aX,List.flatMap_cons,aj,ih,fx.kN,az,Nat.succ_mul];omega
    exact this l
   rw [List.take_append_of_le_length (by omega),List.take_of_length_le (by omega)] at this
   exact this
theorem Core.recover (h : Core nt R w dK τ S) {k d : Nat} {x : TV} (hk : S k = (x, .pw d)) : Core nt R w dK τ (qg (qg S k (x, .pv)) d (.dead, .zz)) := by
  obtain ⟨p1, _⟩ := h.par k d (by rw [hk])
  have nN : d ≠ k := by rintro rfl; rw [hk] at p1; cases p1
  have RE : nt ≤ d := (h.inv k d (by rw [hk]; exact List.mem_singleton.2 rfl)).1
  have Te : nt ≤ k := by rcases Nat.lt_or_ge k nt with e | e; · have := h.slt k e; rw [hk] at this; cases this
                         · exact e
  have e1 : ∀ j, qg (qg S k (x, .pv)) d (.dead, .zz) j = if j = d then (.dead, .zz) else if j = k then (x, .pv) else S j := fun j => rfl
  generalize qg (qg S k (x, .pv)) d (.dead, .zz) = S' at e1
  have s1 : S' d = (.dead, .zz) := by rw [e1, au rfl]
  have s2 : S' k = (x, .pv) := by rw [e1, ao (Ne.symm nN), au rfl]
  have s3 : ∀ j, j ≠ d → j ≠ k → S' j = S j := fun j a b => by rw [e1, ao a, ao b]
  -- whose block is whose
  have bl : ∀ j g, gR τ S' j = some g → gR τ S j = some g ∨ (j = k ∧ gR τ S d = some g) := fun j g hj => by
    by_cases a : j = d
    · rw [a] at hj; have := (fX hj).1; rw [s1] at this; cases this
    · by_cases b : j = k
      · subst b
        have hv := (fX hj).2
        by_cases c : Value.gR (τ j) = Value.gR (τ d)
        · right; exact ⟨rfl, by unfold gR; rw [p1]; exact GY rfl rfl (by rw [← c]; exact hv)⟩
        · left; unfold gR; rw [hk]; simp only [gb, ao c]; exact hv
      · left; unfold gR at hj ⊢; rw [s3 j a b] at hj; exact hj
  refine ⟨fun j => ?_, fun j j' g h1 h2 => ?_, fun j g hj => ?_, fun j m hm => ?_, h.re, fun j hj => ?_, fun j c hj => ?_⟩
  · by_cases a : j = d
    · rw [a, s1]; trivial
    · by_cases b : j = k
      · rw [b, s2]; exact h.waits hk
      · rw [s3 j a b]; exact h.key j
  · rcases bl j g h1 with q | ⟨q, q'⟩ <;> rcases bl j' g h2 with r | ⟨r, r'⟩
    · exact h.sep _ _ _ q r
    · have := h.sep _ _ _ q r'
      rw [this] at h1; have := (fX h1).1; rw [s1] at this; cases this
    · have := h.sep _ _ _ r q'
      rw [this] at h2; have := (fX h2).1; rw [s1] at this; cases this
    · rw [q, r]
  · rcases bl j g hj with q | ⟨_, q⟩
    · exact h.dK _ _ q
    · exact h.dK _ _ q
  · have Ee : m ∈ (S j).2.df := by
      by_cases a : j = d
      · rw [a, s1] at hm; simp [Gh.df] at hm
      · by_cases b : j = k
        · rw [b, s2] at hm; simp [Gh.df] at hm
        · rw [s3 j a b] at hm; exact hm
    obtain ⟨h1, h2⟩ := h.inv j m Ee
    refine ⟨h1, ?_⟩
    by_cases a : m = d
    · rw [a, s1]; simp
    · by_cases b : m = k
      · rw [b, s2]; simp
      · rw [s3 m a b]; exact h2
  · rw [s3 j (by omega) (by omega)]; exact h.slt j hj
  · have a : j ≠ d := by rintro rfl; rw [s1] at hj; cases hj
    have b : j ≠ k := by rintro rfl; rw [s2] at hj; cases hj
    rw [s3 j a b] at hj
    obtain ⟨q1, q2⟩ := h.par j c hj
    have c1 : c ≠ d := by rintro rfl; rw [p1] at q1; cases q1; exact b rfl
    have c2 : c ≠ k := by rintro rfl; rw [hk] at q1; cases q1
    rw [s3 j a b, s3 c c1 c2]
    exact ⟨q1, q2⟩
theorem Core.PC (h:Core nt R w dK τ S) {k d:Nat} {t:fx} {l m:List t.El} {y:TV} (Te:nt≤k) (VW:nt≤d) (hk:S k=(y,.zz)) (hd:S d=(.sl t (l++m),.pv)) (hp:Nq R w (τ k) (.sl t l) (τ d)) (hm:∀b,gb τ (.pw d) (τ k)=some b→dK b∧∀j,gR τ S j≠some b) :
  Core nt R w dK τ (qg (qg S k (.sl t l,.pw d)) d (.sl t (l++m),.pc k)):=by
 have nN:d≠k:=by rintro rfl;rw [hk] at hd;cases hd
 have e1:∀j,qg (qg S k (.sl t l,.pw d)) d (.sl t (l++m),.pc k) j=if j=d then (.sl t (l++m),.pc k) else if j=k then (.sl t l,.pw d) else S j:=fun j=>rfl
 generalize qg (qg S k (.sl t l,.pw d)) d (.sl t (l++m),.pc k)=S' at e1
 have s1:S' d=(.sl t (l++m),.pc k):=by rw [e1,au rfl]
 have s2:S' k=(.sl t l,.pw d):=by rw [e1,ao (Ne.symm nN),au rfl]
 have s3:∀j,j≠d→j≠k→S' j=S j:=fun j a b=>by rw [e1,ao a,ao b]
 have bl:∀j g,gR τ S' j=some g→(gR τ S j=some g∧j≠k)∨(j=k∧gb τ (.pw d) (τ k)=some g):=fun j g hj=>by
  by_cases a:j=d
  ·subst a;left
   refine ⟨?_,nN⟩
   have:=(fX hj).2
   unfold gR;rw [hd];exact GY rfl rfl this
  ·by_cases b:j=k
   ·subst b;right;unfold gR at hj;rw [s2] at hj;exact ⟨rfl,hj⟩
   ·left;unfold gR at hj ⊢;rw [s3 j a b] at hj;exact ⟨hj,b⟩
 refine ⟨fun j=>?_,fun j j' g h1 h2=>?_,fun j g hj=>?_,fun j q hq=>?_,h.re,fun j hj=>?_,fun j c hj=>?_⟩
 ·by_cases a:j=d
  ·rw [a,s1];have:=h.key d;rw [hd] at this;exact this
  ·by_cases b:j=k
   ·rw [b,s2];exact hp
   ·rw [s3 j a b];exact h.key j
 ·rcases bl j g h1 with ⟨q,_⟩ | ⟨q,q'⟩ <;> rcases bl j' g h2 with ⟨r,_⟩ | ⟨r,r'⟩
  ·exact h.sep _ _ _ q r
  ·exact ((hm g r').2 j q).elim
  ·exact ((hm g q').2 j' r).elim
  ·rw [q,r]
 ·rcases bl j g hj with ⟨q,_⟩ | ⟨_,q⟩
  ·exact h.dK _ _ q
  ·exact (hm g q).1
 ·by_cases a:j=d
  ·rw [a,s1] at hq
   simp only [Gh.df,List.mem_singleton] at hq
   subst hq;exact ⟨Te,by rw [s2];simp⟩
  ·by_cases b:j=k
   ·rw [b,s2] at hq
    simp only [Gh.df,List.mem_singleton] at hq
    subst hq;exact ⟨VW,by rw [s1];simp⟩
   ·rw [s3 j a b] at hq
    obtain ⟨h1,h2⟩:=h.inv j q hq
    refine ⟨h1,?_⟩
    by_cases a:q=d
    ·rw [a,s1];simp
    ·by_cases b:q=k
     ·rw [b,s2];simp
     ·rw [s3 q a b];exact h2
 ·rw [s3 j (by omega) (by omega)];exact h.slt j hj
 ·have a:j≠d:=by rintro rfl;rw [s1] at hj;cases hj
  by_cases b:j=k
  ·rw [b,s2] at hj;cases hj
   rw [b,s1,s2]
   exact ⟨rfl,t,l,m,rfl,rfl⟩
  ·rw [s3 j a b] at hj
   obtain ⟨q1,q2⟩:=h.par j c hj
   have c1:c≠d:=by rintro rfl;rw [hd] at q1;cases q1
   have c2:c≠k:=by rintro rfl;rw [hk] at q1;cases q1
   rw [s3 j a b,s3 c c1 c2]
   exact ⟨q1,q2⟩
end
end Go.Eng
namespace Go.Eng
open Go.RowKit
def vB {X:Type} (σ:Nat→X) (t:Nat) (x:X):Nat→X:=fun k=>if k=t then x else σ k
theorem gp {X:Type} (σ:Nat→X) (t:Nat) (x:X):vB σ t x t=x:=by simp [vB]
theorem iw {X:Type} (σ:Nat→X) {t k:Nat} (x:X) (h:k≠t):vB σ t x k=σ k:=by simp [vB,h]
theorem cj (S:St) (d:Nat) (x:Cell):cR S d x d=x:=by simp [cR]
theorem dp (S:St) {d k:Nat} (x:Cell) (h:k≠d):cR S d x k=S k:=by
 unfold cR
 cases e:Nat.beq k d with
 | true=>exact (h (aw e)).elim
 | false=>rfl
theorem bE {A:Type} {p:Bool} {x:Option A} {y:A}:fw p x=some y ↔ p=true∧x=some y:=by cases p <;> simp [fw]
def Fz (dK:Nat→Prop) (R:Reach) (w:World) (R':Reach):Prop:=dT R w R' w∧∀b o,R' b o→R b o∨dK b
theorem Fz.refl (dK:Nat→Prop) (R:Reach) (w:World):Fz dK R w R:=⟨dT.refl _ _,fun _ _ => .inl⟩
theorem Fz.trans {dK:Nat→Prop} {R R' PR:Reach} {w:World} (h:Fz dK R w R') (k:Fz dK R' w PR):Fz dK R w PR:=⟨h.1.trans k.1,fun b o hr=>(k.2 b o hr).elim (h.2 b o) .inr⟩
theorem dT.reach {R:Reach} {w:World} {R':Reach} (h:∀b o,R b o→R' b o):dT R w R' w:=fun b o hr=>⟨h b o hr,rfl⟩
theorem ji.slot {R:Reach} {w:World} {τ:Nat→Value} {x:TV} {g:Gh} {v:Value} (hg:g.slot=true):ji R w τ x g v=dS R w τ x g v:=by
 cases g <;> first | rfl | cases hg
theorem dS.dM {R R':Reach} {w w':World} {τ nX:Nat→Value} {x:TV} {g:Gh} {v:Value} (h:dS R w τ x g v) (k:dT R w R' w') (ht:∀m∈g.df,nX m=τ m):dS R' w' nX x g v:=by
 unfold dS at h ⊢
 split at h <;> first | exact h | exact jF.dM h k ht
section
variable {nt:Nat} {R R':Reach} {w w':World} {dK Cw:Nat→Prop} {τ nX:Nat→Value} {S S':St}
theorem Core.put (h:Core nt R w dK τ S) {d:Nat} {v:Value} {x:TV} {g:Gh} (hd:d<nt) (hs:dS R w τ x g v) (hg:g.slot=true) (hm:∀k∈g.df,nt≤k∧(S k).2 ≠ .no):
  Core nt R w dK (vB τ d v) (cR S d (x,g)):=by
 have hP:(S d).2.CK=false:=by have:=h.slt d hd;cases hh:(S d).2 <;> rw [hh] at this <;> first | rfl | cases this
 have ho:g.own=false:=by cases g <;> first | rfl | cases hg
 refine h.step (fun k=>k=d) (dT.refl _ _) (fun k hk=>⟨dp _ _ hk,iw _ _ hk⟩) (fun _ _ _ _=>⟨rfl,fun _=>id⟩) ?_ (fun k hk => .inr (.inl (hk ▸ hd))) (fun k hk => .inl (hk ▸ hd)) ?_ ?_ ?_ (fun _=>id) ?_ h.re (fun k hk _=>by rw [hk,cj];exact hg)
 ·rintro k rfl
  rw [cj,gp,ji.slot hg]
  exact hs.dM (dT.refl _ _) fun m Ee=>iw _ _ (by have:=(hm m Ee).1;omega)
 ·rintro k rfl;rw [cj];exact .inl ⟨hP,by cases g <;> first | rfl | cases hg⟩
 ·rintro k rfl e;rw [cj,ho] at e;cases e
 ·rintro k b rfl hb;have:=(fX hb).1;rw [cj,ho] at this;cases this
 ·rintro k rfl j hj;rw [cj] at hj;obtain ⟨h1,h2⟩:=hm j hj
  exact ⟨h1,by rw [dp _ _ (by omega)];exact h2⟩
theorem Core.ie (h:Core nt R w dK τ S) {k:Nat} {v:Value} {x:TV} {g:Gh} (hk:nt≤k) (dM:dT R w R' w') (M5:∀j b,j≠k→gR τ S j=some b→w'.heap[b]?=w.heap[b]?∧∀o,R' b o→R b o)
  (new:ji R' w' τ x g v) (QX:v=τ k∨(S k).2 = .no) (P3:(S k).2.CK=false∧g.CK=false) (no:g ≠ .no) (grow:g.own=true→(S k).2.own=true∨(S k).2 = .no)
  (bl:∀b,g.own=true→Value.gR v=some b→dK b∧(w.heap.size≤b∨gR τ S k=some b)) (inv:∀j∈g.df,j≠k∧nt≤j∧(S j).2 ≠ .no) (re:∀b o,R' b o→b<w'.heap.size) :
  Core nt R' w' dK (vB τ k v) (cR S k (x,g)):=by
 refine h.step (fun j=>j=k) dM (fun j hj=>⟨dp _ _ hj,iw _ _ hj⟩) (fun j b hj=>M5 j b hj) ?_ ?_ ?_ ?_ ?_ ?_ (fun _=>id) ?_ re (fun j hj hl=>by omega)
 ·rintro j rfl
  rw [cj,gp]
  exact new.dM (dT.refl _ _) (fun m hm=>iw _ _ (inv m hm).1) fun _ _=>⟨rfl,fun _=>id⟩
 ·rintro j rfl;rw [gp];exact QX.imp id .inr
 ·rintro j rfl;rw [cj];exact .inr no
 ·rintro j rfl;rw [cj];exact .inl P3
 ·rintro j rfl;rw [cj];exact grow
 ·rintro j b rfl hb
  obtain ⟨h1,h2⟩:=fX hb
  rw [cj] at h1;rw [gp] at h2
  obtain ⟨h3,h4⟩:=bl b h1 h2
  exact ⟨h3,fun k' e ne=>(ne e).elim,h4.imp id fun h=>⟨j,rfl,h⟩⟩
 ·rintro j rfl m hm;rw [cj] at hm
  obtain ⟨h1,h2,h3⟩:=inv m hm
  exact ⟨h2,by rw [dp _ _ h1];exact h3⟩
theorem Core.vn (h:Core nt R w dK τ S) {k k' g:Nat} (h1:gR τ S k=some g) (h2:gR τ S k'=some g):k=k':=h.sep k k' g h1 h2
theorem ib {k g:Nat} (ho:(S k).2.own=true) (hw:(S k).2.CJ=false) (hb:Value.gR (τ k)=some g):gR τ S k=some g:=GY ho hw hb
theorem xy {g:Gh} (h:g.CK=false):g.CJ=false:=by cases g <;> first | rfl | cases h
theorem Core.freeze (h:Core nt R w dK τ S) {k:Nat} {x:TV} (hk:nt≤k) (hS:S k=(x,.pv)):∃R',Core nt R' w dK τ (cR S k (x,.lv))∧Fz dK R w R'∧Rep R' w x (τ k)∧(τ k).oneCell'=true:=by
 have h0:=h.key k
 rw [hS] at h0
 obtain ⟨t,l,rfl,⟨rfl,hv⟩ | ⟨g,cap,cur,e,fz,hv,h1,h2,h3,h4,h5,h6,h7⟩⟩:=h0
 ·refine ⟨R,?_,Fz.refl _ _ _,by rw [hv];exact .sn t,by rw [hv];rfl⟩
  have:=h.ie (g := .lv) (x := .sl t []) (v:=τ k) hk (dT.refl _ _) (fun _ _ _ _=>⟨rfl,fun _=>id⟩) ⟨t,[],rfl,.inl ⟨rfl,hv⟩⟩ (.inl rfl) (by rw [hS];exact ⟨rfl,rfl⟩) (by simp) (fun _ => .inl (by rw [hS];rfl))
   (fun b _ hb=>by rw [hv] at hb;cases hb) (by simp [Gh.df]) h.re
  rwa [show vB τ k (τ k)=τ by funext j;simp only [vB];split <;> simp_all] at this
 ·have hb:gR τ S k=some g:=ib (by rw [hS];rfl) (by rw [hS];rfl) (by rw [hv];rfl)
  let R':Reach:=fun b o=>R b o∨(b=g∧o<l.length * t.size)
  have dM:dT R w R' w:=dT.reach fun b o => .inl
  have sY:(l.map t.tv).flatMap TV.cells=(l.map t.tv).flatMap TV.cells:=rfl
  have hex:∀o,R g o→False:=fun o hr=>by have:=(h7 o).1 hr;simp at this
  refine ⟨R',?_,⟨dM,fun b o (hr:R b o∨(b=g∧o<l.length * t.size))=>hr.imp id fun ⟨e,_⟩=>e ▸ h.dK k g hb⟩,?_,by rw [hv];rfl⟩
  ·have:=h.ie (R':=R') (w':=w) (g := .lv) (x := .sl t l) (v:=τ k) hk dM (fun j b hj lr=>⟨rfl,fun o hr=>hr.elim id fun ⟨e,_⟩=>(hj (h.vn hb (e ▸ lr)).symm).elim⟩)
    ⟨t,l,rfl,.inr ⟨g,cap,cur,e,fz,hv,h1,h2,h3,h4,h5,h6.mono dM,fun o=>⟨fun hr=>hr.elim (fun hr=>(hex o hr).elim) fun hr=>⟨rfl,hr.2⟩,fun hr => .inr ⟨rfl,hr.2⟩⟩⟩⟩
    (.inl rfl) (by rw [hS];exact ⟨rfl,rfl⟩) (by simp) (fun _ => .inl (by rw [hS];rfl)) (fun b _ lr=>⟨h.dK k b (ib (by rw [hS];rfl) (by rw [hS];rfl) lr),.inr (ib (by rw [hS];rfl) (by rw [hS];rfl) lr)⟩) (by simp [Gh.df])
    (fun b o hr=>hr.elim (h.re b o) fun ⟨e,_⟩=>e ▸ (Array.getElem?_eq_some_iff.1 h1).1)
   rwa [show vB τ k (τ k)=τ by funext j;simp only [vB];split <;> simp_all] at this
  ·rw [hv]
   refine .sl rfl h4 h5 (kf.write (ys:=cur.toList.take (l.length * t.size)) ?_ (h6.mono dM) (fun j hj => .inr ⟨rfl,by rwa [bc,Nat.zero_add] at *⟩) (fun j y hy=>?_))
   ·intro x hx;obtain ⟨y,_,rfl⟩:=bg.1 hx;exact fx.kN t y
   ·rw [aU] at hy
    split at hy
    ·simp only [World.cell?,h1,Nat.zero_add];simpa using hy
    ·cases hy
end
end Go.Eng
namespace Go.Eng
open Go.RowKit
def Lt (V S:St):Prop:=∀k,V k=S k∨(V k).2 = .hid
def Lq (V S:St):Prop:=∀k,V k=S k∨(V k).2 = .hid∨((V k).2 = .pv∧S k=((V k).1,.lv))
theorem Lt.refl (S:St):Lt S S:=fun _ => .inl rfl
theorem Lt.q {V S:St} (h:Lt V S):Lq V S:=fun k=>(h k).imp id .inl
theorem Lt.of {V S:St} (h:Lt V S) {k:Nat} {x:TV} {g:Gh} (hk:V k=(x,g)) (hg:g ≠ .hid:=by simp):S k=(x,g):=by
 rcases h k with e | e
 ·rw [←e,hk]
 ·rw [hk] at e;exact (hg e).elim
section
variable {nt:Nat} {R R':Reach} {w w':World} {dK:Nat→Prop} {τ:Nat→Value} {S V:St}
theorem Dw {k:Nat} {c:Cell} (h:S k=c):cR S k c=S:=by
 funext j
 by_cases e:j=k
 ·subst e;rw [cj,h]
 ·exact dp _ _ e
theorem jv (S:St):∀l m:List (Nat × Cell),fo S (l++m)=fo (fo S m) l
 | [],_=>rfl
 | (k,x) :: l,m=>by simp only [List.cons_append,fo,jv S l m]
theorem ft.rep {v:Value} {x:TV} (h:ft R w true v x):Rep R w x v∧v.oneCell'=true:=by
 obtain ⟨t,l,rfl,⟨rfl,rfl⟩ | ⟨g,cap,cur,e,fz,rfl,h1,h2,h3,h4,h5,h6,h7⟩⟩:=h
 ·exact ⟨.sn t,rfl⟩
 ·refine ⟨.sl rfl h4 h5 (kf.write (ys:=cur.toList.take (l.length * t.size)) ?_ h6 (fun j hj=>(h7 _).2 ⟨rfl,by rwa [bc,Nat.zero_add] at *⟩) (fun j y hy=>?_)),rfl⟩
  ·intro x hx;obtain ⟨y,_,rfl⟩:=bg.1 hx;exact fx.kN t y
  ·rw [aU] at hy
   split at hy
   ·simp only [World.cell?,h1,Nat.zero_add];simpa using hy
   ·cases hy
theorem I6 {x:TV} {v:Value} (h:Rep R w x v):Rep R w (nrm x) v:=by
 unfold nrm
 split
 ·cases h with
  | sc h=>cases h
  | nl=>exact .sn _
 ·exact h
theorem oE:∀{xs:List TV} {ys:List Value},dq R w xs ys→dq R w (xs.map nrm) ys
 | _,_,.nil => .nil
 | _,_,.cons a h t => .cons a (I6 h) (oE t)
theorem xo {x:TV} {v:Value} (h:Rep R w x v):Rep R w (Ol x) v:=by
 unfold Ol
 split
 ·cases h with
  | sc h=>cases h
  | nl=>exact .sn _
 ·cases h with
  | sc h=>cases h
  | ag h=>exact .ag (oE h)
 ·exact h
theorem jF.rep {x:TV} {v:Value} (h:dS R w τ x .no v):Rep R w x v:=by
 unfold dS at h
 split at h
 ·rw [h];exact .Pj _
 ·exact .NN h
 ·exact h
theorem BF (h:Core nt R w dK τ S) (hV:Lq V S) {k:Nat} {x:TV} {ws:List (Nat × Cell)} (hk:nt≤k) (he:CU V (.pt,.fB k)=some (x,ws)) :
  ∃R',Core nt R' w dK τ (fo S ws)∧Fz dK R w R'∧Rep R' w x (τ k)∧Lq V (fo S ws)∧(∀p∈ws,p.1=k)∧x.plain=true:=by
 have plain:∀{R p v x},ft R w p v x→x.plain=true:=fun h=>by obtain ⟨_,_,rfl,_⟩:=h;rfl
 have base:∀{y:TV} {g:Gh},S k=(y,g)→g = .lv→(∃R',Core nt R' w dK τ S∧Fz dK R w R'∧Rep R' w y (τ k))∧y.plain=true:=fun {y g} e hg=>by
  have:=h.key k
  subst hg
  rw [e] at this
  exact ⟨⟨R,h,Fz.refl _ _ _,(ft.rep this).1⟩,plain this⟩
 simp only [CU] at he
 split at he
 ·rename_i y e
  cases he
  have hq:Lq V (cR S k (x,.lv)):=fun j=>by
   by_cases ej:j=k
   ·subst ej;rw [cj,e];exact .inr (.inr ⟨rfl,rfl⟩)
   ·rw [dp _ _ ej];exact hV j
  rcases hV k with e1 | e1 | ⟨_,e1⟩
  ·rw [e] at e1
   have hp:=h.key k
   rw [←e1] at hp
   obtain ⟨R',h1,h2,h3,_⟩:=h.freeze hk e1.symm
   exact ⟨R',h1,h2,h3,hq,by simp,plain hp⟩
  ·rw [e] at e1;cases e1
  ·rw [e] at e1
   obtain ⟨⟨R',h1,h2,h3⟩,h4⟩:=base e1 rfl
   refine ⟨R',?_,h2,h3,hq,by simp,h4⟩
   show Core nt R' w dK τ (cR S k _)
   rwa [Dw e1]
 ·rename_i y e
  cases he
  have e1:S k=(x,.lv):=by
   rcases hV k with e1 | e1 | ⟨e1,_⟩
   ·rw [e] at e1;exact e1.symm
   ·rw [e] at e1;cases e1
   ·rw [e] at e1;cases e1
  obtain ⟨⟨R',h1,h2,h3⟩,h4⟩:=base e1 rfl
  exact ⟨R',h1,h2,h3,hV,by simp,h4⟩
 ·rename_i y e
  obtain ⟨yf,he⟩:=bE.1 he
  cases he
  have e1:S k=(x,.us):=by
   rcases hV k with e1 | e1 | ⟨e1,_⟩
   ·rw [e] at e1;exact e1.symm
   ·rw [e] at e1;cases e1
   ·rw [e] at e1;cases e1
  have:=h.key k
  rw [e1] at this
  exact ⟨R,h,Fz.refl _ _ _,this,hV,by simp,yf⟩
 ·cases he
theorem dq.set:∀{xs:List TV} {ys:List Value} {i:Nat} {x:TV},dq R w xs ys→(∀y,ys[i]?=some y→Rep R w x y)→dq R w (xs.set i x) ys
 | _,_,_,_,.nil,_=>by simpa using .nil
 | _,_,0,_,.cons a h t,hx => .cons a (hx _ rfl) t
 | _,_,i+1,_,.cons a h t,hx => .cons a h (t.set fun y hy=>hx y (by simpa using hy))
theorem ng {o n:Nat}:∀{ts:List (Nat × Nat)} {R:Reach} {S:St} {cs ds:List TV} {ys:List Value} {ws:List (Nat × Cell)},Core nt R w dK τ S→Lq V S→dq R w cs ys→(∀t∈ts,nt≤t.2∧ys[t.1]?=some (τ t.2)) →
  nh V o n ts cs=some (ds,ws)→∃R',Core nt R' w dK τ (fo S ws)∧Fz dK R w R'∧dq R' w ds ys∧Lq V (fo S ws)∧(∀p∈ws,p.1∈ts.map (·.2))∧ds.length=cs.length
 | [],R,S,_,_,_,_,h,hV,hL,_,he=>by cases he;exact ⟨R,h,Fz.refl _ _ _,hL,hV,by simp,rfl⟩
 | (c,k) :: ts,R,S,_,_,_,_,h,hV,hL,ht,he=>by
  simp only [nh] at he
  split at he
  ·rename_i cs ws e1
   obtain ⟨R1,h1,k1,r1,q1,p1,l1⟩:=ng h hV hL (fun t h=>ht t (List.mem_cons_of_mem _ h)) e1
   have SO:∀p∈ws,p.1∈(((c,k) :: ts).map (·.2)):=fun p hp=>List.mem_cons_of_mem _ (p1 p hp)
   cases hb:(Nat.ble o c&&Nat.blt c (o+n)) with
   | true =>
    rw [hb,ah] at he
    split at he
    ·rename_i x us e2
     cases he
     obtain ⟨h3,h4⟩:=ht (c,k) (List.mem_cons_self ..)
     obtain ⟨R2,h2,k2,r2,q2,p2,_⟩:=BF h1 q1 h3 e2
     rw [jv]
     refine ⟨R2,h2,k1.trans k2,(r1.mono k2.1).set fun y hy=>?_,q2,fun p hp=>?_,by rw [List.length_set,l1]⟩
     ·rw [h4] at hy;cases hy;exact r2
     ·rcases List.mem_append.1 hp with hp | hp
      ·rw [p2 p hp];exact List.mem_cons_self ..
      ·exact SO p hp
    ·cases he
   | false =>
    rw [hb,ae] at he
    cases he
    exact ⟨R1,h1,k1,r1,q1,SO,l1⟩
  ·cases he
theorem xI (h:Core nt R w dK τ S) (hV:Lq V S) {c:Cell} {v:Value} {x:TV} {ws:List (Nat × Cell)} (hs:dS R w τ c.1 c.2 v) (hc:∀m∈c.2.df,nt≤m) (he:zZ V c=some (x,ws)) :
  ∃R',Core nt R' w dK τ (fo S ws)∧Fz dK R w R'∧Rep R' w x v∧Lq V (fo S ws):=by
 obtain ⟨y,g⟩:=c
 cases g with
 | fB k =>
  cases y <;> try (simp only [zZ,CU] at he;cases he)
  obtain ⟨R',h1,h2,h3,h4,_⟩:=BF h hV (hc k (by simp [Gh.df])) he
  have:v=τ k:=hs.1
  exact ⟨R',h1,h2,this ▸ h3,h4⟩
 | no =>
  simp only [zZ,CU,aL,Prod.mk.injEq] at he
  obtain ⟨rfl,rfl⟩:=he
  exact ⟨R,h,Fz.refl _ _ _,xo (jF.rep hs),hV⟩
 | ow l =>
  cases y <;> try (simp only [zZ,CU] at he;cases he)
  simp only [zZ] at he
  split at he
  ·rename_i hf
   cases he
   obtain ⟨ys,vs,hv,hx,h3,h4⟩:∃ys vs,v = .agg ⟨ys⟩∧_=TV.ag vs∧dq R w vs ys∧∀p∈l,ys[p.1]?=some (τ p.2):=hs
   cases hx
   obtain ⟨R',k1,k2,k3,k4,_⟩:=ng h hV h3 (fun t ht=>⟨hc t.2 (bg.2 ⟨t,ht,rfl⟩),h4 t ht⟩) hf
   exact ⟨R',k1,k2,by rw [hv];exact .ag (oE k3),k4⟩
  ·cases he
 | _=>simp only [zZ,CU] at he;cases he
inductive Cells (R:Reach) (w:World) (τ:Nat→Value) (nt:Nat):List Cell→List Value→Prop
 | nil:Cells R w τ nt [] []
 | cons {c:Cell} {v:Value} {cs:List Cell} {vs:List Value}:dS R w τ c.1 c.2 v→(∀m∈c.2.df,nt≤m)→Cells R w τ nt cs vs→Cells R w τ nt (c :: cs) (v :: vs)
theorem BE:∀{cs:List Cell} {R:Reach} {S:St} {vs:List Value} {xs:List TV} {ws:List (Nat × Cell)},Core nt R w dK τ S→Lq V S→Cells R w τ nt cs vs→Io V cs=some (xs,ws) →
  ∃R',Core nt R' w dK τ (fo S ws)∧Fz dK R w R'∧iv R' w xs vs∧Lq V (fo S ws)
 | [],R,S,_,_,_,h,hV,.nil,he=>by cases he;exact ⟨R,h,Fz.refl _ _ _,.nil,hV⟩
 | c :: cs,R,S,_,_,_,h,hV,.cons a b t,he=>by
  simp only [Io] at he
  split at he
  ·rename_i x ws e1
   split at he
   ·rename_i xs us e2
    cases he
    obtain ⟨R1,h1,k1,r1,q1⟩:=BE h hV t e2
    obtain ⟨R2,h2,k2,r2,q2⟩:=xI h1 q1 (a.dM k1.1 fun _ _=>rfl) b e1
    rw [jv]
    exact ⟨R2,h2,k1.trans k2,.cons r2 (r1.mono k2.1),q2⟩
   ·cases he
  ·cases he
end
structure Ext (w0:World) (R0:Reach) (io:Nat→Prop) (w:World) (R:Reach):Prop where
 os:w.os=w0.os
 tape:w.tape=w0.tape
 output:w.output=w0.output
 size:w0.heap.size≤w.heap.size
 heap:∀b,b<w0.heap.size→¬io b→w.heap[b]?=w0.heap[b]?
 dM:dT R0 w0 R w
 DE:∀b o,R b o→R0 b o∨w0.heap.size≤b∨io b
theorem Ext.refl (w:World) (R:Reach) (io:Nat→Prop):Ext w R io w R:=⟨rfl,rfl,rfl,Nat.le_refl _,fun _ _ _=>rfl,dT.refl _ _,fun _ _ h => .inl h⟩
theorem Ext.trans {w0 w1 w2:World} {R0 R1 R2:Reach} {io io':Nat→Prop} (h:Ext w0 R0 io w1 R1) (k:Ext w1 R1 io' w2 R2) (hi:∀b,io' b→io b∨w0.heap.size≤b):Ext w0 R0 io w2 R2 where
 os:=k.os.trans h.os
 tape:=k.tape.trans h.tape
 output:=k.output.trans h.output
 size:=Nat.le_trans h.size k.size
 heap b hb hn:=(k.heap b (Nat.lt_of_lt_of_le hb h.size) (fun c=>by rcases hi b c with c | c <;> first | exact hn c | omega)).trans (h.heap b hb hn)
 dM:=h.dM.trans k.dM
 DE b o hr:=by
  rcases k.DE b o hr with r | r | r
  ·exact h.DE b o r
  ·exact .inr (.inl (Nat.le_trans h.size r))
  ·rcases hi b r with r | r
   ·exact .inr (.inr r)
   ·exact .inr (.inl r)
structure Ctx where
 P:Program
 E:cr
 nt:Nat
 w0:World
 R0:Reach
 io:Nat→Prop
 UM:Nat→Value
 gl:Nat→Option (List Value)
def Ctx.dK (C:Ctx) (b:Nat):Prop:=C.io b∨C.w0.heap.size≤b
def GlOK (gl:Nat→Option (List Value)) (R:Reach) (w:World):Prop:=∀n zs,gl n=some zs→∀o,R n o∧w.cell? ⟨n,o,none⟩=zs[o]?
theorem GlOK.dM {gl:Nat→Option (List Value)} {R R':Reach} {w w':World} (h:GlOK gl R w) (k:dT R w R' w'):GlOK gl R' w':=fun n zs hn o=>⟨(k _ _ (h n zs hn o).1).1,(k _ _ (h n zs hn o).1).2.trans (h n zs hn o).2⟩
structure eI (C:Ctx) (S:St) (a:Act) (w:World) (R:Reach) (τ:Nat→Value):Prop where
 size:a.tmps.size=C.nt
 defers:a.defers=[]
 core:Core C.nt R w C.dK τ S
 tmps:∀t,t<C.nt→a.tmps.getD t undef=τ t
 io:C.nt≤1000000∧∀k,1000000≤k→τ k=C.UM k
 ext:Ext C.w0 C.R0 C.io w R
 gl:GlOK C.gl R w
def Sim (C:Ctx) (S:St) (a:Act) (w:World):Prop:=∃R τ,eI C S a w R τ
section
variable {C:Ctx} {S V:St} {a:Act} {w:World} {R:Reach} {τ:Nat→Value} {o:Oper} {d:Nat} {K:Act→World→Prop} {Q:Exit→Act→World→Prop}
theorem Ext.reach {w0 w:World} {R0 R R':Reach} {io:Nat→Prop} (h:Ext w0 R0 io w R) (k:dT R w R' w) (hn:∀b o,R' b o→R b o∨io b∨w0.heap.size≤b):Ext w0 R0 io w R' :=
 { h with dM:=h.dM.trans k,DE:=fun b o hr=>by rcases hn b o hr with r | r | r;exact h.DE b o r;exact .inr (.inr r);exact .inr (.inl r) }
end
end Go.Eng
namespace Go.Eng
open Go.RowKit
def ll:BinOp→Value→Value→Option Value
 | .shl,.int k a,.int _ b=>if b<0 then none else some (.int k (k.wrap (a * 2 ^ (min b.toNat k.bits))))
 | .shr,.int k a,.int _ b=>if b<0 then none else some (.int k (a.fdiv (2 ^ (min b.toNat k.bits))))
 | .add,.int k a,.int k' b=>if k=k' then some (.int k (k.wrap (a+b))) else none
 | .sub,.int k a,.int k' b=>if k=k' then some (.int k (k.wrap (a - b))) else none
 | .mul,.int k a,.int k' b=>if k=k' then some (.int k (k.wrap (a * b))) else none
 | .quo,.int k a,.int k' b=>if k=k' then (if b=0 then none else some (.int k (k.wrap (a.tdiv b)))) else none
 | .rem,.int k a,.int k' b=>if k=k' then (if b=0 then none else some (.int k (a.tmod b))) else none
 | .and,.int k a,.int k' b=>if k=k' then some (.int k (cU .and k a b)) else none
 | .or,.int k a,.int k' b=>if k=k' then some (.int k (cU .or k a b)) else none
 | .xor,.int k a,.int k' b=>if k=k' then some (.int k (cU .xor k a b)) else none
 | .andNot,.int k a,.int k' b=>if k=k' then some (.int k (cU .andNot k a b)) else none
 | .eql,.int k a,.int k' b=>if k=k' then some (.bool (a == b)) else none
 | .neq,.int k a,.int k' b=>if k=k' then some (.bool (a != b)) else none
 | .lss,.int k a,.int k' b=>if k=k' then some (.bool (decide (a<b))) else none
 | .leq,.int k a,.int k' b=>if k=k' then some (.bool (decide (a≤b))) else none
 | .gtr,.int k a,.int k' b=>if k=k' then some (.bool (decide (a > b))) else none
 | .geq,.int k a,.int k' b=>if k=k' then some (.bool (decide (a ≥ b))) else none
 | .add,.string a,.string b=>if ((a.size+b.size:Nat):Int) > IntKind.i64.max then none else some (.string (a++b))
 | .eql,.string a,.string b=>some (.bool (a.toList == b.toList))
 | .neq,.string a,.string b=>some (.bool (!(a.toList == b.toList)))
 | o,x,y=>z6 o x y
def QU:UnOp→Value→Option Value
 | .neg,.int k n=>some (.int k (k.wrap (0 - n)))
 | .xor,.int k n=>some (.int k (cU .xor k (if k.signed then -1 else k.max) n))
 | .not,.bool b=>some (.bool !b)
 | .neg,.float .f64 a=>some (.float .f64 (Fl.neg a))
 | _,_=>none
theorem TV.zJ {x:TV} {k:IntKind} {n:Int} (h:x.int?=some (k,n)):x.val=some (.int k n):=by
 cases x <;> simp [TV.int?] at h <;> obtain ⟨rfl,rfl⟩:=h <;> rfl
theorem nP (n:Int) (m:Nat) (h:0<m):(((n % (m:Int)).toNat % m:Nat):Int)=n % m:=by
 have h1:0≤n % (m:Int):=Int.emod_nonneg _ (by omega)
 have h2:n % (m:Int)<m:=Int.emod_lt_of_pos _ (by omega)
 rw [Nat.mod_eq_of_lt (by omega)];omega
theorem tI (n:Int):((UInt8.ofInt n).toNat:Int)=IntKind.u8.wrap n:=by
 have:IntKind.u8.wrap n=n % (256:Nat):=by simp [IntKind.wrap,IntKind.bits,IntKind.signed]
 rw [this,UInt8.ofInt,UInt8.toNat_ofNat'];exact nP n 256 (by decide)
theorem qX (n:Int):((UInt16.ofInt n).toNat:Int)=IntKind.u16.wrap n:=by
 have:IntKind.u16.wrap n=n % (65536:Nat):=by simp [IntKind.wrap,IntKind.bits,IntKind.signed]
 rw [this,UInt16.ofInt,UInt16.toNat_ofNat'];exact nP n 65536 (by decide)
theorem qW (n:Int):((UInt32.ofInt n).toNat:Int)=IntKind.u32.wrap n:=by
 have:IntKind.u32.wrap n=n % (4294967296:Nat):=by simp [IntKind.wrap,IntKind.bits,IntKind.signed]
 rw [this,UInt32.ofInt,UInt32.toNat_ofNat'];exact nP n 4294967296 (by decide)
theorem mS (n:Int):((UInt64.ofInt n).toNat:Int)=IntKind.u64.wrap n:=by
 have:IntKind.u64.wrap n=n % (18446744073709551616:Nat):=by simp [IntKind.wrap,IntKind.bits,IntKind.signed]
 rw [this,UInt64.ofInt,UInt64.toNat_ofNat'];exact nP n 18446744073709551616 (by decide)
theorem D7 (k:IntKind) (n:Int):(CL k n).val=some (.int k (k.wrap n)):=by
 cases k <;> simp only [CL,TV.val,aL,Value.int.injEq,true_and]
 ·exact tI n
 ·exact qX n
 ·exact qW n
 ·exact mS n
theorem wrap_u8' (n:Int):IntKind.u8.wrap n=n % 256:=by simp [IntKind.wrap,IntKind.bits,IntKind.signed]
theorem ofInt_u8 (a:UInt8):BitVec.ofInt 8 (a.toNat:Int)=a.toBitVec:=by
 apply BitVec.eq_of_toNat_eq
 rw [BitVec.toNat_ofInt]
 have:=a.toNat_lt
 simp only [UInt8.toNat] at this ⊢
 omega
theorem jz (n:Int):IntKind.u16.wrap n=n % 65536:=by simp [IntKind.wrap,IntKind.bits,IntKind.signed]
theorem ofInt_u16 (a:UInt16):BitVec.ofInt 16 (a.toNat:Int)=a.toBitVec:=by
 apply BitVec.eq_of_toNat_eq
 rw [BitVec.toNat_ofInt]
 have:=a.toNat_lt
 simp only [UInt16.toNat] at this ⊢
 omega
theorem wrap_u32' (n:Int):IntKind.u32.wrap n=n % 4294967296:=by simp [IntKind.wrap,IntKind.bits,IntKind.signed]
theorem ofInt_u32 (a:UInt32):BitVec.ofInt 32 (a.toNat:Int)=a.toBitVec:=by
 apply BitVec.eq_of_toNat_eq
 rw [BitVec.toNat_ofInt]
 have:=a.toNat_lt
 simp only [UInt32.toNat] at this ⊢
 omega
theorem jj (n:Int):IntKind.u64.wrap n=n % 18446744073709551616:=by simp [IntKind.wrap,IntKind.bits,IntKind.signed]
theorem ofInt_u64 (a:UInt64):BitVec.ofInt 64 (a.toNat:Int)=a.toBitVec:=by
 apply BitVec.eq_of_toNat_eq
 rw [BitVec.toNat_ofInt]
 have:=a.toNat_lt
 simp only [UInt64.toNat] at this ⊢
 omega
theorem JS {o : BinOp} {a b : UInt8} {ws : List TV} (h : (M8 o a b).holds ws) : ∃ x : TV, ws = [x] ∧ ∃ v, x.val = some v ∧ ll o (.int .u8 a.toNat) (.int .u8 b.toNat) = some v := by
  have ha := a.toNat_lt
  have hb := b.toNat_lt
  cases o <;> simp only [M8, oc.holds] at h <;> first | exact h.elim | skip
  all_goals first
    | (obtain ⟨hp, rfl⟩ := h; refine ⟨_, rfl, _, rfl, ?_⟩; simp only [Bool.not_eq_true', decide_eq_false_iff_not] at hp
       have pE : (b.toNat : Int) ≠ 0 := fun e => hp (UInt8.toNat_inj.1 (by simpa using e))
       simp only [ll, if_true, pE, if_false, aL, Value.int.injEq, true_and, UInt8.toNat_div, UInt8.toNat_mod, wrap_u8', Int.tdiv_eq_ediv_of_nonneg (Int.natCast_nonneg a.toNat), Int.tmod_eq_emod_of_nonneg (Int.natCast_nonneg a.toNat)]
       first | (rw [← Int.natCast_ediv]; have := Nat.div_le_self a.toNat b.toNat; generalize a.toNat / b.toNat = q at this ⊢; omega) | omega)
    | (subst h; refine ⟨_, rfl, _, rfl, ?_⟩
       simp only [ll, if_true, aL, Value.int.injEq, Value.bool.injEq, true_and, wrap_u8', cU, IntKind.bits, ofInt_u8, UInt8.toNat_add, UInt8.toNat_sub, UInt8.toNat_mul]
       first | omega | (rw [aQ (by omega) (by have := (a &&& b).toNat_lt; simp only [UInt8.toNat] at this ⊢; simp only [UInt8.toBitVec_and] at this; omega)]; rfl)
             | (rw [aQ (by omega) (by have := (a ||| b).toNat_lt; simp only [UInt8.toNat] at this ⊢; simp only [UInt8.toBitVec_or] at this; omega)]; rfl)
             | (rw [aQ (by omega) (by have := (a ^^^ b).toNat_lt; simp only [UInt8.toNat] at this ⊢; simp only [UInt8.toBitVec_xor] at this; omega)]; rfl)
             | (rw [aQ (by omega) (by have := (a &&& ~~~b).toNat_lt; simp only [UInt8.toNat] at this ⊢; simp only [UInt8.toBitVec_and, UInt8.toBitVec_not] at this; omega)]; rfl)
             | (rw [aS]; simp [UInt8.lt_iff_toNat_lt, UInt8.le_iff_toNat_le, ← UInt8.toNat_inj]; omega)
             | (rw [aS]; simp [UInt8.lt_iff_toNat_lt, UInt8.le_iff_toNat_le, ← UInt8.toNat_inj]))
theorem HP {o : BinOp} {a b : UInt16} {ws : List TV} (h : (HQ o a b).holds ws) : ∃ x : TV, ws = [x] ∧ ∃ v, x.val = some v ∧ ll o (.int .u16 a.toNat) (.int .u16 b.toNat) = some v := by
  have ha := a.toNat_lt
  have hb := b.toNat_lt
  cases o <;> simp only [HQ, oc.holds] at h <;> first | exact h.elim | skip
  all_goals first
    | (obtain ⟨hp, rfl⟩ := h; refine ⟨_, rfl, _, rfl, ?_⟩; simp only [Bool.not_eq_true', decide_eq_false_iff_not] at hp
       have pE : (b.toNat : Int) ≠ 0 := fun e => hp (UInt16.toNat_inj.1 (by simpa using e))
       simp only [ll, if_true, pE, if_false, aL, Value.int.injEq, true_and, UInt16.toNat_div, UInt16.toNat_mod, jz, Int.tdiv_eq_ediv_of_nonneg (Int.natCast_nonneg a.toNat), Int.tmod_eq_emod_of_nonneg (Int.natCast_nonneg a.toNat)]
       first | (rw [← Int.natCast_ediv]; have := Nat.div_le_self a.toNat b.toNat; generalize a.toNat / b.toNat = q at this ⊢; omega) | omega)
    | (subst h; refine ⟨_, rfl, _, rfl, ?_⟩
       simp only [ll, if_true, aL, Value.int.injEq, Value.bool.injEq, true_and, jz, cU, IntKind.bits, ofInt_u16, UInt16.toNat_add, UInt16.toNat_sub, UInt16.toNat_mul]
       first | omega | (rw [aQ (by omega) (by have := (a &&& b).toNat_lt; simp only [UInt16.toNat] at this ⊢; simp only [UInt16.toBitVec_and] at this; omega)]; rfl)
             | (rw [aQ (by omega) (by have := (a ||| b).toNat_lt; simp only [UInt16.toNat] at this ⊢; simp only [UInt16.toBitVec_or] at this; omega)]; rfl)
             | (rw [aQ (by omega) (by have := (a ^^^ b).toNat_lt; simp only [UInt16.toNat] at this ⊢; simp only [UInt16.toBitVec_xor] at this; omega)]; rfl)
             | (rw [aQ (by omega) (by have := (a &&& ~~~b).toNat_lt; simp only [UInt16.toNat] at this ⊢; simp only [UInt16.toBitVec_and, UInt16.toBitVec_not] at this; omega)]; rfl)
             | (rw [aS]; simp [UInt16.lt_iff_toNat_lt, UInt16.le_iff_toNat_le, ← UInt16.toNat_inj]; omega)
             | (rw [aS]; simp [UInt16.lt_iff_toNat_lt, UInt16.le_iff_toNat_le, ← UInt16.toNat_inj]))
theorem HN {o : BinOp} {a b : UInt32} {ws : List TV} (h : (HO o a b).holds ws) : ∃ x : TV, ws = [x] ∧ ∃ v, x.val = some v ∧ ll o (.int .u32 a.toNat) (.int .u32 b.toNat) = some v := by
  have ha := a.toNat_lt
  have hb := b.toNat_lt
  cases o <;> simp only [HO, oc.holds] at h <;> first | exact h.elim | skip
  all_goals first
    | (obtain ⟨hp, rfl⟩ := h; refine ⟨_, rfl, _, rfl, ?_⟩; simp only [Bool.not_eq_true', decide_eq_false_iff_not] at hp
       have pE : (b.toNat : Int) ≠ 0 := fun e => hp (UInt32.toNat_inj.1 (by simpa using e))
       simp only [ll, if_true, pE, if_false, aL, Value.int.injEq, true_and, UInt32.toNat_div, UInt32.toNat_mod, wrap_u32', Int.tdiv_eq_ediv_of_nonneg (Int.natCast_nonneg a.toNat), Int.tmod_eq_emod_of_nonneg (Int.natCast_nonneg a.toNat)]
       first | (rw [← Int.natCast_ediv]; have := Nat.div_le_self a.toNat b.toNat; generalize a.toNat / b.toNat = q at this ⊢; omega) | omega)
    | (subst h; refine ⟨_, rfl, _, rfl, ?_⟩
       simp only [ll, if_true, aL, Value.int.injEq, Value.bool.injEq, true_and, wrap_u32', cU, IntKind.bits, ofInt_u32, UInt32.toNat_add, UInt32.toNat_sub, UInt32.toNat_mul]
       first | omega | (rw [aQ (by omega) (by have := (a &&& b).toNat_lt; simp only [UInt32.toNat] at this ⊢; simp only [UInt32.toBitVec_and] at this; omega)]; rfl)
             | (rw [aQ (by omega) (by have := (a ||| b).toNat_lt; simp only [UInt32.toNat] at this ⊢; simp only [UInt32.toBitVec_or] at this; omega)]; rfl)
             | (rw [aQ (by omega) (by have := (a ^^^ b).toNat_lt; simp only [UInt32.toNat] at this ⊢; simp only [UInt32.toBitVec_xor] at this; omega)]; rfl)
             | (rw [aQ (by omega) (by have := (a &&& ~~~b).toNat_lt; simp only [UInt32.toNat] at this ⊢; simp only [UInt32.toBitVec_and, UInt32.toBitVec_not] at this; omega)]; rfl)
             | (rw [aS]; simp [UInt32.lt_iff_toNat_lt, UInt32.le_iff_toNat_le, ← UInt32.toNat_inj]; omega)
             | (rw [aS]; simp [UInt32.lt_iff_toNat_lt, UInt32.le_iff_toNat_le, ← UInt32.toNat_inj]))
theorem HL {o : BinOp} {a b : UInt64} {ws : List TV} (h : (HM o a b).holds ws) : ∃ x : TV, ws = [x] ∧ ∃ v, x.val = some v ∧ ll o (.int .u64 a.toNat) (.int .u64 b.toNat) = some v := by
  have ha := a.toNat_lt
  have hb := b.toNat_lt
  cases o <;> simp only [HM, oc.holds] at h <;> first | exact h.elim | skip
  all_goals first
    | (obtain ⟨hp, rfl⟩ := h; refine ⟨_, rfl, _, rfl, ?_⟩; simp only [Bool.not_eq_true', decide_eq_false_iff_not] at hp
       have pE : (b.toNat : Int) ≠ 0 := fun e => hp (bm.1 (by simpa using e))
       simp only [ll, if_true, pE, if_false, aL, Value.int.injEq, true_and, UInt64.toNat_div, UInt64.toNat_mod, jj, Int.tdiv_eq_ediv_of_nonneg (Int.natCast_nonneg a.toNat), Int.tmod_eq_emod_of_nonneg (Int.natCast_nonneg a.toNat)]
       first | (rw [← Int.natCast_ediv]; have := Nat.div_le_self a.toNat b.toNat; generalize a.toNat / b.toNat = q at this ⊢; omega) | omega)
    | (subst h; refine ⟨_, rfl, _, rfl, ?_⟩
       simp only [ll, if_true, aL, Value.int.injEq, Value.bool.injEq, true_and, jj, cU, IntKind.bits, ofInt_u64, UInt64.toNat_add, UInt64.toNat_sub, UInt64.toNat_mul]
       first | omega | (rw [aQ (by omega) (by have := (a &&& b).toNat_lt; simp only [UInt64.toNat] at this ⊢; simp only [UInt64.toBitVec_and] at this; omega)]; rfl)
             | (rw [aQ (by omega) (by have := (a ||| b).toNat_lt; simp only [UInt64.toNat] at this ⊢; simp only [UInt64.toBitVec_or] at this; omega)]; rfl)
             | (rw [aQ (by omega) (by have := (a ^^^ b).toNat_lt; simp only [UInt64.toNat] at this ⊢; simp only [UInt64.toBitVec_xor] at this; omega)]; rfl)
             | (rw [aQ (by omega) (by have := (a &&& ~~~b).toNat_lt; simp only [UInt64.toNat] at this ⊢; simp only [UInt64.toBitVec_and, UInt64.toBitVec_not] at this; omega)]; rfl)
             | (rw [aS]; simp [aT, aJ, ← bm]; omega)
             | (rw [aS]; simp [aT, aJ, ← bm]))
theorem sP {a n b m:Nat} (hm:m=2 ^ b):(a * 2 ^ (min n b)) % m=(a * 2 ^ n) % m:=by
 subst hm
 by_cases h:n≤b
 ·rw [Nat.min_eq_left h]
 ·rw [Nat.min_eq_right (by omega),show n=b+(n - b) by omega,Nat.pow_add,←Nat.mul_assoc,Nat.mul_mod_left,Nat.mul_right_comm,Nat.mul_mod_left]
theorem sN {a n b m:Nat} (hm:m=2 ^ b) (ha:a<m):a / 2 ^ (min n b)=(a / 2 ^ n) % m:=by
 subst hm
 rw [Nat.mod_eq_of_lt (Nat.lt_of_le_of_lt (Nat.div_le_self _ _) ha)]
 by_cases h:n≤b
 ·rw [Nat.min_eq_left h]
 ·rw [Nat.min_eq_right (by omega),Nat.div_eq_of_lt ha,Nat.div_eq_of_lt (Nat.lt_of_lt_of_le ha (Nat.pow_le_pow_right (by omega) (by omega)))]
theorem lH (l:bz):ByteArray.toList ⟨⟨l⟩⟩=l:=by rw [ByteArray.toList_eq]
def oc.CS (r:oc) (P:TV→Prop):Prop:=∀ws,r.holds ws→∃x:TV,ws=[x]∧P x
def H7 (o:BinOp) (x y:TV) (z:TV):Prop:=∃a b v,x.val=some a∧y.val=some b∧ll o a b=some v∧z.val=some v
theorem sd {p:Option Bool} {ws r:List TV} (h:(oc.under p ws).holds r):r=ws∧∀b,p=some b→b=true:=by
 cases p with
 | none=>exact ⟨h,fun _ e=>by cases e⟩
 | some p=>exact ⟨h.2,fun _ e=>by cases e;exact h.1⟩
theorem wM {y:TV} {p:Option Bool} {n:Nat} (h:y.count=some (p,n)) (hp:∀b,p=some b→b=true):∃k m,y.val=some (.int k m)∧0≤m∧m.toNat=n:=by
 cases y <;> simp [TV.count] at h <;> obtain ⟨rfl,rfl⟩:=h
 ·exact ⟨_,_,rfl,by omega,by omega⟩
 ·exact ⟨_,_,rfl,by omega,by omega⟩
 ·exact ⟨_,_,rfl,by omega,by omega⟩
 ·exact ⟨_,_,rfl,by omega,by omega⟩
 ·rename_i k m
  have:=hp _ rfl
  exact ⟨_,_,rfl,by simpa using this,rfl⟩
theorem IK (a:UInt8) (n:Nat):IntKind.u8.wrap ((a.toNat:Int) * 2 ^ (min n 8))=((mj a n).toNat:Int):=by
 rw [wrap_u8',mj,UInt8.toNat_ofNat',show ((a.toNat:Int) * 2 ^ (min n 8))=((a.toNat * 2 ^ (min n 8):Nat):Int) by simp]
 have:=sP (a:=a.toNat) (n:=n) (b:=8) (m:=256) (by decide)
 rw [show (2 ^ 8:Nat)=256 by decide]
 omega
theorem II (a:UInt8) (n:Nat):IntKind.u8.wrap ((a.toNat:Int).fdiv (2 ^ (min n 8)))=((lO a n).toNat:Int):=by
 rw [wrap_u8',lO,UInt8.toNat_ofNat',Int.fdiv_eq_ediv_of_nonneg _ (Int.le_of_lt (Int.pow_pos (by decide))),show ((a.toNat:Int) / 2 ^ (min n 8))=((a.toNat / 2 ^ (min n 8):Nat):Int) by simp]
 have:=sN (a:=a.toNat) (n:=n) (b:=8) (m:=256) (by decide) (by have:=a.toNat_lt;simpa using this)
 rw [show (2 ^ 8:Nat)=256 by decide]
 omega
theorem Fx (a:UInt16) (n:Nat):IntKind.u16.wrap ((a.toNat:Int) * 2 ^ (min n 16))=((Fy a n).toNat:Int):=by
 rw [jz,Fy,UInt16.toNat_ofNat',show ((a.toNat:Int) * 2 ^ (min n 16))=((a.toNat * 2 ^ (min n 16):Nat):Int) by simp]
 have:=sP (a:=a.toNat) (n:=n) (b:=16) (m:=65536) (by decide)
 rw [show (2 ^ 16:Nat)=65536 by decide]
 omega
theorem Fu (a:UInt16) (n:Nat):IntKind.u16.wrap ((a.toNat:Int).fdiv (2 ^ (min n 16)))=((qe a n).toNat:Int):=by
 rw [jz,qe,UInt16.toNat_ofNat',Int.fdiv_eq_ediv_of_nonneg _ (Int.le_of_lt (Int.pow_pos (by decide))),show ((a.toNat:Int) / 2 ^ (min n 16))=((a.toNat / 2 ^ (min n 16):Nat):Int) by simp]
 have:=sN (a:=a.toNat) (n:=n) (b:=16) (m:=65536) (by decide) (by have:=a.toNat_lt;simpa using this)
 rw [show (2 ^ 16:Nat)=65536 by decide]
 omega
theorem Fw (a:UInt32) (n:Nat):IntKind.u32.wrap ((a.toNat:Int) * 2 ^ (min n 32))=((qf a n).toNat:Int):=by
 rw [wrap_u32',qf,UInt32.toNat_ofNat',show ((a.toNat:Int) * 2 ^ (min n 32))=((a.toNat * 2 ^ (min n 32):Nat):Int) by simp]
 have:=sP (a:=a.toNat) (n:=n) (b:=32) (m:=4294967296) (by decide)
 rw [show (2 ^ 32:Nat)=4294967296 by decide]
 omega
theorem Ft (a:UInt32) (n:Nat):IntKind.u32.wrap ((a.toNat:Int).fdiv (2 ^ (min n 32)))=((tV a n).toNat:Int):=by
 rw [wrap_u32',tV,UInt32.toNat_ofNat',Int.fdiv_eq_ediv_of_nonneg _ (Int.le_of_lt (Int.pow_pos (by decide))),show ((a.toNat:Int) / 2 ^ (min n 32))=((a.toNat / 2 ^ (min n 32):Nat):Int) by simp]
 have:=sN (a:=a.toNat) (n:=n) (b:=32) (m:=4294967296) (by decide) (by have:=a.toNat_lt;simpa using this)
 rw [show (2 ^ 32:Nat)=4294967296 by decide]
 omega
theorem Fv (a:UInt64) (n:Nat):IntKind.u64.wrap ((a.toNat:Int) * 2 ^ (min n 64))=((jr a n).toNat:Int):=by
 rw [jj,jr,UInt64.toNat_ofNat',show ((a.toNat:Int) * 2 ^ (min n 64))=((a.toNat * 2 ^ (min n 64):Nat):Int) by simp]
 have:=sP (a:=a.toNat) (n:=n) (b:=64) (m:=18446744073709551616) (by decide)
 rw [show (2 ^ 64:Nat)=18446744073709551616 by decide]
 omega
theorem Fs (a:UInt64) (n:Nat):IntKind.u64.wrap ((a.toNat:Int).fdiv (2 ^ (min n 64)))=((dQ a n).toNat:Int):=by
 rw [jj,dQ,UInt64.toNat_ofNat',Int.fdiv_eq_ediv_of_nonneg _ (Int.le_of_lt (Int.pow_pos (by decide))),show ((a.toNat:Int) / 2 ^ (min n 64))=((a.toNat / 2 ^ (min n 64):Nat):Int) by simp]
 have:=sN (a:=a.toNat) (n:=n) (b:=64) (m:=18446744073709551616) (by decide) (by have:=a.toNat_lt;simpa using this)
 rw [show (2 ^ 64:Nat)=18446744073709551616 by decide]
 omega
theorem sO {w:Nat} {m:Int} (a:Nat) (k:Nat) (h:(a:Int)<m):0≤(a:Int).fdiv (2 ^ k)∧(a:Int).fdiv (2 ^ k)<m:=by
 rw [Int.fdiv_eq_ediv_of_nonneg _ (Int.le_of_lt (Int.pow_pos (by decide)))]
 refine ⟨Int.ediv_nonneg (by omega) (Int.le_of_lt (Int.pow_pos (by decide))),?_⟩
 rw [show ((a:Int) / 2 ^ k)=((a / 2 ^ k:Nat):Int) by simp]
 have:=Nat.div_le_self a (2 ^ k)
 omega
theorem IJ (x y:TV):(Lh x y).CS (H7 .shl x y):=by
 intro ws h
 unfold Lh at h
 split at h
 ·rename_i p n hc
  have key:∀{r:TV} {u:IntKind} {a:Int},(oc.under p [r]).holds ws→x.val=some (.int u a)→r.val=some (.int u (u.wrap (a * 2 ^ (min n u.bits))))→∃z:TV,ws=[z]∧H7 .shl x y z:=by
   intro r u a h hx hr
   obtain ⟨rfl,hp⟩:=sd h
   obtain ⟨k,m,h1,h2,rfl⟩:=wM hc hp
   refine ⟨_,rfl,_,_,_,hx,h1,?_,hr⟩
   simp only [ll,Int.not_lt.2 h2,if_false]
  split at h
  ·exact key h rfl (by rw [show IntKind.u8.bits=8 from rfl,IK];rfl)
  ·exact key h rfl (by rw [show IntKind.u16.bits=16 from rfl,Fx];rfl)
  ·exact key h rfl (by rw [show IntKind.u32.bits=32 from rfl,Fw];rfl)
  ·exact key h rfl (by rw [show IntKind.u64.bits=64 from rfl,Fv];rfl)
  ·exact key h rfl rfl
  ·exact h.elim
 ·exact h.elim
theorem IH (x y:TV):(Lg x y).CS (H7 .shr x y):=by
 intro ws h
 unfold Lg at h
 split at h
 ·rename_i p n hc
  have key:∀{r:TV} {u:IntKind} {a:Int},(oc.under p [r]).holds ws→x.val=some (.int u a)→r.val=some (.int u (a.fdiv (2 ^ (min n u.bits))))→∃z:TV,ws=[z]∧H7 .shr x y z:=by
   intro r u a h hx hr
   obtain ⟨rfl,hp⟩:=sd h
   obtain ⟨k,m,h1,h2,rfl⟩:=wM hc hp
   refine ⟨_,rfl,_,_,_,hx,h1,?_,hr⟩
   simp only [ll,Int.not_lt.2 h2,if_false]
  split at h
  ·rename_i a
   have q:=sO (w:=0) a.toNat (min n 8) (m:=256) (by have:=a.toNat_lt;simp at this;omega)
   exact key h rfl (by rw [show IntKind.u8.bits=8 from rfl];simp only [TV.val];rw [←II,wrap_u8',aQ q.1 q.2])
  ·rename_i a
   have q:=sO (w:=0) a.toNat (min n 16) (m:=65536) (by have:=a.toNat_lt;simp at this;omega)
   exact key h rfl (by rw [show IntKind.u16.bits=16 from rfl];simp only [TV.val];rw [←Fu,jz,aQ q.1 q.2])
  ·rename_i a
   have q:=sO (w:=0) a.toNat (min n 32) (m:=4294967296) (by have:=a.toNat_lt;simp at this;omega)
   exact key h rfl (by rw [show IntKind.u32.bits=32 from rfl];simp only [TV.val];rw [←Ft,wrap_u32',aQ q.1 q.2])
  ·rename_i a
   have q:=sO (w:=0) a.toNat (min n 64) (m:=18446744073709551616) (by have:=a.toNat_lt;simp at this;omega)
   exact key h rfl (by rw [show IntKind.u64.bits=64 from rfl];simp only [TV.val];rw [←Fs,jj,aQ q.1 q.2])
  ·exact key h rfl rfl
  ·exact h.elim
 ·exact h.elim
theorem JR {o:BinOp} {k:IntKind} {a b:Int} {ws:List TV} (h:(M7 o k a b).holds ws):∃x:TV,ws=[x]∧∃v,x.val=some v∧ll o (.int k a) (.int k b)=some v:=by
 cases o <;> simp only [M7,oc.holds] at h <;> first | exact h.elim | skip
 all_goals first
  | (obtain ⟨hp,rfl⟩:=h;refine ⟨_,rfl,_,rfl,?_⟩;simp only [Bool.not_eq_true',decide_eq_false_iff_not] at hp;simp only [ll,if_true,hp,if_false])
  | (subst h;refine ⟨_,rfl,_,rfl,?_⟩;simp only [ll,if_true,aL,Value.bool.injEq];first | done | (rw [aS];simp))
theorem JQ {o:BinOp} {a b:bz} {ws:List TV} (h:(M6 o a b).holds ws):∃x:TV,ws=[x]∧∃v,x.val=some v∧ll o (.string ⟨⟨a⟩⟩) (.string ⟨⟨b⟩⟩)=some v:=by
 cases o <;> simp only [M6,oc.holds] at h <;> first | exact h.elim | skip
 ·obtain ⟨hp,rfl⟩:=h
  refine ⟨_,rfl,_,rfl,?_⟩
  simp only [ll]
  have hp:a.length+b.length≤9223372036854775807:=by simpa using hp
  rw [ao]
  ·simp only [aL,Value.string.injEq]
   apply ByteArray.ext
   apply Array.ext'
   simp
  ·have:IntKind.i64.max=9223372036854775807:=by decide
   rw [this]
   simp only [ByteArray.size,Array.size]
   omega
 ·subst h
  refine ⟨_,rfl,_,rfl,?_⟩
  simp only [ll,lH,aL,Value.bool.injEq]
  rw [aS];simp
 ·subst h
  refine ⟨_,rfl,_,rfl,?_⟩
  simp only [ll,lH,aL,Value.bool.injEq]
  rw [aS];simp
 ·subst h
  refine ⟨_,rfl,_,rfl,?_⟩
  show some (Value.bool _)=_
  simp only [lH]
 ·subst h
  refine ⟨_,rfl,_,rfl,?_⟩
  show some (Value.bool _)=_
  have e:(a == b)=decide (a=b):=by rw [aS];simp
  simp only [lH,e]
 ·subst h
  refine ⟨_,rfl,_,rfl,?_⟩
  show some (Value.bool _)=_
  have e:(a == b)=decide (a=b):=by rw [aS];simp
  simp only [lH,e]
 ·subst h
  refine ⟨_,rfl,_,rfl,?_⟩
  show some (Value.bool _)=_
  simp only [lH]
theorem JA {o:BinOp} {a b:Value} {ws:List TV} (h:(ME o a b).holds ws):∃x:TV,ws=[x]∧∃v,z6 o a b=some v∧x.val=some v:=by
 unfold ME at h
 split at h
 ·obtain ⟨h1,rfl⟩:=h;exact ⟨_,rfl,_,au h1,rfl⟩
 ·obtain ⟨h1,rfl⟩:=h;exact ⟨_,rfl,_,au h1,rfl⟩
 ·obtain ⟨h1,rfl⟩:=h;exact ⟨_,rfl,_,au h1,rfl⟩
 ·cases h;exact ⟨_,rfl,_,rfl,rfl⟩
 ·cases h;exact ⟨_,rfl,_,rfl,rfl⟩
 ·cases h;exact ⟨_,rfl,_,rfl,rfl⟩
 ·cases h;exact ⟨_,rfl,_,rfl,rfl⟩
 ·cases h;exact ⟨_,rfl,_,rfl,rfl⟩
 ·cases h;exact ⟨_,rfl,_,rfl,rfl⟩
 ·obtain ⟨h1,rfl⟩:=h;exact ⟨_,rfl,_,au h1,rfl⟩
 ·obtain ⟨h1,rfl⟩:=h;exact ⟨_,rfl,_,au h1,rfl⟩
 ·exact h.elim
theorem Eo {o:BinOp} {a b v:Value} (h:z6 o a b=some v) (h1:sW o=none):ll o a b=some v:=by
 unfold z6 at h
 split at h <;> first | (cases h;done) | exact h
theorem JO (o:BinOp) (x y:TV):(JP o x y).CS (H7 o x y):=by
 intro ws h
 unfold JP at h
 split at h
 ·rename_i e
  have:o = .shl:=by cases o <;> simp [sW] at e ⊢
  subst this
  exact IJ x y ws h
 ·rename_i e
  have:o = .shr:=by cases o <;> simp [sW] at e ⊢
  subst this
  exact IH x y ws h
 ·split at h
  ·obtain ⟨x,h1,v,h2,h3⟩:=JS h;exact ⟨x,h1,_,_,v,rfl,rfl,h3,h2⟩
  ·obtain ⟨x,h1,v,h2,h3⟩:=HP h;exact ⟨x,h1,_,_,v,rfl,rfl,h3,h2⟩
  ·obtain ⟨x,h1,v,h2,h3⟩:=HN h;exact ⟨x,h1,_,_,v,rfl,rfl,h3,h2⟩
  ·obtain ⟨x,h1,v,h2,h3⟩:=HL h;exact ⟨x,h1,_,_,v,rfl,rfl,h3,h2⟩
  ·split at h
   ·rename_i e
    subst e
    obtain ⟨x,h1,v,h2,h3⟩:=JR h;exact ⟨x,h1,_,_,v,rfl,rfl,h3,h2⟩
   ·exact h.elim
  ·obtain ⟨x,h1,v,h2,h3⟩:=JQ h;exact ⟨x,h1,_,_,v,rfl,rfl,h3,h2⟩
  ·rename_i e _ _ _ _
   obtain ⟨x,h1,v,h2,h3⟩:=JA h
   exact ⟨x,h1,_,_,v,rfl,rfl,Eo h2 (by assumption),h3⟩
  ·exact h.elim
theorem I7 (a:UInt8):cU .xor .u8 (if IntKind.u8.signed then -1 else IntKind.u8.max) a.toNat=((~~~a).toNat:Int):=by
 have em:(if IntKind.u8.signed then (-1:Int) else IntKind.u8.max)=255:=by decide
 have e:BitVec.ofInt 8 255=BitVec.allOnes 8:=by decide
 rw [em]
 simp only [cU,IntKind.bits]
 rw [e,ofInt_u8,wrap_u8']
 show (((BitVec.allOnes 8 ^^^ a.toBitVec:BitVec 8).toNat:Int)) % 256=_
 rw [BitVec.allOnes_xor]
 have:=(~~~a).toNat_lt
 simp only [UInt8.toNat,UInt8.toBitVec_not] at this ⊢
 omega
theorem FV (a:UInt16):cU .xor .u16 (if IntKind.u16.signed then -1 else IntKind.u16.max) a.toNat=((~~~a).toNat:Int):=by
 have em:(if IntKind.u16.signed then (-1:Int) else IntKind.u16.max)=65535:=by decide
 have e:BitVec.ofInt 16 65535=BitVec.allOnes 16:=by decide
 rw [em]
 simp only [cU,IntKind.bits]
 rw [e,ofInt_u16,jz]
 show (((BitVec.allOnes 16 ^^^ a.toBitVec:BitVec 16).toNat:Int)) % 65536=_
 rw [BitVec.allOnes_xor]
 have:=(~~~a).toNat_lt
 simp only [UInt16.toNat,UInt16.toBitVec_not] at this ⊢
 omega
theorem FU (a:UInt32):cU .xor .u32 (if IntKind.u32.signed then -1 else IntKind.u32.max) a.toNat=((~~~a).toNat:Int):=by
 have em:(if IntKind.u32.signed then (-1:Int) else IntKind.u32.max)=4294967295:=by decide
 have e:BitVec.ofInt 32 4294967295=BitVec.allOnes 32:=by decide
 rw [em]
 simp only [cU,IntKind.bits]
 rw [e,ofInt_u32,wrap_u32']
 show (((BitVec.allOnes 32 ^^^ a.toBitVec:BitVec 32).toNat:Int)) % 4294967296=_
 rw [BitVec.allOnes_xor]
 have:=(~~~a).toNat_lt
 simp only [UInt32.toNat,UInt32.toBitVec_not] at this ⊢
 omega
theorem FT (a:UInt64):cU .xor .u64 (if IntKind.u64.signed then -1 else IntKind.u64.max) a.toNat=((~~~a).toNat:Int):=by
 have em:(if IntKind.u64.signed then (-1:Int) else IntKind.u64.max)=18446744073709551615:=by decide
 have e:BitVec.ofInt 64 18446744073709551615=BitVec.allOnes 64:=by decide
 rw [em]
 simp only [cU,IntKind.bits]
 rw [e,ofInt_u64,jj]
 show (((BitVec.allOnes 64 ^^^ a.toBitVec:BitVec 64).toNat:Int)) % 18446744073709551616=_
 rw [BitVec.allOnes_xor]
 have:=(~~~a).toNat_lt
 simp only [UInt64.toNat,UInt64.toBitVec_not] at this ⊢
 omega
theorem K3 (o : UnOp) (x : TV) : (PV o x).CS (fun z => ∃ a v, x.val = some a ∧ QU o a = some v ∧ z.val = some v) := by
  intro ws h
  unfold PV at h
  split at h <;> first
    | exact h.elim
    | (cases h; exact ⟨_, rfl, _, _, rfl, rfl, rfl⟩)
    | (cases h; refine ⟨_, rfl, _, _, rfl, rfl, ?_⟩
       rename_i a
       have := a.toNat_lt
       simp only [TV.val, aL, Value.int.injEq, true_and]
       first
         | (rw [wrap_u8', UInt8.toNat_sub]; simp; omega)
         | (rw [jz, UInt16.toNat_sub]; simp; omega)
         | (rw [wrap_u32', UInt32.toNat_sub]; simp; omega)
         | (rw [jj, UInt64.toNat_sub]; simp; omega)
         | exact (I7 a).symm | exact (FV a).symm | exact (FU a).symm | exact (FT a).symm)
end Go.Eng
namespace Go.Eng
open Go.RowKit
def oP (P:Program) (t:TypeId):Bool:=match P.underlying t with
 | some (.struct fs)=>fs.toList.all fun f=>(P.info? f.type).isSome
 | some (.array _ e)=>(P.info? e).isSome
 | _=>false
structure jq (P:Program) (E:cr):Prop where
 mixed:P.follows .mixedOrders=true
 ty:∀t st b,E.ty t=some (st,b)→∃e i z,P.underlying t=some (.slice e)∧P.info? e=some i∧i.size=st.size∧i.bytes=b∧i.zero=some z∧z.cells.size=st.size∧∀R w,dq R w (st.tv st.gm).cells z.cells.toList
 z:∀t l,E.z t=some l→oP P t=true∧∃v,(P.info? t).bind (·.zero)=some v∧og v.cells.toList l=true
section
variable {R:Reach} {w:World}
theorem Jm {k : IntKind} {n : Int} {x : TV} (h : LQ k n = some x) : x.val = some (.int k n) := by
  unfold LQ at h
  split at h <;> first
    | (obtain ⟨h1, h2⟩ := bE.1 h
       cases h2
       simp only [af, aA] at h1
       simp [TV.val]
       omega)
    | (cases h; rfl)
theorem IF (s:ByteArray):(⟨⟨s.data.toList⟩⟩:ByteArray)=s:=rfl
theorem Lm {v:Value} {x:TV} (h:Q4 v=some x):x.val=some v:=by
 unfold Q4 at h
 split at h <;> first | exact Jm h | (cases h;done) | (cases h;rfl)
theorem tw {v:Value} {x:TV} (h:B3 v x=true):Rep R w x v∧v.oneCell'=true:=by
 unfold B3 at h
 split at h <;> first | (cases h;done) | skip
 ·exact ⟨.nl _,rfl⟩
 all_goals simp only [beq_iff_eq,af] at h
 ·subst h;exact ⟨.sc rfl,rfl⟩
 ·subst h;exact ⟨.sc rfl,rfl⟩
 ·subst h;exact ⟨.sc rfl,rfl⟩
 ·subst h;exact ⟨.sc rfl,rfl⟩
 ·subst h;exact ⟨.sc rfl,rfl⟩
 ·obtain ⟨rfl,rfl⟩:=h;exact ⟨.sc rfl,rfl⟩
 ·subst h;exact ⟨.sc (by simp only [TV.val,IF]),rfl⟩
 ·obtain ⟨rfl,rfl⟩:=h;exact ⟨.sc rfl,rfl⟩
 ·obtain ⟨⟨rfl,rfl⟩,rfl⟩:=h;exact ⟨.sc rfl,rfl⟩
 ·exact ⟨.sc rfl,rfl⟩
 ·exact ⟨.sc rfl,rfl⟩
 ·exact ⟨.sc rfl,rfl⟩
theorem oS:∀{vs:List Value} {xs:List TV},og vs xs=true→dq R w xs vs
 | [],[],_ => .nil
 | v :: vs,x :: xs,h=>by
  simp only [og,af] at h
  exact .cons (tw (R:=R) (w:=w) h.1).2 (tw h.1).1 (oS h.2)
 | [],_ :: _,h=>by simp [og] at h
 | _ :: _,[],h=>by simp [og] at h
theorem Rep.dJ {x:TV} {u v:Value} (h:Rep R w x v) (hx:x.val=some u):v=u:=by
 cases h <;> first | (simp [TV.val] at hx;done) | (rename_i h;rw [h] at hx;exact Option.some.inj hx)
end
section
variable {P:Program}
theorem gn {t:TypeId} {n:Nat} {agg:Bool} (h:jl P t=some (n,agg)):∃i,P.info? t=some i∧i.size=n∧∀w,(isAgg t).run P w = .ok agg w:=by
 unfold jl at h
 rw [aN] at h
 obtain ⟨i,h1,h2⟩:=h
 rw [aM] at h2
 obtain ⟨d,hd,h2⟩:=h2
 simp only [Prod.mk.injEq] at h2
 refine ⟨i,h1,h2.1,fun w=>?_⟩
 unfold isAgg
 simp only [Sem.run_bind,run_underlying hd,Result.andThen_ok]
 rw [←h2.2]
 cases d <;> rfl
theorem sz {t:TypeId} {f:Nat} {fl:Field} (h:rJ P t f=some fl):∃fs,P.underlying t=some (.struct fs)∧fs[f]?=some fl:=by
 unfold rJ at h
 cases hu:P.underlying t with
 | none=>simp [hu] at h
 | some d=>simp only [hu,Option.bind_some] at h;split at h <;> simp_all
theorem run_sizeOf {t:TypeId} {i:TypeInfo} (h:P.info? t=some i) (w:World):(sizeOf t).run P w = .ok i.size w:=by simp [sizeOf,typeInfo,h]
theorem jc {t:TypeId} {i:TypeInfo} {agg:Bool} (hi:P.info? t=some i) (ha:∀w,(isAgg t).run P w = .ok agg w) (h1:agg=true∨i.size=1) {w:World} {b off:Nat} {ys:List Value} (hl:ys.length=i.size)
  (hc:∀j y,ys[j]?=some y→w.cell? ⟨b,off+j,none⟩=some y):(loadVar t ⟨b,off,none⟩).run P w = .ok (if agg then .agg ⟨ys⟩ else ys.headD undef) w:=by
 unfold loadVar
 simp only [Sem.run_bind,ha,Result.andThen_ok]
 cases agg with
 | true =>
  have:=run_loadCells_list (P:=P) w ⟨b,off,none⟩ ys (fun j v hj=>by
   have h:=hc j v hj
   unfold Addr.add
   split
   ·rename_i e;subst e;exact h
   ·exact h)
  simp [run_sizeOf hi,←hl,this]
 | false =>
  have hs:i.size=1:=by simpa using h1
  match ys,hl with
  | [y],_ =>
   have:=hc 0 y rfl
   simp at this
   simp [this]
  | [],hl=>simp [hs] at hl
  | _ :: _ :: _,hl=>simp [hs] at hl
end
theorem Fk {α:Type} {l:List α} {i:Nat} (h:i<l.length):(l.drop i).take 1=[l[i]]:=by
 rw [List.drop_eq_getElem_cons h,List.take_succ_cons,List.take_zero]
theorem bsize (b:ByteArray):b.data.toList.length=b.size:=by rw [Array.length_toList];rfl
theorem addr_add (b off n:Nat):(⟨b,off,none⟩:Addr).add n=⟨b,off+n,none⟩:=by
 unfold Addr.add;split
 ·rename_i e;subst e;rfl
 ·rfl
section
variable {R:Reach} {w:World}
theorem Rep.A3 {t:fx} {l:List t.El} {y:Value} (h:Rep R w (.sl t l) y) :
  (l=[]∧y = .slice none 0 0)∨(∃b off cap,y = .slice (some ⟨b,off,none⟩) l.length cap∧l.length≤cap∧cap≤maxLen∧kf R w t.size (l.map t.tv) b off)∨(l=[]∧∃ad cap,y = .slice (some ad) 0 cap∧cap≤maxLen):=by
 cases h with
 | sc h=>cases h
 | sn=>exact .inl ⟨rfl,rfl⟩
 | sl h1 h2 h3 h4=>subst h1;exact .inr (.inl ⟨_,_,_,rfl,h2,h3,h4⟩)
 | em _ h=>exact .inr (.inr ⟨rfl,_,_,rfl,h⟩)
theorem Rep.Bd {x:TV} {y:Value} (h:Rep R w (.ro x) y):∃b off s,y = .pointer (some ⟨b,off,none⟩)∧ly R w s x b off:=by
 cases h with
 | sc h=>cases h
 | ro h=>exact ⟨_,_,_,rfl,h⟩
theorem Rep.H2 {cs:List TV} {y:Value} (h:Rep R w (.ag cs) y):∃ys,y = .agg ⟨ys⟩∧dq R w cs ys:=by
 cases h with
 | sc h=>cases h
 | ag h=>exact ⟨_,rfl,h⟩
theorem Rep.K6 {cs:List TV} {y:Value} (h:Rep R w (.tu cs) y):∃ys,y = .tuple ⟨ys⟩∧iv R w cs ys:=by
 cases h with
 | sc h=>cases h
 | tu h=>exact ⟨_,rfl,h⟩
theorem Ob {x:TV} {ys:List Value} (h:dq R w x.cells ys):Rep R w x (if x.sG then .agg ⟨ys⟩ else ys.headD undef):=by
 cases x with
 | ag cs=>exact .ag h
 | _ =>
  simp only [TV.cells,TV.sG] at h ⊢
  cases h with
  | cons _ h1 h2=>cases h2;simpa using h1
theorem oB {cs:List TV} {ys:List Value} {o n:Nat} {agg:Bool} {x:TV} (h:dq R w cs ys) (hp:mA cs o n agg=some x) (h1:agg=true∨n=1) :
  ((ys.drop o).take n).length=n∧Rep R w x (if agg then .agg ⟨(ys.drop o).take n⟩ else ((ys.drop o).take n).headD undef):=by
 have hlen:=h.length
 unfold mA at hp
 cases agg with
 | true =>
  cases hb:Nat.ble (o+n) cs.length with
  | true =>
   rw [hb] at hp
   cases hp
   have:=Nat.le_of_ble_eq_true hb
   exact ⟨by simp;omega,.ag ((h.drop o).take n)⟩
  | false=>rw [hb] at hp;cases hp
 | false =>
  simp at h1
  subst h1
  simp at hp
  obtain ⟨y,Eb,_,Ea⟩:=h.get o x hp
  have gk:=(aH.1 Eb).1
  refine ⟨by simp;omega,?_⟩
  have:(ys.drop o).take 1=[y]:=by
   rw [Fk gk,(aH.1 Eb).2]
  simpa [this] using Ea
end
section
variable {C:Ctx} {S V:St} {a:Act} {w:World} {R:Reach} {τ:Nat→Value} {o:Oper} {d:Nat}
theorem dS.no {x:TV} {v:Value} (h:Rep R w x v):dS R w τ x .no v:=by
 cases x with
 | gd q x=>cases q with
  | false=>cases h with
   | sc h=>cases h
   | Pj=>rfl
  | true=>cases h with
   | sc h=>cases h
   | NN h=>exact h
 | _=>exact h
def eJ (C:Ctx) (o:Oper) (a:Act) (w:World) (S:St):Prop:=∀(K:Act→World→Prop) (Q:Exit→Act→World→Prop),(∀a' w',Sim C S a' w'→K a' w')→o.wp C.P a w K Q
theorem eI.fz (h:eI C S a w R τ) {S':St} {R':Reach} (hc:Core C.nt R' w C.dK τ S') (k:Fz C.dK R w R'):eI C S' a w R' τ :=
 { h with core:=hc,ext:=h.ext.reach k.1 k.2,gl:=h.gl.dM k.1 }
theorem eI.val (h:eI C S a w R τ) (hd:o.dst=some d) (hl:d<C.nt) {v:Value} {x:TV} {g:Gh} (hr:(execOp a.eval o).run C.P w = .ok (.value v) w) (hs:dS R w τ x g v) (hg:g.slot=true)
  (hm:∀k∈g.df,C.nt≤k∧(S k).2 ≠ .no):eJ C o a w (cR S d (x,g)):=fun K Q hK=>by
 unfold Oper.wp
 rw [hr,Oper.upon_value,hd]
 refine hK _ _ ⟨R,_,by simp [Act.put,h.size],h.defers,h.core.put hl hs hg hm,fun t ht=>?_,⟨h.io.1,fun k hk=>?_⟩,h.ext,h.gl⟩
 ·by_cases e:t=d
  ·subst e;rw [gp];simp [Act.put,Array.getD,h.size,ht]
  ·rw [iw _ _ e,←h.tmps t ht]
   simp only [Act.put,Array.getD_eq_getD_getElem?]
   rw [Array.getElem?_setIfInBounds_ne (Ne.symm e)]
 ·have:=h.io.1
  rw [iw _ _ (by omega)];exact h.io.2 k hk
theorem eI.ic (h:eI C S a w R τ) (hd:o.dst=some d) (hl:d<C.nt) {v:Value} {x:TV} (hr:(execOp a.eval o).run C.P w = .ok (.value v) w) (hs:Rep R w x v):eJ C o a w (cR S d (x,.no)) :=
 h.val hd hl hr (.no hs) rfl (by simp [Gh.df])
theorem dS.at {x:TV} {g:Gh} {v:Value} (h:dS R w τ x g v) (hx:∀q y,x ≠ .gd q y):jF R w τ x g v:=by
 unfold dS at h
 split at h
 ·exact (hx _ _ rfl).elim
 ·exact (hx _ _ rfl).elim
 ·exact h
variable (h:eI C S a w R τ) (hV:Lt V S)
include h hV
theorem gz {t:TypeId} {x:Operand} {c:Cell} (he:gr C.E C.nt V t x=some c):dS R w τ c.1 c.2 (a.eval x)∧c.2.slot=true∧∀m∈c.2.df,C.nt≤m∧(S m).2 ≠ .no:=by
 unfold gr at he
 split at he
 ·rename_i i
  obtain ⟨h1,h2⟩:=bE.1 he
  have hi:i<C.nt:=Nat.le_of_ble_eq_true h1
  split at h2
  ·cases h2
  ·rename_i hn
   cases h2
   have e:V i=S i:=(hV i).resolve_right fun e=>hn (V i).1 (by rw [←e])
   have hk:=h.core.key i
   have hs:=h.core.slt i hi
   rw [ji.slot hs] at hk
   rw [e]
   exact ⟨by simp only [Act.eval];rw [h.tmps i hi];exact hk,hs,h.core.inv i⟩
 ·rename_i v
  simp only [aM] at he
  obtain ⟨y,h1,rfl⟩:=he
  refine ⟨?_,rfl,by simp [Gh.df]⟩
  have hr:Rep R w y v:=by
   unfold Hy at h1
   split at h1
   ·simp only [aM] at h1
    obtain ⟨p,_,rfl⟩:=h1
    exact .nl _
   ·rename_i cs
    rw [aN] at h1
    obtain ⟨z,_,h1⟩:=h1
    obtain ⟨h2,h3⟩:=bE.1 h1
    cases h3
    clear h1
    cases cs
    exact .ag (oS h2)
   ·exact .sc (Lm h1)
  exact .no hr
 ·cases he;exact ⟨Rep.sc rfl,rfl,by simp [Gh.df]⟩
 ·cases he
theorem eC {t:TypeId} {x:Operand} {y:TV} (he:gr C.E C.nt V t x=some (y,.no)):Rep R w y (a.eval x):=jF.rep (gz h hV he).1
theorem mE {x:Operand} {n:Int} (he:pS C.E C.nt V x=some n):∃k,a.eval x = .int k n:=by
 unfold pS at he
 split at he
 ·rename_i y e
  simp only [aM] at he
  obtain ⟨⟨k,m⟩,h1,rfl⟩:=he
  exact ⟨k,(eC h hV e).dJ (TV.zJ h1)⟩
 ·cases he
theorem xg {t:TypeId} {x:Operand} {c:Cell} {y:TV} (he:gr C.E C.nt V t x=some c) (hr:vi V c=some y) :
  (∃t l,y = .sl t l∧∃k,c=(.pt,.fB k)∧a.eval x=τ k∧∃p,ft R w p (a.eval x) y)∨Rep R w y (a.eval x):=by
 obtain ⟨h1,_,_⟩:=gz h hV he
 obtain ⟨z,g⟩:=c
 cases g with
 | no =>
  simp only [vi,aL] at hr
  subst hr
  exact .inr (xo (jF.rep h1))
 | fB k =>
  cases z <;> try (simp only [vi] at hr;cases hr)
  have h1:a.eval x=τ k:=h1.1
  simp only [vi] at hr
  have hk:=h.core.key k
  have PW:∀{p y},ft R w p (τ k) y→∃t l,y = .sl t l∧∃q,(.pt,Gh.fB k)=(TV.pt,Gh.fB q)∧a.eval x=τ q∧∃p,ft R w p (a.eval x) y:=fun {p y} hs=>by
   obtain ⟨t,l,e,_⟩:=id hs;exact ⟨t,l,e,k,rfl,h1,_,by rw [h1];exact hs⟩
  split at hr <;> first | (cases hr;done) | (rename_i e;cases hr;have e:=hV.of e)
  ·left;rw [e] at hk;exact PW hk
  ·left;rw [e] at hk;exact PW hk
  ·right;rw [e] at hk;rw [h1];exact hk
  ·left;exact PW (h.core.waits e)
  ·left;rw [e] at hk;exact PW hk
 | _=>simp only [vi] at hr;cases hr
end
end Go.Eng
namespace Go.Eng
open Go.RowKit
theorem oc.BL {r:oc} {e:gX} (h:r.KJ=some e) (hp:∀p,e.p=some p→p=true):∃x,r.holds [x]∧e.x=(x,.no)∧e.ws=[]:=by
 unfold oc.KJ at h
 split at h <;> cases h
 ·exact ⟨_,rfl,rfl,rfl⟩
 ·exact ⟨_,⟨hp _ rfl,rfl⟩,rfl,rfl⟩
theorem qF {S:St} {e:gX} {x:Cell} {d:Nat} {o:Oper} (hd:o.dst=some d) (h1:e.x=x) (h2:e.ws=[]):iY S o.dst e=cR S d x:=by rw [hd];unfold iY;rw [h1,h2];rfl
theorem HK {P:Program} {w:World} {op:BinOp} {t:TypeId} {x y z:Value} (h:ll op x y=some z):(binOp op t x y).run P w = .ok z w:=by
 unfold ll at h
 split at h
 all_goals repeat' split at h
 all_goals first
  | (cases h;done)
  | (cases h;simp only [binOp,Op.shift,Sem.run_ite];rw [ao (by assumption)];rfl)
  | (cases h;simp_all [binOp,Op.shift,Op.intArith,Op.intDiv,Op.intBits,Op.intCmp,Op.stringOp,cU];done)
  | exact G3 h
  | skip
theorem Iy {P:Program} {w:World} {op:UnOp} {x z:Value} (h:QU op x=some z):(Op.unary op x).run P w = .ok z w:=by
 unfold QU at h
 split at h <;> cases h <;> first | exact vo | simp [Op.unary,Op.intArith,Op.intBits,cU]
theorem FM {t:Bool} {x y z:TV} (h:FN t x y=some z):z=if t then x else y:=by
 unfold FN at h
 split at h <;> first | (cases h <;> cases t <;> rfl) | skip
 split at h
 ·rename_i e;subst e;cases h;cases t <;> rfl
 ·cases h
theorem TV.Av {R:Reach} {w:World} {x:TV} {v:Value} (h:Rep R w x v) (hq:∀q,x.HA=some q→q=true):Rep R w x.bare v:=by
 cases x with
 | gd q x =>
  have:=hq q rfl
  subst this
  cases h with
  | sc h=>cases h
  | NN h=>exact h
 | _=>exact h
theorem DK {R:Reach} {w:World} {t:Bool} {x y z:TV} {v:Value} (h:(Cq t x y).holds [z]) (hr:Rep R w (if t then x else y) v):Rep R w z v:=by
 unfold Cq at h
 split at h
 ·rename_i u hu
  have hu:=FM hu
  have key:((t=true→∀q,x.HA=some q→q=true)∧(t=false→∀q,y.HA=some q→q=true))∧z=u:=by
   split at h <;> rename_i c1 c2 <;> rw [c1,c2]
   ·cases h;exact ⟨⟨by simp,by simp⟩,rfl⟩
   ·obtain ⟨h,e⟩:=h;cases e;exact ⟨⟨by rintro rfl q e;cases e;simpa using h,by simp⟩,rfl⟩
   ·obtain ⟨h,e⟩:=h;cases e;exact ⟨⟨by simp,by rintro rfl q e;cases e;simpa using h⟩,rfl⟩
   ·obtain ⟨h,e⟩:=h;cases e;exact ⟨⟨by rintro rfl q e;cases e;simpa using h,by rintro rfl q e;cases e;simpa using h⟩,rfl⟩
  obtain ⟨⟨k1,k2⟩,rfl⟩:=key
  rw [hu]
  cases t with
  | true=>exact TV.Av hr (k1 rfl)
  | false=>exact TV.Av hr (k2 rfl)
 ·exact h.elim
theorem zI {P:Program} {f:Field} {k:Nat} (h:CJ P f k=true):f.name ≠ "_" ∧ f.offset=k∧P.underlying f.type=some (.int .u64):=by
 unfold CJ at h
 simp only [af,bne_iff_ne] at h
 obtain ⟨⟨h1,h2⟩,h3⟩:=h
 refine ⟨h1,aw h2,?_⟩
 split at h3
 ·assumption
 ·cases h3
theorem B5 (a b:UInt64):((a.toNat:Int) == (b.toNat:Int))=decide (a=b):=by
 by_cases e:a=b
 ·simp [e]
 ·have:¬(a.toNat:Int)=(b.toNat:Int):=fun h=>e (bm.1 (by omega))
  simp [e,this]
theorem JH {P:Program} {w:World} {t:TypeId} {fs:Array Field} {a b c d:UInt64} {r:Bool} (ht:P.underlying t=some (.struct fs)) (he:NP P t fs (.ag [.u64 a,.u64 b]) (.ag [.u64 c,.u64 d])=some r) :
  (Op.equalIn 10000 t (.agg ⟨[.int .u64 a.toNat,.int .u64 b.toNat]⟩) (.agg ⟨[.int .u64 c.toNat,.int .u64 d.toNat]⟩)).run P w = .ok r w∧P.eqGuardType P.depth t=false:=by
 unfold NP at he
 split at he
 ·rename_i f g a' b' c' d' hf hx hy
  obtain ⟨h1,h2⟩:=bE.1 he
  cases hx;cases hy;cases h2
  simp only [af,Bool.not_eq_true'] at h1
  obtain ⟨⟨⟨h1,h2⟩,h3⟩,h4⟩:=h1
  obtain ⟨n1,o1,u1⟩:=zI h1
  obtain ⟨n2,o2,u2⟩:=zI h2
  have ef:P.fieldsOf t=fs:=by simp [Program.fieldsOf,ht]
  have p1:P.plainKey f.type=true:=by simp [Program.plainKey,u1]
  have p2:P.plainKey g.type=true:=by simp [Program.plainKey,u2]
  refine ⟨?_,h4⟩
  rw [show (10000:Nat)=9999+1 from rfl,run_equalIn_struct w 9999 t _ _ (by rw [ef];exact ht) h3,ef,hf]
  simp only [Op.eqFields,n1,n2,ne_eq,not_false_eq_true,if_true,Sem.run_bind,o1,o2]
  rw [run_part_plain w p1 (v := .int .u64 a.toNat) rfl]
  simp only [Result.andThen_ok]
  rw [run_part_plain w p1 (v := .int .u64 c.toNat) rfl]
  simp only [Result.andThen_ok]
  rw [show (9999:Nat)=9998+1 from rfl,run_equalIn_int w 9998 f.type .u64 .u64 _ _ u1]
  simp only [Result.andThen_ok,B5]
  cases decide (a=c) with
  | false=>simp
  | true =>
   simp only [aG,bp,if_false,Bool.true_and,Sem.run_bind]
   rw [run_part_plain w p2 (v := .int .u64 b.toNat) rfl]
   simp only [Result.andThen_ok]
   rw [run_part_plain w p2 (v := .int .u64 d.toNat) rfl]
   simp only [Result.andThen_ok]
   rw [run_equalIn_int w 9998 g.type .u64 .u64 _ _ u2]
   simp only [Result.andThen_ok,B5]
   cases decide (b=d) <;> simp
 ·cases he
section
variable {C:Ctx} {S V:St} {a:Act} {w:World} {R:Reach} {τ:Nat→Value} {o:Oper} {d:Nat} (h:eI C S a w R τ) (hV:Lt V S) (hd:o.dst=some d) (hl:d<C.nt)
include h hV hd hl
theorem go_move {x:Operand} {t:TypeId} {c:Cell} (ho:o.op = .move x∨o.op = .assign x) (he:gr C.E C.nt V t x=some c):eJ C o a w (cR S d c):=by
 obtain ⟨h1,h2,h3⟩:=gz h hV he
 exact h.val hd hl (v:=a.eval x) (by rcases ho with e | e <;> simp [execOp,e]) h1 h2 h3
theorem go_pick {c x y:Operand} {t:TypeId} {b:Bool} {u v z:TV} (ho:o.op = .pick c x y) (hc:gr C.E C.nt V 0 c=some (.b b,.no)) (hx:gr C.E C.nt V t x=some (u,.no)) (hy:gr C.E C.nt V t y=some (v,.no)) (hz:(Cq b u v).holds [z]):eJ C o a w (cR S d (z,.no)):=by
 have hb:=(eC h hV hc).dJ rfl
 refine h.ic hd hl (v:=if b then a.eval x else a.eval y) (by cases b <;> simp [execOp,ho,hb,asBool]) (DK hz ?_)
 cases b with
 | true=>exact eC h hV hx
 | false=>exact eC h hV hy
theorem go_bin {b:BinOp} {t u:TypeId} {x y:Operand} {p q:TV} {z:TV} (ho:o.op = .binOp b t x y u) (hx:gr C.E C.nt V t x=some (p,.no)) (hy:gr C.E C.nt V u y=some (q,.no)) (hz:(JP b p q).holds [z]):eJ C o a w (cR S d (z,.no)):=by
 obtain ⟨z',e,p',q',v,e1,e2,e3,e4⟩:=JO _ _ _ _ hz
 cases e
 have hp:=(eC h hV hx).dJ e1
 have hq:=(eC h hV hy).dJ e2
 have hg:eqGuard b t x y p' q'=pure ():=by
  unfold ll at e3
  split at e3 <;> first | (cases e3;done) | exact BH e3 | (unfold eqGuard;split <;> simp_all)
 exact h.ic hd hl (v:=v) (by simp only [execOp,ho,hp,hq,hg,Sem.run_bind,Sem.run_pure,Result.andThen_ok,HK e3]) (.sc e4)
theorem go_be {neg:Bool} {b:BinOp} {t u:TypeId} {x y:Operand} {p q:Bool} (ho:o.op = .binOp b t x y u) (hb:b=if neg then .neq else .eql) (ht:C.P.underlying t=some .bool) (hx:gr C.E C.nt V t x=some (.b p,.no)) (hy:gr C.E C.nt V u y=some (.b q,.no)) :
  eJ C o a w (cR S d (.b (if neg then !(p == q) else p == q),.no)):=by
 have hp:=(eC h hV hx).dJ rfl
 have hq:=(eC h hV hy).dJ rfl
 have hg:eqGuard b t x y (.bool p) (.bool q)=pure ():=by unfold eqGuard;cases neg <;> simp [hb]
 have he:(Op.equal t (.bool p) (.bool q)).run C.P w = .ok (p == q) w:=by
  unfold Op.equal Op.maxDepth
  rw [show (10000:Nat)=9999+1 from rfl,Op.equalIn]
  simp [run_underlying ht]
 refine h.ic hd hl (v := .bool (if neg then !(p == q) else p == q)) ?_ (.sc rfl)
 simp only [execOp,ho,hp,hq,hg,Sem.run_bind,Sem.run_pure,Result.andThen_ok]
 cases neg <;> simp [hb,binOp,he]
theorem go_es {b:BinOp} {t u:TypeId} {x y:Operand} {p q:TV} {fs:Array Field} {r:Bool} (neg:Bool) (ho:o.op = .binOp b t x y u) (hb:b=if neg then .neq else .eql) (ht:C.P.underlying t=some (.struct fs)) (hx:gr C.E C.nt V t x=some (p,.no)) (hy:gr C.E C.nt V u y=some (q,.no)) (he:NP C.P t fs p q=some r) :
  eJ C o a w (cR S d (.b (if neg then !r else r),.no)):=by
 have hp:=eC h hV hx
 have hq:=eC h hV hy
 have BC:=he
 unfold NP at BC
 split at BC
 ·rename_i f g a1 b1 c1 d1 hf
  have two:∀{a b:UInt64} {v:Value},Rep R w (.ag [.u64 a,.u64 b]) v→v = .agg ⟨[.int .u64 a.toNat,.int .u64 b.toNat]⟩:=fun hv=>by
   cases hv with
   | sc e=>cases e
   | ag l=>cases l with
    | cons _ h1 l=>cases l with
     | cons _ h2 l=>cases l;rw [h1.dJ rfl,h2.dJ rfl]
  obtain ⟨e1,e2⟩:=JH (w:=w) ht he
  refine h.ic hd hl (v := .bool (if neg then !r else r)) ?_ (.sc rfl)
  simp only [execOp,ho,two hp,two hq,Sem.run_bind,run_eqGuard_agg w b t x y _ _ e2,Result.andThen_ok]
  cases neg with
  | false=>simp only [hb,bp,if_false,run_eql_struct,e1,Result.andThen_ok];rfl
  | true=>simp only [hb,if_true,run_neq_struct,e1,Result.andThen_ok];rfl
 ·cases BC
theorem go_nl {t u e:TypeId} {x y:Operand} {c:Cell} {st st':fx} {l:List st.El} (ho:o.op = .binOp .eql t x y u) (ht:C.P.underlying t=some (.slice e)) (hx:gr C.E C.nt V t x=some c) (hr:vi V c=some (.sl st l)) (hy:gr C.E C.nt V u y=some (.nl st',.no)) :
  eJ C o a w (cR S d (.ub l.isEmpty,.no)):=by
 have hp:=xg h hV hx hr
 have hq:a.eval y = .slice none 0 0:=by
  have:=eC h hV hy
  generalize a.eval y=v at this
  cases this with
  | sc h=>cases h
  | nl=>rfl
 have run:∀{q:Option Addr} {n k:Nat},(binOp .eql t (.slice q n k) (.slice none 0 0)).run C.P w = .ok (.bool q.isNone) w:=fun {q n k}=>by
  have he:(Op.equal t (.slice q n k) (.slice none 0 0)).run C.P w = .ok q.isNone w:=by
   unfold Op.equal Op.maxDepth
   rw [show (10000:Nat)=9999+1 from rfl,Op.equalIn]
   cases q <;> simp [run_underlying ht]
  simp [binOp,he]
 have gd:∀{v:Value},eqGuard .eql t x y v (.slice none 0 0)=pure ():=fun {v}=>by unfold eqGuard;split <;> simp_all
 have fin:∀{q:Option Addr} {n k:Nat},a.eval x = .slice q n k→(q=none→l=[])→eJ C o a w (cR S d (.ub l.isEmpty,.no)):=fun {q n k} e1 e2=>by
  refine h.ic hd hl (v := .bool q.isNone) ?_ (.ub fun e=>by cases q with | none=>rw [e2 rfl];rfl | some _=>cases e)
  simp only [execOp,ho,e1,hq,gd,Sem.run_bind,Sem.run_pure,Result.andThen_ok,run]
 rcases hp with ⟨t',l',e,k,_,_,p,hs⟩ | hp
 ·obtain ⟨t2,l2,e2,hs⟩:=hs
  cases e;cases e2
  rcases hs with ⟨e,hv⟩ | ⟨g,cap,cur,e,fz,hv,_⟩
  ·exact fin hv fun _=>e
  ·exact fin hv fun e=>by cases e
 ·generalize hv:a.eval x=v at hp
  cases hp with
  | sc h=>cases h
  | sn=>exact fin hv fun _=>rfl
  | sl=>exact fin hv fun e=>by cases e
  | em=>exact fin hv fun e=>by cases e
theorem go_un {b:UnOp} {t:TypeId} {x:Operand} {p z:TV} (ho:o.op = .unOp b t x) (hx:gr C.E C.nt V t x=some (p,.no)) (hz:(PV b p).holds [z]):eJ C o a w (cR S d (z,.no)):=by
 obtain ⟨z',e,p',v,e1,e2,e3⟩:=K3 _ _ _ hz
 cases e
 have hp:=(eC h hV hx).dJ e1
 exact h.ic hd hl (v:=v) (by simp only [execOp,ho,hp,Sem.run_bind,Sem.run_pure,Result.andThen_ok,Iy e2]) (.sc e3)
end
end Go.Eng
namespace Go.Eng
open Go.RowKit
def Holds (R:Reach) (w:World) (t:fx) (l:List t.El) (v:Value):Prop :=
 (l=[]∧(v = .slice none 0 0∨∃ad cap,v = .slice (some ad) 0 cap))∨∃b off cap ys,v = .slice (some ⟨b,off,none⟩) l.length cap∧ys.length=l.length * t.size ∧
  (∀j y,ys[j]?=some y→w.cell? ⟨b,off+j,none⟩=some y)∧dq R w ((l.map t.tv).flatMap TV.cells) ys
theorem ni {c k:Nat}:∀{l:List (Nat × Nat)},mc c l=some k→(c,k)∈l
 | (d,j) :: r,h=>by
  simp only [mc] at h
  cases hb:Nat.beq d c with
  | true=>rw [hb] at h;cases h;rw [aw hb];exact List.mem_cons_self ..
  | false=>rw [hb] at h;exact List.mem_cons_of_mem _ (ni h)
theorem th:∀l:bz,(l.map (fx.tv .bs)).flatMap TV.cells=l.map TV.u8
 | []=>rfl
 | x :: l=>by rw [aX,List.flatMap_cons,th l];rfl
theorem lL (t:fx) (l:List t.El):((l.map t.tv).flatMap TV.cells).length=l.length * t.size:=by
 induction l with
 | nil=>simp
 | cons x l ih=>rw [aX,List.flatMap_cons,aj,ih,fx.kN,az,Nat.succ_mul,Nat.add_comm]
theorem Rep.holds {R:Reach} {w:World} {t:fx} {l:List t.El} {v:Value} (h:Rep R w (.sl t l) v):Holds R w t l v:=by
 rcases h.A3 with ⟨h1,h2⟩ | ⟨b,off,cap,h1,h2,h3,h4⟩ | ⟨h1,ad,cap,h2,_⟩
 ·exact .inl ⟨h1,.inl h2⟩
 ·obtain ⟨ys,k1,k2,k3,_⟩:=h4.cells
  exact .inr ⟨b,off,cap,ys,h1,by rw [k1,bc],k2,k3⟩
 ·exact .inl ⟨h1,.inr ⟨ad,cap,h2⟩⟩
theorem ft.cells {R:Reach} {w:World} {p:Bool} {t:fx} {l:List t.El} {v:Value} (h:ft R w p v (.sl t l)):(l=[]∧v = .slice none 0 0)∨∃g cap cur e fz,v = .slice (some ⟨g,0,none⟩) l.length cap∧w.heap[g]?=some (.cells cur e fz)∧(∀o,o<cur.size→¬(fz.1≤o∧o<fz.2)) ∧
  cur.size=cap * t.size∧l.length≤cap∧cap≤maxLen∧dq R w ((l.map t.tv).flatMap TV.cells) (cur.toList.take (l.length * t.size))∧∀o,R g o ↔ (p=true∧o<l.length * t.size):=by
 obtain ⟨t',l',e,h⟩:=h
 cases e
 exact h
theorem ft.holds {R:Reach} {w:World} {p:Bool} {t:fx} {l:List t.El} {v:Value} (h:ft R w p v (.sl t l)):Holds R w t l v:=by
 rcases h.cells with ⟨h1,h2⟩ | ⟨g,cap,cur,e,fz,h1,h2,_,_,_,_,h3,_⟩
 ·exact .inl ⟨h1,.inl h2⟩
 ·refine .inr ⟨g,0,cap,_,h1,by rw [←h3.length,lL],fun j y hy=>?_,h3⟩
  rw [aU] at hy
  split at hy
  ·simp only [World.cell?,h2,Nat.zero_add];simpa using hy
  ·cases hy
section
variable {C:Ctx} {S V:St} {a:Act} {w:World} {R:Reach} {τ:Nat→Value} {o:Oper} {d:Nat} (h:eI C S a w R τ) (hV:Lt V S)
include h hV
theorem ui {t:TypeId} {x:Operand} {st:fx} {l:List st.El} (he:(gr C.E C.nt V t x).bind (vi V)=some (.sl st l)):Holds R w st l (a.eval x):=by
 rw [aN] at he
 obtain ⟨c,h1,h2⟩:=he
 rcases xg h hV h1 h2 with ⟨_,_,_,_,_,_,p,hp⟩ | hr
 ·exact hp.holds
 ·exact hr.holds
theorem FJ {t:TypeId} {x:Operand} {l:bz} (he:(gr C.E C.nt V t x).bind (vi V)=some (.s l)):a.eval x = .string ⟨⟨l⟩⟩:=by
 rw [aN] at he
 obtain ⟨c,h1,h2⟩:=he
 rcases xg h hV h1 h2 with ⟨_,_,e,_⟩ | hr
 ·cases e
 ·exact hr.dJ rfl
theorem rd_val {t:TypeId} {x:Operand} {c:Cell} {y:TV} {v:Value} (h1:gr C.E C.nt V t x=some c) (h2:vi V c=some y) (hy:y.val=some v):a.eval x=v:=by
 rcases xg h hV h1 h2 with ⟨_,_,e,_⟩ | hr
 ·rw [e] at hy;cases hy
 ·exact hr.dJ hy
variable (hd:o.dst=some d) (hl:d<C.nt)
include hd hl
theorem go_len {x:Operand} {t e:TypeId} {st:fx} {l:List st.El} (ho:o.op = .call { callee := .builtin .len,args:=#[x],argTypes:=#[t] }) (ht:C.P.underlying t=some (.slice e)) (hx:(gr C.E C.nt V t x).bind (vi V)=some (.sl st l)) :
  eJ C o a w (cR S d (.i .i64 l.length,.no)):=by
 have:∃q cap,a.eval x = .slice q l.length cap:=by
  rcases ui h hV hx with ⟨rfl,e | ⟨ad,cap,e⟩⟩ | ⟨b,off,cap,ys,e,_⟩ <;> exact ⟨_,_,e⟩
 obtain ⟨q,cap,hq⟩:=this
 exact h.ic hd hl (v := .int .i64 l.length) (by simp [execOp,ho,hq,resolve,invoke,builtin,Builtin.len_,run_underlying ht,goInt]) (.sc rfl)
theorem go_lens {x:Operand} {t:TypeId} {l:bz} (ho:o.op = .call { callee := .builtin .len,args:=#[x],argTypes:=#[t] }) (ht:C.P.underlying t=some .string) (hx:(gr C.E C.nt V t x).bind (vi V)=some (.s l)) :
  eJ C o a w (cR S d (.i .i64 l.length,.no)):=by
 have hq:=FJ h hV hx
 have hs:ByteArray.size ⟨⟨l⟩⟩=l.length:=rfl
 exact h.ic hd hl (v := .int .i64 l.length) (by simp [execOp,ho,hq,resolve,invoke,builtin,Builtin.len_,run_underlying ht,goInt,hs]) (.sc rfl)
theorem go_minmax {x y:Operand} {k:IntKind} {u v:Int} {mx:Bool} {ts:Array TypeId} (ho:o.op = .call { callee := .builtin (if mx then .max else .min),args:=#[x,y],argTypes:=ts }) (hx:gr C.E C.nt V 0 x=some (.i k u,.no)) (hy:gr C.E C.nt V 0 y=some (.i k v,.no)) :
  eJ C o a w (cR S d (.i k (if mx then nZ u v else Jd u v),.no)):=by
 have e1:=(eC h hV hx).dJ rfl
 have e2:=(eC h hV hy).dJ rfl
 exact h.ic hd hl (v := .int k (if mx then nZ u v else Jd u v)) (by cases mx <;> simp [execOp,ho,e1,e2,resolve,invoke,builtin,Builtin.min_,Builtin.max_,Builtin.min2,Builtin.max2,Jd,nZ]) (.sc rfl)
theorem go_real {x:Operand} {k:FloatKind} {p q:Nat} {im:Bool} {ts:Array TypeId} (ho:o.op = .call { callee := .builtin (if im then .imag else .real),args:=#[x],argTypes:=ts }) (hx:gr C.E C.nt V 0 x=some (.c (.complex k p q),.no)) :
  eJ C o a w (cR S d (.c (.float k (if im then q else p)),.no)):=by
 have e1:=(eC h hV hx).dJ rfl
 have r1:∀(a:Array TypeId) (b:TypeId),Builtin.real_ a b #[.complex k p q]=pure (.float k p):=fun _ _=>rfl
 have r2:∀(a:Array TypeId) (b:TypeId),Builtin.imag_ a b #[.complex k p q]=pure (.float k q):=fun _ _=>rfl
 exact h.ic hd hl (v := .float k (if im then q else p)) (by cases im <;> simp [execOp,ho,e1,resolve,invoke,builtin,r1,r2]) (.sc rfl)
theorem go_cx {x y:Operand} {p q:Nat} {ts:Array TypeId} (ho:o.op = .call { callee := .builtin .complex,args:=#[x,y],argTypes:=ts }) (hx:gr C.E C.nt V 0 x=some (.c (.float .f64 p),.no)) (hy:gr C.E C.nt V 0 y=some (.c (.float .f64 q),.no)) :
  eJ C o a w (cR S d (.c (.complex .f64 p q),.no)):=by
 have e1:=(eC h hV hx).dJ rfl
 have e2:=(eC h hV hy).dJ rfl
 have r1:∀(a:Array TypeId) (b:TypeId),Builtin.complex_ a b #[.float .f64 p,.float .f64 q]=pure (.complex .f64 p q):=fun _ _=>rfl
 exact h.ic hd hl (v := .complex .f64 p q) (by simp [execOp,ho,e1,e2,resolve,invoke,builtin,r1]) (.sc rfl)
section
variable {x:Operand} {s t:TypeId} {c:Cell} (ho:o.op = .convert s t x) (hx:gr C.E C.nt V s x=some c)
include ho hx
theorem go_ci {y:TV} {k k':IntKind} {n:Int} {du:TypeDesc} (hy:vi V c=some y) (hn:y.int?=some (k',n)) (hs:C.P.underlying s=some du) (ht:C.P.underlying t=some (.int k)):eJ C o a w (cR S d (CL k n,.no)):=by
 have e1:=rd_val h hV hx hy (TV.zJ hn)
 exact h.ic hd hl (v := .int k (k.wrap n)) (by simp only [execOp,ho,e1,convert,Sem.run_bind,run_underlying hs,run_underlying ht,Result.andThen_ok,Conv.intToInt,Sem.run_pure]) (.sc (D7 k n))
theorem go_cf {k:IntKind} {n:Int} (hy:vi V c=some (.i k n)) (hs:(C.P.underlying s).isSome=true) (ht:C.P.underlying t=some (.float .f64)):eJ C o a w (cR S d (.c (.float .f64 (Fl.ofInt n)),.no)):=by
 have e1:=rd_val h hV hx hy rfl
 exact h.ic hd hl (v := .float .f64 (Fl.ofInt n)) (by simp only [execOp,ho,e1,Sem.run_bind,run_convert_int_float w s t k .f64 n hs ht,Result.andThen_ok,Sem.run_pure];rfl) (.sc rfl)
theorem go_fc {b:Nat} (hy:vi V c=some (.c (.float .f64 b))) (hb:Fl.nv b=true) (hs:(C.P.underlying s).isSome=true) (ht:C.P.underlying t=some (.int .i64)):eJ C o a w (cR S d (.i .i64 (Fl.toInt b),.no)):=by
 have e1:=rd_val h hV hx hy rfl
 have hn:floatToIntVal .f64 b .i64=some (Fl.toInt b):=by
  unfold Fl.nv at hb
  obtain ⟨x,hx⟩:=Option.isSome_iff_exists.1 hb
  unfold Fl.toInt;rw [hx];rfl
 exact h.ic hd hl (v := .int .i64 (Fl.toInt b)) (by simp only [execOp,ho,e1,Sem.run_bind,run_convert_float_int w s t .f64 .i64 b _ hs ht hn,Result.andThen_ok,Sem.run_pure]) (.sc rfl)
theorem go_cs {l:bz} (hy:vi V c=some (.s l)) (hs:C.P.underlying s=some .string) (ht:C.P.underlying t=some .string):eJ C o a w (cR S d (.s l,.no)):=by
 have e1:=rd_val h hV hx hy rfl
 exact h.ic hd hl (v := .string ⟨⟨l⟩⟩) (by simp [execOp,ho,e1,convert,run_underlying hs,run_underlying ht]) (.sc rfl)
theorem go_bs {l:bz} {e:TypeId} (hy:vi V c=some (.sl .bs l)) (hs:C.P.underlying s=some (.slice e)) (he:C.P.underlying e=some (.int .u8)) (ht:C.P.underlying t=some .string):eJ C o a w (cR S d (.s l,.no)):=by
 have hH:=ui h hV (t:=s) (x:=x) (st := .bs) (l:=l) (by rw [hx];exact hy)
 refine h.ic hd hl (v := .string ⟨⟨l⟩⟩) ?_ (.sc rfl)
 rcases hH with ⟨rfl,hv | ⟨ad,cap,hv⟩⟩ | ⟨b,off,cap,ys,hv,h1,h2,h3⟩
 ·simp only [execOp,ho,hv,Sem.run_bind,run_convert_bytes_nil w s e hs he 0 0 t ht,Result.andThen_ok,Sem.run_pure]
  rfl
 ·have hc:=run_convert_bytes_back (P:=C.P) w s t e ad cap [] hs he ht (fun j hj=>by simp at hj)
  simp only [aB] at hc
  simp only [execOp,ho,hv,Sem.run_bind,hc,Result.andThen_ok,Sem.run_pure]
 ·have hc:=run_convert_bytes_back (P:=C.P) w s t e ⟨b,off,none⟩ cap l hs he ht (fun j hj=>by
   rw [addr_add]
   obtain ⟨y,Eb,_,Ea⟩:=h3.get j (.u8 l[j]) (by rw [th];simp [hj])
   rw [h2 j y Eb,Ea.dJ rfl])
  simp only [execOp,ho,hv,Sem.run_bind,hc,Result.andThen_ok,Sem.run_pure]
end
theorem go_si {x i:Operand} {t:TypeId} {l:bz} {n:Int} (ho:o.op = .index t x i) (hx:gr C.E C.nt V t x=some (.s l,.no)) (hi:pS C.E C.nt V i=some n) (hn:bD n l.length=true) (ht:C.P.underlying t=some .string):eJ C o a w (cR S d (.u8 (l.getD n.toNat 0),.no)):=by
 have e1:=(eC h hV hx).dJ rfl
 obtain ⟨k,e2⟩:=mE h hV hi
 simp only [bD,af,aA] at hn
 have gk:n.toNat<l.length:=by omega
 have hb:(⟨⟨l⟩⟩:ByteArray)[n.toNat]?=some (l.getD n.toNat 0):=by
  rw [getElem?_pos (⟨⟨l⟩⟩:ByteArray) n.toNat gk,ai,ar gk];rfl
 exact h.ic hd hl (v := .int .u8 (l.getD n.toNat 0).toNat) (by simp [execOp,ho,e1,e2,Instr.index,asIntOf,run_underlying ht,hn.1,hb]) (.sc rfl)
theorem go_fe {x:Operand} {t:TypeId} {f n:Nat} {agg:Bool} {fl:Field} {cs:List TV} {y:TV} (ho:o.op = .field t x f) (hx:gr C.E C.nt V t x=some (.ag cs,.no)) (hf:rJ C.P t f=some fl) (hs:jl C.P fl.type=some (n,agg)) (hp:mA cs fl.offset n agg=some y) (h1:agg=true∨n=1) :
  eJ C o a w (cR S d (y,.no)):=by
 obtain ⟨ys,hy,hL⟩:=(eC h hV hx).H2
 obtain ⟨fs,ht,hf⟩:=sz hf
 obtain ⟨inf,hi,rfl,ha⟩:=gn hs
 obtain ⟨hlen,j7⟩:=oB hL hp h1
 refine h.ic hd hl (v:=if agg then .agg ⟨(ys.drop fl.offset).take inf.size⟩ else ((ys.drop fl.offset).take inf.size).headD undef) ?_ j7
 simp only [execOp,ho,hy,Instr.field,Sem.run_bind,run_underlying ht,Result.andThen_ok,hf,asAgg,Sem.run_pure,part,ha]
 cases agg with
 | true=>simp [run_sizeOf hi,List.extract_eq_take_drop]
 | false =>
  have hn:inf.size=1:=by simpa using h1
  rw [hn] at hlen ⊢
  have gk:fl.offset<ys.length:=by simp at hlen;omega
  rw [Fk gk]
  simp [ar gk]
theorem go_ai {x i:Operand} {t e:TypeId} {m s:Nat} {agg:Bool} {cs:List TV} {n:Int} {y:TV} (ho:o.op = .index t x i) (hx:gr C.E C.nt V t x=some (.ag cs,.no)) (hi:pS C.E C.nt V i=some n) (ht:C.P.underlying t=some (.array m e)) (hs:jl C.P e=some (s,agg)) (h1:agg=true∨s=1) (hn:bD n m=true)
  (hp:mA cs (n.toNat * s) s agg=some y):eJ C o a w (cR S d (y,.no)):=by
 obtain ⟨ys,AK,hL⟩:=(eC h hV hx).H2
 obtain ⟨k,e2⟩:=mE h hV hi
 obtain ⟨inf,vv,rfl,ha⟩:=gn hs
 obtain ⟨hlen,j7⟩:=oB hL hp h1
 simp only [bD,af,aA] at hn
 refine h.ic hd hl (v:=if agg then .agg ⟨(ys.drop (n.toNat * inf.size)).take inf.size⟩ else ((ys.drop (n.toNat * inf.size)).take inf.size).headD undef) ?_ j7
 simp only [execOp,ho,AK,e2,Instr.index,asIntOf,Sem.run_bind,run_underlying ht,Result.andThen_ok,Sem.run_pure,hn.1,hn.2,and_self,if_true,run_sizeOf vv,part,ha]
 cases agg with
 | true=>simp [run_sizeOf vv,List.extract_eq_take_drop]
 | false =>
  have hn:inf.size=1:=by simpa using h1
  rw [hn,Nat.mul_one] at hlen ⊢
  have gk:n.toNat<ys.length:=by simp at hlen;omega
  rw [Fk gk]
  simp [ar gk]
theorem go_ex {x:Operand} {i:Nat} {vs:List TV} {y:TV} {l:List (Nat × Nat)} (ho:o.op = .extract x i) (hx:gr C.E C.nt V 0 x=some (.tu vs,.no)∨gr C.E C.nt V 0 x=some (.tu vs,.J6 l)) (hy:vs[i]?=some y):eJ C o a w (cR S d (y,.no)):=by
 have:∃ys,a.eval x = .tuple ⟨ys⟩∧iv R w vs ys:=by
  rcases hx with hx | hx
  ·exact (eC h hV hx).K6
  ·obtain ⟨ys,EM,e1,e2,e3,_⟩:=((gz h hV hx).1.at (by simp):jF R w τ (.tu vs) (.J6 l) (a.eval x))
   cases e2;exact ⟨ys,e1,e3⟩
 obtain ⟨ys,hv,hT⟩:=this
 obtain ⟨v,Eb,Ea⟩:=hT.get i y hy
 exact h.ic hd hl (v:=v) (by simp [execOp,ho,hv,Instr.extract,Eb]) Ea
end
end Go.Eng
namespace Go.Eng
open Go.RowKit
theorem oW {P:Program} {E:cr} (hE:jq P E) {x:TypeId} {st:fx} (h:sF E x st=true):∃e i,P.underlying x=some (.slice e)∧P.info? e=some i∧i.size=st.size:=by
 unfold sF at h
 split at h
 ·rename_i e1
  obtain ⟨e,i,_,h1,h2,h3,_⟩:=hE.ty _ _ _ e1
  exact ⟨e,i,h1,h2,h3.trans (aw h)⟩
 ·cases h
theorem fx.size_pos (t:fx):0<t.size:=by cases t <;> simp [fx.size]
section
variable {C:Ctx} {S V:St} {a:Act} {w:World} {R:Reach} {τ:Nat→Value} {o:Oper} {d:Nat} (h:eI C S a w R τ) (hV:Lt V S)
include h hV
theorem eI.fr {t:TypeId} {x:Operand} {c:Cell} {y:TV} {ws:List (Nat × Cell)} (hx:gr C.E C.nt V t x=some c) (he:zZ V c=some (y,ws)):∃R',eI C (fo S ws) a w R' τ∧Rep R' w y (a.eval x)∧dT R w R' w:=by
 obtain ⟨h1,_,h3⟩:=gz h hV hx
 obtain ⟨R',k1,k2,k3,_⟩:=xI h.core hV.q h1 (fun m hm=>(h3 m hm).1) he
 exact ⟨R',h.fz k1 k2,k3,k2.1⟩
theorem uJ {x:Option Operand} {n:Option Int} (he:mF C.E C.nt V x=some n):(x=none∧n=none)∨∃y m k,x=some y∧n=some m∧a.eval y = .int k m:=by
 unfold mF at he
 split at he
 ·cases he;exact .inl ⟨rfl,rfl⟩
 ·simp only [aM] at he
  obtain ⟨m,h1,rfl⟩:=he
  obtain ⟨k,h2⟩:=mE h hV h1
  exact .inr ⟨_,m,k,rfl,rfl,h2⟩
theorem Kj {lo:Option Operand} {p:Option Int} {n:Nat} (h1:mF C.E C.nt V lo=some p) (h0:0≤p.getD n):(lo=none∧(p.getD n).toNat=n)∨∃y k,lo=some y∧a.eval y = .int k (((p.getD n).toNat:Nat):Int):=by
 rcases uJ h hV h1 with ⟨rfl,rfl⟩ | ⟨y,m,k,rfl,rfl,hy⟩
 ·exact .inl ⟨rfl,by simp⟩
 ·exact .inr ⟨y,k,rfl,by simp only [Option.getD_some] at h0 ⊢;rw [hy];congr 1;omega⟩
theorem bounds {lo hi:Option Operand} {p q:Option Int} (h1:mF C.E C.nt V lo=some p) (h2:mF C.E C.nt V hi=some q) {n:Nat} (hc:gY (p.getD 0) (q.getD n) n=true) (b:Bool) {cap:Nat} (uP:n≤cap) (hb:b=false→cap=n) :
  (Instr.sliceBounds b n cap (lo.map a.eval) (hi.map a.eval) none).run C.P w = .ok ((p.getD 0).toNat,(q.getD n).toNat,cap) w∧(p.getD 0).toNat≤(q.getD n).toNat∧(q.getD n).toNat≤n:=by
 simp only [gY,af,aA] at hc
 have e1:=Kj h hV (n:=0) h1 hc.1.1
 have e2:=Kj h hV (n:=n) h2 (by omega)
 generalize hu:(q.getD n).toNat=u at *
 generalize hl:(p.getD 0:Int).toNat=l at *
 have k1:l≤u:=by omega
 have k2:u≤n:=by omega
 refine ⟨?_,k1,k2⟩
 have k3:u≤cap:=by omega
 unfold Instr.sliceBounds
 rcases e1 with ⟨rfl,rfl⟩ | ⟨y,k,rfl,hy⟩ <;> rcases e2 with ⟨rfl,rfl⟩ | ⟨y',k',rfl,AK⟩ <;> simp [Instr.sliceBound,asIntOf, *]
variable (hd:o.dst=some d) (hl:d<C.nt)
include hd hl
theorem go_ss {x:Operand} {t:TypeId} {lo hi:Option Operand} {p q:Option Int} {l:bz} (ho:o.op = .slice t x lo hi none) (ht:C.P.underlying t=some .string) (hx:gr C.E C.nt V t x=some (.s l,.no)) (h1:mF C.E C.nt V lo=some p) (h2:mF C.E C.nt V hi=some q)
  (hc:gY (p.getD 0) (q.getD l.length) l.length=true):eJ C o a w (cR S d (.s ((l.take (q.getD l.length).toNat).drop (p.getD 0).toNat),.no)):=by
 have e1:=(eC h hV hx).dJ rfl
 obtain ⟨hb,k1,k2⟩:=bounds h hV h1 h2 hc false (Nat.le_refl _) (fun _=>rfl)
 have hs:ByteArray.size ⟨⟨l⟩⟩=l.length:=rfl
 have he:(⟨⟨l⟩⟩:ByteArray).extract (p.getD 0).toNat (q.getD l.length).toNat=⟨⟨(l.take (q.getD l.length).toNat).drop (p.getD 0).toNat⟩⟩:=by
  have:∀{s:ByteArray} {m:List UInt8},s.data.toList=m→s=⟨⟨m⟩⟩:=fun h=>by subst h;rfl
  exact this (by rw [Lib.extract_data,List.drop_take])
 refine h.ic hd hl (v := .string ((⟨⟨l⟩⟩:ByteArray).extract (p.getD 0).toNat (q.getD l.length).toNat)) ?_ (.sc (by rw [he];rfl))
 simp only [execOp,ho,e1,Instr.sliceAt,Instr.slice,Sem.run_bind,run_underlying ht,Result.andThen_ok,Option.map_none,hs,hb,Sem.run_pure]
 simp [hb]
theorem go_sc {x:Operand} {t:TypeId} {lo hi:Option Operand} {p q:Option Int} {c:Cell} {st:fx} {l:List st.El} {ws:List (Nat × Cell)} (hE:jq C.P C.E) (ho:o.op = .slice t x lo hi none) (ht:sF C.E t st=true) (hx:gr C.E C.nt V t x=some c) (hf:zZ V c=some (.sl st l,ws))
  (h1:mF C.E C.nt V lo=some p) (h2:mF C.E C.nt V hi=some q) (hc:gY (p.getD 0) (q.getD l.length) l.length=true):eJ C o a w (cR (fo S ws) d (.sl st ((l.take (q.getD l.length).toNat).drop (p.getD 0).toNat),.no)):=by
 obtain ⟨R',h',e1,_⟩:=h.fr hV hx hf
 obtain ⟨e,inf,ht,qM,hz⟩:=oW hE ht
 have hb:=fun cap uP=>bounds h hV h1 h2 hc true (cap:=cap) uP (fun e=>by cases e)
 obtain ⟨_,k1,k2⟩:=hb l.length (Nat.le_refl _)
 generalize hu:(q.getD l.length).toNat=u at *
 generalize Td:(p.getD 0).toNat=lw at *
 rcases e1.A3 with ⟨rfl,hv⟩ | ⟨b,off,cap,hv,uP,Jv,Si⟩ | ⟨rfl,ad,cap,hv,Jv⟩
 ·obtain ⟨rfl,rfl⟩:lw=0∧u=0:=by simp at k2;omega
  have pE:=(hb 0 (by simp)).1
  refine h'.ic hd hl (v := .slice none 0 0) ?_ (by simp only [List.take_nil,List.drop_nil];exact .sn st)
  simp only [aB] at pE
  simp only [execOp,ho,hv,Instr.sliceAt,Instr.slice,Sem.run_bind,run_underlying ht,Result.andThen_ok,Option.map_none,pE,run_sizeOf qM,Sem.run_pure]
  simp
 ·refine h'.ic hd hl (v := .slice (some ⟨b,if cap=lw then off else off+lw * st.size,none⟩) (u - lw) (cap - lw)) ?_ ?_
  ·simp only [execOp,ho,hv,Instr.sliceAt,Instr.slice,Sem.run_bind,run_underlying ht,Result.andThen_ok,Option.map_none,(hb cap uP).1,run_sizeOf qM,Sem.run_pure,hz]
   split <;> simp [*,addr_add]
  ·have hlen:((l.take u).drop lw).length=u - lw:=by simp;omega
   rw [←hlen]
   refine .sl rfl (by rw [hlen];omega) (by omega) ?_
   by_cases Mr:cap=lw
   ·have:(l.take u).drop lw=[]:=bf (by rw [hlen];omega)
    rw [this];exact .nil _ _ _
   ·rw [ao Mr,List.map_drop,List.map_take]
    exact (Si.take u).drop lw
 ·obtain ⟨rfl,rfl⟩:lw=0∧u=0:=by simp at k2;omega
  have pE:=(hb cap (by simp)).1
  refine h'.ic hd hl (v := .slice (some ad) 0 cap) ?_ (by simp only [List.take_nil,List.drop_nil];exact .em st Jv)
  simp only [aB] at pE
  simp only [execOp,ho,hv,Instr.sliceAt,Instr.slice,Sem.run_bind,run_underlying ht,Result.andThen_ok,Option.map_none,pE,run_sizeOf qM,Sem.run_pure]
  simp [Addr.add]
theorem go_ix {x i:Operand} {t:TypeId} {st:fx} {l:List st.El} {n:Int} (hE:jq C.P C.E) (ho:o.op = .indexAddr t x i) (ht:sF C.E t st=true) (hx:Rep R w (.sl st l) (a.eval x)) (hi:pS C.E C.nt V i=some n) (hn:bD n l.length=true) :
  eJ C o a w (cR S d (.ro (st.tv (l.getD n.toNat st.gm)),.no)):=by
 obtain ⟨e,inf,ht,qM,hz⟩:=oW hE ht
 obtain ⟨k,e2⟩:=mE h hV hi
 simp only [bD,af,aA] at hn
 have gk:n.toNat<l.length:=by omega
 rcases hx.A3 with ⟨rfl,hv⟩ | ⟨b,off,cap,hv,uP,Jv,Si⟩ | ⟨rfl,ad,cap,hv,Jv⟩
 ·simp at gk
 ·refine h.ic hd hl (v := .pointer (some ⟨b,off+n.toNat * st.size,none⟩)) ?_ (.ro (Si.get n.toNat _ ?_))
  ·simp [execOp,ho,hv,e2,Instr.indexAt,asIntOf,run_underlying ht,run_sizeOf qM,hz,hn.1,addr_add]
   omega
  ·simp [ai,ar gk]
 ·simp at gk
theorem go_pix {x i:Operand} {t:TypeId} {st:fx} {l:List st.El} {n:Int} {k:Nat} (hE:jq C.P C.E) (ho:o.op = .indexAddr t x i) (ht:sF C.E t st=true) (hx:gr C.E C.nt V t x=some (.pt,.fB k)) (hk:S k=(.sl st l,.pv)) (hi:pS C.E C.nt V i=some n) (hn:bD n l.length=true) :
  eJ C o a w (cR S d (.el n.toNat st.size 0,.pe k)):=by
 obtain ⟨e,inf,ht,qM,hz⟩:=oW hE ht
 obtain ⟨kk,e2⟩:=mE h hV hi
 obtain ⟨q1,_,q3⟩:=gz h hV hx
 have hv:a.eval x=τ k:=q1.1
 simp only [bD,af,aA] at hn
 have gk:n.toNat<l.length:=by omega
 have hs:=h.core.key k
 rw [hk] at hs
 rcases ft.cells hs with ⟨rfl,_⟩ | ⟨g,cap,cur,ce,fz,e1,_⟩
 ·simp at gk
 ·rw [e1] at hv
  refine h.val hd hl (v := .pointer (some ⟨g,n.toNat * st.size,none⟩)) (g := .pe k) ?_ ⟨g,_,_,_,by rw [e1];rfl,rfl,rfl⟩ rfl q3
  simp [execOp,ho,hv,e2,Instr.indexAt,asIntOf,run_underlying ht,run_sizeOf qM,hz,hn.1,addr_add]
  omega
theorem go_la {x i:Operand} {t e:TypeId} {m k:Nat} {n:Int} {inf:TypeInfo} {cs:List TV} {ts:List (Nat × Nat)} (ho:o.op = .indexAddr t x i) (ht:C.P.underlying t=some (.array m e)) (vv:C.P.info? e=some inf) (hx:gr C.E C.nt V t x=some (.pt,.ptr k 0)) (hk:S k=(.ag cs,.cl ts)) (hi:pS C.E C.nt V i=some n) (hn:bD n m=true) :
  eJ C o a w (cR S d (.el n.toNat inf.size 0,.pe k)):=by
 obtain ⟨kk,e2⟩:=mE h hV hi
 obtain ⟨q1,_,q3⟩:=gz h hV hx
 obtain ⟨b,p1,hv⟩:∃b,τ k = .pointer (some ⟨b,0,none⟩)∧a.eval x = .pointer (some ⟨b,0,none⟩):=q1
 simp only [bD,af,aA] at hn
 refine h.val hd hl (v := .pointer (some ⟨b,n.toNat * inf.size,none⟩)) (g := .pe k) ?_ ⟨b,_,_,_,by rw [p1];rfl,rfl,rfl⟩ rfl q3
 simp [execOp,ho,hv,e2,Instr.indexAt,Instr.sureAddr,asIntOf,run_underlying ht,run_sizeOf vv,hn.1,hn.2,addr_add]
section
variable {x:Operand} {t:TypeId} {f n:Nat} {agg:Bool} {fl:Field} (ho:o.op = .fieldAddr t x f) (hf:rJ C.P t f=some fl) (hs:jl C.P fl.type=some (n,agg)) (hn:0<n)
include ho hf hs hn
omit h hV hd hl in
theorem Bb {b off:Nat} (hv:a.eval x = .pointer (some ⟨b,off,none⟩)):(execOp a.eval o).run C.P w = .ok (.value (.pointer (some ⟨b,off+fl.offset,none⟩))) w:=by
 obtain ⟨fs,ht,hf⟩:=sz hf
 obtain ⟨inf,hi,rfl,ha⟩:=gn hs
 have nN:inf.size≠0:=by omega
 simp [execOp,ho,hv,Instr.fieldAt,Instr.sureAddr,run_underlying ht,hf,fieldPlace,run_sizeOf hi,nN,addr_add]
theorem go_fa {m q:Nat} (hx:gr C.E C.nt V 0 x=some (.pt,.ptr m q)):eJ C o a w (cR S d (.pt,.ptr m (q+fl.offset))):=by
 obtain ⟨q1,_,q3⟩:=gz h hV hx
 obtain ⟨b,p1,hv⟩:∃b,τ m = .pointer (some ⟨b,0,none⟩)∧a.eval x = .pointer (some ⟨b,q,none⟩):=q1
 exact h.val hd hl (Bb ho hf hs hn hv) (g := .ptr m (q+fl.offset)) ⟨b,p1,rfl⟩ rfl q3
theorem go_pfa {i s q k:Nat} (hx:gr C.E C.nt V 0 x=some (.el i s q,.pe k)):eJ C o a w (cR S d (.el i s (q+fl.offset),.pe k)):=by
 obtain ⟨q1,_,q3⟩:=gz h hV hx
 obtain ⟨b,i',s',q',p1,p2,hv⟩:∃b i' s' q',Value.gR (τ k)=some b∧TV.el i s q = .el i' s' q'∧a.eval x = .pointer (some ⟨b,i' * s'+q',none⟩):=q1
 cases p2
 exact h.val hd hl (Bb ho hf hs hn hv) (g := .pe k) ⟨b,_,_,_,p1,rfl,by rw [Nat.add_assoc]⟩ rfl q3
theorem go_fr {cs:List TV} {y:TV} (hx:gr C.E C.nt V 0 x=some (.ro (.ag cs),.no)) (hp:mA cs fl.offset n agg=some y):eJ C o a w (cR S d (.ro y,.no)):=by
 obtain ⟨b,off,s',hv,hA⟩:=(eC h hV hx).Bd
 refine h.ic hd hl (Bb ho hf hs hn hv) ?_
 cases hA with
 | one n _ _ _ _=>simp [TV.sG] at n
 | ag _ hC =>
  unfold mA at hp
  cases agg with
  | true =>
   simp only at hp
   cases hb:Nat.ble (fl.offset+n) cs.length with
   | true =>
    rw [hb] at hp
    cases hp
    exact .ro (.ag rfl ((hC.drop fl.offset).take n))
   | false=>rw [hb] at hp;cases hp
  | false =>
   simp at hp
   have gk:=(aH.1 hp).1
   have hD:=hC.drop fl.offset
   rw [List.drop_eq_getElem_cons gk] at hD
   have hs:cs[fl.offset]=y:=(aH.1 hp).2
   rw [hs] at hD
   cases hD with
   | cons r c a EO _ =>
    refine .ro (.one ?_ r c a EO)
    cases y with
    | ag _=>cases EO with
     | sc h=>cases h
     | ag=>simp [Value.oneCell'] at a
    | _=>rfl
end
theorem go_nc {x:Operand} {m q:Nat} (ho:o.op = .nilCheck x) (hx:gr C.E C.nt V 0 x=some (.pt,.ptr m q)):eJ C o a w (cR S d (.pt,.ptr m q)):=by
 obtain ⟨q1,q2,q3⟩:=gz h hV hx
 obtain ⟨b,p1,hv⟩:∃b,τ m = .pointer (some ⟨b,0,none⟩)∧a.eval x = .pointer (some ⟨b,q,none⟩):=q1
 exact h.val hd hl (v := .pointer (some ⟨b,q,none⟩)) (by simp [execOp,ho,hv]) (g := .ptr m q) ⟨b,p1,rfl⟩ rfl q3
theorem go_ncr {x:Operand} {y:TV} (ho:o.op = .nilCheck x) (hx:gr C.E C.nt V 0 x=some (.ro y,.no)):eJ C o a w (cR S d (.ro y,.no)):=by
 obtain ⟨b,off,s',hv,hA⟩:=(eC h hV hx).Bd
 exact h.ic hd hl (v := .pointer (some ⟨b,off,none⟩)) (by simp [execOp,ho,hv]) (.ro hA)
theorem go_ext {x:Operand} {i k:Nat} {vs:List TV} {l:List (Nat × Nat)} (ho:o.op = .extract x i) (hx:gr C.E C.nt V 0 x=some (.tu vs,.J6 l)) (hk:mc i l=some k) (xA:(τ k).oneCell'=true):eJ C o a w (cR S d (.pt,.fB k)):=by
 obtain ⟨q1,_,q3⟩:=gz h hV hx
 obtain ⟨ys,EM,e1,e2,e3,e4⟩:∃ys EM,a.eval x = .tuple ⟨ys⟩∧TV.tu vs = .tu EM∧iv R w EM ys∧∀p∈l,ys[p.1]?=some (τ p.2):=q1
 have hm:=ni hk
 refine h.val hd hl (v:=τ k) (by simp [execOp,ho,e1,Instr.extract,e4 _ hm]) (g := .fB k) ⟨rfl,xA⟩ rfl fun j hj=>?_
 simp only [Gh.df,List.mem_singleton] at hj
 subst hj
 exact q3 _ (List.mem_map_of_mem (f:=(·.2)) hm)
end
end Go.Eng
namespace Go.Eng
open Go.RowKit
theorem iA {nt k:Nat} {V S:St} (hV:Lq V S) (h:rr nt V k=true):(S k).2 = .no∧k<1000000∧nt≤k:=by
 simp only [rr,af,aA] at h
 obtain ⟨⟨h1,h2⟩,h3⟩:=h
 refine ⟨?_,Nat.le_of_ble_eq_true h2,Nat.le_of_ble_eq_true h3⟩
 rcases hV k with e | e | ⟨e,_⟩
 ·rw [←e];exact h1
 ·rw [h1] at e;cases e
 ·rw [h1] at e;cases e
theorem lI {R:Reach} {w:World} {x:TV} {v:Value} (h:Rep R w x v) (hp:x.plain=true):dq R w x.cells v.cells.toList:=by
 cases h with
 | sc hv =>
  have key:∀{x:TV} {v:Value},x.val=some v→v.oneCell'=true→x.sG=false→x.plain=true→dq R w x.cells v.cells.toList:=fun {x v} h1 h2 h3 h4=>by
   have e1:x.cells=[x]:=by cases x <;> first | rfl | (simp [TV.sG] at h3)
   have e2:v.cells.toList=[v]:=by cases v <;> first | rfl | (simp [Value.oneCell'] at h2)
   rw [e1,e2];exact .cons h2 (.sc h1) .nil
  refine key hv ?_ (by cases x <;> first | rfl | cases hv) hp
  cases x <;> first | (cases hv;done) | (cases hv;rfl) | skip
  cases hv
  cases v <;> first | rfl | (cases hp)
 | ag h=>exact h
 | nl t=>exact .cons rfl (.nl t) .nil
 | ub _=>simp [TV.plain] at hp
 | sn t=>exact .cons rfl (.sn t) .nil
 | sl a b c d=>exact .cons rfl (.sl a b c d) .nil
 | em s h=>exact .cons rfl (.em s h) .nil
 | ro h=>exact .cons rfl (.ro h) .nil
 | tu=>simp [TV.plain] at hp
 | pt=>simp [TV.plain] at hp
 | dead=>simp [TV.plain] at hp
 | NN=>simp [TV.plain] at hp
 | Pj=>simp [TV.plain] at hp
theorem qh {P:Program} {t:TypeId} {i:TypeInfo} {v:Value} (hi:P.info? t=some i) (hz:i.zero=some v) (w:World):(zeroValue t).run P w = .ok v w:=by simp [zeroValue,typeInfo,hi,hz]
theorem sx {α:Type} {zs:List α} (hz:0<zs.length):∀(l j:Nat) (y:α),(List.replicate l zs).flatten[j]?=some y→zs[j % zs.length]?=some y
 | 0,j,y,h=>by simp at h
 | l+1,j,y,h=>by
  simp only [List.replicate_succ,List.flatten_cons] at h
  by_cases hj:j<zs.length
  ·rw [List.getElem?_append_left hj] at h;rwa [Nat.mod_eq_of_lt hj]
  ·rw [aR (by omega)] at h
   have:=sx hz l _ y h
   rwa [Nat.mod_eq_sub_mod (by omega)]
theorem oy {R:Reach} {w:World} {xs:List TV} {ys:List Value} (h:dq R w xs ys):∀n,dq R w (List.replicate n xs).flatten (List.replicate n ys).flatten
 | 0 => .nil
 | n+1=>by simp only [List.replicate_succ,List.flatten_cons];exact h.append (oy h n)
section
variable {C:Ctx} {S V:St} {a:Act} {w w':World} {R:Reach} {τ:Nat→Value} {o:Oper} {d:Nat}
theorem eI.new (h:eI C S a w R τ) {cur:Array Value} {e:TypeId} {fz:Nat × Nat} {k:Nat} {v:Value} {x:TV} {g:Gh} (hk:(S k).2 = .no∧k<1000000∧C.nt≤k) (os:w'.os=w.os) (tape:w'.tape=w.tape) (out:w'.output=w.output) (hh:w'.heap=w.heap.push (.cells cur e fz))
  (new:ji R w' τ x g v) (hb:Value.gR v=none∨Value.gR v=some w.heap.size) (hg:g = .pv∨g = .lv∨g = .cl []):eI C (cR S k (x,g)) a w' R (vB τ k v):=by
 have sY:w'.heap.size=w.heap.size+1:=by rw [hh];simp
 have hold:∀b,b<w.heap.size→w'.heap[b]?=w.heap[b]?:=fun b hb=>by rw [hh,Array.getElem?_push,ao (by omega)]
 have dM:dT R w R w':=fun b o hr=>⟨hr,World.cell?_of_block (w:=w) (hold b (h.core.re b o hr))⟩
 have hm:g.df=[]:=by rcases hg with rfl | rfl | rfl <;> rfl
 refine ⟨h.size,h.defers,h.core.ie hk.2.2 dM (fun j b _ hb=>⟨hold b (h.core.lt hb),fun _=>id⟩) new (.inr hk.1) ⟨by rw [hk.1];rfl,by rcases hg with rfl | rfl | rfl <;> rfl⟩ (by rcases hg with rfl | rfl | rfl <;> simp)
  (fun _ => .inr hk.1) (fun b _ lr=>?_) (by rw [hm];simp) (fun b o hr=>by have:=h.core.re b o hr;omega),fun t ht=>?_,⟨h.io.1,fun j hj=>?_⟩,
  h.ext.trans (io':=C.io) ⟨os,tape,out,by omega,fun b hb _=>hold b hb,dM,fun b o hr => .inl hr⟩ fun b hb => .inl hb,h.gl.dM dM⟩
 ·rcases hb with hb | hb <;> rw [hb] at lr <;> cases lr
  exact ⟨.inr h.ext.size,.inl (Nat.le_refl _)⟩
 ·rw [iw _ _ (by omega)];exact h.tmps t ht
 ·rw [iw _ _ (by omega)];exact h.io.2 j hj
theorem eI.wx (h:eI C S a w' R τ) (hd:o.dst=some d) (hl:d<C.nt) {v:Value} {x:TV} {g:Gh} (hr:(execOp a.eval o).run C.P w = .ok (.value v) w') (hs:dS R w' τ x g v) (hg:g.slot=true) (hm:∀k∈g.df,C.nt≤k∧(S k).2 ≠ .no):eJ C o a w (cR S d (x,g)):=fun K Q hK=>by
 unfold Oper.wp
 rw [hr,Oper.upon_value,hd]
 refine hK _ _ ⟨R,_,by simp [Act.put,h.size],h.defers,h.core.put hl hs hg hm,fun t ht=>?_,⟨h.io.1,fun k hk=>?_⟩,h.ext,h.gl⟩
 ·by_cases e:t=d
  ·subst e;rw [gp];simp [Act.put,Array.getD,h.size,ht]
  ·rw [iw _ _ e,←h.tmps t ht]
   simp only [Act.put,Array.getD_eq_getD_getElem?]
   rw [Array.getElem?_setIfInBounds_ne (Ne.symm e)]
 ·have:=h.io.1
  rw [iw _ _ (by omega)];exact h.io.2 k hk
theorem eI.My (h:eI C S a w R τ) (hd:o.dst=some d) (hl:d<C.nt) {cur:Array Value} {e:TypeId} {fz:Nat × Nat} {k cap:Nat} {st:fx} {l:List st.El} {ys:List Value} (hk:(S k).2 = .no∧k<1000000∧C.nt≤k) (os:w'.os=w.os) (tape:w'.tape=w.tape) (out:w'.output=w.output) (hh:w'.heap=w.heap.push (.cells cur e fz))
  (hf:∀o,o<cur.size→¬(fz.1≤o∧o<fz.2)) (sY:cur.size=cap * st.size) (h1:l.length≤cap) (h2:cap≤maxLen) (hL:dq R w ((l.map st.tv).flatMap TV.cells) ys) (Mq:∀(j:Nat) (y:Value),ys[j]?=some y→cur[j]?=some y)
  (hr:(execOp a.eval o).run C.P w = .ok (.value (.slice (some ⟨w.heap.size,0,none⟩) l.length cap)) w'):eJ C o a w (cR (cR S k (.sl st l,.pv)) d (.pt,.fB k)):=by
 have Mc:w'.heap[w.heap.size]?=some (.cells cur e fz):=by rw [hh];simp
 have hold:∀b,b<w.heap.size→w'.heap[b]?=w.heap[b]?:=fun b hb=>by rw [hh,Array.getElem?_push,ao (by omega)]
 have dM:dT R w R w':=fun b o hr=>⟨hr,World.cell?_of_block (w:=w) (hold b (h.core.re b o hr))⟩
 have hlen:=hL.length
 rw [lL] at hlen
 have LY:cur.toList.take (l.length * st.size)=ys:=by
  apply List.ext_getElem?
  intro j
  rw [aU]
  split
  ·have e:=ar (l:=ys) (i:=j) (by omega)
   have:=Mq j _ e
   rw [e]
   simpa using this
  ·exact (List.getElem?_eq_none (by omega)).symm
 have hn:=h.new (x := .sl st l) (g := .pv) (v := .slice (some ⟨w.heap.size,0,none⟩) l.length cap) hk os tape out hh ⟨st,l,rfl,.inr ⟨_,cap,cur,e,fz,rfl,Mc,hf,sY,h1,h2,by rw [LY];exact hL.mono dM,fun o=>⟨fun hr=>by have:=h.core.re _ _ hr;omega,fun hr=>by simp at hr⟩⟩⟩ (.inr rfl) (.inl rfl)
 refine hn.wx hd hl hr (g := .fB k) ⟨(gp _ _ _).symm,rfl⟩ rfl fun j hj=>?_
 simp only [Gh.df,List.mem_singleton] at hj
 subst hj
 exact ⟨hk.2.2,by rw [cj];simp⟩
theorem eI.goVar (h:eI C S a w R τ) (hd:o.dst=some d) (hl:d<C.nt) {ys:List Value} {e:TypeId} {k:Nat} {xs:List TV} (hk:(S k).2 = .no∧k<1000000∧C.nt≤k) (os:w'.os=w.os) (tape:w'.tape=w.tape) (out:w'.output=w.output) (hh:w'.heap=w.heap.push (.cells ⟨ys⟩ e (0,0))) (hL:dq R w xs ys)
  (hr:(execOp a.eval o).run C.P w = .ok (.value (.pointer (some ⟨w.heap.size,0,none⟩))) w'):eJ C o a w (cR (cR S k (.ag xs,.cl [])) d (.pt,.ptr k 0)):=by
 have Mc:w'.heap[w.heap.size]?=some (.cells ⟨ys⟩ e (0,0)):=by rw [hh];simp
 have hold:∀b,b<w.heap.size→w'.heap[b]?=w.heap[b]?:=fun b hb=>by rw [hh,Array.getElem?_push,ao (by omega)]
 have dM:dT R w R w':=fun b o hr=>⟨hr,World.cell?_of_block (w:=w) (hold b (h.core.re b o hr))⟩
 have hn:=h.new (x := .ag xs) (g := .cl []) (v := .pointer (some ⟨w.heap.size,0,none⟩)) hk os tape out hh ⟨_,ys,e,xs,rfl,Mc,rfl,hL.mono dM,by simp,fun o hr=>by have:=h.core.re _ _ hr;omega⟩ (.inr rfl) (.inr (.inr rfl))
 refine hn.wx hd hl hr (g := .ptr k 0) ⟨_,gp _ _ _,rfl⟩ rfl fun j hj=>?_
 simp only [Gh.df,List.mem_singleton] at hj
 subst hj
 exact ⟨hk.2.2,by rw [cj];simp⟩
variable (h:eI C S a w R τ) (hd:o.dst=some d) (hl:d<C.nt)
include h hd hl
theorem go_al {t:TypeId} {k:Nat} {z:List TV} (hE:jq C.P C.E) (ho:o.op = .alloc t) (hz:C.E.z t=some z) (hk:(S k).2 = .no∧k<1000000∧C.nt≤k):eJ C o a w (cR (cR S k (.ag z,.cl [])) d (.pt,.ptr k 0)):=by
 obtain ⟨_,v,h1,h2⟩:=hE.z _ _ hz
 rw [aN] at h1
 obtain ⟨i,hi,P9⟩:=h1
 exact h.goVar hd hl (w':={ w with heap:=w.heap.push (.cells ⟨v.cells.toList⟩ t) }) hk rfl rfl rfl rfl (oS h2) (by simp [execOp,ho,Instr.alloc,qh hi P9,newVar,newRow])
theorem go_bx {t:TypeId} {k:Nat} {x:Operand} {y:TV} (hV:Lt V S) (ho:o.op = .box t x) (hx:gr C.E C.nt V t x=some (y,.no)) (hp:y.plain=true) (hk:(S k).2 = .no∧k<1000000∧C.nt≤k):eJ C o a w (cR (cR S k (.ag y.cells,.cl [])) d (.pt,.ptr k 0)) :=
 h.goVar hd hl (w':={ w with heap:=w.heap.push (.cells ⟨(a.eval x).cells.toList⟩ t) }) hk rfl rfl rfl rfl (lI (eC h hV hx) hp) (by simp [execOp,ho,Instr.box,newVar,newRow])
theorem go_sb {x:Operand} {s t e:TypeId} {c:Cell} {l:bz} {k:Nat} (hV:Lt V S) (ho:o.op = .convert s t x) (hx:gr C.E C.nt V s x=some c) (hy:vi V c=some (.s l)) (hs:C.P.underlying s=some .string) (ht:C.P.underlying t=some (.slice e)) (he:C.P.underlying e=some (.int .u8)) (hm:so l.length=true)
  (hk:(S k).2 = .no∧k<1000000∧C.nt≤k):eJ C o a w (cR (cR S k (.sl .bs l,.pv)) d (.pt,.fB k)):=by
 have e1:=rd_val h hV hx hy rfl
 have hlen:ByteArray.size ⟨⟨l⟩⟩=l.length:=rfl
 have hm:l.length≤maxLen:=by simpa [so] using hm
 have kp:=run_bytes_of_string (P:=C.P) w s t e ⟨⟨l⟩⟩ hs ht he
 rw [hlen] at kp
 have GJ:=grownCap_ge w l.length 0 e
 have hle:=grownCap_le_maxLen w l.length 0 e hm
 have sY:(bytesRow ⟨⟨l⟩⟩ (grownCap w l.length 0 e)).size=grownCap w l.length 0 e:=by simp only [bytesRow,Array.size_append,Array.size_map,Array.size_replicate,List.size_toArray];omega
 refine h.My hd hl (st := .bs) (l:=l) (ys:=l.map fun x => .int .u8 x.toNat) (cur:=bytesRow ⟨⟨l⟩⟩ (grownCap w l.length 0 e)) (e:=e) (fz:=((bytesRow ⟨⟨l⟩⟩ (grownCap w l.length 0 e)).size,(bytesRow ⟨⟨l⟩⟩ (grownCap w l.length 0 e)).size+1)) hk ?_ ?_ ?_ ?_ ?_ ?_ GJ hle ?_ ?_ (w':=w.drew.alloc (.cells (bytesRow ⟨⟨l⟩⟩ (grownCap w l.length 0 e)) e ((bytesRow ⟨⟨l⟩⟩ (grownCap w l.length 0 e)).size,(bytesRow ⟨⟨l⟩⟩ (grownCap w l.length 0 e)).size+1)))
  (by simp only [execOp,ho,e1,Sem.run_bind,kp,Result.andThen_ok,Sem.run_pure])
 ·rfl
 ·rfl
 ·rfl
 ·rfl
 ·simp only;intro o ho;omega
 ·simpa [fx.size] using sY
 ·rw [th]
  have:∀m:bz,dq R w (m.map TV.u8) (m.map fun x => .int .u8 x.toNat):=fun m=>by
   induction m with
   | nil=>exact .nil
   | cons b m ih=>exact .cons rfl (.sc rfl) ih
  exact this l
 ·intro j y hj
  have gk:=(aH.1 hj).1
  unfold bytesRow
  rw [Array.getElem?_append_left (by simp at gk ⊢;exact gk)]
  simpa using hj
theorem go_mk {t:TypeId} {x y:Operand} {k pf:Nat} {m n:Int} {st:fx} (hE:jq C.P C.E) (hV:Lt V S) (ho:o.op = .makeSlice t x y) (ht:C.E.ty t=some (st,pf)) (hx:pS C.E C.nt V x=some m) (hy:pS C.E C.nt V y=some n) (hm:pO m n pf=true) (hk:(S k).2 = .no∧k<1000000∧C.nt≤k) :
  eJ C o a w (cR (cR S k (.sl st (List.replicate m.toNat st.gm),.pv)) d (.pt,.fB k)):=by
 obtain ⟨e,i,zv,h1,h2,h3,h4,h5,h6,h7⟩:=hE.ty _ _ _ ht
 obtain ⟨k1,e1⟩:=mE h hV hx
 obtain ⟨k2,e2⟩:=mE h hV hy
 simp only [pO,af,aA] at hm
 obtain ⟨⟨⟨m0,mn⟩,mb⟩,mm⟩:=hm
 have VL:=run_make (P:=C.P) w t e i zv h1 h2 h5 k1 k2 m n m0 mn (by rw [Int.mul_comm,h4];omega) (by simp only [maxLen] at mm;omega)
 have pT:=st.size_pos
 have VV:((List.replicate m.toNat st.gm).map st.tv).flatMap TV.cells=(List.replicate m.toNat (st.tv st.gm).cells).flatten:=by rw [List.map_replicate,List.flatMap_def,List.map_replicate]
 refine h.My hd hl (st:=st) (l:=List.replicate m.toNat st.gm) (cap:=n.toNat) (cur:=madeCells zv.cells (n.toNat * i.size)) (e:=e) (fz:=(0,0)) (ys:=(List.replicate m.toNat zv.cells.toList).flatten) (w':=w.alloc (.cells (madeCells zv.cells (n.toNat * i.size)) e)) hk rfl rfl rfl rfl (fun o _=>by simp) (by rw [size_madeCells,h3]) (by rw [List.length_replicate];omega) (by omega)
  (by rw [VV];exact oy (h7 R w) _) (fun j y hj=>?_) ?_
 ·have q1:=sx (by simp;omega) _ _ _ hj
  have gk:=(aH.1 hj).1
  have OX:(List.replicate m.toNat zv.cells.toList).flatten.length=m.toNat * st.size:=by simp [h6]
  rw [OX] at gk
  have hle:m.toNat * st.size≤n.toNat * st.size:=av _ (by omega)
  have hm:j<n.toNat * i.size:=by rw [h3];omega
  simp only [madeCells,Array.getElem?_map,Array.getElem?_range,hm,if_true,Option.map_some]
  simp only [Array.length_toList,Array.getElem?_toList] at q1
  rw [getElem!_def,q1]
 ·simp only [execOp,ho,e1,e2,Sem.run_bind,VL,Result.andThen_ok,Sem.run_pure,List.length_replicate]
end
end Go.Eng
namespace Go.Eng
open Go.RowKit
theorem jG {P:Program} (g o:Nat) (t:TypeId) (fz:Nat × Nat):∀(vs:List Value) (i:Nat) (cur:Array Value) (w:World),w.heap[g]?=some (.cells cur t fz)→o+i+vs.length≤cur.size →
  (∀j,j<cur.size→¬(fz.1≤j∧j<fz.2))→(∀v∈vs,v.oneCell'=true) →
  (storeCells ⟨g,o,none⟩ vs i).run P w = .ok () (w.setRow g (cur.toList.take (o+i)++vs++cur.toList.drop (o+i+vs.length)).toArray)
 | [],i,cur,w,hg,_,_,_=>by
  simp only [storeCells,bj,aB,Nat.add_zero,List.take_append_drop,Array.toArray_toList]
  rw [setRow_self w g cur t fz hg]
  rfl
 | v :: rest,i,cur,w,hg,hl,hf,h1=>by
  have hi:o+i<cur.size:=by simp at hl;omega
  have R8:(⟨g,o,none⟩:Addr).add i=⟨g,o+i,none⟩:=addr_add g o i
  have zQ:w.cell? ⟨g,o+i,none⟩=some cur[o+i]:=by simp [World.cell?,hg,hi]
  have RW:w.frozen? ⟨g,o+i,none⟩=false:=by
   obtain ⟨f1,f2⟩:=fz
   have:=hf (o+i) hi
   simp only [World.frozen?,hg]
   simp only [Bool.and_eq_false_iff,decide_eq_false_iff_not]
   simp only at this
   omega
  have Ec:(store ((⟨g,o,none⟩:Addr).add i) v).run P w = .ok () (w.setRow g (cur.setIfInBounds (o+i) v)):=by
   rw [R8,run_store P w _ v _ (h1 v (by simp)),zQ]
   simp [RW,setCell_eq_setRow w g (o+i) cur t fz v hg]
  have ih:=jG (P:=P) g o t fz rest (i+1) (cur.setIfInBounds (o+i) v) (w.setRow g (cur.setIfInBounds (o+i) v)) (setRow_heap w g cur _ t _ hg) (by simp at hl ⊢;omega) (by simpa using hf) (fun x hx=>h1 x (by simp [hx]))
  simp only [storeCells,Sem.run_bind,Ec,Result.andThen_ok,ih,setRow_setRow]
  congr 3
  have e:=list_seg_step cur.toList (o+i) v rest (by simp at hl ⊢;omega)
  simpa [Array.toList_setIfInBounds,Nat.add_assoc] using e
section
variable {P:Program} {w:World}
def Source (P:Program) (w:World) (s:Nat) (x:Value) (m:Nat) (news:List Value):Prop :=
 (∀w',(Builtin.lenOf x).run P w' = .ok m w')∧(∀w':World,w'.heap=w.heap→(Builtin.firstCells s m x).run P w' = .ok ⟨news⟩ w')∧news.length=m * s∧∀v∈news,v.oneCell'=true
theorem q9 {t u ty e:TypeId} {i:TypeInfo} {du:TypeDesc} (ht:P.underlying t=some (.slice e)) (hi:P.info? e=some i) (hu:P.underlying u=some du) (xC:∀k,du ≠ .int k)
  {g n cap m:Nat} {cur:Array Value} {ce:TypeId} {fz:Nat × Nat} {x:Value} {news:List Value} (hg:w.heap[g]?=some (.cells cur ce fz)) (hf:∀j,j<cur.size→¬(fz.1≤j∧j<fz.2))
  (hx:Source P w i.size x m news) (wq:n+m≤cap) (lD:cur.size=cap * i.size) :
  (Builtin.append_ #[t,u] ty #[.slice (some ⟨g,0,none⟩) n cap,x]).run P w =
   .ok (.slice (some ⟨g,0,none⟩) (n+m) cap) (w.setRow g (cur.toList.take (n * i.size)++news++cur.toList.drop (n * i.size+news.length)).toArray):=by
 obtain ⟨h1,h2,h3,h4⟩:=hx
 have hle:n * i.size+news.length≤cur.size:=by rw [h3,lD,←Nat.add_mul];exact av _ wq
 have Ec:=jG (P:=P) g (n * i.size) ce fz news 0 cur w hg (by simpa using hle) hf h4
 simp only [Nat.add_zero] at Ec
 have hz:(match du with | .int _=>true | _=>false)=false:=by cases du <;> first | rfl | exact (xC _ rfl).elim
 simp only [Builtin.append_,List.getElem?_toArray,List.getElem?_cons_zero,List.getElem?_cons_succ,Sem.run_bind,run_underlying ht,run_underlying hu,Result.andThen_ok,run_sizeOf hi,Sem.run_pure,hz,bp,if_false,h1,wq,if_true,aI,h2 w rfl]
 simp [addr_add,Ec]
theorem ra {t u ty e:TypeId} {i:TypeInfo} {z:Value} {du:TypeDesc} (ht:P.underlying t=some (.slice e)) (hi:P.info? e=some i) (hz:i.zero=some z) (hu:P.underlying u=some du) (xC:∀k,du ≠ .int k)
  {q:Option Addr} {n cap m:Nat} {x:Value} {ur news:List Value} (ho:∀w':World,w'.heap=w.heap→(Builtin.firstCells i.size n (.slice q n cap)).run P w' = .ok ⟨ur⟩ w')
  (hx:Source P w i.size x m news) (hg:cap<n+m) (Qs:n+m≤maxLen) (hb:(n+m) * i.bytes≤140737488355328) :
  (Builtin.append_ #[t,u] ty #[.slice q n cap,x]).run P w =
   .ok (.slice (some ⟨w.heap.size,0,none⟩) (n+m) (grownCap w (n+m) cap e))
    (w.drew.alloc (.cells ((⟨ur⟩:Array Value)++⟨news⟩++Builtin.zeroCells z.cells (grownCap w (n+m) cap e - (n+m))) e)):=by
 obtain ⟨h1,h2,h3,h4⟩:=hx
 have hn:¬(n+m≤cap):=by omega
 have Sk:¬(9223372036854775807<((n:Int)+(m:Int))):=by simp only [maxLen] at Qs;omega
 have Sl:¬(281474976710656<Builtin.nextslicecap (n+m) cap * i.bytes):=by
  have:=growslice_fits hg hb;omega
 have RZ:(match du with | .int _=>true | _=>false)=false:=by cases du <;> first | rfl | exact (xC _ rfl).elim
 simp [Builtin.append_,run_underlying ht,run_underlying hu,RZ,sizeOf,typeInfo,zeroValue,hi,hz,h1,hn,Sk,Sl,Question.forced,ho w.drew rfl,h2 w.drew rfl,newRow,grownCap]
 congr 2
 apply Array.ext'
 simp [aE]
end
section
variable {w:World}
theorem Source.of_string {P:Program} (b:ByteArray):Source P w 1 (.string b) b.data.toList.length (b.data.toList.map fun b => .int .u8 b.toNat):=by
 refine ⟨fun _=>?_,fun w' _=>?_,by simp,by simp;exact fun _ _=>rfl⟩
 ·rw [bsize];rfl
 ·have:b.extract 0 b.size=b:=by simp
  simp only [Builtin.firstCells,bsize,this,Sem.run_pure]
  congr 1
  apply Array.ext'
  simp
theorem Source.of {P:Program} {R:Reach} {t:fx} {l:List t.El} {x:Value} (h:Holds R w t l x):∃news,Source P w t.size x l.length news∧dq R w ((l.map t.tv).flatMap TV.cells) news:=by
 rcases h with ⟨rfl,rfl | ⟨ad,cap,rfl⟩⟩ | ⟨b,off,cap,ys,rfl,h1,h2,h3⟩
 ·exact ⟨[],⟨fun _=>rfl,fun _ _=>rfl,by simp,by simp⟩,.nil⟩
 ·exact ⟨[],⟨fun _=>rfl,fun w' _=>run_firstCells_some (P:=P) w' t.size 0 ad 0 cap [] (by simp) (fun j v hj=>by simp at hj),by simp,by simp⟩,.nil⟩
 ·refine ⟨ys,⟨fun _=>rfl,fun w' hw=>?_,h1,h3.one⟩,h3⟩
  exact run_firstCells_some (P:=P) w' t.size l.length ⟨b,off,none⟩ l.length cap ys h1 (fun j v hj=>by rw [addr_add];rw [World.cell?_of_block (w:=w) (by rw [hw])];exact h2 j v hj)
theorem Source.Lz {P:Program} {R:Reach} (l:bz):Source P w 1 (.string ⟨⟨l⟩⟩) l.length (l.map fun b => .int .u8 b.toNat)∧dq R w ((l.map (fx.tv .bs)).flatMap TV.cells) (l.map fun b => .int .u8 b.toNat):=by
 refine ⟨Source.of_string (P:=P) (w:=w) ⟨⟨l⟩⟩,?_⟩
 rw [th]
 induction l with
 | nil=>exact .nil
 | cons b m ih=>exact .cons rfl (.sc rfl) ih
end
theorem z7 {s:Nat}:∀{es:List TV} {i:Nat} {e:TV},(∀x∈es,x.cells.length=s)→es[i]?=some e→((es.flatMap TV.cells).drop (i * s)).take s=e.cells
 | x :: es,0,e,h,he=>by
  simp at he;subst he
  have:=h x (by simp)
  simp [←this]
 | x :: es,i+1,e,h,he=>by
  have hx:=h x (by simp)
  have ih:=z7 (es:=es) (i:=i) (e:=e) (fun y hy=>h y (by simp [hy])) (by simpa using he)
  simp only [List.flatMap_cons]
  rw [show (i+1) * s=x.cells.length+i * s by rw [hx,Nat.succ_mul];omega,←List.drop_drop,List.drop_left]
  exact ih
 | [],_,_,_,he=>by simp at he
end Go.Eng
namespace Go.Eng
open Go.RowKit
section
variable {C:Ctx} {S V:St} {a:Act} {w w':World} {R:Reach} {τ:Nat→Value} {o:Oper} {d:Nat}
theorem eI.wr (h:eI C S a w R τ) {k b:Nat} {cur cur':Array Value} {e:TypeId} {fz:Nat × Nat} {x:TV} {g:Gh} (hk:C.nt≤k) (hb:gR τ S k=some b) (hP:(S k).2.CK=false) (hh:w.heap[b]?=some (.cells cur e fz)) (hR:∀o,¬R b o)
  (new:ji R (w.setRow b cur') τ x g (τ k)) (hg:g.CK=false∧g ≠ .no) (hm:∀j∈g.df,j≠k∧C.nt≤j∧(S j).2 ≠ .no):eI C (cR S k (x,g)) a (w.setRow b cur') R τ:=by
 have dM:dT R w R (w.setRow b cur'):=fun c o hr=>⟨hr,cell_setRow_other w b _ ⟨c,o,none⟩ (fun e=>hR o (by have:c=b:=e;rw [←this];exact hr))⟩
 have GO:=(fX hb).1
 have hc:=h.core.ie (k:=k) (v:=τ k) (x:=x) (g:=g) (w':=w.setRow b cur') (R':=R) hk dM (fun j c hj hc=>⟨setRow_other w b c cur' (fun e=>hj (h.core.vn hb (e ▸ hc)).symm),fun _=>id⟩)
  new (.inl rfl) ⟨hP,hg.1⟩ hg.2 (fun _ => .inl GO) (fun c Il Ik=>by
   have:gR τ S k=some c:=ib GO (xy hP) Ik
   exact ⟨h.core.dK k c this,.inr this⟩) hm (fun c o hr=>by rw [setRow_size];exact h.core.re c o hr)
 rw [show vB τ k (τ k)=τ by funext j;simp only [vB];split <;> simp_all] at hc
 exact ⟨h.size,h.defers,hc,h.tmps,h.io,h.ext.trans (io':=(·=b)) ⟨rfl,rfl,rfl,by rw [setRow_size];exact Nat.le_refl _,fun c _ hc=>setRow_other w b c cur' hc,dM,fun c o hr => .inl hr⟩ fun c hc=>hc ▸ h.core.dK k b hb,h.gl.dM dM⟩
theorem eI.Mx (h:eI C S a w' R τ) (hd:o.dst=none) (hr:(execOp a.eval o).run C.P w = .ok .skip w'):eJ C o a w S:=fun K Q hK=>by
 unfold Oper.wp
 rw [hr,Oper.upon_skip,hd]
 exact hK _ _ ⟨R,τ,h⟩
variable (h:eI C S a w R τ) (hV:Lt V S)
include h hV
theorem oi {m:Nat} {xs:List TV} {ts:List (Nat × Nat)} (hm:S m=(.ag xs,.cl ts)):∃b cs e,τ m = .pointer (some ⟨b,0,none⟩)∧w.heap[b]?=some (.cells ⟨cs⟩ e (0,0))∧dq R w xs cs∧(∀t∈ts,cs[t.1]?=some (τ t.2))∧(∀o,¬R b o)∧(∀t∈ts,C.nt≤t.2∧(S t.2).2 ≠ .no)∧gR τ S m=some b:=by
 have _:=hV
 have hk:=h.core.key m
 rw [hm] at hk
 obtain ⟨b,cs,e,H9,h1,h2,h3,h4,h5,h6⟩:=hk
 cases h3
 refine ⟨b,cs,e,h1,h2,h4,h5,h6,fun t ht=>?_,ib (by rw [hm];rfl) (by rw [hm];rfl) (by rw [h1];rfl)⟩
 have:=h.core.inv m t.2
 rw [hm] at this
 exact this (List.mem_map_of_mem (f:=(·.2)) ht)
section
variable (hd:o.dst=some d) (hl:d<C.nt)
include hd hl
theorem go_lr {x:Operand} {t:TypeId} {n:Nat} {agg:Bool} {y:TV} (ho:o.op = .load t x) (hs:jl C.P t=some (n,agg)) (h1:agg=true∨n=1) (hx:gr C.E C.nt V 0 x=some (.ro y,.no)) (h2:y.sG=agg) (h3:y.cells.length=n):eJ C o a w (cR S d (y,.no)):=by
 obtain ⟨b,off,s',hv,hA⟩:=(eC h hV hx).Bd
 obtain ⟨inf,hi,rfl,ha⟩:=gn hs
 obtain ⟨ys,OM,hc,hL⟩:=hA.read
 have LY:ys.length=inf.size:=by rw [←hL.length,h3]
 refine h.ic hd hl (v:=if agg then .agg ⟨ys⟩ else ys.headD undef) ?_ (by rw [←h2];exact Ob hL)
 simp only [execOp,ho,hv,Instr.loadAt,Instr.sureAddr,Sem.run_bind,Sem.run_pure,Result.andThen_ok,jc hi ha h1 LY hc]
theorem go_ld {x:Operand} {t:TypeId} {m q n:Nat} {agg:Bool} {cs xS:List TV} {ts:List (Nat × Nat)} {y:TV} {ws:List (Nat × Cell)} (ho:o.op = .load t x) (hs:jl C.P t=some (n,agg)) (h1:agg=true∨n=1) (hx:gr C.E C.nt V 0 x=some (.pt,.ptr m q)) (hm:S m=(.ag cs,.cl ts))
  (hf:nh V q n ts cs=some (xS,ws)) (hp:mA xS q n agg=some y):eJ C o a w (cR (fo S ws) d (y,.no)):=by
 obtain ⟨q1,_,q3⟩:=gz h hV hx
 obtain ⟨b',p1,hv⟩:∃b,τ m = .pointer (some ⟨b,0,none⟩)∧a.eval x = .pointer (some ⟨b,q,none⟩):=q1
 obtain ⟨b,ys,e,k1,k2,k3,k4,k5,k6,_⟩:=oi h hV hm
 rw [k1] at p1;cases p1
 obtain ⟨inf,hi,rfl,ha⟩:=gn hs
 obtain ⟨R',f1,f2,f3,_⟩:=ng h.core hV.q k3 (fun t ht=>⟨(k6 t ht).1,k4 t ht⟩) hf
 have h':=h.fz f1 f2
 obtain ⟨hlen,j7⟩:=oB f3 hp h1
 refine h'.ic hd hl (v:=if agg then .agg ⟨(ys.drop q).take inf.size⟩ else ((ys.drop q).take inf.size).headD undef) ?_ j7
 have hc:∀j y,((ys.drop q).take inf.size)[j]?=some y→w.cell? ⟨b',q+j,none⟩=some y:=fun j y hj=>by
  rw [aU] at hj
  split at hj
  ·rw [List.getElem?_drop] at hj
   simp only [World.cell?,k2];simpa using hj
  ·cases hj
 simp only [execOp,ho,hv,Instr.loadAt,Instr.sureAddr,Sem.run_bind,Sem.run_pure,Result.andThen_ok,jc hi ha h1 hlen hc]
theorem go_ldt {x:Operand} {t:TypeId} {m q k:Nat} {cs:List TV} {ts:List (Nat × Nat)} (ho:o.op = .load t x) (hs:jl C.P t=some (1,false)) (hx:gr C.E C.nt V 0 x=some (.pt,.ptr m q)) (hm:S m=(.ag cs,.cl ts)) (hf:mc q ts=some k):eJ C o a w (cR S d (.pt,.fB k)):=by
 obtain ⟨q1,_,q3⟩:=gz h hV hx
 obtain ⟨b',p1,hv⟩:∃b,τ m = .pointer (some ⟨b,0,none⟩)∧a.eval x = .pointer (some ⟨b,q,none⟩):=q1
 obtain ⟨b,ys,e,k1,k2,k3,k4,k5,k6,_⟩:=oi h hV hm
 rw [k1] at p1;cases p1
 obtain ⟨inf,hi,hn,ha⟩:=gn hs
 have rF:=ni hf
 have hy:=k4 _ rF
 refine h.val hd hl (v:=τ k) ?_ (g := .fB k) ⟨rfl,k3.one _ (aK hy)⟩ rfl fun j hj=>?_
 ·have:=jc (P:=C.P) hi ha (.inr hn) (w:=w) (b:=b') (off:=q) (ys:=[τ k]) (by simp [hn]) (fun j y hj=>by
   cases j with
   | zero=>cases hj;simp only [World.cell?,k2];simpa using hy
   | succ j=>simp at hj)
  simp only [execOp,ho,hv,Instr.loadAt,Instr.sureAddr,Sem.run_bind,Sem.run_pure,Result.andThen_ok,this]
  rfl
 ·simp only [Gh.df,List.mem_singleton] at hj
  subst hj
  exact k6 _ rF
theorem go_ldo {x:Operand} {t:TypeId} {m:Nat} {cs:List TV} {ts:List (Nat × Nat)} (ho:o.op = .load t x) (hs:jl C.P t=some (cs.length,true)) (hx:gr C.E C.nt V 0 x=some (.pt,.ptr m 0)) (hm:S m=(.ag cs,.cl ts)):eJ C o a w (cR S d (.ag cs,.ow ts)):=by
 obtain ⟨q1,_,q3⟩:=gz h hV hx
 obtain ⟨b',p1,hv⟩:∃b,τ m = .pointer (some ⟨b,0,none⟩)∧a.eval x = .pointer (some ⟨b,0,none⟩):=q1
 obtain ⟨b,ys,e,k1,k2,k3,k4,k5,k6,_⟩:=oi h hV hm
 rw [k1] at p1;cases p1
 obtain ⟨inf,hi,hn,ha⟩:=gn hs
 have hle:=k3.length
 refine h.val hd hl (v := .agg ⟨ys⟩) ?_ (g := .ow ts) ⟨_,_,rfl,rfl,k3,k4⟩ rfl fun j hj=>?_
 ·have:=jc (P:=C.P) hi ha (.inl rfl) (w:=w) (b:=b') (off:=0) (ys:=ys) (by omega) (fun j y hj=>by simp only [World.cell?,k2];simpa using hj)
  simp only [execOp,ho,hv,Instr.loadAt,Instr.sureAddr,Sem.run_bind,Sem.run_pure,Result.andThen_ok,this]
  rfl
 ·obtain ⟨t,ht,rfl⟩:=bg.1 hj
  exact k6 t ht
omit hd hl in
theorem KI {x:Operand} {t:TypeId} {i s q k:Nat} {st:fx} {l:List st.El} {p:Bool} (hx:gr C.E C.nt V t x=some (.el i s q,.pe k)) (hk:ft R w p (τ k) (.sl st l)) (hs:s=st.size) (hi:i<l.length) :
  ∃g cap cur e fz,τ k = .slice (some ⟨g,0,none⟩) l.length cap∧a.eval x = .pointer (some ⟨g,i * st.size+q,none⟩)∧w.heap[g]?=some (.cells cur e fz)∧(∀o,o<cur.size→¬(fz.1≤o∧o<fz.2))∧cur.size=cap * st.size∧l.length≤cap∧cap≤maxLen ∧
   dq R w ((l.map st.tv).flatMap TV.cells) (cur.toList.take (l.length * st.size))∧(∀o,R g o ↔ (p=true∧o<l.length * st.size))∧dq R w (st.tv l[i]).cells (((cur.toList.take (l.length * st.size)).drop (i * st.size)).take st.size):=by
 subst hs
 obtain ⟨q1,_,_⟩:=gz h hV hx
 obtain ⟨b,i',s',q',p1,p2,hv⟩:∃b i' s' q',Value.gR (τ k)=some b∧TV.el i st.size q = .el i' s' q'∧a.eval x = .pointer (some ⟨b,i' * s'+q',none⟩):=q1
 cases p2
 rcases hk.cells with ⟨rfl,_⟩ | ⟨g,cap,cur,e,fz,e1,e2,e3,e4,e5,e6,e7,e8⟩
 ·simp at hi
 ·rw [e1] at p1;cases p1
  have:=(e7.drop (i * st.size)).take st.size
  rw [z7 (e:=st.tv l[i]) (fun y hy=>by obtain ⟨z,_,rfl⟩:=bg.1 hy;exact fx.kN st z) (by simp [hi])] at this
  exact ⟨g,cap,cur,e,fz,e1,hv,e2,e3,e4,e5,e6,e7,e8,this⟩
theorem go_pld {x:Operand} {t:TypeId} {i s q k n:Nat} {agg p:Bool} {st:fx} {l:List st.El} {y:TV} (ho:o.op = .load t x) (hs:jl C.P t=some (n,agg)) (h1:agg=true∨n=1) (hx:gr C.E C.nt V 0 x=some (.el i s q,.pe k)) (hk:ft R w p (τ k) (.sl st l)) (h2:s=st.size) (hi:i<l.length)
  (hp:xk (st.tv (l.getD i st.gm)) q n agg=some y):eJ C o a w (cR S d (y,.no)):=by
 obtain ⟨g,cap,cur,e,fz,_,hv,hh,_,sY,hle,_,_,_,Wd⟩:=KI h hV hx hk h2 hi
 obtain ⟨inf,vv,rfl,ha⟩:=gn hs
 rw [ai,ar hi,Option.getD_some] at hp
 have Ma:mA (st.tv l[i]).cells q inf.size agg=some y:=by
  unfold xk at hp
  split at hp
  ·rename_i cs e;rw [e];exact hp
  ·rename_i nN
   cases hb:(Nat.beq q 0&&Nat.beq inf.size 1&&!agg) with
   | false=>rw [hb] at hp;cases hp
   | true =>
    rw [hb] at hp;cases hp
    simp only [af,Bool.not_eq_true'] at hb
    obtain ⟨⟨b1,b2⟩,rfl⟩:=hb
    have b1:=aw b1
    subst b1
    have:(st.tv l[i]).cells=[st.tv l[i]]:=by
     cases hq:st.tv l[i] <;> first | rfl | exact (nN _ hq).elim
    rw [this];rfl
 obtain ⟨hlen,j7⟩:=oB Wd Ma h1
 refine h.ic hd hl (v:=if agg then .agg ⟨(((((cur.toList.take (l.length * st.size)).drop (i * st.size)).take st.size).drop q).take inf.size)⟩ else (((((cur.toList.take (l.length * st.size)).drop (i * st.size)).take st.size).drop q).take inf.size).headD undef) ?_ j7
 have hc:∀j y,(((((cur.toList.take (l.length * st.size)).drop (i * st.size)).take st.size).drop q).take inf.size)[j]?=some y→w.cell? ⟨g,i * st.size+q+j,none⟩=some y:=by
  intro j y hj
  simp only [World.cell?,hh]
  rw [aU] at hj
  split at hj
  ·rw [List.getElem?_drop,aU] at hj
   split at hj
   ·rw [List.getElem?_drop,aU] at hj
    split at hj
    ·rw [show i * st.size+q+j=i * st.size+(q+j) by omega];simpa using hj
    ·cases hj
   ·cases hj
  ·cases hj
 simp only [execOp,ho,hv,Instr.loadAt,Instr.sureAddr,Sem.run_bind,Sem.run_pure,Result.andThen_ok,jc vv ha h1 hlen hc]
end
end
end Go.Eng
namespace Go.Eng
open Go.RowKit
section
variable {R:Reach} {w:World}
theorem wA (l:List Value):∀(off k:Nat) (cells:Array Value),off+k+l.length≤cells.size →
  ((l.zipIdx k).foldl (fun cs p=>cs.setIfInBounds (off+p.2) p.1) cells).toList=cells.toList.take (off+k)++l++cells.toList.drop (off+k+l.length):=by
 induction l with
 | nil=>intro off k cells _;simp
 | cons v l ih =>
  intro off k cells hl
  simp only [List.zipIdx_cons,List.foldl_cons]
  rw [ih off (k+1) (cells.setIfInBounds (off+k) v) (by simp at hl ⊢;omega)]
  have e:=list_seg_step cells.toList (off+k) v l (by simp at hl ⊢;omega)
  simpa [Array.toList_setIfInBounds,Nat.add_assoc] using e
theorem Gb {R:Reach} {w:World} {x:TV} {v:Value} (h:Rep R w x v) (hp:x.On=true) (h1:x = .pt→v.oneCell'=true):dq R w x.cells v.cells.toList:=by
 cases x with
 | pt =>
  have e2:v.cells.toList=[v]:=by have:=h1 rfl;cases v <;> first | rfl | (simp [Value.oneCell'] at this)
  rw [e2];exact .cons (h1 rfl) h .nil
 | _=>exact lI h hp
theorem Aa (place:Nat→Option (Nat × Nat)):∀(parts:List (Nat × Value)) (pl:List (Nat × Nat)) (xs:List TV) (z cs:List TV) (cells:Array Value),dq R w z cells.toList→parts.length=pl.length →
  (∀(j:Nat) (p:Nat × Value) (q:Nat × Nat),parts[j]?=some p→pl[j]?=some q→place p.1=some q)→(∀(j:Nat) (p:Nat × Value) (x:TV),parts[j]?=some p→xs[j]?=some x→Rep R w x p.2∧(x = .pt→p.2.oneCell'=true))→oO z pl xs=some cs →
  ∃dO,Instr.fill place cells parts=some dO∧dq R w cs dO.toList
 | [],pl,xs,z,cs,cells,hz,hl,_,_,hf=>by
  have:pl=[]:=bf hl.symm
  subst this
  cases xs with
  | nil=>simp [oO] at hf;subst hf;exact ⟨cells,rfl,hz⟩
  | cons=>simp [oO] at hf
 | (i,v) :: parts,pl,xs,z,cs,cells,hz,hl,hp,hr,hf=>by
  cases pl with
  | nil=>simp at hl
  | cons q pl =>
   obtain ⟨off,n⟩:=q
   cases xs with
   | nil=>simp [oO] at hf
   | cons x xs =>
    simp only [oO] at hf
    obtain ⟨hc,hf⟩:=bE.1 hf
    ·simp only [af] at hc
     obtain ⟨⟨Il,Ik⟩,To⟩:=hc
     have Ik:=aw Ik
     have To:=Nat.le_of_ble_eq_true To
     have hx:=Gb (hr 0 _ _ rfl rfl).1 Il (hr 0 _ _ rfl rfl).2
     have Qa:=hx.length
     have D9:=hz.length
     simp only [Array.length_toList] at Qa D9
     have yf:=hp 0 _ _ rfl rfl
     simp only at yf
     have hs:v.cells.size=n:=by omega
     have lD:¬(v.cells.size≠n∨off+v.cells.size > cells.size):=by omega
     have jI:=wA v.cells.toList off 0 cells (by simp;omega)
     have Vi:dq R w (gI z off x.cells) (v.cells.zipIdx.foldl (fun cs p=>cs.setIfInBounds (off+p.2) p.1) cells).toList:=by
      have e:(v.cells.zipIdx.foldl (fun cs p=>cs.setIfInBounds (off+p.2) p.1) cells)=(v.cells.toList.zipIdx 0).foldl (fun cs p=>cs.setIfInBounds (off+p.2) p.1) cells:=by
       rw [←Array.foldl_toList];simp
      rw [e,jI]
      have hle:v.cells.toList.length=x.cells.length:=by simp;omega
      simp only [gI,Nat.add_zero,hle]
      exact ((hz.take off).append hx).append (hz.drop _)
     obtain ⟨dO,h1,h2⟩:=Aa place parts pl xs _ cs _ Vi (by simpa using hl) (fun j p q h1 h2=>hp (j+1) p q (by simpa using h1) (by simpa using h2)) (fun j p y h1 h2=>hr (j+1) p y (by simpa using h1) (by simpa using h2)) hf
     refine ⟨dO,?_,h2⟩
     simp only [Instr.fill,yf]
     rw [ao (by simpa using lD)]
     exact h1
end
theorem wC (s:Nat):∀(vs:List Value) (k:Nat) (cells:Array Value),(∀v∈vs,v.cells.size=s)→(k+vs.length) * s=cells.size →
  ∃dO,Instr.fill (fun i=>some (i * s,s)) cells ((vs.zipIdx k).map fun p=>(p.2,p.1))=some dO∧dO.toList=cells.toList.take (k * s)++vs.flatMap fun v=>v.cells.toList
 | [],k,cells,_,hl=>by
  refine ⟨cells,rfl,?_⟩
  simp at hl
  simp [List.take_of_length_le,hl]
 | v :: vs,k,cells,hv,hl=>by
  have h0:=hv v (by simp)
  simp only [az] at hl
  have hm:(k+(vs.length+1)) * s=k * s+s+vs.length * s:=by rw [Nat.add_mul,Nat.succ_mul];omega
  have lD:¬(v.cells.size≠s∨k * s+v.cells.size > cells.size):=by omega
  have jI:=wA v.cells.toList (k * s) 0 cells (by simp;omega)
  have e:(v.cells.zipIdx.foldl (fun cs p=>cs.setIfInBounds (k * s+p.2) p.1) cells)=(v.cells.toList.zipIdx 0).foldl (fun cs p=>cs.setIfInBounds (k * s+p.2) p.1) cells:=by
   rw [←Array.foldl_toList];simp
  have sY:(v.cells.zipIdx.foldl (fun cs p=>cs.setIfInBounds (k * s+p.2) p.1) cells).size=cells.size:=by
   rw [e,←Array.length_toList,jI];simp;omega
  obtain ⟨dO,h1,h2⟩:=wC s vs (k+1) (v.cells.zipIdx.foldl (fun cs p=>cs.setIfInBounds (k * s+p.2) p.1) cells) (fun u hu=>hv u (by simp [hu])) (by rw [sY,←hl];congr 1;omega)
  refine ⟨dO,?_,?_⟩
  ·simp only [List.zipIdx_cons,aX,Instr.fill]
   rw [ao (by simpa using lD)]
   exact h1
  ·rw [h2,e,jI]
   have RS:(k+1) * s=k * s+s:=Nat.succ_mul k s
   have hL:(cells.toList.take (k * s+0)++v.cells.toList).length=(k+1) * s:=by simp;omega
   rw [aE,←aE (cells.toList.take (k * s+0)),List.take_left' hL]
   simp
theorem vL {α:Type}:∀(l:List (Nat × α)) (k:Nat),l.map (·.1)=List.range' k l.length→l=((l.map (·.2)).zipIdx k).map fun p=>(p.2,p.1)
 | [],_,_=>rfl
 | (i,x) :: l,k,h=>by
  simp only [aX,az,List.range'_succ,bt] at h
  simp only [aX,List.zipIdx_cons]
  rw [←vL l (k+1) h.2,h.1]
theorem vI {R:Reach} {w:World} {s:Nat}:∀{xs:List TV} {vs:List Value},iv R w xs vs→(∀x∈xs,x.plain=true∧x.cells.length=s)→dq R w (xs.flatMap TV.cells) (vs.flatMap fun v=>v.cells.toList)∧∀v∈vs,v.cells.size=s
 | _,_,.nil,_=>⟨.nil,by simp⟩
 | _,_,.cons (x:=x) h t,hx=>by
  obtain ⟨h1,h2⟩:=vI t (fun x xz=>hx x (by simp [xz]))
  obtain ⟨p1,p2⟩:=hx x (by simp)
  have hL:=lI h p1
  refine ⟨by simpa using hL.append h1,fun v hv=>?_⟩
  rcases aP.1 hv with rfl | hv
  ·have:=hL.length;simp at this;omega
  ·exact h2 v hv
end Go.Eng
namespace Go.Eng
open Go.RowKit
theorem vT {v:Value} (h:v.oneCell'=true):v.cells.toList=[v]:=by cases v <;> first | rfl | (simp [Value.oneCell'] at h)
theorem yE {α:Type} (l v:List α) {a N:Nat} (h:a+v.length≤N) (hl:N≤l.length):(l.take a++v++l.drop (a+v.length)).take N=(l.take N).take a++v++(l.take N).drop (a+v.length):=by
 have e:(l.take a++v).length=a+v.length:=by simp;omega
 rw [List.take_append,List.take_of_length_le (by omega),e,List.take_take,Nat.min_eq_left (by omega),List.drop_take]
theorem sy {s:Nat}:∀{es:List TV} {i q:Nat} {e e':TV} {ys:List TV},(∀x∈es,x.cells.length=s)→es[i]?=some e→e'.cells=gI e.cells q ys→q+ys.length≤s→(es.set i e').flatMap TV.cells=gI (es.flatMap TV.cells) (i * s+q) ys
 | x :: es,0,q,e,e',ys,h,he,hc,hq=>by
  simp at he;subst he
  have hx:=h x (by simp)
  simp only [List.set_cons_zero,List.flatMap_cons,Nat.zero_mul,Nat.zero_add,hc,gI]
  rw [List.take_append_of_le_length (by omega),List.drop_append_of_le_length (by omega)]
  simp only [aE]
 | x :: es,i+1,q,e,e',ys,h,he,hc,hq=>by
  have hx:=h x (by simp)
  have ih:=sy (es:=es) (i:=i) (q:=q) (e:=e) (e':=e') (ys:=ys) (fun y hy=>h y (by simp [hy])) (by simpa using he) hc hq
  simp only [List.set_cons_succ,List.flatMap_cons,ih,gI]
  rw [show (i+1) * s+q=x.cells.length+(i * s+q) by rw [hx,Nat.succ_mul];omega,List.take_length_add_append,show x.cells.length+(i * s+q)+ys.length=x.cells.length+(i * s+q+ys.length) by omega,List.drop_length_add_append]
  simp only [aE]
 | [],_,_,_,_,_,_,he,_,_=>by simp at he
section
variable {C:Ctx} {S V:St} {a:Act} {w w':World} {R:Reach} {τ:Nat→Value} {o:Oper} {d:Nat} (h:eI C S a w R τ) (hV:Lt V S)
include h hV
theorem go_st' (hd:o.dst=none) {x v:Operand} {t:TypeId} {inf:TypeInfo} {m q:Nat} {cs:List TV} {ts us:List (Nat × Nat)} {qs:List TV} (ho:o.op = .store t x v) (hi:C.P.info? t=some inf) (hx:gr C.E C.nt V 0 x=some (.pt,.ptr m q)) (hm:S m=(.ag cs,.cl ts)) (hL:dq R w qs (a.eval v).cells.toList) (hn:qs.length=inf.size) (lD:q+inf.size≤cs.length)
  (hu:∀u∈us,u.2≠m∧((u∈ts∧(u.1<q∨q+inf.size≤u.1))∨(C.nt≤u.2∧(S u.2).2 ≠ .no∧q≤u.1∧(a.eval v).cells.toList[u.1 - q]?=some (τ u.2)))):eJ C o a w (cR S m (.ag (gI cs q qs),.cl us)):=by
 obtain ⟨q1,_,q3⟩:=gz h hV hx
 obtain ⟨b',p1,hv⟩:∃b,τ m = .pointer (some ⟨b,0,none⟩)∧a.eval x = .pointer (some ⟨b,q,none⟩):=q1
 obtain ⟨b,ys,e,k1,k2,k3,k4,k5,k6,k7⟩:=oi h hV hm
 rw [k1] at p1;cases p1
 have hlen:=hL.length
 have VN:=k3.length
 have KE:(a.eval v).cells.size=inf.size:=by simp at hlen;omega
 have Ec:=run_storeCells_at (P:=C.P) b' q e (a.eval v).cells.toList 0 ⟨ys⟩ w k2 (by simp;omega) hL.one
 simp only [Nat.add_zero] at Ec
 let new:List Value:=ys.take q++(a.eval v).cells.toList++ys.drop (q+(a.eval v).cells.toList.length)
 have kp:(execOp a.eval o).run C.P w = .ok .skip (w.setRow b' ⟨new⟩):=by
  have:¬((a.eval v).cells.size≠inf.size):=by omega
  simp only [execOp,ho,hv,Instr.storeAt,Instr.sureAddr,Sem.run_bind,Sem.run_pure,Result.andThen_ok,storeVar,run_sizeOf hi,Sem.run_ite,this,if_false,Ec]
  rfl
 have dM:dT R w R (w.setRow b' ⟨new⟩):=fun b o hr=>⟨hr,cell_setRow_other w b' _ ⟨b,o,none⟩ (fun e=>k5 o (by have:b=b':=e;rw [←this];exact hr))⟩
 have hle:(a.eval v).cells.toList.length=qs.length:=hlen.symm
 have Sf:dq R (w.setRow b' ⟨new⟩) (gI cs q qs) new:=by
  show dq R (w.setRow b' ⟨new⟩) _ (ys.take q++(a.eval v).cells.toList++ys.drop (q+(a.eval v).cells.toList.length))
  rw [hle]
  exact (((k3.take q).append hL).append (k3.drop (q+qs.length))).mono dM
 refine (h.wr (k:=m) (b:=b') (cur:=⟨ys⟩) (cur':=⟨new⟩) (x := .ag (gI cs q qs)) (g := .cl us) (q3 m (by simp [Gh.df])).1 k7 (by rw [hm];rfl) k2 k5 ⟨b',new,e,_,k1,setRow_heap w b' ⟨ys⟩ ⟨new⟩ e (0,0) k2,rfl,Sf,fun u Rr=>?_,k5⟩ ⟨rfl,by simp⟩ fun j hj=>?_).Mx hd kp
 ·rcases (hu u Rr).2 with ⟨h1,h2⟩ | ⟨_,_,h1,h2⟩
  ·have hc:=k4 u h1
   have gk:=(aH.1 hc).1
   simp only [new]
   rcases h2 with h2 | h2
   ·rw [aE,List.getElem?_append_left (by simp;omega),aU,au h2];exact hc
   ·rw [aR (by simp;omega)]
    simp only [aj,aF,hle,hn,List.getElem?_drop]
    rw [←hc];congr 1;omega
  ·have gk:=(aH.1 h2).1
   simp only [new]
   rw [aE,aR (by simp;omega),aF,Nat.min_eq_left (by omega),List.getElem?_append_left gk]
   exact h2
 ·obtain ⟨u,Rr,rfl⟩:=bg.1 hj
  obtain ⟨h1,h2⟩:=hu u Rr
  refine ⟨h1,?_⟩
  rcases h2 with ⟨h2,_⟩ | ⟨h2,h3,_⟩
  ·exact k6 u h2
  ·exact ⟨h2,h3⟩
omit h hV in
theorem vM {o n:Nat} {ts:List (Nat × Nat)} {u:Nat × Nat} (hu:u∈Cl o n ts):u∈ts∧(u.1<o∨o+n≤u.1):=by
 obtain ⟨h1,h2⟩:=List.mem_filter.1 hu
 simp only [Bool.or_eq_true] at h2
 exact ⟨h1,h2.imp (fun h=>Nat.le_of_ble_eq_true h) (fun h=>Nat.le_of_ble_eq_true h)⟩
theorem go_pst (hd:o.dst=none) {x v:Operand} {t:TypeId} {inf:TypeInfo} {i s q k:Nat} {st:fx} {l:List st.El} {y e':TV} {z:st.El} (ho:o.op = .store t x v) (hi:C.P.info? t=some inf) (hx:gr C.E C.nt V 0 x=some (.el i s q,.pe k)) (hk:S k=(.sl st l,.pv)) (hv:Rep R w y (a.eval v)) (hp:y.plain=true) (hn:y.cells.length=inf.size)
  (hs:s=st.size) (gk:i<l.length) (he:Bh (st.tv (l.getD i st.gm)) q y=some e') (hz:st.el e'=some z):eJ C o a w (cR S k (.sl st (l.set i z),.pv)):=by
 have hK:=h.core.key k
 rw [hk] at hK
 obtain ⟨g,cap,cur,ce,fz,h1,h2,h3,h4,h5,h6,h7,h8,h9,iS⟩:=KI h hV hx hK hs gk
 obtain ⟨_,_,q3⟩:=gz h hV hx
 have hL:=lI hv hp
 have hlen:=hL.length
 have KE:(a.eval v).cells.size=inf.size:=by simp at hlen;omega
 rw [ai,ar gk,Option.getD_some] at he
 have NA:=fx.kN st l[i]
 obtain ⟨lD,jI⟩:q+y.cells.length≤st.size∧e'.cells=gI (st.tv l[i]).cells q y.cells:=by
  unfold Bh at he
  split at he
  ·rename_i cs ec
   cases hb:Nat.ble (q+y.cells.length) cs.length with
   | false=>rw [hb] at he;cases he
   | true =>
    rw [hb] at he;cases he
    rw [ec] at NA ⊢
    have:=Nat.le_of_ble_eq_true hb
    exact ⟨by simp [TV.cells] at NA;omega,rfl⟩
  ·rename_i nN
   cases hb:(Nat.beq q 0&&!y.sG) with
   | false=>rw [hb] at he;cases he
   | true =>
    rw [hb] at he;cases he
    simp only [af,Bool.not_eq_true'] at hb
    have hq:=aw hb.1
    subst hq
    have e1:(st.tv l[i]).cells=[st.tv l[i]]:=by cases hq:st.tv l[i] <;> first | rfl | exact (nN _ hq).elim
    have e2:y.cells=[y]:=by cases y <;> first | rfl | (simp [TV.sG] at hb)
    rw [e1] at NA
    rw [e1,e2]
    simp at NA
    exact ⟨by simp;omega,by simp [gI]⟩
 have hle:(i+1) * st.size≤l.length * st.size:=av _ gk
 rw [Nat.succ_mul] at hle
 have RP:l.length * st.size≤cap * st.size:=av _ h6
 have Ec:=jG (P:=C.P) g (i * st.size+q) ce fz (a.eval v).cells.toList 0 cur w h3 (by rw [h5,←hlen];omega) h4 hL.one
 simp only [Nat.add_zero] at Ec
 let new:Array Value:=(cur.toList.take (i * st.size+q)++(a.eval v).cells.toList++cur.toList.drop (i * st.size+q+(a.eval v).cells.toList.length)).toArray
 have kp:(execOp a.eval o).run C.P w = .ok .skip (w.setRow g new):=by
  have:¬((a.eval v).cells.size≠inf.size):=by omega
  simp only [execOp,ho,h2,Instr.storeAt,Instr.sureAddr,Sem.run_bind,Sem.run_pure,Result.andThen_ok,storeVar,run_sizeOf hi,Sem.run_ite,this,if_false,Ec]
  rfl
 have hR:∀o,¬R g o:=fun o hr=>by have:=(h9 o).1 hr;simp at this
 have dM:dT R w R (w.setRow g new):=fun b o hr=>⟨hr,cell_setRow_other w g _ ⟨b,o,none⟩ (fun e=>hR o (by have:b=g:=e;rw [←this];exact hr))⟩
 have AO:cur.toList.length=cap * st.size:=by simp [h5]
 have sY:new.size=cur.size:=by simp only [new,List.size_toArray,aj,aF,aV,←hlen,AO,←Array.length_toList];omega
 have OY:dq R w (((l.set i z).map st.tv).flatMap TV.cells) (new.toList.take (l.length * st.size)):=by
  have e1:((l.set i z).map st.tv).flatMap TV.cells=gI ((l.map st.tv).flatMap TV.cells) (i * st.size+q) y.cells:=by
   rw [List.map_set,fx.KH hz]
   exact sy (fun x hx=>by obtain ⟨u,_,rfl⟩:=bg.1 hx;exact fx.kN st u) (by simp [gk]) jI lD
  have e2:=yE cur.toList (a.eval v).cells.toList (a:=i * st.size+q) (N:=l.length * st.size) (by rw [←hlen];omega) (by rw [AO];exact RP)
  rw [e1]
  show dq R w _ ((cur.toList.take (i * st.size+q)++(a.eval v).cells.toList++cur.toList.drop (i * st.size+q+(a.eval v).cells.toList.length)).take (l.length * st.size))
  rw [e2,←hlen]
  exact ((h8.take _).append hL).append (h8.drop _)
 refine (h.wr (k:=k) (b:=g) (cur:=cur) (cur':=new) (x := .sl st (l.set i z)) (g := .pv) (q3 k (by simp [Gh.df])).1 (ib (by rw [hk];rfl) (by rw [hk];rfl) (by rw [h1];rfl)) (by rw [hk];rfl) h3 hR ⟨st,l.set i z,rfl,.inr ⟨g,cap,new,ce,fz,by rw [List.length_set];exact h1,setRow_heap w g cur new ce fz h3,fun o ho=>h4 o (by rw [←sY];exact ho),by rw [sY];exact h5,by rw [List.length_set];exact h6,h7,by rw [List.length_set];exact OY.mono dM,fun o=>⟨fun hr=>(hR o hr).elim,fun hr=>by simp at hr⟩⟩⟩ ⟨rfl,by simp⟩ (by simp [Gh.df])).Mx hd kp
end
end Go.Eng
namespace Go.Eng
open Go.RowKit
theorem kB {A:Type} {f:TV→Option A} {g:A→TV} (hf:∀x y,f x=some y→x=g y):∀{xs:List TV} {l:List A},allM f xs=some l→xs=l.map g
 | [],l,h=>by cases h;rfl
 | x :: r,l,h=>by
  simp only [allM] at h
  split at h
  ·rename_i y hy
   split at h
   ·rename_i m hm
    cases h
    rw [hf _ _ hy,kB hf hm];rfl
   ·cases h
  ·cases h
theorem xV {cs:List TV} {n:Nat} {x:TV} (h:EK cs n=some x) (hn:n<cs.length):cs[n]?=some x:=by
 unfold EK at h
 split at h
 ·split at h
  ·rename_i l hl
   have:=kB (g := .s) (fun x y h=>by cases x <;> simp [TV.str?] at h;rw [h]) hl
   cases h
   rw [this] at hn ⊢
   have zO:n<l.length:=by simpa using hn
   simp [ai,ar zO]
  ·cases h
 ·split at h
  ·rename_i l hl
   have:=kB (g := .i .i64) (fun x y h=>by
    cases x <;> simp [TV.i64?] at h
    rename_i k m
    cases k <;> simp at h
    rw [h]) hl
   cases h
   rw [this] at hn ⊢
   have zO:n<l.length:=by simpa using hn
   simp [ai,ar zO]
  ·cases h
 ·split at h
  ·rename_i l hl
   have:=kB (g := .u8) (fun x y h=>by cases x <;> simp [TV.u8?] at h;rw [h]) hl
   cases h
   rw [this] at hn ⊢
   have zO:n<l.length:=by simpa using hn
   simp [ai,ar zO]
  ·cases h
 ·split at h
  ·rename_i l hl
   have:=kB (g := .u64) (fun x y h=>by cases x <;> simp [TV.u64?] at h;rw [h]) hl
   cases h
   rw [this] at hn ⊢
   have zO:n<l.length:=by simpa using hn
   simp [ai,ar zO]
  ·cases h
 ·split at h
  ·rename_i l hl
   have:=kB (g := .b) (fun x y h=>by cases x <;> simp [TV.bool?] at h;rw [h]) hl
   cases h
   rw [this] at hn ⊢
   have zO:n<l.length:=by simpa using hn
   simp [ai,ar zO]
  ·cases h
 ·split at h
  ·rename_i l hl
   have:=kB (g:=fun p => .c (.complex .f64 p.1 p.2)) (fun x y h=>by
    unfold TV.cx? at h
    split at h
    ·cases h;rfl
    ·cases h) hl
   cases h
   rw [this] at hn ⊢
   have zO:n<l.length:=by simpa using hn
   simp [ai,ar zO]
  ·cases h
 ·rename_i t _ _
  split at h
  ·rename_i l hl
   have:=kB (g := .sl t) (fun x y h=>by
    cases x <;> simp [TV.sl?] at h
    obtain ⟨rfl,h⟩:=h
    subst h;rfl) hl
   cases h
   rw [this] at hn ⊢
   have zO:n<l.length:=by simpa using hn
   simp [ai,ar zO]
  ·cases h
 ·cases h
theorem Al {s m n:Nat} {cs:List TV} (hl:m * s=cs.length) (hn:n<m):∀(j:Nat) {xs:List TV},j≤s→Am s m n cs j=some xs→xs=(cs.drop (n * s+(s - j))).take j
 | 0,xs,_,h=>by simp [Am] at h;simp [h]
 | j+1,xs,hj,h=>by
  simp only [Am] at h
  split at h
  ·rename_i x hx
   split at h
   ·rename_i ys hy
    cases h
    have h1:=Al hl hn j (by omega) hy
    have h2:=xV hx (by simpa [M0] using hn)
    have gk:n * s+(s - (j+1))<cs.length:=by
     have:(n+1) * s≤m * s:=av _ hn
     rw [Nat.succ_mul] at this;omega
    have e:x=cs[n * s+(s - (j+1))]:=by
     simp only [M0,br,List.getElem?_range hn,Option.map_some,aL] at h2
     rw [←h2,ai,ar gk];rfl
    rw [h1,List.drop_eq_getElem_cons gk,List.take_succ_cons,e,show n * s+(s - (j+1))+1=n * s+(s - j) by omega]
   ·cases h
  ·cases h
theorem zh:∀l,Cz l=l.map Sw
 | []=>rfl
 | p :: r=>by rw [Cz,zh r];rfl
theorem HR {a b:Nat} (h:a≠b):Nat.beq a b=false:=by
 cases e:Nat.beq a b with
 | false=>rfl
 | true=>exact (h (aw e)).elim
theorem Cc:∀(l:List Cx) (j i:Nat) (q:Cx),A5 j l (j+i) q=l.set i q
 | [],_,_,_=>rfl
 | p :: r,j,0,q=>by
  rw [A5,Nat.add_zero,show Nat.beq j j=true from Nat.beq_refl j]
  simp only [ah,List.set_cons_zero]
  congr 1
  have:∀(l:List Cx) (k:Nat),j<k→A5 k l j q=l:=by
   intro l
   induction l with
   | nil=>intros;rfl
   | cons a r ih =>
    intro k hk
    rw [A5,ih _ (by omega),HR (show k≠j by omega)]
    rfl
  exact this r _ (by omega)
 | p :: r,j,i+1,q=>by
  rw [A5,HR (show j≠j+(i+1) by omega),show j+(i+1)=j+1+i by omega,Cc r (j+1) i q]
  rfl
theorem Hs {x:TV} {q:Cx} (h:x.cx?=some q):x=Sw q:=by
 unfold TV.cx? at h
 split at h
 ·cases h;rfl
 ·cases h
theorem LH {cs ds:List TV} {i:Nat} {x:TV} (h:P5 cs i x=some ds) (hi:i<cs.length):x.plain=true∧x.cells=[x]∧ds=gI cs i [x]:=by
 unfold P5 at h
 split at h
 ·rename_i q l h1 h2
  cases h
  have hx:=Hs h1
  have hc:=kB (g:=Sw) (fun x y h=>Hs h) h2
  subst hx;subst hc
  refine ⟨rfl,rfl,?_⟩
  have:=Cc l 0 i q
  rw [Nat.zero_add] at this
  rw [this,zh]
  have OU:i<l.length:=by simpa using hi
  simp only [gI,ay]
  rw [List.set_eq_take_append_cons_drop,au OU]
  simp only [List.map_append,aX,List.map_take,List.map_drop,aE,List.singleton_append]
 ·cases h
theorem Hl {t:fx}:∀{xs:List TV} {l:List t.El},t.Pn xs=some l→l.map t.tv=xs
 | [],l,h=>by cases h;rfl
 | x :: r,l,h=>by
  simp only [fx.Pn] at h
  split at h
  ·rename_i y hy
   split at h
   ·rename_i m hm
    cases h
    rw [aX,fx.KH hy,Hl hm]
   ·cases h
  ·cases h
section
variable {C:Ctx} {S V:St} {a:Act} {w w':World} {R:Reach} {τ:Nat→Value} {o:Oper} {d:Nat} (h:eI C S a w R τ) (hV:Lt V S)
include h hV
theorem HX {x:Operand} {t:TypeId} {i s q m:Nat} {xs:List TV} {ts:List (Nat × Nat)} (hx:gr C.E C.nt V t x=some (.el i s q,.pe m)) (hm:S m=(.ag xs,.cl ts)):∃b,τ m = .pointer (some ⟨b,0,none⟩)∧a.eval x = .pointer (some ⟨b,i * s+q,none⟩):=by
 obtain ⟨q1,_,_⟩:=gz h hV hx
 obtain ⟨b,i',s',q',p1,p2,hv⟩:∃b i' s' q',Value.gR (τ m)=some b∧TV.el i s q = .el i' s' q'∧a.eval x = .pointer (some ⟨b,i' * s'+q',none⟩):=q1
 cases p2
 obtain ⟨b',_,_,k1,_⟩:=oi h hV hm
 rw [k1] at p1;cases p1
 exact ⟨_,k1,hv⟩
theorem go_pla (hd:o.dst=some d) (hl:d<C.nt) {x:Operand} {t:TypeId} {i m:Nat} {cs:List TV} {ts:List (Nat × Nat)} {y:TV} (ho:o.op = .load t x) (hs:jl C.P t=some (1,false)) (hx:gr C.E C.nt V 0 x=some (.el i 1 0,.pe m)) (hm:S m=(.ag cs,.cl ts)) (hi:i<cs.length) (hp:EK cs i=some y):eJ C o a w (cR S d (y,.no)):=by
 obtain ⟨b0,p1,hv⟩:=HX h hV hx hm
 obtain ⟨b,ys,e,k1,k2,k3,_⟩:=oi h hV hm
 obtain rfl:b=b0:=by rw [k1] at p1;cases p1;rfl
 obtain ⟨inf,vv,hn,ha⟩:=gn hs
 obtain ⟨v,Eb,_,Ea⟩:=k3.get i y (xV hp hi)
 refine h.ic hd hl (v:=v) ?_ Ea
 have:=jc (P:=C.P) vv ha (.inr hn) (w:=w) (b:=b) (off:=i * 1+0) (ys:=[v]) (by simp [hn]) (fun j y hj=>by
  cases j with
  | zero=>cases hj;simp only [World.cell?,k2];simpa using Eb
  | succ j=>simp at hj)
 simp only [execOp,ho,hv,Instr.loadAt,Instr.sureAddr,Sem.run_bind,Sem.run_pure,Result.andThen_ok,this]
 rfl
theorem go_ls (hd:o.dst=none) {x v:Operand} {t:TypeId} {inf:TypeInfo} {i m:Nat} {cs ds:List TV} {y:TV} (ho:o.op = .store t x v) (vv:C.P.info? t=some inf) (hn:inf.size=1) (hx:gr C.E C.nt V 0 x=some (.el i 1 0,.pe m)) (hm:S m=(.ag cs,.cl [])) (hi:i<cs.length) (hv:Rep R w y (a.eval v)) (hp:P5 cs i y=some ds) :
  eJ C o a w (cR S m (.ag ds,.cl [])):=by
 obtain ⟨e1,e2,e3⟩:=LH hp hi
 obtain ⟨b0,p1,wm⟩:=HX h hV hx hm
 obtain ⟨b,ys,e,k1,k2,k3,k4,k5,k6,k7⟩:=oi h hV hm
 obtain rfl:b=b0:=by rw [k1] at p1;cases p1;rfl
 obtain ⟨_,_,q3⟩:=gz h hV hx
 have hL:=lI hv e1
 rw [e2] at hL
 have hlen:=hL.length
 have VN:=k3.length
 have KE:(a.eval v).cells.size=1:=by simpa using hlen.symm
 have Ec:=run_storeCells_at (P:=C.P) b (i * 1+0) e (a.eval v).cells.toList 0 ⟨ys⟩ w k2 (by simp;omega) hL.one
 simp only [Nat.add_zero,Nat.mul_one] at Ec wm
 let new:List Value:=ys.take i++(a.eval v).cells.toList++ys.drop (i+(a.eval v).cells.toList.length)
 have kp:(execOp a.eval o).run C.P w = .ok .skip (w.setRow b ⟨new⟩):=by
  have:¬((a.eval v).cells.size≠inf.size):=by omega
  simp only [execOp,ho,wm,Instr.storeAt,Instr.sureAddr,Sem.run_bind,Sem.run_pure,Result.andThen_ok,storeVar,run_sizeOf vv,Sem.run_ite,this,if_false,Ec]
  rfl
 have dM:dT R w R (w.setRow b ⟨new⟩):=fun b1 o hr=>⟨hr,cell_setRow_other w b _ ⟨b1,o,none⟩ (fun e=>k5 o (by have:b1=b:=e;rw [←this];exact hr))⟩
 have Sf:dq R (w.setRow b ⟨new⟩) ds new:=by
  rw [e3]
  show dq R (w.setRow b ⟨new⟩) _ (ys.take i++(a.eval v).cells.toList++ys.drop (i+(a.eval v).cells.toList.length))
  rw [←hlen]
  exact (((k3.take i).append hL).append (k3.drop _)).mono dM
 exact (h.wr (k:=m) (b:=b) (cur:=⟨ys⟩) (cur':=⟨new⟩) (x := .ag ds) (g := .cl []) (q3 m (by simp [Gh.df])).1 k7 (by rw [hm];rfl) k2 k5 ⟨b,new,e,_,k1,setRow_heap w b ⟨ys⟩ ⟨new⟩ e (0,0) k2,rfl,Sf,by simp,k5⟩ ⟨rfl,by simp⟩ (by simp [Gh.df])).Mx hd kp
theorem qm:∀{ts:List TypeId} {os:List Operand} {cs:List Cell},pq C.E C.nt V ts os=some cs→Cells R w τ C.nt cs (os.map a.eval)∧os.length=ts.length∧∀c∈cs,c.2.slot=true∧∀m∈c.2.df,C.nt≤m∧(S m).2 ≠ .no
 | [],[],_,he=>by cases he;exact ⟨.nil,rfl,by simp⟩
 | t :: ts,x :: os,_,he=>by
  simp only [pq] at he
  split at he
  ·rename_i c e1
   split at he
   ·rename_i cs e2
    cases he
    obtain ⟨h1,h2,h3⟩:=gz h hV e1
    obtain ⟨k1,k2,k3⟩:=qm e2
    exact ⟨.cons h1 (fun m hm=>(h3 m hm).1) k1,by simp [k2],fun c' hc=>by
     rcases aP.1 hc with rfl | hc
     ·exact ⟨h2,h3⟩
     ·exact k3 c' hc⟩
   ·cases he
  ·cases he
 | [],_ :: _,_,he=>by simp [pq] at he
 | _ :: _,[],_,he=>by simp [pq] at he
theorem eI.TS {ts:List TypeId} {os:List Operand} {cs:List Cell} {xs:List TV} {ws:List (Nat × Cell)} (ho:pq C.E C.nt V ts os=some cs) (he:Io V cs=some (xs,ws)):∃R',eI C (fo S ws) a w R' τ∧iv R' w xs (os.map a.eval)∧Lq V (fo S ws):=by
 obtain ⟨h1,_,_⟩:=qm h hV ho
 obtain ⟨R',k1,k2,k3,k4⟩:=BE h.core hV.q h1 he
 exact ⟨R',h.fz k1 k2,k3,k4⟩
theorem go_bl (hd:o.dst=some d) (hl:d<C.nt) (hE:jq C.P C.E) {t e:TypeId} {n pf k:Nat} {parts:Array (Nat × Operand)} {st:fx} {cs:List Cell} {xs:List TV} {ws:List (Nat × Cell)} {l:List st.El} (ho:o.op = .buildSlice t n parts) (ht:C.E.ty t=some (st,pf)) (hx:pq C.E C.nt V (parts.toList.map fun _=>e) (parts.toList.map (·.2))=some cs) (hf:Io V cs=some (xs,ws))
  (he:st.Pn xs=some l) (hn:n=parts.size) (VI:n * st.size≤16777216) (VA:parts.toList.map (·.1)=List.range n) (hk:rr C.nt V k=true):eJ C o a w (cR (cR (fo S ws) k (.sl st l,.pv)) d (.pt,.fB k)):=by
 obtain ⟨R',h',hT,hq⟩:=h.TS hV hx hf
 obtain ⟨e',i,zv,h1,h2,h3,h4,h5,h6,h7⟩:=hE.ty _ _ _ ht
 have Kr:=Hl he
 have yf:∀x∈xs,x.plain=true∧x.cells.length=st.size:=fun x hx=>by rw [←Kr] at hx;obtain ⟨u,_,rfl⟩:=bg.1 hx;exact ⟨fx.Fb st u,fx.kN st u⟩
 obtain ⟨hL,sY⟩:=vI hT yf
 have hlen:parts.toList.length=n:=by simp [hn]
 have OK:l.length=n:=by have:=hT.length;rw [←Kr] at this;simp at this;omega
 have hp:(parts.map fun p=>(p.1,a.eval p.2)).toList=((((parts.toList.map (·.2)).map a.eval).zipIdx 0).map fun p=>(p.2,p.1)):=by
  have e:=vL ((parts.map fun p=>(p.1,a.eval p.2)).toList) 0 (by simp only [Array.toList_map,List.map_map,bc,hlen];rw [←List.range_eq_range',←VA];rfl)
  rw [e]
  simp [Function.comp_def]
 let zc:Array Value:=if n * st.size=0 then #[] else zv.cells
 let c0:Array Value:=(Array.range (n * st.size)).map (zc[· % zc.size]!)
 obtain ⟨dO,GK,Mr⟩:=wC st.size ((parts.toList.map (·.2)).map a.eval) 0 c0 sY (by simp [c0,hlen,hn])
 simp only [Nat.zero_mul,List.take_zero,bq] at Mr
 have kp:(Instr.buildSlice t n (parts.map fun p=>(p.1,a.eval p.2))).run C.P w = .ok (.slice (some ⟨w.heap.size,0,none⟩) n n) { w with heap:=w.heap.push (.cells dO e') }:=by
  have Qt:¬(n * st.size > 2 ^ 24):=by omega
  rw [←hp] at GK
  simp only [c0,zc] at GK
  simp only [Instr.buildSlice,Sem.run_bind,run_underlying h1,Result.andThen_ok,run_sizeOf h2,h3,Qt,if_false,Sem.run_pure]
  by_cases h0:n * st.size=0
  ·rw [au h0] at GK ⊢
   simp only [Sem.run_bind,Sem.run_pure,Result.andThen_ok]
   rw [GK]
   simp [Go.newRow]
  ·rw [ao h0] at GK ⊢
   simp only [Sem.run_bind,Sem.run_pure,Result.andThen_ok,qh h2 h5]
   rw [GK]
   simp [Go.newRow]
 rw [←Kr] at hL
 have uO:dO.size=n * st.size:=by rw [←Array.length_toList,Mr,←hL.length,lL,OK]
 have pT:=st.size_pos
 have RF:n≤maxLen:=by
  have:n * 1≤n * st.size:=Nat.mul_le_mul_left _ pT
  simp only [maxLen];omega
 refine h'.My hd hl (st:=st) (l:=l) (cap:=n) (cur:=dO) (e:=e') (fz:=(0,0)) (ys:=((parts.toList.map (·.2)).map a.eval).flatMap fun v=>v.cells.toList) (w':={ w with heap:=w.heap.push (.cells dO e') }) (iA hq hk) rfl rfl rfl rfl (fun o _=>by simp) uO (by omega) RF hL (fun j y hj=>by rw [←Mr] at hj;simpa using hj) ?_
 simp only [execOp,ho,Sem.run_bind,OK]
 have hm:(parts.map fun x=>(x.1,a.eval x.2))=parts.map fun p=>(p.1,a.eval p.2):=rfl
 simp [kp]
end
end Go.Eng
namespace Go.Eng
open Go.RowKit
def Le (P:Program) (t:TypeId):Option Nat:=(P.info? t).map (·.size)
theorem ov {P:Program} {w:World}:∀(fs:List Field),(∀f∈fs,(sizeOf f.type).run P w = .ok ((Le P f.type).getD 0) w) →
  ((fs.mapM fun (f:Field)=>do pure (f.offset,←sizeOf f.type)):Sem (List (Nat × Nat))).run P w = .ok (fs.map fun f=>(f.offset,(Le P f.type).getD 0)) w
 | [],_=>rfl
 | f :: fs,hs=>by
  simp only [List.mapM_cons,Sem.run_bind,hs f (by simp),Result.andThen_ok,Sem.run_pure,ov fs (fun g hg=>hs g (by simp [hg])),aX]
theorem pL {P:Program} {t:TypeId}:∀{l:List (Nat × Operand)} {pl:List (Nat × (Nat × TypeId))},nB P t l=some pl→pl.length=l.length∧∀(j:Nat) (p:Nat × Operand) (q:Nat × (Nat × TypeId)),l[j]?=some p→pl[j]?=some q→oA P t p.1=some q
 | [],pl,h=>by cases h;exact ⟨rfl,by simp⟩
 | (i,o) :: r,pl,h=>by
  simp only [nB] at h
  split at h
  ·rename_i q l e1 e2
   cases h
   obtain ⟨h1,h2⟩:=pL e2
   refine ⟨by simp [h1],fun j p q' hp hq=>?_⟩
   cases j with
   | zero=>cases hp;cases hq;exact e1
   | succ j=>exact h2 j p q' (by simpa using hp) (by simpa using hq)
  ·cases h
theorem ix:∀{l:List (Nat × Cell)} {S:St} {k:Nat},(∀p∈l,p.1≠k)→fo S l k=S k
 | [],_,_,_=>rfl
 | (j,x) :: l,S,k,h=>by
  simp only [fo]
  rw [dp _ _ (Ne.symm (h (j,x) (List.mem_cons_self ..)))]
  exact ix fun p hp=>h p (List.mem_cons_of_mem _ hp)
theorem uG:∀{cs xS:List Cell} {k:Nat},nL cs=some (xS,k)→cs=xS++[(.pt,.fB k)]
 | [],_,_,h=>by simp [nL] at h
 | [c],xS,k,h=>by
  obtain ⟨x,g⟩:=c
  cases x <;> cases g <;> simp [nL] at h
  obtain ⟨rfl,rfl⟩:=h;rfl
 | c :: d :: r,xS,k,h=>by
  simp only [nL] at h
  split at h
  ·rename_i c1 k1 e
   cases h
   rw [uG e];rfl
  ·cases h
theorem Cells.snoc {R:Reach} {w:World} {τ:Nat→Value} {nt:Nat}:∀{cs:List Cell} {c:Cell} {vs:List Value},Cells R w τ nt (cs++[c]) vs→∃EM v,vs=EM++[v]∧Cells R w τ nt cs EM∧dS R w τ c.1 c.2 v
 | [],_,_,.cons a b .nil=>⟨[],_,rfl,.nil,a⟩
 | _ :: _,_,_,.cons a b t=>by
  obtain ⟨EM,v,rfl,h1,h2⟩:=Cells.snoc t
  exact ⟨_ :: EM,v,rfl,.cons a b h1,h2⟩
theorem iv.snoc {R:Reach} {w:World}:∀{xs:List TV} {vs:List Value} {x:TV} {v:Value},iv R w xs vs→Rep R w x v→iv R w (xs++[x]) (vs++[v])
 | _,_,_,_,.nil,h => .cons h .nil
 | _,_,_,_,.cons a t,h => .cons a (iv.snoc t h)
theorem wB (place:Nat→Option (Nat × Nat)):∀(ps:List (Nat × Value)) (i:Nat) (v:Value) (off:Nat) (cells dO:Array Value),place i=some (off,1)→v.cells.toList=[v]→Instr.fill place cells (ps++[(i,v)])=some dO→dO[off]?=some v
 | [],i,v,off,cells,dO,hp,hv,h=>by
  have wm:v.cells=#[v]:=Array.toList_inj.1 hv
  simp only [bq,Instr.fill,hp,wm] at h
  split at h
  ·cases h
  ·rename_i hc
   cases h
   have:off<cells.size:=by simp at hc;omega
   simp [Array.getElem?_setIfInBounds,this]
 | p :: ps,i,v,off,cells,dO,hp,hv,h=>by
  simp only [List.cons_append,Instr.fill] at h
  split at h
  ·cases h
  ·split at h
   ·cases h
   ·exact wB place ps i v off _ _ hp hv h
section
variable {C:Ctx} {S V:St} {a:Act} {w w':World} {R:Reach} {τ:Nat→Value} {o:Oper} {d:Nat} (h:eI C S a w R τ) (hV:Lt V S)
include h hV
omit hV in
theorem Dc (hE:jq C.P C.E) {R':Reach} {t:TypeId} {parts:Array (Nat × Operand)} {z ds xs:List TV} {pl:List (Nat × (Nat × TypeId))} (ho:o.op = .build t parts) (hz:C.E.z t=some z) (yf:nB C.P t parts.toList=some pl) (hT:iv R' w xs ((parts.toList.map (·.2)).map a.eval)) (h1:∀(j:Nat) (v:Value),xs[j]?=some .pt→(parts.toList.map fun p=>a.eval p.2)[j]?=some v→v.oneCell'=true)
  (zP:oO z (pl.map fun q=>(q.1,q.2.1)) xs=some ds):∃(place:Nat→Option (Nat × Nat)) (cells dO:Array Value),(∀(j:Nat) (q:Nat × (Nat × TypeId)),oA C.P t j=some q→place j=some (q.1,q.2.1))∧Instr.fill place cells (parts.toList.map fun p=>(p.1,a.eval p.2))=some dO∧dq R' w ds dO.toList∧(execOp a.eval o).run C.P w = .ok (.value (.agg dO)) w:=by
 have _:=h
 obtain ⟨Mm,zv,hi,Vh⟩:=hE.z _ _ hz
 rw [aN] at hi
 obtain ⟨i,hi,P9⟩:=hi
 have hL:dq R' w z zv.cells.toList:=oS Vh
 obtain ⟨hlen,Jq⟩:=pL yf
 have Oz:∀(j:Nat) (p:Nat × Value) (x:TV),((parts.map fun p=>(p.1,a.eval p.2)).toList)[j]?=some p→xs[j]?=some x→Rep R' w x p.2∧(x = .pt→p.2.oneCell'=true):=fun j p x hp SX=>by
  obtain ⟨y,Eb,Ea⟩:=hT.get j x SX
  simp only [Array.toList_map,br,List.map_map] at hp Eb
  cases hq:parts.toList[j]? with
  | none=>simp [hq] at hp
  | some q=>simp [hq] at hp Eb;subst hp;rw [Eb];exact ⟨Ea,fun e=>h1 j _ (e ▸ SX) (by simp [hq,Eb])⟩
 have L8:∀place:Nat→Option (Nat × Nat),(∀(j:Nat) (q:Nat × (Nat × TypeId)),oA C.P t j=some q→place j=some (q.1,q.2.1)) →
   ∃dO,Instr.fill place zv.cells (parts.map fun p=>(p.1,a.eval p.2)).toList=some dO∧dq R' w ds dO.toList:=fun place AL =>
  Aa place _ (pl.map fun q=>(q.1,q.2.1)) _ z ds zv.cells hL (by simp [hlen]) (fun j p q hp hq=>by
   simp only [Array.toList_map,br] at hp hq
   cases RB:parts.toList[j]? with
   | none=>simp [RB] at hp
   | some q' =>
    simp [RB] at hp;subst hp
    cases Ky:pl[j]? with
    | none=>simp [Ky] at hq
    | some q2=>simp [Ky] at hq;subst hq;exact AL _ _ (Jq j q' q2 RB Ky)) Oz zP
 have fin:∀place:Nat→Option (Nat × Nat),(∀(j:Nat) (q:Nat × (Nat × TypeId)),oA C.P t j=some q→place j=some (q.1,q.2.1)) →
   (∀dO,Instr.fill place zv.cells (parts.map fun p=>(p.1,a.eval p.2)).toList=some dO→(execOp a.eval o).run C.P w = .ok (.value (.agg dO)) w)→∃(place:Nat→Option (Nat × Nat)) (cells dO:Array Value),(∀(j:Nat) (q:Nat × (Nat × TypeId)),oA C.P t j=some q→place j=some (q.1,q.2.1))∧Instr.fill place cells (parts.toList.map fun p=>(p.1,a.eval p.2))=some dO∧dq R' w ds dO.toList∧(execOp a.eval o).run C.P w = .ok (.value (.agg dO)) w:=fun place AL Vt=>by
  obtain ⟨dO,Mp,hR⟩:=L8 place AL
  exact ⟨place,zv.cells,dO,AL,by rw [←Array.toList_map];exact Mp,hR,Vt dO Mp⟩
 unfold oP at Mm
 cases hu:C.P.underlying t with
 | none=>simp [hu] at Mm
 | some dd =>
  cases dd with
  | struct fs =>
   simp only [hu] at Mm
   have sY:∀f∈fs.toList,(sizeOf f.type).run C.P w = .ok ((Le C.P f.type).getD 0) w:=fun f hf=>by
    have:=aD.1 Mm f hf
    obtain ⟨n,hn⟩:=Option.isSome_iff_exists.1 this
    rw [run_sizeOf hn];simp [Le,hn]
   refine fin (fun i=>(fs.map fun f=>(f.offset,(Le C.P f.type).getD 0))[i]?) (fun j q hq=>?_) (fun dO hc=>?_)
   ·unfold oA at hq
    rw [hu] at hq
    simp only [aN,aM] at hq
    obtain ⟨f,h1,i',h2,rfl⟩:=hq
    simp [h1,Le,h2]
   ·have hm:=ov fs.toList sY
    have RM:((fs.mapM fun (f:Field)=>do pure (f.offset,←sizeOf f.type)):Sem (Array (Nat × Nat))).run C.P w = .ok (fs.map fun f=>(f.offset,(Le C.P f.type).getD 0)) w:=by
     rw [Array.mapM_eq_mapM_toList,Sem.run_map,hm]
     simp only [Result.andThen_ok]
     congr 1
     apply Array.ext'
     simp
    simp only [execOp,ho,Instr.build,Sem.run_bind,qh hi P9,run_underlying hu,Result.andThen_ok,RM]
    rw [hc]
    simp
  | array n e =>
   simp only [hu] at Mm
   obtain ⟨i',h1⟩:=Option.isSome_iff_exists.1 Mm
   refine fin (fun i=>some (i * i'.size,i'.size)) (fun j q hq=>?_) (fun dO hc=>?_)
   ·unfold oA at hq
    rw [hu] at hq
    simp only [h1,Option.map_some,aL] at hq
    subst hq;rfl
   ·simp only [execOp,ho,Instr.build,Sem.run_bind,qh hi P9,run_underlying hu,Result.andThen_ok,run_sizeOf h1]
    rw [hc]
    simp
  | _=>simp [hu] at Mm
theorem go_bd (hd:o.dst=some d) (hl:d<C.nt) (hE:jq C.P C.E) {t:TypeId} {parts:Array (Nat × Operand)} {z ds xs:List TV} {pl:List (Nat × (Nat × TypeId))} {cs:List Cell} {ws:List (Nat × Cell)} (ho:o.op = .build t parts) (hz:C.E.z t=some z) (yf:nB C.P t parts.toList=some pl) (hx:pq C.E C.nt V (pl.map (·.2.2)) (parts.toList.map (·.2))=some cs) (hf:Io V cs=some (xs,ws))
  (zP:oO z (pl.map fun q=>(q.1,q.2.1)) xs=some ds) (L9:xs.all TV.plain=true):eJ C o a w (cR (fo S ws) d (.ag ds,.no)):=by
 obtain ⟨R',h',hT,hq⟩:=h.TS hV hx hf
 obtain ⟨_,_,dO,_,_,hR,kp⟩:=Dc h hE ho hz yf hT (fun j v hj _=>by have:=aD.1 L9 _ (aK hj);cases this) zP
 exact h'.ic hd hl (v := .agg dO) kp (by cases dO with | mk l=>exact .ag hR)
theorem go_bo (hd:o.dst=some d) (hl:d<C.nt) (hE:jq C.P C.E) {t:TypeId} {parts:Array (Nat × Operand)} {z ds xs:List TV} {pl:List (Nat × (Nat × TypeId))} {cs xS:List Cell} {ws:List (Nat × Cell)} {k:Nat} {q:Nat × (Nat × TypeId)} (ho:o.op = .build t parts) (hz:C.E.z t=some z) (yf:nB C.P t parts.toList=some pl) (hx:pq C.E C.nt V (pl.map (·.2.2)) (parts.toList.map (·.2))=some cs)
  (OL:nL cs=some (xS,k)) (hf:Io V xS=some (xs,ws)) (zP:oO z (pl.map fun q=>(q.1,q.2.1)) (xs++[.pt])=some ds) (vu:pl.getLast?=some q) (hq:q.2.1=1) (hk:∀p∈ws,p.1≠k) (L9:xs.all TV.plain=true):eJ C o a w (cR (fo S ws) d (.ag ds,.ow [(q.1,k)])):=by
 obtain ⟨hlen,Jq⟩:=pL yf
 have uO:=uG OL
 obtain ⟨h1,_,h3⟩:=qm h hV hx
 have Tg:=(h3 (.pt,.fB k) (by rw [uO];simp)).2 k (by simp [Gh.df])
 rw [uO] at h1
 obtain ⟨EM,v,Gy,Mr,hv⟩:=Cells.snoc h1
 obtain ⟨R',k1,k2,k3,_⟩:=BE h.core hV.q Mr hf
 have h':=h.fz k1 k2
 obtain ⟨e1,e2⟩:v=τ k∧v.oneCell'=true:=hv
 have hT:iv R' w (xs++[.pt]) ((parts.toList.map (·.2)).map a.eval):=by rw [Gy];exact iv.snoc k3 (.pt v)
 obtain ⟨place,cells,dO,AL,GK,hR,kp⟩:=Dc h hE ho hz yf hT (fun j v' hj sv=>by
  rw [show (parts.toList.map fun p=>a.eval p.2)=EM++[v] by rw [←Gy];simp] at sv
  have hl:=k3.length
  by_cases Qi:j<xs.length
  ·rw [List.getElem?_append_left Qi] at hj
   have:=aD.1 L9 _ (aK hj);cases this
  ·rw [aR (by omega)] at hj sv
   have e:j - EM.length=0:=by
    cases hh:j - xs.length with
    | zero=>omega
    | succ n=>rw [hh] at hj;simp at hj
   rw [e] at sv;cases sv;exact e2) zP
 -- the last part
 obtain ⟨ps,p0,Vz⟩:∃ps p0,parts.toList=ps++[p0]:=by
  rcases List.eq_nil_or_concat parts.toList with e | ⟨ps,p0,e⟩
  ·rw [e] at Gy;simp at Gy
  ·exact ⟨ps,p0,by rw [e,List.concat_eq_append]⟩
 rw [Vz] at GK Gy hlen Jq
 simp only [List.map_append,aX,bw] at GK Gy
 have hv0:=(List.append_inj' Gy rfl).2
 simp only [bt,and_true] at hv0
 have Vx:pl[ps.length]?=some q:=by
  rw [List.getLast?_eq_getElem?] at vu
  simp only [aj,ay] at hlen
  rw [hlen] at vu
  simpa using vu
 have OE:=AL _ _ (Jq ps.length p0 q (by simp) Vx)
 rw [hq] at OE
 have Mi:=wB place _ p0.1 (a.eval p0.2) q.1 cells dO OE (by rw [hv0];exact vT e2) GK
 refine h'.val hd hl (v := .agg dO) kp (x := .ag ds) (g := .ow [(q.1,k)]) ?_ rfl fun j hj=>?_
 ·cases dO with
  | mk l=>exact ⟨l,ds,rfl,rfl,hR,fun p hp=>by
    rw [List.mem_singleton] at hp
    subst hp
    rw [←e1,←hv0]
    simpa using Mi⟩
 ·simp only [Gh.df,aX,bw,List.mem_singleton] at hj
  subst hj
  exact ⟨Tg.1,by rw [ix hk];exact Tg.2⟩
end
end Go.Eng
