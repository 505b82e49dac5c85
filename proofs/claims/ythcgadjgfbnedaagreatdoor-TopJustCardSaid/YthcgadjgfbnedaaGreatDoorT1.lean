/- Texts of my own, one behind the other: EngFl, XA, XB, XC, XE, XD, XF, XG, XH, XO, XI, XJ, XK, XL, XM, XN, XP, XQ, XR, XS, XU, XV. -/
import Derived.Laws.FloatArith
import Derived.WalkKit
import Derived.Calls
import Derived.Below
import Derived.Laws.OwnMore
import Derived.Lib.Bytealg
import Derived.Orders
import Derived.KernelRfl
import Derived.Laws.IdiomStrings
import Derived.Laws.Entries
import Derived.Laws.BytesString
import Derived.Laws.Strings
import Derived.ChangeKeysEq
import Derived.Laws.StructEq
import Derived.Laws.BytesArg
import Derived.Laws.Cover2
import Derived.Lib.Strings
import Derived.Laws.MakeOwn
import Derived.Laws.CopyRow
import Derived.Sort.Grow
set_option linter.unusedVariables false
set_option linter.unusedSimpArgs false
namespace Go.Eng
abbrev aa:=@decide_eq_true
abbrev ab:=@decide_eq_false
abbrev ae:=@Bool.and_eq_true
abbrev af:=@cond_false
abbrev ah:=@List.getElem?_eq_getElem
abbrev ai:=@List.getD_eq_getElem?_getD
abbrev aj:=@Nat.eq_of_beq_eq_true
abbrev ak:=@if_neg
abbrev al:=@List.length_append
abbrev ao:=@cond_true
abbrev aq:=@Int.toNat_natCast
abbrev ar:=@if_pos
abbrev au:=@of_decide_eq_true
abbrev av:=@List.getElem?_eq_some_iff
abbrev aw:=@List.all_eq_true
abbrev ay:=@List.mem_of_getElem?
abbrev az:=@decide_eq_true_eq
abbrev aA:=@Option.some.injEq
abbrev aB:=@List.length_take
abbrev aC:=@List.append_assoc
abbrev aD:=@List.mem_cons
abbrev aE:=@Option.bind_eq_some_iff
abbrev aF:=@List.getElem?_take
abbrev aG:=@Bool.and_eq_true_iff
abbrev aH:=@Option.map_eq_some_iff
abbrev aI:=@List.length_singleton
abbrev aJ:=@Int.emod_eq_of_lt
abbrev aK:=@List.length_cons
abbrev aL:=@List.drop_of_length_le
abbrev aM:=@Bool.eq_iff_iff
abbrev aN:=@Bool.not_true
abbrev aO:=@List.length_nil
abbrev aP:=@List.length_drop
abbrev aQ:=@List.map_cons
abbrev aR:=@List.drop_zero
abbrev aS:=@Bool.not_false
abbrev aT:=@Nat.mul_le_mul_right
abbrev aU:=@List.mem_map
abbrev aV:=@List.getElem?_append_right
abbrev aW:=@Bool.not_or_self
abbrev aX:=@Option.ite_none_right_eq_some
abbrev aY:=@decide_eq_decide
abbrev aZ:=@UInt64.lt_iff_toNat_lt
abbrev ba:=@List.getElem?_map
abbrev bc:=@Bool.and_self
abbrev bd:=@Bool.false_eq_true
abbrev bf:=@List.nil_append
abbrev bg:=@List.cons.injEq
abbrev bh:=@List.eq_nil_of_length_eq_zero
abbrev bj:=@List.append_nil
abbrev bm:=@Bool.or_not_self
abbrev bn:=@List.map_nil
abbrev bo:=@UInt64.toNat_inj
abbrev bp:=@List.length_map
end Go.Eng
namespace Go.Eng
namespace Fl
def add (a b:Nat):Nat:=(Ieee.double.add a b).getD 0
def jY (a b:Nat):Bool:=(Ieee.double.add a b).isSome
def sub (a b:Nat):Nat:=(Ieee.double.sub a b).getD 0
def nX (a b:Nat):Bool:=(Ieee.double.sub a b).isSome
def mul (a b:Nat):Nat:=(Ieee.double.mul a b).getD 0
def kD (a b:Nat):Bool:=(Ieee.double.mul a b).isSome
def eq (a b:Nat):Bool:=Ieee.double.order a b == some .eq
def lt (a b:Nat):Bool:=Ieee.double.order a b == some .lt
def gt (a b:Nat):Bool:=Ieee.double.order a b == some .gt
def neg (a:Nat):Nat:=a ^^^ 9223372036854775808
def sv (a b c d:Nat):Nat:=sub (mul a c) (mul b d)
def sx (a b c d:Nat):Nat:=add (mul a d) (mul b c)
def sw (a b c d:Nat):Bool:=kD a c&&kD b d&&nX (mul a c) (mul b d)&&(kD a d&&kD b c&&jY (mul a d) (mul b c))
def ofInt (n:Int):Nat:=FloatKind.f64.nearest n
def vt (a:Nat):Nat:=FloatKind.f64.encode ((FloatKind.f64.decode a).integral .zero)
def num (a:Nat):Bool:=!(FloatKind.f64.decode a).isNaN
def toInt (a:Nat):Int:=(floatToIntVal .f64 a .i64).getD 0
def oR (a:Nat):Bool:=(floatToIntVal .f64 a .i64).isSome
theorem qg {a b:Nat} (h:jY a b=true):Ieee.double.add a b=some (add a b):=by
 unfold jY at h;obtain ⟨x,hx⟩:=Option.isSome_iff_exists.1 h;unfold add;rw [hx];rfl
theorem qe {a b:Nat} (h:nX a b=true):Ieee.double.sub a b=some (sub a b):=by
 unfold nX at h;obtain ⟨x,hx⟩:=Option.isSome_iff_exists.1 h;unfold sub;rw [hx];rfl
theorem qf {a b:Nat} (h:kD a b=true):Ieee.double.mul a b=some (mul a b):=by
 unfold kD at h;obtain ⟨x,hx⟩:=Option.isSome_iff_exists.1 h;unfold mul;rw [hx];rfl
end Fl
def qP:BinOp→Value→Value→Option Value
 | .add,.float .f64 a,.float .f64 b=>if Fl.jY a b then some (.float .f64 (Fl.add a b)) else none
 | .sub,.float .f64 a,.float .f64 b=>if Fl.nX a b then some (.float .f64 (Fl.sub a b)) else none
 | .mul,.float .f64 a,.float .f64 b=>if Fl.kD a b then some (.float .f64 (Fl.mul a b)) else none
 | .eql,.float .f64 a,.float .f64 b=>some (.bool (Fl.eq a b))
 | .neq,.float .f64 a,.float .f64 b=>some (.bool (!Fl.eq a b))
 | .lss,.float .f64 a,.float .f64 b=>some (.bool (Fl.lt a b))
 | .leq,.float .f64 a,.float .f64 b=>some (.bool (Fl.lt a b || Fl.eq a b))
 | .gtr,.float .f64 a,.float .f64 b=>some (.bool (Fl.gt a b))
 | .geq,.float .f64 a,.float .f64 b=>some (.bool (Fl.gt a b || Fl.eq a b))
 | .add,.complex .f64 a b,.complex .f64 c d=>if Fl.jY a c&&Fl.jY b d then some (.complex .f64 (Fl.add a c) (Fl.add b d)) else none
 | .mul,.complex .f64 a b,.complex .f64 c d=>if Fl.sw a b c d then some (.complex .f64 (Fl.sv a b c d) (Fl.sx a b c d)) else none
 | .lss,.string a,.string b=>some (.bool (Op.bytesLess a.toList b.toList))
 | .leq,.string a,.string b=>some (.bool (Op.bytesLess a.toList b.toList || a.toList == b.toList))
 | .gtr,.string a,.string b=>some (.bool (!(Op.bytesLess a.toList b.toList || a.toList == b.toList)))
 | .geq,.string a,.string b=>some (.bool (!Op.bytesLess a.toList b.toList))
 | _,_,_=>none
section
variable {P:Program} {w:World}
theorem ix {a b:Nat} (h:Fl.jY a b=true):(Op.Complex.arith .add .f64 a b).run P w = .ok (Fl.add a b) w:=by
 have e:FloatKind.f64.format.add a b=some (Fl.add a b):=Fl.qg h
 simp [Op.Complex.arith,Op.floatArith,e]
theorem nL {a b:Nat} (h:Fl.nX a b=true):(Op.Complex.arith .sub .f64 a b).run P w = .ok (Fl.sub a b) w:=by
 have e:FloatKind.f64.format.sub a b=some (Fl.sub a b):=Fl.qe h
 simp [Op.Complex.arith,Op.floatArith,e]
theorem fU {a b:Nat} (h:Fl.kD a b=true):(Op.Complex.arith .mul .f64 a b).run P w = .ok (Fl.mul a b) w:=by
 have e:FloatKind.f64.format.mul a b=some (Fl.mul a b):=Fl.qf h
 simp [Op.Complex.arith,Op.floatArith,e]
theorem wJ {op:BinOp} {t:TypeId} {x y z:Value} (h:qP op x y=some z):(binOp op t x y).run P w = .ok z w:=by
 unfold qP at h
 split at h
 ·rw [aX] at h
  obtain ⟨h1,h⟩:=h
  cases h
  have e:FloatKind.f64.format.add _ _=some (Fl.add _ _):=Fl.qg h1
  simp [binOp,Op.floatArith,e]
 ·rw [aX] at h
  obtain ⟨h1,h⟩:=h
  cases h
  have e:FloatKind.f64.format.sub _ _=some (Fl.sub _ _):=Fl.qe h1
  simp [binOp,Op.floatArith,e]
 ·rw [aX] at h
  obtain ⟨h1,h⟩:=h
  cases h
  have e:FloatKind.f64.format.mul _ _=some (Fl.mul _ _):=Fl.qf h1
  simp [binOp,Op.floatArith,e]
 ·cases h;rfl
 ·cases h;rfl
 ·cases h;rfl
 ·cases h;rfl
 ·cases h;rfl
 ·cases h;rfl
 ·rw [aX,ae] at h
  obtain ⟨⟨h1,h2⟩,h⟩:=h
  cases h
  simp [binOp,Op.complexOp,ix h1,ix h2]
 ·rw [aX] at h
  obtain ⟨h1,h⟩:=h
  cases h
  unfold Fl.sw at h1
  simp only [ae] at h1
  obtain ⟨⟨⟨a1,a2⟩,a3⟩,⟨a4,a5⟩,a6⟩:=h1
  simp [binOp,Op.complexOp,Op.Complex.conv,Op.Complex.product,Op.Complex.mul,Op.Complex.sub,Op.Complex.add,fU a1,fU a2,nL a3,fU a4,fU a5,ix a6,Fl.sv,Fl.sx]
 ·cases h;rfl
 ·cases h;rfl
 ·cases h;rfl
 ·cases h;rfl
 ·cases h
theorem si {op:BinOp} {t:TypeId} {x y:Operand} {u v z:Value} (h:qP op u v=some z):eqGuard op t x y u v=pure ():=by
 unfold qP at h
 split at h <;> first | rfl | cases h
theorem nK {a:Nat}:(Op.unary .neg (.float .f64 a)).run P w = .ok (.float .f64 (Fl.neg a)) w:=rfl
end
end Go.Eng
namespace Go.Eng
abbrev bG:=List UInt8
inductive bq where
 | mk (name:bG) (kind:Int) (bits high low:UInt64) (text more:bG) (sub:Int) (bytes:bG) (kids:List bq)
 deriving Inhabited
structure Val where
 kind:Int
 bits:UInt64
 high:UInt64
 low:UInt64
 text:bG
 more:bG
 sub:Int
 bytes:bG
 kids:List bq
 deriving Inhabited
namespace bq
def name:bq→bG | .mk x _ _ _ _ _ _ _ _ _=>x
def kind:bq→Int | .mk _ x _ _ _ _ _ _ _ _=>x
def bits:bq→UInt64 | .mk _ _ x _ _ _ _ _ _ _=>x
def high:bq→UInt64 | .mk _ _ _ x _ _ _ _ _ _=>x
def low:bq→UInt64 | .mk _ _ _ _ x _ _ _ _ _=>x
def text:bq→bG | .mk _ _ _ _ _ x _ _ _ _=>x
def more:bq→bG | .mk _ _ _ _ _ _ x _ _ _=>x
def sub:bq→Int | .mk _ _ _ _ _ _ _ x _ _=>x
def bytes:bq→bG | .mk _ _ _ _ _ _ _ _ x _=>x
def kids:bq→List bq | .mk _ _ _ _ _ _ _ _ _ x=>x
def val (f:bq):Val:=⟨f.kind,f.bits,f.high,f.low,f.text,f.more,f.sub,f.bytes,f.kids⟩
def of (n:bG) (v:Val):bq := .mk n v.kind v.bits v.high v.low v.text v.more v.sub v.bytes v.kids
end bq
inductive Mem where
 | mk (name:bG) (kind:Int) (text:bG) (kids:List Mem)
 deriving Inhabited
namespace Mem
def name:Mem→bG | .mk x _ _ _=>x
def kind:Mem→Int | .mk _ x _ _=>x
def text:Mem→bG | .mk _ _ x _=>x
def kids:Mem→List Mem | .mk _ _ _ x=>x
end Mem
inductive sF where
 | mk (kind:Int) (n:UInt64) (bytes text:bG) (kids:List sF)
 deriving Inhabited
namespace sF
def kind:sF→Int | .mk x _ _ _ _=>x
def n:sF→UInt64 | .mk _ x _ _ _=>x
def bytes:sF→bG | .mk _ _ x _ _=>x
def text:sF→bG | .mk _ _ _ x _=>x
def kids:sF→List sF | .mk _ _ _ _ x=>x
end sF
namespace sF
end sF
structure Ep where
 at_:Int
 end_:Int
 deriving Inhabited
structure Out where
 at_:Int
 bytes:bG
 EL:List (List Int)
 err:Int
 Il:Int
 path:List Int
 deriving Inhabited
structure bz where
 b:bG
 at_:Int
 deriving Inhabited
structure rK where
 b:bG
 deriving Inhabited
structure cD where
 err:Int
 at_:Int
 path:List Int
 deriving Inhabited
structure Lim where
 depth:Int
 size:Int
 out:Int
 deriving Inhabited
abbrev Cx:=Nat × Nat
structure Qd where
 c0:Cx
 c1:Cx
 c2:Cx
 c3:Cx
 deriving Inhabited
inductive dS where
 | bs | is | ws | ss | yy | fl | ml | il | sp | ou | us | qd
 deriving DecidableEq,Inhabited
abbrev dS.El:dS→Type
 | .bs=>UInt8
 | .is=>Int
 | .ws=>UInt16
 | .ss=>bG
 | .yy=>List Int
 | .fl=>bq
 | .ml=>Mem
 | .il=>sF
 | .sp=>Ep
 | .ou=>Out
 | .us=>UInt64
 | .qd=>Qd
def dS.size:dS→Nat
 | .fl=>10
 | .ml=>4
 | .il=>5
 | .sp=>2
 | .ou=>6
 | .qd=>4
 | _=>1
def dS.fi:(t:dS)→t.El
 | .bs=>0
 | .is=>0
 | .ws=>0
 | .ss=>[]
 | .yy=>[]
 | .fl => .mk [] 0 0 0 0 [] [] 0 [] []
 | .ml => .mk [] 0 [] []
 | .il => .mk 0 0 [] [] []
 | .sp=>⟨0,0⟩
 | .ou=>⟨0,[],[],0,0,[]⟩
 | .us=>0
 | .qd=>⟨(0,0),(0,0),(0,0),(0,0)⟩
inductive TV where
 | u8 (n:UInt8)
 | u16 (n:UInt16)
 | u32 (n:UInt32)
 | u64 (n:UInt64)
 | i (k:IntKind) (n:Int)
 | b (x:Bool)
 | s (l:bG)
 | sl (t:dS) (l:List t.El)
 | ag (l:List TV)
 | tu (l:List TV)
 | ro (x:TV)
 | gd (c:Bool) (x:TV)
 | c (x:Value)
 | pt
 | dead
 | el (p z q:Nat)
 | nl (t:dS)
 | ub (e:Bool)
 deriving Inhabited
def Val.cells (v:Val):List TV:=[.i .i64 v.kind,.u64 v.bits,.u64 v.high,.u64 v.low,.s v.text,.s v.more,.i .i64 v.sub,.sl .bs v.bytes,.sl .fl v.kids]
def bq.cells (f:bq):List TV:=[.s f.name,.i .i64 f.kind,.u64 f.bits,.u64 f.high,.u64 f.low,.s f.text,.s f.more,.i .i64 f.sub,.sl .bs f.bytes,.sl .fl f.kids]
def Mem.cells (f:Mem):List TV:=[.s f.name,.i .i64 f.kind,.s f.text,.sl .ml f.kids]
def sF.cells (f:sF):List TV:=[.i .i64 f.kind,.u64 f.n,.sl .bs f.bytes,.s f.text,.sl .il f.kids]
def Ep.cells (f:Ep):List TV:=[.i .i64 f.at_,.i .i64 f.end_]
def Out.cells (f:Out):List TV:=[.i .i64 f.at_,.sl .bs f.bytes,.sl .yy f.EL,.i .i64 f.err,.i .i64 f.Il,.sl .is f.path]
def bz.cells (f:bz):List TV:=[.sl .bs f.b,.i .i64 f.at_]
def rK.cells (f:rK):List TV:=[.sl .bs f.b]
def cD.cells (f:cD):List TV:=[.i .i64 f.err,.i .i64 f.at_,.sl .is f.path]
def Lim.cells (f:Lim):List TV:=[.i .i64 f.depth,.i .i64 f.size,.i .i64 f.out]
def Qd.cells (x:Qd):List TV:=[.c (.complex .f64 x.c0.1 x.c0.2),.c (.complex .f64 x.c1.1 x.c1.2),.c (.complex .f64 x.c2.1 x.c2.2),.c (.complex .f64 x.c3.1 x.c3.2)]
def dS.tv:(t:dS)→t.El→TV
 | .bs,x => .u8 x
 | .is,x => .i .i64 x
 | .ws,x => .u16 x
 | .ss,x => .s x
 | .yy,x => .sl .is x
 | .fl,x => .ag (bq.cells x)
 | .ml,x => .ag (Mem.cells x)
 | .il,x => .ag (sF.cells x)
 | .sp,x => .ag (Ep.cells x)
 | .ou,x => .ag (Out.cells x)
 | .us,x => .u64 x
 | .qd,x => .ag (Qd.cells x)
def dS.el:(t:dS)→TV→Option t.El
 | .bs,.u8 x=>some x
 | .is,.i .i64 x=>some x
 | .ws,.u16 x=>some x
 | .ss,.s x=>some x
 | .yy,.sl .is x=>some x
 | .fl,.ag [.s n,.i .i64 k,.u64 b,.u64 h,.u64 l,.s t,.s m,.i .i64 s,.sl .bs y,.sl .fl ks]=>some (.mk n k b h l t m s y ks)
 | .ml,.ag [.s n,.i .i64 k,.s t,.sl .ml ks]=>some (.mk n k t ks)
 | .il,.ag [.i .i64 k,.u64 n,.sl .bs b,.s t,.sl .il ks]=>some (.mk k n b t ks)
 | .sp,.ag [.i .i64 a,.i .i64 e]=>some ⟨a,e⟩
 | .us,.u64 x=>some x
 | .qd,.ag [.c (.complex .f64 a b),.c (.complex .f64 c d),.c (.complex .f64 e f),.c (.complex .f64 g h)]=>some ⟨(a,b),(c,d),(e,f),(g,h)⟩
 | .ou,.ag [.i .i64 a,.sl .bs b,.sl .yy l,.i .i64 e,.i .i64 f,.sl .is p]=>some ⟨a,b,l,e,f,p⟩
 | _,_=>none
theorem dS.zR {t:dS} {x:TV} {y:t.El} (h:t.el x=some y):t.tv y=x:=by
 unfold dS.el at h
 split at h <;> cases h <;> rfl
end Go.Eng
namespace Go.Eng
abbrev OT:=Option (List TV)
end Go.Eng
namespace Go.Eng
def cp (o:BinOp) (k:IntKind) (x y:Int):Int :=
 let a:=BitVec.ofInt k.bits x
 let b:=BitVec.ofInt k.bits y
 match o with
 | .and=>k.wrap (a &&& b).toNat
 | .or=>k.wrap (a ||| b).toNat
 | .xor=>k.wrap (a ^^^ b).toNat
 | _=>k.wrap (a &&& ~~~b).toNat
inductive iM where
 | ok (ws:List TV)
 | ez (p:Bool) (ws:List TV)
 | err
abbrev ck {R:Type} (p:Bool) (x:Option R):Option R:=cond p x none
theorem eu {R:Type} (x:Option R):ck true x=x:=rfl
def td (k:IntKind) (n:Int):TV :=
 match k with
 | .u8 => .u8 (UInt8.ofInt n)
 | .u16 => .u16 (UInt16.ofInt n)
 | .u32 => .u32 (UInt32.ofInt n)
 | .u64 => .u64 (UInt64.ofInt n)
 | k => .i k (k.wrap n)
def TV.int?:TV→Option (IntKind × Int)
 | .u8 n=>some (.u8,n.toNat)
 | .u16 n=>some (.u16,n.toNat)
 | .u32 n=>some (.u32,n.toNat)
 | .u64 n=>some (.u64,n.toNat)
 | .i k n=>some (k,n)
 | _=>none
def BD (o:BinOp) (a b:UInt8):iM :=
 match o with
 | .add => .ok [.u8 (a+b)]
 | .sub => .ok [.u8 (a - b)]
 | .mul => .ok [.u8 (a * b)]
 | .quo => .ez (!decide (b=0)) [.u8 (a / b)]
 | .rem => .ez (!decide (b=0)) [.u8 (a % b)]
 | .and => .ok [.u8 (a &&& b)]
 | .or => .ok [.u8 (a ||| b)]
 | .xor => .ok [.u8 (a ^^^ b)]
 | .andNot => .ok [.u8 (a &&& ~~~b)]
 | .eql => .ok [.b (decide (a=b))]
 | .neq => .ok [.b (!decide (a=b))]
 | .lss => .ok [.b (decide (a<b))]
 | .leq => .ok [.b (decide (a≤b))]
 | .gtr => .ok [.b (decide (b<a))]
 | .geq => .ok [.b (decide (b≤a))]
 | _ => .err
def An (a:UInt8) (n:Nat):UInt8:=UInt8.ofNat (a.toNat * 2 ^ n)
def Al (a:UInt8) (n:Nat):UInt8:=UInt8.ofNat (a.toNat / 2 ^ n)
def xr (o:BinOp) (a b:UInt16):iM :=
 match o with
 | .add => .ok [.u16 (a+b)]
 | .sub => .ok [.u16 (a - b)]
 | .mul => .ok [.u16 (a * b)]
 | .quo => .ez (!decide (b=0)) [.u16 (a / b)]
 | .rem => .ez (!decide (b=0)) [.u16 (a % b)]
 | .and => .ok [.u16 (a &&& b)]
 | .or => .ok [.u16 (a ||| b)]
 | .xor => .ok [.u16 (a ^^^ b)]
 | .andNot => .ok [.u16 (a &&& ~~~b)]
 | .eql => .ok [.b (decide (a=b))]
 | .neq => .ok [.b (!decide (a=b))]
 | .lss => .ok [.b (decide (a<b))]
 | .leq => .ok [.b (decide (a≤b))]
 | .gtr => .ok [.b (decide (b<a))]
 | .geq => .ok [.b (decide (b≤a))]
 | _ => .err
def vI (a:UInt16) (n:Nat):UInt16:=UInt16.ofNat (a.toNat * 2 ^ n)
def vD (a:UInt16) (n:Nat):UInt16:=UInt16.ofNat (a.toNat / 2 ^ n)
def xp (o:BinOp) (a b:UInt32):iM :=
 match o with
 | .add => .ok [.u32 (a+b)]
 | .sub => .ok [.u32 (a - b)]
 | .mul => .ok [.u32 (a * b)]
 | .quo => .ez (!decide (b=0)) [.u32 (a / b)]
 | .rem => .ez (!decide (b=0)) [.u32 (a % b)]
 | .and => .ok [.u32 (a &&& b)]
 | .or => .ok [.u32 (a ||| b)]
 | .xor => .ok [.u32 (a ^^^ b)]
 | .andNot => .ok [.u32 (a &&& ~~~b)]
 | .eql => .ok [.b (decide (a=b))]
 | .neq => .ok [.b (!decide (a=b))]
 | .lss => .ok [.b (decide (a<b))]
 | .leq => .ok [.b (decide (a≤b))]
 | .gtr => .ok [.b (decide (b<a))]
 | .geq => .ok [.b (decide (b≤a))]
 | _ => .err
def vG (a:UInt32) (n:Nat):UInt32:=UInt32.ofNat (a.toNat * 2 ^ n)
def vB (a:UInt32) (n:Nat):UInt32:=UInt32.ofNat (a.toNat / 2 ^ n)
def xm (o:BinOp) (a b:UInt64):iM :=
 match o with
 | .add => .ok [.u64 (a+b)]
 | .sub => .ok [.u64 (a - b)]
 | .mul => .ok [.u64 (a * b)]
 | .quo => .ez (!decide (b=0)) [.u64 (a / b)]
 | .rem => .ez (!decide (b=0)) [.u64 (a % b)]
 | .and => .ok [.u64 (a &&& b)]
 | .or => .ok [.u64 (a ||| b)]
 | .xor => .ok [.u64 (a ^^^ b)]
 | .andNot => .ok [.u64 (a &&& ~~~b)]
 | .eql => .ok [.b (decide (a=b))]
 | .neq => .ok [.b (!decide (a=b))]
 | .lss => .ok [.b (decide (a<b))]
 | .leq => .ok [.b (decide (a≤b))]
 | .gtr => .ok [.b (decide (b<a))]
 | .geq => .ok [.b (decide (b≤a))]
 | _ => .err
def nZ (a:UInt64) (n:Nat):UInt64:=UInt64.ofNat (a.toNat * 2 ^ n)
def lI (a:UInt64) (n:Nat):UInt64:=UInt64.ofNat (a.toNat / 2 ^ n)
def iM.holds:iM→List TV→Prop
 | .ok ws,r=>r=ws
 | .ez p ws,r=>p=true∧r=ws
 | .err,_=>False
def BC (o:BinOp) (k:IntKind) (a b:Int):iM :=
 match o with
 | .add => .ok [.i k (k.wrap (a+b))]
 | .sub => .ok [.i k (k.wrap (a - b))]
 | .mul => .ok [.i k (k.wrap (a * b))]
 | .quo => .ez (!decide (b=0)) [.i k (k.wrap (a.tdiv b))]
 | .rem => .ez (!decide (b=0)) [.i k (a.tmod b)]
 | .and => .ok [.i k (cp .and k a b)]
 | .or => .ok [.i k (cp .or k a b)]
 | .xor => .ok [.i k (cp .xor k a b)]
 | .andNot => .ok [.i k (cp .andNot k a b)]
 | .eql => .ok [.b (decide (a=b))]
 | .neq => .ok [.b (!decide (a=b))]
 | .lss => .ok [.b (decide (a<b))]
 | .leq => .ok [.b (decide (a≤b))]
 | .gtr => .ok [.b (decide (b<a))]
 | .geq => .ok [.b (decide (b≤a))]
 | _ => .err
def BB (o:BinOp) (a b:bG):iM :=
 match o with
 | .add => .ez (decide (a.length+b.length≤9223372036854775807)) [.s (a++b)]
 | .eql => .ok [.b (decide (a=b))]
 | .neq => .ok [.b (!decide (a=b))]
 | .lss => .ok [.b (Op.bytesLess a b)]
 | .leq => .ok [.b (Op.bytesLess a b || decide (a=b))]
 | .gtr => .ok [.b (!(Op.bytesLess a b || decide (a=b)))]
 | .geq => .ok [.b (!Op.bytesLess a b)]
 | _ => .err
def TV.count:TV→Option (Option Bool × Nat)
 | .u8 n=>some (none,n.toNat)
 | .u16 n=>some (none,n.toNat)
 | .u32 n=>some (none,n.toNat)
 | .u64 n=>some (none,n.toNat)
 | .i _ n=>some (some (decide (0≤n)),n.toNat)
 | _=>none
def iM.under (p:Option Bool) (ws:List TV):iM :=
 match p with
 | none => .ok ws
 | some p => .ez p ws
def Am (x y:TV):iM :=
 match y.count with
 | some (p,n)=>match x with
  | .u8 a => .under p [.u8 (An a n)]
  | .u16 a => .under p [.u16 (vI a n)]
  | .u32 a => .under p [.u32 (vG a n)]
  | .u64 a => .under p [.u64 (nZ a n)]
  | .i k a => .under p [.i k (k.wrap (a * 2 ^ (min n k.bits)))]
  | _ => .err
 | none => .err
def Ak (x y:TV):iM :=
 match y.count with
 | some (p,n)=>match x with
  | .u8 a => .under p [.u8 (Al a n)]
  | .u16 a => .under p [.u16 (vD a n)]
  | .u32 a => .under p [.u32 (vB a n)]
  | .u64 a => .under p [.u64 (lI a n)]
  | .i k a => .under p [.i k (a.fdiv (2 ^ (min n k.bits)))]
  | _ => .err
 | none => .err
def mh:BinOp→Option Bool
 | .shl=>some true
 | .shr=>some false
 | _=>none
def Bf (o:BinOp) (x y:Value):iM :=
 match o,x,y with
 | .add,.float .f64 a,.float .f64 b => .ez (Fl.jY a b) [.c (.float .f64 (Fl.add a b))]
 | .sub,.float .f64 a,.float .f64 b => .ez (Fl.nX a b) [.c (.float .f64 (Fl.sub a b))]
 | .mul,.float .f64 a,.float .f64 b => .ez (Fl.kD a b) [.c (.float .f64 (Fl.mul a b))]
 | .eql,.float .f64 a,.float .f64 b => .ok [.b (Fl.eq a b)]
 | .neq,.float .f64 a,.float .f64 b => .ok [.b (!Fl.eq a b)]
 | .lss,.float .f64 a,.float .f64 b => .ok [.b (Fl.lt a b)]
 | .leq,.float .f64 a,.float .f64 b => .ok [.b (Fl.lt a b || Fl.eq a b)]
 | .gtr,.float .f64 a,.float .f64 b => .ok [.b (Fl.gt a b)]
 | .geq,.float .f64 a,.float .f64 b => .ok [.b (Fl.gt a b || Fl.eq a b)]
 | .add,.complex .f64 a b,.complex .f64 c d => .ez (Fl.jY a c&&Fl.jY b d) [.c (.complex .f64 (Fl.add a c) (Fl.add b d))]
 | .mul,.complex .f64 a b,.complex .f64 c d => .ez (Fl.sw a b c d) [.c (.complex .f64 (Fl.sv a b c d) (Fl.sx a b c d))]
 | _,_,_ => .err
def yY (o:BinOp) (x y:TV):iM :=
 match mh o with
 | some true=>Am x y
 | some false=>Ak x y
 | none=>match x,y with
  | .u8 a,.u8 b=>BD o a b
  | .u16 a,.u16 b=>xr o a b
  | .u32 a,.u32 b=>xp o a b
  | .u64 a,.u64 b=>xm o a b
  | .i k a,.i k' b=>if k=k' then BC o k a b else .err
  | .s a,.s b=>BB o a b
  | .c a,.c b=>Bf o a b
  | _,_ => .err
def DS (o:UnOp) (x:TV):iM :=
 match o,x with
 | .neg,.u8 a => .ok [.u8 (0 - a)]
 | .neg,.u16 a => .ok [.u16 (0 - a)]
 | .neg,.u32 a => .ok [.u32 (0 - a)]
 | .neg,.u64 a => .ok [.u64 (0 - a)]
 | .neg,.i k a => .ok [.i k (k.wrap (0 - a))]
 | .xor,.u8 a => .ok [.u8 (~~~a)]
 | .xor,.u16 a => .ok [.u16 (~~~a)]
 | .xor,.u32 a => .ok [.u32 (~~~a)]
 | .xor,.u64 a => .ok [.u64 (~~~a)]
 | .xor,.i k a => .ok [.i k (cp .xor k (if k.signed then -1 else k.max) a)]
 | .not,.b a => .ok [.b !a]
 | .neg,.c (.float .f64 a) => .ok [.c (.float .f64 (Fl.neg a))]
 | _,_ => .err
def TV.lT:TV→Bool
 | .ag _=>true
 | _=>false
def TV.cells:TV→List TV
 | .ag cs=>cs
 | x=>[x]
def TV.plain:TV→Bool
 | .u8 _=>true
 | .u16 _=>true
 | .u32 _=>true
 | .u64 _=>true
 | .i _ _=>true
 | .b _=>true
 | .s _=>true
 | .sl _ _=>true
 | .nl _=>true
 | .ag _=>true
 | .ro _=>true
 | .c x=>x.oneCell'
 | _=>false
def ij (cs:List TV) (o n:Nat) (agg:Bool):Option TV :=
 match agg with
 | true=>cond (Nat.ble (o+n) cs.length) (some (.ag ((cs.drop o).take n))) none
 | false=>cs[o]?
def dY (cs:List TV) (o:Nat) (xs:List TV):List TV:=cs.take o++xs++cs.drop (o+xs.length)
def TV.CM:TV→Bool
 | .pt=>true
 | x=>x.plain
def jx (z:List TV):List (Nat × Nat)→List TV→OT
 | [],[]=>some z
 | (o,n) :: pl,x :: xs=>cond (x.CM&&Nat.beq x.cells.length n&&Nat.ble (o+n) z.length) (jx (dY z o x.cells) pl xs) none
 | _,_=>none
def o8 (e:TV) (o n:Nat) (agg:Bool):Option TV :=
 match e with
 | .ag cs=>ij cs o n agg
 | x=>cond (Nat.beq o 0&&Nat.beq n 1&&!agg) (some x) none
def rY (e:TV) (o:Nat) (x:TV):Option TV :=
 match e with
 | .ag cs=>cond (Nat.ble (o+x.cells.length) cs.length) (some (.ag (dY cs o x.cells))) none
 | _=>cond (Nat.beq o 0&&!x.lT) (some x) none
def dS.app:(t:dS)→List t.El→(t':dS)→List t'.El→Option (List t.El)
 | .bs,l,.bs,m=>some (l++m)
 | .is,l,.is,m=>some (l++m)
 | .ws,l,.ws,m=>some (l++m)
 | .ss,l,.ss,m=>some (l++m)
 | .yy,l,.yy,m=>some (l++m)
 | .fl,l,.fl,m=>some (l++m)
 | .ml,l,.ml,m=>some (l++m)
 | .il,l,.il,m=>some (l++m)
 | .sp,l,.sp,m=>some (l++m)
 | .ou,l,.ou,m=>some (l++m)
 | .us,l,.us,m=>some (l++m)
 | .qd,l,.qd,m=>some (l++m)
 | _,_,_,_=>none
def dS.rJ (t:dS):List TV→Option (List t.El)
 | []=>some []
 | x :: r=>match t.el x with
  | some y=>match t.rJ r with
   | some l=>some (y :: l)
   | none=>none
  | none=>none
def allM {A:Type} (f:TV→Option A):List TV→Option (List A)
 | []=>some []
 | x :: r=>match f x with
  | some y=>match allM f r with
   | some l=>some (y :: l)
   | none=>none
  | none=>none
def TV.str?:TV→Option bG | .s l=>some l | _=>none
def TV.i64?:TV→Option Int | .i .i64 l=>some l | _=>none
def TV.u8?:TV→Option UInt8 | .u8 l=>some l | _=>none
def TV.u64?:TV→Option UInt64 | .u64 l=>some l | _=>none
def TV.bool?:TV→Option Bool | .b l=>some l | _=>none
def TV.cx?:TV→Option Cx | .c (.complex .f64 x y)=>some (x,y) | _=>none
def TV.sl? (t:dS):TV→Option (List t.El)
 | .sl t' l=>if h:t'=t then some (h ▸ l) else none
 | _=>none
def vc (cs:List TV) (n:Nat):Option TV :=
 match cs with
 | .s _ :: _=>match allM TV.str? cs with | some l=>some (.s (l.getD n [])) | none=>none
 | .i _ _ :: _=>match allM TV.i64? cs with | some l=>some (.i .i64 (l.getD n 0)) | none=>none
 | .u8 _ :: _=>match allM TV.u8? cs with | some l=>some (.u8 (l.getD n 0)) | none=>none
 | .u64 _ :: _=>match allM TV.u64? cs with | some l=>some (.u64 (l.getD n 0)) | none=>none
 | .b _ :: _=>match allM TV.bool? cs with | some l=>some (.b (l.getD n false)) | none=>none
 | .c (.func _ _ _) :: _=>cs[n]?
 | .c _ :: _=>match allM TV.cx? cs with | some l=>some (.c (.complex .f64 (List.getD l n (0,0)).1 (List.getD l n (0,0)).2)) | none=>none
 | .sl t _ :: _=>match allM (TV.sl? t) cs with | some l=>some (.sl t (l.getD n [])) | none=>none
 | _=>none
def Bw (s m j:Nat) (cs:List TV):List TV:=(List.range m).map fun q=>cs.getD (q * s+j) .dead
def qY (s m n:Nat) (cs:List TV):Nat→OT
 | 0=>some []
 | j+1=>match vc (Bw s m (s - (j+1)) cs) n with
  | some x=>match qY s m n cs j with
   | some xs=>some (x :: xs)
   | none=>none
  | none=>none
def lK (n:Nat):Bool:=decide (n≤maxLen)
def cU (n:Int) (l:Nat):Bool:=decide (0≤n)&&decide (n<l)
def en (a b:Int) (l:Nat):Bool:=decide (0≤a)&&decide (a≤b)&&decide (b≤l)
def fg (n jQ:Nat):Bool:=decide (n≤maxLen)&&decide (n * jQ≤140737488355328)
def AF (l c:Int) (jQ:Nat):Bool:=decide (0≤l)&&decide (l≤c)&&decide (c * jQ≤140737488355328)&&decide (c≤maxLen)
def TV.bare:TV→TV
 | .gd _ x=>x
 | x=>x
def TV.xf:TV→Option Bool
 | .gd q _=>some q
 | _=>none
def vP (t:Bool) (x y:TV):Option TV :=
 match x,y with
 | .b a,.b b=>some (.b (cond t a b))
 | .i k a,.i k' b=>if k=k' then some (.i k (cond t a b)) else none
 | .u8 a,.u8 b=>some (.u8 (cond t a b))
 | .u16 a,.u16 b=>some (.u16 (cond t a b))
 | .u32 a,.u32 b=>some (.u32 (cond t a b))
 | .u64 a,.u64 b=>some (.u64 (cond t a b))
 | .s a,.s b=>some (.s (cond t a b))
 | _,_=>none
def sV (t:Bool) (x y:TV):iM :=
 match vP t x.bare y.bare with
 | some z=>match x.xf,y.xf with
  | none,none => .ok [z]
  | some p,none => .ez (!t || p) [z]
  | none,some q => .ez (t || q) [z]
  | some p,some q => .ez (cond t p q) [z]
 | none => .err
def rP:Nat→List Cx→Nat→Cx→List Cx
 | _,[],_,_=>[]
 | j,p :: r,i,q=>cond (Nat.beq j i) q p :: rP (j+1) r i q
def FE (p:Cx):TV := .c (.complex .f64 p.1 p.2)
def sY:List Cx→List TV
 | []=>[]
 | p :: r => .c (.complex .f64 p.1 p.2) :: sY r
def D2 (cs:List TV) (i:Nat) (x:TV):OT :=
 match x.cx?,allM TV.cx? cs with
 | some q,some l=>some (sY (rP 0 l i q))
 | _,_=>none
end Go.Eng
namespace Go.Eng
inductive Gh where
 | no | hid | zz | ptr (m o:Nat) | cT (k:Nat) | pe (k:Nat) | ve (l:List (Nat × Nat)) | ow (ts:List (Nat × Nat)) | cl (ts:List (Nat × Nat)) | pv | lv | us | pw (d:Nat) | pc (r:Nat)
 deriving DecidableEq,Inhabited
abbrev Cell:=TV × Gh
abbrev St:=Nat→Cell
inductive Md where
 | pl | rf | sl | sm | gv
 deriving DecidableEq,Inhabited
inductive FK where
 | pl | wr (i c:Nat) (e:Bool) | nw (c:Option Nat)
 deriving Inhabited
structure cr where
 md:List Md:=[]
 bE:Nat:=1
 own:List Nat:=[]
 kd:FK := .pl
 raw:Bool:=false
abbrev eH:=List TV→iM
structure cI where
 fs:Nat→eH × cr
 ty:Nat→Option (dS × Nat)
 z:Nat→OT
 ld:List Nat:=[]
def nrm:TV→TV
 | .nl t => .sl t []
 | x=>x
def CJ:TV→TV
 | .nl t => .sl t []
 | .ag cs => .ag (cs.map nrm)
 | x=>x
def AK (k:IntKind) (n:Int):Option TV :=
 match k with
 | .u8=>cond (decide (0≤n)&&decide (n<256)) (some (.u8 (UInt8.ofNat n.toNat))) none
 | .u16=>cond (decide (0≤n)&&decide (n<65536)) (some (.u16 (UInt16.ofNat n.toNat))) none
 | .u32=>cond (decide (0≤n)&&decide (n<4294967296)) (some (.u32 (UInt32.ofNat n.toNat))) none
 | .u64=>cond (decide (0≤n)&&decide (n<18446744073709551616)) (some (.u64 (UInt64.ofNat n.toNat))) none
 | k=>some (.i k n)
def EB:Value→Option TV
 | .bool b=>some (.b b)
 | .int k n=>AK k n
 | .string s=>some (.s s.data.toList)
 | .float k b=>some (.c (.float k b))
 | .complex k a b=>some (.c (.complex k a b))
 | .pointer none=>some (.c (.pointer none))
 | .nilFunc=>some (.c .nilFunc)
 | .nilIface=>some (.c .nilIface)
 | _=>none
def sI:Value→TV→Bool
 | .slice none 0 0,.nl _=>true
 | .bool b,.b c=>b == c
 | .int .u8 n,.u8 m=>n == m.toNat
 | .int .u16 n,.u16 m=>n == m.toNat
 | .int .u32 n,.u32 m=>n == m.toNat
 | .int .u64 n,.u64 m=>n == m.toNat
 | .int j n,.i k m=>j == k&&n == m
 | .string s,.s l=>s.data.toList == l
 | .float j n,.c (.float k m)=>j == k&&n == m
 | .complex j n n',.c (.complex k m m')=>j == k&&n == m&&n' == m'
 | .pointer none,.c (.pointer none)=>true
 | .nilFunc,.c .nilFunc=>true
 | .nilIface,.c .nilIface=>true
 | _,_=>false
def jg:List Value→List TV→Bool
 | [],[]=>true
 | x :: xs,y :: ys=>sI x y&&jg xs ys
 | _,_=>false
structure dP where
 p:Option Bool
 x:Cell
 ws:List (Nat × Cell):=[]
def dP.ok (x:TV) (g:Gh := .no) (ws:List (Nat × Cell):=[]):Option dP:=some ⟨none,(x,g),ws⟩
def dP.ez (p:Bool) (x:TV) (g:Gh := .no) (ws:List (Nat × Cell):=[]):Option dP:=some ⟨some p,(x,g),ws⟩
def iM.zT (r:iM):Option dP :=
 match r with
 | .ok [x]=>dP.ok x
 | .ez p [x]=>dP.ez p x
 | _=>none
def jr (nt:Nat) (V:St) (k:Nat):Bool:=decide ((V k).2 = .no)&&Nat.blt k 1000000&&Nat.ble nt k
def yw (a b:Int):Int:=if b<a then b else a
def r7 (a b:Int):Int:=if a<b then b else a
abbrev da {A:Type} (p:Bool) (x:Option A):Option A:=cond p x none
section
variable (P:Program) (E:cI) (nt:Nat) (own:Nat→Nat) (V:St)
def fe (t:TypeId):Option (Nat × Bool) :=
 (P.info? t).bind fun i=>(P.underlying t).map fun d=>(i.size,match d with | .struct _=>true | .array _ _=>true | _=>false)
def lu (t:TypeId) (f:Nat):Option Field:=(P.underlying t).bind fun d=>match d with | .struct fs=>fs[f]? | _=>none
def xa (t:TypeId) (v:Value):Option TV :=
 match v with
 | .slice none 0 0=>(E.ty t).map fun p => .nl p.1
 | .agg cs=>(E.z t).bind fun z=>da (jg cs.toList z) (some (.ag z))
 | v=>EB v
def dQ (t:TypeId) (o:Operand):Option Cell :=
 match o with
 | .tmp i=>da (Nat.blt i nt) (match V i with
  | (_,.hid)=>none
  | c=>some c)
 | .const v=>(xa E t v).map fun x=>(x,.no)
 | .func f=>some (.c (.func (.func f) #[] #[]),.no)
 | .global _=>none
def nG (c:Cell):Option TV :=
 match c with
 | (.pt,.cT k)=>match V k with
  | (y,.pv)=>some y
  | (y,.lv)=>some y
  | (y,.us)=>some y
  | (y,.pw _)=>some y
  | (y,.pc _)=>some y
  | _=>none
 | (x,.no)=>some (CJ x)
 | _=>none
def tw (c:Cell):Option (TV × List (Nat × Cell)) :=
 match c with
 | (.pt,.cT k)=>match V k with
  | (y,.pv)=>some (y,[(k,(y,.lv))])
  | (y,.lv)=>some (y,[])
  | (y,.us)=>da y.plain (some (y,[]))
  | _=>none
 | (x,.no)=>some (CJ x,[])
 | _=>none
def iu (o n:Nat):List (Nat × Nat)→List TV→Option (List TV × List (Nat × Cell))
 | [],cs=>some (cs,[])
 | (c,k) :: r,cs=>match iu o n r cs with
  | some (cs,ws)=>cond (Nat.ble o c&&Nat.blt c (o+n)) (match tw V (.pt,.cT k) with
   | some (x,us)=>some (cs.set c x,us++ws)
   | none=>none) (some (cs,ws))
  | none=>none
def pA (c:Cell):Option (TV × List (Nat × Cell)) :=
 match c with
 | (.ag cs,.ow ts)=>match iu V 0 cs.length ts cs with
  | some (cs,ws)=>some (.ag (cs.map nrm),ws)
  | none=>none
 | c=>tw V c
def vj:List Cell→Option (List TV × List (Nat × Cell))
 | []=>some ([],[])
 | c :: r=>match pA V c with
  | some (x,ws)=>match vj r with
   | some (xs,us)=>some (x :: xs,ws++us)
   | none=>none
  | none=>none
def iW:List Cell→Option (List Cell × Nat)
 | []=>none
 | [(.pt,.cT k)]=>some ([],k)
 | [_]=>none
 | c :: d :: r=>match iW (d :: r) with
  | some (cs,k)=>some (c :: cs,k)
  | none=>none
def je (ts:List TypeId) (os:List Operand):Option (List Cell) :=
 match ts,os with
 | [],[]=>some []
 | t :: ts,o :: os=>match dQ E nt V t o with
  | some c=>match je ts os with
   | some cs=>some (c :: cs)
   | none=>none
  | none=>none
 | _,_=>none
def sU (o n:Nat) (ts:List (Nat × Nat)):List (Nat × Nat):=ts.filter fun t=>Nat.blt t.1 o || Nat.ble (o+n) t.1
def fZ (c:Nat):List (Nat × Nat)→Option Nat
 | []=>none
 | (d,k) :: r=>cond (Nat.beq d c) (some k) (fZ c r)
def CF:Cell→Option (TV × List (Nat × Cell))
 | (.ag xs,.no)=>some (.ag xs,[])
 | c=>pA V c
def BJ (rw:Bool) (m:Md) (c:Cell):Option (TV × List (Nat × Cell)) :=
 match m,c with
 | .pl,c=>cond rw (CF V c) (pA V c)
 | .rf,(.pt,.ptr k 0)=>match V k with
  | (.ag cs,.cl ts)=>match iu V 0 cs.length ts cs with
   | some (cs,ws)=>some (.ag (cs.map nrm),ws)
   | none=>none
  | _=>none
 | .rf,_=>none
 | m,(.pt,.cT k)=>match m,V k with
  | _,(y,.pv)=>some (y,[])
  | .sm,(y,.pc _)=>some (y,[])
  | _,_=>none
 | .sm,(.nl t,.no)=>some (.sl t [],[])
 | .gv,(.nl t,.no)=>some (.sl t [],[])
 | _,_=>none
def rz (rw:Bool) (ms:List Md):List Cell→Option (List TV × List (Nat × Cell))
 | []=>some ([],[])
 | c :: r=>match BJ V rw (ms.headD .pl) c with
  | some (x,ws)=>match rz rw ms.tail r with
   | some (xs,us)=>some (x :: xs,ws++us)
   | none=>none
  | none=>none
def fK:List Md→List TV→List TV→OT
 | [],_,outs=>da outs.isEmpty (some [])
 | .rf :: ms,_ :: ins,x :: outs=>(fK ms ins outs).map (x :: ·)
 | .sl :: ms,_ :: ins,x :: outs=>(fK ms ins outs).map (x :: ·)
 | .pl :: ms,y :: ins,outs=>(fK ms ins outs).map (y :: ·)
 | .sm :: ms,y :: ins,outs=>(fK ms ins outs).map (y :: ·)
 | .gv :: ms,y :: ins,outs=>(fK ms ins outs).map (y :: ·)
 | _ :: _,_,_=>none
def gG (m:Md) (c:Cell) (y:TV):Option (Nat × Cell) :=
 match m,c.2 with
 | .rf,.ptr k _=>some (k,(y,.cl []))
 | .sl,.cT k=>some (k,(y,.pv))
 | .sm,.cT k=>some (k,(y,(V k).2))
 | .gv,.cT k=>some (k,(.dead,.zz))
 | _,_=>none
def eA:List Md→List Cell→List TV→List (Nat × Cell)
 | m :: ms,c :: cs,y :: ys=>match gG V m c y with
  | some p=>p :: eA ms cs ys
  | none=>eA ms cs ys
 | _,_,_=>[]
def pF:List (Nat × Cell)→Bool
 | []=>true
 | (k,_) :: r=>(r.all fun p=>!Nat.beq p.1 k)&&pF r
def jV (outs:List TV) (i:Nat):Option TV:=cond (Nat.blt i 1000) (outs[i]?) (match outs[0]? with | some (TV.ag cs)=>cs[i - 1000]? | _=>none)
def yu:List Nat→Nat→List TV→Option (List (Nat × Cell))
 | [],_,_=>some []
 | i :: r,j,outs=>match jV outs i with
  | some x=>da (jr nt V (own j)) ((yu r (j+1) outs).map ((own j,(x,.pv)) :: ·))
  | none=>none
def DX (l:List Nat):TV→TV
 | .ag cs => .ag (cs.mapIdx fun c y=>cond (l.contains (1000+c)) .pt y)
 | x=>x
def fM (l:List Nat):Bool:=l.all fun i=>Nat.blt i 1000
def ka (l:List Nat) (outs:List TV):List TV:=cond (fM l) (outs.mapIdx fun i x=>cond (l.contains i) .pt x) (outs.map (DX l))
def okO (sg:cr):Bool:=fM sg.own || (Nat.beq sg.bE 1&&Nat.beq sg.own.length 1)
def ug (sg:cr) (outs:List TV):Cell :=
 cond (Nat.beq sg.bE 1) (match sg.own with
  | []=>(outs.headD .dead,.no)
  | i :: _=>cond (Nat.blt i 1000) (.pt,.cT (own 0)) ((ka sg.own outs).headD .dead,.ow [(i - 1000,own 0)]))
  (.tu (ka sg.own outs),cond sg.own.isEmpty .no (.ve (sg.own.mapIdx fun j i=>(i,own j))))
def rh (sg:cr) (cs:List Cell) (xs:List TV) (ws:List (Nat × Cell)) (p:Option Bool) (outs:List TV):Option dP :=
 da (Nat.ble sg.bE outs.length&&Nat.blt 0 nt&&okO sg) (match yu nt own V sg.own 0 (outs.take sg.bE),fK sg.md xs (outs.drop sg.bE) with
  | some ns,some ys=>da (pF (eA V sg.md cs ys)&&(ws.all fun q=>(eA V sg.md cs ys).all fun p=>!Nat.beq p.1 q.1)) (some ⟨p,ug own sg (outs.take sg.bE),eA V sg.md cs ys++(ns++ws)⟩)
  | _,_=>none)
def zr (us:List (Nat × Nat)) (ds:List TV) (c:Nat):Option (TV × List (Nat × Cell)) :=
 match fZ c us with
 | some j=>match V j with
  | (y,.pv)=>some (y,[(j,(.dead,.zz))])
  | _=>none
 | none=>match ds[c]? with
  | some (.nl t)=>some (.sl t [],[])
  | _=>none
def uf (n:Nat) (rs:List TV):Cell:=cond (Nat.beq n 1) (rs.headD .dead,.no) (.tu rs,.no)
def Cy (n m c:Nat) (ws:List (Nat × Cell)) (p:Option Bool) (outs:List TV):Option dP :=
 match outs.drop n with
 | [.ag ds,y]=>da (jr nt V (own 0)) (some ⟨p,uf n (outs.take n),(m,(.ag (ds.set c .pt),.cl [(c,own 0)])) :: (own 0,(y,.pv)) :: ws⟩)
 | _=>none
def Eu (n:Nat) (f:eH) (i c:Nat) (e:Bool) (cs:List Cell):Option dP :=
 match cs[i]? with
 | some (.pt,.ptr m 0)=>match V m with
  | (.ag ds,.cl us)=>match vj V (cs.set i (.dead,.no)),iu V 0 ds.length (cond e (us.filter fun t=>!Nat.beq t.1 c) us) ds,cond e (zr V us ds c) (some (.dead,[])) with
   | some (xs,ws),some (ds,rB),some (y,wj)=>da (Nat.blt c ds.length&&Nat.blt 0 nt&&(rB++ws).all fun p=>!Nat.beq p.1 m&&wj.all fun q=>!Nat.beq p.1 q.1) (match f (xs.set i (.ag ((ds.map nrm).set c .pt))++[y]) with
    | .ok outs=>Cy nt own V n m c (wj++(rB++ws)) none outs
    | .ez p outs=>Cy nt own V n m c (wj++(rB++ws)) (some p) outs
    | .err=>none)
   | _,_,_=>none
  | _=>none
 | _=>none
def CI (n:Nat) (oc:Option Nat) (ws:List (Nat × Cell)) (p:Option Bool) (outs:List TV):Option dP :=
 match outs.take n,oc,outs.drop n with
 | .ag ds :: rs,none,[]=>da (jr nt V (own 0)&&Nat.blt 0 nt) (some ⟨p,cond (Nat.beq n 1) (.pt,.ptr (own 0) 0) (.tu (.pt :: rs),.ve [(0,own 0)]),(own 0,(.ag ds,.cl [])) :: ws⟩)
 | .ag ds :: rs,some c,[y]=>da (jr nt V (own 0)&&jr nt V (own 1)&&Nat.blt 0 nt) (some ⟨p,cond (Nat.beq n 1) (.pt,.ptr (own 0) 0) (.tu (.pt :: rs),.ve [(0,own 0)]),(own 0,(.ag (ds.set c .pt),.cl [(c,own 1)])) :: (own 1,(y,.pv)) :: ws⟩)
 | _,_,_=>none
def EI (n:Nat) (f:eH) (oc:Option Nat) (cs:List Cell):Option dP :=
 match vj V cs with
 | some (xs,ws)=>match f xs with
  | .ok outs=>CI nt own V n oc ws none outs
  | .ez p outs=>CI nt own V n oc ws (some p) outs
  | .err=>none
 | none=>none
def tG (f:Nat) (ts:List TypeId) (args:List Operand):Option dP :=
 match je E nt V ts args with
 | some cs=>match (E.fs f).2.kd with
  | .pl=>match rz V (E.fs f).2.raw (E.fs f).2.md cs with
   | some (xs,ws)=>match (E.fs f).1 xs with
    | .ok outs=>rh nt own V (E.fs f).2 cs xs ws none outs
    | .ez p outs=>rh nt own V (E.fs f).2 cs xs ws (some p) outs
    | .err=>none
   | none=>none
  | .wr i c e=>Eu nt own V (E.fs f).2.bE (E.fs f).1 i c e cs
  | .nw oc=>EI nt own V (E.fs f).2.bE (E.fs f).1 oc cs
 | none=>none
def yt (x:TV) (p:Option Bool) (ws:List (Nat × Cell)):Option dP:=da (jr nt V (own 0)) (some ⟨p,(.pt,.cT (own 0)),(own 0,(x,.pv)) :: ws⟩)
def s0 (jQ:Nat) (k:Nat) (t:dS) (l:List t.El) (st':dS) (m:List st'.El) (ws:List (Nat × Cell)):Option dP :=
 match t.app l st' m with
 | some n=>da (jr nt V (own 0)) (some ⟨some (fg (l.length+m.length) jQ),(.pt,.cT (own 0)),[(own 0,(.sl t n,.pc k)),(k,(.sl t l,.pw (own 0)))]++ws⟩)
 | none=>none
def zh (st:dS) (jQ:Nat) (c:Cell) (st':dS) (m:List st'.El):Option dP :=
 match c with
 | (.pt,.cT k)=>match V k with
  | (.sl t l,.pv)=>match E.ld.contains (own 0) with
   | true=>da (decide (t=st)) (s0 nt own V jQ k t l st' m [])
   | false=>match t.app l st' m with
    | some n=>da (decide (t=st)&&jr nt V (own 0)) (some ⟨some (fg (l.length+m.length) jQ),(.pt,.cT (own 0)),[(own 0,(.sl t n,.pv)),(k,(.dead,.zz))]⟩)
    | none=>none
  | (.sl t l,.pw d)=>da (decide (t=st)) (s0 nt own V jQ k t l st' m [(d,(.dead,.zz))])
  | (.sl t l,.lv)=>match t.app l st' m with
   | some n=>da (decide (t=st)&&jr nt V (own 0)) (some ⟨some (fg (l.length+m.length) jQ),(.pt,.cT (own 0)),[(own 0,(.sl t n,.lv)),(k,(.sl t l,.us))]⟩)
   | none=>none
  | _=>none
 | (.nl t,.no)=>da (decide (t=st')&&decide (t=st)) (yt nt own V (.sl st' m) (some (fg m.length jQ)) [])
 | _=>none
def nz (b:Builtin) (ts:List TypeId) (args:List Operand):Option dP :=
 match b,ts,args with
 | .len,[t],[x]=>match P.underlying t,(dQ E nt V t x).bind (nG V) with
  | some (.slice _),some (.sl _ l)=>dP.ok (.i .i64 l.length)
  | some .string,some (.s l)=>dP.ok (.i .i64 l.length)
  | _,_=>none
 | .append,[t,u],[x,y]=>match E.ty t,dQ E nt V t x,P.underlying u,(dQ E nt V u y).bind (nG V) with
  | some (st,jQ),some c,some (.slice _),some (.sl st' m)=>zh E nt own V st jQ c st' m
  | some (st,jQ),some c,some .string,some (.s m)=>zh E nt own V st jQ c .bs m
  | _,_,_,_=>none
 | .min,_,[x,y]=>match dQ E nt V 0 x,dQ E nt V 0 y with
  | some (.i k a,.no),some (.i k' b,.no)=>da (decide (k=k')) (dP.ok (.i k (yw a b)))
  | _,_=>none
 | .max,_,[x,y]=>match dQ E nt V 0 x,dQ E nt V 0 y with
  | some (.i k a,.no),some (.i k' b,.no)=>da (decide (k=k')) (dP.ok (.i k (r7 a b)))
  | _,_=>none
 | .real,_,[x]=>match dQ E nt V 0 x with
  | some (.c (.complex k a _),.no)=>dP.ok (.c (.float k a))
  | _=>none
 | .imag,_,[x]=>match dQ E nt V 0 x with
  | some (.c (.complex k _ b),.no)=>dP.ok (.c (.float k b))
  | _=>none
 | .complex,_,[x,y]=>match dQ E nt V 0 x,dQ E nt V 0 y with
  | some (.c (.float .f64 a),.no),some (.c (.float .f64 b),.no)=>dP.ok (.c (.complex .f64 a b))
  | _,_=>none
 | _,_,_=>none
def wZ (s d:TypeId) (x:TV):Option dP :=
 match P.underlying s,P.underlying d with
 | some (.int _),some (.int k)=>match x.int? with
  | some (_,n)=>dP.ok (td k n)
  | none=>none
 | some (.int _),some (.float .f64)=>match x with
  | .i _ n=>dP.ok (.c (.float .f64 (Fl.ofInt n)))
  | _=>none
 | some (.float .f64),some (.int .i64)=>match x with
  | .c (.float .f64 b)=>dP.ez (Fl.oR b) (.i .i64 (Fl.toInt b))
  | _=>none
 | some .string,some .string=>match x with
  | .s l=>dP.ok (.s l)
  | _=>none
 | some .string,some (.slice e)=>match P.underlying e,x with
  | some (.int .u8),.s l=>yt nt own V (.sl .bs l) (some (lK l.length)) []
  | _,_=>none
 | some (.slice e),some .string=>match P.underlying e,x with
  | some (.int .u8),.sl .bs l=>dP.ok (.s l)
  | _,_=>none
 | _,_=>none
def Bu (t:dS) (l:List t.El) (lo hi:Option Int):Option dP :=
 match lo,hi with
 | some a,some b=>dP.ez (en a b l.length) (.sl t ((l.take b.toNat).drop a.toNat))
 | some a,none=>dP.ez (en a l.length l.length) (.sl t (l.drop a.toNat))
 | none,some b=>dP.ez (en 0 b l.length) (.sl t (l.take b.toNat))
 | none,none=>dP.ok (.sl t l)
def Bt (l:bG) (lo hi:Option Int):Option dP :=
 match lo,hi with
 | some a,some b=>dP.ez (en a b l.length) (.s ((l.take b.toNat).drop a.toNat))
 | some a,none=>dP.ez (en a l.length l.length) (.s (l.drop a.toNat))
 | none,some b=>dP.ez (en 0 b l.length) (.s (l.take b.toNat))
 | none,none=>dP.ok (.s l)
def kh (o:Operand):Option Int :=
 match dQ E nt V 0 o with
 | some (x,.no)=>(x.int?).map (·.2)
 | _=>none
def ir (o:Option Operand):Option (Option Int) :=
 match o with
 | none=>some none
 | some o=>(kh E nt V o).map some
def lS (x:TypeId) (st:dS):Bool:=match E.ty x with | some (st',_)=>Nat.beq st'.size st.size | none=>false
def wX (t:TypeId) (c:Cell) (lo hi:Option Int):Option dP :=
 match pA V c with
 | some (.sl st l,ws)=>da (lS E t st) ((Bu st l lo hi).map fun e=>{ e with ws:=ws })
 | _=>none
def wa (t:TypeId) (c:Cell):Option dP :=
 match fe P t with
 | some (n,agg)=>da (agg || Nat.beq n 1) (match c with
  | (.pt,.ptr m o)=>match V m with
   | (.ag cs,.cl ts)=>match agg,fZ o ts with
    | false,some k=>dP.ok .pt (.cT k)
    | _,_=>match E.ld.contains (own 0) with
     | true=>da (agg&&Nat.beq o 0&&Nat.beq n cs.length) (dP.ok (.ag cs) (.ow ts))
     | false=>match iu V o n ts cs with
      | some (cs,ws)=>match ij cs o n agg with
       | some x=>dP.ok x .no ws
       | none=>none
      | none=>none
   | _=>none
  | (.el i s o,.pe k)=>match V k with
   | (.sl t l,g)=>match o8 (t.tv (l.getD i t.fi)) o n agg with
    | some x=>da ((decide (g = .pv) || decide (g = .lv))&&Nat.beq s t.size) (dP.ez (decide (i<l.length)) x)
    | none=>none
   | (.ag cs,.cl [])=>match vc cs i with
    | some x=>da (Nat.beq s 1&&Nat.beq o 0&&Nat.beq n 1&&!agg) (dP.ez (decide (i<cs.length)) x)
    | none=>none
   | _=>none
  | (.ro x,.no)=>da (x.plain&&(x.lT == agg)&&Nat.beq x.cells.length n) (dP.ok x)
  | _=>none)
 | none=>none
def rL (t:TypeId) (c v:Cell):Option dP :=
 match fe P t with
 | some (n,_)=>match c with
  | (.pt,.ptr m o)=>match V m with
   | (.ag cs,.cl ts)=>match v with
    | (.pt,.cT k)=>da (Nat.beq n 1&&Nat.blt o cs.length&&(!Nat.beq k m&&ts.all fun t=>!Nat.beq t.2 m)) (some ⟨none,(.dead,.no),[(m,(.ag (dY cs o [.pt]),.cl ((o,k) :: sU o n ts)))]⟩)
    | (.ag xs,.ow us)=>da (Nat.beq o 0&&Nat.beq xs.length n&&Nat.beq n cs.length&&us.all fun t=>!Nat.beq t.2 m) (some ⟨none,(.dead,.no),[(m,(.ag xs,.cl us))]⟩)
    | (x,.no)=>da (x.plain&&Nat.beq x.cells.length n&&Nat.ble (o+n) cs.length&&ts.all fun t=>!Nat.beq t.2 m) (some ⟨none,(.dead,.no),[(m,(.ag (dY cs o x.cells),.cl (sU o n ts)))]⟩)
    | _=>none
   | _=>none
  | (.el i s o,.pe k)=>match pA V v with
   | some (x,ws)=>match V k with
    | (.sl t l,.pv)=>match rY (t.tv (l.getD i t.fi)) o x with
     | some y=>match t.el y with
      | some z=>da (x.plain&&Nat.beq s t.size&&Nat.beq x.cells.length n&&ws.all fun p=>!Nat.beq p.1 k) (some ⟨some (decide (i<l.length)),(.dead,.no),(k,(.sl t (l.set i z),.pv)) :: ws⟩)
      | none=>none
     | none=>none
    | (.ag cs,.cl [])=>match D2 cs i x with
     | some ds=>da (Nat.beq s 1&&Nat.beq o 0&&Nat.beq n 1&&ws.all fun p=>!Nat.beq p.1 k) (some ⟨some (decide (i<cs.length)),(.dead,.no),(k,(.ag ds,.cl [])) :: ws⟩)
     | none=>none
    | _=>none
   | none=>none
  | _=>none
 | none=>none
def jo (t:TypeId) (j:Nat):Option (Nat × (Nat × TypeId)) :=
 match P.underlying t with
 | some (.struct fs)=>(fs[j]?).bind fun f=>(P.info? f.type).map fun i=>(f.offset,i.size,f.type)
 | some (.array _ e)=>(P.info? e).map fun i=>(j * i.size,i.size,e)
 | _=>none
def iS (t:TypeId):List (Nat × Operand)→Option (List (Nat × (Nat × TypeId)))
 | []=>some []
 | (j,_) :: r=>match jo P t j,iS t r with
  | some q,some l=>some (q :: l)
  | _,_=>none
def EM (x:TypeId) (c:Cell) (n:Int):Option dP :=
 match P.underlying x,c with
 | some (.slice _),(.pt,.cT k)=>match V k with
  | (.sl t l,.pv)=>da (lS E x t) (dP.ez (cU n l.length) (.el n.toNat t.size 0) (.pe k))
  | (.sl t l,.lv)=>da (lS E x t) (dP.ez (cU n l.length) (.ro (t.tv (l.getD n.toNat t.fi))))
  | (.sl t l,.us)=>da (lS E x t) (dP.ez (cU n l.length) (.ro (t.tv (l.getD n.toNat t.fi))))
  | _=>none
 | some (.slice _),(.sl t l,.no)=>da (lS E x t) (dP.ez (cU n l.length) (.ro (t.tv (l.getD n.toNat t.fi))))
 | some (.array m e),(.pt,.ptr k 0)=>match V k with
  | (.ag _,.cl _)=>(P.info? e).bind fun i=>dP.ez (cU n m) (.el n.toNat i.size 0) (.pe k)
  | _=>none
 | _,_=>none
def AN:String:=((Extern.BytealgIndexByte.rows[1]?).map Prod.fst).getD ""
def isName:String:=((Extern.BytealgIndexByte.rows[0]?).map Prod.fst).getD ""
def vv:String := "math.archTrunc"
def jz (f:Nat) (nm:String):Bool:=(P.funcs[f]?).any fun fn=>fn.name == nm&&fn.body.isNone&&(fn.origin == "" || fn.origin == nm)
def Bj (f:Nat) (cs:Option (List Cell)):Option dP:=match cs with
 | some [(.c (.float .f64 b),.no)]=>da (jz P f vv) (dP.ez (Fl.num b) (.c (.float .f64 (Fl.vt b))))
 | some [(.s l,.no),(.u8 c,.no)]=>da (jz P f AN) (dP.ok (.i .i64 (Lib.indexByte l c)))
 | some [(.sl .bs l,.no),(.u8 c,.no)]=>da (jz P f isName) (dP.ok (.i .i64 (Lib.indexByte l c)))
 | _=>none
def tp (f:Nat):Bool:=match P.funcs[f]? with
 | some fn=>fn.body.isSome
 | none=>true
def s9 (f:Field) (o:Nat):Bool:=f.name != "_" && Nat.beq f.offset o&&match P.underlying f.type with | some (.int .u64)=>true | _=>false
def Cf (t:TypeId) (fs:Array Field) (x y:TV):Option Bool :=
 match fs.toList,x,y with
 | [f,g],.ag [.u64 a,.u64 b],.ag [.u64 c,.u64 d]=>da (s9 P f 0&&s9 P g 1&&!P.stoodInHeld t&&!P.eqGuardType P.depth t) (some (decide (a=c)&&decide (b=d)))
 | _,_,_=>none
def qb (ty:TypeId) (op:Op):Option dP :=
 match op with
 | .move x=>(dQ E nt V ty x).map fun c=>⟨none,c,[]⟩
 | .assign x=>(dQ E nt V ty x).map fun c=>⟨none,c,[]⟩
 | .pick c a b=>match dQ E nt V 0 c,dQ E nt V ty a,dQ E nt V ty b with
  | some (.b t,.no),some (x,.no),some (y,.no)=>(sV t x y).zT
  | _,_,_=>none
 | .binOp o t x y u=>match dQ E nt V t x,dQ E nt V u y with
  | some c,some d=>match P.underlying t with
   | some (.slice _)=>match o,nG V c,d with
    | .eql,some (.sl _ l),(.nl _,.no)=>dP.ok (.ub l.isEmpty)
    | _,_,_=>none
   | some .bool=>match o,c,d with
    | .eql,(.b a,.no),(.b b,.no)=>dP.ok (.b (a == b))
    | .neq,(.b a,.no),(.b b,.no)=>dP.ok (.b (!(a == b)))
    | _,_,_=>none
   | some (.struct fs)=>match o,c,d with
    | .eql,(a,.no),(b,.no)=>(Cf P t fs a b).bind fun r=>dP.ok (.b r)
    | .neq,(a,.no),(b,.no)=>(Cf P t fs a b).bind fun r=>dP.ok (.b !r)
    | _,_,_=>none
   | some (.pointer _)=>match o,c,d with
    | .eql,(.pt,.ptr _ _),(.c (.pointer none),.no)=>dP.ok (.b false)
    | .neq,(.pt,.ptr _ _),(.c (.pointer none),.no)=>dP.ok (.b true)
    | _,_,_=>none
   | _=>match c,d with
    | (a,.no),(b,.no)=>(yY o a b).zT
    | _,_=>none
  | _,_=>none
 | .unOp o t x=>match dQ E nt V t x with
  | some (a,.no)=>(DS o a).zT
  | _=>none
 | .convert s d x=>match dQ E nt V s x with
  | some c=>match nG V c with
   | some a=>wZ P nt own V s d a
   | none=>none
  | none=>none
 | .call { callee := .builtin b,args,argTypes }=>nz P E nt own V b argTypes.toList args.toList
 | .call { callee := .value (.func f),args,argTypes }=>cond (tp P f) (tG E nt own V f argTypes.toList args.toList) (Bj P f (je E nt V argTypes.toList args.toList))
 | .call { callee := .value (.tmp i),args,argTypes }=>match dQ E nt V 0 (.tmp i) with
  | some (.c (.func (.func f) ⟨[]⟩ ⟨[]⟩),.no)=>tG E nt own V f argTypes.toList args.toList
  | _=>none
 | .indexAddr t x i=>match dQ E nt V t x,kh E nt V i with
  | some c,some n=>EM P E V t c n
  | _,_=>none
 | .index t x i=>match dQ E nt V t x,kh E nt V i with
  | some (.s l,.no),some n=>match P.underlying t with
   | some .string=>dP.ez (cU n l.length) (.u8 (l.getD n.toNat 0))
   | _=>none
  | some (.ag cs,.no),some n=>match P.underlying t with
   | some (.array m e)=>match fe P e with
    | some (1,false)=>match vc cs n.toNat with
     | some x=>da (Nat.beq m cs.length) (dP.ez (cU n m) x)
     | none=>none
    | some (s,true)=>match qY s m n.toNat cs s with
     | some xs=>da (Nat.beq (m * s) cs.length) (dP.ez (cU n m) (.ag xs))
     | none=>none
    | _=>none
   | _=>none
  | _,_=>none
 | .field t x f=>match dQ E nt V t x,lu P t f with
  | some (.ag cs,.no),some fl=>match fe P fl.type with
   | some (n,agg)=>match ij cs fl.offset n agg with
    | some x=>da (agg || Nat.beq n 1) (dP.ok x)
    | none=>none
   | none=>none
  | _,_=>none
 | .fieldAddr t x f=>match dQ E nt V 0 x,lu P t f with
  | some c,some fl=>match fe P fl.type with
   | some (n,agg)=>da (Nat.blt 0 n) (match c with
    | (.pt,.ptr m o)=>dP.ok .pt (.ptr m (o+fl.offset))
    | (.el i s o,.pe k)=>dP.ok (.el i s (o+fl.offset)) (.pe k)
    | (.ro (.ag cs),.no)=>match ij cs fl.offset n agg with
     | some x=>dP.ok (.ro x)
     | none=>none
    | _=>none)
   | none=>none
  | _,_=>none
 | .nilCheck x=>match dQ E nt V 0 x with
  | some (.pt,.ptr m o)=>dP.ok .pt (.ptr m o)
  | some (.ro x,.no)=>dP.ok (.ro x)
  | _=>none
 | .extract x i=>match dQ E nt V 0 x with
  | some (.tu vs,.no)=>(vs[i]?).bind dP.ok
  | some (.tu vs,.ve l)=>match fZ i l with
   | some k=>match V k with
    | (_,.pv)=>dP.ok .pt (.cT k)
    | (.ag _,.cl _)=>dP.ok .pt (.ptr k 0)
    | _=>none
   | none=>(vs[i]?).bind dP.ok
  | _=>none
 | .load t x=>match dQ E nt V 0 x with
  | some c=>wa P E own V t c
  | none=>none
 | .store t x v=>match dQ E nt V 0 x,dQ E nt V t v with
  | some c,some d=>rL P V t c d
  | _,_=>none
 | .slice t x lo hi none=>match P.underlying t,dQ E nt V t x,ir E nt V lo,ir E nt V hi with
  | some .string,some (.s l,.no),some a,some b=>Bt l a b
  | some (.slice _),some c,some a,some b=>match c,a,b with
   | (.pt,.cT k),none,some n=>match V k with
    | (.sl st l,.pv)=>da (lS E t st&&jr nt V (own 0)) (some ⟨some (en 0 n l.length),(.pt,.cT (own 0)),[(own 0,(.sl st (l.take n.toNat),.pv)),(k,(.dead,.zz))]⟩)
    | _=>wX E V t c a b
   | _,_,_=>wX E V t c a b
  | _,_,_,_=>none
 | .buildSlice t n parts=>match E.ty t,P.underlying t with
  | some (st,_),some (.slice e)=>match je E nt V (parts.toList.map fun _=>e) (parts.toList.map (·.2)) with
   | some cs=>match vj V cs with
    | some (xs,ws)=>match st.rJ xs with
     | some l=>da (Nat.beq n parts.size&&Nat.ble (n * st.size) 16777216&&decide (parts.toList.map (·.1)=List.range n)) (yt nt own V (.sl st l) none ws)
     | none=>none
    | none=>none
   | none=>none
  | _,_=>none
 | .build t parts=>match E.z t,iS P t parts.toList with
  | some z,some pl=>match je E nt V (pl.map (·.2.2)) (parts.toList.map (·.2)) with
   | some cs=>match E.ld.contains (own 0),iW cs with
    | true,some (pG,k)=>match vj V pG with
     | some (xs,ws)=>match jx z (pl.map fun q=>(q.1,q.2.1)) (xs++[.pt]),pl.getLast? with
      | some ds,some q=>da (xs.all TV.plain&&(Nat.beq q.2.1 1&&ws.all fun p=>!Nat.beq p.1 k)) (dP.ok (.ag ds) (.ow [(q.1,k)]) ws)
      | _,_=>none
     | none=>none
    | _,_=>match vj V cs with
     | some (xs,ws)=>match jx z (pl.map fun q=>(q.1,q.2.1)) xs with
      | some ds=>da (xs.all TV.plain) (dP.ok (.ag ds) .no ws)
      | none=>none
     | none=>none
   | none=>none
  | _,_=>none
 | .alloc t=>(E.z t).bind fun z=>da (jr nt V (own 0)) (dP.ok .pt (.ptr (own 0) 0) [(own 0,(.ag z,.cl []))])
 | .box t v=>match dQ E nt V t v with
  | some (x,.no)=>da (x.plain&&jr nt V (own 0)) (dP.ok .pt (.ptr (own 0) 0) [(own 0,(.ag x.cells,.cl []))])
  | _=>none
 | .makeSlice t l c=>match E.ty t,kh E nt V l,kh E nt V c with
  | some (st,jQ),some a,some b=>yt nt own V (.sl st (List.replicate a.toNat st.fi)) (some (AF a b jQ)) []
  | _,_,_=>none
 | _=>none
end
end Go.Eng
namespace Go.Eng
open Go.RowKit
def TV.val:TV→Option Value
 | .u8 n=>some (.int .u8 n.toNat)
 | .u16 n=>some (.int .u16 n.toNat)
 | .u32 n=>some (.int .u32 n.toNat)
 | .u64 n=>some (.int .u64 n.toNat)
 | .i k n=>some (.int k n)
 | .b x=>some (.bool x)
 | .s l=>some (.string ⟨⟨l⟩⟩)
 | .c v=>some v
 | _=>none
abbrev Reach:=Nat→Nat→Prop
mutual
inductive Rep (R:Reach) (w:World):TV→Value→Prop
 | sc {x:TV} {v:Value}:x.val=some v→Rep R w x v
 | ag {cs:List TV} {ys:List Value}:bX R w cs ys→Rep R w (.ag cs) (.agg ⟨ys⟩)
 | tu {vs:List TV} {ys:List Value}:dW R w vs ys→Rep R w (.tu vs) (.tuple ⟨ys⟩)
 | nl (t:dS):Rep R w (.nl t) (.slice none 0 0)
 | ub {e b:Bool}:(b=true→e=true)→Rep R w (.ub e) (.bool b)
 | sn (t:dS):Rep R w (.sl t []) (.slice none 0 0)
 | sl {t:dS} {l:List t.El} {b off n cap:Nat}:n=l.length→n≤cap→cap≤maxLen→fA R w t.size (l.map t.tv) b off→Rep R w (.sl t l) (.slice (some ⟨b,off,none⟩) n cap)
 | em {a:Addr} {cap:Nat} (t:dS):cap≤maxLen→Rep R w (.sl t []) (.slice (some a) 0 cap)
 | ro {x:TV} {b off s:Nat}:gH R w s x b off→Rep R w (.ro x) (.pointer (some ⟨b,off,none⟩))
 | pt (y:Value):Rep R w .pt y
 | dead (y:Value):Rep R w .dead y
 | Ce {x:TV} {y:Value}:Rep R w x y→Rep R w (.gd true x) y
 | Dq (x:TV):Rep R w (.gd false x) undef
inductive bX (R:Reach) (w:World):List TV→List Value→Prop
 | nil:bX R w [] []
 | cons {x:TV} {y:Value} {xs:List TV} {ys:List Value}:y.oneCell'=true→Rep R w x y→bX R w xs ys→bX R w (x :: xs) (y :: ys)
inductive dW (R:Reach) (w:World):List TV→List Value→Prop
 | nil:dW R w [] []
 | cons {x:TV} {y:Value} {xs:List TV} {ys:List Value}:Rep R w x y→dW R w xs ys→dW R w (x :: xs) (y :: ys)
inductive gL (R:Reach) (w:World):List TV→Nat→Nat→Prop
 | nil (b off:Nat):gL R w [] b off
 | cons {x:TV} {y:Value} {xs:List TV} {b off:Nat}:R b off→w.cell? ⟨b,off,none⟩=some y→y.oneCell'=true→Rep R w x y→gL R w xs b (off+1)→gL R w (x :: xs) b off
inductive gH (R:Reach) (w:World):Nat→TV→Nat→Nat→Prop
 | ag {cs:List TV} {b off s:Nat}:s=cs.length→gL R w cs b off→gH R w s (.ag cs) b off
 | one {x:TV} {y:Value} {b off:Nat}:x.lT=false→R b off→w.cell? ⟨b,off,none⟩=some y→y.oneCell'=true→Rep R w x y→gH R w 1 x b off
inductive fA (R:Reach) (w:World):Nat→List TV→Nat→Nat→Prop
 | nil (s b off:Nat):fA R w s [] b off
 | cons {s:Nat} {x:TV} {xs:List TV} {b off:Nat}:gH R w s x b off→fA R w s xs b (off+s)→fA R w s (x :: xs) b off
end
def cH (R:Reach) (w:World) (R':Reach) (w':World):Prop:=∀b o,R b o→R' b o∧w'.cell? ⟨b,o,none⟩=w.cell? ⟨b,o,none⟩
theorem cH.refl (R:Reach) (w:World):cH R w R w:=fun _ _ h=>⟨h,rfl⟩
theorem cH.trans {R R' DP:Reach} {w w' F9:World} (h:cH R w R' w') (k:cH R' w' DP F9):cH R w DP F9 :=
 fun b o hr=>⟨(k b o (h b o hr).1).1,(k b o (h b o hr).1).2.trans (h b o hr).2⟩
section
variable {R R':Reach} {w w':World}
mutual
theorem Rep.mono (k:cH R w R' w'):∀{x:TV} {y:Value},Rep R w x y→Rep R' w' x y
 | _,_,.sc h => .sc h
 | _,_,.ag h => .ag (bX.mono k h)
 | _,_,.tu h => .tu (dW.mono k h)
 | _,_,.nl t => .nl t
 | _,_,.ub h => .ub h
 | _,_,.sn t => .sn t
 | _,_,.sl a b c h => .sl a b c (fA.mono k h)
 | _,_,.em t h => .em t h
 | _,_,.ro h => .ro (gH.mono k h)
 | _,_,.pt y => .pt y
 | _,_,.dead y => .dead y
 | _,_,.Ce h => .Ce (Rep.mono k h)
 | _,_,.Dq x => .Dq x
theorem bX.mono (k:cH R w R' w'):∀{x:List TV} {y:List Value},bX R w x y→bX R' w' x y
 | _,_,.nil => .nil
 | _,_,.cons a h t => .cons a (Rep.mono k h) (bX.mono k t)
theorem dW.mono (k:cH R w R' w'):∀{x:List TV} {y:List Value},dW R w x y→dW R' w' x y
 | _,_,.nil => .nil
 | _,_,.cons h t => .cons (Rep.mono k h) (dW.mono k t)
theorem gL.mono (k:cH R w R' w'):∀{x:List TV} {b o:Nat},gL R w x b o→gL R' w' x b o
 | _,_,_,.nil b o => .nil b o
 | _,_,_,.cons r c a h t => .cons (k _ _ r).1 ((k _ _ r).2.trans c) a (Rep.mono k h) (gL.mono k t)
theorem gH.mono (k:cH R w R' w'):∀{s:Nat} {x:TV} {b o:Nat},gH R w s x b o→gH R' w' s x b o
 | _,_,_,_,.ag e h => .ag e (gL.mono k h)
 | _,_,_,_,.one n r c a h => .one n (k _ _ r).1 ((k _ _ r).2.trans c) a (Rep.mono k h)
theorem fA.mono (k:cH R w R' w'):∀{s:Nat} {x:List TV} {b o:Nat},fA R w s x b o→fA R' w' s x b o
 | _,_,_,_,.nil s b o => .nil s b o
 | _,_,_,_,.cons h t => .cons (gH.mono k h) (fA.mono k t)
end
end
section
variable {R:Reach} {w:World}
theorem bX.length:∀{xs:List TV} {ys:List Value},bX R w xs ys→xs.length=ys.length
 | _,_,.nil=>rfl
 | _,_,.cons _ _ t=>by simp [bX.length t]
theorem dW.length:∀{xs:List TV} {ys:List Value},dW R w xs ys→xs.length=ys.length
 | _,_,.nil=>rfl
 | _,_,.cons _ t=>by simp [dW.length t]
theorem bX.get:∀{xs:List TV} {ys:List Value} (_:bX R w xs ys) (i:Nat) (x:TV),xs[i]?=some x→∃y,ys[i]?=some y∧y.oneCell'=true∧Rep R w x y
 | _,_,.cons a h _,0,x,e=>by simp at e;subst e;exact ⟨_,rfl,a,h⟩
 | _,_,.cons _ _ t,i+1,x,e=>by simpa using bX.get t i x (by simpa using e)
theorem dW.get:∀{xs:List TV} {ys:List Value} (_:dW R w xs ys) (i:Nat) (x:TV),xs[i]?=some x→∃y,ys[i]?=some y∧Rep R w x y
 | _,_,.cons h _,0,x,e=>by simp at e;subst e;exact ⟨_,rfl,h⟩
 | _,_,.cons _ t,i+1,x,e=>by simpa using dW.get t i x (by simpa using e)
theorem bX.one:∀{xs:List TV} {ys:List Value},bX R w xs ys→∀y∈ys,y.oneCell'=true
 | _,_,.cons a _ t,y,hy=>by
  rcases aD.1 hy with rfl | h
  ·exact a
  ·exact bX.one t y h
theorem bX.append:∀{xs:List TV} {ys:List Value} {xE:List TV} {oO:List Value},bX R w xs ys→bX R w xE oO→bX R w (xs++xE) (ys++oO)
 | _,_,_,_,.nil,h=>h
 | _,_,_,_,.cons a h t,k => .cons a h (bX.append t k)
theorem bX.take:∀{xs:List TV} {ys:List Value} (n:Nat),bX R w xs ys→bX R w (xs.take n) (ys.take n)
 | _,_,0,_=>by simp;exact .nil
 | _,_,n+1,.nil=>by simp;exact .nil
 | _,_,n+1,.cons a h t=>by simp;exact .cons a h (bX.take n t)
theorem bX.drop:∀{xs:List TV} {ys:List Value} (n:Nat),bX R w xs ys→bX R w (xs.drop n) (ys.drop n)
 | _,_,0,h=>by simpa using h
 | _,_,n+1,.nil=>by simp;exact .nil
 | _,_,n+1,.cons a h t=>by simp;exact bX.drop n t
theorem gL.read:∀{xs:List TV} {b o:Nat},gL R w xs b o→∃ys,bX R w xs ys∧∀j y,ys[j]?=some y→w.cell? ⟨b,o+j,none⟩=some y
 | _,_,_,.nil _ _=>⟨[],.nil,by simp⟩
 | _,b,o,.cons (y:=y) r c a h t=>by
  obtain ⟨ys,hl,hc⟩:=gL.read t
  refine ⟨y :: ys,.cons a h hl,fun j z hz=>?_⟩
  cases j with
  | zero=>simp at hz;subst hz;exact c
  | succ j=>have:=hc j z (by simpa using hz);rw [show o+(j+1)=o+1+j by omega];exact this
theorem gL.write:∀{xs:List TV} {ys:List Value} {b o:Nat},bX R w xs ys→(∀j,j<ys.length→R b (o+j))→(∀j y,ys[j]?=some y→w.cell? ⟨b,o+j,none⟩=some y)→gL R w xs b o
 | _,_,b,o,.nil,_,_ => .nil b o
 | _,_,b,o,.cons a h t,hr,hc => .cons (hr 0 (by simp)) (hc 0 _ rfl) a h
   (gL.write t (fun j hj=>by have:=hr (j+1) (by simp;omega);rwa [show o+(j+1)=o+1+j by omega] at this)
    (fun j y hy=>by have:=hc (j+1) y (by simpa using hy);rwa [show o+(j+1)=o+1+j by omega] at this))
theorem gL.drop:∀{xs:List TV} {b o:Nat} (n:Nat),gL R w xs b o→gL R w (xs.drop n) b (o+n)
 | _,b,o,0,h=>by simpa using h
 | _,b,o,n+1,.nil _ _=>by simp;exact .nil _ _
 | _,b,o,n+1,.cons r c a h t=>by simp;have:=gL.drop n t;rwa [show o+1+n=o+(n+1) by omega] at this
theorem gL.take:∀{xs:List TV} {b o:Nat} (n:Nat),gL R w xs b o→gL R w (xs.take n) b o
 | _,b,o,0,h=>by simp;exact .nil _ _
 | _,b,o,n+1,.nil _ _=>by simp;exact .nil _ _
 | _,b,o,n+1,.cons r c a h t=>by simp;exact .cons r c a h (gL.take n t)
theorem fA.get:∀{s:Nat} {es:List TV} {b o:Nat} (_:fA R w s es b o) (i:Nat) (x:TV),es[i]?=some x→gH R w s x b (o+i * s)
 | s,_,b,o,.cons h _,0,x,e=>by simp at e;subst e;simpa using h
 | s,_,b,o,.cons _ t,i+1,x,e=>by
  have:=fA.get t i x (by simpa using e)
  rwa [show o+s+i * s=o+(i+1) * s by rw [Nat.succ_mul];omega] at this
theorem fA.drop:∀{s:Nat} {es:List TV} {b o:Nat} (n:Nat),fA R w s es b o→fA R w s (es.drop n) b (o+n * s)
 | s,_,b,o,0,h=>by simpa using h
 | s,_,b,o,n+1,.nil _ _ _=>by simp;exact .nil _ _ _
 | s,_,b,o,n+1,.cons h t=>by simp;have:=fA.drop n t;rwa [show o+s+n * s=o+(n+1) * s by rw [Nat.succ_mul];omega] at this
theorem fA.take:∀{s:Nat} {es:List TV} {b o:Nat} (n:Nat),fA R w s es b o→fA R w s (es.take n) b o
 | s,_,b,o,0,h=>by simp;exact .nil _ _ _
 | s,_,b,o,n+1,.nil _ _ _=>by simp;exact .nil _ _ _
 | s,_,b,o,n+1,.cons h t=>by simp;exact .cons h (fA.take n t)
theorem gH.read {s:Nat} {x:TV} {b o:Nat} (h:gH R w s x b o):∃ys:List Value,ys.length=s∧(∀j y,ys[j]?=some y→w.cell? ⟨b,o+j,none⟩=some y)∧bX R w x.cells ys:=by
 cases h with
 | ag e h=>obtain ⟨ys,hl,hc⟩:=h.read;exact ⟨ys,by rw [e,hl.length],hc,hl⟩
 | one n r c a h =>
  rename_i y
  refine ⟨[y],rfl,?_,?_⟩
  ·intro j z hz
   cases j with
   | zero=>simp at hz;subst hz;exact c
   | succ j=>simp at hz
  ·cases x <;> simp [TV.cells,TV.lT] at n ⊢ <;> exact .cons a h .nil
theorem gH.write {s:Nat} {x:TV} {ys:List Value} {b o:Nat} (hs:x.cells.length=s) (h:bX R w x.cells ys) (hr:∀j,j<s→R b (o+j)) (hc:∀j y,ys[j]?=some y→w.cell? ⟨b,o+j,none⟩=some y):gH R w s x b o:=by
 have hl:=h.length
 cases x with
 | ag cs=>exact .ag hs.symm (gL.write h (fun j hj=>hr j (by omega)) hc)
 | _ =>
  simp only [TV.cells,aI] at hs h hl
  subst hs
  cases h with
  | cons a h t=>exact .one rfl (hr 0 (by omega)) (hc 0 _ rfl) a h
theorem fA.cells:∀{s:Nat} {es:List TV} {b o:Nat},fA R w s es b o→∃ys:List Value,ys.length=es.length * s∧(∀j y,ys[j]?=some y→w.cell? ⟨b,o+j,none⟩=some y)∧bX R w (es.flatMap TV.cells) ys∧∀e∈es,e.cells.length=s
 | s,_,b,o,.nil _ _ _=>⟨[],by simp,by simp,.nil,by simp⟩
 | s,_,b,o,.cons (x:=x) (xs:=xs) h t=>by
  obtain ⟨ys,hl,hc,hr⟩:=h.read
  obtain ⟨zs,kl,kc,kr,ke⟩:=fA.cells t
  have hx:x.cells.length=s:=by rw [hr.length,hl]
  refine ⟨ys++zs,by simp [hl,kl,Nat.succ_mul];omega,?_,?_,?_⟩
  ·intro j y hy
   by_cases hj:j<ys.length
   ·exact hc j y (by rwa [List.getElem?_append_left hj] at hy)
   ·rw [aV (by omega)] at hy
    have:=kc _ y hy
    rwa [show o+s+(j - ys.length)=o+j by omega] at this
  ·simpa using hr.append kr
  ·intro e he
   rcases aD.1 he with rfl | h'
   ·exact hx
   ·exact ke e h'
theorem fA.write:∀{s:Nat} {es:List TV} {ys:List Value} {b o:Nat},(∀e∈es,e.cells.length=s)→bX R w (es.flatMap TV.cells) ys→(∀j,j<es.length * s→R b (o+j)) →
  (∀j y,ys[j]?=some y→w.cell? ⟨b,o+j,none⟩=some y)→fA R w s es b o
 | s,[],ys,b,o,_,_,_,_ => .nil _ _ _
 | s,e :: es,ys,b,o,he,h,hr,hc=>by
  have hs:=he e (by simp)
  have hl:=h.length
  simp only [List.flatMap_cons,al] at hl
  have h1:bX R w e.cells (ys.take s):=by simpa [hs] using h.take s
  have h2:bX R w (es.flatMap TV.cells) (ys.drop s):=by have:=h.drop s;simpa [List.drop_append,hs,aL] using this
  refine .cons (.write hs h1 (fun j hj=>hr j (by simp [Nat.succ_mul];omega)) (fun j y hy=>hc j y ?_))
   (fA.write (fun e' h'=>he e' (by simp [h'])) h2 (fun j hj=>?_) (fun j y hy=>?_))
  ·rw [aF] at hy;split at hy
   ·exact hy
   ·cases hy
  ·have:=hr (s+j) (by simp [Nat.succ_mul];omega);rwa [←Nat.add_assoc] at this
  ·have:=hc (s+j) y (by simpa using hy);rwa [←Nat.add_assoc] at this
end
theorem dS.fT (t:dS) (x:t.El):(t.tv x).cells.length=t.size:=by cases t <;> rfl
theorem dS.vq (t:dS) (x:t.El):(t.tv x).plain=true:=by cases t <;> rfl
end Go.Eng
namespace Go.Eng
abbrev GL:=List (Nat × Gh)
inductive Hint where
 | o | s (a b:Hint) | j (G:GL) (a b:Hint) | c (a b:Hint) | b (a:Hint) | l (G:GL) (a:Hint) | sc (ls:List (Nat × GL)) (a:Hint)
def Hint.s1:Hint→Hint | .s a _=>a | .j _ a _=>a | .c a _=>a | .b a=>a | .l _ a=>a | .sc _ a=>a | .o => .o
def Hint.s2:Hint→Hint | .s _ a=>a | .j _ _ a=>a | .c _ a=>a | _ => .o
def bN (S:St) (d:Nat) (x:Cell):St:=fun k=>cond (Nat.beq k d) x (S k)
def cO (S:St):List (Nat × Cell)→St
 | []=>S
 | (k,x) :: r=>bN (cO S r) k x
def fy (nt:Nat) (ts:List Nat) (S:St):St:=fun k=>cond (Nat.blt k nt&&ts.contains k) ((S k).1.bare,(S k).2) (S k)
def px (x:TV) (b:Bool):Option Bool :=
 match x with
 | .b x=>some (cond b x (!x))
 | .gd q (.b x)=>some (q&&cond b x (!x))
 | _=>none
def lZ:List TV→Option Bool
 | []=>none
 | x :: r=>match x.xf,lZ r with
  | none,q=>q
  | some p,none=>some p
  | some p,some q=>some (p&&q)
def zq (op:Op):List Nat:=op.operands.toList.filterMap fun x=>match x with | .tmp t=>some t | _=>none
def TV.wi:TV→Bool
 | .gd _ _=>true
 | _=>false
def Gf (nt:Nat) (V:St) (k:Nat):Bool:=Nat.ble nt k&&match (V k).2 with
 | .no=>false
 | .hid=>false
 | _=>true
def Gh.slot:Gh→Bool
 | .no | .ptr _ _ | .cT _ | .pe _ | .ve _ | .ow _=>true
 | _=>false
def Gh.bP:Gh→List Nat
 | .ptr m _=>[m]
 | .cT k=>[k]
 | .pe k=>[k]
 | .ve l=>l.map (·.2)
 | .ow l=>l.map (·.2)
 | .cl ts=>ts.map (·.2)
 | .pw d=>[d]
 | .pc r=>[r]
 | _=>[]
def vp (nt:Nat) (V:St) (c:Bool) (q:Option Bool) (e:dP):Option dP :=
 da (e.ws.isEmpty&&(e.x.2.slot&&!e.x.1.wi)&&e.x.2.bP.all (Gf nt V)) (some ⟨match e.p,q with
  | none,none=>none
  | none,some q=>some (!c || q)
  | some p,none=>some (!c || p)
  | some p,some q=>some (!c || (q&&p)),(.gd c e.x.1,e.x.2),[]⟩)
def wI (nt:Nat) (c:Bool) (q:Option Bool) (e:dP):Option dP :=
 da (e.ws.all fun p=>Nat.ble nt p.1) (some ⟨some (match e.p,q with
  | none,none=>c
  | none,some q=>c&&q
  | some p,none=>c&&p
  | some p,some q=>c&&(q&&p)),e.x,e.ws⟩)
def lQ (nt:Nat) (o:Oper):Bool :=
 match o.op,o.dst with
 | .store _ _ _,none=>true
 | .store _ _ _,some _=>false
 | .call { callee := .value _,args:=_,argTypes:=_ },none=>true
 | _,some d=>Nat.blt d nt
 | _,none=>false
def watch (op:Op):List Nat :=
 match op with
 | .pick _ _ _=>(zq op).take 1
 | _=>zq op
section
variable (P:Program) (E:cI) (nt:Nat)
def nN (d:Option Nat) (j:Nat):Nat:=(j+1) * nt+d.getD 0
def ie (ops:Array Oper) (o:Oper) (V:St):Option dP :=
 da (lQ nt o) (match o.guard with
 | none=>qb P E nt (nN nt o.dst) V o.type o.op
 | some (j,b)=>match (ops[j]?).bind (·.dst) with
  | some t=>match V t with
   | (x,.no)=>match px x b,qb P E nt (nN nt o.dst) (fy nt (watch o.op) V) o.type o.op with
    | some c,some e=>da (Nat.blt t nt&&(o.dst.isSome&&(watch o.op).all fun t=>!(V t).1.bare.wi)) (cond (E.ld.contains (nN nt o.dst 1)) (wI nt c (lZ ((watch o.op).map fun t=>(V t).1)) e) (vp nt V c (lZ ((watch o.op).map fun t=>(V t).1)) e))
    | _,_=>none
   | _=>none
  | none=>none)
def eG (S:St) (d:Option Nat) (e:dP):St :=
 match d with
 | some d=>bN (cO S e.ws) d e.x
 | none=>cO S e.ws
variable {R:Type}
abbrev yV (p:Option Bool) (x:Option R):Option R:=match p with | none=>x | some p=>ck p x
def kW (ops:Array Oper) (o:Oper) (V:St):Option Bool:=cond (E.ld.contains (nN nt o.dst 2)) (match o.guard with
 | some (j,b)=>match (ops[j]?).bind (·.dst) with
  | some t=>match V t with
   | (x,.no)=>da (Nat.blt t nt) (px x b)
   | _=>none
  | none=>none
 | none=>none) none
noncomputable abbrev sJ (c:Option Bool) (d:Option Nat) (e:dP) (S:St) (F:St→Option R):Option R :=
 match c with
 | none=>yV e.p (F (eG S d e))
 | some c=>cond c (yV e.p (F (eG S d e))) (match d with | some d=>F (bN S d (.gd false e.x.1,.no)) | none=>none)
noncomputable abbrev rU (ops:Array Oper) (l:List Oper) (S:St) (K:St→Option R):Option R :=
 List.rec (motive:=fun _=>St→(St→Option R)→Option R) (fun S K=>K S)
  (fun o _ ih S K=>match ie P E nt ops o S with
   | some e=>sJ (kW E nt ops o S) o.dst e S fun S=>ih S K
   | none=>none) l S K
theorem tZ (ops:Array Oper) (o:Oper) (r:List Oper) (S:St) (K:St→Option R):rU P E nt ops (o :: r) S K=match ie P E nt ops o S with
 | some e=>sJ (kW E nt ops o S) o.dst e S fun S=>rU P E nt ops r S K
 | none=>none:=rfl
def fE (d:Option Nat) (e:dP):List Nat:=d.toList++e.ws.map (·.1)
def jW (ds:List Nat) (S:St):St:=fun k=>cond (ds.contains k) (.dead,.hid) (S k)
def lE (o:Oper):List Nat:=(o.after.toList.filter (Region.binds .any)).map (·.on)
def iv (ops:List Oper):List (List Nat) :=
 ops.foldl (fun acc o=>acc++[(lE o).flatMap fun e=>e :: (acc.getD e [])]) []
def mr (ops:List Oper):Bool:=ops.zipIdx.all fun (o,i)=>(lE o).all fun e=>decide (e<i)
def wg (ops:Array Oper):List Oper→St→Option (List (List Nat))
 | [],_=>some []
 | o :: r,S=>match ie P E nt ops o S with
  | some e=>match wg ops r (eG S o.dst e) with
   | some l=>some (fE o.dst e :: l)
   | none=>none
  | none=>none
def lf (W B:List (List Nat)) (i:Nat):List Nat :=
 (W.zipIdx.filter fun (_,j)=>!(Nat.beq j i)&&!((B.getD i []).contains j)&&!((B.getD j []).contains i)).flatMap (·.1)
noncomputable abbrev ud (ops:Array Oper) (W B:List (List Nat)) (i:Nat) (l:List Oper) (S:St) (K:St→Option R):Option R :=
 List.rec (motive:=fun _=>Nat→St→(St→Option R)→Option R) (fun _ S K=>K S)
  (fun o _ ih i S K=>match ie P E nt ops o (jW (lf W B i) S) with
   | some e=>da (decide (fE o.dst e=W.getD i [])&&(lf W B i).all fun k=>!((W.getD i []).contains k)) (yV e.p (ih (i+1) (eG S o.dst e) K))
   | none=>none) l i S K
theorem uc (ops:Array Oper) (W B:List (List Nat)) (i:Nat) (o:Oper) (r:List Oper) (S:St) (K:St→Option R):ud P E nt ops W B i (o :: r) S K=match ie P E nt ops o (jW (lf W B i) S) with
 | some e=>da (decide (fE o.dst e=W.getD i [])&&(lf W B i).all fun k=>!((W.getD i []).contains k)) (yV e.p (ud P E nt ops W B (i+1) r (eG S o.dst e) K))
 | none=>none:=rfl
noncomputable abbrev oX (ops:Array Oper) (draw:Bool) (S:St) (K:St→Option R):Option R :=
 match draw with
 | false=>rU P E nt ops ops.toList S K
 | true=>da (mr ops.toList) (match wg P E nt ops ops.toList S with
  | some W=>ud P E nt ops W (iv ops.toList) 0 ops.toList S K
  | none=>none)
inductive MX where
 | normal
 | exit (id:Nat)
 | goto (l:Nat)
 | ret
abbrev dj (R:Type):=MX→St→Option R
def jn (S:St):GL→List (Nat × Option Nat)
 | []=>[]
 | (k,.cT i) :: r=>(match S k with | (_,.cT j)=>[(i,some j)] | (.nl _,.no)=>[(i,none)] | _=>[])++jn S r
 | (m,.cl ts) :: r=>(match S m with
  | (.ag cs,.cl us)=>ts.filterMap fun t=>match fZ t.1 us,cs[t.1]? with
   | some j,_=>some (t.2,some j)
   | none,some (.nl _)=>some (t.2,none)
   | _,_=>none
  | _=>[])++jn S r
 | _ :: r=>jn S r
def ju (k:Nat):List (Nat × Option Nat)→Option (Option Nat)
 | []=>none
 | (i,j) :: r=>cond (Nat.beq i k) (some j) (ju k r)
def od (S:St) (i:Nat):GL→Option dS
 | []=>none
 | (k,.cT i') :: r=>match Nat.beq i' i,S k with | true,(.nl t,_)=>some t | _,_=>od S i r
 | (m,.cl ts) :: r=>match S m,ts.find? (fun t=>Nat.beq t.2 i) with
  | (.ag cs,_),some t=>match cs[t.1]? with | some (.nl t)=>some t | _=>od S i r
  | _,_=>od S i r
 | _ :: r=>od S i r
def n9 (ts:List (Nat × Nat)) (cs:List TV):List TV:=ts.foldl (fun cs t=>cs.set t.1 .pt) cs
def fj (ρ:List (Nat × Option Nat)) (k:Nat):Option Nat:=(ju k ρ).getD (some k)
def CR:Option TV→Bool
 | some (.nl _)=>true
 | _=>false
def pX (S:St) (G:GL) (ρ:List (Nat × Option Nat)) (p:Nat × Gh):Option (TV × List (Nat × Cell)) :=
 match p.2 with
 | .no=>da (Nat.blt p.1 nt) (pA S (S p.1))
 | .cT _=>da (Nat.blt p.1 nt) (match S p.1 with
  | (.pt,.cT _)=>some (.pt,[])
  | (.nl _,.no)=>some (.pt,[])
  | _=>none)
 | .ptr m o=>da (Nat.blt p.1 nt) (match S p.1 with
  | (.pt,.ptr m' o')=>da (Nat.beq m' m&&Nat.beq o' o) (some (.pt,[]))
  | _=>none)
 | .cl ts=>da (Nat.ble nt p.1) (match S p.1 with
  | (.ag cs,.cl us)=>da (ts.all fun t=>(fZ t.1 us).isSome || CR cs[t.1]?) (match iu S 0 cs.length (us.filter fun u=>(fZ u.1 ts).isNone) cs with
   | some (cs,ws)=>some (.ag (n9 ts (cs.map nrm)),ws)
   | none=>none)
  | _=>none)
 | .pv=>da (Nat.ble nt p.1) (match fj ρ p.1 with
  | some j=>match S j with
   | (y,.pv)=>some (y,[])
   | _=>none
  | none=>(od S p.1 G).map fun t=>(.sl t [],[]))
 | .lv=>da (Nat.ble nt p.1) (match fj ρ p.1 with
  | some j=>match S j with
   | (y,.pv)=>some (y,[(j,(y,.lv))])
   | (y,.lv)=>some (y,[])
   | _=>none
  | none=>(od S p.1 G).map fun t=>(.sl t [],[]))
 | _=>none
def lG (S:St) (G:GL) (ρ:List (Nat × Option Nat)):GL→Option (List TV × List (Nat × Cell))
 | []=>some ([],[])
 | p :: r=>match pX nt S G ρ p with
  | some (x,ws)=>match lG S G ρ r with
   | some (xs,us)=>some (x :: xs,ws++us)
   | none=>none
  | none=>none
def Gh.own:Gh→Bool
 | .cl _ | .pv | .lv | .pw _ | .pc _=>true
 | _=>false
def hM:List Nat→Bool
 | []=>true
 | k :: r=>(r.all fun j=>!Nat.beq j k)&&hM r
def DY (G:GL) (ρ:List (Nat × Option Nat)) (ws:List (Nat × Cell)):Bool :=
 hM (G.map (·.1))&&(ρ.all fun p=>decide (ju p.1 ρ=some p.2)&&(Nat.blt p.1 1000000 || decide (p.2=some p.1))&&Nat.ble nt p.1) &&
 hM (G.filterMap fun p=>cond p.2.own (fj ρ p.1) none)&&(G.all fun p=>p.2.bP.all fun i=>G.any fun q=>Nat.beq q.1 i&&q.2.own) &&
 G.all fun p=>match p.2 with
  | .cl _=>(ju p.1 ρ).isNone
  | .ptr m _=>(ju m ρ).isNone
  | .pv=>match fj ρ p.1 with
   | some j=>ws.all fun q=>!Nat.beq q.1 j
   | none=>true
  | _=>true
def dp:GL→List TV→St
 | (k,g) :: G,x :: xs=>fun j=>cond (Nat.beq j k) (x,g) (dp G xs j)
 | _,_=>fun _=>(.dead,.no)
def qp:List Nat→St→St
 | [],S=>S
 | k :: r,S=>match S k with
  | (x,.pw d)=>qp r (bN (bN S k (x,.pv)) d (.dead,.zz))
  | _=>qp r S
def EG (G:GL) (ρ:List (Nat × Option Nat)):List Nat:=G.filterMap fun p=>match p.2 with | .pv=>fj ρ p.1 | _=>none
def k9 (G:GL) (S:St):OT :=
 match lG nt S G (jn S G) G with
 | some (xs,ws)=>da (DY nt G (jn S G) ws) (some xs)
 | none=>none
def eR (G:GL) (S:St):OT:=k9 nt G (qp (EG G (jn S G)) S)
abbrev tX (f:St→dj R→Option R) (K:dj R):dj R:=fun e S =>
 match e with
 | .normal=>f S K
 | e=>K e S
abbrev lL (f:St→dj R→Option R) (G:GL) (K:dj R):dj R:=fun e S =>
 match e with
 | .normal=>match eR nt G S with
  | some xs=>f (dp G xs) K
  | none=>none
 | e=>K e S
abbrev gq (id:Nat) (K:dj R):dj R:=fun e S =>
 match e with
 | .exit j=>match Nat.beq j id with
  | true=>K .normal S
  | false=>K (.exit j) S
 | e=>K e S
def gY {ι:Type} (f:ι→dj R→Option R) (tr:MX→St→Option (Option ι)):Nat→ι→dj R→Option R
 | 0,_,_=>none
 | n+1,i,K=>f i fun e S =>
  match tr e S with
  | none=>K e S
  | some none=>none
  | some (some j)=>gY f tr n j K
open Classical in
noncomputable def CL (g:Nat→Option R):Option R:=if h:∃n r,g n=some r then g h.choose else none
noncomputable def uP {ι:Type} (f:ι→dj R→Option R) (tr:MX→St→Option (Option ι)) (i:ι) (K:dj R):Option R:=CL fun n=>gY f tr n i K
noncomputable abbrev ni {ι:Type} (f:ι→dj R→Option R) (tr:MX→St→Option (Option ι)) (K:dj R):dj R:=fun e S =>
 match tr e S with
 | none=>K e S
 | some none=>none
 | some (some j)=>uP f tr j K
def Af (G:GL):MX→St→Option (OT)
 | .normal,S=>some (eR nt G S)
 | _,_=>none
def BG (f:St→dj R→Option R) (G:GL) (xs:List TV):dj R→Option R:=f (dp G xs)
noncomputable def sZ (f:St→dj R→Option R) (G:GL) (xs:List TV) (K:dj R):Option R:=uP (BG f G) (Af nt G) xs K
noncomputable abbrev mP (f:St→dj R→Option R) (G:GL) (S:St) (K:dj R):Option R :=
 match eR nt G S with
 | some xs=>sZ nt f G xs K
 | none=>none
noncomputable abbrev pO (f:St→dj R→Option R) (G:GL) (K:dj R):dj R:=ni (BG f G) (Af nt G) K
abbrev Ev (R:Type):=Hint→St→dj R→Option R
def mQ (l:Nat):List (Nat × GL)→Option GL
 | []=>none
 | (k,G) :: r=>cond (Nat.beq k l) (some G) (mQ l r)
def tS (ls:List (Nat × GL)):MX→St→Option (Option (Nat × List TV))
 | .goto l,S=>some (match mQ l ls with
  | some G=>(eR nt G S).map fun xs=>(l,xs)
  | none=>none)
 | _,_=>none
def vb (f:Nat→Option (Ev R)) (ls:List (Nat × GL)) (a:Hint) (i:Nat × List TV) (K:dj R):Option R :=
 match f i.1,mQ i.1 ls with
 | some g,some G=>g a (dp G i.2) K
 | _,_=>none
noncomputable def rQ (f:Nat→Option (Ev R)) (ls:List (Nat × GL)) (a:Hint) (i:Nat × List TV) (K:dj R):Option R:=uP (vb f ls a) (tS nt ls) i K
noncomputable abbrev fN (f:Nat→Option (Ev R)) (ls:List (Nat × GL)) (a:Hint) (K:dj R):dj R:=ni (vb f ls a) (tS nt ls) K
abbrev nT (R:Type):=Ev R × (Nat→Option (Ev R))
abbrev dk (f:Ev R):nT R:=(f,fun _=>none)
abbrev vL (g b o:Ev R):Ev R:=fun h S K=>match h with
 | .j G a c=>g a S (lL nt (o c) G K)
 | h=>g h.s1 S (tX (b h.s2) K)
abbrev nJ (fa fb:Nat→Option (Ev R)) (b o:Ev R) (l:Nat):Option (Ev R):=match fa l with
 | some g=>some (vL nt g b o)
 | none=>match fb l with
  | some g=>some fun h=>g h.s2
  | none=>none
abbrev vK (fa fb:nT R) (o:Ev R):nT R:=(vL nt fa.1 fb.1 o,nJ nt fa.2 fb.2 fb.1 o)
open Classical in
noncomputable def both (x y:Option R):Option R:=if x=y then x else none
noncomputable abbrev tE (x:Operand) (fa fb:nT R):nT R:=dk fun h S K=>match dQ E nt S 0 x with
 | some (.b t,.no)=>cond t (fa.1 h.s1 S K) (fb.1 h.s2 S K)
 | some (.ub e,.no)=>cond e (both (fa.1 h.s1 S K) (fb.1 h.s2 S K)) (fb.1 h.s2 S K)
 | _=>none
noncomputable abbrev zA (o:Ev R):nT R:=dk fun h S K=>match h with
 | .l G a=>mP nt (o a) G S K
 | _=>none
noncomputable abbrev oS (f:nT R) (o:Nat→Option (Ev R)):nT R:=dk fun h S K=>match h with
 | .sc ls a=>f.1 a S (fN nt o ls a K)
 | _=>none
abbrev iy (l l':Nat):Option (Ev R):=cond (Nat.beq l l') (some fun _ S K=>K .normal S) none
abbrev r8 (l:Nat):nT R:=(fun _ S K=>K .normal S,iy l)
noncomputable def vk (c:Code):nT R :=
 Code.rec (motive:=fun _=>nT R)
  (dk fun _ S K=>K .normal S)
  (fun _ ops draw=>dk fun _ S K=>oX P E nt ops draw S (K .normal))
  (fun _ _ fa fb=>vK nt fa fb fb.1)
  (fun x _ _ fa fb=>tE E nt x fa fb)
  (fun id _ f=>dk fun h S K=>f.1 h.s1 S (gq id K))
  (fun _ f=>zA nt f.1)
  (fun _ _ _ _ _ _=>dk fun _ _ _=>none)
  (fun id=>dk fun _ S K=>K (.exit id) S)
  (fun _ f=>oS nt f f.2)
  r8
  (fun l=>dk fun _ S K=>K (.goto l) S)
  (dk fun _ S K=>K .ret S)
  (fun _=>dk fun _ _ _=>none) c
noncomputable def ib (c:Code):Ev R:=(vk P E nt c).1
noncomputable def lY (c:Code):Nat→Option (Ev R):=(vk P E nt c).2
noncomputable def wN (c:Code):nT R :=
 Code.rec (motive:=fun _=>nT R)
  (dk fun _ S K=>K .normal S)
  (fun _ ops draw=>dk fun _ S K=>oX P E nt ops draw S (K .normal))
  (fun _ d fa fb=>vK nt fa fb (ib P E nt d))
  (fun x _ _ fa fb=>tE E nt x fa fb)
  (fun id _ f=>dk fun h S K=>f.1 h.s1 S (gq id K))
  (fun d _=>zA nt (ib P E nt d))
  (fun _ _ _ _ _ _=>dk fun _ _ _=>none)
  (fun id=>dk fun _ S K=>K (.exit id) S)
  (fun d f=>oS nt f (lY P E nt d))
  r8
  (fun l=>dk fun _ S K=>K (.goto l) S)
  (dk fun _ S K=>K .ret S)
  (fun _=>dk fun _ _ _=>none) c
noncomputable def ev (c:Code):Ev R:=(wN P E nt c).1
def wk (n:Nat) (ms:List Md) (iB:List TV):St:=fun k =>
 cond (Nat.blt k n) (match ms.getD k .pl with
  | .pl=>(iB.getD k .dead,.no)
  | .rf=>(.pt,.ptr (1000000+k) 0)
  | _=>(.pt,.cT (1000000+k)))
 (cond (Nat.ble 1000000 k&&Nat.blt k (1000000+n)) (match ms.getD (k - 1000000) .pl with
  | .pl=>(.dead,.no)
  | .rf=>(iB.getD (k - 1000000) .dead,.cl [])
  | _=>(iB.getD (k - 1000000) .dead,.pv)) (.dead,.no))
def vf (n i c:Nat) (e:Bool) (iB:List TV):St:=fun k =>
 cond (Nat.blt k n) (cond (Nat.beq k i) (.pt,.ptr 1000000 0) (iB.getD k .dead,.no))
 (cond (Nat.beq k 1000000) (iB.getD i .dead,.cl (cond e [(c,1000001)] []))
 (cond (e&&Nat.beq k 1000001) (iB.getD n .dead,.pv) (.dead,.no)))
def B3 (n:Nat) (sg:cr) (iB:List TV):St:=match sg.kd with
 | .pl=>wk n sg.md iB
 | .wr i c e=>vf n i c e iB
 | .nw _=>wk n [] iB
def jB (own:List Nat):Nat→List ResultVar→St→Option (List TV × St)
 | _,[],S=>some ([],S)
 | i,.tmp _ :: rs,S=>match jB own (i+1) rs S with
  | some (xs,S)=>some (.dead :: xs,S)
  | none=>none
 | i,.cell a t :: rs,S=>da (Nat.blt a nt&&!own.contains i) (match S a,fe P t with
  | (.pt,.ptr m o),some (n,agg)=>da (agg || Nat.beq n 1) (match S m with
   | (.ag cs,.cl ts)=>match iu S o n ts cs with
    | some (cs,ws)=>match ij cs o n agg with
     | some x=>match jB own (i+1) rs (cO S ws) with
      | some (xs,S)=>some (CJ x :: xs,S)
      | none=>none
     | none=>none
    | none=>none
   | _=>none)
  | _,_=>none)
def iE (own:List Nat):Nat→List ResultVar→GL
 | _,[]=>[]
 | i,.tmp t :: rs=>cond (own.contains i) [(t,.cT (900000+i)),(900000+i,.pv)] [(t,.no)]++iE own (i+1) rs
 | i,.cell _ _ :: rs=>iE own (i+1) rs
def jd:Nat→List Md→GL
 | _,[]=>[]
 | k,.rf :: ms=>(1000000+k,.cl []) :: jd (k+1) ms
 | k,.sl :: ms=>(1000000+k,.pv) :: jd (k+1) ms
 | k,.sm :: ms=>(1000000+k,.pv) :: jd (k+1) ms
 | k,_ :: ms=>jd (k+1) ms
def iQ (own:List Nat) (H:St):Nat→List ResultVar→List TV→List TV
 | i,.tmp t :: rs,_ :: xs=>cond (own.contains i) (H (900000+i)).1 (H t).1 :: iQ own H (i+1) rs xs
 | i,.cell _ _ :: rs,x :: xs=>x :: iQ own H (i+1) rs xs
 | _,_,_=>[]
def kR (H:St):Nat→List Md→List TV
 | _,[]=>[]
 | k,.rf :: ms=>(H (1000000+k)).1 :: kR H (k+1) ms
 | k,.sl :: ms=>(H (1000000+k)).1 :: kR H (k+1) ms
 | k,_ :: ms=>kR H (k+1) ms
def jv (H:St):Nat→List Md→List TV
 | _,[]=>[]
 | k,.sm :: ms=>(H (1000000+k)).1 :: jv H (k+1) ms
 | k,_ :: ms=>jv H (k+1) ms
def wP (fn:Func) (sg:cr):GL:=iE sg.own 0 fn.results.toList++jd 0 sg.md
def uj (fn:Func) (sg:cr):Option ((Nat × TypeId) × Nat) :=
 match fn.results.toList,sg.own with
 | [.cell a t],[j]=>cond (Nat.blt j 1000) none (some ((a,t),j - 1000))
 | _,_=>none
def uT (a m c:Nat) (sg:cr):GL:=(a,.ptr m 0) :: (m,.cl [(c,900000)]) :: (900000,.pv) :: jd 0 sg.md
def Dt (a:Nat) (t:TypeId) (c:Nat) (sg:cr) (S:St):OT :=
 match S a,fe P t with
 | (.pt,.ptr m 0),some (n,true)=>match eR nt (uT a m c sg) S with
  | some ys=>match dp (uT a m c sg) ys m with
   | (.ag cs,_)=>da (Nat.beq n cs.length&&Nat.blt a nt) (some (.ag (cs.set c (dp (uT a m c sg) ys 900000).1) :: (kR (dp (uT a m c sg) ys) 0 sg.md++jv (dp (uT a m c sg) ys) 0 sg.md)))
   | _=>none
  | none=>none
 | _,_=>none
def uS (fn:Func) (sg:cr) (S:St):OT :=
 match uj fn sg with
 | some ((a,t),c)=>Dt P nt a t c sg S
 | none=>match jB P nt sg.own 0 fn.results.toList S with
  | some (xs,S)=>match eR nt (wP fn sg) S with
   | some ys=>some (iQ sg.own (dp (wP fn sg) ys) 0 fn.results.toList xs++kR (dp (wP fn sg) ys) 0 sg.md++jv (dp (wP fn sg) ys) 0 sg.md)
   | none=>none
  | none=>none
def Bg (fn:Func) (c:Nat) (S:St):OT :=
 match jB P nt [] 0 fn.results.toList S with
 | some (xs,S)=>match eR nt ((1000000,.cl [(c,910000)]) :: (910000,.pv) :: iE [] 0 fn.results.toList) S with
  | some ys=>some (iQ [] (dp ((1000000,.cl [(c,910000)]) :: (910000,.pv) :: iE [] 0 fn.results.toList) ys) 0 fn.results.toList xs++[(dp ((1000000,.cl [(c,910000)]) :: (910000,.pv) :: iE [] 0 fn.results.toList) ys 1000000).1,(dp ((1000000,.cl [(c,910000)]) :: (910000,.pv) :: iE [] 0 fn.results.toList) ys 910000).1])
  | none=>none
 | none=>none
def gN (t m:Nat):Option Nat→GL
 | none=>[(t,.ptr m 0),(m,.cl [])]
 | some c=>[(t,.ptr m 0),(m,.cl [(c,910000)]),(910000,.pv)]
def Bh (fn:Func) (oc:Option Nat) (S:St):OT :=
 match fn.results.toList with
 | .tmp t :: rs=>match S t with
  | (.pt,.ptr m 0)=>match jB P nt [] 1 rs S with
   | some (xs,S)=>match eR nt (gN t m oc++iE [] 1 rs) S with
    | some ys=>some ((dp (gN t m oc++iE [] 1 rs) ys m).1 :: (iQ [] (dp (gN t m oc++iE [] 1 rs) ys) 1 rs xs++(match oc with | none=>[] | some _=>[(dp (gN t m oc++iE [] 1 rs) ys 910000).1])))
    | none=>none
   | none=>none
  | _=>none
 | _=>none
def qS (fn:Func) (sg:cr) (S:St):OT:=match sg.kd with
 | .pl=>uS P nt fn sg S
 | .wr _ c _=>Bg P nt fn c S
 | .nw oc=>Bh P nt fn oc S
def sr (fn:Func) (sg:cr):dj (List TV):=fun e S =>
 match e with
 | .ret=>qS P nt fn sg S
 | .normal=>qS P nt fn sg S
 | _=>none
def pB (fn:Func) (sg:cr):Bool :=
 Nat.blt fn.ntmps 900000&&Nat.ble fn.params.size fn.ntmps&&Nat.ble sg.md.length fn.params.size&&Nat.beq sg.bE fn.results.size&&Nat.blt fn.results.size 1000&&((uj fn sg).isSome || sg.own.all fun i=>Nat.blt i sg.bE)&&hM sg.own&&!(fn.name == "runtime.NumGoroutine")
def uR (fn:Func) (sg:cr) (ins:List TV):Bool:=match sg.kd with
 | .pl=>Nat.beq ins.length fn.params.size
 | .wr _ _ _=>sg.md.isEmpty&&Nat.beq ins.length (fn.params.size+1)
 | .nw _=>sg.md.isEmpty&&Nat.beq ins.length fn.params.size
def fD:List Md→List TV→List TV
 | .sm :: ms,x :: xs=>x :: fD ms xs
 | _ :: ms,_ :: xs=>fD ms xs
 | _,_=>[]
noncomputable def dK (f:Nat) (sg:cr) (h:Hint) (ins:List TV):OT :=
 match P.funcs[f]? with
 | some fn=>match fn.body with
  | some c=>da (pB fn sg&&uR fn sg ins) (ev P E fn.ntmps c h (B3 fn.params.size sg ins) (sr P fn.ntmps fn sg))
  | none=>none
 | none=>none
end
end Go.Eng
namespace Go.Eng
open Go.RowKit
def Value.dv:Value→Option Nat
 | .pointer (some a)=>some a.block
 | .slice (some a) _ _=>some a.block
 | _=>none
def Gh.ta:Gh→Bool
 | .pw _ | .pc _=>true
 | _=>false
def Gh.s9:Gh→Bool
 | .pw _=>true
 | _=>false
def gb (τ:Nat→Value) (g:Gh) (v:Value):Option Nat:=match g with
 | .pw d=>if Value.dv v=Value.dv (τ d) then none else Value.dv v
 | g=>if g.own then Value.dv v else none
def dv (τ:Nat→Value) (S:St) (k:Nat):Option Nat:=gb τ (S k).2 (τ k)
theorem Bd {τ:Nat→Value} {g:Gh} {v:Value} {b:Nat} (h:gb τ g v=some b):g.own=true∧Value.dv v=some b:=by
 unfold gb at h
 split at h
 ·split at h
  ·cases h
  ·exact ⟨rfl,h⟩
 ·split at h
  ·exact ⟨‹_›,h⟩
  ·cases h
theorem wF {τ:Nat→Value} {g:Gh} {v:Value} {b:Nat} (ho:g.own=true) (hw:g.s9=false) (h:Value.dv v=some b):gb τ g v=some b:=by
 unfold gb
 split
 ·cases hw
 ·rw [ar ho,h]
theorem wE {τ τ':Nat→Value} {g:Gh} {v:Value} (h:∀m∈g.bP,τ' m=τ m):gb τ' g v=gb τ g v:=by
 unfold gb
 split
 ·rw [h _ (List.mem_singleton.2 rfl)]
 ·rfl
def cV (R:Reach) (w:World) (p:Bool) (v:Value) (x:TV):Prop :=
 ∃t l,x = .sl t l∧((l=[]∧v = .slice none 0 0)∨∃g cap cur e fz,v = .slice (some ⟨g,0,none⟩) l.length cap∧w.heap[g]?=some (.cells cur e fz)∧(∀o,o<cur.size→¬(fz.1≤o∧o<fz.2)) ∧
  cur.size=cap * t.size∧l.length≤cap∧cap≤maxLen∧bX R w ((l.map t.tv).flatMap TV.cells) (cur.toList.take (l.length * t.size))∧∀o,R g o ↔ (p=true∧o<l.length * t.size))
def BU (R:Reach) (w:World) (v:Value) (x:TV) (u:Value):Prop :=
 (cV R w false v x∧(Value.dv v=none∨Value.dv v≠Value.dv u))∨∃t l g cap n,x = .sl t l∧v = .slice (some ⟨g,0,none⟩) l.length cap∧u = .slice (some ⟨g,0,none⟩) n cap
def oM (R:Reach) (w:World) (τ:Nat→Value) (v:Value) (x:TV) (ts:List (Nat × Nat)):Prop :=
 ∃b cs e xs,v = .pointer (some ⟨b,0,none⟩)∧w.heap[b]?=some (.cells ⟨cs⟩ e (0,0))∧x = .ag xs∧bX R w xs cs∧(∀t∈ts,cs[t.1]?=some (τ t.2))∧∀o,¬R b o
def eX (R:Reach) (w:World) (τ:Nat→Value) (x:TV) (g:Gh) (v:Value):Prop :=
 match g with
 | .ptr m o=>∃b,τ m = .pointer (some ⟨b,0,none⟩)∧v = .pointer (some ⟨b,o,none⟩)
 | .cT k=>v=τ k∧v.oneCell'=true
 | .pe k=>∃b i s o,Value.dv (τ k)=some b∧x = .el i s o∧v = .pointer (some ⟨b,i * s+o,none⟩)
 | .ve l=>∃ys vs,v = .tuple ⟨ys⟩∧x = .tu vs∧dW R w vs ys∧∀p∈l,ys[p.1]?=some (τ p.2)
 | .ow l=>∃ys vs,v = .agg ⟨ys⟩∧x = .ag vs∧bX R w vs ys∧∀p∈l,ys[p.1]?=some (τ p.2)
 | _=>Rep R w x v
def cz (R:Reach) (w:World) (τ:Nat→Value) (x:TV) (g:Gh) (v:Value):Prop :=
 match x with
 | .gd false _=>v=undef
 | .gd true x=>eX R w τ x g v
 | x=>eX R w τ x g v
def eZ (R:Reach) (w:World) (τ:Nat→Value) (x:TV) (g:Gh) (v:Value):Prop :=
 match g with
 | .cl ts=>oM R w τ v x ts
 | .pv=>cV R w false v x
 | .pw d=>BU R w v x (τ d)
 | .pc _=>cV R w false v x
 | .lv=>cV R w true v x
 | .us=>Rep R w x v
 | .zz=>True
 | .hid=>True
 | g=>cz R w τ x g v
structure Core (nt:Nat) (R:Reach) (w:World) (cg:Nat→Prop) (τ:Nat→Value) (S:St):Prop where
 key:∀k,eZ R w τ (S k).1 (S k).2 (τ k)
 sep:∀k k' g,dv τ S k=some g→dv τ S k'=some g→k=k'
 cg:∀k g,dv τ S k=some g→cg g
 inv:∀j,∀k∈(S j).2.bP,nt≤k∧(S k).2 ≠ .no
 j9:∀b o,R b o→b<w.heap.size
 slt:∀k,k<nt→(S k).2.slot=true
 par:∀k d,(S k).2 = .pw d→(S d).2 = .pc k∧∃t l m,(S k).1 = .sl t l∧(S d).1 = .sl t (l++m)
theorem cZ {τ:Nat→Value} {S:St} {k g:Nat} (h:dv τ S k=some g):(S k).2.own=true∧Value.dv (τ k)=some g:=Bd h
theorem cV.lt {R:Reach} {w:World} {p:Bool} {v:Value} {x:TV} {g:Nat} (h:cV R w p v x) (hb:Value.dv v=some g):g<w.heap.size:=by
 obtain ⟨t,l,rfl,⟨_,rfl⟩ | ⟨g',cap,cur,e,fz,rfl,h,_⟩⟩:=h
 ·cases hb
 ·cases hb;exact (Array.getElem?_eq_some_iff.1 h).1
theorem oM.lt {R:Reach} {w:World} {τ:Nat→Value} {v:Value} {x:TV} {ts:List (Nat × Nat)} {g:Nat} (h:oM R w τ v x ts) (hb:Value.dv v=some g):g<w.heap.size:=by
 obtain ⟨b,cs,e,xs,rfl,h,_⟩:=h
 cases hb;exact (Array.getElem?_eq_some_iff.1 h).1
def kv (S:St) (d:Nat) (x:Cell):St:=fun k=>if k=d then x else S k
theorem mf (S:St) (d:Nat) (x:Cell):kv S d x=bN S d x:=by
 funext k
 unfold kv bN
 by_cases h:k=d
 ·simp [h]
 ·rw [ak h]
  cases hb:Nat.beq k d with
  | true=>exact (h (aj hb)).elim
  | false=>rfl
section
variable {nt:Nat} {R R':Reach} {w w':World} {cg sX:Nat→Prop} {τ τ':Nat→Value} {S S':St}
theorem Core.lt (h:Core nt R w cg τ S) {k g:Nat} (hb:dv τ S k=some g):g<w.heap.size:=by
 have lp:=hb
 obtain ⟨ho,hb⟩:=cZ hb
 have hk:=h.key k
 cases hg:(S k).2 <;> rw [hg] at ho hk <;> first | (cases ho;done) | exact oM.lt hk hb | exact cV.lt hk hb | skip
 unfold dv at lp;rw [hg] at lp
 rcases hk with ⟨hk,_⟩ | ⟨t,l,g',cap,n,_,e1,e2⟩
 ·exact cV.lt hk hb
 ·simp only [gb,e1,e2,Value.dv,if_true] at lp;cases lp
theorem cV.cq {p:Bool} {v:Value} {x:TV} (h:cV R w p v x) (k:cH R w R' w') (hh:∀g,Value.dv v=some g→w'.heap[g]?=w.heap[g]?∧∀o,R' g o→R g o):cV R' w' p v x:=by
 obtain ⟨t,l,rfl,h | ⟨g,cap,cur,e,fz,rfl,h1,h2,h3,h4,h5,h6,h7⟩⟩:=h
 ·exact ⟨t,l,rfl,.inl h⟩
 ·obtain ⟨e1,e2⟩:=hh g rfl
  exact ⟨t,l,rfl,.inr ⟨g,cap,cur,e,fz,rfl,e1.trans h1,h2,h3,h4,h5,h6.mono k,fun o=>⟨fun hr=>(h7 o).1 (e2 o hr),fun hr=>(k g o ((h7 o).2 hr)).1⟩⟩⟩
theorem eX.cq {x:TV} {g:Gh} {v:Value} (h:eX R w τ x g v) (k:cH R w R' w') (ht:∀m∈g.bP,τ' m=τ m):eX R' w' τ' x g v:=by
 cases g <;> simp only [eX,Gh.bP,List.mem_singleton,forall_eq,aU,forall_exists_index,and_imp,forall_apply_eq_imp_iff₂] at * <;> first | exact h.mono k | (rw [ht];exact h) | skip
 all_goals
  obtain ⟨ys,vs,h1,h2,h3,h4⟩:=h
  exact ⟨ys,vs,h1,h2,h3.mono k,fun p hp=>by rw [ht p hp];exact h4 p hp⟩
theorem eZ.cq {x:TV} {g:Gh} {v:Value} (h:eZ R w τ x g v) (k:cH R w R' w') (ht:∀m∈g.bP,τ' m=τ m) (hh:∀b,gb τ g v=some b→w'.heap[b]?=w.heap[b]?∧∀o,R' b o→R b o):eZ R' w' τ' x g v:=by
 have slot:cz R w τ x g v→cz R' w' τ' x g v:=fun h=>by
  unfold cz at h ⊢
  split at h <;> first | exact h | exact eX.cq h k ht
 cases g <;> simp only [eZ] at h ⊢ <;> first | exact slot h | exact h.cq k hh | exact h.mono k | trivial | skip
 case pw d =>
  rw [ht d (List.mem_singleton.2 rfl)]
  rcases h with ⟨h1,h2⟩ | h
  ·refine .inl ⟨h1.cq k fun b hb=>hh b ?_,h2⟩
   rcases h2 with h2 | h2
   ·rw [h2] at hb;cases hb
   ·simp only [gb,ak h2];exact hb
  ·exact .inr h
 rename_i ts
 obtain ⟨b,cs,e,xs,rfl,h1,rfl,h2,h3,h4⟩:=h
 obtain ⟨e1,e2⟩:=hh b rfl
 exact ⟨b,cs,e,xs,rfl,e1.trans h1,rfl,h2.mono k,fun t Gq=>by rw [ht _ (List.mem_map_of_mem (f:=(·.2)) Gq)];exact h3 t Gq,fun o hr=>h4 o (e2 o hr)⟩
theorem Core.step (h:Core nt R w cg τ S) (U:Nat→Prop) (cq:cH R w R' w') (out:∀k,¬U k→S' k=S k∧τ' k=τ k)
  (u9:∀k g,¬U k→dv τ S k=some g→w'.heap[g]?=w.heap[g]?∧∀o,R' g o→R g o)
  (new:∀k,U k→eZ R' w' τ' (S' k).1 (S' k).2 (τ' k)) (Ey:∀k,U k→τ' k=τ k∨k<nt∨(S k).2 = .no) (no:∀k,U k→k<nt∨(S' k).2 ≠ .no)
  (D0:∀k,U k→((S k).2.ta=false∧(S' k).2.ta=false)∨((S k).2.s9=false∧S' k=S k)) (_grow:∀k,U k→(S' k).2.own=true→(S k).2.own=true∨(S k).2 = .no)
  (own:∀k g,U k→dv τ' S' k=some g→sX g∧(∀k',U k'→k'≠k→dv τ' S' k'≠some g)∧(w.heap.size≤g∨∃k0,U k0∧dv τ S k0=some g))
  (min:∀g,cg g→sX g) (inv:∀k,U k→∀j∈(S' k).2.bP,nt≤j∧(S' j).2 ≠ .no) (j9:∀b o,R' b o→b<w'.heap.size) (slt:∀k,U k→k<nt→(S' k).2.slot=true):Core nt R' w' sX τ' S':=by
 have ht:∀j,∀m∈(S j).2.bP,τ' m=τ m:=fun j m hm=>by
  obtain ⟨h1,h2⟩:=h.inv j m hm
  by_cases hu:U m
  ·rcases Ey m hu with e | e | e
   ·exact e
   ·omega
   ·exact (h2 e).elim
  ·exact (out m hu).2
 have hb:∀k,¬U k→dv τ' S' k=dv τ S k:=fun k hk=>by unfold dv;rw [(out k hk).1,(out k hk).2,wE (ht k)]
 have hn:∀j,(S j).2 ≠ .no→nt≤j→(S' j).2 ≠ .no:=fun j hj hl=>by
  by_cases hu:U j
  ·rcases no j hu with e | e
   ·omega
   ·exact e
  ·rw [(out j hu).1];exact hj
 refine ⟨fun k=>?_,fun k k' g h1 h2=>?_,fun k g hk=>?_,fun j k hk=>?_,j9,fun k hk=>?_,fun k d hk=>?_⟩
 ·by_cases hu:U k
  ·exact new k hu
  ·obtain ⟨e1,e2⟩:=out k hu
   rw [e1,e2]
   exact (h.key k).cq cq (ht k) fun b fJ=>u9 k b hu fJ
 ·by_cases e:k=k'
  ·exact e
  ·-- one of U,one not: nothing in common
   have one:∀k k' g,U k→¬U k'→dv τ' S' k=some g→dv τ' S' k'=some g→False:=fun k k' g u u' h1 h2=>by
    obtain ⟨_,_,h3 | ⟨k0,u0,h3⟩⟩:=own k g u h1
    ·rw [hb k' u'] at h2
     have:=h.lt h2;omega
    ·rw [hb k' u'] at h2
     exact u' (h.sep k0 k' g h3 h2 ▸ u0)
   by_cases u:U k <;> by_cases u':U k'
   ·exact ((own k g u h1).2.1 k' u' (Ne.symm e) h2).elim
   ·exact (one k k' g u u' h1 h2).elim
   ·exact (one k' k g u' u h2 h1).elim
   ·rw [hb k u] at h1;rw [hb k' u'] at h2
    exact h.sep k k' g h1 h2
 ·by_cases hu:U k
  ·exact (own k g hu hk).1
  ·rw [hb k hu] at hk;exact min g (h.cg k g hk)
 ·by_cases hu:U j
  ·exact inv j hu k hk
  ·rw [(out j hu).1] at hk
   obtain ⟨h1,h2⟩:=h.inv j k hk
   exact ⟨h1,hn k h2 h1⟩
 ·by_cases hu:U k
  ·exact slt k hu hk
  ·rw [(out k hu).1];exact h.slt k hk
 ·have e1:S' k=S k:=by
   by_cases hu:U k
   ·rcases D0 k hu with e | e
    ·have:=e.2;rw [hk] at this;cases this
    ·exact e.2
   ·exact (out k hu).1
  rw [e1] at hk
  obtain ⟨p,q⟩:=h.par k d hk
  have e2:S' d=S d:=by
   by_cases hu:U d
   ·rcases D0 d hu with e | e
    ·have:=e.1;rw [p] at this;cases this
    ·exact e.2
   ·exact (out d hu).1
  rw [e1,e2]
  exact ⟨p,q⟩
theorem Core.waits (h:Core nt R w cg τ S) {k d:Nat} {x:TV} (hk:S k=(x,.pw d)):cV R w false (τ k) x:=by
 have h1:=h.key k
 rw [hk] at h1
 rcases h1 with ⟨h1,_⟩ | ⟨t,l,g,cap,n,rfl,e1,e2⟩
 ·exact h1
 ·obtain ⟨p1,t',l',m,q1,q2⟩:=h.par k d (by rw [hk])
  rw [hk] at q1;cases q1
  have h2:=h.key d
  rw [p1,q2] at h2
  obtain ⟨t2,l2,e3,⟨_,e4⟩ | ⟨g',FG,cur,e,fz,e4,k1,k2,k3,k4,k5,k6,k7⟩⟩:=h2
  ·rw [e2] at e4;cases e4
  ·cases e3
   rw [e2] at e4;cases e4
   refine ⟨t,l,rfl,.inr ⟨g,cap,cur,e,fz,e1,k1,k2,k3,by rw [al] at k4;omega,k5,?_,fun o=>⟨fun hr=>by simpa using (k7 o).1 hr,fun hr=>by simp at hr⟩⟩⟩
   have hl:l.length * t.size≤(l++m).length * t.size:=aT _ (by rw [al];omega)
   have:=k6.take (l.length * t.size)
   rw [List.take_take,Nat.min_eq_left hl] at this
   rw [List.map_append,List.flatMap_append] at this
   have e5:((l.map t.tv).flatMap TV.cells).length=l.length * t.size:=by
    have:∀l:List t.El,((l.map t.tv).flatMap TV.cells).length=l.length * t.size:=fun l=>by
     induction l with
     | nil=>simp
     | cons a r ih=>simp only [aQ,List.flatMap_cons,al,ih,dS.fT,aK,Nat.succ_mul];omega
    exact this l
   rw [List.take_append_of_le_length (by omega),List.take_of_length_le (by omega)] at this
   exact this
theorem Core.recover (h : Core nt R w cg τ S) {k d : Nat} {x : TV} (hk : S k = (x, .pw d)) : Core nt R w cg τ (kv (kv S k (x, .pv)) d (.dead, .zz)) := by
  obtain ⟨p1, _⟩ := h.par k d (by rw [hk])
  have fP : d ≠ k := by rintro rfl; rw [hk] at p1; cases p1
  have xJ : nt ≤ d := (h.inv k d (by rw [hk]; exact List.mem_singleton.2 rfl)).1
  have Gz : nt ≤ k := by rcases Nat.lt_or_ge k nt with e | e; · have := h.slt k e; rw [hk] at this; cases this
                         · exact e
  have e1 : ∀ j, kv (kv S k (x, .pv)) d (.dead, .zz) j = if j = d then (.dead, .zz) else if j = k then (x, .pv) else S j := fun j => rfl
  generalize kv (kv S k (x, .pv)) d (.dead, .zz) = S' at e1
  have s1 : S' d = (.dead, .zz) := by rw [e1, ar rfl]
  have s2 : S' k = (x, .pv) := by rw [e1, ak (Ne.symm fP), ar rfl]
  have s3 : ∀ j, j ≠ d → j ≠ k → S' j = S j := fun j a b => by rw [e1, ak a, ak b]
  -- whose block is whose
  have bl : ∀ j g, dv τ S' j = some g → dv τ S j = some g ∨ (j = k ∧ dv τ S d = some g) := fun j g hj => by
    by_cases a : j = d
    · rw [a] at hj; have := (cZ hj).1; rw [s1] at this; cases this
    · by_cases b : j = k
      · subst b
        have hv := (cZ hj).2
        by_cases c : Value.dv (τ j) = Value.dv (τ d)
        · right; exact ⟨rfl, by unfold dv; rw [p1]; exact wF rfl rfl (by rw [← c]; exact hv)⟩
        · left; unfold dv; rw [hk]; simp only [gb, ak c]; exact hv
      · left; unfold dv at hj ⊢; rw [s3 j a b] at hj; exact hj
  refine ⟨fun j => ?_, fun j j' g h1 h2 => ?_, fun j g hj => ?_, fun j m hm => ?_, h.j9, fun j hj => ?_, fun j c hj => ?_⟩
  · by_cases a : j = d
    · rw [a, s1]; trivial
    · by_cases b : j = k
      · rw [b, s2]; exact h.waits hk
      · rw [s3 j a b]; exact h.key j
  · rcases bl j g h1 with q | ⟨q, q'⟩ <;> rcases bl j' g h2 with r | ⟨r, r'⟩
    · exact h.sep _ _ _ q r
    · have := h.sep _ _ _ q r'
      rw [this] at h1; have := (cZ h1).1; rw [s1] at this; cases this
    · have := h.sep _ _ _ r q'
      rw [this] at h2; have := (cZ h2).1; rw [s1] at this; cases this
    · rw [q, r]
  · rcases bl j g hj with q | ⟨_, q⟩
    · exact h.cg _ _ q
    · exact h.cg _ _ q
  · have yK : m ∈ (S j).2.bP := by
      by_cases a : j = d
      · rw [a, s1] at hm; simp [Gh.bP] at hm
      · by_cases b : j = k
        · rw [b, s2] at hm; simp [Gh.bP] at hm
        · rw [s3 j a b] at hm; exact hm
    obtain ⟨h1, h2⟩ := h.inv j m yK
    refine ⟨h1, ?_⟩
    by_cases a : m = d
    · rw [a, s1]; simp
    · by_cases b : m = k
      · rw [b, s2]; simp
      · rw [s3 m a b]; exact h2
  · rw [s3 j (by omega) (by omega)]; exact h.slt j hj
  · have a : j ≠ d := by rintro rfl; rw [s1] at hj; cases hj
    have b : j ≠ k := by rintro rfl; rw [s2] at hj; cases hj
    rw [s3 j a b] at hj
    obtain ⟨q1, q2⟩ := h.par j c hj
    have c1 : c ≠ d := by rintro rfl; rw [p1] at q1; cases q1; exact b rfl
    have c2 : c ≠ k := by rintro rfl; rw [hk] at q1; cases q1
    rw [s3 j a b, s3 c c1 c2]
    exact ⟨q1, q2⟩
theorem Core.DJ (h:Core nt R w cg τ S) {k d:Nat} {t:dS} {l m:List t.El} {y:TV} (Gz:nt≤k) (H0:nt≤d) (hk:S k=(y,.zz)) (hd:S d=(.sl t (l++m),.pv)) (hp:BU R w (τ k) (.sl t l) (τ d)) (hm:∀b,gb τ (.pw d) (τ k)=some b→cg b∧∀j,dv τ S j≠some b) :
  Core nt R w cg τ (kv (kv S k (.sl t l,.pw d)) d (.sl t (l++m),.pc k)):=by
 have fP:d≠k:=by rintro rfl;rw [hk] at hd;cases hd
 have e1:∀j,kv (kv S k (.sl t l,.pw d)) d (.sl t (l++m),.pc k) j=if j=d then (.sl t (l++m),.pc k) else if j=k then (.sl t l,.pw d) else S j:=fun j=>rfl
 generalize kv (kv S k (.sl t l,.pw d)) d (.sl t (l++m),.pc k)=S' at e1
 have s1:S' d=(.sl t (l++m),.pc k):=by rw [e1,ar rfl]
 have s2:S' k=(.sl t l,.pw d):=by rw [e1,ak (Ne.symm fP),ar rfl]
 have s3:∀j,j≠d→j≠k→S' j=S j:=fun j a b=>by rw [e1,ak a,ak b]
 have bl:∀j g,dv τ S' j=some g→(dv τ S j=some g∧j≠k)∨(j=k∧gb τ (.pw d) (τ k)=some g):=fun j g hj=>by
  by_cases a:j=d
  ·subst a;left
   refine ⟨?_,fP⟩
   have:=(cZ hj).2
   unfold dv;rw [hd];exact wF rfl rfl this
  ·by_cases b:j=k
   ·subst b;right;unfold dv at hj;rw [s2] at hj;exact ⟨rfl,hj⟩
   ·left;unfold dv at hj ⊢;rw [s3 j a b] at hj;exact ⟨hj,b⟩
 refine ⟨fun j=>?_,fun j j' g h1 h2=>?_,fun j g hj=>?_,fun j q hq=>?_,h.j9,fun j hj=>?_,fun j c hj=>?_⟩
 ·by_cases a:j=d
  ·rw [a,s1];have:=h.key d;rw [hd] at this;exact this
  ·by_cases b:j=k
   ·rw [b,s2];exact hp
   ·rw [s3 j a b];exact h.key j
 ·rcases bl j g h1 with ⟨q,_⟩ | ⟨q,q'⟩ <;> rcases bl j' g h2 with ⟨r,_⟩ | ⟨r,r'⟩
  ·exact h.sep _ _ _ q r
  ·exact ((hm g r').2 j q).elim
  ·exact ((hm g q').2 j' r).elim
  ·rw [q,r]
 ·rcases bl j g hj with ⟨q,_⟩ | ⟨_,q⟩
  ·exact h.cg _ _ q
  ·exact (hm g q).1
 ·by_cases a:j=d
  ·rw [a,s1] at hq
   simp only [Gh.bP,List.mem_singleton] at hq
   subst hq;exact ⟨Gz,by rw [s2];simp⟩
  ·by_cases b:j=k
   ·rw [b,s2] at hq
    simp only [Gh.bP,List.mem_singleton] at hq
    subst hq;exact ⟨H0,by rw [s1];simp⟩
   ·rw [s3 j a b] at hq
    obtain ⟨h1,h2⟩:=h.inv j q hq
    refine ⟨h1,?_⟩
    by_cases a:q=d
    ·rw [a,s1];simp
    ·by_cases b:q=k
     ·rw [b,s2];simp
     ·rw [s3 q a b];exact h2
 ·rw [s3 j (by omega) (by omega)];exact h.slt j hj
 ·have a:j≠d:=by rintro rfl;rw [s1] at hj;cases hj
  by_cases b:j=k
  ·rw [b,s2] at hj;cases hj
   rw [b,s1,s2]
   exact ⟨rfl,t,l,m,rfl,rfl⟩
  ·rw [s3 j a b] at hj
   obtain ⟨q1,q2⟩:=h.par j c hj
   have c1:c≠d:=by rintro rfl;rw [hd] at q1;cases q1
   have c2:c≠k:=by rintro rfl;rw [hk] at q1;cases q1
   rw [s3 j a b,s3 c c1 c2]
   exact ⟨q1,q2⟩
end
end Go.Eng
namespace Go.Eng
open Go.RowKit
def kq {X:Type} (σ:Nat→X) (t:Nat) (x:X):Nat→X:=fun k=>if k=t then x else σ k
theorem dh {X:Type} (σ:Nat→X) (t:Nat) (x:X):kq σ t x t=x:=by simp [kq]
theorem dn {X:Type} (σ:Nat→X) {t k:Nat} (x:X) (h:k≠t):kq σ t x k=σ k:=by simp [kq,h]
theorem bF (S:St) (d:Nat) (x:Cell):bN S d x d=x:=by simp [bN]
theorem bQ (S:St) {d k:Nat} (x:Cell) (h:k≠d):bN S d x k=S k:=by
 unfold bN
 cases e:Nat.beq k d with
 | true=>exact (h (aj e)).elim
 | false=>rfl
theorem bt {A:Type} {p:Bool} {x:Option A} {y:A}:da p x=some y ↔ p=true∧x=some y:=by cases p <;> simp [da]
def Fz (cg:Nat→Prop) (R:Reach) (w:World) (R':Reach):Prop:=cH R w R' w∧∀b o,R' b o→R b o∨cg b
theorem Fz.refl (cg:Nat→Prop) (R:Reach) (w:World):Fz cg R w R:=⟨cH.refl _ _,fun _ _ => .inl⟩
theorem Fz.trans {cg:Nat→Prop} {R R' DP:Reach} {w:World} (h:Fz cg R w R') (k:Fz cg R' w DP):Fz cg R w DP:=⟨h.1.trans k.1,fun b o hr=>(k.2 b o hr).elim (h.2 b o) .inr⟩
theorem cH.reach {R:Reach} {w:World} {R':Reach} (h:∀b o,R b o→R' b o):cH R w R' w:=fun b o hr=>⟨h b o hr,rfl⟩
theorem eZ.slot {R:Reach} {w:World} {τ:Nat→Value} {x:TV} {g:Gh} {v:Value} (hg:g.slot=true):eZ R w τ x g v=cz R w τ x g v:=by
 cases g <;> first | rfl | cases hg
theorem cz.cq {R R':Reach} {w w':World} {τ τ':Nat→Value} {x:TV} {g:Gh} {v:Value} (h:cz R w τ x g v) (k:cH R w R' w') (ht:∀m∈g.bP,τ' m=τ m):cz R' w' τ' x g v:=by
 unfold cz at h ⊢
 split at h <;> first | exact h | exact eX.cq h k ht
section
variable {nt:Nat} {R R':Reach} {w w':World} {cg sX:Nat→Prop} {τ τ':Nat→Value} {S S':St}
theorem Core.put (h:Core nt R w cg τ S) {d:Nat} {v:Value} {x:TV} {g:Gh} (hd:d<nt) (hs:cz R w τ x g v) (hg:g.slot=true) (hm:∀k∈g.bP,nt≤k∧(S k).2 ≠ .no):
  Core nt R w cg (kq τ d v) (bN S d (x,g)):=by
 have hP:(S d).2.ta=false:=by have:=h.slt d hd;cases hh:(S d).2 <;> rw [hh] at this <;> first | rfl | cases this
 have ho:g.own=false:=by cases g <;> first | rfl | cases hg
 refine h.step (fun k=>k=d) (cH.refl _ _) (fun k hk=>⟨bQ _ _ hk,dn _ _ hk⟩) (fun _ _ _ _=>⟨rfl,fun _=>id⟩) ?_ (fun k hk => .inr (.inl (hk ▸ hd))) (fun k hk => .inl (hk ▸ hd)) ?_ ?_ ?_ (fun _=>id) ?_ h.j9 (fun k hk _=>by rw [hk,bF];exact hg)
 ·rintro k rfl
  rw [bF,dh,eZ.slot hg]
  exact hs.cq (cH.refl _ _) fun m yK=>dn _ _ (by have:=(hm m yK).1;omega)
 ·rintro k rfl;rw [bF];exact .inl ⟨hP,by cases g <;> first | rfl | cases hg⟩
 ·rintro k rfl e;rw [bF,ho] at e;cases e
 ·rintro k b rfl hb;have:=(cZ hb).1;rw [bF,ho] at this;cases this
 ·rintro k rfl j hj;rw [bF] at hj;obtain ⟨h1,h2⟩:=hm j hj
  exact ⟨h1,by rw [bQ _ _ (by omega)];exact h2⟩
theorem Core.tR (h:Core nt R w cg τ S) {k:Nat} {v:Value} {x:TV} {g:Gh} (hk:nt≤k) (cq:cH R w R' w') (u9:∀j b,j≠k→dv τ S j=some b→w'.heap[b]?=w.heap[b]?∧∀o,R' b o→R b o)
  (new:eZ R' w' τ x g v) (Ey:v=τ k∨(S k).2 = .no) (D0:(S k).2.ta=false∧g.ta=false) (no:g ≠ .no) (grow:g.own=true→(S k).2.own=true∨(S k).2 = .no)
  (bl:∀b,g.own=true→Value.dv v=some b→cg b∧(w.heap.size≤b∨dv τ S k=some b)) (inv:∀j∈g.bP,j≠k∧nt≤j∧(S j).2 ≠ .no) (j9:∀b o,R' b o→b<w'.heap.size) :
  Core nt R' w' cg (kq τ k v) (bN S k (x,g)):=by
 refine h.step (fun j=>j=k) cq (fun j hj=>⟨bQ _ _ hj,dn _ _ hj⟩) (fun j b hj=>u9 j b hj) ?_ ?_ ?_ ?_ ?_ ?_ (fun _=>id) ?_ j9 (fun j hj hl=>by omega)
 ·rintro j rfl
  rw [bF,dh]
  exact new.cq (cH.refl _ _) (fun m hm=>dn _ _ (inv m hm).1) fun _ _=>⟨rfl,fun _=>id⟩
 ·rintro j rfl;rw [dh];exact Ey.imp id .inr
 ·rintro j rfl;rw [bF];exact .inr no
 ·rintro j rfl;rw [bF];exact .inl D0
 ·rintro j rfl;rw [bF];exact grow
 ·rintro j b rfl hb
  obtain ⟨h1,h2⟩:=cZ hb
  rw [bF] at h1;rw [dh] at h2
  obtain ⟨h3,h4⟩:=bl b h1 h2
  exact ⟨h3,fun k' e ne=>(ne e).elim,h4.imp id fun h=>⟨j,rfl,h⟩⟩
 ·rintro j rfl m hm;rw [bF] at hm
  obtain ⟨h1,h2,h3⟩:=inv m hm
  exact ⟨h2,by rw [bQ _ _ h1];exact h3⟩
theorem Core.j0 (h:Core nt R w cg τ S) {k k' g:Nat} (h1:dv τ S k=some g) (h2:dv τ S k'=some g):k=k':=h.sep k k' g h1 h2
theorem dL {k g:Nat} (ho:(S k).2.own=true) (hw:(S k).2.s9=false) (hb:Value.dv (τ k)=some g):dv τ S k=some g:=wF ho hw hb
theorem ph {g:Gh} (h:g.ta=false):g.s9=false:=by cases g <;> first | rfl | cases h
theorem Core.freeze (h:Core nt R w cg τ S) {k:Nat} {x:TV} (hk:nt≤k) (hS:S k=(x,.pv)):∃R',Core nt R' w cg τ (bN S k (x,.lv))∧Fz cg R w R'∧Rep R' w x (τ k)∧(τ k).oneCell'=true:=by
 have h0:=h.key k
 rw [hS] at h0
 obtain ⟨t,l,rfl,⟨rfl,hv⟩ | ⟨g,cap,cur,e,fz,hv,h1,h2,h3,h4,h5,h6,h7⟩⟩:=h0
 ·refine ⟨R,?_,Fz.refl _ _ _,by rw [hv];exact .sn t,by rw [hv];rfl⟩
  have:=h.tR (g := .lv) (x := .sl t []) (v:=τ k) hk (cH.refl _ _) (fun _ _ _ _=>⟨rfl,fun _=>id⟩) ⟨t,[],rfl,.inl ⟨rfl,hv⟩⟩ (.inl rfl) (by rw [hS];exact ⟨rfl,rfl⟩) (by simp) (fun _ => .inl (by rw [hS];rfl))
   (fun b _ hb=>by rw [hv] at hb;cases hb) (by simp [Gh.bP]) h.j9
  rwa [show kq τ k (τ k)=τ by funext j;simp only [kq];split <;> simp_all] at this
 ·have hb:dv τ S k=some g:=dL (by rw [hS];rfl) (by rw [hS];rfl) (by rw [hv];rfl)
  let R':Reach:=fun b o=>R b o∨(b=g∧o<l.length * t.size)
  have cq:cH R w R' w:=cH.reach fun b o => .inl
  have jX:(l.map t.tv).flatMap TV.cells=(l.map t.tv).flatMap TV.cells:=rfl
  have hex:∀o,R g o→False:=fun o hr=>by have:=(h7 o).1 hr;simp at this
  refine ⟨R',?_,⟨cq,fun b o (hr:R b o∨(b=g∧o<l.length * t.size))=>hr.imp id fun ⟨e,_⟩=>e ▸ h.cg k g hb⟩,?_,by rw [hv];rfl⟩
  ·have:=h.tR (R':=R') (w':=w) (g := .lv) (x := .sl t l) (v:=τ k) hk cq (fun j b hj fJ=>⟨rfl,fun o hr=>hr.elim id fun ⟨e,_⟩=>(hj (h.j0 hb (e ▸ fJ)).symm).elim⟩)
    ⟨t,l,rfl,.inr ⟨g,cap,cur,e,fz,hv,h1,h2,h3,h4,h5,h6.mono cq,fun o=>⟨fun hr=>hr.elim (fun hr=>(hex o hr).elim) fun hr=>⟨rfl,hr.2⟩,fun hr => .inr ⟨rfl,hr.2⟩⟩⟩⟩
    (.inl rfl) (by rw [hS];exact ⟨rfl,rfl⟩) (by simp) (fun _ => .inl (by rw [hS];rfl)) (fun b _ fJ=>⟨h.cg k b (dL (by rw [hS];rfl) (by rw [hS];rfl) fJ),.inr (dL (by rw [hS];rfl) (by rw [hS];rfl) fJ)⟩) (by simp [Gh.bP])
    (fun b o hr=>hr.elim (h.j9 b o) fun ⟨e,_⟩=>e ▸ (Array.getElem?_eq_some_iff.1 h1).1)
   rwa [show kq τ k (τ k)=τ by funext j;simp only [kq];split <;> simp_all] at this
  ·rw [hv]
   refine .sl rfl h4 h5 (fA.write (ys:=cur.toList.take (l.length * t.size)) ?_ (h6.mono cq) (fun j hj => .inr ⟨rfl,by rwa [bp,Nat.zero_add] at *⟩) (fun j y hy=>?_))
   ·intro x hx;obtain ⟨y,_,rfl⟩:=aU.1 hx;exact dS.fT t y
   ·rw [aF] at hy
    split at hy
    ·simp only [World.cell?,h1,Nat.zero_add];simpa using hy
    ·cases hy
end
end Go.Eng
namespace Go.Eng
open Go.RowKit
def Lt (V S:St):Prop:=∀k,V k=S k∨(V k).2 = .hid
def Lq (V S:St):Prop:=∀k,V k=S k∨(V k).2 = .hid∨((V k).2 = .pv∧S k=((V k).1,.lv))
theorem Lt.refl (S:St):Lt S S:=fun _ => .inl rfl
theorem Lt.q {V S:St} (h:Lt V S):Lq V S:=fun k=>(h k).imp id .inl
theorem Lt.of {V S:St} (h:Lt V S) {k:Nat} {x:TV} {g:Gh} (hk:V k=(x,g)) (hg:g ≠ .hid:=by simp):S k=(x,g):=by
 rcases h k with e | e
 ·rw [←e,hk]
 ·rw [hk] at e;exact (hg e).elim
section
variable {nt:Nat} {R R':Reach} {w w':World} {cg:Nat→Prop} {τ:Nat→Value} {S V:St}
theorem tW {k:Nat} {c:Cell} (h:S k=c):bN S k c=S:=by
 funext j
 by_cases e:j=k
 ·subst e;rw [bF,h]
 ·exact bQ _ _ e
theorem eF (S:St):∀l m:List (Nat × Cell),cO S (l++m)=cO (cO S m) l
 | [],_=>rfl
 | (k,x) :: l,m=>by simp only [List.cons_append,cO,eF S l m]
theorem cV.rep {v:Value} {x:TV} (h:cV R w true v x):Rep R w x v∧v.oneCell'=true:=by
 obtain ⟨t,l,rfl,⟨rfl,rfl⟩ | ⟨g,cap,cur,e,fz,rfl,h1,h2,h3,h4,h5,h6,h7⟩⟩:=h
 ·exact ⟨.sn t,rfl⟩
 ·refine ⟨.sl rfl h4 h5 (fA.write (ys:=cur.toList.take (l.length * t.size)) ?_ h6 (fun j hj=>(h7 _).2 ⟨rfl,by rwa [bp,Nat.zero_add] at *⟩) (fun j y hy=>?_)),rfl⟩
  ·intro x hx;obtain ⟨y,_,rfl⟩:=aU.1 hx;exact dS.fT t y
  ·rw [aF] at hy
   split at hy
   ·simp only [World.cell?,h1,Nat.zero_add];simpa using hy
   ·cases hy
theorem yq {x:TV} {v:Value} (h:Rep R w x v):Rep R w (nrm x) v:=by
 unfold nrm
 split
 ·cases h with
  | sc h=>cases h
  | nl=>exact .sn _
 ·exact h
theorem iG:∀{xs:List TV} {ys:List Value},bX R w xs ys→bX R w (xs.map nrm) ys
 | _,_,.nil => .nil
 | _,_,.cons a h t => .cons a (yq h) (iG t)
theorem o9 {x:TV} {v:Value} (h:Rep R w x v):Rep R w (CJ x) v:=by
 unfold CJ
 split
 ·cases h with
  | sc h=>cases h
  | nl=>exact .sn _
 ·cases h with
  | sc h=>cases h
  | ag h=>exact .ag (iG h)
 ·exact h
theorem eX.rep {x:TV} {v:Value} (h:cz R w τ x .no v):Rep R w x v:=by
 unfold cz at h
 split at h
 ·rw [h];exact .Dq _
 ·exact .Ce h
 ·exact h
theorem sf (h:Core nt R w cg τ S) (hV:Lq V S) {k:Nat} {x:TV} {ws:List (Nat × Cell)} (hk:nt≤k) (he:tw V (.pt,.cT k)=some (x,ws)) :
  ∃R',Core nt R' w cg τ (cO S ws)∧Fz cg R w R'∧Rep R' w x (τ k)∧Lq V (cO S ws)∧(∀p∈ws,p.1=k)∧x.plain=true:=by
 have plain:∀{R p v x},cV R w p v x→x.plain=true:=fun h=>by obtain ⟨_,_,rfl,_⟩:=h;rfl
 have base:∀{y:TV} {g:Gh},S k=(y,g)→g = .lv→(∃R',Core nt R' w cg τ S∧Fz cg R w R'∧Rep R' w y (τ k))∧y.plain=true:=fun {y g} e hg=>by
  have:=h.key k
  subst hg
  rw [e] at this
  exact ⟨⟨R,h,Fz.refl _ _ _,(cV.rep this).1⟩,plain this⟩
 simp only [tw] at he
 split at he
 ·rename_i y e
  cases he
  have hq:Lq V (bN S k (x,.lv)):=fun j=>by
   by_cases ej:j=k
   ·subst ej;rw [bF,e];exact .inr (.inr ⟨rfl,rfl⟩)
   ·rw [bQ _ _ ej];exact hV j
  rcases hV k with e1 | e1 | ⟨_,e1⟩
  ·rw [e] at e1
   have hp:=h.key k
   rw [←e1] at hp
   obtain ⟨R',h1,h2,h3,_⟩:=h.freeze hk e1.symm
   exact ⟨R',h1,h2,h3,hq,by simp,plain hp⟩
  ·rw [e] at e1;cases e1
  ·rw [e] at e1
   obtain ⟨⟨R',h1,h2,h3⟩,h4⟩:=base e1 rfl
   refine ⟨R',?_,h2,h3,hq,by simp,h4⟩
   show Core nt R' w cg τ (bN S k _)
   rwa [tW e1]
 ·rename_i y e
  cases he
  have e1:S k=(x,.lv):=by
   rcases hV k with e1 | e1 | ⟨e1,_⟩
   ·rw [e] at e1;exact e1.symm
   ·rw [e] at e1;cases e1
   ·rw [e] at e1;cases e1
  obtain ⟨⟨R',h1,h2,h3⟩,h4⟩:=base e1 rfl
  exact ⟨R',h1,h2,h3,hV,by simp,h4⟩
 ·rename_i y e
  obtain ⟨nH,he⟩:=bt.1 he
  cases he
  have e1:S k=(x,.us):=by
   rcases hV k with e1 | e1 | ⟨e1,_⟩
   ·rw [e] at e1;exact e1.symm
   ·rw [e] at e1;cases e1
   ·rw [e] at e1;cases e1
  have:=h.key k
  rw [e1] at this
  exact ⟨R,h,Fz.refl _ _ _,this,hV,by simp,nH⟩
 ·cases he
theorem bX.set:∀{xs:List TV} {ys:List Value} {i:Nat} {x:TV},bX R w xs ys→(∀y,ys[i]?=some y→Rep R w x y)→bX R w (xs.set i x) ys
 | _,_,_,_,.nil,_=>by simpa using .nil
 | _,_,0,_,.cons a h t,hx => .cons a (hx _ rfl) t
 | _,_,i+1,_,.cons a h t,hx => .cons a h (t.set fun y hy=>hx y (by simpa using hy))
theorem gZ {o n:Nat}:∀{ts:List (Nat × Nat)} {R:Reach} {S:St} {cs ds:List TV} {ys:List Value} {ws:List (Nat × Cell)},Core nt R w cg τ S→Lq V S→bX R w cs ys→(∀t∈ts,nt≤t.2∧ys[t.1]?=some (τ t.2)) →
  iu V o n ts cs=some (ds,ws)→∃R',Core nt R' w cg τ (cO S ws)∧Fz cg R w R'∧bX R' w ds ys∧Lq V (cO S ws)∧(∀p∈ws,p.1∈ts.map (·.2))∧ds.length=cs.length
 | [],R,S,_,_,_,_,h,hV,hL,_,he=>by cases he;exact ⟨R,h,Fz.refl _ _ _,hL,hV,by simp,rfl⟩
 | (c,k) :: ts,R,S,_,_,_,_,h,hV,hL,ht,he=>by
  simp only [iu] at he
  split at he
  ·rename_i cs ws e1
   obtain ⟨R1,h1,k1,r1,q1,p1,l1⟩:=gZ h hV hL (fun t h=>ht t (List.mem_cons_of_mem _ h)) e1
   have Gd:∀p∈ws,p.1∈(((c,k) :: ts).map (·.2)):=fun p hp=>List.mem_cons_of_mem _ (p1 p hp)
   cases hb:(Nat.ble o c&&Nat.blt c (o+n)) with
   | true =>
    rw [hb,ao] at he
    split at he
    ·rename_i x us e2
     cases he
     obtain ⟨h3,h4⟩:=ht (c,k) (List.mem_cons_self ..)
     obtain ⟨R2,h2,k2,r2,q2,p2,_⟩:=sf h1 q1 h3 e2
     rw [eF]
     refine ⟨R2,h2,k1.trans k2,(r1.mono k2.1).set fun y hy=>?_,q2,fun p hp=>?_,by rw [List.length_set,l1]⟩
     ·rw [h4] at hy;cases hy;exact r2
     ·rcases List.mem_append.1 hp with hp | hp
      ·rw [p2 p hp];exact List.mem_cons_self ..
      ·exact Gd p hp
    ·cases he
   | false =>
    rw [hb,af] at he
    cases he
    exact ⟨R1,h1,k1,r1,q1,Gd,l1⟩
  ·cases he
theorem pz (h:Core nt R w cg τ S) (hV:Lq V S) {c:Cell} {v:Value} {x:TV} {ws:List (Nat × Cell)} (hs:cz R w τ c.1 c.2 v) (hc:∀m∈c.2.bP,nt≤m) (he:pA V c=some (x,ws)) :
  ∃R',Core nt R' w cg τ (cO S ws)∧Fz cg R w R'∧Rep R' w x v∧Lq V (cO S ws):=by
 obtain ⟨y,g⟩:=c
 cases g with
 | cT k =>
  cases y <;> try (simp only [pA,tw] at he;cases he)
  obtain ⟨R',h1,h2,h3,h4,_⟩:=sf h hV (hc k (by simp [Gh.bP])) he
  have:v=τ k:=hs.1
  exact ⟨R',h1,h2,this ▸ h3,h4⟩
 | no =>
  simp only [pA,tw,aA,Prod.mk.injEq] at he
  obtain ⟨rfl,rfl⟩:=he
  exact ⟨R,h,Fz.refl _ _ _,o9 (eX.rep hs),hV⟩
 | ow l =>
  cases y <;> try (simp only [pA,tw] at he;cases he)
  simp only [pA] at he
  split at he
  ·rename_i hf
   cases he
   obtain ⟨ys,vs,hv,hx,h3,h4⟩:∃ys vs,v = .agg ⟨ys⟩∧_=TV.ag vs∧bX R w vs ys∧∀p∈l,ys[p.1]?=some (τ p.2):=hs
   cases hx
   obtain ⟨R',k1,k2,k3,k4,_⟩:=gZ h hV h3 (fun t ht=>⟨hc t.2 (aU.2 ⟨t,ht,rfl⟩),h4 t ht⟩) hf
   exact ⟨R',k1,k2,by rw [hv];exact .ag (iG k3),k4⟩
  ·cases he
 | _=>simp only [pA,tw] at he;cases he
inductive Cells (R:Reach) (w:World) (τ:Nat→Value) (nt:Nat):List Cell→List Value→Prop
 | nil:Cells R w τ nt [] []
 | cons {c:Cell} {v:Value} {cs:List Cell} {vs:List Value}:cz R w τ c.1 c.2 v→(∀m∈c.2.bP,nt≤m)→Cells R w τ nt cs vs→Cells R w τ nt (c :: cs) (v :: vs)
theorem nj:∀{cs:List Cell} {R:Reach} {S:St} {vs:List Value} {xs:List TV} {ws:List (Nat × Cell)},Core nt R w cg τ S→Lq V S→Cells R w τ nt cs vs→vj V cs=some (xs,ws) →
  ∃R',Core nt R' w cg τ (cO S ws)∧Fz cg R w R'∧dW R' w xs vs∧Lq V (cO S ws)
 | [],R,S,_,_,_,h,hV,.nil,he=>by cases he;exact ⟨R,h,Fz.refl _ _ _,.nil,hV⟩
 | c :: cs,R,S,_,_,_,h,hV,.cons a b t,he=>by
  simp only [vj] at he
  split at he
  ·rename_i x ws e1
   split at he
   ·rename_i xs us e2
    cases he
    obtain ⟨R1,h1,k1,r1,q1⟩:=nj h hV t e2
    obtain ⟨R2,h2,k2,r2,q2⟩:=pz h1 q1 (a.cq k1.1 fun _ _=>rfl) b e1
    rw [eF]
    exact ⟨R2,h2,k1.trans k2,.cons r2 (r1.mono k2.1),q2⟩
   ·cases he
  ·cases he
end
structure Ext (w0:World) (R0:Reach) (io:Nat→Prop) (w:World) (R:Reach):Prop where
 os:w.os=w0.os
 tape:w.tape=w0.tape
 output:w.output=w0.output
 size:w0.heap.size≤w.heap.size
 heap:∀b,b<w0.heap.size→¬io b→w.heap[b]?=w0.heap[b]?
 cq:cH R0 w0 R w
 oZ:∀b o,R b o→R0 b o∨w0.heap.size≤b∨io b
theorem Ext.refl (w:World) (R:Reach) (io:Nat→Prop):Ext w R io w R:=⟨rfl,rfl,rfl,Nat.le_refl _,fun _ _ _=>rfl,cH.refl _ _,fun _ _ h => .inl h⟩
theorem Ext.trans {w0 w1 w2:World} {R0 R1 R2:Reach} {io io':Nat→Prop} (h:Ext w0 R0 io w1 R1) (k:Ext w1 R1 io' w2 R2) (hi:∀b,io' b→io b∨w0.heap.size≤b):Ext w0 R0 io w2 R2 where
 os:=k.os.trans h.os
 tape:=k.tape.trans h.tape
 output:=k.output.trans h.output
 size:=Nat.le_trans h.size k.size
 heap b hb hn:=(k.heap b (Nat.lt_of_lt_of_le hb h.size) (fun c=>by rcases hi b c with c | c <;> first | exact hn c | omega)).trans (h.heap b hb hn)
 cq:=h.cq.trans k.cq
 oZ b o hr:=by
  rcases k.oZ b o hr with r | r | r
  ·exact h.oZ b o r
  ·exact .inr (.inl (Nat.le_trans h.size r))
  ·rcases hi b r with r | r
   ·exact .inr (.inr r)
   ·exact .inr (.inl r)
structure Ctx where
 P:Program
 E:cI
 nt:Nat
 w0:World
 R0:Reach
 io:Nat→Prop
 BX:Nat→Value
 gl:Nat→Option (List Value)
def Ctx.cg (C:Ctx) (b:Nat):Prop:=C.io b∨C.w0.heap.size≤b
def GlOK (gl:Nat→Option (List Value)) (R:Reach) (w:World):Prop:=∀n zs,gl n=some zs→∀o,R n o∧w.cell? ⟨n,o,none⟩=zs[o]?
theorem GlOK.cq {gl:Nat→Option (List Value)} {R R':Reach} {w w':World} (h:GlOK gl R w) (k:cH R w R' w'):GlOK gl R' w':=fun n zs hn o=>⟨(k _ _ (h n zs hn o).1).1,(k _ _ (h n zs hn o).1).2.trans (h n zs hn o).2⟩
structure cG (C:Ctx) (S:St) (a:Act) (w:World) (R:Reach) (τ:Nat→Value):Prop where
 size:a.tmps.size=C.nt
 defers:a.defers=[]
 core:Core C.nt R w C.cg τ S
 tmps:∀t,t<C.nt→a.tmps.getD t undef=τ t
 io:C.nt≤1000000∧∀k,1000000≤k→τ k=C.BX k
 ext:Ext C.w0 C.R0 C.io w R
 gl:GlOK C.gl R w
def lF (C:Ctx) (S:St) (a:Act) (w:World):Prop:=∃R τ,cG C S a w R τ
section
variable {C:Ctx} {S V:St} {a:Act} {w:World} {R:Reach} {τ:Nat→Value} {o:Oper} {d:Nat} {K:Act→World→Prop} {Q:Exit→Act→World→Prop}
theorem Ext.reach {w0 w:World} {R0 R R':Reach} {io:Nat→Prop} (h:Ext w0 R0 io w R) (k:cH R w R' w) (hn:∀b o,R' b o→R b o∨io b∨w0.heap.size≤b):Ext w0 R0 io w R' :=
 { h with cq:=h.cq.trans k,oZ:=fun b o hr=>by rcases hn b o hr with r | r | r;exact h.oZ b o r;exact .inr (.inr r);exact .inr (.inl r) }
end
end Go.Eng
namespace Go.Eng
open Go.RowKit
def gi:BinOp→Value→Value→Option Value
 | .shl,.int k a,.int _ b=>if b<0 then none else some (.int k (k.wrap (a * 2 ^ (min b.toNat k.bits))))
 | .shr,.int k a,.int _ b=>if b<0 then none else some (.int k (a.fdiv (2 ^ (min b.toNat k.bits))))
 | .add,.int k a,.int k' b=>if k=k' then some (.int k (k.wrap (a+b))) else none
 | .sub,.int k a,.int k' b=>if k=k' then some (.int k (k.wrap (a - b))) else none
 | .mul,.int k a,.int k' b=>if k=k' then some (.int k (k.wrap (a * b))) else none
 | .quo,.int k a,.int k' b=>if k=k' then (if b=0 then none else some (.int k (k.wrap (a.tdiv b)))) else none
 | .rem,.int k a,.int k' b=>if k=k' then (if b=0 then none else some (.int k (a.tmod b))) else none
 | .and,.int k a,.int k' b=>if k=k' then some (.int k (cp .and k a b)) else none
 | .or,.int k a,.int k' b=>if k=k' then some (.int k (cp .or k a b)) else none
 | .xor,.int k a,.int k' b=>if k=k' then some (.int k (cp .xor k a b)) else none
 | .andNot,.int k a,.int k' b=>if k=k' then some (.int k (cp .andNot k a b)) else none
 | .eql,.int k a,.int k' b=>if k=k' then some (.bool (a == b)) else none
 | .neq,.int k a,.int k' b=>if k=k' then some (.bool (a != b)) else none
 | .lss,.int k a,.int k' b=>if k=k' then some (.bool (decide (a<b))) else none
 | .leq,.int k a,.int k' b=>if k=k' then some (.bool (decide (a≤b))) else none
 | .gtr,.int k a,.int k' b=>if k=k' then some (.bool (decide (a > b))) else none
 | .geq,.int k a,.int k' b=>if k=k' then some (.bool (decide (a ≥ b))) else none
 | .add,.string a,.string b=>if ((a.size+b.size:Nat):Int) > IntKind.i64.max then none else some (.string (a++b))
 | .eql,.string a,.string b=>some (.bool (a.toList == b.toList))
 | .neq,.string a,.string b=>some (.bool (!(a.toList == b.toList)))
 | o,x,y=>qP o x y
def Ex:UnOp→Value→Option Value
 | .neg,.int k n=>some (.int k (k.wrap (0 - n)))
 | .xor,.int k n=>some (.int k (cp .xor k (if k.signed then -1 else k.max) n))
 | .not,.bool b=>some (.bool !b)
 | .neg,.float .f64 a=>some (.float .f64 (Fl.neg a))
 | _,_=>none
theorem TV.qF {x:TV} {k:IntKind} {n:Int} (h:x.int?=some (k,n)):x.val=some (.int k n):=by
 cases x <;> simp [TV.int?] at h <;> obtain ⟨rfl,rfl⟩:=h <;> rfl
theorem jb (n:Int) (m:Nat) (h:0<m):(((n % (m:Int)).toNat % m:Nat):Int)=n % m:=by
 have h1:0≤n % (m:Int):=Int.emod_nonneg _ (by omega)
 have h2:n % (m:Int)<m:=Int.emod_lt_of_pos _ (by omega)
 rw [Nat.mod_eq_of_lt (by omega)];omega
theorem ku (n:Int):((UInt8.ofInt n).toNat:Int)=IntKind.u8.wrap n:=by
 have:IntKind.u8.wrap n=n % (256:Nat):=by simp [IntKind.wrap,IntKind.bits,IntKind.signed]
 rw [this,UInt8.ofInt,UInt8.toNat_ofNat'];exact jb n 256 (by decide)
theorem tQ (n:Int):((UInt16.ofInt n).toNat:Int)=IntKind.u16.wrap n:=by
 have:IntKind.u16.wrap n=n % (65536:Nat):=by simp [IntKind.wrap,IntKind.bits,IntKind.signed]
 rw [this,UInt16.ofInt,UInt16.toNat_ofNat'];exact jb n 65536 (by decide)
theorem tP (n:Int):((UInt32.ofInt n).toNat:Int)=IntKind.u32.wrap n:=by
 have:IntKind.u32.wrap n=n % (4294967296:Nat):=by simp [IntKind.wrap,IntKind.bits,IntKind.signed]
 rw [this,UInt32.ofInt,UInt32.toNat_ofNat'];exact jb n 4294967296 (by decide)
theorem jG (n:Int):((UInt64.ofInt n).toNat:Int)=IntKind.u64.wrap n:=by
 have:IntKind.u64.wrap n=n % (18446744073709551616:Nat):=by simp [IntKind.wrap,IntKind.bits,IntKind.signed]
 rw [this,UInt64.ofInt,UInt64.toNat_ofNat'];exact jb n 18446744073709551616 (by decide)
theorem uC (k:IntKind) (n:Int):(td k n).val=some (.int k (k.wrap n)):=by
 cases k <;> simp only [td,TV.val,aA,Value.int.injEq,true_and]
 ·exact ku n
 ·exact tQ n
 ·exact tP n
 ·exact jG n
theorem wrap_u8' (n:Int):IntKind.u8.wrap n=n % 256:=by simp [IntKind.wrap,IntKind.bits,IntKind.signed]
theorem ofInt_u8 (a:UInt8):BitVec.ofInt 8 (a.toNat:Int)=a.toBitVec:=by
 apply BitVec.eq_of_toNat_eq
 rw [BitVec.toNat_ofInt]
 have:=a.toNat_lt
 simp only [UInt8.toNat] at this ⊢
 omega
theorem fL (n:Int):IntKind.u16.wrap n=n % 65536:=by simp [IntKind.wrap,IntKind.bits,IntKind.signed]
theorem ofInt_u16 (a:UInt16):BitVec.ofInt 16 (a.toNat:Int)=a.toBitVec:=by
 apply BitVec.eq_of_toNat_eq
 rw [BitVec.toNat_ofInt]
 have:=a.toNat_lt
 simp only [UInt16.toNat] at this ⊢
 omega
theorem wrap_u32' (n:Int):IntKind.u32.wrap n=n % 4294967296:=by simp [IntKind.wrap,IntKind.bits,IntKind.signed]
theorem ofInt_u32 (a:UInt32):BitVec.ofInt 32 (a.toNat:Int)=a.toBitVec:=by
 apply BitVec.eq_of_toNat_eq
 rw [BitVec.toNat_ofInt]
 have:=a.toNat_lt
 simp only [UInt32.toNat] at this ⊢
 omega
theorem fo (n:Int):IntKind.u64.wrap n=n % 18446744073709551616:=by simp [IntKind.wrap,IntKind.bits,IntKind.signed]
theorem ofInt_u64 (a:UInt64):BitVec.ofInt 64 (a.toNat:Int)=a.toBitVec:=by
 apply BitVec.eq_of_toNat_eq
 rw [BitVec.toNat_ofInt]
 have:=a.toNat_lt
 simp only [UInt64.toNat] at this ⊢
 omega
theorem y7 {o : BinOp} {a b : UInt8} {ws : List TV} (h : (BD o a b).holds ws) : ∃ x : TV, ws = [x] ∧ ∃ v, x.val = some v ∧ gi o (.int .u8 a.toNat) (.int .u8 b.toNat) = some v := by
  have ha := a.toNat_lt
  have hb := b.toNat_lt
  cases o <;> simp only [BD, iM.holds] at h <;> first | exact h.elim | skip
  all_goals first
    | (obtain ⟨hp, rfl⟩ := h; refine ⟨_, rfl, _, rfl, ?_⟩; simp only [Bool.not_eq_true', decide_eq_false_iff_not] at hp
       have lp : (b.toNat : Int) ≠ 0 := fun e => hp (UInt8.toNat_inj.1 (by simpa using e))
       simp only [gi, if_true, lp, if_false, aA, Value.int.injEq, true_and, UInt8.toNat_div, UInt8.toNat_mod, wrap_u8', Int.tdiv_eq_ediv_of_nonneg (Int.natCast_nonneg a.toNat), Int.tmod_eq_emod_of_nonneg (Int.natCast_nonneg a.toNat)]
       first | (rw [← Int.natCast_ediv]; have := Nat.div_le_self a.toNat b.toNat; generalize a.toNat / b.toNat = q at this ⊢; omega) | omega)
    | (subst h; refine ⟨_, rfl, _, rfl, ?_⟩
       simp only [gi, if_true, aA, Value.int.injEq, Value.bool.injEq, true_and, wrap_u8', cp, IntKind.bits, ofInt_u8, UInt8.toNat_add, UInt8.toNat_sub, UInt8.toNat_mul]
       first | omega | (rw [aJ (by omega) (by have := (a &&& b).toNat_lt; simp only [UInt8.toNat] at this ⊢; simp only [UInt8.toBitVec_and] at this; omega)]; rfl)
             | (rw [aJ (by omega) (by have := (a ||| b).toNat_lt; simp only [UInt8.toNat] at this ⊢; simp only [UInt8.toBitVec_or] at this; omega)]; rfl)
             | (rw [aJ (by omega) (by have := (a ^^^ b).toNat_lt; simp only [UInt8.toNat] at this ⊢; simp only [UInt8.toBitVec_xor] at this; omega)]; rfl)
             | (rw [aJ (by omega) (by have := (a &&& ~~~b).toNat_lt; simp only [UInt8.toNat] at this ⊢; simp only [UInt8.toBitVec_and, UInt8.toBitVec_not] at this; omega)]; rfl)
             | (rw [aM]; simp [UInt8.lt_iff_toNat_lt, UInt8.le_iff_toNat_le, ← UInt8.toNat_inj]; omega)
             | (rw [aM]; simp [UInt8.lt_iff_toNat_lt, UInt8.le_iff_toNat_le, ← UInt8.toNat_inj]))
theorem xq {o : BinOp} {a b : UInt16} {ws : List TV} (h : (xr o a b).holds ws) : ∃ x : TV, ws = [x] ∧ ∃ v, x.val = some v ∧ gi o (.int .u16 a.toNat) (.int .u16 b.toNat) = some v := by
  have ha := a.toNat_lt
  have hb := b.toNat_lt
  cases o <;> simp only [xr, iM.holds] at h <;> first | exact h.elim | skip
  all_goals first
    | (obtain ⟨hp, rfl⟩ := h; refine ⟨_, rfl, _, rfl, ?_⟩; simp only [Bool.not_eq_true', decide_eq_false_iff_not] at hp
       have lp : (b.toNat : Int) ≠ 0 := fun e => hp (UInt16.toNat_inj.1 (by simpa using e))
       simp only [gi, if_true, lp, if_false, aA, Value.int.injEq, true_and, UInt16.toNat_div, UInt16.toNat_mod, fL, Int.tdiv_eq_ediv_of_nonneg (Int.natCast_nonneg a.toNat), Int.tmod_eq_emod_of_nonneg (Int.natCast_nonneg a.toNat)]
       first | (rw [← Int.natCast_ediv]; have := Nat.div_le_self a.toNat b.toNat; generalize a.toNat / b.toNat = q at this ⊢; omega) | omega)
    | (subst h; refine ⟨_, rfl, _, rfl, ?_⟩
       simp only [gi, if_true, aA, Value.int.injEq, Value.bool.injEq, true_and, fL, cp, IntKind.bits, ofInt_u16, UInt16.toNat_add, UInt16.toNat_sub, UInt16.toNat_mul]
       first | omega | (rw [aJ (by omega) (by have := (a &&& b).toNat_lt; simp only [UInt16.toNat] at this ⊢; simp only [UInt16.toBitVec_and] at this; omega)]; rfl)
             | (rw [aJ (by omega) (by have := (a ||| b).toNat_lt; simp only [UInt16.toNat] at this ⊢; simp only [UInt16.toBitVec_or] at this; omega)]; rfl)
             | (rw [aJ (by omega) (by have := (a ^^^ b).toNat_lt; simp only [UInt16.toNat] at this ⊢; simp only [UInt16.toBitVec_xor] at this; omega)]; rfl)
             | (rw [aJ (by omega) (by have := (a &&& ~~~b).toNat_lt; simp only [UInt16.toNat] at this ⊢; simp only [UInt16.toBitVec_and, UInt16.toBitVec_not] at this; omega)]; rfl)
             | (rw [aM]; simp [UInt16.lt_iff_toNat_lt, UInt16.le_iff_toNat_le, ← UInt16.toNat_inj]; omega)
             | (rw [aM]; simp [UInt16.lt_iff_toNat_lt, UInt16.le_iff_toNat_le, ← UInt16.toNat_inj]))
theorem xn {o : BinOp} {a b : UInt32} {ws : List TV} (h : (xp o a b).holds ws) : ∃ x : TV, ws = [x] ∧ ∃ v, x.val = some v ∧ gi o (.int .u32 a.toNat) (.int .u32 b.toNat) = some v := by
  have ha := a.toNat_lt
  have hb := b.toNat_lt
  cases o <;> simp only [xp, iM.holds] at h <;> first | exact h.elim | skip
  all_goals first
    | (obtain ⟨hp, rfl⟩ := h; refine ⟨_, rfl, _, rfl, ?_⟩; simp only [Bool.not_eq_true', decide_eq_false_iff_not] at hp
       have lp : (b.toNat : Int) ≠ 0 := fun e => hp (UInt32.toNat_inj.1 (by simpa using e))
       simp only [gi, if_true, lp, if_false, aA, Value.int.injEq, true_and, UInt32.toNat_div, UInt32.toNat_mod, wrap_u32', Int.tdiv_eq_ediv_of_nonneg (Int.natCast_nonneg a.toNat), Int.tmod_eq_emod_of_nonneg (Int.natCast_nonneg a.toNat)]
       first | (rw [← Int.natCast_ediv]; have := Nat.div_le_self a.toNat b.toNat; generalize a.toNat / b.toNat = q at this ⊢; omega) | omega)
    | (subst h; refine ⟨_, rfl, _, rfl, ?_⟩
       simp only [gi, if_true, aA, Value.int.injEq, Value.bool.injEq, true_and, wrap_u32', cp, IntKind.bits, ofInt_u32, UInt32.toNat_add, UInt32.toNat_sub, UInt32.toNat_mul]
       first | omega | (rw [aJ (by omega) (by have := (a &&& b).toNat_lt; simp only [UInt32.toNat] at this ⊢; simp only [UInt32.toBitVec_and] at this; omega)]; rfl)
             | (rw [aJ (by omega) (by have := (a ||| b).toNat_lt; simp only [UInt32.toNat] at this ⊢; simp only [UInt32.toBitVec_or] at this; omega)]; rfl)
             | (rw [aJ (by omega) (by have := (a ^^^ b).toNat_lt; simp only [UInt32.toNat] at this ⊢; simp only [UInt32.toBitVec_xor] at this; omega)]; rfl)
             | (rw [aJ (by omega) (by have := (a &&& ~~~b).toNat_lt; simp only [UInt32.toNat] at this ⊢; simp only [UInt32.toBitVec_and, UInt32.toBitVec_not] at this; omega)]; rfl)
             | (rw [aM]; simp [UInt32.lt_iff_toNat_lt, UInt32.le_iff_toNat_le, ← UInt32.toNat_inj]; omega)
             | (rw [aM]; simp [UInt32.lt_iff_toNat_lt, UInt32.le_iff_toNat_le, ← UInt32.toNat_inj]))
theorem xl {o : BinOp} {a b : UInt64} {ws : List TV} (h : (xm o a b).holds ws) : ∃ x : TV, ws = [x] ∧ ∃ v, x.val = some v ∧ gi o (.int .u64 a.toNat) (.int .u64 b.toNat) = some v := by
  have ha := a.toNat_lt
  have hb := b.toNat_lt
  cases o <;> simp only [xm, iM.holds] at h <;> first | exact h.elim | skip
  all_goals first
    | (obtain ⟨hp, rfl⟩ := h; refine ⟨_, rfl, _, rfl, ?_⟩; simp only [Bool.not_eq_true', decide_eq_false_iff_not] at hp
       have lp : (b.toNat : Int) ≠ 0 := fun e => hp (bo.1 (by simpa using e))
       simp only [gi, if_true, lp, if_false, aA, Value.int.injEq, true_and, UInt64.toNat_div, UInt64.toNat_mod, fo, Int.tdiv_eq_ediv_of_nonneg (Int.natCast_nonneg a.toNat), Int.tmod_eq_emod_of_nonneg (Int.natCast_nonneg a.toNat)]
       first | (rw [← Int.natCast_ediv]; have := Nat.div_le_self a.toNat b.toNat; generalize a.toNat / b.toNat = q at this ⊢; omega) | omega)
    | (subst h; refine ⟨_, rfl, _, rfl, ?_⟩
       simp only [gi, if_true, aA, Value.int.injEq, Value.bool.injEq, true_and, fo, cp, IntKind.bits, ofInt_u64, UInt64.toNat_add, UInt64.toNat_sub, UInt64.toNat_mul]
       first | omega | (rw [aJ (by omega) (by have := (a &&& b).toNat_lt; simp only [UInt64.toNat] at this ⊢; simp only [UInt64.toBitVec_and] at this; omega)]; rfl)
             | (rw [aJ (by omega) (by have := (a ||| b).toNat_lt; simp only [UInt64.toNat] at this ⊢; simp only [UInt64.toBitVec_or] at this; omega)]; rfl)
             | (rw [aJ (by omega) (by have := (a ^^^ b).toNat_lt; simp only [UInt64.toNat] at this ⊢; simp only [UInt64.toBitVec_xor] at this; omega)]; rfl)
             | (rw [aJ (by omega) (by have := (a &&& ~~~b).toNat_lt; simp only [UInt64.toNat] at this ⊢; simp only [UInt64.toBitVec_and, UInt64.toBitVec_not] at this; omega)]; rfl)
             | (rw [aM]; simp [aZ, UInt64.le_iff_toNat_le, ← bo]; omega)
             | (rw [aM]; simp [aZ, UInt64.le_iff_toNat_le, ← bo]))
theorem me {a n b m:Nat} (hm:m=2 ^ b):(a * 2 ^ (min n b)) % m=(a * 2 ^ n) % m:=by
 subst hm
 by_cases h:n≤b
 ·rw [Nat.min_eq_left h]
 ·rw [Nat.min_eq_right (by omega),show n=b+(n - b) by omega,Nat.pow_add,←Nat.mul_assoc,Nat.mul_mod_left,Nat.mul_right_comm,Nat.mul_mod_left]
theorem ma {a n b m:Nat} (hm:m=2 ^ b) (ha:a<m):a / 2 ^ (min n b)=(a / 2 ^ n) % m:=by
 subst hm
 rw [Nat.mod_eq_of_lt (Nat.lt_of_le_of_lt (Nat.div_le_self _ _) ha)]
 by_cases h:n≤b
 ·rw [Nat.min_eq_left h]
 ·rw [Nat.min_eq_right (by omega),Nat.div_eq_of_lt ha,Nat.div_eq_of_lt (Nat.lt_of_lt_of_le ha (Nat.pow_le_pow_right (by omega) (by omega)))]
theorem gP (l:bG):ByteArray.toList ⟨⟨l⟩⟩=l:=by rw [ByteArray.toList_eq]
def iM.tq (r:iM) (P:TV→Prop):Prop:=∀ws,r.holds ws→∃x:TV,ws=[x]∧P x
def xC (o:BinOp) (x y:TV) (z:TV):Prop:=∃a b v,x.val=some a∧y.val=some b∧gi o a b=some v∧z.val=some v
theorem lH {p:Option Bool} {ws r:List TV} (h:(iM.under p ws).holds r):r=ws∧∀b,p=some b→b=true:=by
 cases p with
 | none=>exact ⟨h,fun _ e=>by cases e⟩
 | some p=>exact ⟨h.2,fun _ e=>by cases e;exact h.1⟩
theorem oH {y:TV} {p:Option Bool} {n:Nat} (h:y.count=some (p,n)) (hp:∀b,p=some b→b=true):∃k m,y.val=some (.int k m)∧0≤m∧m.toNat=n:=by
 cases y <;> simp [TV.count] at h <;> obtain ⟨rfl,rfl⟩:=h
 ·exact ⟨_,_,rfl,by omega,by omega⟩
 ·exact ⟨_,_,rfl,by omega,by omega⟩
 ·exact ⟨_,_,rfl,by omega,by omega⟩
 ·exact ⟨_,_,rfl,by omega,by omega⟩
 ·rename_i k m
  have:=hp _ rfl
  exact ⟨_,_,rfl,by simpa using this,rfl⟩
theorem ye (a:UInt8) (n:Nat):IntKind.u8.wrap ((a.toNat:Int) * 2 ^ (min n 8))=((An a n).toNat:Int):=by
 rw [wrap_u8',An,UInt8.toNat_ofNat',show ((a.toNat:Int) * 2 ^ (min n 8))=((a.toNat * 2 ^ (min n 8):Nat):Int) by simp]
 have:=me (a:=a.toNat) (n:=n) (b:=8) (m:=256) (by decide)
 rw [show (2 ^ 8:Nat)=256 by decide]
 omega
theorem yc (a:UInt8) (n:Nat):IntKind.u8.wrap ((a.toNat:Int).fdiv (2 ^ (min n 8)))=((Al a n).toNat:Int):=by
 rw [wrap_u8',Al,UInt8.toNat_ofNat',Int.fdiv_eq_ediv_of_nonneg _ (Int.le_of_lt (Int.pow_pos (by decide))),show ((a.toNat:Int) / 2 ^ (min n 8))=((a.toNat / 2 ^ (min n 8):Nat):Int) by simp]
 have:=ma (a:=a.toNat) (n:=n) (b:=8) (m:=256) (by decide) (by have:=a.toNat_lt;simpa using this)
 rw [show (2 ^ 8:Nat)=256 by decide]
 omega
theorem vH (a:UInt16) (n:Nat):IntKind.u16.wrap ((a.toNat:Int) * 2 ^ (min n 16))=((vI a n).toNat:Int):=by
 rw [fL,vI,UInt16.toNat_ofNat',show ((a.toNat:Int) * 2 ^ (min n 16))=((a.toNat * 2 ^ (min n 16):Nat):Int) by simp]
 have:=me (a:=a.toNat) (n:=n) (b:=16) (m:=65536) (by decide)
 rw [show (2 ^ 16:Nat)=65536 by decide]
 omega
theorem vC (a:UInt16) (n:Nat):IntKind.u16.wrap ((a.toNat:Int).fdiv (2 ^ (min n 16)))=((vD a n).toNat:Int):=by
 rw [fL,vD,UInt16.toNat_ofNat',Int.fdiv_eq_ediv_of_nonneg _ (Int.le_of_lt (Int.pow_pos (by decide))),show ((a.toNat:Int) / 2 ^ (min n 16))=((a.toNat / 2 ^ (min n 16):Nat):Int) by simp]
 have:=ma (a:=a.toNat) (n:=n) (b:=16) (m:=65536) (by decide) (by have:=a.toNat_lt;simpa using this)
 rw [show (2 ^ 16:Nat)=65536 by decide]
 omega
theorem vF (a:UInt32) (n:Nat):IntKind.u32.wrap ((a.toNat:Int) * 2 ^ (min n 32))=((vG a n).toNat:Int):=by
 rw [wrap_u32',vG,UInt32.toNat_ofNat',show ((a.toNat:Int) * 2 ^ (min n 32))=((a.toNat * 2 ^ (min n 32):Nat):Int) by simp]
 have:=me (a:=a.toNat) (n:=n) (b:=32) (m:=4294967296) (by decide)
 rw [show (2 ^ 32:Nat)=4294967296 by decide]
 omega
theorem vA (a:UInt32) (n:Nat):IntKind.u32.wrap ((a.toNat:Int).fdiv (2 ^ (min n 32)))=((vB a n).toNat:Int):=by
 rw [wrap_u32',vB,UInt32.toNat_ofNat',Int.fdiv_eq_ediv_of_nonneg _ (Int.le_of_lt (Int.pow_pos (by decide))),show ((a.toNat:Int) / 2 ^ (min n 32))=((a.toNat / 2 ^ (min n 32):Nat):Int) by simp]
 have:=ma (a:=a.toNat) (n:=n) (b:=32) (m:=4294967296) (by decide) (by have:=a.toNat_lt;simpa using this)
 rw [show (2 ^ 32:Nat)=4294967296 by decide]
 omega
theorem vE (a:UInt64) (n:Nat):IntKind.u64.wrap ((a.toNat:Int) * 2 ^ (min n 64))=((nZ a n).toNat:Int):=by
 rw [fo,nZ,UInt64.toNat_ofNat',show ((a.toNat:Int) * 2 ^ (min n 64))=((a.toNat * 2 ^ (min n 64):Nat):Int) by simp]
 have:=me (a:=a.toNat) (n:=n) (b:=64) (m:=18446744073709551616) (by decide)
 rw [show (2 ^ 64:Nat)=18446744073709551616 by decide]
 omega
theorem vz (a:UInt64) (n:Nat):IntKind.u64.wrap ((a.toNat:Int).fdiv (2 ^ (min n 64)))=((lI a n).toNat:Int):=by
 rw [fo,lI,UInt64.toNat_ofNat',Int.fdiv_eq_ediv_of_nonneg _ (Int.le_of_lt (Int.pow_pos (by decide))),show ((a.toNat:Int) / 2 ^ (min n 64))=((a.toNat / 2 ^ (min n 64):Nat):Int) by simp]
 have:=ma (a:=a.toNat) (n:=n) (b:=64) (m:=18446744073709551616) (by decide) (by have:=a.toNat_lt;simpa using this)
 rw [show (2 ^ 64:Nat)=18446744073709551616 by decide]
 omega
theorem mc {w:Nat} {m:Int} (a:Nat) (k:Nat) (h:(a:Int)<m):0≤(a:Int).fdiv (2 ^ k)∧(a:Int).fdiv (2 ^ k)<m:=by
 rw [Int.fdiv_eq_ediv_of_nonneg _ (Int.le_of_lt (Int.pow_pos (by decide)))]
 refine ⟨Int.ediv_nonneg (by omega) (Int.le_of_lt (Int.pow_pos (by decide))),?_⟩
 rw [show ((a:Int) / 2 ^ k)=((a / 2 ^ k:Nat):Int) by simp]
 have:=Nat.div_le_self a (2 ^ k)
 omega
theorem yd (x y:TV):(Am x y).tq (xC .shl x y):=by
 intro ws h
 unfold Am at h
 split at h
 ·rename_i p n hc
  have key:∀{r:TV} {u:IntKind} {a:Int},(iM.under p [r]).holds ws→x.val=some (.int u a)→r.val=some (.int u (u.wrap (a * 2 ^ (min n u.bits))))→∃z:TV,ws=[z]∧xC .shl x y z:=by
   intro r u a h hx hr
   obtain ⟨rfl,hp⟩:=lH h
   obtain ⟨k,m,h1,h2,rfl⟩:=oH hc hp
   refine ⟨_,rfl,_,_,_,hx,h1,?_,hr⟩
   simp only [gi,Int.not_lt.2 h2,if_false]
  split at h
  ·exact key h rfl (by rw [show IntKind.u8.bits=8 from rfl,ye];rfl)
  ·exact key h rfl (by rw [show IntKind.u16.bits=16 from rfl,vH];rfl)
  ·exact key h rfl (by rw [show IntKind.u32.bits=32 from rfl,vF];rfl)
  ·exact key h rfl (by rw [show IntKind.u64.bits=64 from rfl,vE];rfl)
  ·exact key h rfl rfl
  ·exact h.elim
 ·exact h.elim
theorem yb (x y:TV):(Ak x y).tq (xC .shr x y):=by
 intro ws h
 unfold Ak at h
 split at h
 ·rename_i p n hc
  have key:∀{r:TV} {u:IntKind} {a:Int},(iM.under p [r]).holds ws→x.val=some (.int u a)→r.val=some (.int u (a.fdiv (2 ^ (min n u.bits))))→∃z:TV,ws=[z]∧xC .shr x y z:=by
   intro r u a h hx hr
   obtain ⟨rfl,hp⟩:=lH h
   obtain ⟨k,m,h1,h2,rfl⟩:=oH hc hp
   refine ⟨_,rfl,_,_,_,hx,h1,?_,hr⟩
   simp only [gi,Int.not_lt.2 h2,if_false]
  split at h
  ·rename_i a
   have q:=mc (w:=0) a.toNat (min n 8) (m:=256) (by have:=a.toNat_lt;simp at this;omega)
   exact key h rfl (by rw [show IntKind.u8.bits=8 from rfl];simp only [TV.val];rw [←yc,wrap_u8',aJ q.1 q.2])
  ·rename_i a
   have q:=mc (w:=0) a.toNat (min n 16) (m:=65536) (by have:=a.toNat_lt;simp at this;omega)
   exact key h rfl (by rw [show IntKind.u16.bits=16 from rfl];simp only [TV.val];rw [←vC,fL,aJ q.1 q.2])
  ·rename_i a
   have q:=mc (w:=0) a.toNat (min n 32) (m:=4294967296) (by have:=a.toNat_lt;simp at this;omega)
   exact key h rfl (by rw [show IntKind.u32.bits=32 from rfl];simp only [TV.val];rw [←vA,wrap_u32',aJ q.1 q.2])
  ·rename_i a
   have q:=mc (w:=0) a.toNat (min n 64) (m:=18446744073709551616) (by have:=a.toNat_lt;simp at this;omega)
   exact key h rfl (by rw [show IntKind.u64.bits=64 from rfl];simp only [TV.val];rw [←vz,fo,aJ q.1 q.2])
  ·exact key h rfl rfl
  ·exact h.elim
 ·exact h.elim
theorem y6 {o:BinOp} {k:IntKind} {a b:Int} {ws:List TV} (h:(BC o k a b).holds ws):∃x:TV,ws=[x]∧∃v,x.val=some v∧gi o (.int k a) (.int k b)=some v:=by
 cases o <;> simp only [BC,iM.holds] at h <;> first | exact h.elim | skip
 all_goals first
  | (obtain ⟨hp,rfl⟩:=h;refine ⟨_,rfl,_,rfl,?_⟩;simp only [Bool.not_eq_true',decide_eq_false_iff_not] at hp;simp only [gi,if_true,hp,if_false])
  | (subst h;refine ⟨_,rfl,_,rfl,?_⟩;simp only [gi,if_true,aA,Value.bool.injEq];first | done | (rw [aM];simp))
theorem yZ {o:BinOp} {a b:bG} {ws:List TV} (h:(BB o a b).holds ws):∃x:TV,ws=[x]∧∃v,x.val=some v∧gi o (.string ⟨⟨a⟩⟩) (.string ⟨⟨b⟩⟩)=some v:=by
 cases o <;> simp only [BB,iM.holds] at h <;> first | exact h.elim | skip
 ·obtain ⟨hp,rfl⟩:=h
  refine ⟨_,rfl,_,rfl,?_⟩
  simp only [gi]
  have hp:a.length+b.length≤9223372036854775807:=by simpa using hp
  rw [ak]
  ·simp only [aA,Value.string.injEq]
   apply ByteArray.ext
   apply Array.ext'
   simp
  ·have:IntKind.i64.max=9223372036854775807:=by decide
   rw [this]
   simp only [ByteArray.size,Array.size]
   omega
 ·subst h
  refine ⟨_,rfl,_,rfl,?_⟩
  simp only [gi,gP,aA,Value.bool.injEq]
  rw [aM];simp
 ·subst h
  refine ⟨_,rfl,_,rfl,?_⟩
  simp only [gi,gP,aA,Value.bool.injEq]
  rw [aM];simp
 ·subst h
  refine ⟨_,rfl,_,rfl,?_⟩
  show some (Value.bool _)=_
  simp only [gP]
 ·subst h
  refine ⟨_,rfl,_,rfl,?_⟩
  show some (Value.bool _)=_
  have e:(a == b)=decide (a=b):=by rw [aM];simp
  simp only [gP,e]
 ·subst h
  refine ⟨_,rfl,_,rfl,?_⟩
  show some (Value.bool _)=_
  have e:(a == b)=decide (a=b):=by rw [aM];simp
  simp only [gP,e]
 ·subst h
  refine ⟨_,rfl,_,rfl,?_⟩
  show some (Value.bool _)=_
  simp only [gP]
theorem yQ {o:BinOp} {a b:Value} {ws:List TV} (h:(Bf o a b).holds ws):∃x:TV,ws=[x]∧∃v,qP o a b=some v∧x.val=some v:=by
 unfold Bf at h
 split at h
 ·obtain ⟨h1,rfl⟩:=h;exact ⟨_,rfl,_,ar h1,rfl⟩
 ·obtain ⟨h1,rfl⟩:=h;exact ⟨_,rfl,_,ar h1,rfl⟩
 ·obtain ⟨h1,rfl⟩:=h;exact ⟨_,rfl,_,ar h1,rfl⟩
 ·cases h;exact ⟨_,rfl,_,rfl,rfl⟩
 ·cases h;exact ⟨_,rfl,_,rfl,rfl⟩
 ·cases h;exact ⟨_,rfl,_,rfl,rfl⟩
 ·cases h;exact ⟨_,rfl,_,rfl,rfl⟩
 ·cases h;exact ⟨_,rfl,_,rfl,rfl⟩
 ·cases h;exact ⟨_,rfl,_,rfl,rfl⟩
 ·obtain ⟨h1,rfl⟩:=h;exact ⟨_,rfl,_,ar h1,rfl⟩
 ·obtain ⟨h1,rfl⟩:=h;exact ⟨_,rfl,_,ar h1,rfl⟩
 ·exact h.elim
theorem uQ {o:BinOp} {a b v:Value} (h:qP o a b=some v) (h1:mh o=none):gi o a b=some v:=by
 unfold qP at h
 split at h <;> first | (cases h;done) | exact h
theorem yX (o:BinOp) (x y:TV):(yY o x y).tq (xC o x y):=by
 intro ws h
 unfold yY at h
 split at h
 ·rename_i e
  have:o = .shl:=by cases o <;> simp [mh] at e ⊢
  subst this
  exact yd x y ws h
 ·rename_i e
  have:o = .shr:=by cases o <;> simp [mh] at e ⊢
  subst this
  exact yb x y ws h
 ·split at h
  ·obtain ⟨x,h1,v,h2,h3⟩:=y7 h;exact ⟨x,h1,_,_,v,rfl,rfl,h3,h2⟩
  ·obtain ⟨x,h1,v,h2,h3⟩:=xq h;exact ⟨x,h1,_,_,v,rfl,rfl,h3,h2⟩
  ·obtain ⟨x,h1,v,h2,h3⟩:=xn h;exact ⟨x,h1,_,_,v,rfl,rfl,h3,h2⟩
  ·obtain ⟨x,h1,v,h2,h3⟩:=xl h;exact ⟨x,h1,_,_,v,rfl,rfl,h3,h2⟩
  ·split at h
   ·rename_i e
    subst e
    obtain ⟨x,h1,v,h2,h3⟩:=y6 h;exact ⟨x,h1,_,_,v,rfl,rfl,h3,h2⟩
   ·exact h.elim
  ·obtain ⟨x,h1,v,h2,h3⟩:=yZ h;exact ⟨x,h1,_,_,v,rfl,rfl,h3,h2⟩
  ·rename_i e _ _ _ _
   obtain ⟨x,h1,v,h2,h3⟩:=yQ h
   exact ⟨x,h1,_,_,v,rfl,rfl,uQ h2 (by assumption),h3⟩
  ·exact h.elim
theorem yr (a:UInt8):cp .xor .u8 (if IntKind.u8.signed then -1 else IntKind.u8.max) a.toNat=((~~~a).toNat:Int):=by
 have em:(if IntKind.u8.signed then (-1:Int) else IntKind.u8.max)=255:=by decide
 have e:BitVec.ofInt 8 255=BitVec.allOnes 8:=by decide
 rw [em]
 simp only [cp,IntKind.bits]
 rw [e,ofInt_u8,wrap_u8']
 show (((BitVec.allOnes 8 ^^^ a.toBitVec:BitVec 8).toNat:Int)) % 256=_
 rw [BitVec.allOnes_xor]
 have:=(~~~a).toNat_lt
 simp only [UInt8.toNat,UInt8.toBitVec_not] at this ⊢
 omega
theorem vU (a:UInt16):cp .xor .u16 (if IntKind.u16.signed then -1 else IntKind.u16.max) a.toNat=((~~~a).toNat:Int):=by
 have em:(if IntKind.u16.signed then (-1:Int) else IntKind.u16.max)=65535:=by decide
 have e:BitVec.ofInt 16 65535=BitVec.allOnes 16:=by decide
 rw [em]
 simp only [cp,IntKind.bits]
 rw [e,ofInt_u16,fL]
 show (((BitVec.allOnes 16 ^^^ a.toBitVec:BitVec 16).toNat:Int)) % 65536=_
 rw [BitVec.allOnes_xor]
 have:=(~~~a).toNat_lt
 simp only [UInt16.toNat,UInt16.toBitVec_not] at this ⊢
 omega
theorem vT (a:UInt32):cp .xor .u32 (if IntKind.u32.signed then -1 else IntKind.u32.max) a.toNat=((~~~a).toNat:Int):=by
 have em:(if IntKind.u32.signed then (-1:Int) else IntKind.u32.max)=4294967295:=by decide
 have e:BitVec.ofInt 32 4294967295=BitVec.allOnes 32:=by decide
 rw [em]
 simp only [cp,IntKind.bits]
 rw [e,ofInt_u32,wrap_u32']
 show (((BitVec.allOnes 32 ^^^ a.toBitVec:BitVec 32).toNat:Int)) % 4294967296=_
 rw [BitVec.allOnes_xor]
 have:=(~~~a).toNat_lt
 simp only [UInt32.toNat,UInt32.toBitVec_not] at this ⊢
 omega
theorem vS (a:UInt64):cp .xor .u64 (if IntKind.u64.signed then -1 else IntKind.u64.max) a.toNat=((~~~a).toNat:Int):=by
 have em:(if IntKind.u64.signed then (-1:Int) else IntKind.u64.max)=18446744073709551615:=by decide
 have e:BitVec.ofInt 64 18446744073709551615=BitVec.allOnes 64:=by decide
 rw [em]
 simp only [cp,IntKind.bits]
 rw [e,ofInt_u64,fo]
 show (((BitVec.allOnes 64 ^^^ a.toBitVec:BitVec 64).toNat:Int)) % 18446744073709551616=_
 rw [BitVec.allOnes_xor]
 have:=(~~~a).toNat_lt
 simp only [UInt64.toNat,UInt64.toBitVec_not] at this ⊢
 omega
theorem Aa (o : UnOp) (x : TV) : (DS o x).tq (fun z => ∃ a v, x.val = some a ∧ Ex o a = some v ∧ z.val = some v) := by
  intro ws h
  unfold DS at h
  split at h <;> first
    | exact h.elim
    | (cases h; exact ⟨_, rfl, _, _, rfl, rfl, rfl⟩)
    | (cases h; refine ⟨_, rfl, _, _, rfl, rfl, ?_⟩
       rename_i a
       have := a.toNat_lt
       simp only [TV.val, aA, Value.int.injEq, true_and]
       first
         | (rw [wrap_u8', UInt8.toNat_sub]; simp; omega)
         | (rw [fL, UInt16.toNat_sub]; simp; omega)
         | (rw [wrap_u32', UInt32.toNat_sub]; simp; omega)
         | (rw [fo, UInt64.toNat_sub]; simp; omega)
         | exact (yr a).symm | exact (vU a).symm | exact (vT a).symm | exact (vS a).symm)
end Go.Eng
namespace Go.Eng
open Go.RowKit
def jy (P:Program) (t:TypeId):Bool:=match P.underlying t with
 | some (.struct fs)=>fs.toList.all fun f=>(P.info? f.type).isSome
 | some (.array _ e)=>(P.info? e).isSome
 | _=>false
structure fc (P:Program) (E:cI):Prop where
 mixed:P.follows .mixedOrders=true
 ty:∀t st b,E.ty t=some (st,b)→∃e i z,P.underlying t=some (.slice e)∧P.info? e=some i∧i.size=st.size∧i.bytes=b∧i.zero=some z∧z.cells.size=st.size∧∀R w,bX R w (st.tv st.fi).cells z.cells.toList
 z:∀t l,E.z t=some l→jy P t=true∧∃v,(P.info? t).bind (·.zero)=some v∧jg v.cells.toList l=true
section
variable {R:Reach} {w:World}
theorem yz {k : IntKind} {n : Int} {x : TV} (h : AK k n = some x) : x.val = some (.int k n) := by
  unfold AK at h
  split at h <;> first
    | (obtain ⟨h1, h2⟩ := bt.1 h
       cases h2
       simp only [ae, az] at h1
       simp [TV.val]
       omega)
    | (cases h; rfl)
theorem xZ (s:ByteArray):(⟨⟨s.data.toList⟩⟩:ByteArray)=s:=rfl
theorem Ao {v:Value} {x:TV} (h:EB v=some x):x.val=some v:=by
 unfold EB at h
 split at h <;> first | exact yz h | (cases h;done) | (cases h;rfl)
theorem mD {v:Value} {x:TV} (h:sI v x=true):Rep R w x v∧v.oneCell'=true:=by
 unfold sI at h
 split at h <;> first | (cases h;done) | skip
 ·exact ⟨.nl _,rfl⟩
 all_goals simp only [beq_iff_eq,ae] at h
 ·subst h;exact ⟨.sc rfl,rfl⟩
 ·subst h;exact ⟨.sc rfl,rfl⟩
 ·subst h;exact ⟨.sc rfl,rfl⟩
 ·subst h;exact ⟨.sc rfl,rfl⟩
 ·subst h;exact ⟨.sc rfl,rfl⟩
 ·obtain ⟨rfl,rfl⟩:=h;exact ⟨.sc rfl,rfl⟩
 ·subst h;exact ⟨.sc (by simp only [TV.val,xZ]),rfl⟩
 ·obtain ⟨rfl,rfl⟩:=h;exact ⟨.sc rfl,rfl⟩
 ·obtain ⟨⟨rfl,rfl⟩,rfl⟩:=h;exact ⟨.sc rfl,rfl⟩
 ·exact ⟨.sc rfl,rfl⟩
 ·exact ⟨.sc rfl,rfl⟩
 ·exact ⟨.sc rfl,rfl⟩
theorem jD:∀{vs:List Value} {xs:List TV},jg vs xs=true→bX R w xs vs
 | [],[],_ => .nil
 | v :: vs,x :: xs,h=>by
  simp only [jg,ae] at h
  exact .cons (mD (R:=R) (w:=w) h.1).2 (mD h.1).1 (jD h.2)
 | [],_ :: _,h=>by simp [jg] at h
 | _ :: _,[],h=>by simp [jg] at h
theorem Rep.dA {x:TV} {u v:Value} (h:Rep R w x v) (hx:x.val=some u):v=u:=by
 cases h <;> first | (simp [TV.val] at hx;done) | (rename_i h;rw [h] at hx;exact Option.some.inj hx)
end
section
variable {P:Program}
theorem dU {t:TypeId} {n:Nat} {agg:Bool} (h:fe P t=some (n,agg)):∃i,P.info? t=some i∧i.size=n∧∀w,(isAgg t).run P w = .ok agg w:=by
 unfold fe at h
 rw [aE] at h
 obtain ⟨i,h1,h2⟩:=h
 rw [aH] at h2
 obtain ⟨d,hd,h2⟩:=h2
 simp only [Prod.mk.injEq] at h2
 refine ⟨i,h1,h2.1,fun w=>?_⟩
 unfold isAgg
 simp only [Sem.run_bind,run_underlying hd,Result.andThen_ok]
 rw [←h2.2]
 cases d <;> rfl
theorem lP {t:TypeId} {f:Nat} {fl:Field} (h:lu P t f=some fl):∃fs,P.underlying t=some (.struct fs)∧fs[f]?=some fl:=by
 unfold lu at h
 cases hu:P.underlying t with
 | none=>simp [hu] at h
 | some d=>simp only [hu,Option.bind_some] at h;split at h <;> simp_all
theorem run_sizeOf {t:TypeId} {i:TypeInfo} (h:P.info? t=some i) (w:World):(sizeOf t).run P w = .ok i.size w:=by simp [sizeOf,typeInfo,h]
theorem eT {t:TypeId} {i:TypeInfo} {agg:Bool} (hi:P.info? t=some i) (ha:∀w,(isAgg t).run P w = .ok agg w) (h1:agg=true∨i.size=1) {w:World} {b off:Nat} {ys:List Value} (hl:ys.length=i.size)
  (hc:∀j y,ys[j]?=some y→w.cell? ⟨b,off+j,none⟩=some y):(loadVar t ⟨b,off,none⟩).run P w = .ok (if agg then .agg ⟨ys⟩ else ys.headD undef) w:=by
 unfold loadVar
 simp only [Sem.run_bind,ha,Result.andThen_ok]
 cases agg with
 | true =>
  have:=run_loadCells_list (P:=P) w ⟨b,off,none⟩ ys (fun j v hj=>by
   have h:=hc j v hj
   unfold Addr.add
   split
   ·rename_i e;subst e;exact h
   ·exact h)
  simp [run_sizeOf hi,←hl,this]
 | false =>
  have hs:i.size=1:=by simpa using h1
  match ys,hl with
  | [y],_ =>
   have:=hc 0 y rfl
   simp at this
   simp [this]
  | [],hl=>simp [hs] at hl
  | _ :: _ :: _,hl=>simp [hs] at hl
end
theorem vw {α:Type} {l:List α} {i:Nat} (h:i<l.length):(l.drop i).take 1=[l[i]]:=by
 rw [List.drop_eq_getElem_cons h,List.take_succ_cons,List.take_zero]
theorem bsize (b:ByteArray):b.data.toList.length=b.size:=by rw [Array.length_toList];rfl
theorem addr_add (b off n:Nat):(⟨b,off,none⟩:Addr).add n=⟨b,off+n,none⟩:=by
 unfold Addr.add;split
 ·rename_i e;subst e;rfl
 ·rfl
section
variable {R:Reach} {w:World}
theorem Rep.rO {t:dS} {l:List t.El} {y:Value} (h:Rep R w (.sl t l) y) :
  (l=[]∧y = .slice none 0 0)∨(∃b off cap,y = .slice (some ⟨b,off,none⟩) l.length cap∧l.length≤cap∧cap≤maxLen∧fA R w t.size (l.map t.tv) b off)∨(l=[]∧∃ad cap,y = .slice (some ad) 0 cap∧cap≤maxLen):=by
 cases h with
 | sc h=>cases h
 | sn=>exact .inl ⟨rfl,rfl⟩
 | sl h1 h2 h3 h4=>subst h1;exact .inr (.inl ⟨_,_,_,rfl,h2,h3,h4⟩)
 | em _ h=>exact .inr (.inr ⟨rfl,_,_,rfl,h⟩)
theorem Rep.rV {x:TV} {y:Value} (h:Rep R w (.ro x) y):∃b off s,y = .pointer (some ⟨b,off,none⟩)∧gH R w s x b off:=by
 cases h with
 | sc h=>cases h
 | ro h=>exact ⟨_,_,_,rfl,h⟩
theorem Rep.xA {cs:List TV} {y:Value} (h:Rep R w (.ag cs) y):∃ys,y = .agg ⟨ys⟩∧bX R w cs ys:=by
 cases h with
 | sc h=>cases h
 | ag h=>exact ⟨_,rfl,h⟩
theorem Rep.Ae {cs:List TV} {y:Value} (h:Rep R w (.tu cs) y):∃ys,y = .tuple ⟨ys⟩∧dW R w cs ys:=by
 cases h with
 | sc h=>cases h
 | tu h=>exact ⟨_,rfl,h⟩
theorem CE {x:TV} {ys:List Value} (h:bX R w x.cells ys):Rep R w x (if x.lT then .agg ⟨ys⟩ else ys.headD undef):=by
 cases x with
 | ag cs=>exact .ag h
 | _ =>
  simp only [TV.cells,TV.lT] at h ⊢
  cases h with
  | cons _ h1 h2=>cases h2;simpa using h1
theorem jq {cs:List TV} {ys:List Value} {o n:Nat} {agg:Bool} {x:TV} (h:bX R w cs ys) (hp:ij cs o n agg=some x) (h1:agg=true∨n=1) :
  ((ys.drop o).take n).length=n∧Rep R w x (if agg then .agg ⟨(ys.drop o).take n⟩ else ((ys.drop o).take n).headD undef):=by
 have hlen:=h.length
 unfold ij at hp
 cases agg with
 | true =>
  cases hb:Nat.ble (o+n) cs.length with
  | true =>
   rw [hb] at hp
   cases hp
   have:=Nat.le_of_ble_eq_true hb
   exact ⟨by simp;omega,.ag ((h.drop o).take n)⟩
  | false=>rw [hb] at hp;cases hp
 | false =>
  simp at h1
  subst h1
  simp at hp
  obtain ⟨y,uF,_,yB⟩:=h.get o x hp
  have eJ:=(av.1 uF).1
  refine ⟨by simp;omega,?_⟩
  have:(ys.drop o).take 1=[y]:=by
   rw [vw eJ,(av.1 uF).2]
  simpa [this] using yB
end
section
variable {C:Ctx} {S V:St} {a:Act} {w:World} {R:Reach} {τ:Nat→Value} {o:Oper} {d:Nat}
theorem cz.no {x:TV} {v:Value} (h:Rep R w x v):cz R w τ x .no v:=by
 cases x with
 | gd q x=>cases q with
  | false=>cases h with
   | sc h=>cases h
   | Dq=>rfl
  | true=>cases h with
   | sc h=>cases h
   | Ce h=>exact h
 | _=>exact h
def cQ (C:Ctx) (o:Oper) (a:Act) (w:World) (S:St):Prop:=∀(K:Act→World→Prop) (Q:Exit→Act→World→Prop),(∀a' w',lF C S a' w'→K a' w')→o.wp C.P a w K Q
theorem cG.fz (h:cG C S a w R τ) {S':St} {R':Reach} (hc:Core C.nt R' w C.cg τ S') (k:Fz C.cg R w R'):cG C S' a w R' τ :=
 { h with core:=hc,ext:=h.ext.reach k.1 k.2,gl:=h.gl.cq k.1 }
theorem cG.val (h:cG C S a w R τ) (hd:o.dst=some d) (hl:d<C.nt) {v:Value} {x:TV} {g:Gh} (hr:(execOp a.eval o).run C.P w = .ok (.value v) w) (hs:cz R w τ x g v) (hg:g.slot=true)
  (hm:∀k∈g.bP,C.nt≤k∧(S k).2 ≠ .no):cQ C o a w (bN S d (x,g)):=fun K Q hK=>by
 unfold Oper.wp
 rw [hr,Oper.upon_value,hd]
 refine hK _ _ ⟨R,_,by simp [Act.put,h.size],h.defers,h.core.put hl hs hg hm,fun t ht=>?_,⟨h.io.1,fun k hk=>?_⟩,h.ext,h.gl⟩
 ·by_cases e:t=d
  ·subst e;rw [dh];simp [Act.put,Array.getD,h.size,ht]
  ·rw [dn _ _ e,←h.tmps t ht]
   simp only [Act.put,Array.getD_eq_getD_getElem?]
   rw [Array.getElem?_setIfInBounds_ne (Ne.symm e)]
 ·have:=h.io.1
  rw [dn _ _ (by omega)];exact h.io.2 k hk
theorem cG.er (h:cG C S a w R τ) (hd:o.dst=some d) (hl:d<C.nt) {v:Value} {x:TV} (hr:(execOp a.eval o).run C.P w = .ok (.value v) w) (hs:Rep R w x v):cQ C o a w (bN S d (x,.no)) :=
 h.val hd hl hr (.no hs) rfl (by simp [Gh.bP])
theorem cz.at {x:TV} {g:Gh} {v:Value} (h:cz R w τ x g v) (hx:∀q y,x ≠ .gd q y):eX R w τ x g v:=by
 unfold cz at h
 split at h
 ·exact (hx _ _ rfl).elim
 ·exact (hx _ _ rfl).elim
 ·exact h
variable (h:cG C S a w R τ) (hV:Lt V S)
include h hV
theorem dN {t:TypeId} {x:Operand} {c:Cell} (he:dQ C.E C.nt V t x=some c):cz R w τ c.1 c.2 (a.eval x)∧c.2.slot=true∧∀m∈c.2.bP,C.nt≤m∧(S m).2 ≠ .no:=by
 unfold dQ at he
 split at he
 ·rename_i i
  obtain ⟨h1,h2⟩:=bt.1 he
  have hi:i<C.nt:=Nat.le_of_ble_eq_true h1
  split at h2
  ·cases h2
  ·rename_i hn
   cases h2
   have e:V i=S i:=(hV i).resolve_right fun e=>hn (V i).1 (by rw [←e])
   have hk:=h.core.key i
   have hs:=h.core.slt i hi
   rw [eZ.slot hs] at hk
   rw [e]
   exact ⟨by simp only [Act.eval];rw [h.tmps i hi];exact hk,hs,h.core.inv i⟩
 ·rename_i v
  simp only [aH] at he
  obtain ⟨y,h1,rfl⟩:=he
  refine ⟨?_,rfl,by simp [Gh.bP]⟩
  have hr:Rep R w y v:=by
   unfold xa at h1
   split at h1
   ·simp only [aH] at h1
    obtain ⟨p,_,rfl⟩:=h1
    exact .nl _
   ·rename_i cs
    rw [aE] at h1
    obtain ⟨z,_,h1⟩:=h1
    obtain ⟨h2,h3⟩:=bt.1 h1
    cases h3
    clear h1
    cases cs
    exact .ag (jD h2)
   ·exact .sc (Ao h1)
  exact .no hr
 ·cases he;exact ⟨Rep.sc rfl,rfl,by simp [Gh.bP]⟩
 ·cases he
theorem cR {t:TypeId} {x:Operand} {y:TV} (he:dQ C.E C.nt V t x=some (y,.no)):Rep R w y (a.eval x):=eX.rep (dN h hV he).1
theorem iq {x:Operand} {n:Int} (he:kh C.E C.nt V x=some n):∃k,a.eval x = .int k n:=by
 unfold kh at he
 split at he
 ·rename_i y e
  simp only [aH] at he
  obtain ⟨⟨k,m⟩,h1,rfl⟩:=he
  exact ⟨k,(cR h hV e).dA (TV.qF h1)⟩
 ·cases he
theorem o6 {t:TypeId} {x:Operand} {c:Cell} {y:TV} (he:dQ C.E C.nt V t x=some c) (hr:nG V c=some y) :
  (∃t l,y = .sl t l∧∃k,c=(.pt,.cT k)∧a.eval x=τ k∧∃p,cV R w p (a.eval x) y)∨Rep R w y (a.eval x):=by
 obtain ⟨h1,_,_⟩:=dN h hV he
 obtain ⟨z,g⟩:=c
 cases g with
 | no =>
  simp only [nG,aA] at hr
  subst hr
  exact .inr (o9 (eX.rep h1))
 | cT k =>
  cases z <;> try (simp only [nG] at hr;cases hr)
  have h1:a.eval x=τ k:=h1.1
  simp only [nG] at hr
  have hk:=h.core.key k
  have DT:∀{p y},cV R w p (τ k) y→∃t l,y = .sl t l∧∃q,(.pt,Gh.cT k)=(TV.pt,Gh.cT q)∧a.eval x=τ q∧∃p,cV R w p (a.eval x) y:=fun {p y} hs=>by
   obtain ⟨t,l,e,_⟩:=id hs;exact ⟨t,l,e,k,rfl,h1,_,by rw [h1];exact hs⟩
  split at hr <;> first | (cases hr;done) | (rename_i e;cases hr;have e:=hV.of e)
  ·left;rw [e] at hk;exact DT hk
  ·left;rw [e] at hk;exact DT hk
  ·right;rw [e] at hk;rw [h1];exact hk
  ·left;exact DT (h.core.waits e)
  ·left;rw [e] at hk;exact DT hk
 | _=>simp only [nG] at hr;cases hr
end
end Go.Eng
namespace Go.Eng
open Go.RowKit
theorem iM.su {r:iM} {e:dP} (h:r.zT=some e) (hp:∀p,e.p=some p→p=true):∃x,r.holds [x]∧e.x=(x,.no)∧e.ws=[]:=by
 unfold iM.zT at h
 split at h <;> cases h
 ·exact ⟨_,rfl,rfl,rfl⟩
 ·exact ⟨_,⟨hp _ rfl,rfl⟩,rfl,rfl⟩
theorem kO {S:St} {e:dP} {x:Cell} {d:Nat} {o:Oper} (hd:o.dst=some d) (h1:e.x=x) (h2:e.ws=[]):eG S o.dst e=bN S d x:=by rw [hd];unfold eG;rw [h1,h2];rfl
theorem xk {P:Program} {w:World} {op:BinOp} {t:TypeId} {x y z:Value} (h:gi op x y=some z):(binOp op t x y).run P w = .ok z w:=by
 unfold gi at h
 split at h
 all_goals repeat' split at h
 all_goals first
  | (cases h;done)
  | (cases h;simp only [binOp,Op.shift,Sem.run_ite];rw [ak (by assumption)];rfl)
  | (cases h;simp_all [binOp,Op.shift,Op.intArith,Op.intDiv,Op.intBits,Op.intCmp,Op.stringOp,cp];done)
  | exact wJ h
  | skip
theorem xW {P:Program} {w:World} {op:UnOp} {x z:Value} (h:Ex op x=some z):(Op.unary op x).run P w = .ok z w:=by
 unfold Ex at h
 split at h <;> cases h <;> first | exact nK | simp [Op.unary,Op.intArith,Op.intBits,cp]
theorem vO {t:Bool} {x y z:TV} (h:vP t x y=some z):z=if t then x else y:=by
 unfold vP at h
 split at h <;> first | (cases h <;> cases t <;> rfl) | skip
 split at h
 ·rename_i e;subst e;cases h;cases t <;> rfl
 ·cases h
theorem TV.rp {R:Reach} {w:World} {x:TV} {v:Value} (h:Rep R w x v) (hq:∀q,x.xf=some q→q=true):Rep R w x.bare v:=by
 cases x with
 | gd q x =>
  have:=hq q rfl
  subst this
  cases h with
  | sc h=>cases h
  | Ce h=>exact h
 | _=>exact h
theorem ui {R:Reach} {w:World} {t:Bool} {x y z:TV} {v:Value} (h:(sV t x y).holds [z]) (hr:Rep R w (if t then x else y) v):Rep R w z v:=by
 unfold sV at h
 split at h
 ·rename_i u hu
  have hu:=vO hu
  have key:((t=true→∀q,x.xf=some q→q=true)∧(t=false→∀q,y.xf=some q→q=true))∧z=u:=by
   split at h <;> rename_i c1 c2 <;> rw [c1,c2]
   ·cases h;exact ⟨⟨by simp,by simp⟩,rfl⟩
   ·obtain ⟨h,e⟩:=h;cases e;exact ⟨⟨by rintro rfl q e;cases e;simpa using h,by simp⟩,rfl⟩
   ·obtain ⟨h,e⟩:=h;cases e;exact ⟨⟨by simp,by rintro rfl q e;cases e;simpa using h⟩,rfl⟩
   ·obtain ⟨h,e⟩:=h;cases e;exact ⟨⟨by rintro rfl q e;cases e;simpa using h,by rintro rfl q e;cases e;simpa using h⟩,rfl⟩
  obtain ⟨⟨k1,k2⟩,rfl⟩:=key
  rw [hu]
  cases t with
  | true=>exact TV.rp hr (k1 rfl)
  | false=>exact TV.rp hr (k2 rfl)
 ·exact h.elim
theorem qE {P:Program} {f:Field} {k:Nat} (h:s9 P f k=true):f.name ≠ "_" ∧ f.offset=k∧P.underlying f.type=some (.int .u64):=by
 unfold s9 at h
 simp only [ae,bne_iff_ne] at h
 obtain ⟨⟨h1,h2⟩,h3⟩:=h
 refine ⟨h1,aj h2,?_⟩
 split at h3
 ·assumption
 ·cases h3
theorem sK (a b:UInt64):((a.toNat:Int) == (b.toNat:Int))=decide (a=b):=by
 by_cases e:a=b
 ·simp [e]
 ·have:¬(a.toNat:Int)=(b.toNat:Int):=fun h=>e (bo.1 (by omega))
  simp [e,this]
theorem yT {P:Program} {w:World} {t:TypeId} {fs:Array Field} {a b c d:UInt64} {r:Bool} (ht:P.underlying t=some (.struct fs)) (he:Cf P t fs (.ag [.u64 a,.u64 b]) (.ag [.u64 c,.u64 d])=some r) :
  (Op.equalIn 10000 t (.agg ⟨[.int .u64 a.toNat,.int .u64 b.toNat]⟩) (.agg ⟨[.int .u64 c.toNat,.int .u64 d.toNat]⟩)).run P w = .ok r w∧P.eqGuardType P.depth t=false:=by
 unfold Cf at he
 split at he
 ·rename_i f g a' b' c' d' hf hx hy
  obtain ⟨h1,h2⟩:=bt.1 he
  cases hx;cases hy;cases h2
  simp only [ae,Bool.not_eq_true'] at h1
  obtain ⟨⟨⟨h1,h2⟩,h3⟩,h4⟩:=h1
  obtain ⟨n1,o1,u1⟩:=qE h1
  obtain ⟨n2,o2,u2⟩:=qE h2
  have ef:P.fieldsOf t=fs:=by simp [Program.fieldsOf,ht]
  have p1:P.plainKey f.type=true:=by simp [Program.plainKey,u1]
  have p2:P.plainKey g.type=true:=by simp [Program.plainKey,u2]
  refine ⟨?_,h4⟩
  rw [show (10000:Nat)=9999+1 from rfl,run_equalIn_struct w 9999 t _ _ (by rw [ef];exact ht) h3,ef,hf]
  simp only [Op.eqFields,n1,n2,ne_eq,not_false_eq_true,if_true,Sem.run_bind,o1,o2]
  rw [run_part_plain w p1 (v := .int .u64 a.toNat) rfl]
  simp only [Result.andThen_ok]
  rw [run_part_plain w p1 (v := .int .u64 c.toNat) rfl]
  simp only [Result.andThen_ok]
  rw [show (9999:Nat)=9998+1 from rfl,run_equalIn_int w 9998 f.type .u64 .u64 _ _ u1]
  simp only [Result.andThen_ok,sK]
  cases decide (a=c) with
  | false=>simp
  | true =>
   simp only [aN,bd,if_false,Bool.true_and,Sem.run_bind]
   rw [run_part_plain w p2 (v := .int .u64 b.toNat) rfl]
   simp only [Result.andThen_ok]
   rw [run_part_plain w p2 (v := .int .u64 d.toNat) rfl]
   simp only [Result.andThen_ok]
   rw [run_equalIn_int w 9998 g.type .u64 .u64 _ _ u2]
   simp only [Result.andThen_ok,sK]
   cases decide (b=d) <;> simp
 ·cases he
section
variable {C:Ctx} {S V:St} {a:Act} {w:World} {R:Reach} {τ:Nat→Value} {o:Oper} {d:Nat} (h:cG C S a w R τ) (hV:Lt V S) (hd:o.dst=some d) (hl:d<C.nt)
include h hV hd hl
theorem go_move {x:Operand} {t:TypeId} {c:Cell} (ho:o.op = .move x∨o.op = .assign x) (he:dQ C.E C.nt V t x=some c):cQ C o a w (bN S d c):=by
 obtain ⟨h1,h2,h3⟩:=dN h hV he
 exact h.val hd hl (v:=a.eval x) (by rcases ho with e | e <;> simp [execOp,e]) h1 h2 h3
theorem go_pick {c x y:Operand} {t:TypeId} {b:Bool} {u v z:TV} (ho:o.op = .pick c x y) (hc:dQ C.E C.nt V 0 c=some (.b b,.no)) (hx:dQ C.E C.nt V t x=some (u,.no)) (hy:dQ C.E C.nt V t y=some (v,.no)) (hz:(sV b u v).holds [z]):cQ C o a w (bN S d (z,.no)):=by
 have hb:=(cR h hV hc).dA rfl
 refine h.er hd hl (v:=if b then a.eval x else a.eval y) (by cases b <;> simp [execOp,ho,hb,asBool]) (ui hz ?_)
 cases b with
 | true=>exact cR h hV hx
 | false=>exact cR h hV hy
theorem go_bin {b:BinOp} {t u:TypeId} {x y:Operand} {p q:TV} {z:TV} (ho:o.op = .binOp b t x y u) (hx:dQ C.E C.nt V t x=some (p,.no)) (hy:dQ C.E C.nt V u y=some (q,.no)) (hz:(yY b p q).holds [z]):cQ C o a w (bN S d (z,.no)):=by
 obtain ⟨z',e,p',q',v,e1,e2,e3,e4⟩:=yX _ _ _ _ hz
 cases e
 have hp:=(cR h hV hx).dA e1
 have hq:=(cR h hV hy).dA e2
 have hg:eqGuard b t x y p' q'=pure ():=by
  unfold gi at e3
  split at e3 <;> first | (cases e3;done) | exact si e3 | (unfold eqGuard;split <;> simp_all)
 exact h.er hd hl (v:=v) (by simp only [execOp,ho,hp,hq,hg,Sem.run_bind,Sem.run_pure,Result.andThen_ok,xk e3]) (.sc e4)
theorem go_be {neg:Bool} {b:BinOp} {t u:TypeId} {x y:Operand} {p q:Bool} (ho:o.op = .binOp b t x y u) (hb:b=if neg then .neq else .eql) (ht:C.P.underlying t=some .bool) (hx:dQ C.E C.nt V t x=some (.b p,.no)) (hy:dQ C.E C.nt V u y=some (.b q,.no)) :
  cQ C o a w (bN S d (.b (if neg then !(p == q) else p == q),.no)):=by
 have hp:=(cR h hV hx).dA rfl
 have hq:=(cR h hV hy).dA rfl
 have hg:eqGuard b t x y (.bool p) (.bool q)=pure ():=by unfold eqGuard;cases neg <;> simp [hb]
 have he:(Op.equal t (.bool p) (.bool q)).run C.P w = .ok (p == q) w:=by
  unfold Op.equal Op.maxDepth
  rw [show (10000:Nat)=9999+1 from rfl,Op.equalIn]
  simp [run_underlying ht]
 refine h.er hd hl (v := .bool (if neg then !(p == q) else p == q)) ?_ (.sc rfl)
 simp only [execOp,ho,hp,hq,hg,Sem.run_bind,Sem.run_pure,Result.andThen_ok]
 cases neg <;> simp [hb,binOp,he]
theorem go_es {b:BinOp} {t u:TypeId} {x y:Operand} {p q:TV} {fs:Array Field} {r:Bool} (neg:Bool) (ho:o.op = .binOp b t x y u) (hb:b=if neg then .neq else .eql) (ht:C.P.underlying t=some (.struct fs)) (hx:dQ C.E C.nt V t x=some (p,.no)) (hy:dQ C.E C.nt V u y=some (q,.no)) (he:Cf C.P t fs p q=some r) :
  cQ C o a w (bN S d (.b (if neg then !r else r),.no)):=by
 have hp:=cR h hV hx
 have hq:=cR h hV hy
 have kJ:=he
 unfold Cf at kJ
 split at kJ
 ·rename_i f g a1 b1 c1 d1 hf
  have two:∀{a b:UInt64} {v:Value},Rep R w (.ag [.u64 a,.u64 b]) v→v = .agg ⟨[.int .u64 a.toNat,.int .u64 b.toNat]⟩:=fun hv=>by
   cases hv with
   | sc e=>cases e
   | ag l=>cases l with
    | cons _ h1 l=>cases l with
     | cons _ h2 l=>cases l;rw [h1.dA rfl,h2.dA rfl]
  obtain ⟨e1,e2⟩:=yT (w:=w) ht he
  refine h.er hd hl (v := .bool (if neg then !r else r)) ?_ (.sc rfl)
  simp only [execOp,ho,two hp,two hq,Sem.run_bind,run_eqGuard_agg w b t x y _ _ e2,Result.andThen_ok]
  cases neg with
  | false=>simp only [hb,bd,if_false,run_eql_struct,e1,Result.andThen_ok];rfl
  | true=>simp only [hb,if_true,run_neq_struct,e1,Result.andThen_ok];rfl
 ·cases kJ
theorem go_nl {t u e:TypeId} {x y:Operand} {c:Cell} {st st':dS} {l:List st.El} (ho:o.op = .binOp .eql t x y u) (ht:C.P.underlying t=some (.slice e)) (hx:dQ C.E C.nt V t x=some c) (hr:nG V c=some (.sl st l)) (hy:dQ C.E C.nt V u y=some (.nl st',.no)) :
  cQ C o a w (bN S d (.ub l.isEmpty,.no)):=by
 have hp:=o6 h hV hx hr
 have hq:a.eval y = .slice none 0 0:=by
  have:=cR h hV hy
  generalize a.eval y=v at this
  cases this with
  | sc h=>cases h
  | nl=>rfl
 have run:∀{q:Option Addr} {n k:Nat},(binOp .eql t (.slice q n k) (.slice none 0 0)).run C.P w = .ok (.bool q.isNone) w:=fun {q n k}=>by
  have he:(Op.equal t (.slice q n k) (.slice none 0 0)).run C.P w = .ok q.isNone w:=by
   unfold Op.equal Op.maxDepth
   rw [show (10000:Nat)=9999+1 from rfl,Op.equalIn]
   cases q <;> simp [run_underlying ht]
  simp [binOp,he]
 have gd:∀{v:Value},eqGuard .eql t x y v (.slice none 0 0)=pure ():=fun {v}=>by unfold eqGuard;split <;> simp_all
 have fin:∀{q:Option Addr} {n k:Nat},a.eval x = .slice q n k→(q=none→l=[])→cQ C o a w (bN S d (.ub l.isEmpty,.no)):=fun {q n k} e1 e2=>by
  refine h.er hd hl (v := .bool q.isNone) ?_ (.ub fun e=>by cases q with | none=>rw [e2 rfl];rfl | some _=>cases e)
  simp only [execOp,ho,e1,hq,gd,Sem.run_bind,Sem.run_pure,Result.andThen_ok,run]
 rcases hp with ⟨t',l',e,k,_,_,p,hs⟩ | hp
 ·obtain ⟨t2,l2,e2,hs⟩:=hs
  cases e;cases e2
  rcases hs with ⟨e,hv⟩ | ⟨g,cap,cur,e,fz,hv,_⟩
  ·exact fin hv fun _=>e
  ·exact fin hv fun e=>by cases e
 ·generalize hv:a.eval x=v at hp
  cases hp with
  | sc h=>cases h
  | sn=>exact fin hv fun _=>rfl
  | sl=>exact fin hv fun e=>by cases e
  | em=>exact fin hv fun e=>by cases e
theorem go_un {b:UnOp} {t:TypeId} {x:Operand} {p z:TV} (ho:o.op = .unOp b t x) (hx:dQ C.E C.nt V t x=some (p,.no)) (hz:(DS b p).holds [z]):cQ C o a w (bN S d (z,.no)):=by
 obtain ⟨z',e,p',v,e1,e2,e3⟩:=Aa _ _ _ hz
 cases e
 have hp:=(cR h hV hx).dA e1
 exact h.er hd hl (v:=v) (by simp only [execOp,ho,hp,Sem.run_bind,Sem.run_pure,Result.andThen_ok,xW e2]) (.sc e3)
end
end Go.Eng
namespace Go.Eng
open Go.RowKit
def Holds (R:Reach) (w:World) (t:dS) (l:List t.El) (v:Value):Prop :=
 (l=[]∧(v = .slice none 0 0∨∃ad cap,v = .slice (some ad) 0 cap))∨∃b off cap ys,v = .slice (some ⟨b,off,none⟩) l.length cap∧ys.length=l.length * t.size ∧
  (∀j y,ys[j]?=some y→w.cell? ⟨b,off+j,none⟩=some y)∧bX R w ((l.map t.tv).flatMap TV.cells) ys
theorem fS {c k:Nat}:∀{l:List (Nat × Nat)},fZ c l=some k→(c,k)∈l
 | (d,j) :: r,h=>by
  simp only [fZ] at h
  cases hb:Nat.beq d c with
  | true=>rw [hb] at h;cases h;rw [aj hb];exact List.mem_cons_self ..
  | false=>rw [hb] at h;exact List.mem_cons_of_mem _ (fS h)
theorem mv:∀l:bG,(l.map (dS.tv .bs)).flatMap TV.cells=l.map TV.u8
 | []=>rfl
 | x :: l=>by rw [aQ,List.flatMap_cons,mv l];rfl
theorem gT (t:dS) (l:List t.El):((l.map t.tv).flatMap TV.cells).length=l.length * t.size:=by
 induction l with
 | nil=>simp
 | cons x l ih=>rw [aQ,List.flatMap_cons,al,ih,dS.fT,aK,Nat.succ_mul,Nat.add_comm]
theorem Rep.holds {R:Reach} {w:World} {t:dS} {l:List t.El} {v:Value} (h:Rep R w (.sl t l) v):Holds R w t l v:=by
 rcases h.rO with ⟨h1,h2⟩ | ⟨b,off,cap,h1,h2,h3,h4⟩ | ⟨h1,ad,cap,h2,_⟩
 ·exact .inl ⟨h1,.inl h2⟩
 ·obtain ⟨ys,k1,k2,k3,_⟩:=h4.cells
  exact .inr ⟨b,off,cap,ys,h1,by rw [k1,bp],k2,k3⟩
 ·exact .inl ⟨h1,.inr ⟨ad,cap,h2⟩⟩
theorem cV.cells {R:Reach} {w:World} {p:Bool} {t:dS} {l:List t.El} {v:Value} (h:cV R w p v (.sl t l)):(l=[]∧v = .slice none 0 0)∨∃g cap cur e fz,v = .slice (some ⟨g,0,none⟩) l.length cap∧w.heap[g]?=some (.cells cur e fz)∧(∀o,o<cur.size→¬(fz.1≤o∧o<fz.2)) ∧
  cur.size=cap * t.size∧l.length≤cap∧cap≤maxLen∧bX R w ((l.map t.tv).flatMap TV.cells) (cur.toList.take (l.length * t.size))∧∀o,R g o ↔ (p=true∧o<l.length * t.size):=by
 obtain ⟨t',l',e,h⟩:=h
 cases e
 exact h
theorem cV.holds {R:Reach} {w:World} {p:Bool} {t:dS} {l:List t.El} {v:Value} (h:cV R w p v (.sl t l)):Holds R w t l v:=by
 rcases h.cells with ⟨h1,h2⟩ | ⟨g,cap,cur,e,fz,h1,h2,_,_,_,_,h3,_⟩
 ·exact .inl ⟨h1,.inl h2⟩
 ·refine .inr ⟨g,0,cap,_,h1,by rw [←h3.length,gT],fun j y hy=>?_,h3⟩
  rw [aF] at hy
  split at hy
  ·simp only [World.cell?,h2,Nat.zero_add];simpa using hy
  ·cases hy
section
variable {C:Ctx} {S V:St} {a:Act} {w:World} {R:Reach} {τ:Nat→Value} {o:Oper} {d:Nat} (h:cG C S a w R τ) (hV:Lt V S)
include h hV
theorem mK {t:TypeId} {x:Operand} {st:dS} {l:List st.El} (he:(dQ C.E C.nt V t x).bind (nG V)=some (.sl st l)):Holds R w st l (a.eval x):=by
 rw [aE] at he
 obtain ⟨c,h1,h2⟩:=he
 rcases o6 h hV h1 h2 with ⟨_,_,_,_,_,_,p,hp⟩ | hr
 ·exact hp.holds
 ·exact hr.holds
theorem vN {t:TypeId} {x:Operand} {l:bG} (he:(dQ C.E C.nt V t x).bind (nG V)=some (.s l)):a.eval x = .string ⟨⟨l⟩⟩:=by
 rw [aE] at he
 obtain ⟨c,h1,h2⟩:=he
 rcases o6 h hV h1 h2 with ⟨_,_,e,_⟩ | hr
 ·cases e
 ·exact hr.dA rfl
theorem rd_val {t:TypeId} {x:Operand} {c:Cell} {y:TV} {v:Value} (h1:dQ C.E C.nt V t x=some c) (h2:nG V c=some y) (hy:y.val=some v):a.eval x=v:=by
 rcases o6 h hV h1 h2 with ⟨_,_,e,_⟩ | hr
 ·rw [e] at hy;cases hy
 ·exact hr.dA hy
variable (hd:o.dst=some d) (hl:d<C.nt)
include hd hl
theorem go_len {x:Operand} {t e:TypeId} {st:dS} {l:List st.El} (ho:o.op = .call { callee := .builtin .len,args:=#[x],argTypes:=#[t] }) (ht:C.P.underlying t=some (.slice e)) (hx:(dQ C.E C.nt V t x).bind (nG V)=some (.sl st l)) :
  cQ C o a w (bN S d (.i .i64 l.length,.no)):=by
 have:∃q cap,a.eval x = .slice q l.length cap:=by
  rcases mK h hV hx with ⟨rfl,e | ⟨ad,cap,e⟩⟩ | ⟨b,off,cap,ys,e,_⟩ <;> exact ⟨_,_,e⟩
 obtain ⟨q,cap,hq⟩:=this
 exact h.er hd hl (v := .int .i64 l.length) (by simp [execOp,ho,hq,resolve,invoke,builtin,Builtin.len_,run_underlying ht,goInt]) (.sc rfl)
theorem go_lens {x:Operand} {t:TypeId} {l:bG} (ho:o.op = .call { callee := .builtin .len,args:=#[x],argTypes:=#[t] }) (ht:C.P.underlying t=some .string) (hx:(dQ C.E C.nt V t x).bind (nG V)=some (.s l)) :
  cQ C o a w (bN S d (.i .i64 l.length,.no)):=by
 have hq:=vN h hV hx
 have hs:ByteArray.size ⟨⟨l⟩⟩=l.length:=rfl
 exact h.er hd hl (v := .int .i64 l.length) (by simp [execOp,ho,hq,resolve,invoke,builtin,Builtin.len_,run_underlying ht,goInt,hs]) (.sc rfl)
theorem go_minmax {x y:Operand} {k:IntKind} {u v:Int} {mx:Bool} {ts:Array TypeId} (ho:o.op = .call { callee := .builtin (if mx then .max else .min),args:=#[x,y],argTypes:=ts }) (hx:dQ C.E C.nt V 0 x=some (.i k u,.no)) (hy:dQ C.E C.nt V 0 y=some (.i k v,.no)) :
  cQ C o a w (bN S d (.i k (if mx then r7 u v else yw u v),.no)):=by
 have e1:=(cR h hV hx).dA rfl
 have e2:=(cR h hV hy).dA rfl
 exact h.er hd hl (v := .int k (if mx then r7 u v else yw u v)) (by cases mx <;> simp [execOp,ho,e1,e2,resolve,invoke,builtin,Builtin.min_,Builtin.max_,Builtin.min2,Builtin.max2,yw,r7]) (.sc rfl)
theorem go_real {x:Operand} {k:FloatKind} {p q:Nat} {im:Bool} {ts:Array TypeId} (ho:o.op = .call { callee := .builtin (if im then .imag else .real),args:=#[x],argTypes:=ts }) (hx:dQ C.E C.nt V 0 x=some (.c (.complex k p q),.no)) :
  cQ C o a w (bN S d (.c (.float k (if im then q else p)),.no)):=by
 have e1:=(cR h hV hx).dA rfl
 have r1:∀(a:Array TypeId) (b:TypeId),Builtin.real_ a b #[.complex k p q]=pure (.float k p):=fun _ _=>rfl
 have r2:∀(a:Array TypeId) (b:TypeId),Builtin.imag_ a b #[.complex k p q]=pure (.float k q):=fun _ _=>rfl
 exact h.er hd hl (v := .float k (if im then q else p)) (by cases im <;> simp [execOp,ho,e1,resolve,invoke,builtin,r1,r2]) (.sc rfl)
theorem go_cx {x y:Operand} {p q:Nat} {ts:Array TypeId} (ho:o.op = .call { callee := .builtin .complex,args:=#[x,y],argTypes:=ts }) (hx:dQ C.E C.nt V 0 x=some (.c (.float .f64 p),.no)) (hy:dQ C.E C.nt V 0 y=some (.c (.float .f64 q),.no)) :
  cQ C o a w (bN S d (.c (.complex .f64 p q),.no)):=by
 have e1:=(cR h hV hx).dA rfl
 have e2:=(cR h hV hy).dA rfl
 have r1:∀(a:Array TypeId) (b:TypeId),Builtin.complex_ a b #[.float .f64 p,.float .f64 q]=pure (.complex .f64 p q):=fun _ _=>rfl
 exact h.er hd hl (v := .complex .f64 p q) (by simp [execOp,ho,e1,e2,resolve,invoke,builtin,r1]) (.sc rfl)
section
variable {x:Operand} {s t:TypeId} {c:Cell} (ho:o.op = .convert s t x) (hx:dQ C.E C.nt V s x=some c)
include ho hx
theorem go_ci {y:TV} {k k':IntKind} {n:Int} {du:TypeDesc} (hy:nG V c=some y) (hn:y.int?=some (k',n)) (hs:C.P.underlying s=some du) (ht:C.P.underlying t=some (.int k)):cQ C o a w (bN S d (td k n,.no)):=by
 have e1:=rd_val h hV hx hy (TV.qF hn)
 exact h.er hd hl (v := .int k (k.wrap n)) (by simp only [execOp,ho,e1,convert,Sem.run_bind,run_underlying hs,run_underlying ht,Result.andThen_ok,Conv.intToInt,Sem.run_pure]) (.sc (uC k n))
theorem go_cf {k:IntKind} {n:Int} (hy:nG V c=some (.i k n)) (hs:(C.P.underlying s).isSome=true) (ht:C.P.underlying t=some (.float .f64)):cQ C o a w (bN S d (.c (.float .f64 (Fl.ofInt n)),.no)):=by
 have e1:=rd_val h hV hx hy rfl
 exact h.er hd hl (v := .float .f64 (Fl.ofInt n)) (by simp only [execOp,ho,e1,Sem.run_bind,run_convert_int_float w s t k .f64 n hs ht,Result.andThen_ok,Sem.run_pure];rfl) (.sc rfl)
theorem go_fc {b:Nat} (hy:nG V c=some (.c (.float .f64 b))) (hb:Fl.oR b=true) (hs:(C.P.underlying s).isSome=true) (ht:C.P.underlying t=some (.int .i64)):cQ C o a w (bN S d (.i .i64 (Fl.toInt b),.no)):=by
 have e1:=rd_val h hV hx hy rfl
 have hn:floatToIntVal .f64 b .i64=some (Fl.toInt b):=by
  unfold Fl.oR at hb
  obtain ⟨x,hx⟩:=Option.isSome_iff_exists.1 hb
  unfold Fl.toInt;rw [hx];rfl
 exact h.er hd hl (v := .int .i64 (Fl.toInt b)) (by simp only [execOp,ho,e1,Sem.run_bind,run_convert_float_int w s t .f64 .i64 b _ hs ht hn,Result.andThen_ok,Sem.run_pure]) (.sc rfl)
theorem go_cs {l:bG} (hy:nG V c=some (.s l)) (hs:C.P.underlying s=some .string) (ht:C.P.underlying t=some .string):cQ C o a w (bN S d (.s l,.no)):=by
 have e1:=rd_val h hV hx hy rfl
 exact h.er hd hl (v := .string ⟨⟨l⟩⟩) (by simp [execOp,ho,e1,convert,run_underlying hs,run_underlying ht]) (.sc rfl)
theorem go_bs {l:bG} {e:TypeId} (hy:nG V c=some (.sl .bs l)) (hs:C.P.underlying s=some (.slice e)) (he:C.P.underlying e=some (.int .u8)) (ht:C.P.underlying t=some .string):cQ C o a w (bN S d (.s l,.no)):=by
 have hH:=mK h hV (t:=s) (x:=x) (st := .bs) (l:=l) (by rw [hx];exact hy)
 refine h.er hd hl (v := .string ⟨⟨l⟩⟩) ?_ (.sc rfl)
 rcases hH with ⟨rfl,hv | ⟨ad,cap,hv⟩⟩ | ⟨b,off,cap,ys,hv,h1,h2,h3⟩
 ·simp only [execOp,ho,hv,Sem.run_bind,run_convert_bytes_nil w s e hs he 0 0 t ht,Result.andThen_ok,Sem.run_pure]
  rfl
 ·have hc:=run_convert_bytes_back (P:=C.P) w s t e ad cap [] hs he ht (fun j hj=>by simp at hj)
  simp only [aO] at hc
  simp only [execOp,ho,hv,Sem.run_bind,hc,Result.andThen_ok,Sem.run_pure]
 ·have hc:=run_convert_bytes_back (P:=C.P) w s t e ⟨b,off,none⟩ cap l hs he ht (fun j hj=>by
   rw [addr_add]
   obtain ⟨y,uF,_,yB⟩:=h3.get j (.u8 l[j]) (by rw [mv];simp [hj])
   rw [h2 j y uF,yB.dA rfl])
  simp only [execOp,ho,hv,Sem.run_bind,hc,Result.andThen_ok,Sem.run_pure]
end
theorem go_si {x i:Operand} {t:TypeId} {l:bG} {n:Int} (ho:o.op = .index t x i) (hx:dQ C.E C.nt V t x=some (.s l,.no)) (hi:kh C.E C.nt V i=some n) (hn:cU n l.length=true) (ht:C.P.underlying t=some .string):cQ C o a w (bN S d (.u8 (l.getD n.toNat 0),.no)):=by
 have e1:=(cR h hV hx).dA rfl
 obtain ⟨k,e2⟩:=iq h hV hi
 simp only [cU,ae,az] at hn
 have eJ:n.toNat<l.length:=by omega
 have hb:(⟨⟨l⟩⟩:ByteArray)[n.toNat]?=some (l.getD n.toNat 0):=by
  rw [getElem?_pos (⟨⟨l⟩⟩:ByteArray) n.toNat eJ,ai,ah eJ];rfl
 exact h.er hd hl (v := .int .u8 (l.getD n.toNat 0).toNat) (by simp [execOp,ho,e1,e2,Instr.index,asIntOf,run_underlying ht,hn.1,hb]) (.sc rfl)
theorem go_fe {x:Operand} {t:TypeId} {f n:Nat} {agg:Bool} {fl:Field} {cs:List TV} {y:TV} (ho:o.op = .field t x f) (hx:dQ C.E C.nt V t x=some (.ag cs,.no)) (hf:lu C.P t f=some fl) (hs:fe C.P fl.type=some (n,agg)) (hp:ij cs fl.offset n agg=some y) (h1:agg=true∨n=1) :
  cQ C o a w (bN S d (y,.no)):=by
 obtain ⟨ys,hy,hL⟩:=(cR h hV hx).xA
 obtain ⟨fs,ht,hf⟩:=lP hf
 obtain ⟨inf,hi,rfl,ha⟩:=dU hs
 obtain ⟨hlen,fh⟩:=jq hL hp h1
 refine h.er hd hl (v:=if agg then .agg ⟨(ys.drop fl.offset).take inf.size⟩ else ((ys.drop fl.offset).take inf.size).headD undef) ?_ fh
 simp only [execOp,ho,hy,Instr.field,Sem.run_bind,run_underlying ht,Result.andThen_ok,hf,asAgg,Sem.run_pure,part,ha]
 cases agg with
 | true=>simp [run_sizeOf hi,List.extract_eq_take_drop]
 | false =>
  have hn:inf.size=1:=by simpa using h1
  rw [hn] at hlen ⊢
  have eJ:fl.offset<ys.length:=by simp at hlen;omega
  rw [vw eJ]
  simp [ah eJ]
theorem go_ai {x i:Operand} {t e:TypeId} {m s:Nat} {agg:Bool} {cs:List TV} {n:Int} {y:TV} (ho:o.op = .index t x i) (hx:dQ C.E C.nt V t x=some (.ag cs,.no)) (hi:kh C.E C.nt V i=some n) (ht:C.P.underlying t=some (.array m e)) (hs:fe C.P e=some (s,agg)) (h1:agg=true∨s=1) (hn:cU n m=true)
  (hp:ij cs (n.toNat * s) s agg=some y):cQ C o a w (bN S d (y,.no)):=by
 obtain ⟨ys,rE,hL⟩:=(cR h hV hx).xA
 obtain ⟨k,e2⟩:=iq h hV hi
 obtain ⟨inf,nO,rfl,ha⟩:=dU hs
 obtain ⟨hlen,fh⟩:=jq hL hp h1
 simp only [cU,ae,az] at hn
 refine h.er hd hl (v:=if agg then .agg ⟨(ys.drop (n.toNat * inf.size)).take inf.size⟩ else ((ys.drop (n.toNat * inf.size)).take inf.size).headD undef) ?_ fh
 simp only [execOp,ho,rE,e2,Instr.index,asIntOf,Sem.run_bind,run_underlying ht,Result.andThen_ok,Sem.run_pure,hn.1,hn.2,and_self,if_true,run_sizeOf nO,part,ha]
 cases agg with
 | true=>simp [run_sizeOf nO,List.extract_eq_take_drop]
 | false =>
  have hn:inf.size=1:=by simpa using h1
  rw [hn,Nat.mul_one] at hlen ⊢
  have eJ:n.toNat<ys.length:=by simp at hlen;omega
  rw [vw eJ]
  simp [ah eJ]
theorem go_ex {x:Operand} {i:Nat} {vs:List TV} {y:TV} {l:List (Nat × Nat)} (ho:o.op = .extract x i) (hx:dQ C.E C.nt V 0 x=some (.tu vs,.no)∨dQ C.E C.nt V 0 x=some (.tu vs,.ve l)) (hy:vs[i]?=some y):cQ C o a w (bN S d (y,.no)):=by
 have:∃ys,a.eval x = .tuple ⟨ys⟩∧dW R w vs ys:=by
  rcases hx with hx | hx
  ·exact (cR h hV hx).Ae
  ·obtain ⟨ys,rC,e1,e2,e3,_⟩:=((dN h hV hx).1.at (by simp):eX R w τ (.tu vs) (.ve l) (a.eval x))
   cases e2;exact ⟨ys,e1,e3⟩
 obtain ⟨ys,hv,hT⟩:=this
 obtain ⟨v,uF,yB⟩:=hT.get i y hy
 exact h.er hd hl (v:=v) (by simp [execOp,ho,hv,Instr.extract,uF]) yB
end
end Go.Eng
namespace Go.Eng
open Go.RowKit
theorem jH {P:Program} {E:cI} (hE:fc P E) {x:TypeId} {st:dS} (h:lS E x st=true):∃e i,P.underlying x=some (.slice e)∧P.info? e=some i∧i.size=st.size:=by
 unfold lS at h
 split at h
 ·rename_i e1
  obtain ⟨e,i,_,h1,h2,h3,_⟩:=hE.ty _ _ _ e1
  exact ⟨e,i,h1,h2,h3.trans (aj h)⟩
 ·cases h
theorem dS.size_pos (t:dS):0<t.size:=by cases t <;> simp [dS.size]
section
variable {C:Ctx} {S V:St} {a:Act} {w:World} {R:Reach} {τ:Nat→Value} {o:Oper} {d:Nat} (h:cG C S a w R τ) (hV:Lt V S)
include h hV
theorem cG.fr {t:TypeId} {x:Operand} {c:Cell} {y:TV} {ws:List (Nat × Cell)} (hx:dQ C.E C.nt V t x=some c) (he:pA V c=some (y,ws)):∃R',cG C (cO S ws) a w R' τ∧Rep R' w y (a.eval x)∧cH R w R' w:=by
 obtain ⟨h1,_,h3⟩:=dN h hV hx
 obtain ⟨R',k1,k2,k3,_⟩:=pz h.core hV.q h1 (fun m hm=>(h3 m hm).1) he
 exact ⟨R',h.fz k1 k2,k3,k2.1⟩
theorem mZ {x:Option Operand} {n:Option Int} (he:ir C.E C.nt V x=some n):(x=none∧n=none)∨∃y m k,x=some y∧n=some m∧a.eval y = .int k m:=by
 unfold ir at he
 split at he
 ·cases he;exact .inl ⟨rfl,rfl⟩
 ·simp only [aH] at he
  obtain ⟨m,h1,rfl⟩:=he
  obtain ⟨k,h2⟩:=iq h hV h1
  exact .inr ⟨_,m,k,rfl,rfl,h2⟩
theorem zB {lo:Option Operand} {p:Option Int} {n:Nat} (h1:ir C.E C.nt V lo=some p) (h0:0≤p.getD n):(lo=none∧(p.getD n).toNat=n)∨∃y k,lo=some y∧a.eval y = .int k (((p.getD n).toNat:Nat):Int):=by
 rcases mZ h hV h1 with ⟨rfl,rfl⟩ | ⟨y,m,k,rfl,rfl,hy⟩
 ·exact .inl ⟨rfl,by simp⟩
 ·exact .inr ⟨y,k,rfl,by simp only [Option.getD_some] at h0 ⊢;rw [hy];congr 1;omega⟩
theorem bounds {lo hi:Option Operand} {p q:Option Int} (h1:ir C.E C.nt V lo=some p) (h2:ir C.E C.nt V hi=some q) {n:Nat} (hc:en (p.getD 0) (q.getD n) n=true) (b:Bool) {cap:Nat} (ng:n≤cap) (hb:b=false→cap=n) :
  (Instr.sliceBounds b n cap (lo.map a.eval) (hi.map a.eval) none).run C.P w = .ok ((p.getD 0).toNat,(q.getD n).toNat,cap) w∧(p.getD 0).toNat≤(q.getD n).toNat∧(q.getD n).toNat≤n:=by
 simp only [en,ae,az] at hc
 have e1:=zB h hV (n:=0) h1 hc.1.1
 have e2:=zB h hV (n:=n) h2 (by omega)
 generalize hu:(q.getD n).toNat=u at *
 generalize hl:(p.getD 0:Int).toNat=l at *
 have k1:l≤u:=by omega
 have k2:u≤n:=by omega
 refine ⟨?_,k1,k2⟩
 have k3:u≤cap:=by omega
 unfold Instr.sliceBounds
 rcases e1 with ⟨rfl,rfl⟩ | ⟨y,k,rfl,hy⟩ <;> rcases e2 with ⟨rfl,rfl⟩ | ⟨y',k',rfl,rE⟩ <;> simp [Instr.sliceBound,asIntOf, *]
variable (hd:o.dst=some d) (hl:d<C.nt)
include hd hl
theorem go_ss {x:Operand} {t:TypeId} {lo hi:Option Operand} {p q:Option Int} {l:bG} (ho:o.op = .slice t x lo hi none) (ht:C.P.underlying t=some .string) (hx:dQ C.E C.nt V t x=some (.s l,.no)) (h1:ir C.E C.nt V lo=some p) (h2:ir C.E C.nt V hi=some q)
  (hc:en (p.getD 0) (q.getD l.length) l.length=true):cQ C o a w (bN S d (.s ((l.take (q.getD l.length).toNat).drop (p.getD 0).toNat),.no)):=by
 have e1:=(cR h hV hx).dA rfl
 obtain ⟨hb,k1,k2⟩:=bounds h hV h1 h2 hc false (Nat.le_refl _) (fun _=>rfl)
 have hs:ByteArray.size ⟨⟨l⟩⟩=l.length:=rfl
 have he:(⟨⟨l⟩⟩:ByteArray).extract (p.getD 0).toNat (q.getD l.length).toNat=⟨⟨(l.take (q.getD l.length).toNat).drop (p.getD 0).toNat⟩⟩:=by
  have:∀{s:ByteArray} {m:List UInt8},s.data.toList=m→s=⟨⟨m⟩⟩:=fun h=>by subst h;rfl
  exact this (by rw [Lib.extract_data,List.drop_take])
 refine h.er hd hl (v := .string ((⟨⟨l⟩⟩:ByteArray).extract (p.getD 0).toNat (q.getD l.length).toNat)) ?_ (.sc (by rw [he];rfl))
 simp only [execOp,ho,e1,Instr.sliceAt,Instr.slice,Sem.run_bind,run_underlying ht,Result.andThen_ok,Option.map_none,hs,hb,Sem.run_pure]
 simp [hb]
theorem go_sc {x:Operand} {t:TypeId} {lo hi:Option Operand} {p q:Option Int} {c:Cell} {st:dS} {l:List st.El} {ws:List (Nat × Cell)} (hE:fc C.P C.E) (ho:o.op = .slice t x lo hi none) (ht:lS C.E t st=true) (hx:dQ C.E C.nt V t x=some c) (hf:pA V c=some (.sl st l,ws))
  (h1:ir C.E C.nt V lo=some p) (h2:ir C.E C.nt V hi=some q) (hc:en (p.getD 0) (q.getD l.length) l.length=true):cQ C o a w (bN (cO S ws) d (.sl st ((l.take (q.getD l.length).toNat).drop (p.getD 0).toNat),.no)):=by
 obtain ⟨R',h',e1,_⟩:=h.fr hV hx hf
 obtain ⟨e,inf,ht,rH,hz⟩:=jH hE ht
 have hb:=fun cap ng=>bounds h hV h1 h2 hc true (cap:=cap) ng (fun e=>by cases e)
 obtain ⟨_,k1,k2⟩:=hb l.length (Nat.le_refl _)
 generalize hu:(q.getD l.length).toNat=u at *
 generalize Gy:(p.getD 0).toNat=lw at *
 rcases e1.rO with ⟨rfl,hv⟩ | ⟨b,off,cap,hv,ng,yN,Fy⟩ | ⟨rfl,ad,cap,hv,yN⟩
 ·obtain ⟨rfl,rfl⟩:lw=0∧u=0:=by simp at k2;omega
  have lp:=(hb 0 (by simp)).1
  refine h'.er hd hl (v := .slice none 0 0) ?_ (by simp only [List.take_nil,List.drop_nil];exact .sn st)
  simp only [aO] at lp
  simp only [execOp,ho,hv,Instr.sliceAt,Instr.slice,Sem.run_bind,run_underlying ht,Result.andThen_ok,Option.map_none,lp,run_sizeOf rH,Sem.run_pure]
  simp
 ·refine h'.er hd hl (v := .slice (some ⟨b,if cap=lw then off else off+lw * st.size,none⟩) (u - lw) (cap - lw)) ?_ ?_
  ·simp only [execOp,ho,hv,Instr.sliceAt,Instr.slice,Sem.run_bind,run_underlying ht,Result.andThen_ok,Option.map_none,(hb cap ng).1,run_sizeOf rH,Sem.run_pure,hz]
   split <;> simp [*,addr_add]
  ·have hlen:((l.take u).drop lw).length=u - lw:=by simp;omega
   rw [←hlen]
   refine .sl rfl (by rw [hlen];omega) (by omega) ?_
   by_cases A7:cap=lw
   ·have:(l.take u).drop lw=[]:=bh (by rw [hlen];omega)
    rw [this];exact .nil _ _ _
   ·rw [ak A7,List.map_drop,List.map_take]
    exact (Fy.take u).drop lw
 ·obtain ⟨rfl,rfl⟩:lw=0∧u=0:=by simp at k2;omega
  have lp:=(hb cap (by simp)).1
  refine h'.er hd hl (v := .slice (some ad) 0 cap) ?_ (by simp only [List.take_nil,List.drop_nil];exact .em st yN)
  simp only [aO] at lp
  simp only [execOp,ho,hv,Instr.sliceAt,Instr.slice,Sem.run_bind,run_underlying ht,Result.andThen_ok,Option.map_none,lp,run_sizeOf rH,Sem.run_pure]
  simp [Addr.add]
theorem go_ix {x i:Operand} {t:TypeId} {st:dS} {l:List st.El} {n:Int} (hE:fc C.P C.E) (ho:o.op = .indexAddr t x i) (ht:lS C.E t st=true) (hx:Rep R w (.sl st l) (a.eval x)) (hi:kh C.E C.nt V i=some n) (hn:cU n l.length=true) :
  cQ C o a w (bN S d (.ro (st.tv (l.getD n.toNat st.fi)),.no)):=by
 obtain ⟨e,inf,ht,rH,hz⟩:=jH hE ht
 obtain ⟨k,e2⟩:=iq h hV hi
 simp only [cU,ae,az] at hn
 have eJ:n.toNat<l.length:=by omega
 rcases hx.rO with ⟨rfl,hv⟩ | ⟨b,off,cap,hv,ng,yN,Fy⟩ | ⟨rfl,ad,cap,hv,yN⟩
 ·simp at eJ
 ·refine h.er hd hl (v := .pointer (some ⟨b,off+n.toNat * st.size,none⟩)) ?_ (.ro (Fy.get n.toNat _ ?_))
  ·simp [execOp,ho,hv,e2,Instr.indexAt,asIntOf,run_underlying ht,run_sizeOf rH,hz,hn.1,addr_add]
   omega
  ·simp [ai,ah eJ]
 ·simp at eJ
theorem go_pix {x i:Operand} {t:TypeId} {st:dS} {l:List st.El} {n:Int} {k:Nat} (hE:fc C.P C.E) (ho:o.op = .indexAddr t x i) (ht:lS C.E t st=true) (hx:dQ C.E C.nt V t x=some (.pt,.cT k)) (hk:S k=(.sl st l,.pv)) (hi:kh C.E C.nt V i=some n) (hn:cU n l.length=true) :
  cQ C o a w (bN S d (.el n.toNat st.size 0,.pe k)):=by
 obtain ⟨e,inf,ht,rH,hz⟩:=jH hE ht
 obtain ⟨kk,e2⟩:=iq h hV hi
 obtain ⟨q1,_,q3⟩:=dN h hV hx
 have hv:a.eval x=τ k:=q1.1
 simp only [cU,ae,az] at hn
 have eJ:n.toNat<l.length:=by omega
 have hs:=h.core.key k
 rw [hk] at hs
 rcases cV.cells hs with ⟨rfl,_⟩ | ⟨g,cap,cur,ce,fz,e1,_⟩
 ·simp at eJ
 ·rw [e1] at hv
  refine h.val hd hl (v := .pointer (some ⟨g,n.toNat * st.size,none⟩)) (g := .pe k) ?_ ⟨g,_,_,_,by rw [e1];rfl,rfl,rfl⟩ rfl q3
  simp [execOp,ho,hv,e2,Instr.indexAt,asIntOf,run_underlying ht,run_sizeOf rH,hz,hn.1,addr_add]
  omega
theorem go_la {x i:Operand} {t e:TypeId} {m k:Nat} {n:Int} {inf:TypeInfo} {cs:List TV} {ts:List (Nat × Nat)} (ho:o.op = .indexAddr t x i) (ht:C.P.underlying t=some (.array m e)) (nO:C.P.info? e=some inf) (hx:dQ C.E C.nt V t x=some (.pt,.ptr k 0)) (hk:S k=(.ag cs,.cl ts)) (hi:kh C.E C.nt V i=some n) (hn:cU n m=true) :
  cQ C o a w (bN S d (.el n.toNat inf.size 0,.pe k)):=by
 obtain ⟨kk,e2⟩:=iq h hV hi
 obtain ⟨q1,_,q3⟩:=dN h hV hx
 obtain ⟨b,p1,hv⟩:∃b,τ k = .pointer (some ⟨b,0,none⟩)∧a.eval x = .pointer (some ⟨b,0,none⟩):=q1
 simp only [cU,ae,az] at hn
 refine h.val hd hl (v := .pointer (some ⟨b,n.toNat * inf.size,none⟩)) (g := .pe k) ?_ ⟨b,_,_,_,by rw [p1];rfl,rfl,rfl⟩ rfl q3
 simp [execOp,ho,hv,e2,Instr.indexAt,Instr.sureAddr,asIntOf,run_underlying ht,run_sizeOf nO,hn.1,hn.2,addr_add]
section
variable {x:Operand} {t:TypeId} {f n:Nat} {agg:Bool} {fl:Field} (ho:o.op = .fieldAddr t x f) (hf:lu C.P t f=some fl) (hs:fe C.P fl.type=some (n,agg)) (hn:0<n)
include ho hf hs hn
omit h hV hd hl in
theorem rT {b off:Nat} (hv:a.eval x = .pointer (some ⟨b,off,none⟩)):(execOp a.eval o).run C.P w = .ok (.value (.pointer (some ⟨b,off+fl.offset,none⟩))) w:=by
 obtain ⟨fs,ht,hf⟩:=lP hf
 obtain ⟨inf,hi,rfl,ha⟩:=dU hs
 have fP:inf.size≠0:=by omega
 simp [execOp,ho,hv,Instr.fieldAt,Instr.sureAddr,run_underlying ht,hf,fieldPlace,run_sizeOf hi,fP,addr_add]
theorem go_fa {m q:Nat} (hx:dQ C.E C.nt V 0 x=some (.pt,.ptr m q)):cQ C o a w (bN S d (.pt,.ptr m (q+fl.offset))):=by
 obtain ⟨q1,_,q3⟩:=dN h hV hx
 obtain ⟨b,p1,hv⟩:∃b,τ m = .pointer (some ⟨b,0,none⟩)∧a.eval x = .pointer (some ⟨b,q,none⟩):=q1
 exact h.val hd hl (rT ho hf hs hn hv) (g := .ptr m (q+fl.offset)) ⟨b,p1,rfl⟩ rfl q3
theorem go_pfa {i s q k:Nat} (hx:dQ C.E C.nt V 0 x=some (.el i s q,.pe k)):cQ C o a w (bN S d (.el i s (q+fl.offset),.pe k)):=by
 obtain ⟨q1,_,q3⟩:=dN h hV hx
 obtain ⟨b,i',s',q',p1,p2,hv⟩:∃b i' s' q',Value.dv (τ k)=some b∧TV.el i s q = .el i' s' q'∧a.eval x = .pointer (some ⟨b,i' * s'+q',none⟩):=q1
 cases p2
 exact h.val hd hl (rT ho hf hs hn hv) (g := .pe k) ⟨b,_,_,_,p1,rfl,by rw [Nat.add_assoc]⟩ rfl q3
theorem go_fr {cs:List TV} {y:TV} (hx:dQ C.E C.nt V 0 x=some (.ro (.ag cs),.no)) (hp:ij cs fl.offset n agg=some y):cQ C o a w (bN S d (.ro y,.no)):=by
 obtain ⟨b,off,s',hv,hA⟩:=(cR h hV hx).rV
 refine h.er hd hl (rT ho hf hs hn hv) ?_
 cases hA with
 | one n _ _ _ _=>simp [TV.lT] at n
 | ag _ hC =>
  unfold ij at hp
  cases agg with
  | true =>
   simp only at hp
   cases hb:Nat.ble (fl.offset+n) cs.length with
   | true =>
    rw [hb] at hp
    cases hp
    exact .ro (.ag rfl ((hC.drop fl.offset).take n))
   | false=>rw [hb] at hp;cases hp
  | false =>
   simp at hp
   have eJ:=(av.1 hp).1
   have hD:=hC.drop fl.offset
   rw [List.drop_eq_getElem_cons eJ] at hD
   have hs:cs[fl.offset]=y:=(av.1 hp).2
   rw [hs] at hD
   cases hD with
   | cons r c a vg _ =>
    refine .ro (.one ?_ r c a vg)
    cases y with
    | ag _=>cases vg with
     | sc h=>cases h
     | ag=>simp [Value.oneCell'] at a
    | _=>rfl
end
theorem go_nc {x:Operand} {m q:Nat} (ho:o.op = .nilCheck x) (hx:dQ C.E C.nt V 0 x=some (.pt,.ptr m q)):cQ C o a w (bN S d (.pt,.ptr m q)):=by
 obtain ⟨q1,q2,q3⟩:=dN h hV hx
 obtain ⟨b,p1,hv⟩:∃b,τ m = .pointer (some ⟨b,0,none⟩)∧a.eval x = .pointer (some ⟨b,q,none⟩):=q1
 exact h.val hd hl (v := .pointer (some ⟨b,q,none⟩)) (by simp [execOp,ho,hv]) (g := .ptr m q) ⟨b,p1,rfl⟩ rfl q3
theorem go_ncr {x:Operand} {y:TV} (ho:o.op = .nilCheck x) (hx:dQ C.E C.nt V 0 x=some (.ro y,.no)):cQ C o a w (bN S d (.ro y,.no)):=by
 obtain ⟨b,off,s',hv,hA⟩:=(cR h hV hx).rV
 exact h.er hd hl (v := .pointer (some ⟨b,off,none⟩)) (by simp [execOp,ho,hv]) (.ro hA)
theorem go_ext {x:Operand} {i k:Nat} {vs:List TV} {l:List (Nat × Nat)} (ho:o.op = .extract x i) (hx:dQ C.E C.nt V 0 x=some (.tu vs,.ve l)) (hk:fZ i l=some k) (pn:(τ k).oneCell'=true):cQ C o a w (bN S d (.pt,.cT k)):=by
 obtain ⟨q1,_,q3⟩:=dN h hV hx
 obtain ⟨ys,rC,e1,e2,e3,e4⟩:∃ys rC,a.eval x = .tuple ⟨ys⟩∧TV.tu vs = .tu rC∧dW R w rC ys∧∀p∈l,ys[p.1]?=some (τ p.2):=q1
 have hm:=fS hk
 refine h.val hd hl (v:=τ k) (by simp [execOp,ho,e1,Instr.extract,e4 _ hm]) (g := .cT k) ⟨rfl,pn⟩ rfl fun j hj=>?_
 simp only [Gh.bP,List.mem_singleton] at hj
 subst hj
 exact q3 _ (List.mem_map_of_mem (f:=(·.2)) hm)
end
end Go.Eng
namespace Go.Eng
open Go.RowKit
theorem dR {nt k:Nat} {V S:St} (hV:Lq V S) (h:jr nt V k=true):(S k).2 = .no∧k<1000000∧nt≤k:=by
 simp only [jr,ae,az] at h
 obtain ⟨⟨h1,h2⟩,h3⟩:=h
 refine ⟨?_,Nat.le_of_ble_eq_true h2,Nat.le_of_ble_eq_true h3⟩
 rcases hV k with e | e | ⟨e,_⟩
 ·rw [←e];exact h1
 ·rw [h1] at e;cases e
 ·rw [h1] at e;cases e
theorem gQ {R:Reach} {w:World} {x:TV} {v:Value} (h:Rep R w x v) (hp:x.plain=true):bX R w x.cells v.cells.toList:=by
 cases h with
 | sc hv =>
  have key:∀{x:TV} {v:Value},x.val=some v→v.oneCell'=true→x.lT=false→x.plain=true→bX R w x.cells v.cells.toList:=fun {x v} h1 h2 h3 h4=>by
   have e1:x.cells=[x]:=by cases x <;> first | rfl | (simp [TV.lT] at h3)
   have e2:v.cells.toList=[v]:=by cases v <;> first | rfl | (simp [Value.oneCell'] at h2)
   rw [e1,e2];exact .cons h2 (.sc h1) .nil
  refine key hv ?_ (by cases x <;> first | rfl | cases hv) hp
  cases x <;> first | (cases hv;done) | (cases hv;rfl) | skip
  cases hv
  cases v <;> first | rfl | (cases hp)
 | ag h=>exact h
 | nl t=>exact .cons rfl (.nl t) .nil
 | ub _=>simp [TV.plain] at hp
 | sn t=>exact .cons rfl (.sn t) .nil
 | sl a b c d=>exact .cons rfl (.sl a b c d) .nil
 | em s h=>exact .cons rfl (.em s h) .nil
 | ro h=>exact .cons rfl (.ro h) .nil
 | tu=>simp [TV.plain] at hp
 | pt=>simp [TV.plain] at hp
 | dead=>simp [TV.plain] at hp
 | Ce=>simp [TV.plain] at hp
 | Dq=>simp [TV.plain] at hp
theorem kx {P:Program} {t:TypeId} {i:TypeInfo} {v:Value} (hi:P.info? t=some i) (hz:i.zero=some v) (w:World):(zeroValue t).run P w = .ok v w:=by simp [zeroValue,typeInfo,hi,hz]
theorem lN {α:Type} {zs:List α} (hz:0<zs.length):∀(l j:Nat) (y:α),(List.replicate l zs).flatten[j]?=some y→zs[j % zs.length]?=some y
 | 0,j,y,h=>by simp at h
 | l+1,j,y,h=>by
  simp only [List.replicate_succ,List.flatten_cons] at h
  by_cases hj:j<zs.length
  ·rw [List.getElem?_append_left hj] at h;rwa [Nat.mod_eq_of_lt hj]
  ·rw [aV (by omega)] at h
   have:=lN hz l _ y h
   rwa [Nat.mod_eq_sub_mod (by omega)]
theorem jm {R:Reach} {w:World} {xs:List TV} {ys:List Value} (h:bX R w xs ys):∀n,bX R w (List.replicate n xs).flatten (List.replicate n ys).flatten
 | 0 => .nil
 | n+1=>by simp only [List.replicate_succ,List.flatten_cons];exact h.append (jm h n)
section
variable {C:Ctx} {S V:St} {a:Act} {w w':World} {R:Reach} {τ:Nat→Value} {o:Oper} {d:Nat}
theorem cG.new (h:cG C S a w R τ) {cur:Array Value} {e:TypeId} {fz:Nat × Nat} {k:Nat} {v:Value} {x:TV} {g:Gh} (hk:(S k).2 = .no∧k<1000000∧C.nt≤k) (os:w'.os=w.os) (tape:w'.tape=w.tape) (out:w'.output=w.output) (hh:w'.heap=w.heap.push (.cells cur e fz))
  (new:eZ R w' τ x g v) (hb:Value.dv v=none∨Value.dv v=some w.heap.size) (hg:g = .pv∨g = .lv∨g = .cl []):cG C (bN S k (x,g)) a w' R (kq τ k v):=by
 have jX:w'.heap.size=w.heap.size+1:=by rw [hh];simp
 have hold:∀b,b<w.heap.size→w'.heap[b]?=w.heap[b]?:=fun b hb=>by rw [hh,Array.getElem?_push,ak (by omega)]
 have cq:cH R w R w':=fun b o hr=>⟨hr,World.cell?_of_block (w:=w) (hold b (h.core.j9 b o hr))⟩
 have hm:g.bP=[]:=by rcases hg with rfl | rfl | rfl <;> rfl
 refine ⟨h.size,h.defers,h.core.tR hk.2.2 cq (fun j b _ hb=>⟨hold b (h.core.lt hb),fun _=>id⟩) new (.inr hk.1) ⟨by rw [hk.1];rfl,by rcases hg with rfl | rfl | rfl <;> rfl⟩ (by rcases hg with rfl | rfl | rfl <;> simp)
  (fun _ => .inr hk.1) (fun b _ fJ=>?_) (by rw [hm];simp) (fun b o hr=>by have:=h.core.j9 b o hr;omega),fun t ht=>?_,⟨h.io.1,fun j hj=>?_⟩,
  h.ext.trans (io':=C.io) ⟨os,tape,out,by omega,fun b hb _=>hold b hb,cq,fun b o hr => .inl hr⟩ fun b hb => .inl hb,h.gl.cq cq⟩
 ·rcases hb with hb | hb <;> rw [hb] at fJ <;> cases fJ
  exact ⟨.inr h.ext.size,.inl (Nat.le_refl _)⟩
 ·rw [dn _ _ (by omega)];exact h.tmps t ht
 ·rw [dn _ _ (by omega)];exact h.io.2 j hj
theorem cG.ox (h:cG C S a w' R τ) (hd:o.dst=some d) (hl:d<C.nt) {v:Value} {x:TV} {g:Gh} (hr:(execOp a.eval o).run C.P w = .ok (.value v) w') (hs:cz R w' τ x g v) (hg:g.slot=true) (hm:∀k∈g.bP,C.nt≤k∧(S k).2 ≠ .no):cQ C o a w (bN S d (x,g)):=fun K Q hK=>by
 unfold Oper.wp
 rw [hr,Oper.upon_value,hd]
 refine hK _ _ ⟨R,_,by simp [Act.put,h.size],h.defers,h.core.put hl hs hg hm,fun t ht=>?_,⟨h.io.1,fun k hk=>?_⟩,h.ext,h.gl⟩
 ·by_cases e:t=d
  ·subst e;rw [dh];simp [Act.put,Array.getD,h.size,ht]
  ·rw [dn _ _ e,←h.tmps t ht]
   simp only [Act.put,Array.getD_eq_getD_getElem?]
   rw [Array.getElem?_setIfInBounds_ne (Ne.symm e)]
 ·have:=h.io.1
  rw [dn _ _ (by omega)];exact h.io.2 k hk
theorem cG.Ba (h:cG C S a w R τ) (hd:o.dst=some d) (hl:d<C.nt) {cur:Array Value} {e:TypeId} {fz:Nat × Nat} {k cap:Nat} {st:dS} {l:List st.El} {ys:List Value} (hk:(S k).2 = .no∧k<1000000∧C.nt≤k) (os:w'.os=w.os) (tape:w'.tape=w.tape) (out:w'.output=w.output) (hh:w'.heap=w.heap.push (.cells cur e fz))
  (hf:∀o,o<cur.size→¬(fz.1≤o∧o<fz.2)) (jX:cur.size=cap * st.size) (h1:l.length≤cap) (h2:cap≤maxLen) (hL:bX R w ((l.map st.tv).flatMap TV.cells) ys) (A6:∀(j:Nat) (y:Value),ys[j]?=some y→cur[j]?=some y)
  (hr:(execOp a.eval o).run C.P w = .ok (.value (.slice (some ⟨w.heap.size,0,none⟩) l.length cap)) w'):cQ C o a w (bN (bN S k (.sl st l,.pv)) d (.pt,.cT k)):=by
 have AX:w'.heap[w.heap.size]?=some (.cells cur e fz):=by rw [hh];simp
 have hold:∀b,b<w.heap.size→w'.heap[b]?=w.heap[b]?:=fun b hb=>by rw [hh,Array.getElem?_push,ak (by omega)]
 have cq:cH R w R w':=fun b o hr=>⟨hr,World.cell?_of_block (w:=w) (hold b (h.core.j9 b o hr))⟩
 have hlen:=hL.length
 rw [gT] at hlen
 have AO:cur.toList.take (l.length * st.size)=ys:=by
  apply List.ext_getElem?
  intro j
  rw [aF]
  split
  ·have e:=ah (l:=ys) (i:=j) (by omega)
   have:=A6 j _ e
   rw [e]
   simpa using this
  ·exact (List.getElem?_eq_none (by omega)).symm
 have hn:=h.new (x := .sl st l) (g := .pv) (v := .slice (some ⟨w.heap.size,0,none⟩) l.length cap) hk os tape out hh ⟨st,l,rfl,.inr ⟨_,cap,cur,e,fz,rfl,AX,hf,jX,h1,h2,by rw [AO];exact hL.mono cq,fun o=>⟨fun hr=>by have:=h.core.j9 _ _ hr;omega,fun hr=>by simp at hr⟩⟩⟩ (.inr rfl) (.inl rfl)
 refine hn.ox hd hl hr (g := .cT k) ⟨(dh _ _ _).symm,rfl⟩ rfl fun j hj=>?_
 simp only [Gh.bP,List.mem_singleton] at hj
 subst hj
 exact ⟨hk.2.2,by rw [bF];simp⟩
theorem cG.goVar (h:cG C S a w R τ) (hd:o.dst=some d) (hl:d<C.nt) {ys:List Value} {e:TypeId} {k:Nat} {xs:List TV} (hk:(S k).2 = .no∧k<1000000∧C.nt≤k) (os:w'.os=w.os) (tape:w'.tape=w.tape) (out:w'.output=w.output) (hh:w'.heap=w.heap.push (.cells ⟨ys⟩ e (0,0))) (hL:bX R w xs ys)
  (hr:(execOp a.eval o).run C.P w = .ok (.value (.pointer (some ⟨w.heap.size,0,none⟩))) w'):cQ C o a w (bN (bN S k (.ag xs,.cl [])) d (.pt,.ptr k 0)):=by
 have AX:w'.heap[w.heap.size]?=some (.cells ⟨ys⟩ e (0,0)):=by rw [hh];simp
 have hold:∀b,b<w.heap.size→w'.heap[b]?=w.heap[b]?:=fun b hb=>by rw [hh,Array.getElem?_push,ak (by omega)]
 have cq:cH R w R w':=fun b o hr=>⟨hr,World.cell?_of_block (w:=w) (hold b (h.core.j9 b o hr))⟩
 have hn:=h.new (x := .ag xs) (g := .cl []) (v := .pointer (some ⟨w.heap.size,0,none⟩)) hk os tape out hh ⟨_,ys,e,xs,rfl,AX,rfl,hL.mono cq,by simp,fun o hr=>by have:=h.core.j9 _ _ hr;omega⟩ (.inr rfl) (.inr (.inr rfl))
 refine hn.ox hd hl hr (g := .ptr k 0) ⟨_,dh _ _ _,rfl⟩ rfl fun j hj=>?_
 simp only [Gh.bP,List.mem_singleton] at hj
 subst hj
 exact ⟨hk.2.2,by rw [bF];simp⟩
variable (h:cG C S a w R τ) (hd:o.dst=some d) (hl:d<C.nt)
include h hd hl
theorem go_al {t:TypeId} {k:Nat} {z:List TV} (hE:fc C.P C.E) (ho:o.op = .alloc t) (hz:C.E.z t=some z) (hk:(S k).2 = .no∧k<1000000∧C.nt≤k):cQ C o a w (bN (bN S k (.ag z,.cl [])) d (.pt,.ptr k 0)):=by
 obtain ⟨_,v,h1,h2⟩:=hE.z _ _ hz
 rw [aE] at h1
 obtain ⟨i,hi,D4⟩:=h1
 exact h.goVar hd hl (w':={ w with heap:=w.heap.push (.cells ⟨v.cells.toList⟩ t) }) hk rfl rfl rfl rfl (jD h2) (by simp [execOp,ho,Instr.alloc,kx hi D4,newVar,newRow])
theorem go_bx {t:TypeId} {k:Nat} {x:Operand} {y:TV} (hV:Lt V S) (ho:o.op = .box t x) (hx:dQ C.E C.nt V t x=some (y,.no)) (hp:y.plain=true) (hk:(S k).2 = .no∧k<1000000∧C.nt≤k):cQ C o a w (bN (bN S k (.ag y.cells,.cl [])) d (.pt,.ptr k 0)) :=
 h.goVar hd hl (w':={ w with heap:=w.heap.push (.cells ⟨(a.eval x).cells.toList⟩ t) }) hk rfl rfl rfl rfl (gQ (cR h hV hx) hp) (by simp [execOp,ho,Instr.box,newVar,newRow])
theorem go_sb {x:Operand} {s t e:TypeId} {c:Cell} {l:bG} {k:Nat} (hV:Lt V S) (ho:o.op = .convert s t x) (hx:dQ C.E C.nt V s x=some c) (hy:nG V c=some (.s l)) (hs:C.P.underlying s=some .string) (ht:C.P.underlying t=some (.slice e)) (he:C.P.underlying e=some (.int .u8)) (hm:lK l.length=true)
  (hk:(S k).2 = .no∧k<1000000∧C.nt≤k):cQ C o a w (bN (bN S k (.sl .bs l,.pv)) d (.pt,.cT k)):=by
 have e1:=rd_val h hV hx hy rfl
 have hlen:ByteArray.size ⟨⟨l⟩⟩=l.length:=rfl
 have hm:l.length≤maxLen:=by simpa [lK] using hm
 have ft:=run_bytes_of_string (P:=C.P) w s t e ⟨⟨l⟩⟩ hs ht he
 rw [hlen] at ft
 have A2:=grownCap_ge w l.length 0 e
 have hle:=grownCap_le_maxLen w l.length 0 e hm
 have jX:(bytesRow ⟨⟨l⟩⟩ (grownCap w l.length 0 e)).size=grownCap w l.length 0 e:=by simp only [bytesRow,Array.size_append,Array.size_map,Array.size_replicate,List.size_toArray];omega
 refine h.Ba hd hl (st := .bs) (l:=l) (ys:=l.map fun x => .int .u8 x.toNat) (cur:=bytesRow ⟨⟨l⟩⟩ (grownCap w l.length 0 e)) (e:=e) (fz:=((bytesRow ⟨⟨l⟩⟩ (grownCap w l.length 0 e)).size,(bytesRow ⟨⟨l⟩⟩ (grownCap w l.length 0 e)).size+1)) hk ?_ ?_ ?_ ?_ ?_ ?_ A2 hle ?_ ?_ (w':=w.drew.alloc (.cells (bytesRow ⟨⟨l⟩⟩ (grownCap w l.length 0 e)) e ((bytesRow ⟨⟨l⟩⟩ (grownCap w l.length 0 e)).size,(bytesRow ⟨⟨l⟩⟩ (grownCap w l.length 0 e)).size+1)))
  (by simp only [execOp,ho,e1,Sem.run_bind,ft,Result.andThen_ok,Sem.run_pure])
 ·rfl
 ·rfl
 ·rfl
 ·rfl
 ·simp only;intro o ho;omega
 ·simpa [dS.size] using jX
 ·rw [mv]
  have:∀m:bG,bX R w (m.map TV.u8) (m.map fun x => .int .u8 x.toNat):=fun m=>by
   induction m with
   | nil=>exact .nil
   | cons b m ih=>exact .cons rfl (.sc rfl) ih
  exact this l
 ·intro j y hj
  have eJ:=(av.1 hj).1
  unfold bytesRow
  rw [Array.getElem?_append_left (by simp at eJ ⊢;exact eJ)]
  simpa using hj
theorem go_mk {t:TypeId} {x y:Operand} {k jQ:Nat} {m n:Int} {st:dS} (hE:fc C.P C.E) (hV:Lt V S) (ho:o.op = .makeSlice t x y) (ht:C.E.ty t=some (st,jQ)) (hx:kh C.E C.nt V x=some m) (hy:kh C.E C.nt V y=some n) (hm:AF m n jQ=true) (hk:(S k).2 = .no∧k<1000000∧C.nt≤k) :
  cQ C o a w (bN (bN S k (.sl st (List.replicate m.toNat st.fi),.pv)) d (.pt,.cT k)):=by
 obtain ⟨e,i,zv,h1,h2,h3,h4,h5,h6,h7⟩:=hE.ty _ _ _ ht
 obtain ⟨k1,e1⟩:=iq h hV hx
 obtain ⟨k2,e2⟩:=iq h hV hy
 simp only [AF,ae,az] at hm
 obtain ⟨⟨⟨m0,mn⟩,mb⟩,mm⟩:=hm
 have HQ:=run_make (P:=C.P) w t e i zv h1 h2 h5 k1 k2 m n m0 mn (by rw [Int.mul_comm,h4];omega) (by simp only [maxLen] at mm;omega)
 have yE:=st.size_pos
 have HZ:((List.replicate m.toNat st.fi).map st.tv).flatMap TV.cells=(List.replicate m.toNat (st.tv st.fi).cells).flatten:=by rw [List.map_replicate,List.flatMap_def,List.map_replicate]
 refine h.Ba hd hl (st:=st) (l:=List.replicate m.toNat st.fi) (cap:=n.toNat) (cur:=madeCells zv.cells (n.toNat * i.size)) (e:=e) (fz:=(0,0)) (ys:=(List.replicate m.toNat zv.cells.toList).flatten) (w':=w.alloc (.cells (madeCells zv.cells (n.toNat * i.size)) e)) hk rfl rfl rfl rfl (fun o _=>by simp) (by rw [size_madeCells,h3]) (by rw [List.length_replicate];omega) (by omega)
  (by rw [HZ];exact jm (h7 R w) _) (fun j y hj=>?_) ?_
 ·have q1:=lN (by simp;omega) _ _ _ hj
  have eJ:=(av.1 hj).1
  have C6:(List.replicate m.toNat zv.cells.toList).flatten.length=m.toNat * st.size:=by simp [h6]
  rw [C6] at eJ
  have hle:m.toNat * st.size≤n.toNat * st.size:=aT _ (by omega)
  have hm:j<n.toNat * i.size:=by rw [h3];omega
  simp only [madeCells,Array.getElem?_map,Array.getElem?_range,hm,if_true,Option.map_some]
  simp only [Array.length_toList,Array.getElem?_toList] at q1
  rw [getElem!_def,q1]
 ·simp only [execOp,ho,e1,e2,Sem.run_bind,HQ,Result.andThen_ok,Sem.run_pure,List.length_replicate]
end
end Go.Eng
namespace Go.Eng
open Go.RowKit
theorem fq {P:Program} (g o:Nat) (t:TypeId) (fz:Nat × Nat):∀(vs:List Value) (i:Nat) (cur:Array Value) (w:World),w.heap[g]?=some (.cells cur t fz)→o+i+vs.length≤cur.size →
  (∀j,j<cur.size→¬(fz.1≤j∧j<fz.2))→(∀v∈vs,v.oneCell'=true) →
  (storeCells ⟨g,o,none⟩ vs i).run P w = .ok () (w.setRow g (cur.toList.take (o+i)++vs++cur.toList.drop (o+i+vs.length)).toArray)
 | [],i,cur,w,hg,_,_,_=>by
  simp only [storeCells,bj,aO,Nat.add_zero,List.take_append_drop,Array.toArray_toList]
  rw [setRow_self w g cur t fz hg]
  rfl
 | v :: rest,i,cur,w,hg,hl,hf,h1=>by
  have hi:o+i<cur.size:=by simp at hl;omega
  have Fp:(⟨g,o,none⟩:Addr).add i=⟨g,o+i,none⟩:=addr_add g o i
  have hcell:w.cell? ⟨g,o+i,none⟩=some cur[o+i]:=by simp [World.cell?,hg,hi]
  have Fg:w.frozen? ⟨g,o+i,none⟩=false:=by
   obtain ⟨f1,f2⟩:=fz
   have:=hf (o+i) hi
   simp only [World.frozen?,hg]
   simp only [Bool.and_eq_false_iff,decide_eq_false_iff_not]
   simp only at this
   omega
  have uG:(store ((⟨g,o,none⟩:Addr).add i) v).run P w = .ok () (w.setRow g (cur.setIfInBounds (o+i) v)):=by
   rw [Fp,run_store P w _ v _ (h1 v (by simp)),hcell]
   simp [Fg,setCell_eq_setRow w g (o+i) cur t fz v hg]
  have ih:=fq (P:=P) g o t fz rest (i+1) (cur.setIfInBounds (o+i) v) (w.setRow g (cur.setIfInBounds (o+i) v)) (setRow_heap w g cur _ t _ hg) (by simp at hl ⊢;omega) (by simpa using hf) (fun x hx=>h1 x (by simp [hx]))
  simp only [storeCells,Sem.run_bind,uG,Result.andThen_ok,ih,setRow_setRow]
  congr 3
  have e:=list_seg_step cur.toList (o+i) v rest (by simp at hl ⊢;omega)
  simpa [Array.toList_setIfInBounds,Nat.add_assoc] using e
section
variable {P:Program} {w:World}
def Source (P:Program) (w:World) (s:Nat) (x:Value) (m:Nat) (news:List Value):Prop :=
 (∀w',(Builtin.lenOf x).run P w' = .ok m w')∧(∀w':World,w'.heap=w.heap→(Builtin.firstCells s m x).run P w' = .ok ⟨news⟩ w')∧news.length=m * s∧∀v∈news,v.oneCell'=true
theorem kZ {t u ty e:TypeId} {i:TypeInfo} {du:TypeDesc} (ht:P.underlying t=some (.slice e)) (hi:P.info? e=some i) (hu:P.underlying u=some du) (po:∀k,du ≠ .int k)
  {g n cap m:Nat} {cur:Array Value} {ce:TypeId} {fz:Nat × Nat} {x:Value} {news:List Value} (hg:w.heap[g]?=some (.cells cur ce fz)) (hf:∀j,j<cur.size→¬(fz.1≤j∧j<fz.2))
  (hx:Source P w i.size x m news) (oo:n+m≤cap) (fQ:cur.size=cap * i.size) :
  (Builtin.append_ #[t,u] ty #[.slice (some ⟨g,0,none⟩) n cap,x]).run P w =
   .ok (.slice (some ⟨g,0,none⟩) (n+m) cap) (w.setRow g (cur.toList.take (n * i.size)++news++cur.toList.drop (n * i.size+news.length)).toArray):=by
 obtain ⟨h1,h2,h3,h4⟩:=hx
 have hle:n * i.size+news.length≤cur.size:=by rw [h3,fQ,←Nat.add_mul];exact aT _ oo
 have uG:=fq (P:=P) g (n * i.size) ce fz news 0 cur w hg (by simpa using hle) hf h4
 simp only [Nat.add_zero] at uG
 have hz:(match du with | .int _=>true | _=>false)=false:=by cases du <;> first | rfl | exact (po _ rfl).elim
 simp only [Builtin.append_,List.getElem?_toArray,List.getElem?_cons_zero,List.getElem?_cons_succ,Sem.run_bind,run_underlying ht,run_underlying hu,Result.andThen_ok,run_sizeOf hi,Sem.run_pure,hz,bd,if_false,h1,oo,if_true,aS,h2 w rfl]
 simp [addr_add,uG]
theorem k8 {t u ty e:TypeId} {i:TypeInfo} {z:Value} {du:TypeDesc} (ht:P.underlying t=some (.slice e)) (hi:P.info? e=some i) (hz:i.zero=some z) (hu:P.underlying u=some du) (po:∀k,du ≠ .int k)
  {q:Option Addr} {n cap m:Nat} {x:Value} {mN news:List Value} (ho:∀w':World,w'.heap=w.heap→(Builtin.firstCells i.size n (.slice q n cap)).run P w' = .ok ⟨mN⟩ w')
  (hx:Source P w i.size x m news) (hg:cap<n+m) (Ef:n+m≤maxLen) (hb:(n+m) * i.bytes≤140737488355328) :
  (Builtin.append_ #[t,u] ty #[.slice q n cap,x]).run P w =
   .ok (.slice (some ⟨w.heap.size,0,none⟩) (n+m) (grownCap w (n+m) cap e))
    (w.drew.alloc (.cells ((⟨mN⟩:Array Value)++⟨news⟩++Builtin.zeroCells z.cells (grownCap w (n+m) cap e - (n+m))) e)):=by
 obtain ⟨h1,h2,h3,h4⟩:=hx
 have hn:¬(n+m≤cap):=by omega
 have FA:¬(9223372036854775807<((n:Int)+(m:Int))):=by simp only [maxLen] at Ef;omega
 have FB:¬(281474976710656<Builtin.nextslicecap (n+m) cap * i.bytes):=by
  have:=growslice_fits hg hb;omega
 have Fi:(match du with | .int _=>true | _=>false)=false:=by cases du <;> first | rfl | exact (po _ rfl).elim
 simp [Builtin.append_,run_underlying ht,run_underlying hu,Fi,sizeOf,typeInfo,zeroValue,hi,hz,h1,hn,FA,FB,Question.forced,ho w.drew rfl,h2 w.drew rfl,newRow,grownCap]
 congr 2
 apply Array.ext'
 simp [aC]
end
section
variable {w:World}
theorem Source.of_string {P:Program} (b:ByteArray):Source P w 1 (.string b) b.data.toList.length (b.data.toList.map fun b => .int .u8 b.toNat):=by
 refine ⟨fun _=>?_,fun w' _=>?_,by simp,by simp;exact fun _ _=>rfl⟩
 ·rw [bsize];rfl
 ·have:b.extract 0 b.size=b:=by simp
  simp only [Builtin.firstCells,bsize,this,Sem.run_pure]
  congr 1
  apply Array.ext'
  simp
theorem Source.of {P:Program} {R:Reach} {t:dS} {l:List t.El} {x:Value} (h:Holds R w t l x):∃news,Source P w t.size x l.length news∧bX R w ((l.map t.tv).flatMap TV.cells) news:=by
 rcases h with ⟨rfl,rfl | ⟨ad,cap,rfl⟩⟩ | ⟨b,off,cap,ys,rfl,h1,h2,h3⟩
 ·exact ⟨[],⟨fun _=>rfl,fun _ _=>rfl,by simp,by simp⟩,.nil⟩
 ·exact ⟨[],⟨fun _=>rfl,fun w' _=>run_firstCells_some (P:=P) w' t.size 0 ad 0 cap [] (by simp) (fun j v hj=>by simp at hj),by simp,by simp⟩,.nil⟩
 ·refine ⟨ys,⟨fun _=>rfl,fun w' hw=>?_,h1,h3.one⟩,h3⟩
  exact run_firstCells_some (P:=P) w' t.size l.length ⟨b,off,none⟩ l.length cap ys h1 (fun j v hj=>by rw [addr_add];rw [World.cell?_of_block (w:=w) (by rw [hw])];exact h2 j v hj)
theorem Source.AB {P:Program} {R:Reach} (l:bG):Source P w 1 (.string ⟨⟨l⟩⟩) l.length (l.map fun b => .int .u8 b.toNat)∧bX R w ((l.map (dS.tv .bs)).flatMap TV.cells) (l.map fun b => .int .u8 b.toNat):=by
 refine ⟨Source.of_string (P:=P) (w:=w) ⟨⟨l⟩⟩,?_⟩
 rw [mv]
 induction l with
 | nil=>exact .nil
 | cons b m ih=>exact .cons rfl (.sc rfl) ih
end
theorem qQ {s:Nat}:∀{es:List TV} {i:Nat} {e:TV},(∀x∈es,x.cells.length=s)→es[i]?=some e→((es.flatMap TV.cells).drop (i * s)).take s=e.cells
 | x :: es,0,e,h,he=>by
  simp at he;subst he
  have:=h x (by simp)
  simp [←this]
 | x :: es,i+1,e,h,he=>by
  have hx:=h x (by simp)
  have ih:=qQ (es:=es) (i:=i) (e:=e) (fun y hy=>h y (by simp [hy])) (by simpa using he)
  simp only [List.flatMap_cons]
  rw [show (i+1) * s=x.cells.length+i * s by rw [hx,Nat.succ_mul];omega,←List.drop_drop,List.drop_left]
  exact ih
 | [],_,_,_,he=>by simp at he
end Go.Eng
namespace Go.Eng
open Go.RowKit
section
variable {C:Ctx} {S V:St} {a:Act} {w w':World} {R:Reach} {τ:Nat→Value} {o:Oper} {d:Nat}
theorem cG.wr (h:cG C S a w R τ) {k b:Nat} {cur cur':Array Value} {e:TypeId} {fz:Nat × Nat} {x:TV} {g:Gh} (hk:C.nt≤k) (hb:dv τ S k=some b) (hP:(S k).2.ta=false) (hh:w.heap[b]?=some (.cells cur e fz)) (hR:∀o,¬R b o)
  (new:eZ R (w.setRow b cur') τ x g (τ k)) (hg:g.ta=false∧g ≠ .no) (hm:∀j∈g.bP,j≠k∧C.nt≤j∧(S j).2 ≠ .no):cG C (bN S k (x,g)) a (w.setRow b cur') R τ:=by
 have cq:cH R w R (w.setRow b cur'):=fun c o hr=>⟨hr,cell_setRow_other w b _ ⟨c,o,none⟩ (fun e=>hR o (by have:c=b:=e;rw [←this];exact hr))⟩
 have uJ:=(cZ hb).1
 have hc:=h.core.tR (k:=k) (v:=τ k) (x:=x) (g:=g) (w':=w.setRow b cur') (R':=R) hk cq (fun j c hj hc=>⟨setRow_other w b c cur' (fun e=>hj (h.core.j0 hb (e ▸ hc)).symm),fun _=>id⟩)
  new (.inl rfl) ⟨hP,hg.1⟩ hg.2 (fun _ => .inl uJ) (fun c xN wB=>by
   have:dv τ S k=some c:=dL uJ (ph hP) wB
   exact ⟨h.core.cg k c this,.inr this⟩) hm (fun c o hr=>by rw [setRow_size];exact h.core.j9 c o hr)
 rw [show kq τ k (τ k)=τ by funext j;simp only [kq];split <;> simp_all] at hc
 exact ⟨h.size,h.defers,hc,h.tmps,h.io,h.ext.trans (io':=(·=b)) ⟨rfl,rfl,rfl,by rw [setRow_size];exact Nat.le_refl _,fun c _ hc=>setRow_other w b c cur' hc,cq,fun c o hr => .inl hr⟩ fun c hc=>hc ▸ h.core.cg k b hb,h.gl.cq cq⟩
theorem cG.A9 (h:cG C S a w' R τ) (hd:o.dst=none) (hr:(execOp a.eval o).run C.P w = .ok .skip w'):cQ C o a w S:=fun K Q hK=>by
 unfold Oper.wp
 rw [hr,Oper.upon_skip,hd]
 exact hK _ _ ⟨R,τ,h⟩
variable (h:cG C S a w R τ) (hV:Lt V S)
include h hV
theorem gW {m:Nat} {xs:List TV} {ts:List (Nat × Nat)} (hm:S m=(.ag xs,.cl ts)):∃b cs e,τ m = .pointer (some ⟨b,0,none⟩)∧w.heap[b]?=some (.cells ⟨cs⟩ e (0,0))∧bX R w xs cs∧(∀t∈ts,cs[t.1]?=some (τ t.2))∧(∀o,¬R b o)∧(∀t∈ts,C.nt≤t.2∧(S t.2).2 ≠ .no)∧dv τ S m=some b:=by
 have _:=hV
 have hk:=h.core.key m
 rw [hm] at hk
 obtain ⟨b,cs,e,xE,h1,h2,h3,h4,h5,h6⟩:=hk
 cases h3
 refine ⟨b,cs,e,h1,h2,h4,h5,h6,fun t ht=>?_,dL (by rw [hm];rfl) (by rw [hm];rfl) (by rw [h1];rfl)⟩
 have:=h.core.inv m t.2
 rw [hm] at this
 exact this (List.mem_map_of_mem (f:=(·.2)) ht)
section
variable (hd:o.dst=some d) (hl:d<C.nt)
include hd hl
theorem go_lr {x:Operand} {t:TypeId} {n:Nat} {agg:Bool} {y:TV} (ho:o.op = .load t x) (hs:fe C.P t=some (n,agg)) (h1:agg=true∨n=1) (hx:dQ C.E C.nt V 0 x=some (.ro y,.no)) (h2:y.lT=agg) (h3:y.cells.length=n):cQ C o a w (bN S d (y,.no)):=by
 obtain ⟨b,off,s',hv,hA⟩:=(cR h hV hx).rV
 obtain ⟨inf,hi,rfl,ha⟩:=dU hs
 obtain ⟨ys,A0,hc,hL⟩:=hA.read
 have AO:ys.length=inf.size:=by rw [←hL.length,h3]
 refine h.er hd hl (v:=if agg then .agg ⟨ys⟩ else ys.headD undef) ?_ (by rw [←h2];exact CE hL)
 simp only [execOp,ho,hv,Instr.loadAt,Instr.sureAddr,Sem.run_bind,Sem.run_pure,Result.andThen_ok,eT hi ha h1 AO hc]
theorem go_ld {x:Operand} {t:TypeId} {m q n:Nat} {agg:Bool} {cs pG:List TV} {ts:List (Nat × Nat)} {y:TV} {ws:List (Nat × Cell)} (ho:o.op = .load t x) (hs:fe C.P t=some (n,agg)) (h1:agg=true∨n=1) (hx:dQ C.E C.nt V 0 x=some (.pt,.ptr m q)) (hm:S m=(.ag cs,.cl ts))
  (hf:iu V q n ts cs=some (pG,ws)) (hp:ij pG q n agg=some y):cQ C o a w (bN (cO S ws) d (y,.no)):=by
 obtain ⟨q1,_,q3⟩:=dN h hV hx
 obtain ⟨b',p1,hv⟩:∃b,τ m = .pointer (some ⟨b,0,none⟩)∧a.eval x = .pointer (some ⟨b,q,none⟩):=q1
 obtain ⟨b,ys,e,k1,k2,k3,k4,k5,k6,_⟩:=gW h hV hm
 rw [k1] at p1;cases p1
 obtain ⟨inf,hi,rfl,ha⟩:=dU hs
 obtain ⟨R',f1,f2,f3,_⟩:=gZ h.core hV.q k3 (fun t ht=>⟨(k6 t ht).1,k4 t ht⟩) hf
 have h':=h.fz f1 f2
 obtain ⟨hlen,fh⟩:=jq f3 hp h1
 refine h'.er hd hl (v:=if agg then .agg ⟨(ys.drop q).take inf.size⟩ else ((ys.drop q).take inf.size).headD undef) ?_ fh
 have hc:∀j y,((ys.drop q).take inf.size)[j]?=some y→w.cell? ⟨b',q+j,none⟩=some y:=fun j y hj=>by
  rw [aF] at hj
  split at hj
  ·rw [List.getElem?_drop] at hj
   simp only [World.cell?,k2];simpa using hj
  ·cases hj
 simp only [execOp,ho,hv,Instr.loadAt,Instr.sureAddr,Sem.run_bind,Sem.run_pure,Result.andThen_ok,eT hi ha h1 hlen hc]
theorem go_ldt {x:Operand} {t:TypeId} {m q k:Nat} {cs:List TV} {ts:List (Nat × Nat)} (ho:o.op = .load t x) (hs:fe C.P t=some (1,false)) (hx:dQ C.E C.nt V 0 x=some (.pt,.ptr m q)) (hm:S m=(.ag cs,.cl ts)) (hf:fZ q ts=some k):cQ C o a w (bN S d (.pt,.cT k)):=by
 obtain ⟨q1,_,q3⟩:=dN h hV hx
 obtain ⟨b',p1,hv⟩:∃b,τ m = .pointer (some ⟨b,0,none⟩)∧a.eval x = .pointer (some ⟨b,q,none⟩):=q1
 obtain ⟨b,ys,e,k1,k2,k3,k4,k5,k6,_⟩:=gW h hV hm
 rw [k1] at p1;cases p1
 obtain ⟨inf,hi,hn,ha⟩:=dU hs
 have iZ:=fS hf
 have hy:=k4 _ iZ
 refine h.val hd hl (v:=τ k) ?_ (g := .cT k) ⟨rfl,k3.one _ (ay hy)⟩ rfl fun j hj=>?_
 ·have:=eT (P:=C.P) hi ha (.inr hn) (w:=w) (b:=b') (off:=q) (ys:=[τ k]) (by simp [hn]) (fun j y hj=>by
   cases j with
   | zero=>cases hj;simp only [World.cell?,k2];simpa using hy
   | succ j=>simp at hj)
  simp only [execOp,ho,hv,Instr.loadAt,Instr.sureAddr,Sem.run_bind,Sem.run_pure,Result.andThen_ok,this]
  rfl
 ·simp only [Gh.bP,List.mem_singleton] at hj
  subst hj
  exact k6 _ iZ
theorem go_ldo {x:Operand} {t:TypeId} {m:Nat} {cs:List TV} {ts:List (Nat × Nat)} (ho:o.op = .load t x) (hs:fe C.P t=some (cs.length,true)) (hx:dQ C.E C.nt V 0 x=some (.pt,.ptr m 0)) (hm:S m=(.ag cs,.cl ts)):cQ C o a w (bN S d (.ag cs,.ow ts)):=by
 obtain ⟨q1,_,q3⟩:=dN h hV hx
 obtain ⟨b',p1,hv⟩:∃b,τ m = .pointer (some ⟨b,0,none⟩)∧a.eval x = .pointer (some ⟨b,0,none⟩):=q1
 obtain ⟨b,ys,e,k1,k2,k3,k4,k5,k6,_⟩:=gW h hV hm
 rw [k1] at p1;cases p1
 obtain ⟨inf,hi,hn,ha⟩:=dU hs
 have hle:=k3.length
 refine h.val hd hl (v := .agg ⟨ys⟩) ?_ (g := .ow ts) ⟨_,_,rfl,rfl,k3,k4⟩ rfl fun j hj=>?_
 ·have:=eT (P:=C.P) hi ha (.inl rfl) (w:=w) (b:=b') (off:=0) (ys:=ys) (by omega) (fun j y hj=>by simp only [World.cell?,k2];simpa using hj)
  simp only [execOp,ho,hv,Instr.loadAt,Instr.sureAddr,Sem.run_bind,Sem.run_pure,Result.andThen_ok,this]
  rfl
 ·obtain ⟨t,ht,rfl⟩:=aU.1 hj
  exact k6 t ht
omit hd hl in
theorem zS {x:Operand} {t:TypeId} {i s q k:Nat} {st:dS} {l:List st.El} {p:Bool} (hx:dQ C.E C.nt V t x=some (.el i s q,.pe k)) (hk:cV R w p (τ k) (.sl st l)) (hs:s=st.size) (hi:i<l.length) :
  ∃g cap cur e fz,τ k = .slice (some ⟨g,0,none⟩) l.length cap∧a.eval x = .pointer (some ⟨g,i * st.size+q,none⟩)∧w.heap[g]?=some (.cells cur e fz)∧(∀o,o<cur.size→¬(fz.1≤o∧o<fz.2))∧cur.size=cap * st.size∧l.length≤cap∧cap≤maxLen ∧
   bX R w ((l.map st.tv).flatMap TV.cells) (cur.toList.take (l.length * st.size))∧(∀o,R g o ↔ (p=true∧o<l.length * st.size))∧bX R w (st.tv l[i]).cells (((cur.toList.take (l.length * st.size)).drop (i * st.size)).take st.size):=by
 subst hs
 obtain ⟨q1,_,_⟩:=dN h hV hx
 obtain ⟨b,i',s',q',p1,p2,hv⟩:∃b i' s' q',Value.dv (τ k)=some b∧TV.el i st.size q = .el i' s' q'∧a.eval x = .pointer (some ⟨b,i' * s'+q',none⟩):=q1
 cases p2
 rcases hk.cells with ⟨rfl,_⟩ | ⟨g,cap,cur,e,fz,e1,e2,e3,e4,e5,e6,e7,e8⟩
 ·simp at hi
 ·rw [e1] at p1;cases p1
  have:=(e7.drop (i * st.size)).take st.size
  rw [qQ (e:=st.tv l[i]) (fun y hy=>by obtain ⟨z,_,rfl⟩:=aU.1 hy;exact dS.fT st z) (by simp [hi])] at this
  exact ⟨g,cap,cur,e,fz,e1,hv,e2,e3,e4,e5,e6,e7,e8,this⟩
theorem go_pld {x:Operand} {t:TypeId} {i s q k n:Nat} {agg p:Bool} {st:dS} {l:List st.El} {y:TV} (ho:o.op = .load t x) (hs:fe C.P t=some (n,agg)) (h1:agg=true∨n=1) (hx:dQ C.E C.nt V 0 x=some (.el i s q,.pe k)) (hk:cV R w p (τ k) (.sl st l)) (h2:s=st.size) (hi:i<l.length)
  (hp:o8 (st.tv (l.getD i st.fi)) q n agg=some y):cQ C o a w (bN S d (y,.no)):=by
 obtain ⟨g,cap,cur,e,fz,_,hv,hh,_,jX,hle,_,_,_,Ia⟩:=zS h hV hx hk h2 hi
 obtain ⟨inf,nO,rfl,ha⟩:=dU hs
 rw [ai,ah hi,Option.getD_some] at hp
 have AW:ij (st.tv l[i]).cells q inf.size agg=some y:=by
  unfold o8 at hp
  split at hp
  ·rename_i cs e;rw [e];exact hp
  ·rename_i fP
   cases hb:(Nat.beq q 0&&Nat.beq inf.size 1&&!agg) with
   | false=>rw [hb] at hp;cases hp
   | true =>
    rw [hb] at hp;cases hp
    simp only [ae,Bool.not_eq_true'] at hb
    obtain ⟨⟨b1,b2⟩,rfl⟩:=hb
    have b1:=aj b1
    subst b1
    have:(st.tv l[i]).cells=[st.tv l[i]]:=by
     cases hq:st.tv l[i] <;> first | rfl | exact (fP _ hq).elim
    rw [this];rfl
 obtain ⟨hlen,fh⟩:=jq Ia AW h1
 refine h.er hd hl (v:=if agg then .agg ⟨(((((cur.toList.take (l.length * st.size)).drop (i * st.size)).take st.size).drop q).take inf.size)⟩ else (((((cur.toList.take (l.length * st.size)).drop (i * st.size)).take st.size).drop q).take inf.size).headD undef) ?_ fh
 have hc:∀j y,(((((cur.toList.take (l.length * st.size)).drop (i * st.size)).take st.size).drop q).take inf.size)[j]?=some y→w.cell? ⟨g,i * st.size+q+j,none⟩=some y:=by
  intro j y hj
  simp only [World.cell?,hh]
  rw [aF] at hj
  split at hj
  ·rw [List.getElem?_drop,aF] at hj
   split at hj
   ·rw [List.getElem?_drop,aF] at hj
    split at hj
    ·rw [show i * st.size+q+j=i * st.size+(q+j) by omega];simpa using hj
    ·cases hj
   ·cases hj
  ·cases hj
 simp only [execOp,ho,hv,Instr.loadAt,Instr.sureAddr,Sem.run_bind,Sem.run_pure,Result.andThen_ok,eT nO ha h1 hlen hc]
end
end
end Go.Eng
namespace Go.Eng
open Go.RowKit
section
variable {R:Reach} {w:World}
theorem oA (l:List Value):∀(off k:Nat) (cells:Array Value),off+k+l.length≤cells.size →
  ((l.zipIdx k).foldl (fun cs p=>cs.setIfInBounds (off+p.2) p.1) cells).toList=cells.toList.take (off+k)++l++cells.toList.drop (off+k+l.length):=by
 induction l with
 | nil=>intro off k cells _;simp
 | cons v l ih =>
  intro off k cells hl
  simp only [List.zipIdx_cons,List.foldl_cons]
  rw [ih off (k+1) (cells.setIfInBounds (off+k) v) (by simp at hl ⊢;omega)]
  have e:=list_seg_step cells.toList (off+k) v l (by simp at hl ⊢;omega)
  simpa [Array.toList_setIfInBounds,Nat.add_assoc] using e
theorem wb {R:Reach} {w:World} {x:TV} {v:Value} (h:Rep R w x v) (hp:x.CM=true) (h1:x = .pt→v.oneCell'=true):bX R w x.cells v.cells.toList:=by
 cases x with
 | pt =>
  have e2:v.cells.toList=[v]:=by have:=h1 rfl;cases v <;> first | rfl | (simp [Value.oneCell'] at this)
  rw [e2];exact .cons (h1 rfl) h .nil
 | _=>exact gQ h hp
theorem qT (place:Nat→Option (Nat × Nat)):∀(parts:List (Nat × Value)) (pl:List (Nat × Nat)) (xs:List TV) (z cs:List TV) (cells:Array Value),bX R w z cells.toList→parts.length=pl.length →
  (∀(j:Nat) (p:Nat × Value) (q:Nat × Nat),parts[j]?=some p→pl[j]?=some q→place p.1=some q)→(∀(j:Nat) (p:Nat × Value) (x:TV),parts[j]?=some p→xs[j]?=some x→Rep R w x p.2∧(x = .pt→p.2.oneCell'=true))→jx z pl xs=some cs →
  ∃cE,Instr.fill place cells parts=some cE∧bX R w cs cE.toList
 | [],pl,xs,z,cs,cells,hz,hl,_,_,hf=>by
  have:pl=[]:=bh hl.symm
  subst this
  cases xs with
  | nil=>simp [jx] at hf;subst hf;exact ⟨cells,rfl,hz⟩
  | cons=>simp [jx] at hf
 | (i,v) :: parts,pl,xs,z,cs,cells,hz,hl,hp,hr,hf=>by
  cases pl with
  | nil=>simp at hl
  | cons q pl =>
   obtain ⟨off,n⟩:=q
   cases xs with
   | nil=>simp [jx] at hf
   | cons x xs =>
    simp only [jx] at hf
    obtain ⟨hc,hf⟩:=bt.1 hf
    ·simp only [ae] at hc
     obtain ⟨⟨xN,wB⟩,GM⟩:=hc
     have wB:=aj wB
     have GM:=Nat.le_of_ble_eq_true GM
     have hx:=wb (hr 0 _ _ rfl rfl).1 xN (hr 0 _ _ rfl rfl).2
     have yC:=hx.length
     have EP:=hz.length
     simp only [Array.length_toList] at yC EP
     have nH:=hp 0 _ _ rfl rfl
     simp only at nH
     have hs:v.cells.size=n:=by omega
     have fQ:¬(v.cells.size≠n∨off+v.cells.size > cells.size):=by omega
     have eS:=oA v.cells.toList off 0 cells (by simp;omega)
     have Hv:bX R w (dY z off x.cells) (v.cells.zipIdx.foldl (fun cs p=>cs.setIfInBounds (off+p.2) p.1) cells).toList:=by
      have e:(v.cells.zipIdx.foldl (fun cs p=>cs.setIfInBounds (off+p.2) p.1) cells)=(v.cells.toList.zipIdx 0).foldl (fun cs p=>cs.setIfInBounds (off+p.2) p.1) cells:=by
       rw [←Array.foldl_toList];simp
      rw [e,eS]
      have hle:v.cells.toList.length=x.cells.length:=by simp;omega
      simp only [dY,Nat.add_zero,hle]
      exact ((hz.take off).append hx).append (hz.drop _)
     obtain ⟨cE,h1,h2⟩:=qT place parts pl xs _ cs _ Hv (by simpa using hl) (fun j p q h1 h2=>hp (j+1) p q (by simpa using h1) (by simpa using h2)) (fun j p y h1 h2=>hr (j+1) p y (by simpa using h1) (by simpa using h2)) hf
     refine ⟨cE,?_,h2⟩
     simp only [Instr.fill,nH]
     rw [ak (by simpa using fQ)]
     exact h1
end
theorem oD (s:Nat):∀(vs:List Value) (k:Nat) (cells:Array Value),(∀v∈vs,v.cells.size=s)→(k+vs.length) * s=cells.size →
  ∃cE,Instr.fill (fun i=>some (i * s,s)) cells ((vs.zipIdx k).map fun p=>(p.2,p.1))=some cE∧cE.toList=cells.toList.take (k * s)++vs.flatMap fun v=>v.cells.toList
 | [],k,cells,_,hl=>by
  refine ⟨cells,rfl,?_⟩
  simp at hl
  simp [List.take_of_length_le,hl]
 | v :: vs,k,cells,hv,hl=>by
  have h0:=hv v (by simp)
  simp only [aK] at hl
  have hm:(k+(vs.length+1)) * s=k * s+s+vs.length * s:=by rw [Nat.add_mul,Nat.succ_mul];omega
  have fQ:¬(v.cells.size≠s∨k * s+v.cells.size > cells.size):=by omega
  have eS:=oA v.cells.toList (k * s) 0 cells (by simp;omega)
  have e:(v.cells.zipIdx.foldl (fun cs p=>cs.setIfInBounds (k * s+p.2) p.1) cells)=(v.cells.toList.zipIdx 0).foldl (fun cs p=>cs.setIfInBounds (k * s+p.2) p.1) cells:=by
   rw [←Array.foldl_toList];simp
  have jX:(v.cells.zipIdx.foldl (fun cs p=>cs.setIfInBounds (k * s+p.2) p.1) cells).size=cells.size:=by
   rw [e,←Array.length_toList,eS];simp;omega
  obtain ⟨cE,h1,h2⟩:=oD s vs (k+1) (v.cells.zipIdx.foldl (fun cs p=>cs.setIfInBounds (k * s+p.2) p.1) cells) (fun u hu=>hv u (by simp [hu])) (by rw [jX,←hl];congr 1;omega)
  refine ⟨cE,?_,?_⟩
  ·simp only [List.zipIdx_cons,aQ,Instr.fill]
   rw [ak (by simpa using fQ)]
   exact h1
  ·rw [h2,e,eS]
   have IQ:(k+1) * s=k * s+s:=Nat.succ_mul k s
   have hL:(cells.toList.take (k * s+0)++v.cells.toList).length=(k+1) * s:=by simp;omega
   rw [aC,←aC (cells.toList.take (k * s+0)),List.take_left' hL]
   simp
theorem n6 {α:Type}:∀(l:List (Nat × α)) (k:Nat),l.map (·.1)=List.range' k l.length→l=((l.map (·.2)).zipIdx k).map fun p=>(p.2,p.1)
 | [],_,_=>rfl
 | (i,x) :: l,k,h=>by
  simp only [aQ,aK,List.range'_succ,bg] at h
  simp only [aQ,List.zipIdx_cons]
  rw [←n6 l (k+1) h.2,h.1]
theorem n5 {R:Reach} {w:World} {s:Nat}:∀{xs:List TV} {vs:List Value},dW R w xs vs→(∀x∈xs,x.plain=true∧x.cells.length=s)→bX R w (xs.flatMap TV.cells) (vs.flatMap fun v=>v.cells.toList)∧∀v∈vs,v.cells.size=s
 | _,_,.nil,_=>⟨.nil,by simp⟩
 | _,_,.cons (x:=x) h t,hx=>by
  obtain ⟨h1,h2⟩:=n5 t (fun x pk=>hx x (by simp [pk]))
  obtain ⟨p1,p2⟩:=hx x (by simp)
  have hL:=gQ h p1
  refine ⟨by simpa using hL.append h1,fun v hv=>?_⟩
  rcases aD.1 hv with rfl | hv
  ·have:=hL.length;simp at this;omega
  ·exact h2 v hv
end Go.Eng
namespace Go.Eng
open Go.RowKit
theorem ob {v:Value} (h:v.oneCell'=true):v.cells.toList=[v]:=by cases v <;> first | rfl | (simp [Value.oneCell'] at h)
theorem p7 {α:Type} (l v:List α) {a N:Nat} (h:a+v.length≤N) (hl:N≤l.length):(l.take a++v++l.drop (a+v.length)).take N=(l.take N).take a++v++(l.take N).drop (a+v.length):=by
 have e:(l.take a++v).length=a+v.length:=by simp;omega
 rw [List.take_append,List.take_of_length_le (by omega),e,List.take_take,Nat.min_eq_left (by omega),List.drop_take]
theorem lO {s:Nat}:∀{es:List TV} {i q:Nat} {e e':TV} {ys:List TV},(∀x∈es,x.cells.length=s)→es[i]?=some e→e'.cells=dY e.cells q ys→q+ys.length≤s→(es.set i e').flatMap TV.cells=dY (es.flatMap TV.cells) (i * s+q) ys
 | x :: es,0,q,e,e',ys,h,he,hc,hq=>by
  simp at he;subst he
  have hx:=h x (by simp)
  simp only [List.set_cons_zero,List.flatMap_cons,Nat.zero_mul,Nat.zero_add,hc,dY]
  rw [List.take_append_of_le_length (by omega),List.drop_append_of_le_length (by omega)]
  simp only [aC]
 | x :: es,i+1,q,e,e',ys,h,he,hc,hq=>by
  have hx:=h x (by simp)
  have ih:=lO (es:=es) (i:=i) (q:=q) (e:=e) (e':=e') (ys:=ys) (fun y hy=>h y (by simp [hy])) (by simpa using he) hc hq
  simp only [List.set_cons_succ,List.flatMap_cons,ih,dY]
  rw [show (i+1) * s+q=x.cells.length+(i * s+q) by rw [hx,Nat.succ_mul];omega,List.take_length_add_append,show x.cells.length+(i * s+q)+ys.length=x.cells.length+(i * s+q+ys.length) by omega,List.drop_length_add_append]
  simp only [aC]
 | [],_,_,_,_,_,_,he,_,_=>by simp at he
section
variable {C:Ctx} {S V:St} {a:Act} {w w':World} {R:Reach} {τ:Nat→Value} {o:Oper} {d:Nat} (h:cG C S a w R τ) (hV:Lt V S)
include h hV
theorem go_st' (hd:o.dst=none) {x v:Operand} {t:TypeId} {inf:TypeInfo} {m q:Nat} {cs:List TV} {ts us:List (Nat × Nat)} {qs:List TV} (ho:o.op = .store t x v) (hi:C.P.info? t=some inf) (hx:dQ C.E C.nt V 0 x=some (.pt,.ptr m q)) (hm:S m=(.ag cs,.cl ts)) (hL:bX R w qs (a.eval v).cells.toList) (hn:qs.length=inf.size) (fQ:q+inf.size≤cs.length)
  (hu:∀u∈us,u.2≠m∧((u∈ts∧(u.1<q∨q+inf.size≤u.1))∨(C.nt≤u.2∧(S u.2).2 ≠ .no∧q≤u.1∧(a.eval v).cells.toList[u.1 - q]?=some (τ u.2)))):cQ C o a w (bN S m (.ag (dY cs q qs),.cl us)):=by
 obtain ⟨q1,_,q3⟩:=dN h hV hx
 obtain ⟨b',p1,hv⟩:∃b,τ m = .pointer (some ⟨b,0,none⟩)∧a.eval x = .pointer (some ⟨b,q,none⟩):=q1
 obtain ⟨b,ys,e,k1,k2,k3,k4,k5,k6,k7⟩:=gW h hV hm
 rw [k1] at p1;cases p1
 have hlen:=hL.length
 have HS:=k3.length
 have zN:(a.eval v).cells.size=inf.size:=by simp at hlen;omega
 have uG:=run_storeCells_at (P:=C.P) b' q e (a.eval v).cells.toList 0 ⟨ys⟩ w k2 (by simp;omega) hL.one
 simp only [Nat.add_zero] at uG
 let new:List Value:=ys.take q++(a.eval v).cells.toList++ys.drop (q+(a.eval v).cells.toList.length)
 have ft:(execOp a.eval o).run C.P w = .ok .skip (w.setRow b' ⟨new⟩):=by
  have:¬((a.eval v).cells.size≠inf.size):=by omega
  simp only [execOp,ho,hv,Instr.storeAt,Instr.sureAddr,Sem.run_bind,Sem.run_pure,Result.andThen_ok,storeVar,run_sizeOf hi,Sem.run_ite,this,if_false,uG]
  rfl
 have cq:cH R w R (w.setRow b' ⟨new⟩):=fun b o hr=>⟨hr,cell_setRow_other w b' _ ⟨b,o,none⟩ (fun e=>k5 o (by have:b=b':=e;rw [←this];exact hr))⟩
 have hle:(a.eval v).cells.toList.length=qs.length:=hlen.symm
 have Fx:bX R (w.setRow b' ⟨new⟩) (dY cs q qs) new:=by
  show bX R (w.setRow b' ⟨new⟩) _ (ys.take q++(a.eval v).cells.toList++ys.drop (q+(a.eval v).cells.toList.length))
  rw [hle]
  exact (((k3.take q).append hL).append (k3.drop (q+qs.length))).mono cq
 refine (h.wr (k:=m) (b:=b') (cur:=⟨ys⟩) (cur':=⟨new⟩) (x := .ag (dY cs q qs)) (g := .cl us) (q3 m (by simp [Gh.bP])).1 k7 (by rw [hm];rfl) k2 k5 ⟨b',new,e,_,k1,setRow_heap w b' ⟨ys⟩ ⟨new⟩ e (0,0) k2,rfl,Fx,fun u CW=>?_,k5⟩ ⟨rfl,by simp⟩ fun j hj=>?_).A9 hd ft
 ·rcases (hu u CW).2 with ⟨h1,h2⟩ | ⟨_,_,h1,h2⟩
  ·have hc:=k4 u h1
   have eJ:=(av.1 hc).1
   simp only [new]
   rcases h2 with h2 | h2
   ·rw [aC,List.getElem?_append_left (by simp;omega),aF,ar h2];exact hc
   ·rw [aV (by simp;omega)]
    simp only [al,aB,hle,hn,List.getElem?_drop]
    rw [←hc];congr 1;omega
  ·have eJ:=(av.1 h2).1
   simp only [new]
   rw [aC,aV (by simp;omega),aB,Nat.min_eq_left (by omega),List.getElem?_append_left eJ]
   exact h2
 ·obtain ⟨u,CW,rfl⟩:=aU.1 hj
  obtain ⟨h1,h2⟩:=hu u CW
  refine ⟨h1,?_⟩
  rcases h2 with ⟨h2,_⟩ | ⟨h2,h3,_⟩
  ·exact k6 u h2
  ·exact ⟨h2,h3⟩
omit h hV in
theorem n7 {o n:Nat} {ts:List (Nat × Nat)} {u:Nat × Nat} (hu:u∈sU o n ts):u∈ts∧(u.1<o∨o+n≤u.1):=by
 obtain ⟨h1,h2⟩:=List.mem_filter.1 hu
 simp only [Bool.or_eq_true] at h2
 exact ⟨h1,h2.imp (fun h=>Nat.le_of_ble_eq_true h) (fun h=>Nat.le_of_ble_eq_true h)⟩
theorem go_pst (hd:o.dst=none) {x v:Operand} {t:TypeId} {inf:TypeInfo} {i s q k:Nat} {st:dS} {l:List st.El} {y e':TV} {z:st.El} (ho:o.op = .store t x v) (hi:C.P.info? t=some inf) (hx:dQ C.E C.nt V 0 x=some (.el i s q,.pe k)) (hk:S k=(.sl st l,.pv)) (hv:Rep R w y (a.eval v)) (hp:y.plain=true) (hn:y.cells.length=inf.size)
  (hs:s=st.size) (eJ:i<l.length) (he:rY (st.tv (l.getD i st.fi)) q y=some e') (hz:st.el e'=some z):cQ C o a w (bN S k (.sl st (l.set i z),.pv)):=by
 have hK:=h.core.key k
 rw [hk] at hK
 obtain ⟨g,cap,cur,ce,fz,h1,h2,h3,h4,h5,h6,h7,h8,h9,kL⟩:=zS h hV hx hK hs eJ
 obtain ⟨_,_,q3⟩:=dN h hV hx
 have hL:=gQ hv hp
 have hlen:=hL.length
 have zN:(a.eval v).cells.size=inf.size:=by simp at hlen;omega
 rw [ai,ah eJ,Option.getD_some] at he
 have B5:=dS.fT st l[i]
 obtain ⟨fQ,eS⟩:q+y.cells.length≤st.size∧e'.cells=dY (st.tv l[i]).cells q y.cells:=by
  unfold rY at he
  split at he
  ·rename_i cs ec
   cases hb:Nat.ble (q+y.cells.length) cs.length with
   | false=>rw [hb] at he;cases he
   | true =>
    rw [hb] at he;cases he
    rw [ec] at B5 ⊢
    have:=Nat.le_of_ble_eq_true hb
    exact ⟨by simp [TV.cells] at B5;omega,rfl⟩
  ·rename_i fP
   cases hb:(Nat.beq q 0&&!y.lT) with
   | false=>rw [hb] at he;cases he
   | true =>
    rw [hb] at he;cases he
    simp only [ae,Bool.not_eq_true'] at hb
    have hq:=aj hb.1
    subst hq
    have e1:(st.tv l[i]).cells=[st.tv l[i]]:=by cases hq:st.tv l[i] <;> first | rfl | exact (fP _ hq).elim
    have e2:y.cells=[y]:=by cases y <;> first | rfl | (simp [TV.lT] at hb)
    rw [e1] at B5
    rw [e1,e2]
    simp at B5
    exact ⟨by simp;omega,by simp [dY]⟩
 have hle:(i+1) * st.size≤l.length * st.size:=aT _ eJ
 rw [Nat.succ_mul] at hle
 have Fb:l.length * st.size≤cap * st.size:=aT _ h6
 have uG:=fq (P:=C.P) g (i * st.size+q) ce fz (a.eval v).cells.toList 0 cur w h3 (by rw [h5,←hlen];omega) h4 hL.one
 simp only [Nat.add_zero] at uG
 let new:Array Value:=(cur.toList.take (i * st.size+q)++(a.eval v).cells.toList++cur.toList.drop (i * st.size+q+(a.eval v).cells.toList.length)).toArray
 have ft:(execOp a.eval o).run C.P w = .ok .skip (w.setRow g new):=by
  have:¬((a.eval v).cells.size≠inf.size):=by omega
  simp only [execOp,ho,h2,Instr.storeAt,Instr.sureAddr,Sem.run_bind,Sem.run_pure,Result.andThen_ok,storeVar,run_sizeOf hi,Sem.run_ite,this,if_false,uG]
  rfl
 have hR:∀o,¬R g o:=fun o hr=>by have:=(h9 o).1 hr;simp at this
 have cq:cH R w R (w.setRow g new):=fun b o hr=>⟨hr,cell_setRow_other w g _ ⟨b,o,none⟩ (fun e=>hR o (by have:b=g:=e;rw [←this];exact hr))⟩
 have vi:cur.toList.length=cap * st.size:=by simp [h5]
 have jX:new.size=cur.size:=by simp only [new,List.size_toArray,al,aB,aP,←hlen,vi,←Array.length_toList];omega
 have C7:bX R w (((l.set i z).map st.tv).flatMap TV.cells) (new.toList.take (l.length * st.size)):=by
  have e1:((l.set i z).map st.tv).flatMap TV.cells=dY ((l.map st.tv).flatMap TV.cells) (i * st.size+q) y.cells:=by
   rw [List.map_set,dS.zR hz]
   exact lO (fun x hx=>by obtain ⟨u,_,rfl⟩:=aU.1 hx;exact dS.fT st u) (by simp [eJ]) eS fQ
  have e2:=p7 cur.toList (a.eval v).cells.toList (a:=i * st.size+q) (N:=l.length * st.size) (by rw [←hlen];omega) (by rw [vi];exact Fb)
  rw [e1]
  show bX R w _ ((cur.toList.take (i * st.size+q)++(a.eval v).cells.toList++cur.toList.drop (i * st.size+q+(a.eval v).cells.toList.length)).take (l.length * st.size))
  rw [e2,←hlen]
  exact ((h8.take _).append hL).append (h8.drop _)
 refine (h.wr (k:=k) (b:=g) (cur:=cur) (cur':=new) (x := .sl st (l.set i z)) (g := .pv) (q3 k (by simp [Gh.bP])).1 (dL (by rw [hk];rfl) (by rw [hk];rfl) (by rw [h1];rfl)) (by rw [hk];rfl) h3 hR ⟨st,l.set i z,rfl,.inr ⟨g,cap,new,ce,fz,by rw [List.length_set];exact h1,setRow_heap w g cur new ce fz h3,fun o ho=>h4 o (by rw [←jX];exact ho),by rw [jX];exact h5,by rw [List.length_set];exact h6,h7,by rw [List.length_set];exact C7.mono cq,fun o=>⟨fun hr=>(hR o hr).elim,fun hr=>by simp at hr⟩⟩⟩ ⟨rfl,by simp⟩ (by simp [Gh.bP])).A9 hd ft
end
end Go.Eng
namespace Go.Eng
open Go.RowKit
theorem fH {A:Type} {f:TV→Option A} {g:A→TV} (hf:∀x y,f x=some y→x=g y):∀{xs:List TV} {l:List A},allM f xs=some l→xs=l.map g
 | [],l,h=>by cases h;rfl
 | x :: r,l,h=>by
  simp only [allM] at h
  split at h
  ·rename_i y hy
   split at h
   ·rename_i m hm
    cases h
    rw [hf _ _ hy,fH hf hm];rfl
   ·cases h
  ·cases h
theorem pL {cs:List TV} {n:Nat} {x:TV} (h:vc cs n=some x) (hn:n<cs.length):cs[n]?=some x:=by
 unfold vc at h
 split at h
 ·split at h
  ·rename_i l hl
   have:=fH (g := .s) (fun x y h=>by cases x <;> simp [TV.str?] at h;rw [h]) hl
   cases h
   rw [this] at hn ⊢
   have qJ:n<l.length:=by simpa using hn
   simp [ai,ah qJ]
  ·cases h
 ·split at h
  ·rename_i l hl
   have:=fH (g := .i .i64) (fun x y h=>by
    cases x <;> simp [TV.i64?] at h
    rename_i k m
    cases k <;> simp at h
    rw [h]) hl
   cases h
   rw [this] at hn ⊢
   have qJ:n<l.length:=by simpa using hn
   simp [ai,ah qJ]
  ·cases h
 ·split at h
  ·rename_i l hl
   have:=fH (g := .u8) (fun x y h=>by cases x <;> simp [TV.u8?] at h;rw [h]) hl
   cases h
   rw [this] at hn ⊢
   have qJ:n<l.length:=by simpa using hn
   simp [ai,ah qJ]
  ·cases h
 ·split at h
  ·rename_i l hl
   have:=fH (g := .u64) (fun x y h=>by cases x <;> simp [TV.u64?] at h;rw [h]) hl
   cases h
   rw [this] at hn ⊢
   have qJ:n<l.length:=by simpa using hn
   simp [ai,ah qJ]
  ·cases h
 ·split at h
  ·rename_i l hl
   have:=fH (g := .b) (fun x y h=>by cases x <;> simp [TV.bool?] at h;rw [h]) hl
   cases h
   rw [this] at hn ⊢
   have qJ:n<l.length:=by simpa using hn
   simp [ai,ah qJ]
  ·cases h
 ·exact h
 ·split at h
  ·rename_i l hl
   have:=fH (g:=fun p => .c (.complex .f64 p.1 p.2)) (fun x y h=>by
    unfold TV.cx? at h
    split at h
    ·cases h;rfl
    ·cases h) hl
   cases h
   rw [this] at hn ⊢
   have qJ:n<l.length:=by simpa using hn
   simp [ai,ah qJ]
  ·cases h
 ·rename_i t _ _
  split at h
  ·rename_i l hl
   have:=fH (g := .sl t) (fun x y h=>by
    cases x <;> simp [TV.sl?] at h
    obtain ⟨rfl,h⟩:=h
    subst h;rfl) hl
   cases h
   rw [this] at hn ⊢
   have qJ:n<l.length:=by simpa using hn
   simp [ai,ah qJ]
  ·cases h
 ·cases h
theorem qX {s m n:Nat} {cs:List TV} (hl:m * s=cs.length) (hn:n<m):∀(j:Nat) {xs:List TV},j≤s→qY s m n cs j=some xs→xs=(cs.drop (n * s+(s - j))).take j
 | 0,xs,_,h=>by simp [qY] at h;simp [h]
 | j+1,xs,hj,h=>by
  simp only [qY] at h
  split at h
  ·rename_i x hx
   split at h
   ·rename_i ys hy
    cases h
    have h1:=qX hl hn j (by omega) hy
    have h2:=pL hx (by simpa [Bw] using hn)
    have eJ:n * s+(s - (j+1))<cs.length:=by
     have:(n+1) * s≤m * s:=aT _ hn
     rw [Nat.succ_mul] at this;omega
    have e:x=cs[n * s+(s - (j+1))]:=by
     simp only [Bw,ba,List.getElem?_range hn,Option.map_some,aA] at h2
     rw [←h2,ai,ah eJ];rfl
    rw [h1,List.drop_eq_getElem_cons eJ,List.take_succ_cons,e,show n * s+(s - (j+1))+1=n * s+(s - j) by omega]
   ·cases h
  ·cases h
theorem qy:∀l,sY l=l.map FE
 | []=>rfl
 | p :: r=>by rw [sY,qy r];rfl
theorem xt {a b:Nat} (h:a≠b):Nat.beq a b=false:=by
 cases e:Nat.beq a b with
 | false=>rfl
 | true=>exact (h (aj e)).elim
theorem sP:∀(l:List Cx) (j i:Nat) (q:Cx),rP j l (j+i) q=l.set i q
 | [],_,_,_=>rfl
 | p :: r,j,0,q=>by
  rw [rP,Nat.add_zero,show Nat.beq j j=true from Nat.beq_refl j]
  simp only [ao,List.set_cons_zero]
  congr 1
  have:∀(l:List Cx) (k:Nat),j<k→rP k l j q=l:=by
   intro l
   induction l with
   | nil=>intros;rfl
   | cons a r ih =>
    intro k hk
    rw [rP,ih _ (by omega),xt (show k≠j by omega)]
    rfl
  exact this r _ (by omega)
 | p :: r,j,i+1,q=>by
  rw [rP,xt (show j≠j+(i+1) by omega),show j+(i+1)=j+1+i by omega,sP r (j+1) i q]
  rfl
theorem wW {x:TV} {q:Cx} (h:x.cx?=some q):x=FE q:=by
 unfold TV.cx? at h
 split at h
 ·cases h;rfl
 ·cases h
theorem AH {cs ds:List TV} {i:Nat} {x:TV} (h:D2 cs i x=some ds) (hi:i<cs.length):x.plain=true∧x.cells=[x]∧ds=dY cs i [x]:=by
 unfold D2 at h
 split at h
 ·rename_i q l h1 h2
  cases h
  have hx:=wW h1
  have hc:=fH (g:=FE) (fun x y h=>wW h) h2
  subst hx;subst hc
  refine ⟨rfl,rfl,?_⟩
  have:=sP l 0 i q
  rw [Nat.zero_add] at this
  rw [this,qy]
  have Ec:i<l.length:=by simpa using hi
  simp only [dY,aI]
  rw [List.set_eq_take_append_cons_drop,ar Ec]
  simp only [List.map_append,aQ,List.map_take,List.map_drop,aC,List.singleton_append]
 ·cases h
theorem wS {t:dS}:∀{xs:List TV} {l:List t.El},t.rJ xs=some l→l.map t.tv=xs
 | [],l,h=>by cases h;rfl
 | x :: r,l,h=>by
  simp only [dS.rJ] at h
  split at h
  ·rename_i y hy
   split at h
   ·rename_i m hm
    cases h
    rw [aQ,dS.zR hy,wS hm]
   ·cases h
  ·cases h
section
variable {C:Ctx} {S V:St} {a:Act} {w w':World} {R:Reach} {τ:Nat→Value} {o:Oper} {d:Nat} (h:cG C S a w R τ) (hV:Lt V S)
include h hV
theorem xy {x:Operand} {t:TypeId} {i s q m:Nat} {xs:List TV} {ts:List (Nat × Nat)} (hx:dQ C.E C.nt V t x=some (.el i s q,.pe m)) (hm:S m=(.ag xs,.cl ts)):∃b,τ m = .pointer (some ⟨b,0,none⟩)∧a.eval x = .pointer (some ⟨b,i * s+q,none⟩):=by
 obtain ⟨q1,_,_⟩:=dN h hV hx
 obtain ⟨b,i',s',q',p1,p2,hv⟩:∃b i' s' q',Value.dv (τ m)=some b∧TV.el i s q = .el i' s' q'∧a.eval x = .pointer (some ⟨b,i' * s'+q',none⟩):=q1
 cases p2
 obtain ⟨b',_,_,k1,_⟩:=gW h hV hm
 rw [k1] at p1;cases p1
 exact ⟨_,k1,hv⟩
theorem go_pla (hd:o.dst=some d) (hl:d<C.nt) {x:Operand} {t:TypeId} {i m:Nat} {cs:List TV} {ts:List (Nat × Nat)} {y:TV} (ho:o.op = .load t x) (hs:fe C.P t=some (1,false)) (hx:dQ C.E C.nt V 0 x=some (.el i 1 0,.pe m)) (hm:S m=(.ag cs,.cl ts)) (hi:i<cs.length) (hp:vc cs i=some y):cQ C o a w (bN S d (y,.no)):=by
 obtain ⟨b0,p1,hv⟩:=xy h hV hx hm
 obtain ⟨b,ys,e,k1,k2,k3,_⟩:=gW h hV hm
 obtain rfl:b=b0:=by rw [k1] at p1;cases p1;rfl
 obtain ⟨inf,nO,hn,ha⟩:=dU hs
 obtain ⟨v,uF,_,yB⟩:=k3.get i y (pL hp hi)
 refine h.er hd hl (v:=v) ?_ yB
 have:=eT (P:=C.P) nO ha (.inr hn) (w:=w) (b:=b) (off:=i * 1+0) (ys:=[v]) (by simp [hn]) (fun j y hj=>by
  cases j with
  | zero=>cases hj;simp only [World.cell?,k2];simpa using uF
  | succ j=>simp at hj)
 simp only [execOp,ho,hv,Instr.loadAt,Instr.sureAddr,Sem.run_bind,Sem.run_pure,Result.andThen_ok,this]
 rfl
theorem go_ls (hd:o.dst=none) {x v:Operand} {t:TypeId} {inf:TypeInfo} {i m:Nat} {cs ds:List TV} {y:TV} (ho:o.op = .store t x v) (nO:C.P.info? t=some inf) (hn:inf.size=1) (hx:dQ C.E C.nt V 0 x=some (.el i 1 0,.pe m)) (hm:S m=(.ag cs,.cl [])) (hi:i<cs.length) (hv:Rep R w y (a.eval v)) (hp:D2 cs i y=some ds) :
  cQ C o a w (bN S m (.ag ds,.cl [])):=by
 obtain ⟨e1,e2,e3⟩:=AH hp hi
 obtain ⟨b0,p1,oj⟩:=xy h hV hx hm
 obtain ⟨b,ys,e,k1,k2,k3,k4,k5,k6,k7⟩:=gW h hV hm
 obtain rfl:b=b0:=by rw [k1] at p1;cases p1;rfl
 obtain ⟨_,_,q3⟩:=dN h hV hx
 have hL:=gQ hv e1
 rw [e2] at hL
 have hlen:=hL.length
 have HS:=k3.length
 have zN:(a.eval v).cells.size=1:=by simpa using hlen.symm
 have uG:=run_storeCells_at (P:=C.P) b (i * 1+0) e (a.eval v).cells.toList 0 ⟨ys⟩ w k2 (by simp;omega) hL.one
 simp only [Nat.add_zero,Nat.mul_one] at uG oj
 let new:List Value:=ys.take i++(a.eval v).cells.toList++ys.drop (i+(a.eval v).cells.toList.length)
 have ft:(execOp a.eval o).run C.P w = .ok .skip (w.setRow b ⟨new⟩):=by
  have:¬((a.eval v).cells.size≠inf.size):=by omega
  simp only [execOp,ho,oj,Instr.storeAt,Instr.sureAddr,Sem.run_bind,Sem.run_pure,Result.andThen_ok,storeVar,run_sizeOf nO,Sem.run_ite,this,if_false,uG]
  rfl
 have cq:cH R w R (w.setRow b ⟨new⟩):=fun b1 o hr=>⟨hr,cell_setRow_other w b _ ⟨b1,o,none⟩ (fun e=>k5 o (by have:b1=b:=e;rw [←this];exact hr))⟩
 have Fx:bX R (w.setRow b ⟨new⟩) ds new:=by
  rw [e3]
  show bX R (w.setRow b ⟨new⟩) _ (ys.take i++(a.eval v).cells.toList++ys.drop (i+(a.eval v).cells.toList.length))
  rw [←hlen]
  exact (((k3.take i).append hL).append (k3.drop _)).mono cq
 exact (h.wr (k:=m) (b:=b) (cur:=⟨ys⟩) (cur':=⟨new⟩) (x := .ag ds) (g := .cl []) (q3 m (by simp [Gh.bP])).1 k7 (by rw [hm];rfl) k2 k5 ⟨b,new,e,_,k1,setRow_heap w b ⟨ys⟩ ⟨new⟩ e (0,0) k2,rfl,Fx,by simp,k5⟩ ⟨rfl,by simp⟩ (by simp [Gh.bP])).A9 hd ft
theorem iV:∀{ts:List TypeId} {os:List Operand} {cs:List Cell},je C.E C.nt V ts os=some cs→Cells R w τ C.nt cs (os.map a.eval)∧os.length=ts.length∧∀c∈cs,c.2.slot=true∧∀m∈c.2.bP,C.nt≤m∧(S m).2 ≠ .no
 | [],[],_,he=>by cases he;exact ⟨.nil,rfl,by simp⟩
 | t :: ts,x :: os,_,he=>by
  simp only [je] at he
  split at he
  ·rename_i c e1
   split at he
   ·rename_i cs e2
    cases he
    obtain ⟨h1,h2,h3⟩:=dN h hV e1
    obtain ⟨k1,k2,k3⟩:=iV e2
    exact ⟨.cons h1 (fun m hm=>(h3 m hm).1) k1,by simp [k2],fun c' hc=>by
     rcases aD.1 hc with rfl | hc
     ·exact ⟨h2,h3⟩
     ·exact k3 c' hc⟩
   ·cases he
  ·cases he
 | [],_ :: _,_,he=>by simp [je] at he
 | _ :: _,[],_,he=>by simp [je] at he
theorem cG.GY {ts:List TypeId} {os:List Operand} {cs:List Cell} {xs:List TV} {ws:List (Nat × Cell)} (ho:je C.E C.nt V ts os=some cs) (he:vj V cs=some (xs,ws)):∃R',cG C (cO S ws) a w R' τ∧dW R' w xs (os.map a.eval)∧Lq V (cO S ws):=by
 obtain ⟨h1,_,_⟩:=iV h hV ho
 obtain ⟨R',k1,k2,k3,k4⟩:=nj h.core hV.q h1 he
 exact ⟨R',h.fz k1 k2,k3,k4⟩
theorem go_bl (hd:o.dst=some d) (hl:d<C.nt) (hE:fc C.P C.E) {t e:TypeId} {n jQ k:Nat} {parts:Array (Nat × Operand)} {st:dS} {cs:List Cell} {xs:List TV} {ws:List (Nat × Cell)} {l:List st.El} (ho:o.op = .buildSlice t n parts) (ht:C.E.ty t=some (st,jQ)) (hx:je C.E C.nt V (parts.toList.map fun _=>e) (parts.toList.map (·.2))=some cs) (hf:vj V cs=some (xs,ws))
  (he:st.rJ xs=some l) (hn:n=parts.size) (HO:n * st.size≤16777216) (HE:parts.toList.map (·.1)=List.range n) (hk:jr C.nt V k=true):cQ C o a w (bN (bN (cO S ws) k (.sl st l,.pv)) d (.pt,.cT k)):=by
 obtain ⟨R',h',hT,hq⟩:=h.GY hV hx hf
 obtain ⟨e',i,zv,h1,h2,h3,h4,h5,h6,h7⟩:=hE.ty _ _ _ ht
 have zE:=wS he
 have nH:∀x∈xs,x.plain=true∧x.cells.length=st.size:=fun x hx=>by rw [←zE] at hx;obtain ⟨u,_,rfl⟩:=aU.1 hx;exact ⟨dS.vq st u,dS.fT st u⟩
 obtain ⟨hL,jX⟩:=n5 hT nH
 have hlen:parts.toList.length=n:=by simp [hn]
 have Gx:l.length=n:=by have:=hT.length;rw [←zE] at this;simp at this;omega
 have hp:(parts.map fun p=>(p.1,a.eval p.2)).toList=((((parts.toList.map (·.2)).map a.eval).zipIdx 0).map fun p=>(p.2,p.1)):=by
  have e:=n6 ((parts.map fun p=>(p.1,a.eval p.2)).toList) 0 (by simp only [Array.toList_map,List.map_map,bp,hlen];rw [←List.range_eq_range',←HE];rfl)
  rw [e]
  simp [Function.comp_def]
 let zc:Array Value:=if n * st.size=0 then #[] else zv.cells
 let c0:Array Value:=(Array.range (n * st.size)).map (zc[· % zc.size]!)
 obtain ⟨cE,xM,A7⟩:=oD st.size ((parts.toList.map (·.2)).map a.eval) 0 c0 jX (by simp [c0,hlen,hn])
 simp only [Nat.zero_mul,List.take_zero,bf] at A7
 have ft:(Instr.buildSlice t n (parts.map fun p=>(p.1,a.eval p.2))).run C.P w = .ok (.slice (some ⟨w.heap.size,0,none⟩) n n) { w with heap:=w.heap.push (.cells cE e') }:=by
  have Ij:¬(n * st.size > 2 ^ 24):=by omega
  rw [←hp] at xM
  simp only [c0,zc] at xM
  simp only [Instr.buildSlice,Sem.run_bind,run_underlying h1,Result.andThen_ok,run_sizeOf h2,h3,Ij,if_false,Sem.run_pure]
  by_cases h0:n * st.size=0
  ·rw [ar h0] at xM ⊢
   simp only [Sem.run_bind,Sem.run_pure,Result.andThen_ok]
   rw [xM]
   simp [Go.newRow]
  ·rw [ak h0] at xM ⊢
   simp only [Sem.run_bind,Sem.run_pure,Result.andThen_ok,kx h2 h5]
   rw [xM]
   simp [Go.newRow]
 rw [←zE] at hL
 have hcs:cE.size=n * st.size:=by rw [←Array.length_toList,A7,←hL.length,gT,Gx]
 have yE:=st.size_pos
 have HL:n≤maxLen:=by
  have:n * 1≤n * st.size:=Nat.mul_le_mul_left _ yE
  simp only [maxLen];omega
 refine h'.Ba hd hl (st:=st) (l:=l) (cap:=n) (cur:=cE) (e:=e') (fz:=(0,0)) (ys:=((parts.toList.map (·.2)).map a.eval).flatMap fun v=>v.cells.toList) (w':={ w with heap:=w.heap.push (.cells cE e') }) (dR hq hk) rfl rfl rfl rfl (fun o _=>by simp) hcs (by omega) HL hL (fun j y hj=>by rw [←A7] at hj;simpa using hj) ?_
 simp only [execOp,ho,Sem.run_bind,Gx]
 have hm:(parts.map fun x=>(x.1,a.eval x.2))=parts.map fun p=>(p.1,a.eval p.2):=rfl
 simp [ft]
end
end Go.Eng
namespace Go.Eng
open Go.RowKit
def Aj (P:Program) (t:TypeId):Option Nat:=(P.info? t).map (·.size)
theorem jk {P:Program} {w:World}:∀(fs:List Field),(∀f∈fs,(sizeOf f.type).run P w = .ok ((Aj P f.type).getD 0) w) →
  ((fs.mapM fun (f:Field)=>do pure (f.offset,←sizeOf f.type)):Sem (List (Nat × Nat))).run P w = .ok (fs.map fun f=>(f.offset,(Aj P f.type).getD 0)) w
 | [],_=>rfl
 | f :: fs,hs=>by
  simp only [List.mapM_cons,Sem.run_bind,hs f (by simp),Result.andThen_ok,Sem.run_pure,jk fs (fun g hg=>hs g (by simp [hg])),aQ]
theorem kb {P:Program} {t:TypeId}:∀{l:List (Nat × Operand)} {pl:List (Nat × (Nat × TypeId))},iS P t l=some pl→pl.length=l.length∧∀(j:Nat) (p:Nat × Operand) (q:Nat × (Nat × TypeId)),l[j]?=some p→pl[j]?=some q→jo P t p.1=some q
 | [],pl,h=>by cases h;exact ⟨rfl,by simp⟩
 | (i,o) :: r,pl,h=>by
  simp only [iS] at h
  split at h
  ·rename_i q l e1 e2
   cases h
   obtain ⟨h1,h2⟩:=kb e2
   refine ⟨by simp [h1],fun j p q' hp hq=>?_⟩
   cases j with
   | zero=>cases hp;cases hq;exact e1
   | succ j=>exact h2 j p q' (by simpa using hp) (by simpa using hq)
  ·cases h
theorem dV:∀{l:List (Nat × Cell)} {S:St} {k:Nat},(∀p∈l,p.1≠k)→cO S l k=S k
 | [],_,_,_=>rfl
 | (j,x) :: l,S,k,h=>by
  simp only [cO]
  rw [bQ _ _ (Ne.symm (h (j,x) (List.mem_cons_self ..)))]
  exact dV fun p hp=>h p (List.mem_cons_of_mem _ hp)
theorem mW:∀{cs pG:List Cell} {k:Nat},iW cs=some (pG,k)→cs=pG++[(.pt,.cT k)]
 | [],_,_,h=>by simp [iW] at h
 | [c],pG,k,h=>by
  obtain ⟨x,g⟩:=c
  cases x <;> cases g <;> simp [iW] at h
  obtain ⟨rfl,rfl⟩:=h;rfl
 | c :: d :: r,pG,k,h=>by
  simp only [iW] at h
  split at h
  ·rename_i c1 k1 e
   cases h
   rw [mW e];rfl
  ·cases h
theorem Cells.snoc {R:Reach} {w:World} {τ:Nat→Value} {nt:Nat}:∀{cs:List Cell} {c:Cell} {vs:List Value},Cells R w τ nt (cs++[c]) vs→∃rC v,vs=rC++[v]∧Cells R w τ nt cs rC∧cz R w τ c.1 c.2 v
 | [],_,_,.cons a b .nil=>⟨[],_,rfl,.nil,a⟩
 | _ :: _,_,_,.cons a b t=>by
  obtain ⟨rC,v,rfl,h1,h2⟩:=Cells.snoc t
  exact ⟨_ :: rC,v,rfl,.cons a b h1,h2⟩
theorem dW.snoc {R:Reach} {w:World}:∀{xs:List TV} {vs:List Value} {x:TV} {v:Value},dW R w xs vs→Rep R w x v→dW R w (xs++[x]) (vs++[v])
 | _,_,_,_,.nil,h => .cons h .nil
 | _,_,_,_,.cons a t,h => .cons a (dW.snoc t h)
theorem oC (place:Nat→Option (Nat × Nat)):∀(ps:List (Nat × Value)) (i:Nat) (v:Value) (off:Nat) (cells cE:Array Value),place i=some (off,1)→v.cells.toList=[v]→Instr.fill place cells (ps++[(i,v)])=some cE→cE[off]?=some v
 | [],i,v,off,cells,cE,hp,hv,h=>by
  have oj:v.cells=#[v]:=Array.toList_inj.1 hv
  simp only [bf,Instr.fill,hp,oj] at h
  split at h
  ·cases h
  ·rename_i hc
   cases h
   have:off<cells.size:=by simp at hc;omega
   simp [Array.getElem?_setIfInBounds,this]
 | p :: ps,i,v,off,cells,cE,hp,hv,h=>by
  simp only [List.cons_append,Instr.fill] at h
  split at h
  ·cases h
  ·split at h
   ·cases h
   ·exact oC place ps i v off _ _ hp hv h
section
variable {C:Ctx} {S V:St} {a:Act} {w w':World} {R:Reach} {τ:Nat→Value} {o:Oper} {d:Nat} (h:cG C S a w R τ) (hV:Lt V S)
include h hV
omit hV in
theorem tI (hE:fc C.P C.E) {R':Reach} {t:TypeId} {parts:Array (Nat × Operand)} {z ds xs:List TV} {pl:List (Nat × (Nat × TypeId))} (ho:o.op = .build t parts) (hz:C.E.z t=some z) (nH:iS C.P t parts.toList=some pl) (hT:dW R' w xs ((parts.toList.map (·.2)).map a.eval)) (h1:∀(j:Nat) (v:Value),xs[j]?=some .pt→(parts.toList.map fun p=>a.eval p.2)[j]?=some v→v.oneCell'=true)
  (qL:jx z (pl.map fun q=>(q.1,q.2.1)) xs=some ds):∃(place:Nat→Option (Nat × Nat)) (cells cE:Array Value),(∀(j:Nat) (q:Nat × (Nat × TypeId)),jo C.P t j=some q→place j=some (q.1,q.2.1))∧Instr.fill place cells (parts.toList.map fun p=>(p.1,a.eval p.2))=some cE∧bX R' w ds cE.toList∧(execOp a.eval o).run C.P w = .ok (.value (.agg cE)) w:=by
 have _:=h
 obtain ⟨A3,zv,hi,Hu⟩:=hE.z _ _ hz
 rw [aE] at hi
 obtain ⟨i,hi,D4⟩:=hi
 have hL:bX R' w z zv.cells.toList:=jD Hu
 obtain ⟨hlen,yF⟩:=kb nH
 have CU:∀(j:Nat) (p:Nat × Value) (x:TV),((parts.map fun p=>(p.1,a.eval p.2)).toList)[j]?=some p→xs[j]?=some x→Rep R' w x p.2∧(x = .pt→p.2.oneCell'=true):=fun j p x hp Gm=>by
  obtain ⟨y,uF,yB⟩:=hT.get j x Gm
  simp only [Array.toList_map,ba,List.map_map] at hp uF
  cases hq:parts.toList[j]? with
  | none=>simp [hq] at hp
  | some q=>simp [hq] at hp uF;subst hp;rw [uF];exact ⟨yB,fun e=>h1 j _ (e ▸ Gm) (by simp [hq,uF])⟩
 have AU:∀place:Nat→Option (Nat × Nat),(∀(j:Nat) (q:Nat × (Nat × TypeId)),jo C.P t j=some q→place j=some (q.1,q.2.1)) →
   ∃cE,Instr.fill place zv.cells (parts.map fun p=>(p.1,a.eval p.2)).toList=some cE∧bX R' w ds cE.toList:=fun place oq =>
  qT place _ (pl.map fun q=>(q.1,q.2.1)) _ z ds zv.cells hL (by simp [hlen]) (fun j p q hp hq=>by
   simp only [Array.toList_map,ba] at hp hq
   cases E1:parts.toList[j]? with
   | none=>simp [E1] at hp
   | some q' =>
    simp [E1] at hp;subst hp
    cases zG:pl[j]? with
    | none=>simp [zG] at hq
    | some q2=>simp [zG] at hq;subst hq;exact oq _ _ (yF j q' q2 E1 zG)) CU qL
 have fin:∀place:Nat→Option (Nat × Nat),(∀(j:Nat) (q:Nat × (Nat × TypeId)),jo C.P t j=some q→place j=some (q.1,q.2.1)) →
   (∀cE,Instr.fill place zv.cells (parts.map fun p=>(p.1,a.eval p.2)).toList=some cE→(execOp a.eval o).run C.P w = .ok (.value (.agg cE)) w)→∃(place:Nat→Option (Nat × Nat)) (cells cE:Array Value),(∀(j:Nat) (q:Nat × (Nat × TypeId)),jo C.P t j=some q→place j=some (q.1,q.2.1))∧Instr.fill place cells (parts.toList.map fun p=>(p.1,a.eval p.2))=some cE∧bX R' w ds cE.toList∧(execOp a.eval o).run C.P w = .ok (.value (.agg cE)) w:=fun place oq EW=>by
  obtain ⟨cE,A5,hR⟩:=AU place oq
  exact ⟨place,zv.cells,cE,oq,by rw [←Array.toList_map];exact A5,hR,EW cE A5⟩
 unfold jy at A3
 cases hu:C.P.underlying t with
 | none=>simp [hu] at A3
 | some dd =>
  cases dd with
  | struct fs =>
   simp only [hu] at A3
   have jX:∀f∈fs.toList,(sizeOf f.type).run C.P w = .ok ((Aj C.P f.type).getD 0) w:=fun f hf=>by
    have:=aw.1 A3 f hf
    obtain ⟨n,hn⟩:=Option.isSome_iff_exists.1 this
    rw [run_sizeOf hn];simp [Aj,hn]
   refine fin (fun i=>(fs.map fun f=>(f.offset,(Aj C.P f.type).getD 0))[i]?) (fun j q hq=>?_) (fun cE hc=>?_)
   ·unfold jo at hq
    rw [hu] at hq
    simp only [aE,aH] at hq
    obtain ⟨f,h1,i',h2,rfl⟩:=hq
    simp [h1,Aj,h2]
   ·have hm:=jk fs.toList jX
    have E9:((fs.mapM fun (f:Field)=>do pure (f.offset,←sizeOf f.type)):Sem (Array (Nat × Nat))).run C.P w = .ok (fs.map fun f=>(f.offset,(Aj C.P f.type).getD 0)) w:=by
     rw [Array.mapM_eq_mapM_toList,Sem.run_map,hm]
     simp only [Result.andThen_ok]
     congr 1
     apply Array.ext'
     simp
    simp only [execOp,ho,Instr.build,Sem.run_bind,kx hi D4,run_underlying hu,Result.andThen_ok,E9]
    rw [hc]
    simp
  | array n e =>
   simp only [hu] at A3
   obtain ⟨i',h1⟩:=Option.isSome_iff_exists.1 A3
   refine fin (fun i=>some (i * i'.size,i'.size)) (fun j q hq=>?_) (fun cE hc=>?_)
   ·unfold jo at hq
    rw [hu] at hq
    simp only [h1,Option.map_some,aA] at hq
    subst hq;rfl
   ·simp only [execOp,ho,Instr.build,Sem.run_bind,kx hi D4,run_underlying hu,Result.andThen_ok,run_sizeOf h1]
    rw [hc]
    simp
  | _=>simp [hu] at A3
theorem go_bd (hd:o.dst=some d) (hl:d<C.nt) (hE:fc C.P C.E) {t:TypeId} {parts:Array (Nat × Operand)} {z ds xs:List TV} {pl:List (Nat × (Nat × TypeId))} {cs:List Cell} {ws:List (Nat × Cell)} (ho:o.op = .build t parts) (hz:C.E.z t=some z) (nH:iS C.P t parts.toList=some pl) (hx:je C.E C.nt V (pl.map (·.2.2)) (parts.toList.map (·.2))=some cs) (hf:vj V cs=some (xs,ws))
  (qL:jx z (pl.map fun q=>(q.1,q.2.1)) xs=some ds) (AV:xs.all TV.plain=true):cQ C o a w (bN (cO S ws) d (.ag ds,.no)):=by
 obtain ⟨R',h',hT,hq⟩:=h.GY hV hx hf
 obtain ⟨_,_,cE,_,_,hR,ft⟩:=tI h hE ho hz nH hT (fun j v hj _=>by have:=aw.1 AV _ (ay hj);cases this) qL
 exact h'.er hd hl (v := .agg cE) ft (by cases cE with | mk l=>exact .ag hR)
theorem go_bo (hd:o.dst=some d) (hl:d<C.nt) (hE:fc C.P C.E) {t:TypeId} {parts:Array (Nat × Operand)} {z ds xs:List TV} {pl:List (Nat × (Nat × TypeId))} {cs pG:List Cell} {ws:List (Nat × Cell)} {k:Nat} {q:Nat × (Nat × TypeId)} (ho:o.op = .build t parts) (hz:C.E.z t=some z) (nH:iS C.P t parts.toList=some pl) (hx:je C.E C.nt V (pl.map (·.2.2)) (parts.toList.map (·.2))=some cs)
  (C1:iW cs=some (pG,k)) (hf:vj V pG=some (xs,ws)) (qL:jx z (pl.map fun q=>(q.1,q.2.1)) (xs++[.pt])=some ds) (B7:pl.getLast?=some q) (hq:q.2.1=1) (hk:∀p∈ws,p.1≠k) (AV:xs.all TV.plain=true):cQ C o a w (bN (cO S ws) d (.ag ds,.ow [(q.1,k)])):=by
 obtain ⟨hlen,yF⟩:=kb nH
 have hcs:=mW C1
 obtain ⟨h1,_,h3⟩:=iV h hV hx
 have GF:=(h3 (.pt,.cT k) (by rw [hcs];simp)).2 k (by simp [Gh.bP])
 rw [hcs] at h1
 obtain ⟨rC,v,sa,A7,hv⟩:=Cells.snoc h1
 obtain ⟨R',k1,k2,k3,_⟩:=nj h.core hV.q A7 hf
 have h':=h.fz k1 k2
 obtain ⟨e1,e2⟩:v=τ k∧v.oneCell'=true:=hv
 have hT:dW R' w (xs++[.pt]) ((parts.toList.map (·.2)).map a.eval):=by rw [sa];exact dW.snoc k3 (.pt v)
 obtain ⟨place,cells,cE,oq,xM,hR,ft⟩:=tI h hE ho hz nH hT (fun j v' hj lV=>by
  rw [show (parts.toList.map fun p=>a.eval p.2)=rC++[v] by rw [←sa];simp] at lV
  have hl:=k3.length
  by_cases C4:j<xs.length
  ·rw [List.getElem?_append_left C4] at hj
   have:=aw.1 AV _ (ay hj);cases this
  ·rw [aV (by omega)] at hj lV
   have e:j - rC.length=0:=by
    cases hh:j - xs.length with
    | zero=>omega
    | succ n=>rw [hh] at hj;simp at hj
   rw [e] at lV;cases lV;exact e2) qL
 -- the last part
 obtain ⟨ps,p0,HD⟩:∃ps p0,parts.toList=ps++[p0]:=by
  rcases List.eq_nil_or_concat parts.toList with e | ⟨ps,p0,e⟩
  ·rw [e] at sa;simp at sa
  ·exact ⟨ps,p0,by rw [e,List.concat_eq_append]⟩
 rw [HD] at xM sa hlen yF
 simp only [List.map_append,aQ,bn] at xM sa
 have hv0:=(List.append_inj' sa rfl).2
 simp only [bg,and_true] at hv0
 have HB:pl[ps.length]?=some q:=by
  rw [List.getLast?_eq_getElem?] at B7
  simp only [al,aI] at hlen
  rw [hlen] at B7
  simpa using B7
 have CY:=oq _ _ (yF ps.length p0 q (by simp) HB)
 rw [hq] at CY
 have AZ:=oC place _ p0.1 (a.eval p0.2) q.1 cells cE CY (by rw [hv0];exact ob e2) xM
 refine h'.val hd hl (v := .agg cE) ft (x := .ag ds) (g := .ow [(q.1,k)]) ?_ rfl fun j hj=>?_
 ·cases cE with
  | mk l=>exact ⟨l,ds,rfl,rfl,hR,fun p hp=>by
    rw [List.mem_singleton] at hp
    subst hp
    rw [←e1,←hv0]
    simpa using AZ⟩
 ·simp only [Gh.bP,aQ,bn,List.mem_singleton] at hj
  subst hj
  exact ⟨GF.1,by rw [dV hk];exact GF.2⟩
end
end Go.Eng
namespace Go.Eng
open Go.RowKit
theorem dS.pM {t t':dS} {l n:List t.El} {m:List t'.El} (h:t.app l t' m=some n):∃e:t'=t,n=l++(e ▸ m):=by
 unfold dS.app at h
 split at h <;> cases h <;> exact ⟨rfl,rfl⟩
section
variable {C:Ctx} {S V:St} {a:Act} {w w':World} {R:Reach} {τ:Nat→Value} {o:Oper} {d:Nat}
def DR (P:Program) (R:Reach) (w:World) (p:Bool) (x0:Value) (st:dS) (n:List st.El) (r:World→Result Value):Prop :=
 ∃v w' R',r w = .ok v w'∧cV R' w' p v (.sl st n)∧cH R w R' w'∧(∀b o,R' b o→R b o∨Value.dv v=some b)∧w'.os=w.os∧w'.tape=w.tape∧w'.output=w.output∧w.heap.size≤w'.heap.size∧(∀b,Value.dv v≠some b→b<w.heap.size→w'.heap[b]?=w.heap[b]?) ∧
  (∀b,Value.dv v=some b→(w.heap.size≤b∨Value.dv x0=some b)∧b<w'.heap.size)∧∀b,Value.dv v=some b→Value.dv x0=some b→∃g cap m,x0 = .slice (some ⟨g,0,none⟩) m cap∧v = .slice (some ⟨g,0,none⟩) n.length cap
theorem BK {P:Program} {t u ty e:TypeId} {i:TypeInfo} {z:Value} {du:TypeDesc} (eJ:∀b o,R b o→b<w.heap.size) (ht:P.underlying t=some (.slice e)) (hi:P.info? e=some i) (hz:i.zero=some z) (Ht:z.cells.size=i.size) (hu:P.underlying u=some du) (po:∀k,du ≠ .int k)
  {p:Bool} {x0 x:Value} {st:dS} {l m:List st.El} {news:List Value} (hs:i.size=st.size) (h0:cV R w p x0 (.sl st l)) (hx:Source P w st.size x m.length news) (hL:bX R w ((m.map st.tv).flatMap TV.cells) news) (Ef:l.length+m.length≤maxLen) (hb:(l.length+m.length) * i.bytes≤140737488355328) :
  DR P R w p x0 st (l++m) fun w=>(Builtin.append_ #[t,u] ty #[x0,x]).run P w:=by
 rw [←hs] at hx
 have qI:=hx.2.2.1
 have Dd:((l++m).map st.tv).flatMap TV.cells=(l.map st.tv).flatMap TV.cells++(m.map st.tv).flatMap TV.cells:=by simp
 have grow:∀(q:Option Addr) (cap:Nat) (mN:List Value),x0 = .slice q l.length cap→cap<l.length+m.length→(∀w':World,w'.heap=w.heap→(Builtin.firstCells i.size l.length (.slice q l.length cap)).run P w' = .ok ⟨mN⟩ w') →
   bX R w ((l.map st.tv).flatMap TV.cells) mN→DR P R w p x0 st (l++m) fun w=>(Builtin.append_ #[t,u] ty #[x0,x]).run P w:=by
  rintro q cap mN rfl AY ho Cd
  have ft:=k8 (ty:=ty) ht hi hz hu po ho hx AY Ef hb
  have A2:=grownCap_ge w (l.length+m.length) cap e
  have hle:=grownCap_le_maxLen w (l.length+m.length) cap e Ef
  generalize hG:grownCap w (l.length+m.length) cap e=G at ft A2 hle
  have zJ:mN.length=l.length * i.size:=by rw [←Cd.length,gT,hs]
  let cur:Array Value:=(⟨mN⟩:Array Value)++⟨news⟩++Builtin.zeroCells z.cells (G - (l.length+m.length))
  let R':Reach:=fun b o=>R b o∨(p=true∧b=w.heap.size∧o<(l.length+m.length) * st.size)
  have hold:∀b,b<w.heap.size→(w.drew.alloc (.cells cur e)).heap[b]?=w.heap[b]?:=fun b hb=>by
   show (w.heap.push _)[b]?=_
   rw [Array.getElem?_push,ak (by omega)]
  have cq:cH R w R' (w.drew.alloc (.cells cur e)):=fun b o hr=>⟨.inl hr,World.cell?_of_block (w:=w) (hold b (eJ b o hr))⟩
  have A6:cur.toList.take ((l++m).length * st.size)=mN++news:=by
   have e1:cur.toList=(mN++news)++(Builtin.zeroCells z.cells (G - (l.length+m.length))).toList:=by simp [cur]
   have e2:(mN++news).length=(l++m).length * st.size:=by rw [al,al,zJ,qI,hs,Nat.add_mul]
   rw [e1,←e2,List.take_left]
  refine ⟨_,_,R',ft,⟨st,l++m,rfl,.inr ⟨w.heap.size,G,cur,e,(0,0),by rw [al],?_,fun o _=>by simp,?_,by rw [al];exact A2,hle,?_,fun o=>⟨fun hr=>?_,fun hr => .inr ⟨hr.1,rfl,by have:=hr.2;rwa [al] at this⟩⟩⟩⟩,cq,fun b o hr=>hr.imp id fun e=>by rw [e.2.1];rfl,rfl,rfl,rfl,?_,fun b _ hb=>hold b hb,fun b hb=>?_,fun b hb fJ=>?_⟩
  ·show (w.heap.push _)[w.heap.size]?=some _;rw [Array.getElem?_push,ar rfl]
  ·simp only [cur,Array.size_append,List.size_toArray,size_zeroCells,Ht,zJ,qI,←Nat.add_mul,←hs]
   congr 1;omega
  ·rw [A6,Dd]
   exact (Cd.append hL).mono cq
  ·rcases hr with hr | ⟨h1,_,h2⟩
   ·have:=eJ _ _ hr;omega
   ·exact ⟨h1,by rwa [al]⟩
  ·show w.heap.size≤(w.heap.push _).size;simp
  ·cases hb
   exact ⟨.inl (Nat.le_refl _),by show w.heap.size<(w.heap.push _).size;simp⟩
  ·cases hb
   exact absurd (h0.lt fJ) (Nat.lt_irrefl _)
 rcases h0.cells with ⟨rfl,rfl⟩ | ⟨g,cap,cur,ce,fz,rfl,hg,hfz,hcs,IM,yN,Cd,hR⟩
 ·by_cases hm:m.length=0
  ·have HR:m=[]:=bh hm
   subst HR
   refine ⟨.slice none 0 0,w,R,?_,h0,cH.refl _ _,fun b o => .inl,rfl,rfl,rfl,Nat.le_refl _,fun _ _ _=>rfl,fun b hb=>(by cases hb),fun b hb=>by cases hb⟩
   obtain ⟨h1,h2,h3,h4⟩:=hx
   have Fi:(match du with | .int _=>true | _=>false)=false:=by cases du <;> first | rfl | exact (po _ rfl).elim
   have GV:=h2 w rfl
   simp only [aO] at h1 GV
   simp [Builtin.append_,run_underlying ht,run_underlying hu,Fi,sizeOf,typeInfo,hi,h1,GV]
  ·exact grow none 0 [] rfl (by simp;omega) (fun _ _=>rfl) .nil
 ·have zJ:(cur.toList.take (l.length * st.size)).length=l.length * i.size:=by rw [←Cd.length,gT,hs]
  by_cases oo:l.length+m.length≤cap
  ·have ft:=kZ (ty:=ty) ht hi hu po hg hfz hx oo (by rw [hs];exact hcs)
   have hle:(l.length+m.length) * st.size≤cap * st.size:=aT _ oo
   rw [Nat.add_mul] at hle
   rw [hs] at ft qI zJ
   have vi:cur.toList.length=cap * st.size:=by simp [hcs]
   let cur':Array Value:=(cur.toList.take (l.length * st.size)++news++cur.toList.drop (l.length * st.size+news.length)).toArray
   have Da:∀j,j<l.length * st.size→cur'[j]?=cur[j]?:=fun j hj=>by
    simp only [cur',List.getElem?_toArray,aC]
    rw [List.getElem?_append_left (by rw [zJ];exact hj),aF,ar hj];simp
   have hcell:∀j,(w.setRow g cur').cell? ⟨g,j,none⟩=cur'[j]?:=fun j=>cell_setRow_same w g j cur cur' ce fz hg
   let R':Reach:=fun b o=>R b o∨(p=true∧b=g∧o<(l.length+m.length) * st.size)
   have cq:cH R w R' (w.setRow g cur'):=fun c o vg=>⟨.inl vg,by
    by_cases GK:c=g
    ·subst GK
     rw [hcell,Da o ((hR o).1 vg).2]
     simp [World.cell?,hg]
    ·exact cell_setRow_other w g cur' ⟨c,o,none⟩ GK⟩
   have qK:g<w.heap.size:=(Array.getElem?_eq_some_iff.1 hg).1
   have D7:cur'.toList.take ((l++m).length * st.size)=cur.toList.take (l.length * st.size)++news:=by
    have e2:(cur.toList.take (l.length * st.size)++news).length=(l++m).length * st.size:=by rw [al,al,zJ,qI,Nat.add_mul]
    show (cur.toList.take (l.length * st.size)++news++_).take _=_
    rw [←e2,List.take_left]
   have jX:cur'.size=cur.size:=by
    simp only [cur',List.size_toArray,al,zJ,aP,vi,qI,←Array.length_toList];omega
   refine ⟨_,_,R',ft,⟨st,l++m,rfl,.inr ⟨g,cap,cur',ce,fz,by rw [al],setRow_heap w g cur cur' ce fz hg,fun o ho=>hfz o (by rw [←jX];exact ho),by rw [jX];exact hcs,by rw [al];exact oo,yN,?_,fun o=>⟨fun hr=>?_,fun hr => .inr ⟨hr.1,rfl,by have:=hr.2;rwa [al] at this⟩⟩⟩⟩,
    cq,fun b o hr=>hr.imp id fun e=>by rw [e.2.1];rfl,rfl,rfl,rfl,by rw [setRow_size];exact Nat.le_refl _,fun b hb _=>setRow_other w g b cur' (fun e=>hb (by rw [e];rfl)),fun b hb=>?_,fun b _ _=>⟨g,cap,l.length,rfl,by rw [al]⟩⟩
   ·rw [D7,Dd];exact (Cd.append hL).mono cq
   ·rcases hr with hr | ⟨h1,_,h2⟩
    ·have:=(hR o).1 hr
     refine ⟨this.1,?_⟩
     rw [al,Nat.add_mul];omega
    ·exact ⟨h1,by rwa [al]⟩
   ·cases hb
    exact ⟨.inr rfl,by rw [setRow_size];exact qK⟩
  ·refine grow (some ⟨g,0,none⟩) cap _ rfl (by omega) (fun w' hw=>?_) Cd
   rw [hs]
   exact run_firstCells_some (P:=P) w' st.size l.length ⟨g,0,none⟩ l.length cap _ (by rw [zJ,hs]) (fun j v hj=>by
    rw [addr_add,Nat.zero_add,World.cell?_of_block (w:=w) (by rw [hw])]
    rw [aF] at hj
    split at hj
    ·simp only [World.cell?,hg];simpa using hj
    ·cases hj)
theorem cG.Bc (h:cG C S a w R τ) {k k2:Nat} {v:Value} {x:TV} {g c:Gh} {y:TV} {R':Reach} (hk:C.nt≤k∧(S k).2.own=true∧(S k).2.ta=false) (lU:(S k2).2 = .no∧k2<1000000∧C.nt≤k2) (cq:cH R w R' w') (hn:∀b o,R' b o→R b o∨Value.dv v=some b) (os:w'.os=w.os) (tape:w'.tape=w.tape) (out:w'.output=w.output) (size:w.heap.size≤w'.heap.size)
  (heap:∀b,Value.dv v≠some b→b<w.heap.size→w'.heap[b]?=w.heap[b]?) (hb:∀b,Value.dv v=some b→(w.heap.size≤b∨Value.dv (τ k)=some b)∧b<w'.heap.size)
  (hg:g = .pv∨g = .lv) (new:eZ R' w' τ x g v) (hc:c = .zz∨c = .us) (hy:eZ R' w' τ y c (τ k)):cG C (bN (bN S k (y,c)) k2 (x,g)) a w' R' (kq τ k2 v):=by
 have fP:k≠k2:=by rintro rfl;rw [lU.1] at hk;cases hk.2.1
 have uI:g.own=true:=by rcases hg with rfl | rfl <;> rfl
 have GI:g.bP=[]:=by rcases hg with rfl | rfl <;> rfl
 have yN:c.bP=[]:=by rcases hc with rfl | rfl <;> rfl
 have B6:bN (bN S k (y,c)) k2 (x,g) k=(y,c):=by rw [bQ _ _ fP,bF]
 have Ho:∀j,j≠k→dv τ S j≠none→∀b,dv τ S j=some b→Value.dv v≠some b:=fun j hj _ b sd hv=>by
  rcases (hb b hv).1 with e | e
  ·have:=h.core.lt sd;omega
  ·exact hj (h.core.j0 (dL hk.2.1 (ph hk.2.2) e) sd).symm
 have cg:∀b,Value.dv v=some b→C.cg b:=fun b hv=>by
  rcases (hb b hv).1 with e | e
  ·exact .inr (Nat.le_trans h.ext.size e)
  ·exact h.core.cg k b (dL hk.2.1 (ph hk.2.2) e)
 have kK:Core C.nt R' w' C.cg (kq τ k2 v) (bN (bN S k (y,c)) k2 (x,g)):=by
  refine h.core.step (fun j=>j=k∨j=k2) cq (fun j hj=>?_) (fun j b hj sd=>?_) ?_ ?_ ?_ ?_ ?_ ?_ (fun _=>id) ?_ ?_ ?_
  ·have h1:j≠k:=fun e=>hj (.inl e)
   have h2:j≠k2:=fun e=>hj (.inr e)
   exact ⟨by rw [bQ _ _ h2,bQ _ _ h1],dn _ _ h2⟩
  ·have h1:j≠k:=fun e=>hj (.inl e)
   have:=Ho j h1 (by rw [sd];simp) b sd
   exact ⟨heap b this (h.core.lt sd),fun o hr=>(hn b o hr).resolve_right this⟩
  ·rintro j (rfl | rfl)
   ·rw [B6,dn _ _ fP]
    exact hy.cq (cH.refl _ _) (by rw [yN];simp) fun b e=>by rcases hc with rfl | rfl <;> cases e
   ·rw [bF,dh]
    exact new.cq (cH.refl _ _) (by rw [GI];simp) fun _ _=>⟨rfl,fun _=>id⟩
  ·rintro j (rfl | rfl)
   ·exact .inl (dn _ _ fP)
   ·exact .inr (.inr lU.1)
  ·rintro j (rfl | rfl)
   ·rw [B6];right;rcases hc with rfl | rfl <;> simp
   ·rw [bF];right;rcases hg with rfl | rfl <;> simp
  ·rintro j (rfl | rfl)
   ·rw [B6];exact .inl ⟨hk.2.2,by rcases hc with rfl | rfl <;> rfl⟩
   ·rw [bF,lU.1];exact .inl ⟨rfl,by rcases hg with rfl | rfl <;> rfl⟩
  ·rintro j (rfl | rfl) _
   ·exact .inl hk.2.1
   ·exact .inr lU.1
  ·rintro j b (rfl | rfl) sd
   ·have:=(cZ sd).1;rw [B6] at this;rcases hc with rfl | rfl <;> cases this
   ·have hv:=(cZ sd).2
    rw [dh] at hv
    refine ⟨cg b hv,?_,(hb b hv).1.imp id fun e=>⟨k,.inl rfl,dL hk.2.1 (ph hk.2.2) e⟩⟩
    rintro q (rfl | rfl) hq HA
    ·have:=(cZ HA).1;rw [B6] at this;rcases hc with rfl | rfl <;> cases this
    ·exact hq rfl
  ·rintro j (rfl | rfl) q hq
   ·rw [B6,yN] at hq;cases hq
   ·rw [bF,GI] at hq;cases hq
  ·intro b o hr
   rcases hn b o hr with hr | hr
   ·have:=h.core.j9 b o hr;omega
   ·exact (hb b hr).2
  ·rintro j (rfl | rfl) hj <;> omega
 refine ⟨h.size,h.defers,kK,fun t ht=>by rw [dn _ _ (by omega)];exact h.tmps t ht,⟨h.io.1,fun j hj=>by rw [dn _ _ (by omega)];exact h.io.2 j hj⟩,h.ext.trans (io':=fun b=>Value.dv v=some b) ⟨os,tape,out,size,fun b fJ hv=>heap b hv fJ,cq,fun b o hr=>(hn b o hr).imp id .inr⟩ (fun b hv=>cg b hv),h.gl.cq cq⟩
end
end Go.Eng
