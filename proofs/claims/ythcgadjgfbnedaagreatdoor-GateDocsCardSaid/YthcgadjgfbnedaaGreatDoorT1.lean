/- Texts of my own, one behind the other: EngFl, XA, XB, XC, XE, XD, XF, XG, XH, XO, XI, XJ, XK, XL, XM, XN, XP, XQ, XR, XS, XU, XV. -/
import Derived.Laws.FloatArith
import Derived.WalkKit
import Derived.Calls
import Derived.Below
import Derived.Laws.OwnMore
import Derived.Lib.Bytealg
import Derived.Orders
import Derived.KernelRfl
import Derived.Laws.IdiomStrings
import Derived.Laws.Entries
import Derived.Laws.BytesString
import Derived.Laws.Strings
import Derived.ChangeKeysEq
import Derived.Laws.StructEq
import Derived.Laws.BytesArg
import Derived.Laws.Cover2
import Derived.Lib.Strings
import Derived.Laws.MakeOwn
import Derived.Laws.CopyRow
import Derived.Sort.Grow
set_option linter.unusedVariables false
set_option linter.unusedSimpArgs false
namespace Go.Eng
abbrev aa:=@decide_eq_true
abbrev ab:=@decide_eq_false
abbrev ae:=@Bool.and_eq_true
abbrev af:=@cond_false
abbrev ah:=@List.getElem?_eq_getElem
abbrev ai:=@List.getD_eq_getElem?_getD
abbrev aj:=@Nat.eq_of_beq_eq_true
abbrev ak:=@List.length_append
abbrev al:=@if_neg
abbrev ao:=@cond_true
abbrev aq:=@if_pos
abbrev ar:=@Int.toNat_natCast
abbrev au:=@of_decide_eq_true
abbrev av:=@List.getElem?_eq_some_iff
abbrev aw:=@List.all_eq_true
abbrev ay:=@List.length_take
abbrev az:=@List.mem_of_getElem?
abbrev aA:=@Option.some.injEq
abbrev aB:=@List.append_assoc
abbrev aC:=@List.mem_cons
abbrev aD:=@List.length_singleton
abbrev aE:=@Option.bind_eq_some_iff
abbrev aF:=@decide_eq_true_eq
abbrev aG:=@Option.map_eq_some_iff
abbrev aH:=@List.getElem?_take
abbrev aI:=@Int.emod_eq_of_lt
abbrev aJ:=@List.length_cons
abbrev aK:=@Bool.not_true
abbrev aL:=@List.length_drop
abbrev aM:=@List.length_nil
abbrev aN:=@Bool.eq_iff_iff
abbrev aO:=@Bool.and_eq_true_iff
abbrev aP:=@List.map_cons
abbrev aQ:=@Bool.not_false
abbrev aR:=@Nat.mul_le_mul_right
abbrev aS:=@List.mem_map
abbrev aT:=@List.getElem?_append_right
abbrev aU:=@Bool.not_or_self
abbrev aV:=@decide_eq_decide
abbrev aW:=@List.drop_of_length_le
abbrev aX:=@Option.ite_none_right_eq_some
abbrev aY:=@List.drop_zero
abbrev aZ:=@UInt64.lt_iff_toNat_lt
abbrev ba:=@Bool.or_not_self
abbrev bc:=@Bool.and_self
abbrev bd:=@Bool.false_eq_true
abbrev bf:=@List.nil_append
abbrev bg:=@List.getElem?_map
abbrev bh:=@List.eq_nil_of_length_eq_zero
abbrev bj:=@List.cons.injEq
abbrev bm:=@List.append_nil
abbrev bn:=@List.length_map
abbrev bo:=@List.map_nil
abbrev bp:=@UInt64.toNat_inj
end Go.Eng
namespace Go.Eng
namespace Fl
def add (a b:Nat):Nat:=(Ieee.double.add a b).getD 0
def kf (a b:Nat):Bool:=(Ieee.double.add a b).isSome
def sub (a b:Nat):Nat:=(Ieee.double.sub a b).getD 0
def nU (a b:Nat):Bool:=(Ieee.double.sub a b).isSome
def mul (a b:Nat):Nat:=(Ieee.double.mul a b).getD 0
def kI (a b:Nat):Bool:=(Ieee.double.mul a b).isSome
def eq (a b:Nat):Bool:=Ieee.double.order a b == some .eq
def lt (a b:Nat):Bool:=Ieee.double.order a b == some .lt
def gt (a b:Nat):Bool:=Ieee.double.order a b == some .gt
def neg (a:Nat):Nat:=a ^^^ 9223372036854775808
def sq (a b c d:Nat):Nat:=sub (mul a c) (mul b d)
def su (a b c d:Nat):Nat:=add (mul a d) (mul b c)
def sr (a b c d:Nat):Bool:=kI a c&&kI b d&&nU (mul a c) (mul b d)&&(kI a d&&kI b c&&kf (mul a d) (mul b c))
def ofInt (n:Int):Nat:=FloatKind.f64.nearest n
def vt (a:Nat):Nat:=FloatKind.f64.encode ((FloatKind.f64.decode a).integral .zero)
def num (a:Nat):Bool:=!(FloatKind.f64.decode a).isNaN
def toInt (a:Nat):Int:=(floatToIntVal .f64 a .i64).getD 0
def oM (a:Nat):Bool:=(floatToIntVal .f64 a .i64).isSome
theorem qa {a b:Nat} (h:kf a b=true):Ieee.double.add a b=some (add a b):=by
 unfold kf at h;obtain ⟨x,hx⟩:=Option.isSome_iff_exists.1 h;unfold add;rw [hx];rfl
theorem p8 {a b:Nat} (h:nU a b=true):Ieee.double.sub a b=some (sub a b):=by
 unfold nU at h;obtain ⟨x,hx⟩:=Option.isSome_iff_exists.1 h;unfold sub;rw [hx];rfl
theorem p9 {a b:Nat} (h:kI a b=true):Ieee.double.mul a b=some (mul a b):=by
 unfold kI at h;obtain ⟨x,hx⟩:=Option.isSome_iff_exists.1 h;unfold mul;rw [hx];rfl
end Fl
def qN:BinOp→Value→Value→Option Value
 | .add,.float .f64 a,.float .f64 b=>if Fl.kf a b then some (.float .f64 (Fl.add a b)) else none
 | .sub,.float .f64 a,.float .f64 b=>if Fl.nU a b then some (.float .f64 (Fl.sub a b)) else none
 | .mul,.float .f64 a,.float .f64 b=>if Fl.kI a b then some (.float .f64 (Fl.mul a b)) else none
 | .eql,.float .f64 a,.float .f64 b=>some (.bool (Fl.eq a b))
 | .neq,.float .f64 a,.float .f64 b=>some (.bool (!Fl.eq a b))
 | .lss,.float .f64 a,.float .f64 b=>some (.bool (Fl.lt a b))
 | .leq,.float .f64 a,.float .f64 b=>some (.bool (Fl.lt a b || Fl.eq a b))
 | .gtr,.float .f64 a,.float .f64 b=>some (.bool (Fl.gt a b))
 | .geq,.float .f64 a,.float .f64 b=>some (.bool (Fl.gt a b || Fl.eq a b))
 | .add,.complex .f64 a b,.complex .f64 c d=>if Fl.kf a c&&Fl.kf b d then some (.complex .f64 (Fl.add a c) (Fl.add b d)) else none
 | .mul,.complex .f64 a b,.complex .f64 c d=>if Fl.sr a b c d then some (.complex .f64 (Fl.sq a b c d) (Fl.su a b c d)) else none
 | .lss,.string a,.string b=>some (.bool (Op.bytesLess a.toList b.toList))
 | .leq,.string a,.string b=>some (.bool (Op.bytesLess a.toList b.toList || a.toList == b.toList))
 | .gtr,.string a,.string b=>some (.bool (!(Op.bytesLess a.toList b.toList || a.toList == b.toList)))
 | .geq,.string a,.string b=>some (.bool (!Op.bytesLess a.toList b.toList))
 | _,_,_=>none
section
variable {P:Program} {w:World}
theorem iE {a b:Nat} (h:Fl.kf a b=true):(Op.Complex.arith .add .f64 a b).run P w = .ok (Fl.add a b) w:=by
 have e:FloatKind.f64.format.add a b=some (Fl.add a b):=Fl.qa h
 simp [Op.Complex.arith,Op.floatArith,e]
theorem nH {a b:Nat} (h:Fl.nU a b=true):(Op.Complex.arith .sub .f64 a b).run P w = .ok (Fl.sub a b) w:=by
 have e:FloatKind.f64.format.sub a b=some (Fl.sub a b):=Fl.p8 h
 simp [Op.Complex.arith,Op.floatArith,e]
theorem gk {a b:Nat} (h:Fl.kI a b=true):(Op.Complex.arith .mul .f64 a b).run P w = .ok (Fl.mul a b) w:=by
 have e:FloatKind.f64.format.mul a b=some (Fl.mul a b):=Fl.p9 h
 simp [Op.Complex.arith,Op.floatArith,e]
theorem wI {op:BinOp} {t:TypeId} {x y z:Value} (h:qN op x y=some z):(binOp op t x y).run P w = .ok z w:=by
 unfold qN at h
 split at h
 ·rw [aX] at h
  obtain ⟨h1,h⟩:=h
  cases h
  have e:FloatKind.f64.format.add _ _=some (Fl.add _ _):=Fl.qa h1
  simp [binOp,Op.floatArith,e]
 ·rw [aX] at h
  obtain ⟨h1,h⟩:=h
  cases h
  have e:FloatKind.f64.format.sub _ _=some (Fl.sub _ _):=Fl.p8 h1
  simp [binOp,Op.floatArith,e]
 ·rw [aX] at h
  obtain ⟨h1,h⟩:=h
  cases h
  have e:FloatKind.f64.format.mul _ _=some (Fl.mul _ _):=Fl.p9 h1
  simp [binOp,Op.floatArith,e]
 ·cases h;rfl
 ·cases h;rfl
 ·cases h;rfl
 ·cases h;rfl
 ·cases h;rfl
 ·cases h;rfl
 ·rw [aX,ae] at h
  obtain ⟨⟨h1,h2⟩,h⟩:=h
  cases h
  simp [binOp,Op.complexOp,iE h1,iE h2]
 ·rw [aX] at h
  obtain ⟨h1,h⟩:=h
  cases h
  unfold Fl.sr at h1
  simp only [ae] at h1
  obtain ⟨⟨⟨a1,a2⟩,a3⟩,⟨a4,a5⟩,a6⟩:=h1
  simp [binOp,Op.complexOp,Op.Complex.conv,Op.Complex.product,Op.Complex.mul,Op.Complex.sub,Op.Complex.add,gk a1,gk a2,nH a3,gk a4,gk a5,iE a6,Fl.sq,Fl.su]
 ·cases h;rfl
 ·cases h;rfl
 ·cases h;rfl
 ·cases h;rfl
 ·cases h
theorem sb {op:BinOp} {t:TypeId} {x y:Operand} {u v z:Value} (h:qN op u v=some z):eqGuard op t x y u v=pure ():=by
 unfold qN at h
 split at h <;> first | rfl | cases h
theorem nG {a:Nat}:(Op.unary .neg (.float .f64 a)).run P w = .ok (.float .f64 (Fl.neg a)) w:=rfl
end
end Go.Eng
namespace Go.Eng
abbrev IY:=List UInt8
inductive bx where
 | mk (name:IY) (kind:Int) (bits high low:UInt64) (text more:IY) (sub:Int) (bytes:IY) (kids:List bx)
 deriving Inhabited
structure Val where
 kind:Int
 bits:UInt64
 high:UInt64
 low:UInt64
 text:IY
 more:IY
 sub:Int
 bytes:IY
 kids:List bx
 deriving Inhabited
namespace bx
def name:bx→IY | .mk x _ _ _ _ _ _ _ _ _=>x
def kind:bx→Int | .mk _ x _ _ _ _ _ _ _ _=>x
def bits:bx→UInt64 | .mk _ _ x _ _ _ _ _ _ _=>x
def high:bx→UInt64 | .mk _ _ _ x _ _ _ _ _ _=>x
def low:bx→UInt64 | .mk _ _ _ _ x _ _ _ _ _=>x
def text:bx→IY | .mk _ _ _ _ _ x _ _ _ _=>x
def more:bx→IY | .mk _ _ _ _ _ _ x _ _ _=>x
def sub:bx→Int | .mk _ _ _ _ _ _ _ x _ _=>x
def bytes:bx→IY | .mk _ _ _ _ _ _ _ _ x _=>x
def kids:bx→List bx | .mk _ _ _ _ _ _ _ _ _ x=>x
def val (f:bx):Val:=⟨f.kind,f.bits,f.high,f.low,f.text,f.more,f.sub,f.bytes,f.kids⟩
def of (n:IY) (v:Val):bx := .mk n v.kind v.bits v.high v.low v.text v.more v.sub v.bytes v.kids
end bx
inductive Mem where
 | mk (name:IY) (kind:Int) (text:IY) (kids:List Mem)
 deriving Inhabited
namespace Mem
def name:Mem→IY | .mk x _ _ _=>x
def kind:Mem→Int | .mk _ x _ _=>x
def text:Mem→IY | .mk _ _ x _=>x
def kids:Mem→List Mem | .mk _ _ _ x=>x
end Mem
inductive sD where
 | mk (kind:Int) (n:UInt64) (bytes text:IY) (kids:List sD)
 deriving Inhabited
namespace sD
def kind:sD→Int | .mk x _ _ _ _=>x
def n:sD→UInt64 | .mk _ x _ _ _=>x
def bytes:sD→IY | .mk _ _ x _ _=>x
def text:sD→IY | .mk _ _ _ x _=>x
def kids:sD→List sD | .mk _ _ _ _ x=>x
end sD
namespace sD
end sD
structure D7 where
 at_:Int
 end_:Int
 deriving Inhabited
structure Out where
 at_:Int
 bytes:IY
 Eu:List (List Int)
 err:Int
 H9:Int
 path:List Int
 deriving Inhabited
structure bA where
 b:IY
 at_:Int
 deriving Inhabited
structure rI where
 b:IY
 deriving Inhabited
structure cq where
 err:Int
 at_:Int
 path:List Int
 deriving Inhabited
structure eK where
 depth:Int
 size:Int
 out:Int
 deriving Inhabited
abbrev Cx:=Nat × Nat
structure Qd where
 c0:Cx
 c1:Cx
 c2:Cx
 c3:Cx
 deriving Inhabited
inductive ez where
 | bs | is | ws | ss | mh | fl | ml | il | sp | ou | us | qd | J7 | vl
 deriving DecidableEq,Inhabited
abbrev ez.El:ez→Type
 | .bs=>UInt8
 | .is=>Int
 | .ws=>UInt16
 | .ss=>IY
 | .mh=>List Int
 | .fl=>bx
 | .ml=>Mem
 | .il=>sD
 | .sp=>D7
 | .ou=>Out
 | .us=>UInt64
 | .qd=>Qd
 | .J7=>IY
 | .vl=>Val
def ez.size:ez→Nat
 | .fl=>10
 | .ml=>4
 | .il=>5
 | .sp=>2
 | .ou=>6
 | .qd=>4
 | .vl=>9
 | _=>1
def ez.iH:(t:ez)→t.El
 | .bs=>0
 | .is=>0
 | .ws=>0
 | .ss=>[]
 | .mh=>[]
 | .fl => .mk [] 0 0 0 0 [] [] 0 [] []
 | .ml => .mk [] 0 [] []
 | .il => .mk 0 0 [] [] []
 | .sp=>⟨0,0⟩
 | .ou=>⟨0,[],[],0,0,[]⟩
 | .us=>0
 | .qd=>⟨(0,0),(0,0),(0,0),(0,0)⟩
 | .J7=>[]
 | .vl=>⟨0,0,0,0,[],[],0,[],[]⟩
inductive TV where
 | u8 (n:UInt8)
 | u16 (n:UInt16)
 | u32 (n:UInt32)
 | u64 (n:UInt64)
 | i (k:IntKind) (n:Int)
 | b (x:Bool)
 | s (l:IY)
 | sl (t:ez) (l:List t.El)
 | ag (l:List TV)
 | tu (l:List TV)
 | ro (x:TV)
 | gd (c:Bool) (x:TV)
 | c (x:Value)
 | pt
 | dead
 | el (p z q:Nat)
 | nl (t:ez)
 | ub (e:Bool)
 deriving Inhabited
def Val.cells (v:Val):List TV:=[.i .i64 v.kind,.u64 v.bits,.u64 v.high,.u64 v.low,.s v.text,.s v.more,.i .i64 v.sub,.sl .bs v.bytes,.sl .fl v.kids]
def bx.cells (f:bx):List TV:=[.s f.name,.i .i64 f.kind,.u64 f.bits,.u64 f.high,.u64 f.low,.s f.text,.s f.more,.i .i64 f.sub,.sl .bs f.bytes,.sl .fl f.kids]
def Mem.cells (f:Mem):List TV:=[.s f.name,.i .i64 f.kind,.s f.text,.sl .ml f.kids]
def sD.cells (f:sD):List TV:=[.i .i64 f.kind,.u64 f.n,.sl .bs f.bytes,.s f.text,.sl .il f.kids]
def D7.cells (f:D7):List TV:=[.i .i64 f.at_,.i .i64 f.end_]
def Out.cells (f:Out):List TV:=[.i .i64 f.at_,.sl .bs f.bytes,.sl .mh f.Eu,.i .i64 f.err,.i .i64 f.H9,.sl .is f.path]
def bA.cells (f:bA):List TV:=[.sl .bs f.b,.i .i64 f.at_]
def rI.cells (f:rI):List TV:=[.sl .bs f.b]
def cq.cells (f:cq):List TV:=[.i .i64 f.err,.i .i64 f.at_,.sl .is f.path]
def eK.cells (f:eK):List TV:=[.i .i64 f.depth,.i .i64 f.size,.i .i64 f.out]
def Qd.cells (x:Qd):List TV:=[.c (.complex .f64 x.c0.1 x.c0.2),.c (.complex .f64 x.c1.1 x.c1.2),.c (.complex .f64 x.c2.1 x.c2.2),.c (.complex .f64 x.c3.1 x.c3.2)]
def ez.tv:(t:ez)→t.El→TV
 | .bs,x => .u8 x
 | .is,x => .i .i64 x
 | .ws,x => .u16 x
 | .ss,x => .s x
 | .mh,x => .sl .is x
 | .fl,x => .ag (bx.cells x)
 | .ml,x => .ag (Mem.cells x)
 | .il,x => .ag (sD.cells x)
 | .sp,x => .ag (D7.cells x)
 | .ou,x => .ag (Out.cells x)
 | .us,x => .u64 x
 | .qd,x => .ag (Qd.cells x)
 | .J7,x => .sl .bs x
 | .vl,x => .ag (Val.cells x)
def ez.el:(t:ez)→TV→Option t.El
 | .bs,.u8 x=>some x
 | .is,.i .i64 x=>some x
 | .ws,.u16 x=>some x
 | .ss,.s x=>some x
 | .mh,.sl .is x=>some x
 | .fl,.ag [.s n,.i .i64 k,.u64 b,.u64 h,.u64 l,.s t,.s m,.i .i64 s,.sl .bs y,.sl .fl ks]=>some (.mk n k b h l t m s y ks)
 | .ml,.ag [.s n,.i .i64 k,.s t,.sl .ml ks]=>some (.mk n k t ks)
 | .il,.ag [.i .i64 k,.u64 n,.sl .bs b,.s t,.sl .il ks]=>some (.mk k n b t ks)
 | .sp,.ag [.i .i64 a,.i .i64 e]=>some ⟨a,e⟩
 | .us,.u64 x=>some x
 | .qd,.ag [.c (.complex .f64 a b),.c (.complex .f64 c d),.c (.complex .f64 e f),.c (.complex .f64 g h)]=>some ⟨(a,b),(c,d),(e,f),(g,h)⟩
 | .ou,.ag [.i .i64 a,.sl .bs b,.sl .mh l,.i .i64 e,.i .i64 f,.sl .is p]=>some ⟨a,b,l,e,f,p⟩
 | .J7,.sl .bs x=>some x
 | .vl,.ag [.i .i64 k,.u64 b,.u64 h,.u64 l,.s t,.s m,.i .i64 s,.sl .bs y,.sl .fl ks]=>some ⟨k,b,h,l,t,m,s,y,ks⟩
 | _,_=>none
theorem ez.zP {t:ez} {x:TV} {y:t.El} (h:t.el x=some y):t.tv y=x:=by
 unfold ez.el at h
 split at h <;> cases h <;> rfl
end Go.Eng
namespace Go.Eng
abbrev OT:=Option (List TV)
end Go.Eng
namespace Go.Eng
def intBitsV (o:BinOp) (k:IntKind) (x y:Int):Int :=
 let a:=BitVec.ofInt k.bits x
 let b:=BitVec.ofInt k.bits y
 match o with
 | .and=>k.wrap (a &&& b).toNat
 | .or=>k.wrap (a ||| b).toNat
 | .xor=>k.wrap (a ^^^ b).toNat
 | _=>k.wrap (a &&& ~~~b).toNat
inductive iV where
 | ok (ws:List TV)
 | eC (p:Bool) (ws:List TV)
 | err
abbrev ck {R:Type} (p:Bool) (x:Option R):Option R:=cond p x none
theorem eQ {R:Type} (x:Option R):ck true x=x:=rfl
def ta (k:IntKind) (n:Int):TV :=
 match k with
 | .u8 => .u8 (UInt8.ofInt n)
 | .u16 => .u16 (UInt16.ofInt n)
 | .u32 => .u32 (UInt32.ofInt n)
 | .u64 => .u64 (UInt64.ofInt n)
 | k => .i k (k.wrap n)
def TV.int?:TV→Option (IntKind × Int)
 | .u8 n=>some (.u8,n.toNat)
 | .u16 n=>some (.u16,n.toNat)
 | .u32 n=>some (.u32,n.toNat)
 | .u64 n=>some (.u64,n.toNat)
 | .i k n=>some (k,n)
 | _=>none
def Bt (o:BinOp) (a b:UInt8):iV :=
 match o with
 | .add => .ok [.u8 (a+b)]
 | .sub => .ok [.u8 (a - b)]
 | .mul => .ok [.u8 (a * b)]
 | .quo => .eC (!decide (b=0)) [.u8 (a / b)]
 | .rem => .eC (!decide (b=0)) [.u8 (a % b)]
 | .and => .ok [.u8 (a &&& b)]
 | .or => .ok [.u8 (a ||| b)]
 | .xor => .ok [.u8 (a ^^^ b)]
 | .andNot => .ok [.u8 (a &&& ~~~b)]
 | .eql => .ok [.b (decide (a=b))]
 | .neq => .ok [.b (!decide (a=b))]
 | .lss => .ok [.b (decide (a<b))]
 | .leq => .ok [.b (decide (a≤b))]
 | .gtr => .ok [.b (decide (b<a))]
 | .geq => .ok [.b (decide (b≤a))]
 | _ => .err
def Ai (a:UInt8) (n:Nat):UInt8:=UInt8.ofNat (a.toNat * 2 ^ n)
def Ag (a:UInt8) (n:Nat):UInt8:=UInt8.ofNat (a.toNat / 2 ^ n)
def xo (o:BinOp) (a b:UInt16):iV :=
 match o with
 | .add => .ok [.u16 (a+b)]
 | .sub => .ok [.u16 (a - b)]
 | .mul => .ok [.u16 (a * b)]
 | .quo => .eC (!decide (b=0)) [.u16 (a / b)]
 | .rem => .eC (!decide (b=0)) [.u16 (a % b)]
 | .and => .ok [.u16 (a &&& b)]
 | .or => .ok [.u16 (a ||| b)]
 | .xor => .ok [.u16 (a ^^^ b)]
 | .andNot => .ok [.u16 (a &&& ~~~b)]
 | .eql => .ok [.b (decide (a=b))]
 | .neq => .ok [.b (!decide (a=b))]
 | .lss => .ok [.b (decide (a<b))]
 | .leq => .ok [.b (decide (a≤b))]
 | .gtr => .ok [.b (decide (b<a))]
 | .geq => .ok [.b (decide (b≤a))]
 | _ => .err
def vI (a:UInt16) (n:Nat):UInt16:=UInt16.ofNat (a.toNat * 2 ^ n)
def vE (a:UInt16) (n:Nat):UInt16:=UInt16.ofNat (a.toNat / 2 ^ n)
def xm (o:BinOp) (a b:UInt32):iV :=
 match o with
 | .add => .ok [.u32 (a+b)]
 | .sub => .ok [.u32 (a - b)]
 | .mul => .ok [.u32 (a * b)]
 | .quo => .eC (!decide (b=0)) [.u32 (a / b)]
 | .rem => .eC (!decide (b=0)) [.u32 (a % b)]
 | .and => .ok [.u32 (a &&& b)]
 | .or => .ok [.u32 (a ||| b)]
 | .xor => .ok [.u32 (a ^^^ b)]
 | .andNot => .ok [.u32 (a &&& ~~~b)]
 | .eql => .ok [.b (decide (a=b))]
 | .neq => .ok [.b (!decide (a=b))]
 | .lss => .ok [.b (decide (a<b))]
 | .leq => .ok [.b (decide (a≤b))]
 | .gtr => .ok [.b (decide (b<a))]
 | .geq => .ok [.b (decide (b≤a))]
 | _ => .err
def lL (a:UInt32) (n:Nat):UInt32:=UInt32.ofNat (a.toNat * 2 ^ n)
def vC (a:UInt32) (n:Nat):UInt32:=UInt32.ofNat (a.toNat / 2 ^ n)
def xk (o:BinOp) (a b:UInt64):iV :=
 match o with
 | .add => .ok [.u64 (a+b)]
 | .sub => .ok [.u64 (a - b)]
 | .mul => .ok [.u64 (a * b)]
 | .quo => .eC (!decide (b=0)) [.u64 (a / b)]
 | .rem => .eC (!decide (b=0)) [.u64 (a % b)]
 | .and => .ok [.u64 (a &&& b)]
 | .or => .ok [.u64 (a ||| b)]
 | .xor => .ok [.u64 (a ^^^ b)]
 | .andNot => .ok [.u64 (a &&& ~~~b)]
 | .eql => .ok [.b (decide (a=b))]
 | .neq => .ok [.b (!decide (a=b))]
 | .lss => .ok [.b (decide (a<b))]
 | .leq => .ok [.b (decide (a≤b))]
 | .gtr => .ok [.b (decide (b<a))]
 | .geq => .ok [.b (decide (b≤a))]
 | _ => .err
def nW (a:UInt64) (n:Nat):UInt64:=UInt64.ofNat (a.toNat * 2 ^ n)
def lK (a:UInt64) (n:Nat):UInt64:=UInt64.ofNat (a.toNat / 2 ^ n)
def iV.holds:iV→List TV→Prop
 | .ok ws,r=>r=ws
 | .eC p ws,r=>p=true∧r=ws
 | .err,_=>False
def Br (o:BinOp) (k:IntKind) (a b:Int):iV :=
 match o with
 | .add => .ok [.i k (k.wrap (a+b))]
 | .sub => .ok [.i k (k.wrap (a - b))]
 | .mul => .ok [.i k (k.wrap (a * b))]
 | .quo => .eC (!decide (b=0)) [.i k (k.wrap (a.tdiv b))]
 | .rem => .eC (!decide (b=0)) [.i k (a.tmod b)]
 | .and => .ok [.i k (intBitsV .and k a b)]
 | .or => .ok [.i k (intBitsV .or k a b)]
 | .xor => .ok [.i k (intBitsV .xor k a b)]
 | .andNot => .ok [.i k (intBitsV .andNot k a b)]
 | .eql => .ok [.b (decide (a=b))]
 | .neq => .ok [.b (!decide (a=b))]
 | .lss => .ok [.b (decide (a<b))]
 | .leq => .ok [.b (decide (a≤b))]
 | .gtr => .ok [.b (decide (b<a))]
 | .geq => .ok [.b (decide (b≤a))]
 | _ => .err
def Bq (o:BinOp) (a b:IY):iV :=
 match o with
 | .add => .eC (decide (a.length+b.length≤9223372036854775807)) [.s (a++b)]
 | .eql => .ok [.b (decide (a=b))]
 | .neq => .ok [.b (!decide (a=b))]
 | .lss => .ok [.b (Op.bytesLess a b)]
 | .leq => .ok [.b (Op.bytesLess a b || decide (a=b))]
 | .gtr => .ok [.b (!(Op.bytesLess a b || decide (a=b)))]
 | .geq => .ok [.b (!Op.bytesLess a b)]
 | _ => .err
def TV.count:TV→Option (Option Bool × Nat)
 | .u8 n=>some (none,n.toNat)
 | .u16 n=>some (none,n.toNat)
 | .u32 n=>some (none,n.toNat)
 | .u64 n=>some (none,n.toNat)
 | .i _ n=>some (some (decide (0≤n)),n.toNat)
 | _=>none
def iV.under (p:Option Bool) (ws:List TV):iV :=
 match p with
 | none => .ok ws
 | some p => .eC p ws
def Ah (x y:TV):iV :=
 match y.count with
 | some (p,n)=>match x with
  | .u8 a => .under p [.u8 (Ai a n)]
  | .u16 a => .under p [.u16 (vI a n)]
  | .u32 a => .under p [.u32 (lL a n)]
  | .u64 a => .under p [.u64 (nW a n)]
  | .i k a => .under p [.i k (k.wrap (a * 2 ^ (min n k.bits)))]
  | _ => .err
 | none => .err
def Af (x y:TV):iV :=
 match y.count with
 | some (p,n)=>match x with
  | .u8 a => .under p [.u8 (Ag a n)]
  | .u16 a => .under p [.u16 (vE a n)]
  | .u32 a => .under p [.u32 (vC a n)]
  | .u64 a => .under p [.u64 (lK a n)]
  | .i k a => .under p [.i k (a.fdiv (2 ^ (min n k.bits)))]
  | _ => .err
 | none => .err
def mi:BinOp→Option Bool
 | .shl=>some true
 | .shr=>some false
 | _=>none
def A4 (o:BinOp) (x y:Value):iV :=
 match o,x,y with
 | .add,.float .f64 a,.float .f64 b => .eC (Fl.kf a b) [.c (.float .f64 (Fl.add a b))]
 | .sub,.float .f64 a,.float .f64 b => .eC (Fl.nU a b) [.c (.float .f64 (Fl.sub a b))]
 | .mul,.float .f64 a,.float .f64 b => .eC (Fl.kI a b) [.c (.float .f64 (Fl.mul a b))]
 | .eql,.float .f64 a,.float .f64 b => .ok [.b (Fl.eq a b)]
 | .neq,.float .f64 a,.float .f64 b => .ok [.b (!Fl.eq a b)]
 | .lss,.float .f64 a,.float .f64 b => .ok [.b (Fl.lt a b)]
 | .leq,.float .f64 a,.float .f64 b => .ok [.b (Fl.lt a b || Fl.eq a b)]
 | .gtr,.float .f64 a,.float .f64 b => .ok [.b (Fl.gt a b)]
 | .geq,.float .f64 a,.float .f64 b => .ok [.b (Fl.gt a b || Fl.eq a b)]
 | .add,.complex .f64 a b,.complex .f64 c d => .eC (Fl.kf a c&&Fl.kf b d) [.c (.complex .f64 (Fl.add a c) (Fl.add b d))]
 | .mul,.complex .f64 a b,.complex .f64 c d => .eC (Fl.sr a b c d) [.c (.complex .f64 (Fl.sq a b c d) (Fl.su a b c d))]
 | _,_,_ => .err
def yT (o:BinOp) (x y:TV):iV :=
 match mi o with
 | some true=>Ah x y
 | some false=>Af x y
 | none=>match x,y with
  | .u8 a,.u8 b=>Bt o a b
  | .u16 a,.u16 b=>xo o a b
  | .u32 a,.u32 b=>xm o a b
  | .u64 a,.u64 b=>xk o a b
  | .i k a,.i k' b=>if k=k' then Br o k a b else .err
  | .s a,.s b=>Bq o a b
  | .c a,.c b=>A4 o a b
  | _,_ => .err
def DD (o:UnOp) (x:TV):iV :=
 match o,x with
 | .neg,.u8 a => .ok [.u8 (0 - a)]
 | .neg,.u16 a => .ok [.u16 (0 - a)]
 | .neg,.u32 a => .ok [.u32 (0 - a)]
 | .neg,.u64 a => .ok [.u64 (0 - a)]
 | .neg,.i k a => .ok [.i k (k.wrap (0 - a))]
 | .xor,.u8 a => .ok [.u8 (~~~a)]
 | .xor,.u16 a => .ok [.u16 (~~~a)]
 | .xor,.u32 a => .ok [.u32 (~~~a)]
 | .xor,.u64 a => .ok [.u64 (~~~a)]
 | .xor,.i k a => .ok [.i k (intBitsV .xor k (if k.signed then -1 else k.max) a)]
 | .not,.b a => .ok [.b !a]
 | .neg,.c (.float .f64 a) => .ok [.c (.float .f64 (Fl.neg a))]
 | _,_ => .err
def TV.lV:TV→Bool
 | .ag _=>true
 | _=>false
def TV.cells:TV→List TV
 | .ag cs=>cs
 | x=>[x]
def TV.plain:TV→Bool
 | .u8 _=>true
 | .u16 _=>true
 | .u32 _=>true
 | .u64 _=>true
 | .i _ _=>true
 | .b _=>true
 | .s _=>true
 | .sl _ _=>true
 | .nl _=>true
 | .ag _=>true
 | .ro _=>true
 | .c x=>x.oneCell'
 | _=>false
def iy (cs:List TV) (o n:Nat) (agg:Bool):Option TV :=
 match agg with
 | true=>cond (Nat.ble (o+n) cs.length) (some (.ag ((cs.drop o).take n))) none
 | false=>cs[o]?
def eg (cs:List TV) (o:Nat) (xs:List TV):List TV:=cs.take o++xs++cs.drop (o+xs.length)
def TV.Cu:TV→Bool
 | .pt=>true
 | x=>x.plain
def jG (z:List TV):List (Nat × Nat)→List TV→OT
 | [],[]=>some z
 | (o,n) :: pl,x :: xs=>cond (x.Cu&&Nat.beq x.cells.length n&&Nat.ble (o+n) z.length) (jG (eg z o x.cells) pl xs) none
 | _,_=>none
def oX (e:TV) (o n:Nat) (agg:Bool):Option TV :=
 match e with
 | .ag cs=>iy cs o n agg
 | x=>cond (Nat.beq o 0&&Nat.beq n 1&&!agg) (some x) none
def rU (e:TV) (o:Nat) (x:TV):Option TV :=
 match e with
 | .ag cs=>cond (Nat.ble (o+x.cells.length) cs.length) (some (.ag (eg cs o x.cells))) none
 | _=>cond (Nat.beq o 0&&!x.lV) (some x) none
def ez.app:(t:ez)→List t.El→(t':ez)→List t'.El→Option (List t.El)
 | .bs,l,.bs,m=>some (l++m)
 | .is,l,.is,m=>some (l++m)
 | .ws,l,.ws,m=>some (l++m)
 | .ss,l,.ss,m=>some (l++m)
 | .mh,l,.mh,m=>some (l++m)
 | .fl,l,.fl,m=>some (l++m)
 | .ml,l,.ml,m=>some (l++m)
 | .il,l,.il,m=>some (l++m)
 | .sp,l,.sp,m=>some (l++m)
 | .ou,l,.ou,m=>some (l++m)
 | .us,l,.us,m=>some (l++m)
 | .qd,l,.qd,m=>some (l++m)
 | .J7,l,.J7,m=>some (l++m)
 | .vl,l,.vl,m=>some (l++m)
 | _,_,_,_=>none
def ez.rH (t:ez):List TV→Option (List t.El)
 | []=>some []
 | x :: r=>match t.el x with
  | some y=>match t.rH r with
   | some l=>some (y :: l)
   | none=>none
  | none=>none
def allM {A:Type} (f:TV→Option A):List TV→Option (List A)
 | []=>some []
 | x :: r=>match f x with
  | some y=>match allM f r with
   | some l=>some (y :: l)
   | none=>none
  | none=>none
def TV.str?:TV→Option IY | .s l=>some l | _=>none
def TV.i64?:TV→Option Int | .i .i64 l=>some l | _=>none
def TV.u8?:TV→Option UInt8 | .u8 l=>some l | _=>none
def TV.u64?:TV→Option UInt64 | .u64 l=>some l | _=>none
def TV.bool?:TV→Option Bool | .b l=>some l | _=>none
def TV.cx?:TV→Option Cx | .c (.complex .f64 x y)=>some (x,y) | _=>none
def TV.sl? (t:ez):TV→Option (List t.El)
 | .sl t' l=>if h:t'=t then some (h ▸ l) else none
 | _=>none
def va (cs:List TV) (n:Nat):Option TV :=
 match cs with
 | .s _ :: _=>match allM TV.str? cs with | some l=>some (.s (l.getD n [])) | none=>none
 | .i _ _ :: _=>match allM TV.i64? cs with | some l=>some (.i .i64 (l.getD n 0)) | none=>none
 | .u8 _ :: _=>match allM TV.u8? cs with | some l=>some (.u8 (l.getD n 0)) | none=>none
 | .u64 _ :: _=>match allM TV.u64? cs with | some l=>some (.u64 (l.getD n 0)) | none=>none
 | .b _ :: _=>match allM TV.bool? cs with | some l=>some (.b (l.getD n false)) | none=>none
 | .c (.func _ _ _) :: _=>cs[n]?
 | .c _ :: _=>match allM TV.cx? cs with | some l=>some (.c (.complex .f64 (List.getD l n (0,0)).1 (List.getD l n (0,0)).2)) | none=>none
 | .sl t _ :: _=>match allM (TV.sl? t) cs with | some l=>some (.sl t (l.getD n [])) | none=>none
 | _=>none
def Bl (s m j:Nat) (cs:List TV):List TV:=(List.range m).map fun q=>cs.getD (q * s+j) .dead
def qW (s m n:Nat) (cs:List TV):Nat→OT
 | 0=>some []
 | j+1=>match va (Bl s m (s - (j+1)) cs) n with
  | some x=>match qW s m n cs j with
   | some xs=>some (x :: xs)
   | none=>none
  | none=>none
def lM (n:Nat):Bool:=decide (n≤maxLen)
def dj (n:Int) (l:Nat):Bool:=decide (0≤n)&&decide (n<l)
def dV (a b:Int) (l:Nat):Bool:=decide (0≤a)&&decide (a≤b)&&decide (b≤l)
def eO (n jU:Nat):Bool:=decide (n≤maxLen)&&decide (n * jU≤140737488355328)
def As (l c:Int) (jU:Nat):Bool:=decide (0≤l)&&decide (l≤c)&&decide (c * jU≤140737488355328)&&decide (c≤maxLen)
def TV.bare:TV→TV
 | .gd _ x=>x
 | x=>x
def TV.xd:TV→Option Bool
 | .gd q _=>some q
 | _=>none
def vQ (t:Bool) (x y:TV):Option TV :=
 match x,y with
 | .b a,.b b=>some (.b (cond t a b))
 | .i k a,.i k' b=>if k=k' then some (.i k (cond t a b)) else none
 | .u8 a,.u8 b=>some (.u8 (cond t a b))
 | .u16 a,.u16 b=>some (.u16 (cond t a b))
 | .u32 a,.u32 b=>some (.u32 (cond t a b))
 | .u64 a,.u64 b=>some (.u64 (cond t a b))
 | .s a,.s b=>some (.s (cond t a b))
 | _,_=>none
def sU (t:Bool) (x y:TV):iV :=
 match vQ t x.bare y.bare with
 | some z=>match x.xd,y.xd with
  | none,none => .ok [z]
  | some p,none => .eC (!t || p) [z]
  | none,some q => .eC (t || q) [z]
  | some p,some q => .eC (cond t p q) [z]
 | none => .err
def rM {A:Type}:Nat→List A→Nat→A→List A
 | _,[],_,_=>[]
 | j,p :: r,i,q=>cond (Nat.beq j i) q p :: rM (j+1) r i q
def Fk (p:Cx):TV := .c (.complex .f64 p.1 p.2)
def JU {A:Type} (g:A→TV):List A→List TV
 | []=>[]
 | p :: r=>g p :: JU g r
def DN (cs:List TV) (i:Nat) (x:TV):OT :=
 match x with
 | .u64 q=>match allM TV.u64? cs with
  | some l=>some (JU .u64 (rM 0 l i q))
  | none=>none
 | x=>match x.cx?,allM TV.cx? cs with
  | some q,some l=>some (JU Fk (rM 0 l i q))
  | _,_=>none
end Go.Eng
namespace Go.Eng
inductive Gh where
 | no | hid | zz | ptr (m o:Nat) | cM (k:Nat) | pe (k:Nat) | vc (l:List (Nat × Nat)) | ow (ts:List (Nat × Nat)) | cl (ts:List (Nat × Nat)) | pv | lv | us | pw (d:Nat) | pc (r:Nat)
 deriving DecidableEq,Inhabited
abbrev Cell:=TV × Gh
abbrev St:=Nat→Cell
inductive Md where
 | pl | rf | sl | sm | gv
 deriving DecidableEq,Inhabited
inductive FK where
 | pl | wr (i c:Nat) (e:Bool) | nw (c:Option Nat)
 deriving Inhabited
structure cg where
 md:List Md:=[]
 bC:Nat:=1
 own:List Nat:=[]
 kd:FK := .pl
 raw:Bool:=false
abbrev eE:=List TV→iV
structure cz where
 fs:Nat→eE × cg
 ty:Nat→Option (ez × Nat)
 z:Nat→OT
 ld:List Nat:=[]
def nrm:TV→TV
 | .nl t => .sl t []
 | x=>x
def Cs:TV→TV
 | .nl t => .sl t []
 | .ag cs => .ag (cs.map nrm)
 | x=>x
def Az (k:IntKind) (n:Int):Option TV :=
 match k with
 | .u8=>cond (decide (0≤n)&&decide (n<256)) (some (.u8 (UInt8.ofNat n.toNat))) none
 | .u16=>cond (decide (0≤n)&&decide (n<65536)) (some (.u16 (UInt16.ofNat n.toNat))) none
 | .u32=>cond (decide (0≤n)&&decide (n<4294967296)) (some (.u32 (UInt32.ofNat n.toNat))) none
 | .u64=>cond (decide (0≤n)&&decide (n<18446744073709551616)) (some (.u64 (UInt64.ofNat n.toNat))) none
 | k=>some (.i k n)
def Ej:Value→Option TV
 | .bool b=>some (.b b)
 | .int k n=>Az k n
 | .string s=>some (.s s.data.toList)
 | .float k b=>some (.c (.float k b))
 | .complex k a b=>some (.c (.complex k a b))
 | .pointer none=>some (.c (.pointer none))
 | .nilFunc=>some (.c .nilFunc)
 | .nilIface=>some (.c .nilIface)
 | _=>none
def sG:Value→TV→Bool
 | .slice none 0 0,.nl _=>true
 | .bool b,.b c=>b == c
 | .int .u8 n,.u8 m=>n == m.toNat
 | .int .u16 n,.u16 m=>n == m.toNat
 | .int .u32 n,.u32 m=>n == m.toNat
 | .int .u64 n,.u64 m=>n == m.toNat
 | .int j n,.i k m=>j == k&&n == m
 | .string s,.s l=>s.data.toList == l
 | .float j n,.c (.float k m)=>j == k&&n == m
 | .complex j n n',.c (.complex k m m')=>j == k&&n == m&&n' == m'
 | .pointer none,.c (.pointer none)=>true
 | .nilFunc,.c .nilFunc=>true
 | .nilIface,.c .nilIface=>true
 | _,_=>false
def jm:List Value→List TV→Bool
 | [],[]=>true
 | x :: xs,y :: ys=>sG x y&&jm xs ys
 | _,_=>false
structure dP where
 p:Option Bool
 x:Cell
 ws:List (Nat × Cell):=[]
def dP.ok (x:TV) (g:Gh := .no) (ws:List (Nat × Cell):=[]):Option dP:=some ⟨none,(x,g),ws⟩
def dP.eC (p:Bool) (x:TV) (g:Gh := .no) (ws:List (Nat × Cell):=[]):Option dP:=some ⟨some p,(x,g),ws⟩
def iV.zR (r:iV):Option dP :=
 match r with
 | .ok [x]=>dP.ok x
 | .eC p [x]=>dP.eC p x
 | _=>none
def jy (nt:Nat) (V:St) (k:Nat):Bool:=decide ((V k).2 = .no)&&Nat.blt k 1000000&&Nat.ble nt k
def yp (a b:Int):Int:=if b<a then b else a
def yq (a b:Int):Int:=if a<b then b else a
abbrev cX {A:Type} (p:Bool) (x:Option A):Option A:=cond p x none
section
variable (P:Program) (E:cz) (nt:Nat) (own:Nat→Nat) (V:St)
def fm (t:TypeId):Option (Nat × Bool) :=
 (P.info? t).bind fun i=>(P.underlying t).map fun d=>(i.size,match d with | .struct _=>true | .array _ _=>true | _=>false)
def lA (t:TypeId) (f:Nat):Option Field:=(P.underlying t).bind fun d=>match d with | .struct fs=>fs[f]? | _=>none
def wZ (t:TypeId) (v:Value):Option TV :=
 match v with
 | .slice none 0 0=>(E.ty t).map fun p => .nl p.1
 | .agg cs=>(E.z t).bind fun z=>cX (jm cs.toList z) (some (.ag z))
 | v=>Ej v
def dQ (t:TypeId) (o:Operand):Option Cell :=
 match o with
 | .tmp i=>cX (Nat.blt i nt) (match V i with
  | (_,.hid)=>none
  | c=>some c)
 | .const v=>(wZ E t v).map fun x=>(x,.no)
 | .func f=>some (.c (.func (.func f) #[] #[]),.no)
 | .global _=>none
def nC (c:Cell):Option TV :=
 match c with
 | (.pt,.cM k)=>match V k with
  | (y,.pv)=>some y
  | (y,.lv)=>some y
  | (y,.us)=>some y
  | (y,.pw _)=>some y
  | (y,.pc _)=>some y
  | _=>none
 | (x,.no)=>some (Cs x)
 | _=>none
def tq (c:Cell):Option (TV × List (Nat × Cell)) :=
 match c with
 | (.pt,.cM k)=>match V k with
  | (y,.pv)=>some (y,[(k,(y,.lv))])
  | (y,.lv)=>some (y,[])
  | (y,.us)=>cX y.plain (some (y,[]))
  | _=>none
 | (x,.no)=>some (Cs x,[])
 | _=>none
def iC (o n:Nat):List (Nat × Nat)→List TV→Option (List TV × List (Nat × Cell))
 | [],cs=>some (cs,[])
 | (c,k) :: r,cs=>match iC o n r cs with
  | some (cs,ws)=>cond (Nat.ble o c&&Nat.blt c (o+n)) (match tq V (.pt,.cM k) with
   | some (x,us)=>some (cs.set c x,us++ws)
   | none=>none) (some (cs,ws))
  | none=>none
def pr (c:Cell):Option (TV × List (Nat × Cell)) :=
 match c with
 | (.ag cs,.ow ts)=>match iC V 0 cs.length ts cs with
  | some (cs,ws)=>some (.ag (cs.map nrm),ws)
  | none=>none
 | c=>tq V c
def vj:List Cell→Option (List TV × List (Nat × Cell))
 | []=>some ([],[])
 | c :: r=>match pr V c with
  | some (x,ws)=>match vj r with
   | some (xs,us)=>some (x :: xs,ws++us)
   | none=>none
  | none=>none
def jf:List Cell→Option (List Cell × Nat)
 | []=>none
 | [(.pt,.cM k)]=>some ([],k)
 | [_]=>none
 | c :: d :: r=>match jf (d :: r) with
  | some (cs,k)=>some (c :: cs,k)
  | none=>none
def jl (ts:List TypeId) (os:List Operand):Option (List Cell) :=
 match ts,os with
 | [],[]=>some []
 | t :: ts,o :: os=>match dQ E nt V t o with
  | some c=>match jl ts os with
   | some cs=>some (c :: cs)
   | none=>none
  | none=>none
 | _,_=>none
def sT (o n:Nat) (ts:List (Nat × Nat)):List (Nat × Nat):=ts.filter fun t=>Nat.blt t.1 o || Nat.ble (o+n) t.1
def gr (c:Nat):List (Nat × Nat)→Option Nat
 | []=>none
 | (d,k) :: r=>cond (Nat.beq d c) (some k) (gr c r)
def Cm:Cell→Option (TV × List (Nat × Cell))
 | (.ag xs,.no)=>some (.ag xs,[])
 | c=>pr V c
def Bz (rw:Bool) (m:Md) (c:Cell):Option (TV × List (Nat × Cell)) :=
 match m,c with
 | .pl,c=>cond rw (Cm V c) (pr V c)
 | .rf,(.pt,.ptr k 0)=>match V k with
  | (.ag cs,.cl ts)=>match iC V 0 cs.length ts cs with
   | some (cs,ws)=>some (.ag (cs.map nrm),ws)
   | none=>none
  | _=>none
 | .rf,_=>none
 | m,(.pt,.cM k)=>match m,V k with
  | _,(y,.pv)=>some (y,[])
  | .sm,(y,.pc _)=>some (y,[])
  | _,_=>none
 | .sm,(.nl t,.no)=>some (.sl t [],[])
 | .gv,(.nl t,.no)=>some (.sl t [],[])
 | _,_=>none
def ru (rw:Bool) (ms:List Md):List Cell→Option (List TV × List (Nat × Cell))
 | []=>some ([],[])
 | c :: r=>match Bz V rw (ms.headD .pl) c with
  | some (x,ws)=>match ru rw ms.tail r with
   | some (xs,us)=>some (x :: xs,ws++us)
   | none=>none
  | none=>none
def fV:List Md→List TV→List TV→OT
 | [],_,outs=>cX outs.isEmpty (some [])
 | .rf :: ms,_ :: ins,x :: outs=>(fV ms ins outs).map (x :: ·)
 | .sl :: ms,_ :: ins,x :: outs=>(fV ms ins outs).map (x :: ·)
 | .pl :: ms,y :: ins,outs=>(fV ms ins outs).map (y :: ·)
 | .sm :: ms,y :: ins,outs=>(fV ms ins outs).map (y :: ·)
 | .gv :: ms,y :: ins,outs=>(fV ms ins outs).map (y :: ·)
 | _ :: _,_,_=>none
def gJ (m:Md) (c:Cell) (y:TV):Option (Nat × Cell) :=
 match m,c.2 with
 | .rf,.ptr k _=>some (k,(y,.cl []))
 | .sl,.cM k=>some (k,(y,.pv))
 | .sm,.cM k=>some (k,(y,(V k).2))
 | .gv,.cM k=>some (k,(.dead,.zz))
 | _,_=>none
def eD:List Md→List Cell→List TV→List (Nat × Cell)
 | m :: ms,c :: cs,y :: ys=>match gJ V m c y with
  | some p=>p :: eD ms cs ys
  | none=>eD ms cs ys
 | _,_,_=>[]
def pB:List (Nat × Cell)→Bool
 | []=>true
 | (k,_) :: r=>(r.all fun p=>!Nat.beq p.1 k)&&pB r
def jZ (outs:List TV) (i:Nat):Option TV:=cond (Nat.blt i 1000) (outs[i]?) (match outs[0]? with | some (TV.ag cs)=>cs[i - 1000]? | _=>none)
def yn:List Nat→Nat→List TV→Option (List (Nat × Cell))
 | [],_,_=>some []
 | i :: r,j,outs=>match jZ outs i with
  | some x=>cX (jy nt V (own j)) ((yn r (j+1) outs).map ((own j,(x,.pv)) :: ·))
  | none=>none
def DI (l:List Nat):TV→TV
 | .ag cs => .ag (cs.mapIdx fun c y=>cond (l.contains (1000+c)) .pt y)
 | x=>x
def fX (l:List Nat):Bool:=l.all fun i=>Nat.blt i 1000
def km (l:List Nat) (outs:List TV):List TV:=cond (fX l) (outs.mapIdx fun i x=>cond (l.contains i) .pt x) (outs.map (DI l))
def okO (sg:cg):Bool:=fX sg.own || (Nat.beq sg.bC 1&&Nat.beq sg.own.length 1)
def ud (sg:cg) (outs:List TV):Cell :=
 cond (Nat.beq sg.bC 1) (match sg.own with
  | []=>(outs.headD .dead,.no)
  | i :: _=>cond (Nat.blt i 1000) (.pt,.cM (own 0)) ((km sg.own outs).headD .dead,.ow [(i - 1000,own 0)]))
  (.tu (km sg.own outs),cond sg.own.isEmpty .no (.vc (sg.own.mapIdx fun j i=>(i,own j))))
def qZ (sg:cg) (cs:List Cell) (xs:List TV) (ws:List (Nat × Cell)) (p:Option Bool) (outs:List TV):Option dP :=
 cX (Nat.ble sg.bC outs.length&&Nat.blt 0 nt&&okO sg) (match yn nt own V sg.own 0 (outs.take sg.bC),fV sg.md xs (outs.drop sg.bC) with
  | some ns,some ys=>cX (pB (eD V sg.md cs ys)&&(ws.all fun q=>(eD V sg.md cs ys).all fun p=>!Nat.beq p.1 q.1)) (some ⟨p,ud own sg (outs.take sg.bC),eD V sg.md cs ys++(ns++ws)⟩)
  | _,_=>none)
def zo (us:List (Nat × Nat)) (ds:List TV) (c:Nat):Option (TV × List (Nat × Cell)) :=
 match gr c us with
 | some j=>match V j with
  | (y,.pv)=>some (y,[(j,(.dead,.zz))])
  | _=>none
 | none=>match ds[c]? with
  | some (.nl t)=>some (.sl t [],[])
  | _=>none
def uc (n:Nat) (rs:List TV):Cell:=cond (Nat.beq n 1) (rs.headD .dead,.no) (.tu rs,.no)
def Ce (n m c:Nat) (ws:List (Nat × Cell)) (p:Option Bool) (outs:List TV):Option dP :=
 match outs.drop n with
 | [.ag ds,y]=>cX (jy nt V (own 0)) (some ⟨p,uc n (outs.take n),(m,(.ag (ds.set c .pt),.cl [(c,own 0)])) :: (own 0,(y,.pv)) :: ws⟩)
 | _=>none
def Eb (n:Nat) (f:eE) (i c:Nat) (e:Bool) (cs:List Cell):Option dP :=
 match cs[i]? with
 | some (.pt,.ptr m 0)=>match V m with
  | (.ag ds,.cl us)=>match vj V (cs.set i (.dead,.no)),iC V 0 ds.length (cond e (us.filter fun t=>!Nat.beq t.1 c) us) ds,cond e (zo V us ds c) (some (.dead,[])) with
   | some (xs,ws),some (ds,rz),some (y,wj)=>cX (Nat.blt c ds.length&&Nat.blt 0 nt&&(rz++ws).all fun p=>!Nat.beq p.1 m&&wj.all fun q=>!Nat.beq p.1 q.1) (match f (xs.set i (.ag ((ds.map nrm).set c .pt))++[y]) with
    | .ok outs=>Ce nt own V n m c (wj++(rz++ws)) none outs
    | .eC p outs=>Ce nt own V n m c (wj++(rz++ws)) (some p) outs
    | .err=>none)
   | _,_,_=>none
  | _=>none
 | _=>none
def Cr (n:Nat) (oc:Option Nat) (ws:List (Nat × Cell)) (p:Option Bool) (outs:List TV):Option dP :=
 match outs.take n,oc,outs.drop n with
 | .ag ds :: rs,none,[]=>cX (jy nt V (own 0)&&Nat.blt 0 nt) (some ⟨p,cond (Nat.beq n 1) (.pt,.ptr (own 0) 0) (.tu (.pt :: rs),.vc [(0,own 0)]),(own 0,(.ag ds,.cl [])) :: ws⟩)
 | .ag ds :: rs,some c,[y]=>cX (jy nt V (own 0)&&jy nt V (own 1)&&Nat.blt 0 nt) (some ⟨p,cond (Nat.beq n 1) (.pt,.ptr (own 0) 0) (.tu (.pt :: rs),.vc [(0,own 0)]),(own 0,(.ag (ds.set c .pt),.cl [(c,own 1)])) :: (own 1,(y,.pv)) :: ws⟩)
 | _,_,_=>none
def Er (n:Nat) (f:eE) (oc:Option Nat) (cs:List Cell):Option dP :=
 match vj V cs with
 | some (xs,ws)=>match f xs with
  | .ok outs=>Cr nt own V n oc ws none outs
  | .eC p outs=>Cr nt own V n oc ws (some p) outs
  | .err=>none
 | none=>none
def tD (f:Nat) (ts:List TypeId) (args:List Operand):Option dP :=
 match jl E nt V ts args with
 | some cs=>match (E.fs f).2.kd with
  | .pl=>match ru V (E.fs f).2.raw (E.fs f).2.md cs with
   | some (xs,ws)=>match (E.fs f).1 xs with
    | .ok outs=>qZ nt own V (E.fs f).2 cs xs ws none outs
    | .eC p outs=>qZ nt own V (E.fs f).2 cs xs ws (some p) outs
    | .err=>none
   | none=>none
  | .wr i c e=>Eb nt own V (E.fs f).2.bC (E.fs f).1 i c e cs
  | .nw oc=>Er nt own V (E.fs f).2.bC (E.fs f).1 oc cs
 | none=>none
def ym (x:TV) (p:Option Bool) (ws:List (Nat × Cell)):Option dP:=cX (jy nt V (own 0)) (some ⟨p,(.pt,.cM (own 0)),(own 0,(x,.pv)) :: ws⟩)
def sZ (jU:Nat) (k:Nat) (t:ez) (l:List t.El) (st':ez) (m:List st'.El) (ws:List (Nat × Cell)):Option dP :=
 match t.app l st' m with
 | some n=>cX (jy nt V (own 0)) (some ⟨some (eO (l.length+m.length) jU),(.pt,.cM (own 0)),[(own 0,(.sl t n,.pc k)),(k,(.sl t l,.pw (own 0)))]++ws⟩)
 | none=>none
def zb (st:ez) (jU:Nat) (c:Cell) (st':ez) (m:List st'.El):Option dP :=
 match c with
 | (.pt,.cM k)=>match V k with
  | (.sl t l,.pv)=>match E.ld.contains (own 0) with
   | true=>cX (decide (t=st)) (sZ nt own V jU k t l st' m [])
   | false=>match t.app l st' m with
    | some n=>cX (decide (t=st)&&jy nt V (own 0)) (some ⟨some (eO (l.length+m.length) jU),(.pt,.cM (own 0)),[(own 0,(.sl t n,.pv)),(k,(.dead,.zz))]⟩)
    | none=>none
  | (.sl t l,.pw d)=>cX (decide (t=st)) (sZ nt own V jU k t l st' m [(d,(.dead,.zz))])
  | (.sl t l,.lv)=>match t.app l st' m with
   | some n=>cX (decide (t=st)&&jy nt V (own 0)) (some ⟨some (eO (l.length+m.length) jU),(.pt,.cM (own 0)),[(own 0,(.sl t n,.lv)),(k,(.sl t l,.us))]⟩)
   | none=>none
  | _=>none
 | (.nl t,.no)=>cX (decide (t=st')&&decide (t=st)) (ym nt own V (.sl st' m) (some (eO m.length jU)) [])
 | _=>none
def nu (b:Builtin) (ts:List TypeId) (args:List Operand):Option dP :=
 match b,ts,args with
 | .len,[t],[x]=>match P.underlying t,(dQ E nt V t x).bind (nC V) with
  | some (.slice _),some (.sl _ l)=>dP.ok (.i .i64 l.length)
  | some .string,some (.s l)=>dP.ok (.i .i64 l.length)
  | _,_=>none
 | .append,[t,u],[x,y]=>match E.ty t,dQ E nt V t x,P.underlying u,(dQ E nt V u y).bind (nC V) with
  | some (st,jU),some c,some (.slice _),some (.sl st' m)=>zb E nt own V st jU c st' m
  | some (st,jU),some c,some .string,some (.s m)=>zb E nt own V st jU c .bs m
  | _,_,_,_=>none
 | .min,_,[x,y]=>match dQ E nt V 0 x,dQ E nt V 0 y with
  | some (.i k a,.no),some (.i k' b,.no)=>cX (decide (k=k')) (dP.ok (.i k (yp a b)))
  | _,_=>none
 | .max,_,[x,y]=>match dQ E nt V 0 x,dQ E nt V 0 y with
  | some (.i k a,.no),some (.i k' b,.no)=>cX (decide (k=k')) (dP.ok (.i k (yq a b)))
  | _,_=>none
 | .real,_,[x]=>match dQ E nt V 0 x with
  | some (.c (.complex k a _),.no)=>dP.ok (.c (.float k a))
  | _=>none
 | .imag,_,[x]=>match dQ E nt V 0 x with
  | some (.c (.complex k _ b),.no)=>dP.ok (.c (.float k b))
  | _=>none
 | .complex,_,[x,y]=>match dQ E nt V 0 x,dQ E nt V 0 y with
  | some (.c (.float .f64 a),.no),some (.c (.float .f64 b),.no)=>dP.ok (.c (.complex .f64 a b))
  | _,_=>none
 | _,_,_=>none
def wY (s d:TypeId) (x:TV):Option dP :=
 match P.underlying s,P.underlying d with
 | some (.int _),some (.int k)=>match x.int? with
  | some (_,n)=>dP.ok (ta k n)
  | none=>none
 | some (.int _),some (.float .f64)=>match x with
  | .i _ n=>dP.ok (.c (.float .f64 (Fl.ofInt n)))
  | _=>none
 | some (.float .f64),some (.int .i64)=>match x with
  | .c (.float .f64 b)=>dP.eC (Fl.oM b) (.i .i64 (Fl.toInt b))
  | _=>none
 | some .string,some .string=>match x with
  | .s l=>dP.ok (.s l)
  | _=>none
 | some .string,some (.slice e)=>match P.underlying e,x with
  | some (.int .u8),.s l=>ym nt own V (.sl .bs l) (some (lM l.length)) []
  | _,_=>none
 | some (.slice e),some .string=>match P.underlying e,x with
  | some (.int .u8),.sl .bs l=>dP.ok (.s l)
  | _,_=>none
 | _,_=>none
def Bj (t:ez) (l:List t.El) (lo hi:Option Int):Option dP :=
 match lo,hi with
 | some a,some b=>dP.eC (dV a b l.length) (.sl t ((l.take b.toNat).drop a.toNat))
 | some a,none=>dP.eC (dV a l.length l.length) (.sl t (l.drop a.toNat))
 | none,some b=>dP.eC (dV 0 b l.length) (.sl t (l.take b.toNat))
 | none,none=>dP.ok (.sl t l)
def Bi (l:IY) (lo hi:Option Int):Option dP :=
 match lo,hi with
 | some a,some b=>dP.eC (dV a b l.length) (.s ((l.take b.toNat).drop a.toNat))
 | some a,none=>dP.eC (dV a l.length l.length) (.s (l.drop a.toNat))
 | none,some b=>dP.eC (dV 0 b l.length) (.s (l.take b.toNat))
 | none,none=>dP.ok (.s l)
def kp (o:Operand):Option Int :=
 match dQ E nt V 0 o with
 | some (x,.no)=>(x.int?).map (·.2)
 | _=>none
def iB (o:Option Operand):Option (Option Int) :=
 match o with
 | none=>some none
 | some o=>(kp E nt V o).map some
def lU (x:TypeId) (st:ez):Bool:=match E.ty x with | some (st',_)=>Nat.beq st'.size st.size | none=>false
def wW (t:TypeId) (c:Cell) (lo hi:Option Int):Option dP :=
 match pr V c with
 | some (.sl st l,ws)=>cX (lU E t st) ((Bj st l lo hi).map fun e=>{ e with ws:=ws })
 | _=>none
def wc (t:TypeId) (c:Cell):Option dP :=
 match fm P t with
 | some (n,agg)=>cX (agg || Nat.beq n 1) (match c with
  | (.pt,.ptr m o)=>match V m with
   | (.ag cs,.cl ts)=>match agg,gr o ts with
    | false,some k=>dP.ok .pt (.cM k)
    | _,_=>match E.ld.contains (own 0) with
     | true=>cX (agg&&Nat.beq o 0&&Nat.beq n cs.length) (dP.ok (.ag cs) (.ow ts))
     | false=>match iC V o n ts cs with
      | some (cs,ws)=>match iy cs o n agg with
       | some x=>dP.ok x .no ws
       | none=>none
      | none=>none
   | _=>none
  | (.el i s o,.pe k)=>match V k with
   | (.sl t l,g)=>match oX (t.tv (l.getD i t.iH)) o n agg with
    | some x=>cX ((decide (g = .pv) || decide (g = .lv))&&Nat.beq s t.size) (dP.eC (decide (i<l.length)) x)
    | none=>none
   | (.ag cs,.cl [])=>match va cs i with
    | some x=>cX (Nat.beq s 1&&Nat.beq o 0&&Nat.beq n 1&&!agg) (dP.eC (decide (i<cs.length)) x)
    | none=>none
   | _=>none
  | (.ro x,.no)=>cX (x.plain&&(x.lV == agg)&&Nat.beq x.cells.length n) (dP.ok x)
  | _=>none)
 | none=>none
def rJ (t:TypeId) (c v:Cell):Option dP :=
 match fm P t with
 | some (n,_)=>match c with
  | (.pt,.ptr m o)=>match V m with
   | (.ag cs,.cl ts)=>match v with
    | (.pt,.cM k)=>cX (Nat.beq n 1&&Nat.blt o cs.length&&(!Nat.beq k m&&ts.all fun t=>!Nat.beq t.2 m)) (some ⟨none,(.dead,.no),[(m,(.ag (eg cs o [.pt]),.cl ((o,k) :: sT o n ts)))]⟩)
    | (.ag xs,.ow us)=>cX (Nat.beq o 0&&Nat.beq xs.length n&&Nat.beq n cs.length&&us.all fun t=>!Nat.beq t.2 m) (some ⟨none,(.dead,.no),[(m,(.ag xs,.cl us))]⟩)
    | (x,.no)=>cX (x.plain&&Nat.beq x.cells.length n&&Nat.ble (o+n) cs.length&&ts.all fun t=>!Nat.beq t.2 m) (some ⟨none,(.dead,.no),[(m,(.ag (eg cs o x.cells),.cl (sT o n ts)))]⟩)
    | _=>none
   | _=>none
  | (.el i s o,.pe k)=>match pr V v with
   | some (x,ws)=>match V k with
    | (.sl t l,.pv)=>match rU (t.tv (l.getD i t.iH)) o x with
     | some y=>match t.el y with
      | some z=>cX (x.plain&&Nat.beq s t.size&&Nat.beq x.cells.length n&&ws.all fun p=>!Nat.beq p.1 k) (some ⟨some (decide (i<l.length)),(.dead,.no),(k,(.sl t (l.set i z),.pv)) :: ws⟩)
      | none=>none
     | none=>none
    | (.ag cs,.cl [])=>match DN cs i x with
     | some ds=>cX (Nat.beq s 1&&Nat.beq o 0&&Nat.beq n 1&&ws.all fun p=>!Nat.beq p.1 k) (some ⟨some (decide (i<cs.length)),(.dead,.no),(k,(.ag ds,.cl [])) :: ws⟩)
     | none=>none
    | _=>none
   | none=>none
  | _=>none
 | none=>none
def jw (t:TypeId) (j:Nat):Option (Nat × (Nat × TypeId)) :=
 match P.underlying t with
 | some (.struct fs)=>(fs[j]?).bind fun f=>(P.info? f.type).map fun i=>(f.offset,i.size,f.type)
 | some (.array _ e)=>(P.info? e).map fun i=>(j * i.size,i.size,e)
 | _=>none
def jc (t:TypeId):List (Nat × Operand)→Option (List (Nat × (Nat × TypeId)))
 | []=>some []
 | (j,_) :: r=>match jw P t j,jc t r with
  | some q,some l=>some (q :: l)
  | _,_=>none
def Ew (x:TypeId) (c:Cell) (n:Int):Option dP :=
 match P.underlying x,c with
 | some (.slice _),(.pt,.cM k)=>match V k with
  | (.sl t l,.pv)=>cX (lU E x t) (dP.eC (dj n l.length) (.el n.toNat t.size 0) (.pe k))
  | (.sl t l,.lv)=>cX (lU E x t) (dP.eC (dj n l.length) (.ro (t.tv (l.getD n.toNat t.iH))))
  | (.sl t l,.us)=>cX (lU E x t) (dP.eC (dj n l.length) (.ro (t.tv (l.getD n.toNat t.iH))))
  | _=>none
 | some (.slice _),(.sl t l,.no)=>cX (lU E x t) (dP.eC (dj n l.length) (.ro (t.tv (l.getD n.toNat t.iH))))
 | some (.array m e),(.pt,.ptr k 0)=>match V k with
  | (.ag _,.cl _)=>(P.info? e).bind fun i=>dP.eC (dj n m) (.el n.toNat i.size 0) (.pe k)
  | _=>none
 | _,_=>none
def AE:String:=((Extern.BytealgIndexByte.rows[1]?).map Prod.fst).getD ""
def isName:String:=((Extern.BytealgIndexByte.rows[0]?).map Prod.fst).getD ""
def vw:String := "math.archTrunc"
def jI (f:Nat) (nm:String):Bool:=(P.funcs[f]?).any fun fn=>fn.name == nm&&fn.body.isNone&&(fn.origin == "" || fn.origin == nm)
def A8 (f:Nat) (cs:Option (List Cell)):Option dP:=match cs with
 | some [(.c (.float .f64 b),.no)]=>cX (jI P f vw) (dP.eC (Fl.num b) (.c (.float .f64 (Fl.vt b))))
 | some [(.s l,.no),(.u8 c,.no)]=>cX (jI P f AE) (dP.ok (.i .i64 (Lib.indexByte l c)))
 | some [(.sl .bs l,.no),(.u8 c,.no)]=>cX (jI P f isName) (dP.ok (.i .i64 (Lib.indexByte l c)))
 | _=>none
def th (f:Nat):Bool:=match P.funcs[f]? with
 | some fn=>fn.body.isSome
 | none=>true
def s8 (f:Field) (o:Nat):Bool:=f.name != "_" && Nat.beq f.offset o&&match P.underlying f.type with | some (.int .u64)=>true | _=>false
def B6 (t:TypeId) (fs:Array Field) (x y:TV):Option Bool :=
 match fs.toList,x,y with
 | [f,g],.ag [.u64 a,.u64 b],.ag [.u64 c,.u64 d]=>cX (s8 P f 0&&s8 P g 1&&!P.stoodInHeld t&&!P.eqGuardType P.depth t) (some (decide (a=c)&&decide (b=d)))
 | _,_,_=>none
def pZ (ty:TypeId) (op:Op):Option dP :=
 match op with
 | .move x=>(dQ E nt V ty x).map fun c=>⟨none,c,[]⟩
 | .assign x=>(dQ E nt V ty x).map fun c=>⟨none,c,[]⟩
 | .pick c a b=>match dQ E nt V 0 c,dQ E nt V ty a,dQ E nt V ty b with
  | some (.b t,.no),some (x,.no),some (y,.no)=>(sU t x y).zR
  | _,_,_=>none
 | .binOp o t x y u=>match dQ E nt V t x,dQ E nt V u y with
  | some c,some d=>match P.underlying t with
   | some (.slice _)=>match o,nC V c,d with
    | .eql,some (.sl _ l),(.nl _,.no)=>dP.ok (.ub l.isEmpty)
    | _,_,_=>none
   | some .bool=>match o,c,d with
    | .eql,(.b a,.no),(.b b,.no)=>dP.ok (.b (a == b))
    | .neq,(.b a,.no),(.b b,.no)=>dP.ok (.b (!(a == b)))
    | _,_,_=>none
   | some (.struct fs)=>match o,c,d with
    | .eql,(a,.no),(b,.no)=>(B6 P t fs a b).bind fun r=>dP.ok (.b r)
    | .neq,(a,.no),(b,.no)=>(B6 P t fs a b).bind fun r=>dP.ok (.b !r)
    | _,_,_=>none
   | some (.pointer _)=>match o,c,d with
    | .eql,(.pt,.ptr _ _),(.c (.pointer none),.no)=>dP.ok (.b false)
    | .neq,(.pt,.ptr _ _),(.c (.pointer none),.no)=>dP.ok (.b true)
    | _,_,_=>none
   | _=>match c,d with
    | (a,.no),(b,.no)=>(yT o a b).zR
    | _,_=>none
  | _,_=>none
 | .unOp o t x=>match dQ E nt V t x with
  | some (a,.no)=>(DD o a).zR
  | _=>none
 | .convert s d x=>match dQ E nt V s x with
  | some c=>match nC V c with
   | some a=>wY P nt own V s d a
   | none=>none
  | none=>none
 | .call { callee := .builtin b,args,argTypes }=>nu P E nt own V b argTypes.toList args.toList
 | .call { callee := .value (.func f),args,argTypes }=>cond (th P f) (tD E nt own V f argTypes.toList args.toList) (A8 P f (jl E nt V argTypes.toList args.toList))
 | .call { callee := .value (.tmp i),args,argTypes }=>match dQ E nt V 0 (.tmp i) with
  | some (.c (.func (.func f) ⟨[]⟩ ⟨[]⟩),.no)=>tD E nt own V f argTypes.toList args.toList
  | _=>none
 | .indexAddr t x i=>match dQ E nt V t x,kp E nt V i with
  | some c,some n=>Ew P E V t c n
  | _,_=>none
 | .index t x i=>match dQ E nt V t x,kp E nt V i with
  | some (.s l,.no),some n=>match P.underlying t with
   | some .string=>dP.eC (dj n l.length) (.u8 (l.getD n.toNat 0))
   | _=>none
  | some (.ag cs,.no),some n=>match P.underlying t with
   | some (.array m e)=>match fm P e with
    | some (1,false)=>match va cs n.toNat with
     | some x=>cX (Nat.beq m cs.length) (dP.eC (dj n m) x)
     | none=>none
    | some (s,true)=>match qW s m n.toNat cs s with
     | some xs=>cX (Nat.beq (m * s) cs.length) (dP.eC (dj n m) (.ag xs))
     | none=>none
    | _=>none
   | _=>none
  | _,_=>none
 | .field t x f=>match dQ E nt V t x,lA P t f with
  | some (.ag cs,.no),some fl=>match fm P fl.type with
   | some (n,agg)=>match iy cs fl.offset n agg with
    | some x=>cX (agg || Nat.beq n 1) (dP.ok x)
    | none=>none
   | none=>none
  | _,_=>none
 | .fieldAddr t x f=>match dQ E nt V 0 x,lA P t f with
  | some c,some fl=>match fm P fl.type with
   | some (n,agg)=>cX (Nat.blt 0 n) (match c with
    | (.pt,.ptr m o)=>dP.ok .pt (.ptr m (o+fl.offset))
    | (.el i s o,.pe k)=>dP.ok (.el i s (o+fl.offset)) (.pe k)
    | (.ro (.ag cs),.no)=>match iy cs fl.offset n agg with
     | some x=>dP.ok (.ro x)
     | none=>none
    | _=>none)
   | none=>none
  | _,_=>none
 | .nilCheck x=>match dQ E nt V 0 x with
  | some (.pt,.ptr m o)=>dP.ok .pt (.ptr m o)
  | some (.ro x,.no)=>dP.ok (.ro x)
  | _=>none
 | .extract x i=>match dQ E nt V 0 x with
  | some (.tu vs,.no)=>(vs[i]?).bind dP.ok
  | some (.tu vs,.vc l)=>match gr i l with
   | some k=>match V k with
    | (_,.pv)=>dP.ok .pt (.cM k)
    | (.ag _,.cl _)=>dP.ok .pt (.ptr k 0)
    | _=>none
   | none=>(vs[i]?).bind dP.ok
  | _=>none
 | .load t x=>match dQ E nt V 0 x with
  | some c=>wc P E own V t c
  | none=>none
 | .store t x v=>match dQ E nt V 0 x,dQ E nt V t v with
  | some c,some d=>rJ P V t c d
  | _,_=>none
 | .slice t x lo hi none=>match P.underlying t,dQ E nt V t x,iB E nt V lo,iB E nt V hi with
  | some .string,some (.s l,.no),some a,some b=>Bi l a b
  | some (.slice _),some c,some a,some b=>match c,a,b with
   | (.pt,.cM k),none,some n=>match V k with
    | (.sl st l,.pv)=>cX (lU E t st&&jy nt V (own 0)) (some ⟨some (dV 0 n l.length),(.pt,.cM (own 0)),[(own 0,(.sl st (l.take n.toNat),.pv)),(k,(.dead,.zz))]⟩)
    | _=>wW E V t c a b
   | _,_,_=>wW E V t c a b
  | _,_,_,_=>none
 | .buildSlice t n parts=>match E.ty t,P.underlying t with
  | some (st,_),some (.slice e)=>match jl E nt V (parts.toList.map fun _=>e) (parts.toList.map (·.2)) with
   | some cs=>match vj V cs with
    | some (xs,ws)=>match st.rH xs with
     | some l=>cX (Nat.beq n parts.size&&Nat.ble (n * st.size) 16777216&&decide (parts.toList.map (·.1)=List.range n)) (ym nt own V (.sl st l) none ws)
     | none=>none
    | none=>none
   | none=>none
  | _,_=>none
 | .build t parts=>match E.z t,jc P t parts.toList with
  | some z,some pl=>match jl E nt V (pl.map (·.2.2)) (parts.toList.map (·.2)) with
   | some cs=>match E.ld.contains (own 0),jf cs with
    | true,some (pC,k)=>match vj V pC with
     | some (xs,ws)=>match jG z (pl.map fun q=>(q.1,q.2.1)) (xs++[.pt]),pl.getLast? with
      | some ds,some q=>cX (xs.all TV.plain&&(Nat.beq q.2.1 1&&ws.all fun p=>!Nat.beq p.1 k)) (dP.ok (.ag ds) (.ow [(q.1,k)]) ws)
      | _,_=>none
     | none=>none
    | _,_=>match vj V cs with
     | some (xs,ws)=>match jG z (pl.map fun q=>(q.1,q.2.1)) xs with
      | some ds=>cX (xs.all TV.plain) (dP.ok (.ag ds) .no ws)
      | none=>none
     | none=>none
   | none=>none
  | _,_=>none
 | .alloc t=>(E.z t).bind fun z=>cX (jy nt V (own 0)) (dP.ok .pt (.ptr (own 0) 0) [(own 0,(.ag z,.cl []))])
 | .box t v=>match dQ E nt V t v with
  | some (x,.no)=>cX (x.plain&&jy nt V (own 0)) (dP.ok .pt (.ptr (own 0) 0) [(own 0,(.ag x.cells,.cl []))])
  | _=>none
 | .makeSlice t l c=>match E.ty t,kp E nt V l,kp E nt V c with
  | some (st,jU),some a,some b=>ym nt own V (.sl st (List.replicate a.toNat st.iH)) (some (As a b jU)) []
  | _,_,_=>none
 | _=>none
end
end Go.Eng
namespace Go.Eng
open Go.RowKit
def TV.val:TV→Option Value
 | .u8 n=>some (.int .u8 n.toNat)
 | .u16 n=>some (.int .u16 n.toNat)
 | .u32 n=>some (.int .u32 n.toNat)
 | .u64 n=>some (.int .u64 n.toNat)
 | .i k n=>some (.int k n)
 | .b x=>some (.bool x)
 | .s l=>some (.string ⟨⟨l⟩⟩)
 | .c v=>some v
 | _=>none
abbrev Reach:=Nat→Nat→Prop
mutual
inductive Rep (R:Reach) (w:World):TV→Value→Prop
 | sc {x:TV} {v:Value}:x.val=some v→Rep R w x v
 | ag {cs:List TV} {ys:List Value}:bV R w cs ys→Rep R w (.ag cs) (.agg ⟨ys⟩)
 | tu {vs:List TV} {ys:List Value}:dX R w vs ys→Rep R w (.tu vs) (.tuple ⟨ys⟩)
 | nl (t:ez):Rep R w (.nl t) (.slice none 0 0)
 | ub {e b:Bool}:(b=true→e=true)→Rep R w (.ub e) (.bool b)
 | sn (t:ez):Rep R w (.sl t []) (.slice none 0 0)
 | sl {t:ez} {l:List t.El} {b off n cap:Nat}:n=l.length→n≤cap→cap≤maxLen→fF R w t.size (l.map t.tv) b off→Rep R w (.sl t l) (.slice (some ⟨b,off,none⟩) n cap)
 | em {a:Addr} {cap:Nat} (t:ez):cap≤maxLen→Rep R w (.sl t []) (.slice (some a) 0 cap)
 | ro {x:TV} {b off s:Nat}:gC R w s x b off→Rep R w (.ro x) (.pointer (some ⟨b,off,none⟩))
 | pt (y:Value):Rep R w .pt y
 | dead (y:Value):Rep R w .dead y
 | B5 {x:TV} {y:Value}:Rep R w x y→Rep R w (.gd true x) y
 | Dd (x:TV):Rep R w (.gd false x) undef
inductive bV (R:Reach) (w:World):List TV→List Value→Prop
 | nil:bV R w [] []
 | cons {x:TV} {y:Value} {xs:List TV} {ys:List Value}:y.oneCell'=true→Rep R w x y→bV R w xs ys→bV R w (x :: xs) (y :: ys)
inductive dX (R:Reach) (w:World):List TV→List Value→Prop
 | nil:dX R w [] []
 | cons {x:TV} {y:Value} {xs:List TV} {ys:List Value}:Rep R w x y→dX R w xs ys→dX R w (x :: xs) (y :: ys)
inductive gO (R:Reach) (w:World):List TV→Nat→Nat→Prop
 | nil (b off:Nat):gO R w [] b off
 | cons {x:TV} {y:Value} {xs:List TV} {b off:Nat}:R b off→w.cell? ⟨b,off,none⟩=some y→y.oneCell'=true→Rep R w x y→gO R w xs b (off+1)→gO R w (x :: xs) b off
inductive gC (R:Reach) (w:World):Nat→TV→Nat→Nat→Prop
 | ag {cs:List TV} {b off s:Nat}:s=cs.length→gO R w cs b off→gC R w s (.ag cs) b off
 | one {x:TV} {y:Value} {b off:Nat}:x.lV=false→R b off→w.cell? ⟨b,off,none⟩=some y→y.oneCell'=true→Rep R w x y→gC R w 1 x b off
inductive fF (R:Reach) (w:World):Nat→List TV→Nat→Nat→Prop
 | nil (s b off:Nat):fF R w s [] b off
 | cons {s:Nat} {x:TV} {xs:List TV} {b off:Nat}:gC R w s x b off→fF R w s xs b (off+s)→fF R w s (x :: xs) b off
end
def cD (R:Reach) (w:World) (R':Reach) (w':World):Prop:=∀b o,R b o→R' b o∧w'.cell? ⟨b,o,none⟩=w.cell? ⟨b,o,none⟩
theorem cD.refl (R:Reach) (w:World):cD R w R w:=fun _ _ h=>⟨h,rfl⟩
theorem cD.trans {R R' Dz:Reach} {w w' FN:World} (h:cD R w R' w') (k:cD R' w' Dz FN):cD R w Dz FN :=
 fun b o hr=>⟨(k b o (h b o hr).1).1,(k b o (h b o hr).1).2.trans (h b o hr).2⟩
section
variable {R R':Reach} {w w':World}
mutual
theorem Rep.mono (k:cD R w R' w'):∀{x:TV} {y:Value},Rep R w x y→Rep R' w' x y
 | _,_,.sc h => .sc h
 | _,_,.ag h => .ag (bV.mono k h)
 | _,_,.tu h => .tu (dX.mono k h)
 | _,_,.nl t => .nl t
 | _,_,.ub h => .ub h
 | _,_,.sn t => .sn t
 | _,_,.sl a b c h => .sl a b c (fF.mono k h)
 | _,_,.em t h => .em t h
 | _,_,.ro h => .ro (gC.mono k h)
 | _,_,.pt y => .pt y
 | _,_,.dead y => .dead y
 | _,_,.B5 h => .B5 (Rep.mono k h)
 | _,_,.Dd x => .Dd x
theorem bV.mono (k:cD R w R' w'):∀{x:List TV} {y:List Value},bV R w x y→bV R' w' x y
 | _,_,.nil => .nil
 | _,_,.cons a h t => .cons a (Rep.mono k h) (bV.mono k t)
theorem dX.mono (k:cD R w R' w'):∀{x:List TV} {y:List Value},dX R w x y→dX R' w' x y
 | _,_,.nil => .nil
 | _,_,.cons h t => .cons (Rep.mono k h) (dX.mono k t)
theorem gO.mono (k:cD R w R' w'):∀{x:List TV} {b o:Nat},gO R w x b o→gO R' w' x b o
 | _,_,_,.nil b o => .nil b o
 | _,_,_,.cons r c a h t => .cons (k _ _ r).1 ((k _ _ r).2.trans c) a (Rep.mono k h) (gO.mono k t)
theorem gC.mono (k:cD R w R' w'):∀{s:Nat} {x:TV} {b o:Nat},gC R w s x b o→gC R' w' s x b o
 | _,_,_,_,.ag e h => .ag e (gO.mono k h)
 | _,_,_,_,.one n r c a h => .one n (k _ _ r).1 ((k _ _ r).2.trans c) a (Rep.mono k h)
theorem fF.mono (k:cD R w R' w'):∀{s:Nat} {x:List TV} {b o:Nat},fF R w s x b o→fF R' w' s x b o
 | _,_,_,_,.nil s b o => .nil s b o
 | _,_,_,_,.cons h t => .cons (gC.mono k h) (fF.mono k t)
end
end
section
variable {R:Reach} {w:World}
theorem bV.length:∀{xs:List TV} {ys:List Value},bV R w xs ys→xs.length=ys.length
 | _,_,.nil=>rfl
 | _,_,.cons _ _ t=>by simp [bV.length t]
theorem dX.length:∀{xs:List TV} {ys:List Value},dX R w xs ys→xs.length=ys.length
 | _,_,.nil=>rfl
 | _,_,.cons _ t=>by simp [dX.length t]
theorem bV.get:∀{xs:List TV} {ys:List Value} (_:bV R w xs ys) (i:Nat) (x:TV),xs[i]?=some x→∃y,ys[i]?=some y∧y.oneCell'=true∧Rep R w x y
 | _,_,.cons a h _,0,x,e=>by simp at e;subst e;exact ⟨_,rfl,a,h⟩
 | _,_,.cons _ _ t,i+1,x,e=>by simpa using bV.get t i x (by simpa using e)
theorem dX.get:∀{xs:List TV} {ys:List Value} (_:dX R w xs ys) (i:Nat) (x:TV),xs[i]?=some x→∃y,ys[i]?=some y∧Rep R w x y
 | _,_,.cons h _,0,x,e=>by simp at e;subst e;exact ⟨_,rfl,h⟩
 | _,_,.cons _ t,i+1,x,e=>by simpa using dX.get t i x (by simpa using e)
theorem bV.one:∀{xs:List TV} {ys:List Value},bV R w xs ys→∀y∈ys,y.oneCell'=true
 | _,_,.cons a _ t,y,hy=>by
  rcases aC.1 hy with rfl | h
  ·exact a
  ·exact bV.one t y h
theorem bV.append:∀{xs:List TV} {ys:List Value} {xC:List TV} {oK:List Value},bV R w xs ys→bV R w xC oK→bV R w (xs++xC) (ys++oK)
 | _,_,_,_,.nil,h=>h
 | _,_,_,_,.cons a h t,k => .cons a h (bV.append t k)
theorem bV.take:∀{xs:List TV} {ys:List Value} (n:Nat),bV R w xs ys→bV R w (xs.take n) (ys.take n)
 | _,_,0,_=>by simp;exact .nil
 | _,_,n+1,.nil=>by simp;exact .nil
 | _,_,n+1,.cons a h t=>by simp;exact .cons a h (bV.take n t)
theorem bV.drop:∀{xs:List TV} {ys:List Value} (n:Nat),bV R w xs ys→bV R w (xs.drop n) (ys.drop n)
 | _,_,0,h=>by simpa using h
 | _,_,n+1,.nil=>by simp;exact .nil
 | _,_,n+1,.cons a h t=>by simp;exact bV.drop n t
theorem gO.read:∀{xs:List TV} {b o:Nat},gO R w xs b o→∃ys,bV R w xs ys∧∀j y,ys[j]?=some y→w.cell? ⟨b,o+j,none⟩=some y
 | _,_,_,.nil _ _=>⟨[],.nil,by simp⟩
 | _,b,o,.cons (y:=y) r c a h t=>by
  obtain ⟨ys,hl,hc⟩:=gO.read t
  refine ⟨y :: ys,.cons a h hl,fun j z hz=>?_⟩
  cases j with
  | zero=>simp at hz;subst hz;exact c
  | succ j=>have:=hc j z (by simpa using hz);rw [show o+(j+1)=o+1+j by omega];exact this
theorem gO.write:∀{xs:List TV} {ys:List Value} {b o:Nat},bV R w xs ys→(∀j,j<ys.length→R b (o+j))→(∀j y,ys[j]?=some y→w.cell? ⟨b,o+j,none⟩=some y)→gO R w xs b o
 | _,_,b,o,.nil,_,_ => .nil b o
 | _,_,b,o,.cons a h t,hr,hc => .cons (hr 0 (by simp)) (hc 0 _ rfl) a h
   (gO.write t (fun j hj=>by have:=hr (j+1) (by simp;omega);rwa [show o+(j+1)=o+1+j by omega] at this)
    (fun j y hy=>by have:=hc (j+1) y (by simpa using hy);rwa [show o+(j+1)=o+1+j by omega] at this))
theorem gO.drop:∀{xs:List TV} {b o:Nat} (n:Nat),gO R w xs b o→gO R w (xs.drop n) b (o+n)
 | _,b,o,0,h=>by simpa using h
 | _,b,o,n+1,.nil _ _=>by simp;exact .nil _ _
 | _,b,o,n+1,.cons r c a h t=>by simp;have:=gO.drop n t;rwa [show o+1+n=o+(n+1) by omega] at this
theorem gO.take:∀{xs:List TV} {b o:Nat} (n:Nat),gO R w xs b o→gO R w (xs.take n) b o
 | _,b,o,0,h=>by simp;exact .nil _ _
 | _,b,o,n+1,.nil _ _=>by simp;exact .nil _ _
 | _,b,o,n+1,.cons r c a h t=>by simp;exact .cons r c a h (gO.take n t)
theorem fF.get:∀{s:Nat} {es:List TV} {b o:Nat} (_:fF R w s es b o) (i:Nat) (x:TV),es[i]?=some x→gC R w s x b (o+i * s)
 | s,_,b,o,.cons h _,0,x,e=>by simp at e;subst e;simpa using h
 | s,_,b,o,.cons _ t,i+1,x,e=>by
  have:=fF.get t i x (by simpa using e)
  rwa [show o+s+i * s=o+(i+1) * s by rw [Nat.succ_mul];omega] at this
theorem fF.drop:∀{s:Nat} {es:List TV} {b o:Nat} (n:Nat),fF R w s es b o→fF R w s (es.drop n) b (o+n * s)
 | s,_,b,o,0,h=>by simpa using h
 | s,_,b,o,n+1,.nil _ _ _=>by simp;exact .nil _ _ _
 | s,_,b,o,n+1,.cons h t=>by simp;have:=fF.drop n t;rwa [show o+s+n * s=o+(n+1) * s by rw [Nat.succ_mul];omega] at this
theorem fF.take:∀{s:Nat} {es:List TV} {b o:Nat} (n:Nat),fF R w s es b o→fF R w s (es.take n) b o
 | s,_,b,o,0,h=>by simp;exact .nil _ _ _
 | s,_,b,o,n+1,.nil _ _ _=>by simp;exact .nil _ _ _
 | s,_,b,o,n+1,.cons h t=>by simp;exact .cons h (fF.take n t)
theorem gC.read {s:Nat} {x:TV} {b o:Nat} (h:gC R w s x b o):∃ys:List Value,ys.length=s∧(∀j y,ys[j]?=some y→w.cell? ⟨b,o+j,none⟩=some y)∧bV R w x.cells ys:=by
 cases h with
 | ag e h=>obtain ⟨ys,hl,hc⟩:=h.read;exact ⟨ys,by rw [e,hl.length],hc,hl⟩
 | one n r c a h =>
  rename_i y
  refine ⟨[y],rfl,?_,?_⟩
  ·intro j z hz
   cases j with
   | zero=>simp at hz;subst hz;exact c
   | succ j=>simp at hz
  ·cases x <;> simp [TV.cells,TV.lV] at n ⊢ <;> exact .cons a h .nil
theorem gC.write {s:Nat} {x:TV} {ys:List Value} {b o:Nat} (hs:x.cells.length=s) (h:bV R w x.cells ys) (hr:∀j,j<s→R b (o+j)) (hc:∀j y,ys[j]?=some y→w.cell? ⟨b,o+j,none⟩=some y):gC R w s x b o:=by
 have hl:=h.length
 cases x with
 | ag cs=>exact .ag hs.symm (gO.write h (fun j hj=>hr j (by omega)) hc)
 | _ =>
  simp only [TV.cells,aD] at hs h hl
  subst hs
  cases h with
  | cons a h t=>exact .one rfl (hr 0 (by omega)) (hc 0 _ rfl) a h
theorem fF.cells:∀{s:Nat} {es:List TV} {b o:Nat},fF R w s es b o→∃ys:List Value,ys.length=es.length * s∧(∀j y,ys[j]?=some y→w.cell? ⟨b,o+j,none⟩=some y)∧bV R w (es.flatMap TV.cells) ys∧∀e∈es,e.cells.length=s
 | s,_,b,o,.nil _ _ _=>⟨[],by simp,by simp,.nil,by simp⟩
 | s,_,b,o,.cons (x:=x) (xs:=xs) h t=>by
  obtain ⟨ys,hl,hc,hr⟩:=h.read
  obtain ⟨zs,kl,kc,kr,ke⟩:=fF.cells t
  have hx:x.cells.length=s:=by rw [hr.length,hl]
  refine ⟨ys++zs,by simp [hl,kl,Nat.succ_mul];omega,?_,?_,?_⟩
  ·intro j y hy
   by_cases hj:j<ys.length
   ·exact hc j y (by rwa [List.getElem?_append_left hj] at hy)
   ·rw [aT (by omega)] at hy
    have:=kc _ y hy
    rwa [show o+s+(j - ys.length)=o+j by omega] at this
  ·simpa using hr.append kr
  ·intro e he
   rcases aC.1 he with rfl | h'
   ·exact hx
   ·exact ke e h'
theorem fF.write:∀{s:Nat} {es:List TV} {ys:List Value} {b o:Nat},(∀e∈es,e.cells.length=s)→bV R w (es.flatMap TV.cells) ys→(∀j,j<es.length * s→R b (o+j)) →
  (∀j y,ys[j]?=some y→w.cell? ⟨b,o+j,none⟩=some y)→fF R w s es b o
 | s,[],ys,b,o,_,_,_,_ => .nil _ _ _
 | s,e :: es,ys,b,o,he,h,hr,hc=>by
  have hs:=he e (by simp)
  have hl:=h.length
  simp only [List.flatMap_cons,ak] at hl
  have h1:bV R w e.cells (ys.take s):=by simpa [hs] using h.take s
  have h2:bV R w (es.flatMap TV.cells) (ys.drop s):=by have:=h.drop s;simpa [List.drop_append,hs,aW] using this
  refine .cons (.write hs h1 (fun j hj=>hr j (by simp [Nat.succ_mul];omega)) (fun j y hy=>hc j y ?_))
   (fF.write (fun e' h'=>he e' (by simp [h'])) h2 (fun j hj=>?_) (fun j y hy=>?_))
  ·rw [aH] at hy;split at hy
   ·exact hy
   ·cases hy
  ·have:=hr (s+j) (by simp [Nat.succ_mul];omega);rwa [←Nat.add_assoc] at this
  ·have:=hc (s+j) y (by simpa using hy);rwa [←Nat.add_assoc] at this
end
theorem ez.fM (t:ez) (x:t.El):(t.tv x).cells.length=t.size:=by cases t <;> rfl
theorem ez.vq (t:ez) (x:t.El):(t.tv x).plain=true:=by cases t <;> rfl
end Go.Eng
namespace Go.Eng
abbrev GL:=List (Nat × Gh)
inductive Hint where
 | o | s (a b:Hint) | j (G:GL) (a b:Hint) | c (a b:Hint) | b (a:Hint) | l (G:GL) (a:Hint) | sc (ls:List (Nat × GL)) (a:Hint)
def Hint.s1:Hint→Hint | .s a _=>a | .j _ a _=>a | .c a _=>a | .b a=>a | .l _ a=>a | .sc _ a=>a | .o => .o
def Hint.s2:Hint→Hint | .s _ a=>a | .j _ _ a=>a | .c _ a=>a | _ => .o
def bL (S:St) (d:Nat) (x:Cell):St:=fun k=>cond (Nat.beq k d) x (S k)
def cJ (S:St):List (Nat × Cell)→St
 | []=>S
 | (k,x) :: r=>bL (cJ S r) k x
def fE (nt:Nat) (ts:List Nat) (S:St):St:=fun k=>cond (Nat.blt k nt&&ts.contains k) ((S k).1.bare,(S k).2) (S k)
def pk (x:TV) (b:Bool):Option Bool :=
 match x with
 | .b x=>some (cond b x (!x))
 | .gd q (.b x)=>some (q&&cond b x (!x))
 | _=>none
def l0:List TV→Option Bool
 | []=>none
 | x :: r=>match x.xd,l0 r with
  | none,q=>q
  | some p,none=>some p
  | some p,some q=>some (p&&q)
def zn (op:Op):List Nat:=op.operands.toList.filterMap fun x=>match x with | .tmp t=>some t | _=>none
def TV.wm:TV→Bool
 | .gd _ _=>true
 | _=>false
def FR (nt:Nat) (V:St) (k:Nat):Bool:=Nat.ble nt k&&match (V k).2 with
 | .no=>false
 | .hid=>false
 | _=>true
def Gh.slot:Gh→Bool
 | .no | .ptr _ _ | .cM _ | .pe _ | .vc _ | .ow _=>true
 | _=>false
def Gh.bN:Gh→List Nat
 | .ptr m _=>[m]
 | .cM k=>[k]
 | .pe k=>[k]
 | .vc l=>l.map (·.2)
 | .ow l=>l.map (·.2)
 | .cl ts=>ts.map (·.2)
 | .pw d=>[d]
 | .pc r=>[r]
 | _=>[]
def vp (nt:Nat) (V:St) (c:Bool) (q:Option Bool) (e:dP):Option dP :=
 cX (e.ws.isEmpty&&(e.x.2.slot&&!e.x.1.wm)&&e.x.2.bN.all (FR nt V)) (some ⟨match e.p,q with
  | none,none=>none
  | none,some q=>some (!c || q)
  | some p,none=>some (!c || p)
  | some p,some q=>some (!c || (q&&p)),(.gd c e.x.1,e.x.2),[]⟩)
def wH (nt:Nat) (c:Bool) (q:Option Bool) (e:dP):Option dP :=
 cX (e.ws.all fun p=>Nat.ble nt p.1) (some ⟨some (match e.p,q with
  | none,none=>c
  | none,some q=>c&&q
  | some p,none=>c&&p
  | some p,some q=>c&&(q&&p)),e.x,e.ws⟩)
def lT (nt:Nat) (o:Oper):Bool :=
 match o.op,o.dst with
 | .store _ _ _,none=>true
 | .store _ _ _,some _=>false
 | .call { callee := .value _,args:=_,argTypes:=_ },none=>true
 | _,some d=>Nat.blt d nt
 | _,none=>false
def watch (op:Op):List Nat :=
 match op with
 | .pick _ _ _=>(zn op).take 1
 | _=>zn op
section
variable (P:Program) (E:cz) (nt:Nat)
def nI (d:Option Nat) (j:Nat):Nat:=(j+1) * nt+d.getD 0
def iw (ops:Array Oper) (o:Oper) (V:St):Option dP :=
 cX (lT nt o) (match o.guard with
 | none=>pZ P E nt (nI nt o.dst) V o.type o.op
 | some (j,b)=>match (ops[j]?).bind (·.dst) with
  | some t=>match V t with
   | (x,.no)=>match pk x b,pZ P E nt (nI nt o.dst) (fE nt (watch o.op) V) o.type o.op with
    | some c,some e=>cX (Nat.blt t nt&&(o.dst.isSome&&(watch o.op).all fun t=>!(V t).1.bare.wm)) (cond (E.ld.contains (nI nt o.dst 1)) (wH nt c (l0 ((watch o.op).map fun t=>(V t).1)) e) (vp nt V c (l0 ((watch o.op).map fun t=>(V t).1)) e))
    | _,_=>none
   | _=>none
  | none=>none)
def eJ (S:St) (d:Option Nat) (e:dP):St :=
 match d with
 | some d=>bL (cJ S e.ws) d e.x
 | none=>cJ S e.ws
variable {R:Type}
abbrev yQ (p:Option Bool) (x:Option R):Option R:=match p with | none=>x | some p=>ck p x
def k9 (ops:Array Oper) (o:Oper) (V:St):Option Bool:=cond (E.ld.contains (nI nt o.dst 2)) (match o.guard with
 | some (j,b)=>match (ops[j]?).bind (·.dst) with
  | some t=>match V t with
   | (x,.no)=>cX (Nat.blt t nt) (pk x b)
   | _=>none
  | none=>none
 | none=>none) none
noncomputable abbrev sH (c:Option Bool) (d:Option Nat) (e:dP) (S:St) (F:St→Option R):Option R :=
 match c with
 | none=>yQ e.p (F (eJ S d e))
 | some c=>cond c (yQ e.p (F (eJ S d e))) (match d with | some d=>F (bL S d (.gd false e.x.1,.no)) | none=>none)
noncomputable abbrev rR (ops:Array Oper) (l:List Oper) (S:St) (K:St→Option R):Option R :=
 List.rec (motive:=fun _=>St→(St→Option R)→Option R) (fun S K=>K S)
  (fun o _ ih S K=>match iw P E nt ops o S with
   | some e=>sH (k9 E nt ops o S) o.dst e S fun S=>ih S K
   | none=>none) l S K
theorem tW (ops:Array Oper) (o:Oper) (r:List Oper) (S:St) (K:St→Option R):rR P E nt ops (o :: r) S K=match iw P E nt ops o S with
 | some e=>sH (k9 E nt ops o S) o.dst e S fun S=>rR P E nt ops r S K
 | none=>none:=rfl
def fO (d:Option Nat) (e:dP):List Nat:=d.toList++e.ws.map (·.1)
def j8 (ds:List Nat) (S:St):St:=fun k=>cond (ds.contains k) (.dead,.hid) (S k)
def lG (o:Oper):List Nat:=(o.after.toList.filter (Region.binds .any)).map (·.on)
def iD (ops:List Oper):List (List Nat) :=
 ops.foldl (fun acc o=>acc++[(lG o).flatMap fun e=>e :: (acc.getD e [])]) []
def mv (ops:List Oper):Bool:=ops.zipIdx.all fun (o,i)=>(lG o).all fun e=>decide (e<i)
def wi (ops:Array Oper):List Oper→St→Option (List (List Nat))
 | [],_=>some []
 | o :: r,S=>match iw P E nt ops o S with
  | some e=>match wi ops r (eJ S o.dst e) with
   | some l=>some (fO o.dst e :: l)
   | none=>none
  | none=>none
def ll (W B:List (List Nat)) (i:Nat):List Nat :=
 (W.zipIdx.filter fun (_,j)=>!(Nat.beq j i)&&!((B.getD i []).contains j)&&!((B.getD j []).contains i)).flatMap (·.1)
noncomputable abbrev tZ (ops:Array Oper) (W B:List (List Nat)) (i:Nat) (l:List Oper) (S:St) (K:St→Option R):Option R :=
 List.rec (motive:=fun _=>Nat→St→(St→Option R)→Option R) (fun _ S K=>K S)
  (fun o _ ih i S K=>match iw P E nt ops o (j8 (ll W B i) S) with
   | some e=>cX (decide (fO o.dst e=W.getD i [])&&(ll W B i).all fun k=>!((W.getD i []).contains k)) (yQ e.p (ih (i+1) (eJ S o.dst e) K))
   | none=>none) l i S K
theorem tY (ops:Array Oper) (W B:List (List Nat)) (i:Nat) (o:Oper) (r:List Oper) (S:St) (K:St→Option R):tZ P E nt ops W B i (o :: r) S K=match iw P E nt ops o (j8 (ll W B i) S) with
 | some e=>cX (decide (fO o.dst e=W.getD i [])&&(ll W B i).all fun k=>!((W.getD i []).contains k)) (yQ e.p (tZ P E nt ops W B (i+1) r (eJ S o.dst e) K))
 | none=>none:=rfl
noncomputable abbrev oP (ops:Array Oper) (draw:Bool) (S:St) (K:St→Option R):Option R :=
 match draw with
 | false=>rR P E nt ops ops.toList S K
 | true=>cX (mv ops.toList) (match wi P E nt ops ops.toList S with
  | some W=>tZ P E nt ops W (iD ops.toList) 0 ops.toList S K
  | none=>none)
inductive MX where
 | normal
 | exit (id:Nat)
 | goto (l:Nat)
 | ret
abbrev dh (R:Type):=MX→St→Option R
def jv (S:St):GL→List (Nat × Option Nat)
 | []=>[]
 | (k,.cM i) :: r=>(match S k with | (_,.cM j)=>[(i,some j)] | (.nl _,.no)=>[(i,none)] | _=>[])++jv S r
 | (m,.cl ts) :: r=>(match S m with
  | (.ag cs,.cl us)=>ts.filterMap fun t=>match gr t.1 us,cs[t.1]? with
   | some j,_=>some (t.2,some j)
   | none,some (.nl _)=>some (t.2,none)
   | _,_=>none
  | _=>[])++jv S r
 | _ :: r=>jv S r
def jB (k:Nat):List (Nat × Option Nat)→Option (Option Nat)
 | []=>none
 | (i,j) :: r=>cond (Nat.beq i k) (some j) (jB k r)
def n9 (S:St) (i:Nat):GL→Option ez
 | []=>none
 | (k,.cM i') :: r=>match Nat.beq i' i,S k with | true,(.nl t,_)=>some t | _,_=>n9 S i r
 | (m,.cl ts) :: r=>match S m,ts.find? (fun t=>Nat.beq t.2 i) with
  | (.ag cs,_),some t=>match cs[t.1]? with | some (.nl t)=>some t | _=>n9 S i r
  | _,_=>n9 S i r
 | _ :: r=>n9 S i r
def n6 (ts:List (Nat × Nat)) (cs:List TV):List TV:=ts.foldl (fun cs t=>cs.set t.1 .pt) cs
def ft (ρ:List (Nat × Option Nat)) (k:Nat):Option Nat:=(jB k ρ).getD (some k)
def CA:Option TV→Bool
 | some (.nl _)=>true
 | _=>false
def pS (S:St) (G:GL) (ρ:List (Nat × Option Nat)) (p:Nat × Gh):Option (TV × List (Nat × Cell)) :=
 match p.2 with
 | .no=>cX (Nat.blt p.1 nt) (pr S (S p.1))
 | .cM _=>cX (Nat.blt p.1 nt) (match S p.1 with
  | (.pt,.cM _)=>some (.pt,[])
  | (.nl _,.no)=>some (.pt,[])
  | _=>none)
 | .ptr m o=>cX (Nat.blt p.1 nt) (match S p.1 with
  | (.pt,.ptr m' o')=>cX (Nat.beq m' m&&Nat.beq o' o) (some (.pt,[]))
  | _=>none)
 | .cl ts=>cX (Nat.ble nt p.1) (match S p.1 with
  | (.ag cs,.cl us)=>cX (ts.all fun t=>(gr t.1 us).isSome || CA cs[t.1]?) (match iC S 0 cs.length (us.filter fun u=>(gr u.1 ts).isNone) cs with
   | some (cs,ws)=>some (.ag (n6 ts (cs.map nrm)),ws)
   | none=>none)
  | _=>none)
 | .pv=>cX (Nat.ble nt p.1) (match ft ρ p.1 with
  | some j=>match S j with
   | (y,.pv)=>some (y,[])
   | _=>none
  | none=>(n9 S p.1 G).map fun t=>(.sl t [],[]))
 | .lv=>cX (Nat.ble nt p.1) (match ft ρ p.1 with
  | some j=>match S j with
   | (y,.pv)=>some (y,[(j,(y,.lv))])
   | (y,.lv)=>some (y,[])
   | _=>none
  | none=>(n9 S p.1 G).map fun t=>(.sl t [],[]))
 | _=>none
def lI (S:St) (G:GL) (ρ:List (Nat × Option Nat)):GL→Option (List TV × List (Nat × Cell))
 | []=>some ([],[])
 | p :: r=>match pS nt S G ρ p with
  | some (x,ws)=>match lI S G ρ r with
   | some (xs,us)=>some (x :: xs,ws++us)
   | none=>none
  | none=>none
def Gh.own:Gh→Bool
 | .cl _ | .pv | .lv | .pw _ | .pc _=>true
 | _=>false
def hN:List Nat→Bool
 | []=>true
 | k :: r=>(r.all fun j=>!Nat.beq j k)&&hN r
def DJ (G:GL) (ρ:List (Nat × Option Nat)) (ws:List (Nat × Cell)):Bool :=
 hN (G.map (·.1))&&(ρ.all fun p=>decide (jB p.1 ρ=some p.2)&&(Nat.blt p.1 1000000 || decide (p.2=some p.1))&&Nat.ble nt p.1) &&
 hN (G.filterMap fun p=>cond p.2.own (ft ρ p.1) none)&&(G.all fun p=>p.2.bN.all fun i=>G.any fun q=>Nat.beq q.1 i&&q.2.own) &&
 G.all fun p=>match p.2 with
  | .cl _=>(jB p.1 ρ).isNone
  | .ptr m _=>(jB m ρ).isNone
  | .pv=>match ft ρ p.1 with
   | some j=>ws.all fun q=>!Nat.beq q.1 j
   | none=>true
  | _=>true
def dn:GL→List TV→St
 | (k,g) :: G,x :: xs=>fun j=>cond (Nat.beq j k) (x,g) (dn G xs j)
 | _,_=>fun _=>(.dead,.no)
def qk:List Nat→St→St
 | [],S=>S
 | k :: r,S=>match S k with
  | (x,.pw d)=>qk r (bL (bL S k (x,.pv)) d (.dead,.zz))
  | _=>qk r S
def Eo (G:GL) (ρ:List (Nat × Option Nat)):List Nat:=G.filterMap fun p=>match p.2 with | .pv=>ft ρ p.1 | _=>none
def lj (G:GL) (S:St):OT :=
 match lI nt S G (jv S G) G with
 | some (xs,ws)=>cX (DJ nt G (jv S G) ws) (some xs)
 | none=>none
def eY (G:GL) (S:St):OT:=lj nt G (qk (Eo G (jv S G)) S)
abbrev tU (f:St→dh R→Option R) (K:dh R):dh R:=fun e S =>
 match e with
 | .normal=>f S K
 | e=>K e S
abbrev lN (f:St→dh R→Option R) (G:GL) (K:dh R):dh R:=fun e S =>
 match e with
 | .normal=>match eY nt G S with
  | some xs=>f (dn G xs) K
  | none=>none
 | e=>K e S
abbrev gH (id:Nat) (K:dh R):dh R:=fun e S =>
 match e with
 | .exit j=>match Nat.beq j id with
  | true=>K .normal S
  | false=>K (.exit j) S
 | e=>K e S
def gZ {ι:Type} (f:ι→dh R→Option R) (tr:MX→St→Option (Option ι)):Nat→ι→dh R→Option R
 | 0,_,_=>none
 | n+1,i,K=>f i fun e S =>
  match tr e S with
  | none=>K e S
  | some none=>none
  | some (some j)=>gZ f tr n j K
open Classical in
noncomputable def yr (g:Nat→Option R):Option R:=if h:∃n r,g n=some r then g h.choose else none
noncomputable def uI {ι:Type} (f:ι→dh R→Option R) (tr:MX→St→Option (Option ι)) (i:ι) (K:dh R):Option R:=yr fun n=>gZ f tr n i K
noncomputable abbrev nh {ι:Type} (f:ι→dh R→Option R) (tr:MX→St→Option (Option ι)) (K:dh R):dh R:=fun e S =>
 match tr e S with
 | none=>K e S
 | some none=>none
 | some (some j)=>uI f tr j K
def Ab (G:GL):MX→St→Option (OT)
 | .normal,S=>some (eY nt G S)
 | _,_=>none
def Bw (f:St→dh R→Option R) (G:GL) (xs:List TV):dh R→Option R:=f (dn G xs)
noncomputable def sY (f:St→dh R→Option R) (G:GL) (xs:List TV) (K:dh R):Option R:=uI (Bw f G) (Ab nt G) xs K
noncomputable abbrev mP (f:St→dh R→Option R) (G:GL) (S:St) (K:dh R):Option R :=
 match eY nt G S with
 | some xs=>sY nt f G xs K
 | none=>none
noncomputable abbrev pJ (f:St→dh R→Option R) (G:GL) (K:dh R):dh R:=nh (Bw f G) (Ab nt G) K
abbrev Ev (R:Type):=Hint→St→dh R→Option R
def mQ (l:Nat):List (Nat × GL)→Option GL
 | []=>none
 | (k,G) :: r=>cond (Nat.beq k l) (some G) (mQ l r)
def tP (ls:List (Nat × GL)):MX→St→Option (Option (Nat × List TV))
 | .goto l,S=>some (match mQ l ls with
  | some G=>(eY nt G S).map fun xs=>(l,xs)
  | none=>none)
 | _,_=>none
def u9 (f:Nat→Option (Ev R)) (ls:List (Nat × GL)) (a:Hint) (i:Nat × List TV) (K:dh R):Option R :=
 match f i.1,mQ i.1 ls with
 | some g,some G=>g a (dn G i.2) K
 | _,_=>none
noncomputable def rN (f:Nat→Option (Ev R)) (ls:List (Nat × GL)) (a:Hint) (i:Nat × List TV) (K:dh R):Option R:=uI (u9 f ls a) (tP nt ls) i K
noncomputable abbrev fY (f:Nat→Option (Ev R)) (ls:List (Nat × GL)) (a:Hint) (K:dh R):dh R:=nh (u9 f ls a) (tP nt ls) K
abbrev nP (R:Type):=Ev R × (Nat→Option (Ev R))
abbrev di (f:Ev R):nP R:=(f,fun _=>none)
abbrev vL (g b o:Ev R):Ev R:=fun h S K=>match h with
 | .j G a c=>g a S (lN nt (o c) G K)
 | h=>g h.s1 S (tU (b h.s2) K)
abbrev nF (fa fb:Nat→Option (Ev R)) (b o:Ev R) (l:Nat):Option (Ev R):=match fa l with
 | some g=>some (vL nt g b o)
 | none=>match fb l with
  | some g=>some fun h=>g h.s2
  | none=>none
abbrev vK (fa fb:nP R) (o:Ev R):nP R:=(vL nt fa.1 fb.1 o,nF nt fa.2 fb.2 fb.1 o)
open Classical in
noncomputable def both (x y:Option R):Option R:=if x=y then x else none
noncomputable abbrev tC (x:Operand) (fa fb:nP R):nP R:=di fun h S K=>match dQ E nt S 0 x with
 | some (.b t,.no)=>cond t (fa.1 h.s1 S K) (fb.1 h.s2 S K)
 | some (.ub e,.no)=>cond e (both (fa.1 h.s1 S K) (fb.1 h.s2 S K)) (fb.1 h.s2 S K)
 | _=>none
noncomputable abbrev zu (o:Ev R):nP R:=di fun h S K=>match h with
 | .l G a=>mP nt (o a) G S K
 | _=>none
noncomputable abbrev oN (f:nP R) (o:Nat→Option (Ev R)):nP R:=di fun h S K=>match h with
 | .sc ls a=>f.1 a S (fY nt o ls a K)
 | _=>none
abbrev iF (l l':Nat):Option (Ev R):=cond (Nat.beq l l') (some fun _ S K=>K .normal S) none
abbrev rW (l:Nat):nP R:=(fun _ S K=>K .normal S,iF l)
noncomputable def vk (c:Code):nP R :=
 Code.rec (motive:=fun _=>nP R)
  (di fun _ S K=>K .normal S)
  (fun _ ops draw=>di fun _ S K=>oP P E nt ops draw S (K .normal))
  (fun _ _ fa fb=>vK nt fa fb fb.1)
  (fun x _ _ fa fb=>tC E nt x fa fb)
  (fun id _ f=>di fun h S K=>f.1 h.s1 S (gH id K))
  (fun _ f=>zu nt f.1)
  (fun _ _ _ _ _ _=>di fun _ _ _=>none)
  (fun id=>di fun _ S K=>K (.exit id) S)
  (fun _ f=>oN nt f f.2)
  rW
  (fun l=>di fun _ S K=>K (.goto l) S)
  (di fun _ S K=>K .ret S)
  (fun _=>di fun _ _ _=>none) c
noncomputable def hZ (c:Code):Ev R:=(vk P E nt c).1
noncomputable def lZ (c:Code):Nat→Option (Ev R):=(vk P E nt c).2
noncomputable def wM (c:Code):nP R :=
 Code.rec (motive:=fun _=>nP R)
  (di fun _ S K=>K .normal S)
  (fun _ ops draw=>di fun _ S K=>oP P E nt ops draw S (K .normal))
  (fun _ d fa fb=>vK nt fa fb (hZ P E nt d))
  (fun x _ _ fa fb=>tC E nt x fa fb)
  (fun id _ f=>di fun h S K=>f.1 h.s1 S (gH id K))
  (fun d _=>zu nt (hZ P E nt d))
  (fun _ _ _ _ _ _=>di fun _ _ _=>none)
  (fun id=>di fun _ S K=>K (.exit id) S)
  (fun d f=>oN nt f (lZ P E nt d))
  rW
  (fun l=>di fun _ S K=>K (.goto l) S)
  (di fun _ S K=>K .ret S)
  (fun _=>di fun _ _ _=>none) c
noncomputable def ev (c:Code):Ev R:=(wM P E nt c).1
def wo (n:Nat) (ms:List Md) (iJ:List TV):St:=fun k =>
 cond (Nat.blt k n) (match ms.getD k .pl with
  | .pl=>(iJ.getD k .dead,.no)
  | .rf=>(.pt,.ptr (1000000+k) 0)
  | _=>(.pt,.cM (1000000+k)))
 (cond (Nat.ble 1000000 k&&Nat.blt k (1000000+n)) (match ms.getD (k - 1000000) .pl with
  | .pl=>(.dead,.no)
  | .rf=>(iJ.getD (k - 1000000) .dead,.cl [])
  | _=>(iJ.getD (k - 1000000) .dead,.pv)) (.dead,.no))
def ve (n i c:Nat) (e:Bool) (iJ:List TV):St:=fun k =>
 cond (Nat.blt k n) (cond (Nat.beq k i) (.pt,.ptr 1000000 0) (iJ.getD k .dead,.no))
 (cond (Nat.beq k 1000000) (iJ.getD i .dead,.cl (cond e [(c,1000001)] []))
 (cond (e&&Nat.beq k 1000001) (iJ.getD n .dead,.pv) (.dead,.no)))
def BO (n:Nat) (sg:cg) (iJ:List TV):St:=match sg.kd with
 | .pl=>wo n sg.md iJ
 | .wr i c e=>ve n i c e iJ
 | .nw _=>wo n [] iJ
def jK (own:List Nat):Nat→List ResultVar→St→Option (List TV × St)
 | _,[],S=>some ([],S)
 | i,.tmp _ :: rs,S=>match jK own (i+1) rs S with
  | some (xs,S)=>some (.dead :: xs,S)
  | none=>none
 | i,.cell a t :: rs,S=>cX (Nat.blt a nt&&!own.contains i) (match S a,fm P t with
  | (.pt,.ptr m o),some (n,agg)=>cX (agg || Nat.beq n 1) (match S m with
   | (.ag cs,.cl ts)=>match iC S o n ts cs with
    | some (cs,ws)=>match iy cs o n agg with
     | some x=>match jK own (i+1) rs (cJ S ws) with
      | some (xs,S)=>some (Cs x :: xs,S)
      | none=>none
     | none=>none
    | none=>none
   | _=>none)
  | _,_=>none)
def iM (own:List Nat):Nat→List ResultVar→GL
 | _,[]=>[]
 | i,.tmp t :: rs=>cond (own.contains i) [(t,.cM (900000+i)),(900000+i,.pv)] [(t,.no)]++iM own (i+1) rs
 | i,.cell _ _ :: rs=>iM own (i+1) rs
def jk:Nat→List Md→GL
 | _,[]=>[]
 | k,.rf :: ms=>(1000000+k,.cl []) :: jk (k+1) ms
 | k,.sl :: ms=>(1000000+k,.pv) :: jk (k+1) ms
 | k,.sm :: ms=>(1000000+k,.pv) :: jk (k+1) ms
 | k,_ :: ms=>jk (k+1) ms
def iZ (own:List Nat) (H:St):Nat→List ResultVar→List TV→List TV
 | i,.tmp t :: rs,_ :: xs=>cond (own.contains i) (H (900000+i)).1 (H t).1 :: iZ own H (i+1) rs xs
 | i,.cell _ _ :: rs,x :: xs=>x :: iZ own H (i+1) rs xs
 | _,_,_=>[]
def kV (H:St):Nat→List Md→List TV
 | _,[]=>[]
 | k,.rf :: ms=>(H (1000000+k)).1 :: kV H (k+1) ms
 | k,.sl :: ms=>(H (1000000+k)).1 :: kV H (k+1) ms
 | k,_ :: ms=>kV H (k+1) ms
def jC (H:St):Nat→List Md→List TV
 | _,[]=>[]
 | k,.sm :: ms=>(H (1000000+k)).1 :: jC H (k+1) ms
 | k,_ :: ms=>jC H (k+1) ms
def wO (fn:Func) (sg:cg):GL:=iM sg.own 0 fn.results.toList++jk 0 sg.md
def ug (fn:Func) (sg:cg):Option ((Nat × TypeId) × Nat) :=
 match fn.results.toList,sg.own with
 | [.cell a t],[j]=>cond (Nat.blt j 1000) none (some ((a,t),j - 1000))
 | _,_=>none
def uN (a m c:Nat) (sg:cg):GL:=(a,.ptr m 0) :: (m,.cl [(c,900000)]) :: (900000,.pv) :: jk 0 sg.md
def Df (a:Nat) (t:TypeId) (c:Nat) (sg:cg) (S:St):OT :=
 match S a,fm P t with
 | (.pt,.ptr m 0),some (n,true)=>match eY nt (uN a m c sg) S with
  | some ys=>match dn (uN a m c sg) ys m with
   | (.ag cs,_)=>cX (Nat.beq n cs.length&&Nat.blt a nt) (some (.ag (cs.set c (dn (uN a m c sg) ys 900000).1) :: (kV (dn (uN a m c sg) ys) 0 sg.md++jC (dn (uN a m c sg) ys) 0 sg.md)))
   | _=>none
  | none=>none
 | _,_=>none
def uL (fn:Func) (sg:cg) (S:St):OT :=
 match ug fn sg with
 | some ((a,t),c)=>Df P nt a t c sg S
 | none=>match jK P nt sg.own 0 fn.results.toList S with
  | some (xs,S)=>match eY nt (wO fn sg) S with
   | some ys=>some (iZ sg.own (dn (wO fn sg) ys) 0 fn.results.toList xs++kV (dn (wO fn sg) ys) 0 sg.md++jC (dn (wO fn sg) ys) 0 sg.md)
   | none=>none
  | none=>none
def A5 (fn:Func) (c:Nat) (S:St):OT :=
 match jK P nt [] 0 fn.results.toList S with
 | some (xs,S)=>match eY nt ((1000000,.cl [(c,910000)]) :: (910000,.pv) :: iM [] 0 fn.results.toList) S with
  | some ys=>some (iZ [] (dn ((1000000,.cl [(c,910000)]) :: (910000,.pv) :: iM [] 0 fn.results.toList) ys) 0 fn.results.toList xs++[(dn ((1000000,.cl [(c,910000)]) :: (910000,.pv) :: iM [] 0 fn.results.toList) ys 1000000).1,(dn ((1000000,.cl [(c,910000)]) :: (910000,.pv) :: iM [] 0 fn.results.toList) ys 910000).1])
  | none=>none
 | none=>none
def gN (t m:Nat):Option Nat→GL
 | none=>[(t,.ptr m 0),(m,.cl [])]
 | some c=>[(t,.ptr m 0),(m,.cl [(c,910000)]),(910000,.pv)]
def A6 (fn:Func) (oc:Option Nat) (S:St):OT :=
 match fn.results.toList with
 | .tmp t :: rs=>match S t with
  | (.pt,.ptr m 0)=>match jK P nt [] 1 rs S with
   | some (xs,S)=>match eY nt (gN t m oc++iM [] 1 rs) S with
    | some ys=>some ((dn (gN t m oc++iM [] 1 rs) ys m).1 :: (iZ [] (dn (gN t m oc++iM [] 1 rs) ys) 1 rs xs++(match oc with | none=>[] | some _=>[(dn (gN t m oc++iM [] 1 rs) ys 910000).1])))
    | none=>none
   | none=>none
  | _=>none
 | _=>none
def qQ (fn:Func) (sg:cg) (S:St):OT:=match sg.kd with
 | .pl=>uL P nt fn sg S
 | .wr _ c _=>A5 P nt fn c S
 | .nw oc=>A6 P nt fn oc S
def si (fn:Func) (sg:cg):dh (List TV):=fun e S =>
 match e with
 | .ret=>qQ P nt fn sg S
 | .normal=>qQ P nt fn sg S
 | _=>none
def px (fn:Func) (sg:cg):Bool :=
 Nat.blt fn.ntmps 900000&&Nat.ble fn.params.size fn.ntmps&&Nat.ble sg.md.length fn.params.size&&Nat.beq sg.bC fn.results.size&&Nat.blt fn.results.size 1000&&((ug fn sg).isSome || sg.own.all fun i=>Nat.blt i sg.bC)&&hN sg.own&&!(fn.name == "runtime.NumGoroutine")
def uK (fn:Func) (sg:cg) (ins:List TV):Bool:=match sg.kd with
 | .pl=>Nat.beq ins.length fn.params.size
 | .wr _ _ _=>sg.md.isEmpty&&Nat.beq ins.length (fn.params.size+1)
 | .nw _=>sg.md.isEmpty&&Nat.beq ins.length fn.params.size
def fN:List Md→List TV→List TV
 | .sm :: ms,x :: xs=>x :: fN ms xs
 | _ :: ms,_ :: xs=>fN ms xs
 | _,_=>[]
noncomputable def dD (f:Nat) (sg:cg) (h:Hint) (ins:List TV):OT :=
 match P.funcs[f]? with
 | some fn=>match fn.body with
  | some c=>cX (px fn sg&&uK fn sg ins) (ev P E fn.ntmps c h (BO fn.params.size sg ins) (si P fn.ntmps fn sg))
  | none=>none
 | none=>none
end
end Go.Eng
namespace Go.Eng
open Go.RowKit
def Value.dq:Value→Option Nat
 | .pointer (some a)=>some a.block
 | .slice (some a) _ _=>some a.block
 | _=>none
def Gh.s9:Gh→Bool
 | .pw _ | .pc _=>true
 | _=>false
def Gh.s8:Gh→Bool
 | .pw _=>true
 | _=>false
def gb (τ:Nat→Value) (g:Gh) (v:Value):Option Nat:=match g with
 | .pw d=>if Value.dq v=Value.dq (τ d) then none else Value.dq v
 | g=>if g.own then Value.dq v else none
def dq (τ:Nat→Value) (S:St) (k:Nat):Option Nat:=gb τ (S k).2 (τ k)
theorem A2 {τ:Nat→Value} {g:Gh} {v:Value} {b:Nat} (h:gb τ g v=some b):g.own=true∧Value.dq v=some b:=by
 unfold gb at h
 split at h
 ·split at h
  ·cases h
  ·exact ⟨rfl,h⟩
 ·split at h
  ·exact ⟨‹_›,h⟩
  ·cases h
theorem wF {τ:Nat→Value} {g:Gh} {v:Value} {b:Nat} (ho:g.own=true) (hw:g.s8=false) (h:Value.dq v=some b):gb τ g v=some b:=by
 unfold gb
 split
 ·cases hw
 ·rw [aq ho,h]
theorem wE {τ τ':Nat→Value} {g:Gh} {v:Value} (h:∀m∈g.bN,τ' m=τ m):gb τ' g v=gb τ g v:=by
 unfold gb
 split
 ·rw [h _ (List.mem_singleton.2 rfl)]
 ·rfl
def cP (R:Reach) (w:World) (p:Bool) (v:Value) (x:TV):Prop :=
 ∃t l,x = .sl t l∧((l=[]∧v = .slice none 0 0)∨∃g cap cur e fz,v = .slice (some ⟨g,0,none⟩) l.length cap∧w.heap[g]?=some (.cells cur e fz)∧(∀o,o<cur.size→¬(fz.1≤o∧o<fz.2)) ∧
  cur.size=cap * t.size∧l.length≤cap∧cap≤maxLen∧bV R w ((l.map t.tv).flatMap TV.cells) (cur.toList.take (l.length * t.size))∧∀o,R g o ↔ (p=true∧o<l.length * t.size))
def BI (R:Reach) (w:World) (v:Value) (x:TV) (u:Value):Prop :=
 (cP R w false v x∧(Value.dq v=none∨Value.dq v≠Value.dq u))∨∃t l g cap n,x = .sl t l∧v = .slice (some ⟨g,0,none⟩) l.length cap∧u = .slice (some ⟨g,0,none⟩) n cap
def oI (R:Reach) (w:World) (τ:Nat→Value) (v:Value) (x:TV) (ts:List (Nat × Nat)):Prop :=
 ∃b cs e xs,v = .pointer (some ⟨b,0,none⟩)∧w.heap[b]?=some (.cells ⟨cs⟩ e (0,0))∧x = .ag xs∧bV R w xs cs∧(∀t∈ts,cs[t.1]?=some (τ t.2))∧∀o,¬R b o
def fg (R:Reach) (w:World) (τ:Nat→Value) (x:TV) (g:Gh) (v:Value):Prop :=
 match g with
 | .ptr m o=>∃b,τ m = .pointer (some ⟨b,0,none⟩)∧v = .pointer (some ⟨b,o,none⟩)
 | .cM k=>v=τ k∧v.oneCell'=true
 | .pe k=>∃b i s o,Value.dq (τ k)=some b∧x = .el i s o∧v = .pointer (some ⟨b,i * s+o,none⟩)
 | .vc l=>∃ys vs,v = .tuple ⟨ys⟩∧x = .tu vs∧dX R w vs ys∧∀p∈l,ys[p.1]?=some (τ p.2)
 | .ow l=>∃ys vs,v = .agg ⟨ys⟩∧x = .ag vs∧bV R w vs ys∧∀p∈l,ys[p.1]?=some (τ p.2)
 | _=>Rep R w x v
def cp (R:Reach) (w:World) (τ:Nat→Value) (x:TV) (g:Gh) (v:Value):Prop :=
 match x with
 | .gd false _=>v=undef
 | .gd true x=>fg R w τ x g v
 | x=>fg R w τ x g v
def fi (R:Reach) (w:World) (τ:Nat→Value) (x:TV) (g:Gh) (v:Value):Prop :=
 match g with
 | .cl ts=>oI R w τ v x ts
 | .pv=>cP R w false v x
 | .pw d=>BI R w v x (τ d)
 | .pc _=>cP R w false v x
 | .lv=>cP R w true v x
 | .us=>Rep R w x v
 | .zz=>True
 | .hid=>True
 | g=>cp R w τ x g v
structure Core (nt:Nat) (R:Reach) (w:World) (b9:Nat→Prop) (τ:Nat→Value) (S:St):Prop where
 key:∀k,fi R w τ (S k).1 (S k).2 (τ k)
 sep:∀k k' g,dq τ S k=some g→dq τ S k'=some g→k=k'
 b9:∀k g,dq τ S k=some g→b9 g
 inv:∀j,∀k∈(S j).2.bN,nt≤k∧(S k).2 ≠ .no
 kj:∀b o,R b o→b<w.heap.size
 slt:∀k,k<nt→(S k).2.slot=true
 par:∀k d,(S k).2 = .pw d→(S d).2 = .pc k∧∃t l m,(S k).1 = .sl t l∧(S d).1 = .sl t (l++m)
theorem cW {τ:Nat→Value} {S:St} {k g:Nat} (h:dq τ S k=some g):(S k).2.own=true∧Value.dq (τ k)=some g:=A2 h
theorem cP.lt {R:Reach} {w:World} {p:Bool} {v:Value} {x:TV} {g:Nat} (h:cP R w p v x) (hb:Value.dq v=some g):g<w.heap.size:=by
 obtain ⟨t,l,rfl,⟨_,rfl⟩ | ⟨g',cap,cur,e,fz,rfl,h,_⟩⟩:=h
 ·cases hb
 ·cases hb;exact (Array.getElem?_eq_some_iff.1 h).1
theorem oI.lt {R:Reach} {w:World} {τ:Nat→Value} {v:Value} {x:TV} {ts:List (Nat × Nat)} {g:Nat} (h:oI R w τ v x ts) (hb:Value.dq v=some g):g<w.heap.size:=by
 obtain ⟨b,cs,e,xs,rfl,h,_⟩:=h
 cases hb;exact (Array.getElem?_eq_some_iff.1 h).1
def kB (S:St) (d:Nat) (x:Cell):St:=fun k=>if k=d then x else S k
theorem mf (S:St) (d:Nat) (x:Cell):kB S d x=bL S d x:=by
 funext k
 unfold kB bL
 by_cases h:k=d
 ·simp [h]
 ·rw [al h]
  cases hb:Nat.beq k d with
  | true=>exact (h (aj hb)).elim
  | false=>rfl
section
variable {nt:Nat} {R R':Reach} {w w':World} {b9 sW:Nat→Prop} {τ τ':Nat→Value} {S S':St}
theorem Core.lt (h:Core nt R w b9 τ S) {k g:Nat} (hb:dq τ S k=some g):g<w.heap.size:=by
 have ly:=hb
 obtain ⟨ho,hb⟩:=cW hb
 have hk:=h.key k
 cases hg:(S k).2 <;> rw [hg] at ho hk <;> first | (cases ho;done) | exact oI.lt hk hb | exact cP.lt hk hb | skip
 unfold dq at ly;rw [hg] at ly
 rcases hk with ⟨hk,_⟩ | ⟨t,l,g',cap,n,_,e1,e2⟩
 ·exact cP.lt hk hb
 ·simp only [gb,e1,e2,Value.dq,if_true] at ly;cases ly
theorem cP.cj {p:Bool} {v:Value} {x:TV} (h:cP R w p v x) (k:cD R w R' w') (hh:∀g,Value.dq v=some g→w'.heap[g]?=w.heap[g]?∧∀o,R' g o→R g o):cP R' w' p v x:=by
 obtain ⟨t,l,rfl,h | ⟨g,cap,cur,e,fz,rfl,h1,h2,h3,h4,h5,h6,h7⟩⟩:=h
 ·exact ⟨t,l,rfl,.inl h⟩
 ·obtain ⟨e1,e2⟩:=hh g rfl
  exact ⟨t,l,rfl,.inr ⟨g,cap,cur,e,fz,rfl,e1.trans h1,h2,h3,h4,h5,h6.mono k,fun o=>⟨fun hr=>(h7 o).1 (e2 o hr),fun hr=>(k g o ((h7 o).2 hr)).1⟩⟩⟩
theorem fg.cj {x:TV} {g:Gh} {v:Value} (h:fg R w τ x g v) (k:cD R w R' w') (ht:∀m∈g.bN,τ' m=τ m):fg R' w' τ' x g v:=by
 cases g <;> simp only [fg,Gh.bN,List.mem_singleton,forall_eq,aS,forall_exists_index,and_imp,forall_apply_eq_imp_iff₂] at * <;> first | exact h.mono k | (rw [ht];exact h) | skip
 all_goals
  obtain ⟨ys,vs,h1,h2,h3,h4⟩:=h
  exact ⟨ys,vs,h1,h2,h3.mono k,fun p hp=>by rw [ht p hp];exact h4 p hp⟩
theorem fi.cj {x:TV} {g:Gh} {v:Value} (h:fi R w τ x g v) (k:cD R w R' w') (ht:∀m∈g.bN,τ' m=τ m) (hh:∀b,gb τ g v=some b→w'.heap[b]?=w.heap[b]?∧∀o,R' b o→R b o):fi R' w' τ' x g v:=by
 have slot:cp R w τ x g v→cp R' w' τ' x g v:=fun h=>by
  unfold cp at h ⊢
  split at h <;> first | exact h | exact fg.cj h k ht
 cases g <;> simp only [fi] at h ⊢ <;> first | exact slot h | exact h.cj k hh | exact h.mono k | trivial | skip
 case pw d =>
  rw [ht d (List.mem_singleton.2 rfl)]
  rcases h with ⟨h1,h2⟩ | h
  ·refine .inl ⟨h1.cj k fun b hb=>hh b ?_,h2⟩
   rcases h2 with h2 | h2
   ·rw [h2] at hb;cases hb
   ·simp only [gb,al h2];exact hb
  ·exact .inr h
 rename_i ts
 obtain ⟨b,cs,e,xs,rfl,h1,rfl,h2,h3,h4⟩:=h
 obtain ⟨e1,e2⟩:=hh b rfl
 exact ⟨b,cs,e,xs,rfl,e1.trans h1,rfl,h2.mono k,fun t F2=>by rw [ht _ (List.mem_map_of_mem (f:=(·.2)) F2)];exact h3 t F2,fun o hr=>h4 o (e2 o hr)⟩
theorem Core.step (h:Core nt R w b9 τ S) (U:Nat→Prop) (cj:cD R w R' w') (out:∀k,¬U k→S' k=S k∧τ' k=τ k)
  (u3:∀k g,¬U k→dq τ S k=some g→w'.heap[g]?=w.heap[g]?∧∀o,R' g o→R g o)
  (new:∀k,U k→fi R' w' τ' (S' k).1 (S' k).2 (τ' k)) (Eg:∀k,U k→τ' k=τ k∨k<nt∨(S k).2 = .no) (no:∀k,U k→k<nt∨(S' k).2 ≠ .no)
  (DL:∀k,U k→((S k).2.s9=false∧(S' k).2.s9=false)∨((S k).2.s8=false∧S' k=S k)) (_grow:∀k,U k→(S' k).2.own=true→(S k).2.own=true∨(S k).2 = .no)
  (own:∀k g,U k→dq τ' S' k=some g→sW g∧(∀k',U k'→k'≠k→dq τ' S' k'≠some g)∧(w.heap.size≤g∨∃k0,U k0∧dq τ S k0=some g))
  (min:∀g,b9 g→sW g) (inv:∀k,U k→∀j∈(S' k).2.bN,nt≤j∧(S' j).2 ≠ .no) (kj:∀b o,R' b o→b<w'.heap.size) (slt:∀k,U k→k<nt→(S' k).2.slot=true):Core nt R' w' sW τ' S':=by
 have ht:∀j,∀m∈(S j).2.bN,τ' m=τ m:=fun j m hm=>by
  obtain ⟨h1,h2⟩:=h.inv j m hm
  by_cases hu:U m
  ·rcases Eg m hu with e | e | e
   ·exact e
   ·omega
   ·exact (h2 e).elim
  ·exact (out m hu).2
 have hb:∀k,¬U k→dq τ' S' k=dq τ S k:=fun k hk=>by unfold dq;rw [(out k hk).1,(out k hk).2,wE (ht k)]
 have hn:∀j,(S j).2 ≠ .no→nt≤j→(S' j).2 ≠ .no:=fun j hj hl=>by
  by_cases hu:U j
  ·rcases no j hu with e | e
   ·omega
   ·exact e
  ·rw [(out j hu).1];exact hj
 refine ⟨fun k=>?_,fun k k' g h1 h2=>?_,fun k g hk=>?_,fun j k hk=>?_,kj,fun k hk=>?_,fun k d hk=>?_⟩
 ·by_cases hu:U k
  ·exact new k hu
  ·obtain ⟨e1,e2⟩:=out k hu
   rw [e1,e2]
   exact (h.key k).cj cj (ht k) fun b fT=>u3 k b hu fT
 ·by_cases e:k=k'
  ·exact e
  ·-- one of U,one not: nothing in common
   have one:∀k k' g,U k→¬U k'→dq τ' S' k=some g→dq τ' S' k'=some g→False:=fun k k' g u u' h1 h2=>by
    obtain ⟨_,_,h3 | ⟨k0,u0,h3⟩⟩:=own k g u h1
    ·rw [hb k' u'] at h2
     have:=h.lt h2;omega
    ·rw [hb k' u'] at h2
     exact u' (h.sep k0 k' g h3 h2 ▸ u0)
   by_cases u:U k <;> by_cases u':U k'
   ·exact ((own k g u h1).2.1 k' u' (Ne.symm e) h2).elim
   ·exact (one k k' g u u' h1 h2).elim
   ·exact (one k' k g u' u h2 h1).elim
   ·rw [hb k u] at h1;rw [hb k' u'] at h2
    exact h.sep k k' g h1 h2
 ·by_cases hu:U k
  ·exact (own k g hu hk).1
  ·rw [hb k hu] at hk;exact min g (h.b9 k g hk)
 ·by_cases hu:U j
  ·exact inv j hu k hk
  ·rw [(out j hu).1] at hk
   obtain ⟨h1,h2⟩:=h.inv j k hk
   exact ⟨h1,hn k h2 h1⟩
 ·by_cases hu:U k
  ·exact slt k hu hk
  ·rw [(out k hu).1];exact h.slt k hk
 ·have e1:S' k=S k:=by
   by_cases hu:U k
   ·rcases DL k hu with e | e
    ·have:=e.2;rw [hk] at this;cases this
    ·exact e.2
   ·exact (out k hu).1
  rw [e1] at hk
  obtain ⟨p,q⟩:=h.par k d hk
  have e2:S' d=S d:=by
   by_cases hu:U d
   ·rcases DL d hu with e | e
    ·have:=e.1;rw [p] at this;cases this
    ·exact e.2
   ·exact (out d hu).1
  rw [e1,e2]
  exact ⟨p,q⟩
theorem Core.waits (h:Core nt R w b9 τ S) {k d:Nat} {x:TV} (hk:S k=(x,.pw d)):cP R w false (τ k) x:=by
 have h1:=h.key k
 rw [hk] at h1
 rcases h1 with ⟨h1,_⟩ | ⟨t,l,g,cap,n,rfl,e1,e2⟩
 ·exact h1
 ·obtain ⟨p1,t',l',m,q1,q2⟩:=h.par k d (by rw [hk])
  rw [hk] at q1;cases q1
  have h2:=h.key d
  rw [p1,q2] at h2
  obtain ⟨t2,l2,e3,⟨_,e4⟩ | ⟨g',Fo,cur,e,fz,e4,k1,k2,k3,k4,k5,k6,k7⟩⟩:=h2
  ·rw [e2] at e4;cases e4
  ·cases e3
   rw [e2] at e4;cases e4
   refine ⟨t,l,rfl,.inr ⟨g,cap,cur,e,fz,e1,k1,k2,k3,by rw [ak] at k4;omega,k5,?_,fun o=>⟨fun hr=>by simpa using (k7 o).1 hr,fun hr=>by simp at hr⟩⟩⟩
   have hl:l.length * t.size≤(l++m).length * t.size:=aR _ (by rw [ak];omega)
   have:=k6.take (l.length * t.size)
   rw [List.take_take,Nat.min_eq_left hl] at this
   rw [List.map_append,List.flatMap_append] at this
   have e5:((l.map t.tv).flatMap TV.cells).length=l.length * t.size:=by
    have:∀l:List t.El,((l.map t.tv).flatMap TV.cells).length=l.length * t.size:=fun l=>by
     induction l with
     | nil=>simp
     | cons a r ih=>simp only [aP,List.flatMap_cons,ak,ih,ez.fM,aJ,Nat.succ_mul];omega
    exact this l
   rw [List.take_append_of_le_length (by omega),List.take_of_length_le (by omega)] at this
   exact this
theorem Core.recover (h : Core nt R w b9 τ S) {k d : Nat} {x : TV} (hk : S k = (x, .pw d)) : Core nt R w b9 τ (kB (kB S k (x, .pv)) d (.dead, .zz)) := by
  obtain ⟨p1, _⟩ := h.par k d (by rw [hk])
  have gf : d ≠ k := by rintro rfl; rw [hk] at p1; cases p1
  have xG : nt ≤ d := (h.inv k d (by rw [hk]; exact List.mem_singleton.2 rfl)).1
  have Gb : nt ≤ k := by rcases Nat.lt_or_ge k nt with e | e; · have := h.slt k e; rw [hk] at this; cases this
                         · exact e
  have e1 : ∀ j, kB (kB S k (x, .pv)) d (.dead, .zz) j = if j = d then (.dead, .zz) else if j = k then (x, .pv) else S j := fun j => rfl
  generalize kB (kB S k (x, .pv)) d (.dead, .zz) = S' at e1
  have s1 : S' d = (.dead, .zz) := by rw [e1, aq rfl]
  have s2 : S' k = (x, .pv) := by rw [e1, al (Ne.symm gf), aq rfl]
  have s3 : ∀ j, j ≠ d → j ≠ k → S' j = S j := fun j a b => by rw [e1, al a, al b]
  -- whose block is whose
  have bl : ∀ j g, dq τ S' j = some g → dq τ S j = some g ∨ (j = k ∧ dq τ S d = some g) := fun j g hj => by
    by_cases a : j = d
    · rw [a] at hj; have := (cW hj).1; rw [s1] at this; cases this
    · by_cases b : j = k
      · subst b
        have hv := (cW hj).2
        by_cases c : Value.dq (τ j) = Value.dq (τ d)
        · right; exact ⟨rfl, by unfold dq; rw [p1]; exact wF rfl rfl (by rw [← c]; exact hv)⟩
        · left; unfold dq; rw [hk]; simp only [gb, al c]; exact hv
      · left; unfold dq at hj ⊢; rw [s3 j a b] at hj; exact hj
  refine ⟨fun j => ?_, fun j j' g h1 h2 => ?_, fun j g hj => ?_, fun j m hm => ?_, h.kj, fun j hj => ?_, fun j c hj => ?_⟩
  · by_cases a : j = d
    · rw [a, s1]; trivial
    · by_cases b : j = k
      · rw [b, s2]; exact h.waits hk
      · rw [s3 j a b]; exact h.key j
  · rcases bl j g h1 with q | ⟨q, q'⟩ <;> rcases bl j' g h2 with r | ⟨r, r'⟩
    · exact h.sep _ _ _ q r
    · have := h.sep _ _ _ q r'
      rw [this] at h1; have := (cW h1).1; rw [s1] at this; cases this
    · have := h.sep _ _ _ r q'
      rw [this] at h2; have := (cW h2).1; rw [s1] at this; cases this
    · rw [q, r]
  · rcases bl j g hj with q | ⟨_, q⟩
    · exact h.b9 _ _ q
    · exact h.b9 _ _ q
  · have yE : m ∈ (S j).2.bN := by
      by_cases a : j = d
      · rw [a, s1] at hm; simp [Gh.bN] at hm
      · by_cases b : j = k
        · rw [b, s2] at hm; simp [Gh.bN] at hm
        · rw [s3 j a b] at hm; exact hm
    obtain ⟨h1, h2⟩ := h.inv j m yE
    refine ⟨h1, ?_⟩
    by_cases a : m = d
    · rw [a, s1]; simp
    · by_cases b : m = k
      · rw [b, s2]; simp
      · rw [s3 m a b]; exact h2
  · rw [s3 j (by omega) (by omega)]; exact h.slt j hj
  · have a : j ≠ d := by rintro rfl; rw [s1] at hj; cases hj
    have b : j ≠ k := by rintro rfl; rw [s2] at hj; cases hj
    rw [s3 j a b] at hj
    obtain ⟨q1, q2⟩ := h.par j c hj
    have c1 : c ≠ d := by rintro rfl; rw [p1] at q1; cases q1; exact b rfl
    have c2 : c ≠ k := by rintro rfl; rw [hk] at q1; cases q1
    rw [s3 j a b, s3 c c1 c2]
    exact ⟨q1, q2⟩
theorem Core.Dt (h:Core nt R w b9 τ S) {k d:Nat} {t:ez} {l m:List t.El} {y:TV} (Gb:nt≤k) (HP:nt≤d) (hk:S k=(y,.zz)) (hd:S d=(.sl t (l++m),.pv)) (hp:BI R w (τ k) (.sl t l) (τ d)) (hm:∀b,gb τ (.pw d) (τ k)=some b→b9 b∧∀j,dq τ S j≠some b) :
  Core nt R w b9 τ (kB (kB S k (.sl t l,.pw d)) d (.sl t (l++m),.pc k)):=by
 have gf:d≠k:=by rintro rfl;rw [hk] at hd;cases hd
 have e1:∀j,kB (kB S k (.sl t l,.pw d)) d (.sl t (l++m),.pc k) j=if j=d then (.sl t (l++m),.pc k) else if j=k then (.sl t l,.pw d) else S j:=fun j=>rfl
 generalize kB (kB S k (.sl t l,.pw d)) d (.sl t (l++m),.pc k)=S' at e1
 have s1:S' d=(.sl t (l++m),.pc k):=by rw [e1,aq rfl]
 have s2:S' k=(.sl t l,.pw d):=by rw [e1,al (Ne.symm gf),aq rfl]
 have s3:∀j,j≠d→j≠k→S' j=S j:=fun j a b=>by rw [e1,al a,al b]
 have bl:∀j g,dq τ S' j=some g→(dq τ S j=some g∧j≠k)∨(j=k∧gb τ (.pw d) (τ k)=some g):=fun j g hj=>by
  by_cases a:j=d
  ·subst a;left
   refine ⟨?_,gf⟩
   have:=(cW hj).2
   unfold dq;rw [hd];exact wF rfl rfl this
  ·by_cases b:j=k
   ·subst b;right;unfold dq at hj;rw [s2] at hj;exact ⟨rfl,hj⟩
   ·left;unfold dq at hj ⊢;rw [s3 j a b] at hj;exact ⟨hj,b⟩
 refine ⟨fun j=>?_,fun j j' g h1 h2=>?_,fun j g hj=>?_,fun j q hq=>?_,h.kj,fun j hj=>?_,fun j c hj=>?_⟩
 ·by_cases a:j=d
  ·rw [a,s1];have:=h.key d;rw [hd] at this;exact this
  ·by_cases b:j=k
   ·rw [b,s2];exact hp
   ·rw [s3 j a b];exact h.key j
 ·rcases bl j g h1 with ⟨q,_⟩ | ⟨q,q'⟩ <;> rcases bl j' g h2 with ⟨r,_⟩ | ⟨r,r'⟩
  ·exact h.sep _ _ _ q r
  ·exact ((hm g r').2 j q).elim
  ·exact ((hm g q').2 j' r).elim
  ·rw [q,r]
 ·rcases bl j g hj with ⟨q,_⟩ | ⟨_,q⟩
  ·exact h.b9 _ _ q
  ·exact (hm g q).1
 ·by_cases a:j=d
  ·rw [a,s1] at hq
   simp only [Gh.bN,List.mem_singleton] at hq
   subst hq;exact ⟨Gb,by rw [s2];simp⟩
  ·by_cases b:j=k
   ·rw [b,s2] at hq
    simp only [Gh.bN,List.mem_singleton] at hq
    subst hq;exact ⟨HP,by rw [s1];simp⟩
   ·rw [s3 j a b] at hq
    obtain ⟨h1,h2⟩:=h.inv j q hq
    refine ⟨h1,?_⟩
    by_cases a:q=d
    ·rw [a,s1];simp
    ·by_cases b:q=k
     ·rw [b,s2];simp
     ·rw [s3 q a b];exact h2
 ·rw [s3 j (by omega) (by omega)];exact h.slt j hj
 ·have a:j≠d:=by rintro rfl;rw [s1] at hj;cases hj
  by_cases b:j=k
  ·rw [b,s2] at hj;cases hj
   rw [b,s1,s2]
   exact ⟨rfl,t,l,m,rfl,rfl⟩
  ·rw [s3 j a b] at hj
   obtain ⟨q1,q2⟩:=h.par j c hj
   have c1:c≠d:=by rintro rfl;rw [hd] at q1;cases q1
   have c2:c≠k:=by rintro rfl;rw [hk] at q1;cases q1
   rw [s3 j a b,s3 c c1 c2]
   exact ⟨q1,q2⟩
end
end Go.Eng
namespace Go.Eng
open Go.RowKit
def ky {X:Type} (σ:Nat→X) (t:Nat) (x:X):Nat→X:=fun k=>if k=t then x else σ k
theorem de {X:Type} (σ:Nat→X) (t:Nat) (x:X):ky σ t x t=x:=by simp [ky]
theorem dm {X:Type} (σ:Nat→X) {t k:Nat} (x:X) (h:k≠t):ky σ t x k=σ k:=by simp [ky,h]
theorem bG (S:St) (d:Nat) (x:Cell):bL S d x d=x:=by simp [bL]
theorem bO (S:St) {d k:Nat} (x:Cell) (h:k≠d):bL S d x k=S k:=by
 unfold bL
 cases e:Nat.beq k d with
 | true=>exact (h (aj e)).elim
 | false=>rfl
theorem br {A:Type} {p:Bool} {x:Option A} {y:A}:cX p x=some y ↔ p=true∧x=some y:=by cases p <;> simp [cX]
def Fz (b9:Nat→Prop) (R:Reach) (w:World) (R':Reach):Prop:=cD R w R' w∧∀b o,R' b o→R b o∨b9 b
theorem Fz.refl (b9:Nat→Prop) (R:Reach) (w:World):Fz b9 R w R:=⟨cD.refl _ _,fun _ _ => .inl⟩
theorem Fz.trans {b9:Nat→Prop} {R R' Dz:Reach} {w:World} (h:Fz b9 R w R') (k:Fz b9 R' w Dz):Fz b9 R w Dz:=⟨h.1.trans k.1,fun b o hr=>(k.2 b o hr).elim (h.2 b o) .inr⟩
theorem cD.reach {R:Reach} {w:World} {R':Reach} (h:∀b o,R b o→R' b o):cD R w R' w:=fun b o hr=>⟨h b o hr,rfl⟩
theorem fi.slot {R:Reach} {w:World} {τ:Nat→Value} {x:TV} {g:Gh} {v:Value} (hg:g.slot=true):fi R w τ x g v=cp R w τ x g v:=by
 cases g <;> first | rfl | cases hg
theorem cp.cj {R R':Reach} {w w':World} {τ τ':Nat→Value} {x:TV} {g:Gh} {v:Value} (h:cp R w τ x g v) (k:cD R w R' w') (ht:∀m∈g.bN,τ' m=τ m):cp R' w' τ' x g v:=by
 unfold cp at h ⊢
 split at h <;> first | exact h | exact fg.cj h k ht
section
variable {nt:Nat} {R R':Reach} {w w':World} {b9 sW:Nat→Prop} {τ τ':Nat→Value} {S S':St}
theorem Core.put (h:Core nt R w b9 τ S) {d:Nat} {v:Value} {x:TV} {g:Gh} (hd:d<nt) (hs:cp R w τ x g v) (hg:g.slot=true) (hm:∀k∈g.bN,nt≤k∧(S k).2 ≠ .no):
  Core nt R w b9 (ky τ d v) (bL S d (x,g)):=by
 have hP:(S d).2.s9=false:=by have:=h.slt d hd;cases hh:(S d).2 <;> rw [hh] at this <;> first | rfl | cases this
 have ho:g.own=false:=by cases g <;> first | rfl | cases hg
 refine h.step (fun k=>k=d) (cD.refl _ _) (fun k hk=>⟨bO _ _ hk,dm _ _ hk⟩) (fun _ _ _ _=>⟨rfl,fun _=>id⟩) ?_ (fun k hk => .inr (.inl (hk ▸ hd))) (fun k hk => .inl (hk ▸ hd)) ?_ ?_ ?_ (fun _=>id) ?_ h.kj (fun k hk _=>by rw [hk,bG];exact hg)
 ·rintro k rfl
  rw [bG,de,fi.slot hg]
  exact hs.cj (cD.refl _ _) fun m yE=>dm _ _ (by have:=(hm m yE).1;omega)
 ·rintro k rfl;rw [bG];exact .inl ⟨hP,by cases g <;> first | rfl | cases hg⟩
 ·rintro k rfl e;rw [bG,ho] at e;cases e
 ·rintro k b rfl hb;have:=(cW hb).1;rw [bG,ho] at this;cases this
 ·rintro k rfl j hj;rw [bG] at hj;obtain ⟨h1,h2⟩:=hm j hj
  exact ⟨h1,by rw [bO _ _ (by omega)];exact h2⟩
theorem Core.tO (h:Core nt R w b9 τ S) {k:Nat} {v:Value} {x:TV} {g:Gh} (hk:nt≤k) (cj:cD R w R' w') (u3:∀j b,j≠k→dq τ S j=some b→w'.heap[b]?=w.heap[b]?∧∀o,R' b o→R b o)
  (new:fi R' w' τ x g v) (Eg:v=τ k∨(S k).2 = .no) (DL:(S k).2.s9=false∧g.s9=false) (no:g ≠ .no) (grow:g.own=true→(S k).2.own=true∨(S k).2 = .no)
  (bl:∀b,g.own=true→Value.dq v=some b→b9 b∧(w.heap.size≤b∨dq τ S k=some b)) (inv:∀j∈g.bN,j≠k∧nt≤j∧(S j).2 ≠ .no) (kj:∀b o,R' b o→b<w'.heap.size) :
  Core nt R' w' b9 (ky τ k v) (bL S k (x,g)):=by
 refine h.step (fun j=>j=k) cj (fun j hj=>⟨bO _ _ hj,dm _ _ hj⟩) (fun j b hj=>u3 j b hj) ?_ ?_ ?_ ?_ ?_ ?_ (fun _=>id) ?_ kj (fun j hj hl=>by omega)
 ·rintro j rfl
  rw [bG,de]
  exact new.cj (cD.refl _ _) (fun m hm=>dm _ _ (inv m hm).1) fun _ _=>⟨rfl,fun _=>id⟩
 ·rintro j rfl;rw [de];exact Eg.imp id .inr
 ·rintro j rfl;rw [bG];exact .inr no
 ·rintro j rfl;rw [bG];exact .inl DL
 ·rintro j rfl;rw [bG];exact grow
 ·rintro j b rfl hb
  obtain ⟨h1,h2⟩:=cW hb
  rw [bG] at h1;rw [de] at h2
  obtain ⟨h3,h4⟩:=bl b h1 h2
  exact ⟨h3,fun k' e ne=>(ne e).elim,h4.imp id fun h=>⟨j,rfl,h⟩⟩
 ·rintro j rfl m hm;rw [bG] at hm
  obtain ⟨h1,h2,h3⟩:=inv m hm
  exact ⟨h2,by rw [bO _ _ h1];exact h3⟩
theorem Core.kh (h:Core nt R w b9 τ S) {k k' g:Nat} (h1:dq τ S k=some g) (h2:dq τ S k'=some g):k=k':=h.sep k k' g h1 h2
theorem dM {k g:Nat} (ho:(S k).2.own=true) (hw:(S k).2.s8=false) (hb:Value.dq (τ k)=some g):dq τ S k=some g:=wF ho hw hb
theorem pa {g:Gh} (h:g.s9=false):g.s8=false:=by cases g <;> first | rfl | cases h
theorem Core.freeze (h:Core nt R w b9 τ S) {k:Nat} {x:TV} (hk:nt≤k) (hS:S k=(x,.pv)):∃R',Core nt R' w b9 τ (bL S k (x,.lv))∧Fz b9 R w R'∧Rep R' w x (τ k)∧(τ k).oneCell'=true:=by
 have h0:=h.key k
 rw [hS] at h0
 obtain ⟨t,l,rfl,⟨rfl,hv⟩ | ⟨g,cap,cur,e,fz,hv,h1,h2,h3,h4,h5,h6,h7⟩⟩:=h0
 ·refine ⟨R,?_,Fz.refl _ _ _,by rw [hv];exact .sn t,by rw [hv];rfl⟩
  have:=h.tO (g := .lv) (x := .sl t []) (v:=τ k) hk (cD.refl _ _) (fun _ _ _ _=>⟨rfl,fun _=>id⟩) ⟨t,[],rfl,.inl ⟨rfl,hv⟩⟩ (.inl rfl) (by rw [hS];exact ⟨rfl,rfl⟩) (by simp) (fun _ => .inl (by rw [hS];rfl))
   (fun b _ hb=>by rw [hv] at hb;cases hb) (by simp [Gh.bN]) h.kj
  rwa [show ky τ k (τ k)=τ by funext j;simp only [ky];split <;> simp_all] at this
 ·have hb:dq τ S k=some g:=dM (by rw [hS];rfl) (by rw [hS];rfl) (by rw [hv];rfl)
  let R':Reach:=fun b o=>R b o∨(b=g∧o<l.length * t.size)
  have cj:cD R w R' w:=cD.reach fun b o => .inl
  have kb:(l.map t.tv).flatMap TV.cells=(l.map t.tv).flatMap TV.cells:=rfl
  have hex:∀o,R g o→False:=fun o hr=>by have:=(h7 o).1 hr;simp at this
  refine ⟨R',?_,⟨cj,fun b o (hr:R b o∨(b=g∧o<l.length * t.size))=>hr.imp id fun ⟨e,_⟩=>e ▸ h.b9 k g hb⟩,?_,by rw [hv];rfl⟩
  ·have:=h.tO (R':=R') (w':=w) (g := .lv) (x := .sl t l) (v:=τ k) hk cj (fun j b hj fT=>⟨rfl,fun o hr=>hr.elim id fun ⟨e,_⟩=>(hj (h.kh hb (e ▸ fT)).symm).elim⟩)
    ⟨t,l,rfl,.inr ⟨g,cap,cur,e,fz,hv,h1,h2,h3,h4,h5,h6.mono cj,fun o=>⟨fun hr=>hr.elim (fun hr=>(hex o hr).elim) fun hr=>⟨rfl,hr.2⟩,fun hr => .inr ⟨rfl,hr.2⟩⟩⟩⟩
    (.inl rfl) (by rw [hS];exact ⟨rfl,rfl⟩) (by simp) (fun _ => .inl (by rw [hS];rfl)) (fun b _ fT=>⟨h.b9 k b (dM (by rw [hS];rfl) (by rw [hS];rfl) fT),.inr (dM (by rw [hS];rfl) (by rw [hS];rfl) fT)⟩) (by simp [Gh.bN])
    (fun b o hr=>hr.elim (h.kj b o) fun ⟨e,_⟩=>e ▸ (Array.getElem?_eq_some_iff.1 h1).1)
   rwa [show ky τ k (τ k)=τ by funext j;simp only [ky];split <;> simp_all] at this
  ·rw [hv]
   refine .sl rfl h4 h5 (fF.write (ys:=cur.toList.take (l.length * t.size)) ?_ (h6.mono cj) (fun j hj => .inr ⟨rfl,by rwa [bn,Nat.zero_add] at *⟩) (fun j y hy=>?_))
   ·intro x hx;obtain ⟨y,_,rfl⟩:=aS.1 hx;exact ez.fM t y
   ·rw [aH] at hy
    split at hy
    ·simp only [World.cell?,h1,Nat.zero_add];simpa using hy
    ·cases hy
end
end Go.Eng
namespace Go.Eng
open Go.RowKit
def Lt (V S:St):Prop:=∀k,V k=S k∨(V k).2 = .hid
def Lq (V S:St):Prop:=∀k,V k=S k∨(V k).2 = .hid∨((V k).2 = .pv∧S k=((V k).1,.lv))
theorem Lt.refl (S:St):Lt S S:=fun _ => .inl rfl
theorem Lt.q {V S:St} (h:Lt V S):Lq V S:=fun k=>(h k).imp id .inl
theorem Lt.of {V S:St} (h:Lt V S) {k:Nat} {x:TV} {g:Gh} (hk:V k=(x,g)) (hg:g ≠ .hid:=by simp):S k=(x,g):=by
 rcases h k with e | e
 ·rw [←e,hk]
 ·rw [hk] at e;exact (hg e).elim
section
variable {nt:Nat} {R R':Reach} {w w':World} {b9:Nat→Prop} {τ:Nat→Value} {S V:St}
theorem tT {k:Nat} {c:Cell} (h:S k=c):bL S k c=S:=by
 funext j
 by_cases e:j=k
 ·subst e;rw [bG,h]
 ·exact bO _ _ e
theorem eI (S:St):∀l m:List (Nat × Cell),cJ S (l++m)=cJ (cJ S m) l
 | [],_=>rfl
 | (k,x) :: l,m=>by simp only [List.cons_append,cJ,eI S l m]
theorem cP.rep {v:Value} {x:TV} (h:cP R w true v x):Rep R w x v∧v.oneCell'=true:=by
 obtain ⟨t,l,rfl,⟨rfl,rfl⟩ | ⟨g,cap,cur,e,fz,rfl,h1,h2,h3,h4,h5,h6,h7⟩⟩:=h
 ·exact ⟨.sn t,rfl⟩
 ·refine ⟨.sl rfl h4 h5 (fF.write (ys:=cur.toList.take (l.length * t.size)) ?_ h6 (fun j hj=>(h7 _).2 ⟨rfl,by rwa [bn,Nat.zero_add] at *⟩) (fun j y hy=>?_)),rfl⟩
  ·intro x hx;obtain ⟨y,_,rfl⟩:=aS.1 hx;exact ez.fM t y
  ·rw [aH] at hy
   split at hy
   ·simp only [World.cell?,h1,Nat.zero_add];simpa using hy
   ·cases hy
theorem yk {x:TV} {v:Value} (h:Rep R w x v):Rep R w (nrm x) v:=by
 unfold nrm
 split
 ·cases h with
  | sc h=>cases h
  | nl=>exact .sn _
 ·exact h
theorem iN:∀{xs:List TV} {ys:List Value},bV R w xs ys→bV R w (xs.map nrm) ys
 | _,_,.nil => .nil
 | _,_,.cons a h t => .cons a (yk h) (iN t)
theorem oZ {x:TV} {v:Value} (h:Rep R w x v):Rep R w (Cs x) v:=by
 unfold Cs
 split
 ·cases h with
  | sc h=>cases h
  | nl=>exact .sn _
 ·cases h with
  | sc h=>cases h
  | ag h=>exact .ag (iN h)
 ·exact h
theorem fg.rep {x:TV} {v:Value} (h:cp R w τ x .no v):Rep R w x v:=by
 unfold cp at h
 split at h
 ·rw [h];exact .Dd _
 ·exact .B5 h
 ·exact h
theorem r9 (h:Core nt R w b9 τ S) (hV:Lq V S) {k:Nat} {x:TV} {ws:List (Nat × Cell)} (hk:nt≤k) (he:tq V (.pt,.cM k)=some (x,ws)) :
  ∃R',Core nt R' w b9 τ (cJ S ws)∧Fz b9 R w R'∧Rep R' w x (τ k)∧Lq V (cJ S ws)∧(∀p∈ws,p.1=k)∧x.plain=true:=by
 have plain:∀{R p v x},cP R w p v x→x.plain=true:=fun h=>by obtain ⟨_,_,rfl,_⟩:=h;rfl
 have base:∀{y:TV} {g:Gh},S k=(y,g)→g = .lv→(∃R',Core nt R' w b9 τ S∧Fz b9 R w R'∧Rep R' w y (τ k))∧y.plain=true:=fun {y g} e hg=>by
  have:=h.key k
  subst hg
  rw [e] at this
  exact ⟨⟨R,h,Fz.refl _ _ _,(cP.rep this).1⟩,plain this⟩
 simp only [tq] at he
 split at he
 ·rename_i y e
  cases he
  have hq:Lq V (bL S k (x,.lv)):=fun j=>by
   by_cases ej:j=k
   ·subst ej;rw [bG,e];exact .inr (.inr ⟨rfl,rfl⟩)
   ·rw [bO _ _ ej];exact hV j
  rcases hV k with e1 | e1 | ⟨_,e1⟩
  ·rw [e] at e1
   have hp:=h.key k
   rw [←e1] at hp
   obtain ⟨R',h1,h2,h3,_⟩:=h.freeze hk e1.symm
   exact ⟨R',h1,h2,h3,hq,by simp,plain hp⟩
  ·rw [e] at e1;cases e1
  ·rw [e] at e1
   obtain ⟨⟨R',h1,h2,h3⟩,h4⟩:=base e1 rfl
   refine ⟨R',?_,h2,h3,hq,by simp,h4⟩
   show Core nt R' w b9 τ (bL S k _)
   rwa [tT e1]
 ·rename_i y e
  cases he
  have e1:S k=(x,.lv):=by
   rcases hV k with e1 | e1 | ⟨e1,_⟩
   ·rw [e] at e1;exact e1.symm
   ·rw [e] at e1;cases e1
   ·rw [e] at e1;cases e1
  obtain ⟨⟨R',h1,h2,h3⟩,h4⟩:=base e1 rfl
  exact ⟨R',h1,h2,h3,hV,by simp,h4⟩
 ·rename_i y e
  obtain ⟨nD,he⟩:=br.1 he
  cases he
  have e1:S k=(x,.us):=by
   rcases hV k with e1 | e1 | ⟨e1,_⟩
   ·rw [e] at e1;exact e1.symm
   ·rw [e] at e1;cases e1
   ·rw [e] at e1;cases e1
  have:=h.key k
  rw [e1] at this
  exact ⟨R,h,Fz.refl _ _ _,this,hV,by simp,nD⟩
 ·cases he
theorem bV.set:∀{xs:List TV} {ys:List Value} {i:Nat} {x:TV},bV R w xs ys→(∀y,ys[i]?=some y→Rep R w x y)→bV R w (xs.set i x) ys
 | _,_,_,_,.nil,_=>by simpa using .nil
 | _,_,0,_,.cons a h t,hx => .cons a (hx _ rfl) t
 | _,_,i+1,_,.cons a h t,hx => .cons a h (t.set fun y hy=>hx y (by simpa using hy))
theorem hM {o n:Nat}:∀{ts:List (Nat × Nat)} {R:Reach} {S:St} {cs ds:List TV} {ys:List Value} {ws:List (Nat × Cell)},Core nt R w b9 τ S→Lq V S→bV R w cs ys→(∀t∈ts,nt≤t.2∧ys[t.1]?=some (τ t.2)) →
  iC V o n ts cs=some (ds,ws)→∃R',Core nt R' w b9 τ (cJ S ws)∧Fz b9 R w R'∧bV R' w ds ys∧Lq V (cJ S ws)∧(∀p∈ws,p.1∈ts.map (·.2))∧ds.length=cs.length
 | [],R,S,_,_,_,_,h,hV,hL,_,he=>by cases he;exact ⟨R,h,Fz.refl _ _ _,hL,hV,by simp,rfl⟩
 | (c,k) :: ts,R,S,_,_,_,_,h,hV,hL,ht,he=>by
  simp only [iC] at he
  split at he
  ·rename_i cs ws e1
   obtain ⟨R1,h1,k1,r1,q1,p1,l1⟩:=hM h hV hL (fun t h=>ht t (List.mem_cons_of_mem _ h)) e1
   have FP:∀p∈ws,p.1∈(((c,k) :: ts).map (·.2)):=fun p hp=>List.mem_cons_of_mem _ (p1 p hp)
   cases hb:(Nat.ble o c&&Nat.blt c (o+n)) with
   | true =>
    rw [hb,ao] at he
    split at he
    ·rename_i x us e2
     cases he
     obtain ⟨h3,h4⟩:=ht (c,k) (List.mem_cons_self ..)
     obtain ⟨R2,h2,k2,r2,q2,p2,_⟩:=r9 h1 q1 h3 e2
     rw [eI]
     refine ⟨R2,h2,k1.trans k2,(r1.mono k2.1).set fun y hy=>?_,q2,fun p hp=>?_,by rw [List.length_set,l1]⟩
     ·rw [h4] at hy;cases hy;exact r2
     ·rcases List.mem_append.1 hp with hp | hp
      ·rw [p2 p hp];exact List.mem_cons_self ..
      ·exact FP p hp
    ·cases he
   | false =>
    rw [hb,af] at he
    cases he
    exact ⟨R1,h1,k1,r1,q1,FP,l1⟩
  ·cases he
theorem pq (h:Core nt R w b9 τ S) (hV:Lq V S) {c:Cell} {v:Value} {x:TV} {ws:List (Nat × Cell)} (hs:cp R w τ c.1 c.2 v) (hc:∀m∈c.2.bN,nt≤m) (he:pr V c=some (x,ws)) :
  ∃R',Core nt R' w b9 τ (cJ S ws)∧Fz b9 R w R'∧Rep R' w x v∧Lq V (cJ S ws):=by
 obtain ⟨y,g⟩:=c
 cases g with
 | cM k =>
  cases y <;> try (simp only [pr,tq] at he;cases he)
  obtain ⟨R',h1,h2,h3,h4,_⟩:=r9 h hV (hc k (by simp [Gh.bN])) he
  have:v=τ k:=hs.1
  exact ⟨R',h1,h2,this ▸ h3,h4⟩
 | no =>
  simp only [pr,tq,aA,Prod.mk.injEq] at he
  obtain ⟨rfl,rfl⟩:=he
  exact ⟨R,h,Fz.refl _ _ _,oZ (fg.rep hs),hV⟩
 | ow l =>
  cases y <;> try (simp only [pr,tq] at he;cases he)
  simp only [pr] at he
  split at he
  ·rename_i hf
   cases he
   obtain ⟨ys,vs,hv,hx,h3,h4⟩:∃ys vs,v = .agg ⟨ys⟩∧_=TV.ag vs∧bV R w vs ys∧∀p∈l,ys[p.1]?=some (τ p.2):=hs
   cases hx
   obtain ⟨R',k1,k2,k3,k4,_⟩:=hM h hV h3 (fun t ht=>⟨hc t.2 (aS.2 ⟨t,ht,rfl⟩),h4 t ht⟩) hf
   exact ⟨R',k1,k2,by rw [hv];exact .ag (iN k3),k4⟩
  ·cases he
 | _=>simp only [pr,tq] at he;cases he
inductive Cells (R:Reach) (w:World) (τ:Nat→Value) (nt:Nat):List Cell→List Value→Prop
 | nil:Cells R w τ nt [] []
 | cons {c:Cell} {v:Value} {cs:List Cell} {vs:List Value}:cp R w τ c.1 c.2 v→(∀m∈c.2.bN,nt≤m)→Cells R w τ nt cs vs→Cells R w τ nt (c :: cs) (v :: vs)
theorem ni:∀{cs:List Cell} {R:Reach} {S:St} {vs:List Value} {xs:List TV} {ws:List (Nat × Cell)},Core nt R w b9 τ S→Lq V S→Cells R w τ nt cs vs→vj V cs=some (xs,ws) →
  ∃R',Core nt R' w b9 τ (cJ S ws)∧Fz b9 R w R'∧dX R' w xs vs∧Lq V (cJ S ws)
 | [],R,S,_,_,_,h,hV,.nil,he=>by cases he;exact ⟨R,h,Fz.refl _ _ _,.nil,hV⟩
 | c :: cs,R,S,_,_,_,h,hV,.cons a b t,he=>by
  simp only [vj] at he
  split at he
  ·rename_i x ws e1
   split at he
   ·rename_i xs us e2
    cases he
    obtain ⟨R1,h1,k1,r1,q1⟩:=ni h hV t e2
    obtain ⟨R2,h2,k2,r2,q2⟩:=pq h1 q1 (a.cj k1.1 fun _ _=>rfl) b e1
    rw [eI]
    exact ⟨R2,h2,k1.trans k2,.cons r2 (r1.mono k2.1),q2⟩
   ·cases he
  ·cases he
end
structure Ext (w0:World) (R0:Reach) (io:Nat→Prop) (w:World) (R:Reach):Prop where
 os:w.os=w0.os
 tape:w.tape=w0.tape
 output:w.output=w0.output
 size:w0.heap.size≤w.heap.size
 heap:∀b,b<w0.heap.size→¬io b→w.heap[b]?=w0.heap[b]?
 cj:cD R0 w0 R w
 oQ:∀b o,R b o→R0 b o∨w0.heap.size≤b∨io b
theorem Ext.refl (w:World) (R:Reach) (io:Nat→Prop):Ext w R io w R:=⟨rfl,rfl,rfl,Nat.le_refl _,fun _ _ _=>rfl,cD.refl _ _,fun _ _ h => .inl h⟩
theorem Ext.trans {w0 w1 w2:World} {R0 R1 R2:Reach} {io io':Nat→Prop} (h:Ext w0 R0 io w1 R1) (k:Ext w1 R1 io' w2 R2) (hi:∀b,io' b→io b∨w0.heap.size≤b):Ext w0 R0 io w2 R2 where
 os:=k.os.trans h.os
 tape:=k.tape.trans h.tape
 output:=k.output.trans h.output
 size:=Nat.le_trans h.size k.size
 heap b hb hn:=(k.heap b (Nat.lt_of_lt_of_le hb h.size) (fun c=>by rcases hi b c with c | c <;> first | exact hn c | omega)).trans (h.heap b hb hn)
 cj:=h.cj.trans k.cj
 oQ b o hr:=by
  rcases k.oQ b o hr with r | r | r
  ·exact h.oQ b o r
  ·exact .inr (.inl (Nat.le_trans h.size r))
  ·rcases hi b r with r | r
   ·exact .inr (.inr r)
   ·exact .inr (.inl r)
structure Ctx where
 P:Program
 E:cz
 nt:Nat
 w0:World
 R0:Reach
 io:Nat→Prop
 BL:Nat→Value
 gl:Nat→Option (List Value)
def Ctx.b9 (C:Ctx) (b:Nat):Prop:=C.io b∨C.w0.heap.size≤b
def GlOK (gl:Nat→Option (List Value)) (R:Reach) (w:World):Prop:=∀n zs,gl n=some zs→∀o,R n o∧w.cell? ⟨n,o,none⟩=zs[o]?
theorem GlOK.cj {gl:Nat→Option (List Value)} {R R':Reach} {w w':World} (h:GlOK gl R w) (k:cD R w R' w'):GlOK gl R' w':=fun n zs hn o=>⟨(k _ _ (h n zs hn o).1).1,(k _ _ (h n zs hn o).1).2.trans (h n zs hn o).2⟩
structure cC (C:Ctx) (S:St) (a:Act) (w:World) (R:Reach) (τ:Nat→Value):Prop where
 size:a.tmps.size=C.nt
 defers:a.defers=[]
 core:Core C.nt R w C.b9 τ S
 tmps:∀t,t<C.nt→a.tmps.getD t undef=τ t
 io:C.nt≤1000000∧∀k,1000000≤k→τ k=C.BL k
 ext:Ext C.w0 C.R0 C.io w R
 gl:GlOK C.gl R w
def lH (C:Ctx) (S:St) (a:Act) (w:World):Prop:=∃R τ,cC C S a w R τ
section
variable {C:Ctx} {S V:St} {a:Act} {w:World} {R:Reach} {τ:Nat→Value} {o:Oper} {d:Nat} {K:Act→World→Prop} {Q:Exit→Act→World→Prop}
theorem Ext.reach {w0 w:World} {R0 R R':Reach} {io:Nat→Prop} (h:Ext w0 R0 io w R) (k:cD R w R' w) (hn:∀b o,R' b o→R b o∨io b∨w0.heap.size≤b):Ext w0 R0 io w R' :=
 { h with cj:=h.cj.trans k,oQ:=fun b o hr=>by rcases hn b o hr with r | r | r;exact h.oQ b o r;exact .inr (.inr r);exact .inr (.inl r) }
end
end Go.Eng
namespace Go.Eng
open Go.RowKit
def gA:BinOp→Value→Value→Option Value
 | .shl,.int k a,.int _ b=>if b<0 then none else some (.int k (k.wrap (a * 2 ^ (min b.toNat k.bits))))
 | .shr,.int k a,.int _ b=>if b<0 then none else some (.int k (a.fdiv (2 ^ (min b.toNat k.bits))))
 | .add,.int k a,.int k' b=>if k=k' then some (.int k (k.wrap (a+b))) else none
 | .sub,.int k a,.int k' b=>if k=k' then some (.int k (k.wrap (a - b))) else none
 | .mul,.int k a,.int k' b=>if k=k' then some (.int k (k.wrap (a * b))) else none
 | .quo,.int k a,.int k' b=>if k=k' then (if b=0 then none else some (.int k (k.wrap (a.tdiv b)))) else none
 | .rem,.int k a,.int k' b=>if k=k' then (if b=0 then none else some (.int k (a.tmod b))) else none
 | .and,.int k a,.int k' b=>if k=k' then some (.int k (intBitsV .and k a b)) else none
 | .or,.int k a,.int k' b=>if k=k' then some (.int k (intBitsV .or k a b)) else none
 | .xor,.int k a,.int k' b=>if k=k' then some (.int k (intBitsV .xor k a b)) else none
 | .andNot,.int k a,.int k' b=>if k=k' then some (.int k (intBitsV .andNot k a b)) else none
 | .eql,.int k a,.int k' b=>if k=k' then some (.bool (a == b)) else none
 | .neq,.int k a,.int k' b=>if k=k' then some (.bool (a != b)) else none
 | .lss,.int k a,.int k' b=>if k=k' then some (.bool (decide (a<b))) else none
 | .leq,.int k a,.int k' b=>if k=k' then some (.bool (decide (a≤b))) else none
 | .gtr,.int k a,.int k' b=>if k=k' then some (.bool (decide (a > b))) else none
 | .geq,.int k a,.int k' b=>if k=k' then some (.bool (decide (a ≥ b))) else none
 | .add,.string a,.string b=>if ((a.size+b.size:Nat):Int) > IntKind.i64.max then none else some (.string (a++b))
 | .eql,.string a,.string b=>some (.bool (a.toList == b.toList))
 | .neq,.string a,.string b=>some (.bool (!(a.toList == b.toList)))
 | o,x,y=>qN o x y
def Ef:UnOp→Value→Option Value
 | .neg,.int k n=>some (.int k (k.wrap (0 - n)))
 | .xor,.int k n=>some (.int k (intBitsV .xor k (if k.signed then -1 else k.max) n))
 | .not,.bool b=>some (.bool !b)
 | .neg,.float .f64 a=>some (.float .f64 (Fl.neg a))
 | _,_=>none
theorem TV.qB {x:TV} {k:IntKind} {n:Int} (h:x.int?=some (k,n)):x.val=some (.int k n):=by
 cases x <;> simp [TV.int?] at h <;> obtain ⟨rfl,rfl⟩:=h <;> rfl
theorem ji (n:Int) (m:Nat) (h:0<m):(((n % (m:Int)).toNat % m:Nat):Int)=n % m:=by
 have h1:0≤n % (m:Int):=Int.emod_nonneg _ (by omega)
 have h2:n % (m:Int)<m:=Int.emod_lt_of_pos _ (by omega)
 rw [Nat.mod_eq_of_lt (by omega)];omega
theorem kA (n:Int):((UInt8.ofInt n).toNat:Int)=IntKind.u8.wrap n:=by
 have:IntKind.u8.wrap n=n % (256:Nat):=by simp [IntKind.wrap,IntKind.bits,IntKind.signed]
 rw [this,UInt8.ofInt,UInt8.toNat_ofNat'];exact ji n 256 (by decide)
theorem tN (n:Int):((UInt16.ofInt n).toNat:Int)=IntKind.u16.wrap n:=by
 have:IntKind.u16.wrap n=n % (65536:Nat):=by simp [IntKind.wrap,IntKind.bits,IntKind.signed]
 rw [this,UInt16.ofInt,UInt16.toNat_ofNat'];exact ji n 65536 (by decide)
theorem nS (n:Int):((UInt32.ofInt n).toNat:Int)=IntKind.u32.wrap n:=by
 have:IntKind.u32.wrap n=n % (4294967296:Nat):=by simp [IntKind.wrap,IntKind.bits,IntKind.signed]
 rw [this,UInt32.ofInt,UInt32.toNat_ofNat'];exact ji n 4294967296 (by decide)
theorem k8 (n:Int):((UInt64.ofInt n).toNat:Int)=IntKind.u64.wrap n:=by
 have:IntKind.u64.wrap n=n % (18446744073709551616:Nat):=by simp [IntKind.wrap,IntKind.bits,IntKind.signed]
 rw [this,UInt64.ofInt,UInt64.toNat_ofNat'];exact ji n 18446744073709551616 (by decide)
theorem uy (k:IntKind) (n:Int):(ta k n).val=some (.int k (k.wrap n)):=by
 cases k <;> simp only [ta,TV.val,aA,Value.int.injEq,true_and]
 ·exact kA n
 ·exact tN n
 ·exact nS n
 ·exact k8 n
theorem wrap_u8' (n:Int):IntKind.u8.wrap n=n % 256:=by simp [IntKind.wrap,IntKind.bits,IntKind.signed]
theorem ofInt_u8 (a:UInt8):BitVec.ofInt 8 (a.toNat:Int)=a.toBitVec:=by
 apply BitVec.eq_of_toNat_eq
 rw [BitVec.toNat_ofInt]
 have:=a.toNat_lt
 simp only [UInt8.toNat] at this ⊢
 omega
theorem fW (n:Int):IntKind.u16.wrap n=n % 65536:=by simp [IntKind.wrap,IntKind.bits,IntKind.signed]
theorem ofInt_u16 (a:UInt16):BitVec.ofInt 16 (a.toNat:Int)=a.toBitVec:=by
 apply BitVec.eq_of_toNat_eq
 rw [BitVec.toNat_ofInt]
 have:=a.toNat_lt
 simp only [UInt16.toNat] at this ⊢
 omega
theorem wrap_u32' (n:Int):IntKind.u32.wrap n=n % 4294967296:=by simp [IntKind.wrap,IntKind.bits,IntKind.signed]
theorem ofInt_u32 (a:UInt32):BitVec.ofInt 32 (a.toNat:Int)=a.toBitVec:=by
 apply BitVec.eq_of_toNat_eq
 rw [BitVec.toNat_ofInt]
 have:=a.toNat_lt
 simp only [UInt32.toNat] at this ⊢
 omega
theorem fv (n:Int):IntKind.u64.wrap n=n % 18446744073709551616:=by simp [IntKind.wrap,IntKind.bits,IntKind.signed]
theorem ofInt_u64 (a:UInt64):BitVec.ofInt 64 (a.toNat:Int)=a.toBitVec:=by
 apply BitVec.eq_of_toNat_eq
 rw [BitVec.toNat_ofInt]
 have:=a.toNat_lt
 simp only [UInt64.toNat] at this ⊢
 omega
theorem yX {o : BinOp} {a b : UInt8} {ws : List TV} (h : (Bt o a b).holds ws) : ∃ x : TV, ws = [x] ∧ ∃ v, x.val = some v ∧ gA o (.int .u8 a.toNat) (.int .u8 b.toNat) = some v := by
  have ha := a.toNat_lt
  have hb := b.toNat_lt
  cases o <;> simp only [Bt, iV.holds] at h <;> first | exact h.elim | skip
  all_goals first
    | (obtain ⟨hp, rfl⟩ := h; refine ⟨_, rfl, _, rfl, ?_⟩; simp only [Bool.not_eq_true', decide_eq_false_iff_not] at hp
       have ly : (b.toNat : Int) ≠ 0 := fun e => hp (UInt8.toNat_inj.1 (by simpa using e))
       simp only [gA, if_true, ly, if_false, aA, Value.int.injEq, true_and, UInt8.toNat_div, UInt8.toNat_mod, wrap_u8', Int.tdiv_eq_ediv_of_nonneg (Int.natCast_nonneg a.toNat), Int.tmod_eq_emod_of_nonneg (Int.natCast_nonneg a.toNat)]
       first | (rw [← Int.natCast_ediv]; have := Nat.div_le_self a.toNat b.toNat; generalize a.toNat / b.toNat = q at this ⊢; omega) | omega)
    | (subst h; refine ⟨_, rfl, _, rfl, ?_⟩
       simp only [gA, if_true, aA, Value.int.injEq, Value.bool.injEq, true_and, wrap_u8', intBitsV, IntKind.bits, ofInt_u8, UInt8.toNat_add, UInt8.toNat_sub, UInt8.toNat_mul]
       first | omega | (rw [aI (by omega) (by have := (a &&& b).toNat_lt; simp only [UInt8.toNat] at this ⊢; simp only [UInt8.toBitVec_and] at this; omega)]; rfl)
             | (rw [aI (by omega) (by have := (a ||| b).toNat_lt; simp only [UInt8.toNat] at this ⊢; simp only [UInt8.toBitVec_or] at this; omega)]; rfl)
             | (rw [aI (by omega) (by have := (a ^^^ b).toNat_lt; simp only [UInt8.toNat] at this ⊢; simp only [UInt8.toBitVec_xor] at this; omega)]; rfl)
             | (rw [aI (by omega) (by have := (a &&& ~~~b).toNat_lt; simp only [UInt8.toNat] at this ⊢; simp only [UInt8.toBitVec_and, UInt8.toBitVec_not] at this; omega)]; rfl)
             | (rw [aN]; simp [UInt8.lt_iff_toNat_lt, UInt8.le_iff_toNat_le, ← UInt8.toNat_inj]; omega)
             | (rw [aN]; simp [UInt8.lt_iff_toNat_lt, UInt8.le_iff_toNat_le, ← UInt8.toNat_inj]))
theorem xn {o : BinOp} {a b : UInt16} {ws : List TV} (h : (xo o a b).holds ws) : ∃ x : TV, ws = [x] ∧ ∃ v, x.val = some v ∧ gA o (.int .u16 a.toNat) (.int .u16 b.toNat) = some v := by
  have ha := a.toNat_lt
  have hb := b.toNat_lt
  cases o <;> simp only [xo, iV.holds] at h <;> first | exact h.elim | skip
  all_goals first
    | (obtain ⟨hp, rfl⟩ := h; refine ⟨_, rfl, _, rfl, ?_⟩; simp only [Bool.not_eq_true', decide_eq_false_iff_not] at hp
       have ly : (b.toNat : Int) ≠ 0 := fun e => hp (UInt16.toNat_inj.1 (by simpa using e))
       simp only [gA, if_true, ly, if_false, aA, Value.int.injEq, true_and, UInt16.toNat_div, UInt16.toNat_mod, fW, Int.tdiv_eq_ediv_of_nonneg (Int.natCast_nonneg a.toNat), Int.tmod_eq_emod_of_nonneg (Int.natCast_nonneg a.toNat)]
       first | (rw [← Int.natCast_ediv]; have := Nat.div_le_self a.toNat b.toNat; generalize a.toNat / b.toNat = q at this ⊢; omega) | omega)
    | (subst h; refine ⟨_, rfl, _, rfl, ?_⟩
       simp only [gA, if_true, aA, Value.int.injEq, Value.bool.injEq, true_and, fW, intBitsV, IntKind.bits, ofInt_u16, UInt16.toNat_add, UInt16.toNat_sub, UInt16.toNat_mul]
       first | omega | (rw [aI (by omega) (by have := (a &&& b).toNat_lt; simp only [UInt16.toNat] at this ⊢; simp only [UInt16.toBitVec_and] at this; omega)]; rfl)
             | (rw [aI (by omega) (by have := (a ||| b).toNat_lt; simp only [UInt16.toNat] at this ⊢; simp only [UInt16.toBitVec_or] at this; omega)]; rfl)
             | (rw [aI (by omega) (by have := (a ^^^ b).toNat_lt; simp only [UInt16.toNat] at this ⊢; simp only [UInt16.toBitVec_xor] at this; omega)]; rfl)
             | (rw [aI (by omega) (by have := (a &&& ~~~b).toNat_lt; simp only [UInt16.toNat] at this ⊢; simp only [UInt16.toBitVec_and, UInt16.toBitVec_not] at this; omega)]; rfl)
             | (rw [aN]; simp [UInt16.lt_iff_toNat_lt, UInt16.le_iff_toNat_le, ← UInt16.toNat_inj]; omega)
             | (rw [aN]; simp [UInt16.lt_iff_toNat_lt, UInt16.le_iff_toNat_le, ← UInt16.toNat_inj]))
theorem xl {o : BinOp} {a b : UInt32} {ws : List TV} (h : (xm o a b).holds ws) : ∃ x : TV, ws = [x] ∧ ∃ v, x.val = some v ∧ gA o (.int .u32 a.toNat) (.int .u32 b.toNat) = some v := by
  have ha := a.toNat_lt
  have hb := b.toNat_lt
  cases o <;> simp only [xm, iV.holds] at h <;> first | exact h.elim | skip
  all_goals first
    | (obtain ⟨hp, rfl⟩ := h; refine ⟨_, rfl, _, rfl, ?_⟩; simp only [Bool.not_eq_true', decide_eq_false_iff_not] at hp
       have ly : (b.toNat : Int) ≠ 0 := fun e => hp (UInt32.toNat_inj.1 (by simpa using e))
       simp only [gA, if_true, ly, if_false, aA, Value.int.injEq, true_and, UInt32.toNat_div, UInt32.toNat_mod, wrap_u32', Int.tdiv_eq_ediv_of_nonneg (Int.natCast_nonneg a.toNat), Int.tmod_eq_emod_of_nonneg (Int.natCast_nonneg a.toNat)]
       first | (rw [← Int.natCast_ediv]; have := Nat.div_le_self a.toNat b.toNat; generalize a.toNat / b.toNat = q at this ⊢; omega) | omega)
    | (subst h; refine ⟨_, rfl, _, rfl, ?_⟩
       simp only [gA, if_true, aA, Value.int.injEq, Value.bool.injEq, true_and, wrap_u32', intBitsV, IntKind.bits, ofInt_u32, UInt32.toNat_add, UInt32.toNat_sub, UInt32.toNat_mul]
       first | omega | (rw [aI (by omega) (by have := (a &&& b).toNat_lt; simp only [UInt32.toNat] at this ⊢; simp only [UInt32.toBitVec_and] at this; omega)]; rfl)
             | (rw [aI (by omega) (by have := (a ||| b).toNat_lt; simp only [UInt32.toNat] at this ⊢; simp only [UInt32.toBitVec_or] at this; omega)]; rfl)
             | (rw [aI (by omega) (by have := (a ^^^ b).toNat_lt; simp only [UInt32.toNat] at this ⊢; simp only [UInt32.toBitVec_xor] at this; omega)]; rfl)
             | (rw [aI (by omega) (by have := (a &&& ~~~b).toNat_lt; simp only [UInt32.toNat] at this ⊢; simp only [UInt32.toBitVec_and, UInt32.toBitVec_not] at this; omega)]; rfl)
             | (rw [aN]; simp [UInt32.lt_iff_toNat_lt, UInt32.le_iff_toNat_le, ← UInt32.toNat_inj]; omega)
             | (rw [aN]; simp [UInt32.lt_iff_toNat_lt, UInt32.le_iff_toNat_le, ← UInt32.toNat_inj]))
theorem xj {o : BinOp} {a b : UInt64} {ws : List TV} (h : (xk o a b).holds ws) : ∃ x : TV, ws = [x] ∧ ∃ v, x.val = some v ∧ gA o (.int .u64 a.toNat) (.int .u64 b.toNat) = some v := by
  have ha := a.toNat_lt
  have hb := b.toNat_lt
  cases o <;> simp only [xk, iV.holds] at h <;> first | exact h.elim | skip
  all_goals first
    | (obtain ⟨hp, rfl⟩ := h; refine ⟨_, rfl, _, rfl, ?_⟩; simp only [Bool.not_eq_true', decide_eq_false_iff_not] at hp
       have ly : (b.toNat : Int) ≠ 0 := fun e => hp (bp.1 (by simpa using e))
       simp only [gA, if_true, ly, if_false, aA, Value.int.injEq, true_and, UInt64.toNat_div, UInt64.toNat_mod, fv, Int.tdiv_eq_ediv_of_nonneg (Int.natCast_nonneg a.toNat), Int.tmod_eq_emod_of_nonneg (Int.natCast_nonneg a.toNat)]
       first | (rw [← Int.natCast_ediv]; have := Nat.div_le_self a.toNat b.toNat; generalize a.toNat / b.toNat = q at this ⊢; omega) | omega)
    | (subst h; refine ⟨_, rfl, _, rfl, ?_⟩
       simp only [gA, if_true, aA, Value.int.injEq, Value.bool.injEq, true_and, fv, intBitsV, IntKind.bits, ofInt_u64, UInt64.toNat_add, UInt64.toNat_sub, UInt64.toNat_mul]
       first | omega | (rw [aI (by omega) (by have := (a &&& b).toNat_lt; simp only [UInt64.toNat] at this ⊢; simp only [UInt64.toBitVec_and] at this; omega)]; rfl)
             | (rw [aI (by omega) (by have := (a ||| b).toNat_lt; simp only [UInt64.toNat] at this ⊢; simp only [UInt64.toBitVec_or] at this; omega)]; rfl)
             | (rw [aI (by omega) (by have := (a ^^^ b).toNat_lt; simp only [UInt64.toNat] at this ⊢; simp only [UInt64.toBitVec_xor] at this; omega)]; rfl)
             | (rw [aI (by omega) (by have := (a &&& ~~~b).toNat_lt; simp only [UInt64.toNat] at this ⊢; simp only [UInt64.toBitVec_and, UInt64.toBitVec_not] at this; omega)]; rfl)
             | (rw [aN]; simp [aZ, UInt64.le_iff_toNat_le, ← bp]; omega)
             | (rw [aN]; simp [aZ, UInt64.le_iff_toNat_le, ← bp]))
theorem me {a n b m:Nat} (hm:m=2 ^ b):(a * 2 ^ (min n b)) % m=(a * 2 ^ n) % m:=by
 subst hm
 by_cases h:n≤b
 ·rw [Nat.min_eq_left h]
 ·rw [Nat.min_eq_right (by omega),show n=b+(n - b) by omega,Nat.pow_add,←Nat.mul_assoc,Nat.mul_mod_left,Nat.mul_right_comm,Nat.mul_mod_left]
theorem ma {a n b m:Nat} (hm:m=2 ^ b) (ha:a<m):a / 2 ^ (min n b)=(a / 2 ^ n) % m:=by
 subst hm
 rw [Nat.mod_eq_of_lt (Nat.lt_of_le_of_lt (Nat.div_le_self _ _) ha)]
 by_cases h:n≤b
 ·rw [Nat.min_eq_left h]
 ·rw [Nat.min_eq_right (by omega),Nat.div_eq_of_lt ha,Nat.div_eq_of_lt (Nat.lt_of_lt_of_le ha (Nat.pow_le_pow_right (by omega) (by omega)))]
theorem gQ (l:IY):ByteArray.toList ⟨⟨l⟩⟩=l:=by rw [ByteArray.toList_eq]
def iV.tm (r:iV) (P:TV→Prop):Prop:=∀ws,r.holds ws→∃x:TV,ws=[x]∧P x
def xA (o:BinOp) (x y:TV) (z:TV):Prop:=∃a b v,x.val=some a∧y.val=some b∧gA o a b=some v∧z.val=some v
theorem lJ {p:Option Bool} {ws r:List TV} (h:(iV.under p ws).holds r):r=ws∧∀b,p=some b→b=true:=by
 cases p with
 | none=>exact ⟨h,fun _ e=>by cases e⟩
 | some p=>exact ⟨h.2,fun _ e=>by cases e;exact h.1⟩
theorem oB {y:TV} {p:Option Bool} {n:Nat} (h:y.count=some (p,n)) (hp:∀b,p=some b→b=true):∃k m,y.val=some (.int k m)∧0≤m∧m.toNat=n:=by
 cases y <;> simp [TV.count] at h <;> obtain ⟨rfl,rfl⟩:=h
 ·exact ⟨_,_,rfl,by omega,by omega⟩
 ·exact ⟨_,_,rfl,by omega,by omega⟩
 ·exact ⟨_,_,rfl,by omega,by omega⟩
 ·exact ⟨_,_,rfl,by omega,by omega⟩
 ·rename_i k m
  have:=hp _ rfl
  exact ⟨_,_,rfl,by simpa using this,rfl⟩
theorem ya (a:UInt8) (n:Nat):IntKind.u8.wrap ((a.toNat:Int) * 2 ^ (min n 8))=((Ai a n).toNat:Int):=by
 rw [wrap_u8',Ai,UInt8.toNat_ofNat',show ((a.toNat:Int) * 2 ^ (min n 8))=((a.toNat * 2 ^ (min n 8):Nat):Int) by simp]
 have:=me (a:=a.toNat) (n:=n) (b:=8) (m:=256) (by decide)
 rw [show (2 ^ 8:Nat)=256 by decide]
 omega
theorem xY (a:UInt8) (n:Nat):IntKind.u8.wrap ((a.toNat:Int).fdiv (2 ^ (min n 8)))=((Ag a n).toNat:Int):=by
 rw [wrap_u8',Ag,UInt8.toNat_ofNat',Int.fdiv_eq_ediv_of_nonneg _ (Int.le_of_lt (Int.pow_pos (by decide))),show ((a.toNat:Int) / 2 ^ (min n 8))=((a.toNat / 2 ^ (min n 8):Nat):Int) by simp]
 have:=ma (a:=a.toNat) (n:=n) (b:=8) (m:=256) (by decide) (by have:=a.toNat_lt;simpa using this)
 rw [show (2 ^ 8:Nat)=256 by decide]
 omega
theorem vH (a:UInt16) (n:Nat):IntKind.u16.wrap ((a.toNat:Int) * 2 ^ (min n 16))=((vI a n).toNat:Int):=by
 rw [fW,vI,UInt16.toNat_ofNat',show ((a.toNat:Int) * 2 ^ (min n 16))=((a.toNat * 2 ^ (min n 16):Nat):Int) by simp]
 have:=me (a:=a.toNat) (n:=n) (b:=16) (m:=65536) (by decide)
 rw [show (2 ^ 16:Nat)=65536 by decide]
 omega
theorem vD (a:UInt16) (n:Nat):IntKind.u16.wrap ((a.toNat:Int).fdiv (2 ^ (min n 16)))=((vE a n).toNat:Int):=by
 rw [fW,vE,UInt16.toNat_ofNat',Int.fdiv_eq_ediv_of_nonneg _ (Int.le_of_lt (Int.pow_pos (by decide))),show ((a.toNat:Int) / 2 ^ (min n 16))=((a.toNat / 2 ^ (min n 16):Nat):Int) by simp]
 have:=ma (a:=a.toNat) (n:=n) (b:=16) (m:=65536) (by decide) (by have:=a.toNat_lt;simpa using this)
 rw [show (2 ^ 16:Nat)=65536 by decide]
 omega
theorem vG (a:UInt32) (n:Nat):IntKind.u32.wrap ((a.toNat:Int) * 2 ^ (min n 32))=((lL a n).toNat:Int):=by
 rw [wrap_u32',lL,UInt32.toNat_ofNat',show ((a.toNat:Int) * 2 ^ (min n 32))=((a.toNat * 2 ^ (min n 32):Nat):Int) by simp]
 have:=me (a:=a.toNat) (n:=n) (b:=32) (m:=4294967296) (by decide)
 rw [show (2 ^ 32:Nat)=4294967296 by decide]
 omega
theorem vB (a:UInt32) (n:Nat):IntKind.u32.wrap ((a.toNat:Int).fdiv (2 ^ (min n 32)))=((vC a n).toNat:Int):=by
 rw [wrap_u32',vC,UInt32.toNat_ofNat',Int.fdiv_eq_ediv_of_nonneg _ (Int.le_of_lt (Int.pow_pos (by decide))),show ((a.toNat:Int) / 2 ^ (min n 32))=((a.toNat / 2 ^ (min n 32):Nat):Int) by simp]
 have:=ma (a:=a.toNat) (n:=n) (b:=32) (m:=4294967296) (by decide) (by have:=a.toNat_lt;simpa using this)
 rw [show (2 ^ 32:Nat)=4294967296 by decide]
 omega
theorem vF (a:UInt64) (n:Nat):IntKind.u64.wrap ((a.toNat:Int) * 2 ^ (min n 64))=((nW a n).toNat:Int):=by
 rw [fv,nW,UInt64.toNat_ofNat',show ((a.toNat:Int) * 2 ^ (min n 64))=((a.toNat * 2 ^ (min n 64):Nat):Int) by simp]
 have:=me (a:=a.toNat) (n:=n) (b:=64) (m:=18446744073709551616) (by decide)
 rw [show (2 ^ 64:Nat)=18446744073709551616 by decide]
 omega
theorem vA (a:UInt64) (n:Nat):IntKind.u64.wrap ((a.toNat:Int).fdiv (2 ^ (min n 64)))=((lK a n).toNat:Int):=by
 rw [fv,lK,UInt64.toNat_ofNat',Int.fdiv_eq_ediv_of_nonneg _ (Int.le_of_lt (Int.pow_pos (by decide))),show ((a.toNat:Int) / 2 ^ (min n 64))=((a.toNat / 2 ^ (min n 64):Nat):Int) by simp]
 have:=ma (a:=a.toNat) (n:=n) (b:=64) (m:=18446744073709551616) (by decide) (by have:=a.toNat_lt;simpa using this)
 rw [show (2 ^ 64:Nat)=18446744073709551616 by decide]
 omega
theorem mc {w:Nat} {m:Int} (a:Nat) (k:Nat) (h:(a:Int)<m):0≤(a:Int).fdiv (2 ^ k)∧(a:Int).fdiv (2 ^ k)<m:=by
 rw [Int.fdiv_eq_ediv_of_nonneg _ (Int.le_of_lt (Int.pow_pos (by decide)))]
 refine ⟨Int.ediv_nonneg (by omega) (Int.le_of_lt (Int.pow_pos (by decide))),?_⟩
 rw [show ((a:Int) / 2 ^ k)=((a / 2 ^ k:Nat):Int) by simp]
 have:=Nat.div_le_self a (2 ^ k)
 omega
theorem xZ (x y:TV):(Ah x y).tm (xA .shl x y):=by
 intro ws h
 unfold Ah at h
 split at h
 ·rename_i p n hc
  have key:∀{r:TV} {u:IntKind} {a:Int},(iV.under p [r]).holds ws→x.val=some (.int u a)→r.val=some (.int u (u.wrap (a * 2 ^ (min n u.bits))))→∃z:TV,ws=[z]∧xA .shl x y z:=by
   intro r u a h hx hr
   obtain ⟨rfl,hp⟩:=lJ h
   obtain ⟨k,m,h1,h2,rfl⟩:=oB hc hp
   refine ⟨_,rfl,_,_,_,hx,h1,?_,hr⟩
   simp only [gA,Int.not_lt.2 h2,if_false]
  split at h
  ·exact key h rfl (by rw [show IntKind.u8.bits=8 from rfl,ya];rfl)
  ·exact key h rfl (by rw [show IntKind.u16.bits=16 from rfl,vH];rfl)
  ·exact key h rfl (by rw [show IntKind.u32.bits=32 from rfl,vG];rfl)
  ·exact key h rfl (by rw [show IntKind.u64.bits=64 from rfl,vF];rfl)
  ·exact key h rfl rfl
  ·exact h.elim
 ·exact h.elim
theorem xX (x y:TV):(Af x y).tm (xA .shr x y):=by
 intro ws h
 unfold Af at h
 split at h
 ·rename_i p n hc
  have key:∀{r:TV} {u:IntKind} {a:Int},(iV.under p [r]).holds ws→x.val=some (.int u a)→r.val=some (.int u (a.fdiv (2 ^ (min n u.bits))))→∃z:TV,ws=[z]∧xA .shr x y z:=by
   intro r u a h hx hr
   obtain ⟨rfl,hp⟩:=lJ h
   obtain ⟨k,m,h1,h2,rfl⟩:=oB hc hp
   refine ⟨_,rfl,_,_,_,hx,h1,?_,hr⟩
   simp only [gA,Int.not_lt.2 h2,if_false]
  split at h
  ·rename_i a
   have q:=mc (w:=0) a.toNat (min n 8) (m:=256) (by have:=a.toNat_lt;simp at this;omega)
   exact key h rfl (by rw [show IntKind.u8.bits=8 from rfl];simp only [TV.val];rw [←xY,wrap_u8',aI q.1 q.2])
  ·rename_i a
   have q:=mc (w:=0) a.toNat (min n 16) (m:=65536) (by have:=a.toNat_lt;simp at this;omega)
   exact key h rfl (by rw [show IntKind.u16.bits=16 from rfl];simp only [TV.val];rw [←vD,fW,aI q.1 q.2])
  ·rename_i a
   have q:=mc (w:=0) a.toNat (min n 32) (m:=4294967296) (by have:=a.toNat_lt;simp at this;omega)
   exact key h rfl (by rw [show IntKind.u32.bits=32 from rfl];simp only [TV.val];rw [←vB,wrap_u32',aI q.1 q.2])
  ·rename_i a
   have q:=mc (w:=0) a.toNat (min n 64) (m:=18446744073709551616) (by have:=a.toNat_lt;simp at this;omega)
   exact key h rfl (by rw [show IntKind.u64.bits=64 from rfl];simp only [TV.val];rw [←vA,fv,aI q.1 q.2])
  ·exact key h rfl rfl
  ·exact h.elim
 ·exact h.elim
theorem yW {o:BinOp} {k:IntKind} {a b:Int} {ws:List TV} (h:(Br o k a b).holds ws):∃x:TV,ws=[x]∧∃v,x.val=some v∧gA o (.int k a) (.int k b)=some v:=by
 cases o <;> simp only [Br,iV.holds] at h <;> first | exact h.elim | skip
 all_goals first
  | (obtain ⟨hp,rfl⟩:=h;refine ⟨_,rfl,_,rfl,?_⟩;simp only [Bool.not_eq_true',decide_eq_false_iff_not] at hp;simp only [gA,if_true,hp,if_false])
  | (subst h;refine ⟨_,rfl,_,rfl,?_⟩;simp only [gA,if_true,aA,Value.bool.injEq];first | done | (rw [aN];simp))
theorem yU {o:BinOp} {a b:IY} {ws:List TV} (h:(Bq o a b).holds ws):∃x:TV,ws=[x]∧∃v,x.val=some v∧gA o (.string ⟨⟨a⟩⟩) (.string ⟨⟨b⟩⟩)=some v:=by
 cases o <;> simp only [Bq,iV.holds] at h <;> first | exact h.elim | skip
 ·obtain ⟨hp,rfl⟩:=h
  refine ⟨_,rfl,_,rfl,?_⟩
  simp only [gA]
  have hp:a.length+b.length≤9223372036854775807:=by simpa using hp
  rw [al]
  ·simp only [aA,Value.string.injEq]
   apply ByteArray.ext
   apply Array.ext'
   simp
  ·have:IntKind.i64.max=9223372036854775807:=by decide
   rw [this]
   simp only [ByteArray.size,Array.size]
   omega
 ·subst h
  refine ⟨_,rfl,_,rfl,?_⟩
  simp only [gA,gQ,aA,Value.bool.injEq]
  rw [aN];simp
 ·subst h
  refine ⟨_,rfl,_,rfl,?_⟩
  simp only [gA,gQ,aA,Value.bool.injEq]
  rw [aN];simp
 ·subst h
  refine ⟨_,rfl,_,rfl,?_⟩
  show some (Value.bool _)=_
  simp only [gQ]
 ·subst h
  refine ⟨_,rfl,_,rfl,?_⟩
  show some (Value.bool _)=_
  have e:(a == b)=decide (a=b):=by rw [aN];simp
  simp only [gQ,e]
 ·subst h
  refine ⟨_,rfl,_,rfl,?_⟩
  show some (Value.bool _)=_
  have e:(a == b)=decide (a=b):=by rw [aN];simp
  simp only [gQ,e]
 ·subst h
  refine ⟨_,rfl,_,rfl,?_⟩
  show some (Value.bool _)=_
  simp only [gQ]
theorem yK {o:BinOp} {a b:Value} {ws:List TV} (h:(A4 o a b).holds ws):∃x:TV,ws=[x]∧∃v,qN o a b=some v∧x.val=some v:=by
 unfold A4 at h
 split at h
 ·obtain ⟨h1,rfl⟩:=h;exact ⟨_,rfl,_,aq h1,rfl⟩
 ·obtain ⟨h1,rfl⟩:=h;exact ⟨_,rfl,_,aq h1,rfl⟩
 ·obtain ⟨h1,rfl⟩:=h;exact ⟨_,rfl,_,aq h1,rfl⟩
 ·cases h;exact ⟨_,rfl,_,rfl,rfl⟩
 ·cases h;exact ⟨_,rfl,_,rfl,rfl⟩
 ·cases h;exact ⟨_,rfl,_,rfl,rfl⟩
 ·cases h;exact ⟨_,rfl,_,rfl,rfl⟩
 ·cases h;exact ⟨_,rfl,_,rfl,rfl⟩
 ·cases h;exact ⟨_,rfl,_,rfl,rfl⟩
 ·obtain ⟨h1,rfl⟩:=h;exact ⟨_,rfl,_,aq h1,rfl⟩
 ·obtain ⟨h1,rfl⟩:=h;exact ⟨_,rfl,_,aq h1,rfl⟩
 ·exact h.elim
theorem uJ {o:BinOp} {a b v:Value} (h:qN o a b=some v) (h1:mi o=none):gA o a b=some v:=by
 unfold qN at h
 split at h <;> first | (cases h;done) | exact h
theorem yS (o:BinOp) (x y:TV):(yT o x y).tm (xA o x y):=by
 intro ws h
 unfold yT at h
 split at h
 ·rename_i e
  have:o = .shl:=by cases o <;> simp [mi] at e ⊢
  subst this
  exact xZ x y ws h
 ·rename_i e
  have:o = .shr:=by cases o <;> simp [mi] at e ⊢
  subst this
  exact xX x y ws h
 ·split at h
  ·obtain ⟨x,h1,v,h2,h3⟩:=yX h;exact ⟨x,h1,_,_,v,rfl,rfl,h3,h2⟩
  ·obtain ⟨x,h1,v,h2,h3⟩:=xn h;exact ⟨x,h1,_,_,v,rfl,rfl,h3,h2⟩
  ·obtain ⟨x,h1,v,h2,h3⟩:=xl h;exact ⟨x,h1,_,_,v,rfl,rfl,h3,h2⟩
  ·obtain ⟨x,h1,v,h2,h3⟩:=xj h;exact ⟨x,h1,_,_,v,rfl,rfl,h3,h2⟩
  ·split at h
   ·rename_i e
    subst e
    obtain ⟨x,h1,v,h2,h3⟩:=yW h;exact ⟨x,h1,_,_,v,rfl,rfl,h3,h2⟩
   ·exact h.elim
  ·obtain ⟨x,h1,v,h2,h3⟩:=yU h;exact ⟨x,h1,_,_,v,rfl,rfl,h3,h2⟩
  ·rename_i e _ _ _ _
   obtain ⟨x,h1,v,h2,h3⟩:=yK h
   exact ⟨x,h1,_,_,v,rfl,rfl,uJ h2 (by assumption),h3⟩
  ·exact h.elim
theorem yl (a:UInt8):intBitsV .xor .u8 (if IntKind.u8.signed then -1 else IntKind.u8.max) a.toNat=((~~~a).toNat:Int):=by
 have em:(if IntKind.u8.signed then (-1:Int) else IntKind.u8.max)=255:=by decide
 have e:BitVec.ofInt 8 255=BitVec.allOnes 8:=by decide
 rw [em]
 simp only [intBitsV,IntKind.bits]
 rw [e,ofInt_u8,wrap_u8']
 show (((BitVec.allOnes 8 ^^^ a.toBitVec:BitVec 8).toNat:Int)) % 256=_
 rw [BitVec.allOnes_xor]
 have:=(~~~a).toNat_lt
 simp only [UInt8.toNat,UInt8.toBitVec_not] at this ⊢
 omega
theorem vW (a:UInt16):intBitsV .xor .u16 (if IntKind.u16.signed then -1 else IntKind.u16.max) a.toNat=((~~~a).toNat:Int):=by
 have em:(if IntKind.u16.signed then (-1:Int) else IntKind.u16.max)=65535:=by decide
 have e:BitVec.ofInt 16 65535=BitVec.allOnes 16:=by decide
 rw [em]
 simp only [intBitsV,IntKind.bits]
 rw [e,ofInt_u16,fW]
 show (((BitVec.allOnes 16 ^^^ a.toBitVec:BitVec 16).toNat:Int)) % 65536=_
 rw [BitVec.allOnes_xor]
 have:=(~~~a).toNat_lt
 simp only [UInt16.toNat,UInt16.toBitVec_not] at this ⊢
 omega
theorem vV (a:UInt32):intBitsV .xor .u32 (if IntKind.u32.signed then -1 else IntKind.u32.max) a.toNat=((~~~a).toNat:Int):=by
 have em:(if IntKind.u32.signed then (-1:Int) else IntKind.u32.max)=4294967295:=by decide
 have e:BitVec.ofInt 32 4294967295=BitVec.allOnes 32:=by decide
 rw [em]
 simp only [intBitsV,IntKind.bits]
 rw [e,ofInt_u32,wrap_u32']
 show (((BitVec.allOnes 32 ^^^ a.toBitVec:BitVec 32).toNat:Int)) % 4294967296=_
 rw [BitVec.allOnes_xor]
 have:=(~~~a).toNat_lt
 simp only [UInt32.toNat,UInt32.toBitVec_not] at this ⊢
 omega
theorem vU (a:UInt64):intBitsV .xor .u64 (if IntKind.u64.signed then -1 else IntKind.u64.max) a.toNat=((~~~a).toNat:Int):=by
 have em:(if IntKind.u64.signed then (-1:Int) else IntKind.u64.max)=18446744073709551615:=by decide
 have e:BitVec.ofInt 64 18446744073709551615=BitVec.allOnes 64:=by decide
 rw [em]
 simp only [intBitsV,IntKind.bits]
 rw [e,ofInt_u64,fv]
 show (((BitVec.allOnes 64 ^^^ a.toBitVec:BitVec 64).toNat:Int)) % 18446744073709551616=_
 rw [BitVec.allOnes_xor]
 have:=(~~~a).toNat_lt
 simp only [UInt64.toNat,UInt64.toBitVec_not] at this ⊢
 omega
theorem z6 (o : UnOp) (x : TV) : (DD o x).tm (fun z => ∃ a v, x.val = some a ∧ Ef o a = some v ∧ z.val = some v) := by
  intro ws h
  unfold DD at h
  split at h <;> first
    | exact h.elim
    | (cases h; exact ⟨_, rfl, _, _, rfl, rfl, rfl⟩)
    | (cases h; refine ⟨_, rfl, _, _, rfl, rfl, ?_⟩
       rename_i a
       have := a.toNat_lt
       simp only [TV.val, aA, Value.int.injEq, true_and]
       first
         | (rw [wrap_u8', UInt8.toNat_sub]; simp; omega)
         | (rw [fW, UInt16.toNat_sub]; simp; omega)
         | (rw [wrap_u32', UInt32.toNat_sub]; simp; omega)
         | (rw [fv, UInt64.toNat_sub]; simp; omega)
         | exact (yl a).symm | exact (vW a).symm | exact (vV a).symm | exact (vU a).symm)
end Go.Eng
namespace Go.Eng
open Go.RowKit
def jH (P:Program) (t:TypeId):Bool:=match P.underlying t with
 | some (.struct fs)=>fs.toList.all fun f=>(P.info? f.type).isSome
 | some (.array _ e)=>(P.info? e).isSome
 | _=>false
structure fj (P:Program) (E:cz):Prop where
 mixed:P.follows .mixedOrders=true
 ty:∀t st b,E.ty t=some (st,b)→∃e i z,P.underlying t=some (.slice e)∧P.info? e=some i∧i.size=st.size∧i.bytes=b∧i.zero=some z∧z.cells.size=st.size∧∀R w,bV R w (st.tv st.iH).cells z.cells.toList
 z:∀t l,E.z t=some l→jH P t=true∧∃v,(P.info? t).bind (·.zero)=some v∧jm v.cells.toList l=true
section
variable {R:Reach} {w:World}
theorem yu {k : IntKind} {n : Int} {x : TV} (h : Az k n = some x) : x.val = some (.int k n) := by
  unfold Az at h
  split at h <;> first
    | (obtain ⟨h1, h2⟩ := br.1 h
       cases h2
       simp only [ae, aF] at h1
       simp [TV.val]
       omega)
    | (cases h; rfl)
theorem xV (s:ByteArray):(⟨⟨s.data.toList⟩⟩:ByteArray)=s:=rfl
theorem Aj {v:Value} {x:TV} (h:Ej v=some x):x.val=some v:=by
 unfold Ej at h
 split at h <;> first | exact yu h | (cases h;done) | (cases h;rfl)
theorem mE {v:Value} {x:TV} (h:sG v x=true):Rep R w x v∧v.oneCell'=true:=by
 unfold sG at h
 split at h <;> first | (cases h;done) | skip
 ·exact ⟨.nl _,rfl⟩
 all_goals simp only [beq_iff_eq,ae] at h
 ·subst h;exact ⟨.sc rfl,rfl⟩
 ·subst h;exact ⟨.sc rfl,rfl⟩
 ·subst h;exact ⟨.sc rfl,rfl⟩
 ·subst h;exact ⟨.sc rfl,rfl⟩
 ·subst h;exact ⟨.sc rfl,rfl⟩
 ·obtain ⟨rfl,rfl⟩:=h;exact ⟨.sc rfl,rfl⟩
 ·subst h;exact ⟨.sc (by simp only [TV.val,xV]),rfl⟩
 ·obtain ⟨rfl,rfl⟩:=h;exact ⟨.sc rfl,rfl⟩
 ·obtain ⟨⟨rfl,rfl⟩,rfl⟩:=h;exact ⟨.sc rfl,rfl⟩
 ·exact ⟨.sc rfl,rfl⟩
 ·exact ⟨.sc rfl,rfl⟩
 ·exact ⟨.sc rfl,rfl⟩
theorem jM:∀{vs:List Value} {xs:List TV},jm vs xs=true→bV R w xs vs
 | [],[],_ => .nil
 | v :: vs,x :: xs,h=>by
  simp only [jm,ae] at h
  exact .cons (mE (R:=R) (w:=w) h.1).2 (mE h.1).1 (jM h.2)
 | [],_ :: _,h=>by simp [jm] at h
 | _ :: _,[],h=>by simp [jm] at h
theorem Rep.dx {x:TV} {u v:Value} (h:Rep R w x v) (hx:x.val=some u):v=u:=by
 cases h <;> first | (simp [TV.val] at hx;done) | (rename_i h;rw [h] at hx;exact Option.some.inj hx)
end
section
variable {P:Program}
theorem dU {t:TypeId} {n:Nat} {agg:Bool} (h:fm P t=some (n,agg)):∃i,P.info? t=some i∧i.size=n∧∀w,(isAgg t).run P w = .ok agg w:=by
 unfold fm at h
 rw [aE] at h
 obtain ⟨i,h1,h2⟩:=h
 rw [aG] at h2
 obtain ⟨d,hd,h2⟩:=h2
 simp only [Prod.mk.injEq] at h2
 refine ⟨i,h1,h2.1,fun w=>?_⟩
 unfold isAgg
 simp only [Sem.run_bind,run_underlying hd,Result.andThen_ok]
 rw [←h2.2]
 cases d <;> rfl
theorem lS {t:TypeId} {f:Nat} {fl:Field} (h:lA P t f=some fl):∃fs,P.underlying t=some (.struct fs)∧fs[f]?=some fl:=by
 unfold lA at h
 cases hu:P.underlying t with
 | none=>simp [hu] at h
 | some d=>simp only [hu,Option.bind_some] at h;split at h <;> simp_all
theorem run_sizeOf {t:TypeId} {i:TypeInfo} (h:P.info? t=some i) (w:World):(sizeOf t).run P w = .ok i.size w:=by simp [sizeOf,typeInfo,h]
theorem fe {t:TypeId} {i:TypeInfo} {agg:Bool} (hi:P.info? t=some i) (ha:∀w,(isAgg t).run P w = .ok agg w) (h1:agg=true∨i.size=1) {w:World} {b off:Nat} {ys:List Value} (hl:ys.length=i.size)
  (hc:∀j y,ys[j]?=some y→w.cell? ⟨b,off+j,none⟩=some y):(loadVar t ⟨b,off,none⟩).run P w = .ok (if agg then .agg ⟨ys⟩ else ys.headD undef) w:=by
 unfold loadVar
 simp only [Sem.run_bind,ha,Result.andThen_ok]
 cases agg with
 | true =>
  have:=run_loadCells_list (P:=P) w ⟨b,off,none⟩ ys (fun j v hj=>by
   have h:=hc j v hj
   unfold Addr.add
   split
   ·rename_i e;subst e;exact h
   ·exact h)
  simp [run_sizeOf hi,←hl,this]
 | false =>
  have hs:i.size=1:=by simpa using h1
  match ys,hl with
  | [y],_ =>
   have:=hc 0 y rfl
   simp at this
   simp [this]
  | [],hl=>simp [hs] at hl
  | _ :: _ :: _,hl=>simp [hs] at hl
end
theorem vx {α:Type} {l:List α} {i:Nat} (h:i<l.length):(l.drop i).take 1=[l[i]]:=by
 rw [List.drop_eq_getElem_cons h,List.take_succ_cons,List.take_zero]
theorem bsize (b:ByteArray):b.data.toList.length=b.size:=by rw [Array.length_toList];rfl
theorem addr_add (b off n:Nat):(⟨b,off,none⟩:Addr).add n=⟨b,off+n,none⟩:=by
 unfold Addr.add;split
 ·rename_i e;subst e;rfl
 ·rfl
section
variable {R:Reach} {w:World}
theorem Rep.rL {t:ez} {l:List t.El} {y:Value} (h:Rep R w (.sl t l) y) :
  (l=[]∧y = .slice none 0 0)∨(∃b off cap,y = .slice (some ⟨b,off,none⟩) l.length cap∧l.length≤cap∧cap≤maxLen∧fF R w t.size (l.map t.tv) b off)∨(l=[]∧∃ad cap,y = .slice (some ad) 0 cap∧cap≤maxLen):=by
 cases h with
 | sc h=>cases h
 | sn=>exact .inl ⟨rfl,rfl⟩
 | sl h1 h2 h3 h4=>subst h1;exact .inr (.inl ⟨_,_,_,rfl,h2,h3,h4⟩)
 | em _ h=>exact .inr (.inr ⟨rfl,_,_,rfl,h⟩)
theorem Rep.rS {x:TV} {y:Value} (h:Rep R w (.ro x) y):∃b off s,y = .pointer (some ⟨b,off,none⟩)∧gC R w s x b off:=by
 cases h with
 | sc h=>cases h
 | ro h=>exact ⟨_,_,_,rfl,h⟩
theorem Rep.xx {cs:List TV} {y:Value} (h:Rep R w (.ag cs) y):∃ys,y = .agg ⟨ys⟩∧bV R w cs ys:=by
 cases h with
 | sc h=>cases h
 | ag h=>exact ⟨_,rfl,h⟩
theorem Rep.Aa {cs:List TV} {y:Value} (h:Rep R w (.tu cs) y):∃ys,y = .tuple ⟨ys⟩∧dX R w cs ys:=by
 cases h with
 | sc h=>cases h
 | tu h=>exact ⟨_,rfl,h⟩
theorem Cl {x:TV} {ys:List Value} (h:bV R w x.cells ys):Rep R w x (if x.lV then .agg ⟨ys⟩ else ys.headD undef):=by
 cases x with
 | ag cs=>exact .ag h
 | _ =>
  simp only [TV.cells,TV.lV] at h ⊢
  cases h with
  | cons _ h1 h2=>cases h2;simpa using h1
theorem jx {cs:List TV} {ys:List Value} {o n:Nat} {agg:Bool} {x:TV} (h:bV R w cs ys) (hp:iy cs o n agg=some x) (h1:agg=true∨n=1) :
  ((ys.drop o).take n).length=n∧Rep R w x (if agg then .agg ⟨(ys.drop o).take n⟩ else ((ys.drop o).take n).headD undef):=by
 have hlen:=h.length
 unfold iy at hp
 cases agg with
 | true =>
  cases hb:Nat.ble (o+n) cs.length with
  | true =>
   rw [hb] at hp
   cases hp
   have:=Nat.le_of_ble_eq_true hb
   exact ⟨by simp;omega,.ag ((h.drop o).take n)⟩
  | false=>rw [hb] at hp;cases hp
 | false =>
  simp at h1
  subst h1
  simp at hp
  obtain ⟨y,uA,_,yw⟩:=h.get o x hp
  have eL:=(av.1 uA).1
  refine ⟨by simp;omega,?_⟩
  have:(ys.drop o).take 1=[y]:=by
   rw [vx eL,(av.1 uA).2]
  simpa [this] using yw
end
section
variable {C:Ctx} {S V:St} {a:Act} {w:World} {R:Reach} {τ:Nat→Value} {o:Oper} {d:Nat}
theorem cp.no {x:TV} {v:Value} (h:Rep R w x v):cp R w τ x .no v:=by
 cases x with
 | gd q x=>cases q with
  | false=>cases h with
   | sc h=>cases h
   | Dd=>rfl
  | true=>cases h with
   | sc h=>cases h
   | B5 h=>exact h
 | _=>exact h
def cL (C:Ctx) (o:Oper) (a:Act) (w:World) (S:St):Prop:=∀(K:Act→World→Prop) (Q:Exit→Act→World→Prop),(∀a' w',lH C S a' w'→K a' w')→o.wp C.P a w K Q
theorem cC.fz (h:cC C S a w R τ) {S':St} {R':Reach} (hc:Core C.nt R' w C.b9 τ S') (k:Fz C.b9 R w R'):cC C S' a w R' τ :=
 { h with core:=hc,ext:=h.ext.reach k.1 k.2,gl:=h.gl.cj k.1 }
theorem cC.val (h:cC C S a w R τ) (hd:o.dst=some d) (hl:d<C.nt) {v:Value} {x:TV} {g:Gh} (hr:(execOp a.eval o).run C.P w = .ok (.value v) w) (hs:cp R w τ x g v) (hg:g.slot=true)
  (hm:∀k∈g.bN,C.nt≤k∧(S k).2 ≠ .no):cL C o a w (bL S d (x,g)):=fun K Q hK=>by
 unfold Oper.wp
 rw [hr,Oper.upon_value,hd]
 refine hK _ _ ⟨R,_,by simp [Act.put,h.size],h.defers,h.core.put hl hs hg hm,fun t ht=>?_,⟨h.io.1,fun k hk=>?_⟩,h.ext,h.gl⟩
 ·by_cases e:t=d
  ·subst e;rw [de];simp [Act.put,Array.getD,h.size,ht]
  ·rw [dm _ _ e,←h.tmps t ht]
   simp only [Act.put,Array.getD_eq_getD_getElem?]
   rw [Array.getElem?_setIfInBounds_ne (Ne.symm e)]
 ·have:=h.io.1
  rw [dm _ _ (by omega)];exact h.io.2 k hk
theorem cC.eA (h:cC C S a w R τ) (hd:o.dst=some d) (hl:d<C.nt) {v:Value} {x:TV} (hr:(execOp a.eval o).run C.P w = .ok (.value v) w) (hs:Rep R w x v):cL C o a w (bL S d (x,.no)) :=
 h.val hd hl hr (.no hs) rfl (by simp [Gh.bN])
theorem cp.at {x:TV} {g:Gh} {v:Value} (h:cp R w τ x g v) (hx:∀q y,x ≠ .gd q y):fg R w τ x g v:=by
 unfold cp at h
 split at h
 ·exact (hx _ _ rfl).elim
 ·exact (hx _ _ rfl).elim
 ·exact h
variable (h:cC C S a w R τ) (hV:Lt V S)
include h hV
theorem dO {t:TypeId} {x:Operand} {c:Cell} (he:dQ C.E C.nt V t x=some c):cp R w τ c.1 c.2 (a.eval x)∧c.2.slot=true∧∀m∈c.2.bN,C.nt≤m∧(S m).2 ≠ .no:=by
 unfold dQ at he
 split at he
 ·rename_i i
  obtain ⟨h1,h2⟩:=br.1 he
  have hi:i<C.nt:=Nat.le_of_ble_eq_true h1
  split at h2
  ·cases h2
  ·rename_i hn
   cases h2
   have e:V i=S i:=(hV i).resolve_right fun e=>hn (V i).1 (by rw [←e])
   have hk:=h.core.key i
   have hs:=h.core.slt i hi
   rw [fi.slot hs] at hk
   rw [e]
   exact ⟨by simp only [Act.eval];rw [h.tmps i hi];exact hk,hs,h.core.inv i⟩
 ·rename_i v
  simp only [aG] at he
  obtain ⟨y,h1,rfl⟩:=he
  refine ⟨?_,rfl,by simp [Gh.bN]⟩
  have hr:Rep R w y v:=by
   unfold wZ at h1
   split at h1
   ·simp only [aG] at h1
    obtain ⟨p,_,rfl⟩:=h1
    exact .nl _
   ·rename_i cs
    rw [aE] at h1
    obtain ⟨z,_,h1⟩:=h1
    obtain ⟨h2,h3⟩:=br.1 h1
    cases h3
    clear h1
    cases cs
    exact .ag (jM h2)
   ·exact .sc (Aj h1)
  exact .no hr
 ·cases he;exact ⟨Rep.sc rfl,rfl,by simp [Gh.bN]⟩
 ·cases he
theorem cN {t:TypeId} {x:Operand} {y:TV} (he:dQ C.E C.nt V t x=some (y,.no)):Rep R w y (a.eval x):=fg.rep (dO h hV he).1
theorem iA {x:Operand} {n:Int} (he:kp C.E C.nt V x=some n):∃k,a.eval x = .int k n:=by
 unfold kp at he
 split at he
 ·rename_i y e
  simp only [aG] at he
  obtain ⟨⟨k,m⟩,h1,rfl⟩:=he
  exact ⟨k,(cN h hV e).dx (TV.qB h1)⟩
 ·cases he
theorem oU {t:TypeId} {x:Operand} {c:Cell} {y:TV} (he:dQ C.E C.nt V t x=some c) (hr:nC V c=some y) :
  (∃t l,y = .sl t l∧∃k,c=(.pt,.cM k)∧a.eval x=τ k∧∃p,cP R w p (a.eval x) y)∨Rep R w y (a.eval x):=by
 obtain ⟨h1,_,_⟩:=dO h hV he
 obtain ⟨z,g⟩:=c
 cases g with
 | no =>
  simp only [nC,aA] at hr
  subst hr
  exact .inr (oZ (fg.rep h1))
 | cM k =>
  cases z <;> try (simp only [nC] at hr;cases hr)
  have h1:a.eval x=τ k:=h1.1
  simp only [nC] at hr
  have hk:=h.core.key k
  have DE:∀{p y},cP R w p (τ k) y→∃t l,y = .sl t l∧∃q,(.pt,Gh.cM k)=(TV.pt,Gh.cM q)∧a.eval x=τ q∧∃p,cP R w p (a.eval x) y:=fun {p y} hs=>by
   obtain ⟨t,l,e,_⟩:=id hs;exact ⟨t,l,e,k,rfl,h1,_,by rw [h1];exact hs⟩
  split at hr <;> first | (cases hr;done) | (rename_i e;cases hr;have e:=hV.of e)
  ·left;rw [e] at hk;exact DE hk
  ·left;rw [e] at hk;exact DE hk
  ·right;rw [e] at hk;rw [h1];exact hk
  ·left;exact DE (h.core.waits e)
  ·left;rw [e] at hk;exact DE hk
 | _=>simp only [nC] at hr;cases hr
end
end Go.Eng
namespace Go.Eng
open Go.RowKit
theorem iV.sk {r:iV} {e:dP} (h:r.zR=some e) (hp:∀p,e.p=some p→p=true):∃x,r.holds [x]∧e.x=(x,.no)∧e.ws=[]:=by
 unfold iV.zR at h
 split at h <;> cases h
 ·exact ⟨_,rfl,rfl,rfl⟩
 ·exact ⟨_,⟨hp _ rfl,rfl⟩,rfl,rfl⟩
theorem kS {S:St} {e:dP} {x:Cell} {d:Nat} {o:Oper} (hd:o.dst=some d) (h1:e.x=x) (h2:e.ws=[]):eJ S o.dst e=bL S d x:=by rw [hd];unfold eJ;rw [h1,h2];rfl
theorem xh {P:Program} {w:World} {op:BinOp} {t:TypeId} {x y z:Value} (h:gA op x y=some z):(binOp op t x y).run P w = .ok z w:=by
 unfold gA at h
 split at h
 all_goals repeat' split at h
 all_goals first
  | (cases h;done)
  | (cases h;simp only [binOp,Op.shift,Sem.run_ite];rw [al (by assumption)];rfl)
  | (cases h;simp_all [binOp,Op.shift,Op.intArith,Op.intDiv,Op.intBits,Op.intCmp,Op.stringOp,intBitsV];done)
  | exact wI h
  | skip
theorem xS {P:Program} {w:World} {op:UnOp} {x z:Value} (h:Ef op x=some z):(Op.unary op x).run P w = .ok z w:=by
 unfold Ef at h
 split at h <;> cases h <;> first | exact nG | simp [Op.unary,Op.intArith,Op.intBits,intBitsV]
theorem vP {t:Bool} {x y z:TV} (h:vQ t x y=some z):z=if t then x else y:=by
 unfold vQ at h
 split at h <;> first | (cases h <;> cases t <;> rfl) | skip
 split at h
 ·rename_i e;subst e;cases h;cases t <;> rfl
 ·cases h
theorem TV.rl {R:Reach} {w:World} {x:TV} {v:Value} (h:Rep R w x v) (hq:∀q,x.xd=some q→q=true):Rep R w x.bare v:=by
 cases x with
 | gd q x =>
  have:=hq q rfl
  subst this
  cases h with
  | sc h=>cases h
  | B5 h=>exact h
 | _=>exact h
theorem uf {R:Reach} {w:World} {t:Bool} {x y z:TV} {v:Value} (h:(sU t x y).holds [z]) (hr:Rep R w (if t then x else y) v):Rep R w z v:=by
 unfold sU at h
 split at h
 ·rename_i u hu
  have hu:=vP hu
  have key:((t=true→∀q,x.xd=some q→q=true)∧(t=false→∀q,y.xd=some q→q=true))∧z=u:=by
   split at h <;> rename_i c1 c2 <;> rw [c1,c2]
   ·cases h;exact ⟨⟨by simp,by simp⟩,rfl⟩
   ·obtain ⟨h,e⟩:=h;cases e;exact ⟨⟨by rintro rfl q e;cases e;simpa using h,by simp⟩,rfl⟩
   ·obtain ⟨h,e⟩:=h;cases e;exact ⟨⟨by simp,by rintro rfl q e;cases e;simpa using h⟩,rfl⟩
   ·obtain ⟨h,e⟩:=h;cases e;exact ⟨⟨by rintro rfl q e;cases e;simpa using h,by rintro rfl q e;cases e;simpa using h⟩,rfl⟩
  obtain ⟨⟨k1,k2⟩,rfl⟩:=key
  rw [hu]
  cases t with
  | true=>exact TV.rl hr (k1 rfl)
  | false=>exact TV.rl hr (k2 rfl)
 ·exact h.elim
theorem qA {P:Program} {f:Field} {k:Nat} (h:s8 P f k=true):f.name ≠ "_" ∧ f.offset=k∧P.underlying f.type=some (.int .u64):=by
 unfold s8 at h
 simp only [ae,bne_iff_ne] at h
 obtain ⟨⟨h1,h2⟩,h3⟩:=h
 refine ⟨h1,aj h2,?_⟩
 split at h3
 ·assumption
 ·cases h3
theorem sI (a b:UInt64):((a.toNat:Int) == (b.toNat:Int))=decide (a=b):=by
 by_cases e:a=b
 ·simp [e]
 ·have:¬(a.toNat:Int)=(b.toNat:Int):=fun h=>e (bp.1 (by omega))
  simp [e,this]
theorem yN {P:Program} {w:World} {t:TypeId} {fs:Array Field} {a b c d:UInt64} {r:Bool} (ht:P.underlying t=some (.struct fs)) (he:B6 P t fs (.ag [.u64 a,.u64 b]) (.ag [.u64 c,.u64 d])=some r) :
  (Op.equalIn 10000 t (.agg ⟨[.int .u64 a.toNat,.int .u64 b.toNat]⟩) (.agg ⟨[.int .u64 c.toNat,.int .u64 d.toNat]⟩)).run P w = .ok r w∧P.eqGuardType P.depth t=false:=by
 unfold B6 at he
 split at he
 ·rename_i f g a' b' c' d' hf hx hy
  obtain ⟨h1,h2⟩:=br.1 he
  cases hx;cases hy;cases h2
  simp only [ae,Bool.not_eq_true'] at h1
  obtain ⟨⟨⟨h1,h2⟩,h3⟩,h4⟩:=h1
  obtain ⟨n1,o1,u1⟩:=qA h1
  obtain ⟨n2,o2,u2⟩:=qA h2
  have ef:P.fieldsOf t=fs:=by simp [Program.fieldsOf,ht]
  have p1:P.plainKey f.type=true:=by simp [Program.plainKey,u1]
  have p2:P.plainKey g.type=true:=by simp [Program.plainKey,u2]
  refine ⟨?_,h4⟩
  rw [show (10000:Nat)=9999+1 from rfl,run_equalIn_struct w 9999 t _ _ (by rw [ef];exact ht) h3,ef,hf]
  simp only [Op.eqFields,n1,n2,ne_eq,not_false_eq_true,if_true,Sem.run_bind,o1,o2]
  rw [run_part_plain w p1 (v := .int .u64 a.toNat) rfl]
  simp only [Result.andThen_ok]
  rw [run_part_plain w p1 (v := .int .u64 c.toNat) rfl]
  simp only [Result.andThen_ok]
  rw [show (9999:Nat)=9998+1 from rfl,run_equalIn_int w 9998 f.type .u64 .u64 _ _ u1]
  simp only [Result.andThen_ok,sI]
  cases decide (a=c) with
  | false=>simp
  | true =>
   simp only [aK,bd,if_false,Bool.true_and,Sem.run_bind]
   rw [run_part_plain w p2 (v := .int .u64 b.toNat) rfl]
   simp only [Result.andThen_ok]
   rw [run_part_plain w p2 (v := .int .u64 d.toNat) rfl]
   simp only [Result.andThen_ok]
   rw [run_equalIn_int w 9998 g.type .u64 .u64 _ _ u2]
   simp only [Result.andThen_ok,sI]
   cases decide (b=d) <;> simp
 ·cases he
section
variable {C:Ctx} {S V:St} {a:Act} {w:World} {R:Reach} {τ:Nat→Value} {o:Oper} {d:Nat} (h:cC C S a w R τ) (hV:Lt V S) (hd:o.dst=some d) (hl:d<C.nt)
include h hV hd hl
theorem go_move {x:Operand} {t:TypeId} {c:Cell} (ho:o.op = .move x∨o.op = .assign x) (he:dQ C.E C.nt V t x=some c):cL C o a w (bL S d c):=by
 obtain ⟨h1,h2,h3⟩:=dO h hV he
 exact h.val hd hl (v:=a.eval x) (by rcases ho with e | e <;> simp [execOp,e]) h1 h2 h3
theorem go_pick {c x y:Operand} {t:TypeId} {b:Bool} {u v z:TV} (ho:o.op = .pick c x y) (hc:dQ C.E C.nt V 0 c=some (.b b,.no)) (hx:dQ C.E C.nt V t x=some (u,.no)) (hy:dQ C.E C.nt V t y=some (v,.no)) (hz:(sU b u v).holds [z]):cL C o a w (bL S d (z,.no)):=by
 have hb:=(cN h hV hc).dx rfl
 refine h.eA hd hl (v:=if b then a.eval x else a.eval y) (by cases b <;> simp [execOp,ho,hb,asBool]) (uf hz ?_)
 cases b with
 | true=>exact cN h hV hx
 | false=>exact cN h hV hy
theorem go_bin {b:BinOp} {t u:TypeId} {x y:Operand} {p q:TV} {z:TV} (ho:o.op = .binOp b t x y u) (hx:dQ C.E C.nt V t x=some (p,.no)) (hy:dQ C.E C.nt V u y=some (q,.no)) (hz:(yT b p q).holds [z]):cL C o a w (bL S d (z,.no)):=by
 obtain ⟨z',e,p',q',v,e1,e2,e3,e4⟩:=yS _ _ _ _ hz
 cases e
 have hp:=(cN h hV hx).dx e1
 have hq:=(cN h hV hy).dx e2
 have hg:eqGuard b t x y p' q'=pure ():=by
  unfold gA at e3
  split at e3 <;> first | (cases e3;done) | exact sb e3 | (unfold eqGuard;split <;> simp_all)
 exact h.eA hd hl (v:=v) (by simp only [execOp,ho,hp,hq,hg,Sem.run_bind,Sem.run_pure,Result.andThen_ok,xh e3]) (.sc e4)
theorem go_be {neg:Bool} {b:BinOp} {t u:TypeId} {x y:Operand} {p q:Bool} (ho:o.op = .binOp b t x y u) (hb:b=if neg then .neq else .eql) (ht:C.P.underlying t=some .bool) (hx:dQ C.E C.nt V t x=some (.b p,.no)) (hy:dQ C.E C.nt V u y=some (.b q,.no)) :
  cL C o a w (bL S d (.b (if neg then !(p == q) else p == q),.no)):=by
 have hp:=(cN h hV hx).dx rfl
 have hq:=(cN h hV hy).dx rfl
 have hg:eqGuard b t x y (.bool p) (.bool q)=pure ():=by unfold eqGuard;cases neg <;> simp [hb]
 have he:(Op.equal t (.bool p) (.bool q)).run C.P w = .ok (p == q) w:=by
  unfold Op.equal Op.maxDepth
  rw [show (10000:Nat)=9999+1 from rfl,Op.equalIn]
  simp [run_underlying ht]
 refine h.eA hd hl (v := .bool (if neg then !(p == q) else p == q)) ?_ (.sc rfl)
 simp only [execOp,ho,hp,hq,hg,Sem.run_bind,Sem.run_pure,Result.andThen_ok]
 cases neg <;> simp [hb,binOp,he]
theorem go_es {b:BinOp} {t u:TypeId} {x y:Operand} {p q:TV} {fs:Array Field} {r:Bool} (neg:Bool) (ho:o.op = .binOp b t x y u) (hb:b=if neg then .neq else .eql) (ht:C.P.underlying t=some (.struct fs)) (hx:dQ C.E C.nt V t x=some (p,.no)) (hy:dQ C.E C.nt V u y=some (q,.no)) (he:B6 C.P t fs p q=some r) :
  cL C o a w (bL S d (.b (if neg then !r else r),.no)):=by
 have hp:=cN h hV hx
 have hq:=cN h hV hy
 have kN:=he
 unfold B6 at kN
 split at kN
 ·rename_i f g a1 b1 c1 d1 hf
  have two:∀{a b:UInt64} {v:Value},Rep R w (.ag [.u64 a,.u64 b]) v→v = .agg ⟨[.int .u64 a.toNat,.int .u64 b.toNat]⟩:=fun hv=>by
   cases hv with
   | sc e=>cases e
   | ag l=>cases l with
    | cons _ h1 l=>cases l with
     | cons _ h2 l=>cases l;rw [h1.dx rfl,h2.dx rfl]
  obtain ⟨e1,e2⟩:=yN (w:=w) ht he
  refine h.eA hd hl (v := .bool (if neg then !r else r)) ?_ (.sc rfl)
  simp only [execOp,ho,two hp,two hq,Sem.run_bind,run_eqGuard_agg w b t x y _ _ e2,Result.andThen_ok]
  cases neg with
  | false=>simp only [hb,bd,if_false,run_eql_struct,e1,Result.andThen_ok];rfl
  | true=>simp only [hb,if_true,run_neq_struct,e1,Result.andThen_ok];rfl
 ·cases kN
theorem go_nl {t u e:TypeId} {x y:Operand} {c:Cell} {st st':ez} {l:List st.El} (ho:o.op = .binOp .eql t x y u) (ht:C.P.underlying t=some (.slice e)) (hx:dQ C.E C.nt V t x=some c) (hr:nC V c=some (.sl st l)) (hy:dQ C.E C.nt V u y=some (.nl st',.no)) :
  cL C o a w (bL S d (.ub l.isEmpty,.no)):=by
 have hp:=oU h hV hx hr
 have hq:a.eval y = .slice none 0 0:=by
  have:=cN h hV hy
  generalize a.eval y=v at this
  cases this with
  | sc h=>cases h
  | nl=>rfl
 have run:∀{q:Option Addr} {n k:Nat},(binOp .eql t (.slice q n k) (.slice none 0 0)).run C.P w = .ok (.bool q.isNone) w:=fun {q n k}=>by
  have he:(Op.equal t (.slice q n k) (.slice none 0 0)).run C.P w = .ok q.isNone w:=by
   unfold Op.equal Op.maxDepth
   rw [show (10000:Nat)=9999+1 from rfl,Op.equalIn]
   cases q <;> simp [run_underlying ht]
  simp [binOp,he]
 have gd:∀{v:Value},eqGuard .eql t x y v (.slice none 0 0)=pure ():=fun {v}=>by unfold eqGuard;split <;> simp_all
 have fin:∀{q:Option Addr} {n k:Nat},a.eval x = .slice q n k→(q=none→l=[])→cL C o a w (bL S d (.ub l.isEmpty,.no)):=fun {q n k} e1 e2=>by
  refine h.eA hd hl (v := .bool q.isNone) ?_ (.ub fun e=>by cases q with | none=>rw [e2 rfl];rfl | some _=>cases e)
  simp only [execOp,ho,e1,hq,gd,Sem.run_bind,Sem.run_pure,Result.andThen_ok,run]
 rcases hp with ⟨t',l',e,k,_,_,p,hs⟩ | hp
 ·obtain ⟨t2,l2,e2,hs⟩:=hs
  cases e;cases e2
  rcases hs with ⟨e,hv⟩ | ⟨g,cap,cur,e,fz,hv,_⟩
  ·exact fin hv fun _=>e
  ·exact fin hv fun e=>by cases e
 ·generalize hv:a.eval x=v at hp
  cases hp with
  | sc h=>cases h
  | sn=>exact fin hv fun _=>rfl
  | sl=>exact fin hv fun e=>by cases e
  | em=>exact fin hv fun e=>by cases e
theorem go_un {b:UnOp} {t:TypeId} {x:Operand} {p z:TV} (ho:o.op = .unOp b t x) (hx:dQ C.E C.nt V t x=some (p,.no)) (hz:(DD b p).holds [z]):cL C o a w (bL S d (z,.no)):=by
 obtain ⟨z',e,p',v,e1,e2,e3⟩:=z6 _ _ _ hz
 cases e
 have hp:=(cN h hV hx).dx e1
 exact h.eA hd hl (v:=v) (by simp only [execOp,ho,hp,Sem.run_bind,Sem.run_pure,Result.andThen_ok,xS e2]) (.sc e3)
end
end Go.Eng
namespace Go.Eng
open Go.RowKit
def Holds (R:Reach) (w:World) (t:ez) (l:List t.El) (v:Value):Prop :=
 (l=[]∧(v = .slice none 0 0∨∃ad cap,v = .slice (some ad) 0 cap))∨∃b off cap ys,v = .slice (some ⟨b,off,none⟩) l.length cap∧ys.length=l.length * t.size ∧
  (∀j y,ys[j]?=some y→w.cell? ⟨b,off+j,none⟩=some y)∧bV R w ((l.map t.tv).flatMap TV.cells) ys
theorem gi {c k:Nat}:∀{l:List (Nat × Nat)},gr c l=some k→(c,k)∈l
 | (d,j) :: r,h=>by
  simp only [gr] at h
  cases hb:Nat.beq d c with
  | true=>rw [hb] at h;cases h;rw [aj hb];exact List.mem_cons_self ..
  | false=>rw [hb] at h;exact List.mem_cons_of_mem _ (gi h)
theorem mw:∀l:IY,(l.map (ez.tv .bs)).flatMap TV.cells=l.map TV.u8
 | []=>rfl
 | x :: l=>by rw [aP,List.flatMap_cons,mw l];rfl
theorem gV (t:ez) (l:List t.El):((l.map t.tv).flatMap TV.cells).length=l.length * t.size:=by
 induction l with
 | nil=>simp
 | cons x l ih=>rw [aP,List.flatMap_cons,ak,ih,ez.fM,aJ,Nat.succ_mul,Nat.add_comm]
theorem Rep.holds {R:Reach} {w:World} {t:ez} {l:List t.El} {v:Value} (h:Rep R w (.sl t l) v):Holds R w t l v:=by
 rcases h.rL with ⟨h1,h2⟩ | ⟨b,off,cap,h1,h2,h3,h4⟩ | ⟨h1,ad,cap,h2,_⟩
 ·exact .inl ⟨h1,.inl h2⟩
 ·obtain ⟨ys,k1,k2,k3,_⟩:=h4.cells
  exact .inr ⟨b,off,cap,ys,h1,by rw [k1,bn],k2,k3⟩
 ·exact .inl ⟨h1,.inr ⟨ad,cap,h2⟩⟩
theorem cP.cells {R:Reach} {w:World} {p:Bool} {t:ez} {l:List t.El} {v:Value} (h:cP R w p v (.sl t l)):(l=[]∧v = .slice none 0 0)∨∃g cap cur e fz,v = .slice (some ⟨g,0,none⟩) l.length cap∧w.heap[g]?=some (.cells cur e fz)∧(∀o,o<cur.size→¬(fz.1≤o∧o<fz.2)) ∧
  cur.size=cap * t.size∧l.length≤cap∧cap≤maxLen∧bV R w ((l.map t.tv).flatMap TV.cells) (cur.toList.take (l.length * t.size))∧∀o,R g o ↔ (p=true∧o<l.length * t.size):=by
 obtain ⟨t',l',e,h⟩:=h
 cases e
 exact h
theorem cP.holds {R:Reach} {w:World} {p:Bool} {t:ez} {l:List t.El} {v:Value} (h:cP R w p v (.sl t l)):Holds R w t l v:=by
 rcases h.cells with ⟨h1,h2⟩ | ⟨g,cap,cur,e,fz,h1,h2,_,_,_,_,h3,_⟩
 ·exact .inl ⟨h1,.inl h2⟩
 ·refine .inr ⟨g,0,cap,_,h1,by rw [←h3.length,gV],fun j y hy=>?_,h3⟩
  rw [aH] at hy
  split at hy
  ·simp only [World.cell?,h2,Nat.zero_add];simpa using hy
  ·cases hy
section
variable {C:Ctx} {S V:St} {a:Act} {w:World} {R:Reach} {τ:Nat→Value} {o:Oper} {d:Nat} (h:cC C S a w R τ) (hV:Lt V S)
include h hV
theorem mK {t:TypeId} {x:Operand} {st:ez} {l:List st.El} (he:(dQ C.E C.nt V t x).bind (nC V)=some (.sl st l)):Holds R w st l (a.eval x):=by
 rw [aE] at he
 obtain ⟨c,h1,h2⟩:=he
 rcases oU h hV h1 h2 with ⟨_,_,_,_,_,_,p,hp⟩ | hr
 ·exact hp.holds
 ·exact hr.holds
theorem vN {t:TypeId} {x:Operand} {l:IY} (he:(dQ C.E C.nt V t x).bind (nC V)=some (.s l)):a.eval x = .string ⟨⟨l⟩⟩:=by
 rw [aE] at he
 obtain ⟨c,h1,h2⟩:=he
 rcases oU h hV h1 h2 with ⟨_,_,e,_⟩ | hr
 ·cases e
 ·exact hr.dx rfl
theorem rd_val {t:TypeId} {x:Operand} {c:Cell} {y:TV} {v:Value} (h1:dQ C.E C.nt V t x=some c) (h2:nC V c=some y) (hy:y.val=some v):a.eval x=v:=by
 rcases oU h hV h1 h2 with ⟨_,_,e,_⟩ | hr
 ·rw [e] at hy;cases hy
 ·exact hr.dx hy
variable (hd:o.dst=some d) (hl:d<C.nt)
include hd hl
theorem go_len {x:Operand} {t e:TypeId} {st:ez} {l:List st.El} (ho:o.op = .call { callee := .builtin .len,args:=#[x],argTypes:=#[t] }) (ht:C.P.underlying t=some (.slice e)) (hx:(dQ C.E C.nt V t x).bind (nC V)=some (.sl st l)) :
  cL C o a w (bL S d (.i .i64 l.length,.no)):=by
 have:∃q cap,a.eval x = .slice q l.length cap:=by
  rcases mK h hV hx with ⟨rfl,e | ⟨ad,cap,e⟩⟩ | ⟨b,off,cap,ys,e,_⟩ <;> exact ⟨_,_,e⟩
 obtain ⟨q,cap,hq⟩:=this
 exact h.eA hd hl (v := .int .i64 l.length) (by simp [execOp,ho,hq,resolve,invoke,builtin,Builtin.len_,run_underlying ht,goInt]) (.sc rfl)
theorem go_lens {x:Operand} {t:TypeId} {l:IY} (ho:o.op = .call { callee := .builtin .len,args:=#[x],argTypes:=#[t] }) (ht:C.P.underlying t=some .string) (hx:(dQ C.E C.nt V t x).bind (nC V)=some (.s l)) :
  cL C o a w (bL S d (.i .i64 l.length,.no)):=by
 have hq:=vN h hV hx
 have hs:ByteArray.size ⟨⟨l⟩⟩=l.length:=rfl
 exact h.eA hd hl (v := .int .i64 l.length) (by simp [execOp,ho,hq,resolve,invoke,builtin,Builtin.len_,run_underlying ht,goInt,hs]) (.sc rfl)
theorem go_minmax {x y:Operand} {k:IntKind} {u v:Int} {mx:Bool} {ts:Array TypeId} (ho:o.op = .call { callee := .builtin (if mx then .max else .min),args:=#[x,y],argTypes:=ts }) (hx:dQ C.E C.nt V 0 x=some (.i k u,.no)) (hy:dQ C.E C.nt V 0 y=some (.i k v,.no)) :
  cL C o a w (bL S d (.i k (if mx then yq u v else yp u v),.no)):=by
 have e1:=(cN h hV hx).dx rfl
 have e2:=(cN h hV hy).dx rfl
 exact h.eA hd hl (v := .int k (if mx then yq u v else yp u v)) (by cases mx <;> simp [execOp,ho,e1,e2,resolve,invoke,builtin,Builtin.min_,Builtin.max_,Builtin.min2,Builtin.max2,yp,yq]) (.sc rfl)
theorem go_real {x:Operand} {k:FloatKind} {p q:Nat} {im:Bool} {ts:Array TypeId} (ho:o.op = .call { callee := .builtin (if im then .imag else .real),args:=#[x],argTypes:=ts }) (hx:dQ C.E C.nt V 0 x=some (.c (.complex k p q),.no)) :
  cL C o a w (bL S d (.c (.float k (if im then q else p)),.no)):=by
 have e1:=(cN h hV hx).dx rfl
 have r1:∀(a:Array TypeId) (b:TypeId),Builtin.real_ a b #[.complex k p q]=pure (.float k p):=fun _ _=>rfl
 have r2:∀(a:Array TypeId) (b:TypeId),Builtin.imag_ a b #[.complex k p q]=pure (.float k q):=fun _ _=>rfl
 exact h.eA hd hl (v := .float k (if im then q else p)) (by cases im <;> simp [execOp,ho,e1,resolve,invoke,builtin,r1,r2]) (.sc rfl)
theorem go_cx {x y:Operand} {p q:Nat} {ts:Array TypeId} (ho:o.op = .call { callee := .builtin .complex,args:=#[x,y],argTypes:=ts }) (hx:dQ C.E C.nt V 0 x=some (.c (.float .f64 p),.no)) (hy:dQ C.E C.nt V 0 y=some (.c (.float .f64 q),.no)) :
  cL C o a w (bL S d (.c (.complex .f64 p q),.no)):=by
 have e1:=(cN h hV hx).dx rfl
 have e2:=(cN h hV hy).dx rfl
 have r1:∀(a:Array TypeId) (b:TypeId),Builtin.complex_ a b #[.float .f64 p,.float .f64 q]=pure (.complex .f64 p q):=fun _ _=>rfl
 exact h.eA hd hl (v := .complex .f64 p q) (by simp [execOp,ho,e1,e2,resolve,invoke,builtin,r1]) (.sc rfl)
section
variable {x:Operand} {s t:TypeId} {c:Cell} (ho:o.op = .convert s t x) (hx:dQ C.E C.nt V s x=some c)
include ho hx
theorem go_ci {y:TV} {k k':IntKind} {n:Int} {du:TypeDesc} (hy:nC V c=some y) (hn:y.int?=some (k',n)) (hs:C.P.underlying s=some du) (ht:C.P.underlying t=some (.int k)):cL C o a w (bL S d (ta k n,.no)):=by
 have e1:=rd_val h hV hx hy (TV.qB hn)
 exact h.eA hd hl (v := .int k (k.wrap n)) (by simp only [execOp,ho,e1,convert,Sem.run_bind,run_underlying hs,run_underlying ht,Result.andThen_ok,Conv.intToInt,Sem.run_pure]) (.sc (uy k n))
theorem go_cf {k:IntKind} {n:Int} (hy:nC V c=some (.i k n)) (hs:(C.P.underlying s).isSome=true) (ht:C.P.underlying t=some (.float .f64)):cL C o a w (bL S d (.c (.float .f64 (Fl.ofInt n)),.no)):=by
 have e1:=rd_val h hV hx hy rfl
 exact h.eA hd hl (v := .float .f64 (Fl.ofInt n)) (by simp only [execOp,ho,e1,Sem.run_bind,run_convert_int_float w s t k .f64 n hs ht,Result.andThen_ok,Sem.run_pure];rfl) (.sc rfl)
theorem go_fc {b:Nat} (hy:nC V c=some (.c (.float .f64 b))) (hb:Fl.oM b=true) (hs:(C.P.underlying s).isSome=true) (ht:C.P.underlying t=some (.int .i64)):cL C o a w (bL S d (.i .i64 (Fl.toInt b),.no)):=by
 have e1:=rd_val h hV hx hy rfl
 have hn:floatToIntVal .f64 b .i64=some (Fl.toInt b):=by
  unfold Fl.oM at hb
  obtain ⟨x,hx⟩:=Option.isSome_iff_exists.1 hb
  unfold Fl.toInt;rw [hx];rfl
 exact h.eA hd hl (v := .int .i64 (Fl.toInt b)) (by simp only [execOp,ho,e1,Sem.run_bind,run_convert_float_int w s t .f64 .i64 b _ hs ht hn,Result.andThen_ok,Sem.run_pure]) (.sc rfl)
theorem go_cs {l:IY} (hy:nC V c=some (.s l)) (hs:C.P.underlying s=some .string) (ht:C.P.underlying t=some .string):cL C o a w (bL S d (.s l,.no)):=by
 have e1:=rd_val h hV hx hy rfl
 exact h.eA hd hl (v := .string ⟨⟨l⟩⟩) (by simp [execOp,ho,e1,convert,run_underlying hs,run_underlying ht]) (.sc rfl)
theorem go_bs {l:IY} {e:TypeId} (hy:nC V c=some (.sl .bs l)) (hs:C.P.underlying s=some (.slice e)) (he:C.P.underlying e=some (.int .u8)) (ht:C.P.underlying t=some .string):cL C o a w (bL S d (.s l,.no)):=by
 have hH:=mK h hV (t:=s) (x:=x) (st := .bs) (l:=l) (by rw [hx];exact hy)
 refine h.eA hd hl (v := .string ⟨⟨l⟩⟩) ?_ (.sc rfl)
 rcases hH with ⟨rfl,hv | ⟨ad,cap,hv⟩⟩ | ⟨b,off,cap,ys,hv,h1,h2,h3⟩
 ·simp only [execOp,ho,hv,Sem.run_bind,run_convert_bytes_nil w s e hs he 0 0 t ht,Result.andThen_ok,Sem.run_pure]
  rfl
 ·have hc:=run_convert_bytes_back (P:=C.P) w s t e ad cap [] hs he ht (fun j hj=>by simp at hj)
  simp only [aM] at hc
  simp only [execOp,ho,hv,Sem.run_bind,hc,Result.andThen_ok,Sem.run_pure]
 ·have hc:=run_convert_bytes_back (P:=C.P) w s t e ⟨b,off,none⟩ cap l hs he ht (fun j hj=>by
   rw [addr_add]
   obtain ⟨y,uA,_,yw⟩:=h3.get j (.u8 l[j]) (by rw [mw];simp [hj])
   rw [h2 j y uA,yw.dx rfl])
  simp only [execOp,ho,hv,Sem.run_bind,hc,Result.andThen_ok,Sem.run_pure]
end
theorem go_si {x i:Operand} {t:TypeId} {l:IY} {n:Int} (ho:o.op = .index t x i) (hx:dQ C.E C.nt V t x=some (.s l,.no)) (hi:kp C.E C.nt V i=some n) (hn:dj n l.length=true) (ht:C.P.underlying t=some .string):cL C o a w (bL S d (.u8 (l.getD n.toNat 0),.no)):=by
 have e1:=(cN h hV hx).dx rfl
 obtain ⟨k,e2⟩:=iA h hV hi
 simp only [dj,ae,aF] at hn
 have eL:n.toNat<l.length:=by omega
 have hb:(⟨⟨l⟩⟩:ByteArray)[n.toNat]?=some (l.getD n.toNat 0):=by
  rw [getElem?_pos (⟨⟨l⟩⟩:ByteArray) n.toNat eL,ai,ah eL];rfl
 exact h.eA hd hl (v := .int .u8 (l.getD n.toNat 0).toNat) (by simp [execOp,ho,e1,e2,Instr.index,asIntOf,run_underlying ht,hn.1,hb]) (.sc rfl)
theorem go_fe {x:Operand} {t:TypeId} {f n:Nat} {agg:Bool} {fl:Field} {cs:List TV} {y:TV} (ho:o.op = .field t x f) (hx:dQ C.E C.nt V t x=some (.ag cs,.no)) (hf:lA C.P t f=some fl) (hs:fm C.P fl.type=some (n,agg)) (hp:iy cs fl.offset n agg=some y) (h1:agg=true∨n=1) :
  cL C o a w (bL S d (y,.no)):=by
 obtain ⟨ys,hy,hL⟩:=(cN h hV hx).xx
 obtain ⟨fs,ht,hf⟩:=lS hf
 obtain ⟨inf,hi,rfl,ha⟩:=dU hs
 obtain ⟨hlen,fq⟩:=jx hL hp h1
 refine h.eA hd hl (v:=if agg then .agg ⟨(ys.drop fl.offset).take inf.size⟩ else ((ys.drop fl.offset).take inf.size).headD undef) ?_ fq
 simp only [execOp,ho,hy,Instr.field,Sem.run_bind,run_underlying ht,Result.andThen_ok,hf,asAgg,Sem.run_pure,part,ha]
 cases agg with
 | true=>simp [run_sizeOf hi,List.extract_eq_take_drop]
 | false =>
  have hn:inf.size=1:=by simpa using h1
  rw [hn] at hlen ⊢
  have eL:fl.offset<ys.length:=by simp at hlen;omega
  rw [vx eL]
  simp [ah eL]
theorem go_ai {x i:Operand} {t e:TypeId} {m s:Nat} {agg:Bool} {cs:List TV} {n:Int} {y:TV} (ho:o.op = .index t x i) (hx:dQ C.E C.nt V t x=some (.ag cs,.no)) (hi:kp C.E C.nt V i=some n) (ht:C.P.underlying t=some (.array m e)) (hs:fm C.P e=some (s,agg)) (h1:agg=true∨s=1) (hn:dj n m=true)
  (hp:iy cs (n.toNat * s) s agg=some y):cL C o a w (bL S d (y,.no)):=by
 obtain ⟨ys,rC,hL⟩:=(cN h hV hx).xx
 obtain ⟨k,e2⟩:=iA h hV hi
 obtain ⟨inf,nK,rfl,ha⟩:=dU hs
 obtain ⟨hlen,fq⟩:=jx hL hp h1
 simp only [dj,ae,aF] at hn
 refine h.eA hd hl (v:=if agg then .agg ⟨(ys.drop (n.toNat * inf.size)).take inf.size⟩ else ((ys.drop (n.toNat * inf.size)).take inf.size).headD undef) ?_ fq
 simp only [execOp,ho,rC,e2,Instr.index,asIntOf,Sem.run_bind,run_underlying ht,Result.andThen_ok,Sem.run_pure,hn.1,hn.2,and_self,if_true,run_sizeOf nK,part,ha]
 cases agg with
 | true=>simp [run_sizeOf nK,List.extract_eq_take_drop]
 | false =>
  have hn:inf.size=1:=by simpa using h1
  rw [hn,Nat.mul_one] at hlen ⊢
  have eL:n.toNat<ys.length:=by simp at hlen;omega
  rw [vx eL]
  simp [ah eL]
theorem go_ex {x:Operand} {i:Nat} {vs:List TV} {y:TV} {l:List (Nat × Nat)} (ho:o.op = .extract x i) (hx:dQ C.E C.nt V 0 x=some (.tu vs,.no)∨dQ C.E C.nt V 0 x=some (.tu vs,.vc l)) (hy:vs[i]?=some y):cL C o a w (bL S d (y,.no)):=by
 have:∃ys,a.eval x = .tuple ⟨ys⟩∧dX R w vs ys:=by
  rcases hx with hx | hx
  ·exact (cN h hV hx).Aa
  ·obtain ⟨ys,rA,e1,e2,e3,_⟩:=((dO h hV hx).1.at (by simp):fg R w τ (.tu vs) (.vc l) (a.eval x))
   cases e2;exact ⟨ys,e1,e3⟩
 obtain ⟨ys,hv,hT⟩:=this
 obtain ⟨v,uA,yw⟩:=hT.get i y hy
 exact h.eA hd hl (v:=v) (by simp [execOp,ho,hv,Instr.extract,uA]) yw
end
end Go.Eng
namespace Go.Eng
open Go.RowKit
theorem jQ {P:Program} {E:cz} (hE:fj P E) {x:TypeId} {st:ez} (h:lU E x st=true):∃e i,P.underlying x=some (.slice e)∧P.info? e=some i∧i.size=st.size:=by
 unfold lU at h
 split at h
 ·rename_i e1
  obtain ⟨e,i,_,h1,h2,h3,_⟩:=hE.ty _ _ _ e1
  exact ⟨e,i,h1,h2,h3.trans (aj h)⟩
 ·cases h
theorem ez.size_pos (t:ez):0<t.size:=by cases t <;> simp [ez.size]
section
variable {C:Ctx} {S V:St} {a:Act} {w:World} {R:Reach} {τ:Nat→Value} {o:Oper} {d:Nat} (h:cC C S a w R τ) (hV:Lt V S)
include h hV
theorem cC.fr {t:TypeId} {x:Operand} {c:Cell} {y:TV} {ws:List (Nat × Cell)} (hx:dQ C.E C.nt V t x=some c) (he:pr V c=some (y,ws)):∃R',cC C (cJ S ws) a w R' τ∧Rep R' w y (a.eval x)∧cD R w R' w:=by
 obtain ⟨h1,_,h3⟩:=dO h hV hx
 obtain ⟨R',k1,k2,k3,_⟩:=pq h.core hV.q h1 (fun m hm=>(h3 m hm).1) he
 exact ⟨R',h.fz k1 k2,k3,k2.1⟩
theorem mY {x:Option Operand} {n:Option Int} (he:iB C.E C.nt V x=some n):(x=none∧n=none)∨∃y m k,x=some y∧n=some m∧a.eval y = .int k m:=by
 unfold iB at he
 split at he
 ·cases he;exact .inl ⟨rfl,rfl⟩
 ·simp only [aG] at he
  obtain ⟨m,h1,rfl⟩:=he
  obtain ⟨k,h2⟩:=iA h hV h1
  exact .inr ⟨_,m,k,rfl,rfl,h2⟩
theorem zw {lo:Option Operand} {p:Option Int} {n:Nat} (h1:iB C.E C.nt V lo=some p) (h0:0≤p.getD n):(lo=none∧(p.getD n).toNat=n)∨∃y k,lo=some y∧a.eval y = .int k (((p.getD n).toNat:Nat):Int):=by
 rcases mY h hV h1 with ⟨rfl,rfl⟩ | ⟨y,m,k,rfl,rfl,hy⟩
 ·exact .inl ⟨rfl,by simp⟩
 ·exact .inr ⟨y,k,rfl,by simp only [Option.getD_some] at h0 ⊢;rw [hy];congr 1;omega⟩
theorem bounds {lo hi:Option Operand} {p q:Option Int} (h1:iB C.E C.nt V lo=some p) (h2:iB C.E C.nt V hi=some q) {n:Nat} (hc:dV (p.getD 0) (q.getD n) n=true) (b:Bool) {cap:Nat} (ng:n≤cap) (hb:b=false→cap=n) :
  (Instr.sliceBounds b n cap (lo.map a.eval) (hi.map a.eval) none).run C.P w = .ok ((p.getD 0).toNat,(q.getD n).toNat,cap) w∧(p.getD 0).toNat≤(q.getD n).toNat∧(q.getD n).toNat≤n:=by
 simp only [dV,ae,aF] at hc
 have e1:=zw h hV (n:=0) h1 hc.1.1
 have e2:=zw h hV (n:=n) h2 (by omega)
 generalize hu:(q.getD n).toNat=u at *
 generalize hl:(p.getD 0:Int).toNat=l at *
 have k1:l≤u:=by omega
 have k2:u≤n:=by omega
 refine ⟨?_,k1,k2⟩
 have k3:u≤cap:=by omega
 unfold Instr.sliceBounds
 rcases e1 with ⟨rfl,rfl⟩ | ⟨y,k,rfl,hy⟩ <;> rcases e2 with ⟨rfl,rfl⟩ | ⟨y',k',rfl,rC⟩ <;> simp [Instr.sliceBound,asIntOf, *]
variable (hd:o.dst=some d) (hl:d<C.nt)
include hd hl
theorem go_ss {x:Operand} {t:TypeId} {lo hi:Option Operand} {p q:Option Int} {l:IY} (ho:o.op = .slice t x lo hi none) (ht:C.P.underlying t=some .string) (hx:dQ C.E C.nt V t x=some (.s l,.no)) (h1:iB C.E C.nt V lo=some p) (h2:iB C.E C.nt V hi=some q)
  (hc:dV (p.getD 0) (q.getD l.length) l.length=true):cL C o a w (bL S d (.s ((l.take (q.getD l.length).toNat).drop (p.getD 0).toNat),.no)):=by
 have e1:=(cN h hV hx).dx rfl
 obtain ⟨hb,k1,k2⟩:=bounds h hV h1 h2 hc false (Nat.le_refl _) (fun _=>rfl)
 have hs:ByteArray.size ⟨⟨l⟩⟩=l.length:=rfl
 have he:(⟨⟨l⟩⟩:ByteArray).extract (p.getD 0).toNat (q.getD l.length).toNat=⟨⟨(l.take (q.getD l.length).toNat).drop (p.getD 0).toNat⟩⟩:=by
  have:∀{s:ByteArray} {m:List UInt8},s.data.toList=m→s=⟨⟨m⟩⟩:=fun h=>by subst h;rfl
  exact this (by rw [Lib.extract_data,List.drop_take])
 refine h.eA hd hl (v := .string ((⟨⟨l⟩⟩:ByteArray).extract (p.getD 0).toNat (q.getD l.length).toNat)) ?_ (.sc (by rw [he];rfl))
 simp only [execOp,ho,e1,Instr.sliceAt,Instr.slice,Sem.run_bind,run_underlying ht,Result.andThen_ok,Option.map_none,hs,hb,Sem.run_pure]
 simp [hb]
theorem go_sc {x:Operand} {t:TypeId} {lo hi:Option Operand} {p q:Option Int} {c:Cell} {st:ez} {l:List st.El} {ws:List (Nat × Cell)} (hE:fj C.P C.E) (ho:o.op = .slice t x lo hi none) (ht:lU C.E t st=true) (hx:dQ C.E C.nt V t x=some c) (hf:pr V c=some (.sl st l,ws))
  (h1:iB C.E C.nt V lo=some p) (h2:iB C.E C.nt V hi=some q) (hc:dV (p.getD 0) (q.getD l.length) l.length=true):cL C o a w (bL (cJ S ws) d (.sl st ((l.take (q.getD l.length).toNat).drop (p.getD 0).toNat),.no)):=by
 obtain ⟨R',h',e1,_⟩:=h.fr hV hx hf
 obtain ⟨e,inf,ht,rF,hz⟩:=jQ hE ht
 have hb:=fun cap ng=>bounds h hV h1 h2 hc true (cap:=cap) ng (fun e=>by cases e)
 obtain ⟨_,k1,k2⟩:=hb l.length (Nat.le_refl _)
 generalize hu:(q.getD l.length).toNat=u at *
 generalize Ga:(p.getD 0).toNat=lw at *
 rcases e1.rL with ⟨rfl,hv⟩ | ⟨b,off,cap,hv,ng,yH,Fg⟩ | ⟨rfl,ad,cap,hv,yH⟩
 ·obtain ⟨rfl,rfl⟩:lw=0∧u=0:=by simp at k2;omega
  have ly:=(hb 0 (by simp)).1
  refine h'.eA hd hl (v := .slice none 0 0) ?_ (by simp only [List.take_nil,List.drop_nil];exact .sn st)
  simp only [aM] at ly
  simp only [execOp,ho,hv,Instr.sliceAt,Instr.slice,Sem.run_bind,run_underlying ht,Result.andThen_ok,Option.map_none,ly,run_sizeOf rF,Sem.run_pure]
  simp
 ·refine h'.eA hd hl (v := .slice (some ⟨b,if cap=lw then off else off+lw * st.size,none⟩) (u - lw) (cap - lw)) ?_ ?_
  ·simp only [execOp,ho,hv,Instr.sliceAt,Instr.slice,Sem.run_bind,run_underlying ht,Result.andThen_ok,Option.map_none,(hb cap ng).1,run_sizeOf rF,Sem.run_pure,hz]
   split <;> simp [*,addr_add]
  ·have hlen:((l.take u).drop lw).length=u - lw:=by simp;omega
   rw [←hlen]
   refine .sl rfl (by rw [hlen];omega) (by omega) ?_
   by_cases AV:cap=lw
   ·have:(l.take u).drop lw=[]:=bh (by rw [hlen];omega)
    rw [this];exact .nil _ _ _
   ·rw [al AV,List.map_drop,List.map_take]
    exact (Fg.take u).drop lw
 ·obtain ⟨rfl,rfl⟩:lw=0∧u=0:=by simp at k2;omega
  have ly:=(hb cap (by simp)).1
  refine h'.eA hd hl (v := .slice (some ad) 0 cap) ?_ (by simp only [List.take_nil,List.drop_nil];exact .em st yH)
  simp only [aM] at ly
  simp only [execOp,ho,hv,Instr.sliceAt,Instr.slice,Sem.run_bind,run_underlying ht,Result.andThen_ok,Option.map_none,ly,run_sizeOf rF,Sem.run_pure]
  simp [Addr.add]
theorem go_ix {x i:Operand} {t:TypeId} {st:ez} {l:List st.El} {n:Int} (hE:fj C.P C.E) (ho:o.op = .indexAddr t x i) (ht:lU C.E t st=true) (hx:Rep R w (.sl st l) (a.eval x)) (hi:kp C.E C.nt V i=some n) (hn:dj n l.length=true) :
  cL C o a w (bL S d (.ro (st.tv (l.getD n.toNat st.iH)),.no)):=by
 obtain ⟨e,inf,ht,rF,hz⟩:=jQ hE ht
 obtain ⟨k,e2⟩:=iA h hV hi
 simp only [dj,ae,aF] at hn
 have eL:n.toNat<l.length:=by omega
 rcases hx.rL with ⟨rfl,hv⟩ | ⟨b,off,cap,hv,ng,yH,Fg⟩ | ⟨rfl,ad,cap,hv,yH⟩
 ·simp at eL
 ·refine h.eA hd hl (v := .pointer (some ⟨b,off+n.toNat * st.size,none⟩)) ?_ (.ro (Fg.get n.toNat _ ?_))
  ·simp [execOp,ho,hv,e2,Instr.indexAt,asIntOf,run_underlying ht,run_sizeOf rF,hz,hn.1,addr_add]
   omega
  ·simp [ai,ah eL]
 ·simp at eL
theorem go_pix {x i:Operand} {t:TypeId} {st:ez} {l:List st.El} {n:Int} {k:Nat} (hE:fj C.P C.E) (ho:o.op = .indexAddr t x i) (ht:lU C.E t st=true) (hx:dQ C.E C.nt V t x=some (.pt,.cM k)) (hk:S k=(.sl st l,.pv)) (hi:kp C.E C.nt V i=some n) (hn:dj n l.length=true) :
  cL C o a w (bL S d (.el n.toNat st.size 0,.pe k)):=by
 obtain ⟨e,inf,ht,rF,hz⟩:=jQ hE ht
 obtain ⟨kk,e2⟩:=iA h hV hi
 obtain ⟨q1,_,q3⟩:=dO h hV hx
 have hv:a.eval x=τ k:=q1.1
 simp only [dj,ae,aF] at hn
 have eL:n.toNat<l.length:=by omega
 have hs:=h.core.key k
 rw [hk] at hs
 rcases cP.cells hs with ⟨rfl,_⟩ | ⟨g,cap,cur,ce,fz,e1,_⟩
 ·simp at eL
 ·rw [e1] at hv
  refine h.val hd hl (v := .pointer (some ⟨g,n.toNat * st.size,none⟩)) (g := .pe k) ?_ ⟨g,_,_,_,by rw [e1];rfl,rfl,rfl⟩ rfl q3
  simp [execOp,ho,hv,e2,Instr.indexAt,asIntOf,run_underlying ht,run_sizeOf rF,hz,hn.1,addr_add]
  omega
theorem go_la {x i:Operand} {t e:TypeId} {m k:Nat} {n:Int} {inf:TypeInfo} {cs:List TV} {ts:List (Nat × Nat)} (ho:o.op = .indexAddr t x i) (ht:C.P.underlying t=some (.array m e)) (nK:C.P.info? e=some inf) (hx:dQ C.E C.nt V t x=some (.pt,.ptr k 0)) (hk:S k=(.ag cs,.cl ts)) (hi:kp C.E C.nt V i=some n) (hn:dj n m=true) :
  cL C o a w (bL S d (.el n.toNat inf.size 0,.pe k)):=by
 obtain ⟨kk,e2⟩:=iA h hV hi
 obtain ⟨q1,_,q3⟩:=dO h hV hx
 obtain ⟨b,p1,hv⟩:∃b,τ k = .pointer (some ⟨b,0,none⟩)∧a.eval x = .pointer (some ⟨b,0,none⟩):=q1
 simp only [dj,ae,aF] at hn
 refine h.val hd hl (v := .pointer (some ⟨b,n.toNat * inf.size,none⟩)) (g := .pe k) ?_ ⟨b,_,_,_,by rw [p1];rfl,rfl,rfl⟩ rfl q3
 simp [execOp,ho,hv,e2,Instr.indexAt,Instr.sureAddr,asIntOf,run_underlying ht,run_sizeOf nK,hn.1,hn.2,addr_add]
section
variable {x:Operand} {t:TypeId} {f n:Nat} {agg:Bool} {fl:Field} (ho:o.op = .fieldAddr t x f) (hf:lA C.P t f=some fl) (hs:fm C.P fl.type=some (n,agg)) (hn:0<n)
include ho hf hs hn
omit h hV hd hl in
theorem rQ {b off:Nat} (hv:a.eval x = .pointer (some ⟨b,off,none⟩)):(execOp a.eval o).run C.P w = .ok (.value (.pointer (some ⟨b,off+fl.offset,none⟩))) w:=by
 obtain ⟨fs,ht,hf⟩:=lS hf
 obtain ⟨inf,hi,rfl,ha⟩:=dU hs
 have gf:inf.size≠0:=by omega
 simp [execOp,ho,hv,Instr.fieldAt,Instr.sureAddr,run_underlying ht,hf,fieldPlace,run_sizeOf hi,gf,addr_add]
theorem go_fa {m q:Nat} (hx:dQ C.E C.nt V 0 x=some (.pt,.ptr m q)):cL C o a w (bL S d (.pt,.ptr m (q+fl.offset))):=by
 obtain ⟨q1,_,q3⟩:=dO h hV hx
 obtain ⟨b,p1,hv⟩:∃b,τ m = .pointer (some ⟨b,0,none⟩)∧a.eval x = .pointer (some ⟨b,q,none⟩):=q1
 exact h.val hd hl (rQ ho hf hs hn hv) (g := .ptr m (q+fl.offset)) ⟨b,p1,rfl⟩ rfl q3
theorem go_pfa {i s q k:Nat} (hx:dQ C.E C.nt V 0 x=some (.el i s q,.pe k)):cL C o a w (bL S d (.el i s (q+fl.offset),.pe k)):=by
 obtain ⟨q1,_,q3⟩:=dO h hV hx
 obtain ⟨b,i',s',q',p1,p2,hv⟩:∃b i' s' q',Value.dq (τ k)=some b∧TV.el i s q = .el i' s' q'∧a.eval x = .pointer (some ⟨b,i' * s'+q',none⟩):=q1
 cases p2
 exact h.val hd hl (rQ ho hf hs hn hv) (g := .pe k) ⟨b,_,_,_,p1,rfl,by rw [Nat.add_assoc]⟩ rfl q3
theorem go_fr {cs:List TV} {y:TV} (hx:dQ C.E C.nt V 0 x=some (.ro (.ag cs),.no)) (hp:iy cs fl.offset n agg=some y):cL C o a w (bL S d (.ro y,.no)):=by
 obtain ⟨b,off,s',hv,hA⟩:=(cN h hV hx).rS
 refine h.eA hd hl (rQ ho hf hs hn hv) ?_
 cases hA with
 | one n _ _ _ _=>simp [TV.lV] at n
 | ag _ hC =>
  unfold iy at hp
  cases agg with
  | true =>
   simp only at hp
   cases hb:Nat.ble (fl.offset+n) cs.length with
   | true =>
    rw [hb] at hp
    cases hp
    exact .ro (.ag rfl ((hC.drop fl.offset).take n))
   | false=>rw [hb] at hp;cases hp
  | false =>
   simp at hp
   have eL:=(av.1 hp).1
   have hD:=hC.drop fl.offset
   rw [List.drop_eq_getElem_cons eL] at hD
   have hs:cs[fl.offset]=y:=(av.1 hp).2
   rw [hs] at hD
   cases hD with
   | cons r c a vf _ =>
    refine .ro (.one ?_ r c a vf)
    cases y with
    | ag _=>cases vf with
     | sc h=>cases h
     | ag=>simp [Value.oneCell'] at a
    | _=>rfl
end
theorem go_nc {x:Operand} {m q:Nat} (ho:o.op = .nilCheck x) (hx:dQ C.E C.nt V 0 x=some (.pt,.ptr m q)):cL C o a w (bL S d (.pt,.ptr m q)):=by
 obtain ⟨q1,q2,q3⟩:=dO h hV hx
 obtain ⟨b,p1,hv⟩:∃b,τ m = .pointer (some ⟨b,0,none⟩)∧a.eval x = .pointer (some ⟨b,q,none⟩):=q1
 exact h.val hd hl (v := .pointer (some ⟨b,q,none⟩)) (by simp [execOp,ho,hv]) (g := .ptr m q) ⟨b,p1,rfl⟩ rfl q3
theorem go_ncr {x:Operand} {y:TV} (ho:o.op = .nilCheck x) (hx:dQ C.E C.nt V 0 x=some (.ro y,.no)):cL C o a w (bL S d (.ro y,.no)):=by
 obtain ⟨b,off,s',hv,hA⟩:=(cN h hV hx).rS
 exact h.eA hd hl (v := .pointer (some ⟨b,off,none⟩)) (by simp [execOp,ho,hv]) (.ro hA)
theorem go_ext {x:Operand} {i k:Nat} {vs:List TV} {l:List (Nat × Nat)} (ho:o.op = .extract x i) (hx:dQ C.E C.nt V 0 x=some (.tu vs,.vc l)) (hk:gr i l=some k) (pf:(τ k).oneCell'=true):cL C o a w (bL S d (.pt,.cM k)):=by
 obtain ⟨q1,_,q3⟩:=dO h hV hx
 obtain ⟨ys,rA,e1,e2,e3,e4⟩:∃ys rA,a.eval x = .tuple ⟨ys⟩∧TV.tu vs = .tu rA∧dX R w rA ys∧∀p∈l,ys[p.1]?=some (τ p.2):=q1
 have hm:=gi hk
 refine h.val hd hl (v:=τ k) (by simp [execOp,ho,e1,Instr.extract,e4 _ hm]) (g := .cM k) ⟨rfl,pf⟩ rfl fun j hj=>?_
 simp only [Gh.bN,List.mem_singleton] at hj
 subst hj
 exact q3 _ (List.mem_map_of_mem (f:=(·.2)) hm)
end
end Go.Eng
namespace Go.Eng
open Go.RowKit
theorem dR {nt k:Nat} {V S:St} (hV:Lq V S) (h:jy nt V k=true):(S k).2 = .no∧k<1000000∧nt≤k:=by
 simp only [jy,ae,aF] at h
 obtain ⟨⟨h1,h2⟩,h3⟩:=h
 refine ⟨?_,Nat.le_of_ble_eq_true h2,Nat.le_of_ble_eq_true h3⟩
 rcases hV k with e | e | ⟨e,_⟩
 ·rw [←e];exact h1
 ·rw [h1] at e;cases e
 ·rw [h1] at e;cases e
theorem gR {R:Reach} {w:World} {x:TV} {v:Value} (h:Rep R w x v) (hp:x.plain=true):bV R w x.cells v.cells.toList:=by
 cases h with
 | sc hv =>
  have key:∀{x:TV} {v:Value},x.val=some v→v.oneCell'=true→x.lV=false→x.plain=true→bV R w x.cells v.cells.toList:=fun {x v} h1 h2 h3 h4=>by
   have e1:x.cells=[x]:=by cases x <;> first | rfl | (simp [TV.lV] at h3)
   have e2:v.cells.toList=[v]:=by cases v <;> first | rfl | (simp [Value.oneCell'] at h2)
   rw [e1,e2];exact .cons h2 (.sc h1) .nil
  refine key hv ?_ (by cases x <;> first | rfl | cases hv) hp
  cases x <;> first | (cases hv;done) | (cases hv;rfl) | skip
  cases hv
  cases v <;> first | rfl | (cases hp)
 | ag h=>exact h
 | nl t=>exact .cons rfl (.nl t) .nil
 | ub _=>simp [TV.plain] at hp
 | sn t=>exact .cons rfl (.sn t) .nil
 | sl a b c d=>exact .cons rfl (.sl a b c d) .nil
 | em s h=>exact .cons rfl (.em s h) .nil
 | ro h=>exact .cons rfl (.ro h) .nil
 | tu=>simp [TV.plain] at hp
 | pt=>simp [TV.plain] at hp
 | dead=>simp [TV.plain] at hp
 | B5=>simp [TV.plain] at hp
 | Dd=>simp [TV.plain] at hp
theorem kC {P:Program} {t:TypeId} {i:TypeInfo} {v:Value} (hi:P.info? t=some i) (hz:i.zero=some v) (w:World):(zeroValue t).run P w = .ok v w:=by simp [zeroValue,typeInfo,hi,hz]
theorem lQ {α:Type} {zs:List α} (hz:0<zs.length):∀(l j:Nat) (y:α),(List.replicate l zs).flatten[j]?=some y→zs[j % zs.length]?=some y
 | 0,j,y,h=>by simp at h
 | l+1,j,y,h=>by
  simp only [List.replicate_succ,List.flatten_cons] at h
  by_cases hj:j<zs.length
  ·rw [List.getElem?_append_left hj] at h;rwa [Nat.mod_eq_of_lt hj]
  ·rw [aT (by omega)] at h
   have:=lQ hz l _ y h
   rwa [Nat.mod_eq_sub_mod (by omega)]
theorem ju {R:Reach} {w:World} {xs:List TV} {ys:List Value} (h:bV R w xs ys):∀n,bV R w (List.replicate n xs).flatten (List.replicate n ys).flatten
 | 0 => .nil
 | n+1=>by simp only [List.replicate_succ,List.flatten_cons];exact h.append (ju h n)
section
variable {C:Ctx} {S V:St} {a:Act} {w w':World} {R:Reach} {τ:Nat→Value} {o:Oper} {d:Nat}
theorem cC.new (h:cC C S a w R τ) {cur:Array Value} {e:TypeId} {fz:Nat × Nat} {k:Nat} {v:Value} {x:TV} {g:Gh} (hk:(S k).2 = .no∧k<1000000∧C.nt≤k) (os:w'.os=w.os) (tape:w'.tape=w.tape) (out:w'.output=w.output) (hh:w'.heap=w.heap.push (.cells cur e fz))
  (new:fi R w' τ x g v) (hb:Value.dq v=none∨Value.dq v=some w.heap.size) (hg:g = .pv∨g = .lv∨g = .cl []):cC C (bL S k (x,g)) a w' R (ky τ k v):=by
 have kb:w'.heap.size=w.heap.size+1:=by rw [hh];simp
 have hold:∀b,b<w.heap.size→w'.heap[b]?=w.heap[b]?:=fun b hb=>by rw [hh,Array.getElem?_push,al (by omega)]
 have cj:cD R w R w':=fun b o hr=>⟨hr,World.cell?_of_block (w:=w) (hold b (h.core.kj b o hr))⟩
 have hm:g.bN=[]:=by rcases hg with rfl | rfl | rfl <;> rfl
 refine ⟨h.size,h.defers,h.core.tO hk.2.2 cj (fun j b _ hb=>⟨hold b (h.core.lt hb),fun _=>id⟩) new (.inr hk.1) ⟨by rw [hk.1];rfl,by rcases hg with rfl | rfl | rfl <;> rfl⟩ (by rcases hg with rfl | rfl | rfl <;> simp)
  (fun _ => .inr hk.1) (fun b _ fT=>?_) (by rw [hm];simp) (fun b o hr=>by have:=h.core.kj b o hr;omega),fun t ht=>?_,⟨h.io.1,fun j hj=>?_⟩,
  h.ext.trans (io':=C.io) ⟨os,tape,out,by omega,fun b hb _=>hold b hb,cj,fun b o hr => .inl hr⟩ fun b hb => .inl hb,h.gl.cj cj⟩
 ·rcases hb with hb | hb <;> rw [hb] at fT <;> cases fT
  exact ⟨.inr h.ext.size,.inl (Nat.le_refl _)⟩
 ·rw [dm _ _ (by omega)];exact h.tmps t ht
 ·rw [dm _ _ (by omega)];exact h.io.2 j hj
theorem cC.oo (h:cC C S a w' R τ) (hd:o.dst=some d) (hl:d<C.nt) {v:Value} {x:TV} {g:Gh} (hr:(execOp a.eval o).run C.P w = .ok (.value v) w') (hs:cp R w' τ x g v) (hg:g.slot=true) (hm:∀k∈g.bN,C.nt≤k∧(S k).2 ≠ .no):cL C o a w (bL S d (x,g)):=fun K Q hK=>by
 unfold Oper.wp
 rw [hr,Oper.upon_value,hd]
 refine hK _ _ ⟨R,_,by simp [Act.put,h.size],h.defers,h.core.put hl hs hg hm,fun t ht=>?_,⟨h.io.1,fun k hk=>?_⟩,h.ext,h.gl⟩
 ·by_cases e:t=d
  ·subst e;rw [de];simp [Act.put,Array.getD,h.size,ht]
  ·rw [dm _ _ e,←h.tmps t ht]
   simp only [Act.put,Array.getD_eq_getD_getElem?]
   rw [Array.getElem?_setIfInBounds_ne (Ne.symm e)]
 ·have:=h.io.1
  rw [dm _ _ (by omega)];exact h.io.2 k hk
theorem cC.AZ (h:cC C S a w R τ) (hd:o.dst=some d) (hl:d<C.nt) {cur:Array Value} {e:TypeId} {fz:Nat × Nat} {k cap:Nat} {st:ez} {l:List st.El} {ys:List Value} (hk:(S k).2 = .no∧k<1000000∧C.nt≤k) (os:w'.os=w.os) (tape:w'.tape=w.tape) (out:w'.output=w.output) (hh:w'.heap=w.heap.push (.cells cur e fz))
  (hf:∀o,o<cur.size→¬(fz.1≤o∧o<fz.2)) (kb:cur.size=cap * st.size) (h1:l.length≤cap) (h2:cap≤maxLen) (hL:bV R w ((l.map st.tv).flatMap TV.cells) ys) (AU:∀(j:Nat) (y:Value),ys[j]?=some y→cur[j]?=some y)
  (hr:(execOp a.eval o).run C.P w = .ok (.value (.slice (some ⟨w.heap.size,0,none⟩) l.length cap)) w'):cL C o a w (bL (bL S k (.sl st l,.pv)) d (.pt,.cM k)):=by
 have AL:w'.heap[w.heap.size]?=some (.cells cur e fz):=by rw [hh];simp
 have hold:∀b,b<w.heap.size→w'.heap[b]?=w.heap[b]?:=fun b hb=>by rw [hh,Array.getElem?_push,al (by omega)]
 have cj:cD R w R w':=fun b o hr=>⟨hr,World.cell?_of_block (w:=w) (hold b (h.core.kj b o hr))⟩
 have hlen:=hL.length
 rw [gV] at hlen
 have AF:cur.toList.take (l.length * st.size)=ys:=by
  apply List.ext_getElem?
  intro j
  rw [aH]
  split
  ·have e:=ah (l:=ys) (i:=j) (by omega)
   have:=AU j _ e
   rw [e]
   simpa using this
  ·exact (List.getElem?_eq_none (by omega)).symm
 have hn:=h.new (x := .sl st l) (g := .pv) (v := .slice (some ⟨w.heap.size,0,none⟩) l.length cap) hk os tape out hh ⟨st,l,rfl,.inr ⟨_,cap,cur,e,fz,rfl,AL,hf,kb,h1,h2,by rw [AF];exact hL.mono cj,fun o=>⟨fun hr=>by have:=h.core.kj _ _ hr;omega,fun hr=>by simp at hr⟩⟩⟩ (.inr rfl) (.inl rfl)
 refine hn.oo hd hl hr (g := .cM k) ⟨(de _ _ _).symm,rfl⟩ rfl fun j hj=>?_
 simp only [Gh.bN,List.mem_singleton] at hj
 subst hj
 exact ⟨hk.2.2,by rw [bG];simp⟩
theorem cC.goVar (h:cC C S a w R τ) (hd:o.dst=some d) (hl:d<C.nt) {ys:List Value} {e:TypeId} {k:Nat} {xs:List TV} (hk:(S k).2 = .no∧k<1000000∧C.nt≤k) (os:w'.os=w.os) (tape:w'.tape=w.tape) (out:w'.output=w.output) (hh:w'.heap=w.heap.push (.cells ⟨ys⟩ e (0,0))) (hL:bV R w xs ys)
  (hr:(execOp a.eval o).run C.P w = .ok (.value (.pointer (some ⟨w.heap.size,0,none⟩))) w'):cL C o a w (bL (bL S k (.ag xs,.cl [])) d (.pt,.ptr k 0)):=by
 have AL:w'.heap[w.heap.size]?=some (.cells ⟨ys⟩ e (0,0)):=by rw [hh];simp
 have hold:∀b,b<w.heap.size→w'.heap[b]?=w.heap[b]?:=fun b hb=>by rw [hh,Array.getElem?_push,al (by omega)]
 have cj:cD R w R w':=fun b o hr=>⟨hr,World.cell?_of_block (w:=w) (hold b (h.core.kj b o hr))⟩
 have hn:=h.new (x := .ag xs) (g := .cl []) (v := .pointer (some ⟨w.heap.size,0,none⟩)) hk os tape out hh ⟨_,ys,e,xs,rfl,AL,rfl,hL.mono cj,by simp,fun o hr=>by have:=h.core.kj _ _ hr;omega⟩ (.inr rfl) (.inr (.inr rfl))
 refine hn.oo hd hl hr (g := .ptr k 0) ⟨_,de _ _ _,rfl⟩ rfl fun j hj=>?_
 simp only [Gh.bN,List.mem_singleton] at hj
 subst hj
 exact ⟨hk.2.2,by rw [bG];simp⟩
variable (h:cC C S a w R τ) (hd:o.dst=some d) (hl:d<C.nt)
include h hd hl
theorem go_al {t:TypeId} {k:Nat} {z:List TV} (hE:fj C.P C.E) (ho:o.op = .alloc t) (hz:C.E.z t=some z) (hk:(S k).2 = .no∧k<1000000∧C.nt≤k):cL C o a w (bL (bL S k (.ag z,.cl [])) d (.pt,.ptr k 0)):=by
 obtain ⟨_,v,h1,h2⟩:=hE.z _ _ hz
 rw [aE] at h1
 obtain ⟨i,hi,DP⟩:=h1
 exact h.goVar hd hl (w':={ w with heap:=w.heap.push (.cells ⟨v.cells.toList⟩ t) }) hk rfl rfl rfl rfl (jM h2) (by simp [execOp,ho,Instr.alloc,kC hi DP,newVar,newRow])
theorem go_bx {t:TypeId} {k:Nat} {x:Operand} {y:TV} (hV:Lt V S) (ho:o.op = .box t x) (hx:dQ C.E C.nt V t x=some (y,.no)) (hp:y.plain=true) (hk:(S k).2 = .no∧k<1000000∧C.nt≤k):cL C o a w (bL (bL S k (.ag y.cells,.cl [])) d (.pt,.ptr k 0)) :=
 h.goVar hd hl (w':={ w with heap:=w.heap.push (.cells ⟨(a.eval x).cells.toList⟩ t) }) hk rfl rfl rfl rfl (gR (cN h hV hx) hp) (by simp [execOp,ho,Instr.box,newVar,newRow])
theorem go_sb {x:Operand} {s t e:TypeId} {c:Cell} {l:IY} {k:Nat} (hV:Lt V S) (ho:o.op = .convert s t x) (hx:dQ C.E C.nt V s x=some c) (hy:nC V c=some (.s l)) (hs:C.P.underlying s=some .string) (ht:C.P.underlying t=some (.slice e)) (he:C.P.underlying e=some (.int .u8)) (hm:lM l.length=true)
  (hk:(S k).2 = .no∧k<1000000∧C.nt≤k):cL C o a w (bL (bL S k (.sl .bs l,.pv)) d (.pt,.cM k)):=by
 have e1:=rd_val h hV hx hy rfl
 have hlen:ByteArray.size ⟨⟨l⟩⟩=l.length:=rfl
 have hm:l.length≤maxLen:=by simpa [lM] using hm
 have fy:=run_bytes_of_string (P:=C.P) w s t e ⟨⟨l⟩⟩ hs ht he
 rw [hlen] at fy
 have AP:=grownCap_ge w l.length 0 e
 have hle:=grownCap_le_maxLen w l.length 0 e hm
 have kb:(bytesRow ⟨⟨l⟩⟩ (grownCap w l.length 0 e)).size=grownCap w l.length 0 e:=by simp only [bytesRow,Array.size_append,Array.size_map,Array.size_replicate,List.size_toArray];omega
 refine h.AZ hd hl (st := .bs) (l:=l) (ys:=l.map fun x => .int .u8 x.toNat) (cur:=bytesRow ⟨⟨l⟩⟩ (grownCap w l.length 0 e)) (e:=e) (fz:=((bytesRow ⟨⟨l⟩⟩ (grownCap w l.length 0 e)).size,(bytesRow ⟨⟨l⟩⟩ (grownCap w l.length 0 e)).size+1)) hk ?_ ?_ ?_ ?_ ?_ ?_ AP hle ?_ ?_ (w':=w.drew.alloc (.cells (bytesRow ⟨⟨l⟩⟩ (grownCap w l.length 0 e)) e ((bytesRow ⟨⟨l⟩⟩ (grownCap w l.length 0 e)).size,(bytesRow ⟨⟨l⟩⟩ (grownCap w l.length 0 e)).size+1)))
  (by simp only [execOp,ho,e1,Sem.run_bind,fy,Result.andThen_ok,Sem.run_pure])
 ·rfl
 ·rfl
 ·rfl
 ·rfl
 ·simp only;intro o ho;omega
 ·simpa [ez.size] using kb
 ·rw [mw]
  have:∀m:IY,bV R w (m.map TV.u8) (m.map fun x => .int .u8 x.toNat):=fun m=>by
   induction m with
   | nil=>exact .nil
   | cons b m ih=>exact .cons rfl (.sc rfl) ih
  exact this l
 ·intro j y hj
  have eL:=(av.1 hj).1
  unfold bytesRow
  rw [Array.getElem?_append_left (by simp at eL ⊢;exact eL)]
  simpa using hj
theorem go_mk {t:TypeId} {x y:Operand} {k jU:Nat} {m n:Int} {st:ez} (hE:fj C.P C.E) (hV:Lt V S) (ho:o.op = .makeSlice t x y) (ht:C.E.ty t=some (st,jU)) (hx:kp C.E C.nt V x=some m) (hy:kp C.E C.nt V y=some n) (hm:As m n jU=true) (hk:(S k).2 = .no∧k<1000000∧C.nt≤k) :
  cL C o a w (bL (bL S k (.sl st (List.replicate m.toNat st.iH),.pv)) d (.pt,.cM k)):=by
 obtain ⟨e,i,zv,h1,h2,h3,h4,h5,h6,h7⟩:=hE.ty _ _ _ ht
 obtain ⟨k1,e1⟩:=iA h hV hx
 obtain ⟨k2,e2⟩:=iA h hV hy
 simp only [As,ae,aF] at hm
 obtain ⟨⟨⟨m0,mn⟩,mb⟩,mm⟩:=hm
 have HG:=run_make (P:=C.P) w t e i zv h1 h2 h5 k1 k2 m n m0 mn (by rw [Int.mul_comm,h4];omega) (by simp only [maxLen] at mm;omega)
 have uC:=st.size_pos
 have HO:((List.replicate m.toNat st.iH).map st.tv).flatMap TV.cells=(List.replicate m.toNat (st.tv st.iH).cells).flatten:=by rw [List.map_replicate,List.flatMap_def,List.map_replicate]
 refine h.AZ hd hl (st:=st) (l:=List.replicate m.toNat st.iH) (cap:=n.toNat) (cur:=madeCells zv.cells (n.toNat * i.size)) (e:=e) (fz:=(0,0)) (ys:=(List.replicate m.toNat zv.cells.toList).flatten) (w':=w.alloc (.cells (madeCells zv.cells (n.toNat * i.size)) e)) hk rfl rfl rfl rfl (fun o _=>by simp) (by rw [size_madeCells,h3]) (by rw [List.length_replicate];omega) (by omega)
  (by rw [HO];exact ju (h7 R w) _) (fun j y hj=>?_) ?_
 ·have q1:=lQ (by simp;omega) _ _ _ hj
  have eL:=(av.1 hj).1
  have CQ:(List.replicate m.toNat zv.cells.toList).flatten.length=m.toNat * st.size:=by simp [h6]
  rw [CQ] at eL
  have hle:m.toNat * st.size≤n.toNat * st.size:=aR _ (by omega)
  have hm:j<n.toNat * i.size:=by rw [h3];omega
  simp only [madeCells,Array.getElem?_map,Array.getElem?_range,hm,if_true,Option.map_some]
  simp only [Array.length_toList,Array.getElem?_toList] at q1
  rw [getElem!_def,q1]
 ·simp only [execOp,ho,e1,e2,Sem.run_bind,HG,Result.andThen_ok,Sem.run_pure,List.length_replicate]
end
end Go.Eng
namespace Go.Eng
open Go.RowKit
theorem fw {P:Program} (g o:Nat) (t:TypeId) (fz:Nat × Nat):∀(vs:List Value) (i:Nat) (cur:Array Value) (w:World),w.heap[g]?=some (.cells cur t fz)→o+i+vs.length≤cur.size →
  (∀j,j<cur.size→¬(fz.1≤j∧j<fz.2))→(∀v∈vs,v.oneCell'=true) →
  (storeCells ⟨g,o,none⟩ vs i).run P w = .ok () (w.setRow g (cur.toList.take (o+i)++vs++cur.toList.drop (o+i+vs.length)).toArray)
 | [],i,cur,w,hg,_,_,_=>by
  simp only [storeCells,bm,aM,Nat.add_zero,List.take_append_drop,Array.toArray_toList]
  rw [setRow_self w g cur t fz hg]
  rfl
 | v :: rest,i,cur,w,hg,hl,hf,h1=>by
  have hi:o+i<cur.size:=by simp at hl;omega
  have E7:(⟨g,o,none⟩:Addr).add i=⟨g,o+i,none⟩:=addr_add g o i
  have qJ:w.cell? ⟨g,o+i,none⟩=some cur[o+i]:=by simp [World.cell?,hg,hi]
  have E1:w.frozen? ⟨g,o+i,none⟩=false:=by
   obtain ⟨f1,f2⟩:=fz
   have:=hf (o+i) hi
   simp only [World.frozen?,hg]
   simp only [Bool.and_eq_false_iff,decide_eq_false_iff_not]
   simp only at this
   omega
  have rZ:(store ((⟨g,o,none⟩:Addr).add i) v).run P w = .ok () (w.setRow g (cur.setIfInBounds (o+i) v)):=by
   rw [E7,run_store P w _ v _ (h1 v (by simp)),qJ]
   simp [E1,setCell_eq_setRow w g (o+i) cur t fz v hg]
  have ih:=fw (P:=P) g o t fz rest (i+1) (cur.setIfInBounds (o+i) v) (w.setRow g (cur.setIfInBounds (o+i) v)) (setRow_heap w g cur _ t _ hg) (by simp at hl ⊢;omega) (by simpa using hf) (fun x hx=>h1 x (by simp [hx]))
  simp only [storeCells,Sem.run_bind,rZ,Result.andThen_ok,ih,setRow_setRow]
  congr 3
  have e:=list_seg_step cur.toList (o+i) v rest (by simp at hl ⊢;omega)
  simpa [Array.toList_setIfInBounds,Nat.add_assoc] using e
section
variable {P:Program} {w:World}
def Source (P:Program) (w:World) (s:Nat) (x:Value) (m:Nat) (news:List Value):Prop :=
 (∀w',(Builtin.lenOf x).run P w' = .ok m w')∧(∀w':World,w'.heap=w.heap→(Builtin.firstCells s m x).run P w' = .ok ⟨news⟩ w')∧news.length=m * s∧∀v∈news,v.oneCell'=true
theorem lg {t u ty e:TypeId} {i:TypeInfo} {du:TypeDesc} (ht:P.underlying t=some (.slice e)) (hi:P.info? e=some i) (hu:P.underlying u=some du) (pg:∀k,du ≠ .int k)
  {g n cap m:Nat} {cur:Array Value} {ce:TypeId} {fz:Nat × Nat} {x:Value} {news:List Value} (hg:w.heap[g]?=some (.cells cur ce fz)) (hf:∀j,j<cur.size→¬(fz.1≤j∧j<fz.2))
  (hx:Source P w i.size x m news) (oi:n+m≤cap) (gg:cur.size=cap * i.size) :
  (Builtin.append_ #[t,u] ty #[.slice (some ⟨g,0,none⟩) n cap,x]).run P w =
   .ok (.slice (some ⟨g,0,none⟩) (n+m) cap) (w.setRow g (cur.toList.take (n * i.size)++news++cur.toList.drop (n * i.size+news.length)).toArray):=by
 obtain ⟨h1,h2,h3,h4⟩:=hx
 have hle:n * i.size+news.length≤cur.size:=by rw [h3,gg,←Nat.add_mul];exact aR _ oi
 have rZ:=fw (P:=P) g (n * i.size) ce fz news 0 cur w hg (by simpa using hle) hf h4
 simp only [Nat.add_zero] at rZ
 have hz:(match du with | .int _=>true | _=>false)=false:=by cases du <;> first | rfl | exact (pg _ rfl).elim
 simp only [Builtin.append_,List.getElem?_toArray,List.getElem?_cons_zero,List.getElem?_cons_succ,Sem.run_bind,run_underlying ht,run_underlying hu,Result.andThen_ok,run_sizeOf hi,Sem.run_pure,hz,bd,if_false,h1,oi,if_true,aQ,h2 w rfl]
 simp [addr_add,rZ]
theorem lh {t u ty e:TypeId} {i:TypeInfo} {z:Value} {du:TypeDesc} (ht:P.underlying t=some (.slice e)) (hi:P.info? e=some i) (hz:i.zero=some z) (hu:P.underlying u=some du) (pg:∀k,du ≠ .int k)
  {q:Option Addr} {n cap m:Nat} {x:Value} {mN news:List Value} (ho:∀w':World,w'.heap=w.heap→(Builtin.firstCells i.size n (.slice q n cap)).run P w' = .ok ⟨mN⟩ w')
  (hx:Source P w i.size x m news) (hg:cap<n+m) (D0:n+m≤maxLen) (hb:(n+m) * i.bytes≤140737488355328) :
  (Builtin.append_ #[t,u] ty #[.slice q n cap,x]).run P w =
   .ok (.slice (some ⟨w.heap.size,0,none⟩) (n+m) (grownCap w (n+m) cap e))
    (w.drew.alloc (.cells ((⟨mN⟩:Array Value)++⟨news⟩++Builtin.zeroCells z.cells (grownCap w (n+m) cap e - (n+m))) e)):=by
 obtain ⟨h1,h2,h3,h4⟩:=hx
 have hn:¬(n+m≤cap):=by omega
 have Fh:¬(9223372036854775807<((n:Int)+(m:Int))):=by simp only [maxLen] at D0;omega
 have Fi:¬(281474976710656<Builtin.nextslicecap (n+m) cap * i.bytes):=by
  have:=growslice_fits hg hb;omega
 have E3:(match du with | .int _=>true | _=>false)=false:=by cases du <;> first | rfl | exact (pg _ rfl).elim
 simp [Builtin.append_,run_underlying ht,run_underlying hu,E3,sizeOf,typeInfo,zeroValue,hi,hz,h1,hn,Fh,Fi,Question.forced,ho w.drew rfl,h2 w.drew rfl,newRow,grownCap]
 congr 2
 apply Array.ext'
 simp [aB]
end
section
variable {w:World}
theorem Source.of_string {P:Program} (b:ByteArray):Source P w 1 (.string b) b.data.toList.length (b.data.toList.map fun b => .int .u8 b.toNat):=by
 refine ⟨fun _=>?_,fun w' _=>?_,by simp,by simp;exact fun _ _=>rfl⟩
 ·rw [bsize];rfl
 ·have:b.extract 0 b.size=b:=by simp
  simp only [Builtin.firstCells,bsize,this,Sem.run_pure]
  congr 1
  apply Array.ext'
  simp
theorem Source.of {P:Program} {R:Reach} {t:ez} {l:List t.El} {x:Value} (h:Holds R w t l x):∃news,Source P w t.size x l.length news∧bV R w ((l.map t.tv).flatMap TV.cells) news:=by
 rcases h with ⟨rfl,rfl | ⟨ad,cap,rfl⟩⟩ | ⟨b,off,cap,ys,rfl,h1,h2,h3⟩
 ·exact ⟨[],⟨fun _=>rfl,fun _ _=>rfl,by simp,by simp⟩,.nil⟩
 ·exact ⟨[],⟨fun _=>rfl,fun w' _=>run_firstCells_some (P:=P) w' t.size 0 ad 0 cap [] (by simp) (fun j v hj=>by simp at hj),by simp,by simp⟩,.nil⟩
 ·refine ⟨ys,⟨fun _=>rfl,fun w' hw=>?_,h1,h3.one⟩,h3⟩
  exact run_firstCells_some (P:=P) w' t.size l.length ⟨b,off,none⟩ l.length cap ys h1 (fun j v hj=>by rw [addr_add];rw [World.cell?_of_block (w:=w) (by rw [hw])];exact h2 j v hj)
theorem Source.Ap {P:Program} {R:Reach} (l:IY):Source P w 1 (.string ⟨⟨l⟩⟩) l.length (l.map fun b => .int .u8 b.toNat)∧bV R w ((l.map (ez.tv .bs)).flatMap TV.cells) (l.map fun b => .int .u8 b.toNat):=by
 refine ⟨Source.of_string (P:=P) (w:=w) ⟨⟨l⟩⟩,?_⟩
 rw [mw]
 induction l with
 | nil=>exact .nil
 | cons b m ih=>exact .cons rfl (.sc rfl) ih
end
theorem qO {s:Nat}:∀{es:List TV} {i:Nat} {e:TV},(∀x∈es,x.cells.length=s)→es[i]?=some e→((es.flatMap TV.cells).drop (i * s)).take s=e.cells
 | x :: es,0,e,h,he=>by
  simp at he;subst he
  have:=h x (by simp)
  simp [←this]
 | x :: es,i+1,e,h,he=>by
  have hx:=h x (by simp)
  have ih:=qO (es:=es) (i:=i) (e:=e) (fun y hy=>h y (by simp [hy])) (by simpa using he)
  simp only [List.flatMap_cons]
  rw [show (i+1) * s=x.cells.length+i * s by rw [hx,Nat.succ_mul];omega,←List.drop_drop,List.drop_left]
  exact ih
 | [],_,_,_,he=>by simp at he
end Go.Eng
namespace Go.Eng
open Go.RowKit
section
variable {C:Ctx} {S V:St} {a:Act} {w w':World} {R:Reach} {τ:Nat→Value} {o:Oper} {d:Nat}
theorem cC.wr (h:cC C S a w R τ) {k b:Nat} {cur cur':Array Value} {e:TypeId} {fz:Nat × Nat} {x:TV} {g:Gh} (hk:C.nt≤k) (hb:dq τ S k=some b) (hP:(S k).2.s9=false) (hh:w.heap[b]?=some (.cells cur e fz)) (hR:∀o,¬R b o)
  (new:fi R (w.setRow b cur') τ x g (τ k)) (hg:g.s9=false∧g ≠ .no) (hm:∀j∈g.bN,j≠k∧C.nt≤j∧(S j).2 ≠ .no):cC C (bL S k (x,g)) a (w.setRow b cur') R τ:=by
 have cj:cD R w R (w.setRow b cur'):=fun c o hr=>⟨hr,cell_setRow_other w b _ ⟨c,o,none⟩ (fun e=>hR o (by have:c=b:=e;rw [←this];exact hr))⟩
 have wC:=(cW hb).1
 have hc:=h.core.tO (k:=k) (v:=τ k) (x:=x) (g:=g) (w':=w.setRow b cur') (R':=R) hk cj (fun j c hj hc=>⟨setRow_other w b c cur' (fun e=>hj (h.core.kh hb (e ▸ hc)).symm),fun _=>id⟩)
  new (.inl rfl) ⟨hP,hg.1⟩ hg.2 (fun _ => .inl wC) (fun c B0 BZ=>by
   have:dq τ S k=some c:=dM wC (pa hP) BZ
   exact ⟨h.core.b9 k c this,.inr this⟩) hm (fun c o hr=>by rw [setRow_size];exact h.core.kj c o hr)
 rw [show ky τ k (τ k)=τ by funext j;simp only [ky];split <;> simp_all] at hc
 exact ⟨h.size,h.defers,hc,h.tmps,h.io,h.ext.trans (io':=(·=b)) ⟨rfl,rfl,rfl,by rw [setRow_size];exact Nat.le_refl _,fun c _ hc=>setRow_other w b c cur' hc,cj,fun c o hr => .inl hr⟩ fun c hc=>hc ▸ h.core.b9 k b hb,h.gl.cj cj⟩
theorem cC.AY (h:cC C S a w' R τ) (hd:o.dst=none) (hr:(execOp a.eval o).run C.P w = .ok .skip w'):cL C o a w S:=fun K Q hK=>by
 unfold Oper.wp
 rw [hr,Oper.upon_skip,hd]
 exact hK _ _ ⟨R,τ,h⟩
variable (h:cC C S a w R τ) (hV:Lt V S)
include h hV
theorem gX {m:Nat} {xs:List TV} {ts:List (Nat × Nat)} (hm:S m=(.ag xs,.cl ts)):∃b cs e,τ m = .pointer (some ⟨b,0,none⟩)∧w.heap[b]?=some (.cells ⟨cs⟩ e (0,0))∧bV R w xs cs∧(∀t∈ts,cs[t.1]?=some (τ t.2))∧(∀o,¬R b o)∧(∀t∈ts,C.nt≤t.2∧(S t.2).2 ≠ .no)∧dq τ S m=some b:=by
 have _:=hV
 have hk:=h.core.key m
 rw [hm] at hk
 obtain ⟨b,cs,e,xC,h1,h2,h3,h4,h5,h6⟩:=hk
 cases h3
 refine ⟨b,cs,e,h1,h2,h4,h5,h6,fun t ht=>?_,dM (by rw [hm];rfl) (by rw [hm];rfl) (by rw [h1];rfl)⟩
 have:=h.core.inv m t.2
 rw [hm] at this
 exact this (List.mem_map_of_mem (f:=(·.2)) ht)
section
variable (hd:o.dst=some d) (hl:d<C.nt)
include hd hl
theorem go_lr {x:Operand} {t:TypeId} {n:Nat} {agg:Bool} {y:TV} (ho:o.op = .load t x) (hs:fm C.P t=some (n,agg)) (h1:agg=true∨n=1) (hx:dQ C.E C.nt V 0 x=some (.ro y,.no)) (h2:y.lV=agg) (h3:y.cells.length=n):cL C o a w (bL S d (y,.no)):=by
 obtain ⟨b,off,s',hv,hA⟩:=(cN h hV hx).rS
 obtain ⟨inf,hi,rfl,ha⟩:=dU hs
 obtain ⟨ys,AN,hc,hL⟩:=hA.read
 have AF:ys.length=inf.size:=by rw [←hL.length,h3]
 refine h.eA hd hl (v:=if agg then .agg ⟨ys⟩ else ys.headD undef) ?_ (by rw [←h2];exact Cl hL)
 simp only [execOp,ho,hv,Instr.loadAt,Instr.sureAddr,Sem.run_bind,Sem.run_pure,Result.andThen_ok,fe hi ha h1 AF hc]
theorem go_ld {x:Operand} {t:TypeId} {m q n:Nat} {agg:Bool} {cs pC:List TV} {ts:List (Nat × Nat)} {y:TV} {ws:List (Nat × Cell)} (ho:o.op = .load t x) (hs:fm C.P t=some (n,agg)) (h1:agg=true∨n=1) (hx:dQ C.E C.nt V 0 x=some (.pt,.ptr m q)) (hm:S m=(.ag cs,.cl ts))
  (hf:iC V q n ts cs=some (pC,ws)) (hp:iy pC q n agg=some y):cL C o a w (bL (cJ S ws) d (y,.no)):=by
 obtain ⟨q1,_,q3⟩:=dO h hV hx
 obtain ⟨b',p1,hv⟩:∃b,τ m = .pointer (some ⟨b,0,none⟩)∧a.eval x = .pointer (some ⟨b,q,none⟩):=q1
 obtain ⟨b,ys,e,k1,k2,k3,k4,k5,k6,_⟩:=gX h hV hm
 rw [k1] at p1;cases p1
 obtain ⟨inf,hi,rfl,ha⟩:=dU hs
 obtain ⟨R',f1,f2,f3,_⟩:=hM h.core hV.q k3 (fun t ht=>⟨(k6 t ht).1,k4 t ht⟩) hf
 have h':=h.fz f1 f2
 obtain ⟨hlen,fq⟩:=jx f3 hp h1
 refine h'.eA hd hl (v:=if agg then .agg ⟨(ys.drop q).take inf.size⟩ else ((ys.drop q).take inf.size).headD undef) ?_ fq
 have hc:∀j y,((ys.drop q).take inf.size)[j]?=some y→w.cell? ⟨b',q+j,none⟩=some y:=fun j y hj=>by
  rw [aH] at hj
  split at hj
  ·rw [List.getElem?_drop] at hj
   simp only [World.cell?,k2];simpa using hj
  ·cases hj
 simp only [execOp,ho,hv,Instr.loadAt,Instr.sureAddr,Sem.run_bind,Sem.run_pure,Result.andThen_ok,fe hi ha h1 hlen hc]
theorem go_ldt {x:Operand} {t:TypeId} {m q k:Nat} {cs:List TV} {ts:List (Nat × Nat)} (ho:o.op = .load t x) (hs:fm C.P t=some (1,false)) (hx:dQ C.E C.nt V 0 x=some (.pt,.ptr m q)) (hm:S m=(.ag cs,.cl ts)) (hf:gr q ts=some k):cL C o a w (bL S d (.pt,.cM k)):=by
 obtain ⟨q1,_,q3⟩:=dO h hV hx
 obtain ⟨b',p1,hv⟩:∃b,τ m = .pointer (some ⟨b,0,none⟩)∧a.eval x = .pointer (some ⟨b,q,none⟩):=q1
 obtain ⟨b,ys,e,k1,k2,k3,k4,k5,k6,_⟩:=gX h hV hm
 rw [k1] at p1;cases p1
 obtain ⟨inf,hi,hn,ha⟩:=dU hs
 have jh:=gi hf
 have hy:=k4 _ jh
 refine h.val hd hl (v:=τ k) ?_ (g := .cM k) ⟨rfl,k3.one _ (az hy)⟩ rfl fun j hj=>?_
 ·have:=fe (P:=C.P) hi ha (.inr hn) (w:=w) (b:=b') (off:=q) (ys:=[τ k]) (by simp [hn]) (fun j y hj=>by
   cases j with
   | zero=>cases hj;simp only [World.cell?,k2];simpa using hy
   | succ j=>simp at hj)
  simp only [execOp,ho,hv,Instr.loadAt,Instr.sureAddr,Sem.run_bind,Sem.run_pure,Result.andThen_ok,this]
  rfl
 ·simp only [Gh.bN,List.mem_singleton] at hj
  subst hj
  exact k6 _ jh
theorem go_ldo {x:Operand} {t:TypeId} {m:Nat} {cs:List TV} {ts:List (Nat × Nat)} (ho:o.op = .load t x) (hs:fm C.P t=some (cs.length,true)) (hx:dQ C.E C.nt V 0 x=some (.pt,.ptr m 0)) (hm:S m=(.ag cs,.cl ts)):cL C o a w (bL S d (.ag cs,.ow ts)):=by
 obtain ⟨q1,_,q3⟩:=dO h hV hx
 obtain ⟨b',p1,hv⟩:∃b,τ m = .pointer (some ⟨b,0,none⟩)∧a.eval x = .pointer (some ⟨b,0,none⟩):=q1
 obtain ⟨b,ys,e,k1,k2,k3,k4,k5,k6,_⟩:=gX h hV hm
 rw [k1] at p1;cases p1
 obtain ⟨inf,hi,hn,ha⟩:=dU hs
 have hle:=k3.length
 refine h.val hd hl (v := .agg ⟨ys⟩) ?_ (g := .ow ts) ⟨_,_,rfl,rfl,k3,k4⟩ rfl fun j hj=>?_
 ·have:=fe (P:=C.P) hi ha (.inl rfl) (w:=w) (b:=b') (off:=0) (ys:=ys) (by omega) (fun j y hj=>by simp only [World.cell?,k2];simpa using hj)
  simp only [execOp,ho,hv,Instr.loadAt,Instr.sureAddr,Sem.run_bind,Sem.run_pure,Result.andThen_ok,this]
  rfl
 ·obtain ⟨t,ht,rfl⟩:=aS.1 hj
  exact k6 t ht
omit hd hl in
theorem zQ {x:Operand} {t:TypeId} {i s q k:Nat} {st:ez} {l:List st.El} {p:Bool} (hx:dQ C.E C.nt V t x=some (.el i s q,.pe k)) (hk:cP R w p (τ k) (.sl st l)) (hs:s=st.size) (hi:i<l.length) :
  ∃g cap cur e fz,τ k = .slice (some ⟨g,0,none⟩) l.length cap∧a.eval x = .pointer (some ⟨g,i * st.size+q,none⟩)∧w.heap[g]?=some (.cells cur e fz)∧(∀o,o<cur.size→¬(fz.1≤o∧o<fz.2))∧cur.size=cap * st.size∧l.length≤cap∧cap≤maxLen ∧
   bV R w ((l.map st.tv).flatMap TV.cells) (cur.toList.take (l.length * st.size))∧(∀o,R g o ↔ (p=true∧o<l.length * st.size))∧bV R w (st.tv l[i]).cells (((cur.toList.take (l.length * st.size)).drop (i * st.size)).take st.size):=by
 subst hs
 obtain ⟨q1,_,_⟩:=dO h hV hx
 obtain ⟨b,i',s',q',p1,p2,hv⟩:∃b i' s' q',Value.dq (τ k)=some b∧TV.el i st.size q = .el i' s' q'∧a.eval x = .pointer (some ⟨b,i' * s'+q',none⟩):=q1
 cases p2
 rcases hk.cells with ⟨rfl,_⟩ | ⟨g,cap,cur,e,fz,e1,e2,e3,e4,e5,e6,e7,e8⟩
 ·simp at hi
 ·rw [e1] at p1;cases p1
  have:=(e7.drop (i * st.size)).take st.size
  rw [qO (e:=st.tv l[i]) (fun y hy=>by obtain ⟨z,_,rfl⟩:=aS.1 hy;exact ez.fM st z) (by simp [hi])] at this
  exact ⟨g,cap,cur,e,fz,e1,hv,e2,e3,e4,e5,e6,e7,e8,this⟩
theorem go_pld {x:Operand} {t:TypeId} {i s q k n:Nat} {agg p:Bool} {st:ez} {l:List st.El} {y:TV} (ho:o.op = .load t x) (hs:fm C.P t=some (n,agg)) (h1:agg=true∨n=1) (hx:dQ C.E C.nt V 0 x=some (.el i s q,.pe k)) (hk:cP R w p (τ k) (.sl st l)) (h2:s=st.size) (hi:i<l.length)
  (hp:oX (st.tv (l.getD i st.iH)) q n agg=some y):cL C o a w (bL S d (y,.no)):=by
 obtain ⟨g,cap,cur,e,fz,_,hv,hh,_,kb,hle,_,_,_,HY⟩:=zQ h hV hx hk h2 hi
 obtain ⟨inf,nK,rfl,ha⟩:=dU hs
 rw [ai,ah hi,Option.getD_some] at hp
 have AK:iy (st.tv l[i]).cells q inf.size agg=some y:=by
  unfold oX at hp
  split at hp
  ·rename_i cs e;rw [e];exact hp
  ·rename_i gf
   cases hb:(Nat.beq q 0&&Nat.beq inf.size 1&&!agg) with
   | false=>rw [hb] at hp;cases hp
   | true =>
    rw [hb] at hp;cases hp
    simp only [ae,Bool.not_eq_true'] at hb
    obtain ⟨⟨b1,b2⟩,rfl⟩:=hb
    have b1:=aj b1
    subst b1
    have:(st.tv l[i]).cells=[st.tv l[i]]:=by
     cases hq:st.tv l[i] <;> first | rfl | exact (gf _ hq).elim
    rw [this];rfl
 obtain ⟨hlen,fq⟩:=jx HY AK h1
 refine h.eA hd hl (v:=if agg then .agg ⟨(((((cur.toList.take (l.length * st.size)).drop (i * st.size)).take st.size).drop q).take inf.size)⟩ else (((((cur.toList.take (l.length * st.size)).drop (i * st.size)).take st.size).drop q).take inf.size).headD undef) ?_ fq
 have hc:∀j y,(((((cur.toList.take (l.length * st.size)).drop (i * st.size)).take st.size).drop q).take inf.size)[j]?=some y→w.cell? ⟨g,i * st.size+q+j,none⟩=some y:=by
  intro j y hj
  simp only [World.cell?,hh]
  rw [aH] at hj
  split at hj
  ·rw [List.getElem?_drop,aH] at hj
   split at hj
   ·rw [List.getElem?_drop,aH] at hj
    split at hj
    ·rw [show i * st.size+q+j=i * st.size+(q+j) by omega];simpa using hj
    ·cases hj
   ·cases hj
  ·cases hj
 simp only [execOp,ho,hv,Instr.loadAt,Instr.sureAddr,Sem.run_bind,Sem.run_pure,Result.andThen_ok,fe nK ha h1 hlen hc]
end
end
end Go.Eng
namespace Go.Eng
open Go.RowKit
section
variable {R:Reach} {w:World}
theorem ov (l:List Value):∀(off k:Nat) (cells:Array Value),off+k+l.length≤cells.size →
  ((l.zipIdx k).foldl (fun cs p=>cs.setIfInBounds (off+p.2) p.1) cells).toList=cells.toList.take (off+k)++l++cells.toList.drop (off+k+l.length):=by
 induction l with
 | nil=>intro off k cells _;simp
 | cons v l ih =>
  intro off k cells hl
  simp only [List.zipIdx_cons,List.foldl_cons]
  rw [ih off (k+1) (cells.setIfInBounds (off+k) v) (by simp at hl ⊢;omega)]
  have e:=list_seg_step cells.toList (off+k) v l (by simp at hl ⊢;omega)
  simpa [Array.toList_setIfInBounds,Nat.add_assoc] using e
theorem we {R:Reach} {w:World} {x:TV} {v:Value} (h:Rep R w x v) (hp:x.Cu=true) (h1:x = .pt→v.oneCell'=true):bV R w x.cells v.cells.toList:=by
 cases x with
 | pt =>
  have e2:v.cells.toList=[v]:=by have:=h1 rfl;cases v <;> first | rfl | (simp [Value.oneCell'] at this)
  rw [e2];exact .cons (h1 rfl) h .nil
 | _=>exact gR h hp
theorem qR (place:Nat→Option (Nat × Nat)):∀(parts:List (Nat × Value)) (pl:List (Nat × Nat)) (xs:List TV) (z cs:List TV) (cells:Array Value),bV R w z cells.toList→parts.length=pl.length →
  (∀(j:Nat) (p:Nat × Value) (q:Nat × Nat),parts[j]?=some p→pl[j]?=some q→place p.1=some q)→(∀(j:Nat) (p:Nat × Value) (x:TV),parts[j]?=some p→xs[j]?=some x→Rep R w x p.2∧(x = .pt→p.2.oneCell'=true))→jG z pl xs=some cs →
  ∃cA,Instr.fill place cells parts=some cA∧bV R w cs cA.toList
 | [],pl,xs,z,cs,cells,hz,hl,_,_,hf=>by
  have:pl=[]:=bh hl.symm
  subst this
  cases xs with
  | nil=>simp [jG] at hf;subst hf;exact ⟨cells,rfl,hz⟩
  | cons=>simp [jG] at hf
 | (i,v) :: parts,pl,xs,z,cs,cells,hz,hl,hp,hr,hf=>by
  cases pl with
  | nil=>simp at hl
  | cons q pl =>
   obtain ⟨off,n⟩:=q
   cases xs with
   | nil=>simp [jG] at hf
   | cons x xs =>
    simp only [jG] at hf
    obtain ⟨hc,hf⟩:=br.1 hf
    ·simp only [ae] at hc
     obtain ⟨⟨B0,BZ⟩,Gl⟩:=hc
     have BZ:=aj BZ
     have Gl:=Nat.le_of_ble_eq_true Gl
     have hx:=we (hr 0 _ _ rfl rfl).1 B0 (hr 0 _ _ rfl rfl).2
     have yx:=hx.length
     have Ez:=hz.length
     simp only [Array.length_toList] at yx Ez
     have nD:=hp 0 _ _ rfl rfl
     simp only at nD
     have hs:v.cells.size=n:=by omega
     have gg:¬(v.cells.size≠n∨off+v.cells.size > cells.size):=by omega
     have fc:=ov v.cells.toList off 0 cells (by simp;omega)
     have Hl:bV R w (eg z off x.cells) (v.cells.zipIdx.foldl (fun cs p=>cs.setIfInBounds (off+p.2) p.1) cells).toList:=by
      have e:(v.cells.zipIdx.foldl (fun cs p=>cs.setIfInBounds (off+p.2) p.1) cells)=(v.cells.toList.zipIdx 0).foldl (fun cs p=>cs.setIfInBounds (off+p.2) p.1) cells:=by
       rw [←Array.foldl_toList];simp
      rw [e,fc]
      have hle:v.cells.toList.length=x.cells.length:=by simp;omega
      simp only [eg,Nat.add_zero,hle]
      exact ((hz.take off).append hx).append (hz.drop _)
     obtain ⟨cA,h1,h2⟩:=qR place parts pl xs _ cs _ Hl (by simpa using hl) (fun j p q h1 h2=>hp (j+1) p q (by simpa using h1) (by simpa using h2)) (fun j p y h1 h2=>hr (j+1) p y (by simpa using h1) (by simpa using h2)) hf
     refine ⟨cA,?_,h2⟩
     simp only [Instr.fill,nD]
     rw [al (by simpa using gg)]
     exact h1
end
theorem oz (s:Nat):∀(vs:List Value) (k:Nat) (cells:Array Value),(∀v∈vs,v.cells.size=s)→(k+vs.length) * s=cells.size →
  ∃cA,Instr.fill (fun i=>some (i * s,s)) cells ((vs.zipIdx k).map fun p=>(p.2,p.1))=some cA∧cA.toList=cells.toList.take (k * s)++vs.flatMap fun v=>v.cells.toList
 | [],k,cells,_,hl=>by
  refine ⟨cells,rfl,?_⟩
  simp at hl
  simp [List.take_of_length_le,hl]
 | v :: vs,k,cells,hv,hl=>by
  have h0:=hv v (by simp)
  simp only [aJ] at hl
  have hm:(k+(vs.length+1)) * s=k * s+s+vs.length * s:=by rw [Nat.add_mul,Nat.succ_mul];omega
  have gg:¬(v.cells.size≠s∨k * s+v.cells.size > cells.size):=by omega
  have fc:=ov v.cells.toList (k * s) 0 cells (by simp;omega)
  have e:(v.cells.zipIdx.foldl (fun cs p=>cs.setIfInBounds (k * s+p.2) p.1) cells)=(v.cells.toList.zipIdx 0).foldl (fun cs p=>cs.setIfInBounds (k * s+p.2) p.1) cells:=by
   rw [←Array.foldl_toList];simp
  have kb:(v.cells.zipIdx.foldl (fun cs p=>cs.setIfInBounds (k * s+p.2) p.1) cells).size=cells.size:=by
   rw [e,←Array.length_toList,fc];simp;omega
  obtain ⟨cA,h1,h2⟩:=oz s vs (k+1) (v.cells.zipIdx.foldl (fun cs p=>cs.setIfInBounds (k * s+p.2) p.1) cells) (fun u hu=>hv u (by simp [hu])) (by rw [kb,←hl];congr 1;omega)
  refine ⟨cA,?_,?_⟩
  ·simp only [List.zipIdx_cons,aP,Instr.fill]
   rw [al (by simpa using gg)]
   exact h1
  ·rw [h2,e,fc]
   have IG:(k+1) * s=k * s+s:=Nat.succ_mul k s
   have hL:(cells.toList.take (k * s+0)++v.cells.toList).length=(k+1) * s:=by simp;omega
   rw [aB,←aB (cells.toList.take (k * s+0)),List.take_left' hL]
   simp
theorem n0 {α:Type}:∀(l:List (Nat × α)) (k:Nat),l.map (·.1)=List.range' k l.length→l=((l.map (·.2)).zipIdx k).map fun p=>(p.2,p.1)
 | [],_,_=>rfl
 | (i,x) :: l,k,h=>by
  simp only [aP,aJ,List.range'_succ,bj] at h
  simp only [aP,List.zipIdx_cons]
  rw [←n0 l (k+1) h.2,h.1]
theorem nZ {R:Reach} {w:World} {s:Nat}:∀{xs:List TV} {vs:List Value},dX R w xs vs→(∀x∈xs,x.plain=true∧x.cells.length=s)→bV R w (xs.flatMap TV.cells) (vs.flatMap fun v=>v.cells.toList)∧∀v∈vs,v.cells.size=s
 | _,_,.nil,_=>⟨.nil,by simp⟩
 | _,_,.cons (x:=x) h t,hx=>by
  obtain ⟨h1,h2⟩:=nZ t (fun x pd=>hx x (by simp [pd]))
  obtain ⟨p1,p2⟩:=hx x (by simp)
  have hL:=gR h p1
  refine ⟨by simpa using hL.append h1,fun v hv=>?_⟩
  rcases aC.1 hv with rfl | hv
  ·have:=hL.length;simp at this;omega
  ·exact h2 v hv
end Go.Eng
namespace Go.Eng
open Go.RowKit
theorem n8 {v:Value} (h:v.oneCell'=true):v.cells.toList=[v]:=by cases v <;> first | rfl | (simp [Value.oneCell'] at h)
theorem pV {α:Type} (l v:List α) {a N:Nat} (h:a+v.length≤N) (hl:N≤l.length):(l.take a++v++l.drop (a+v.length)).take N=(l.take N).take a++v++(l.take N).drop (a+v.length):=by
 have e:(l.take a++v).length=a+v.length:=by simp;omega
 rw [List.take_append,List.take_of_length_le (by omega),e,List.take_take,Nat.min_eq_left (by omega),List.drop_take]
theorem lR {s:Nat}:∀{es:List TV} {i q:Nat} {e e':TV} {ys:List TV},(∀x∈es,x.cells.length=s)→es[i]?=some e→e'.cells=eg e.cells q ys→q+ys.length≤s→(es.set i e').flatMap TV.cells=eg (es.flatMap TV.cells) (i * s+q) ys
 | x :: es,0,q,e,e',ys,h,he,hc,hq=>by
  simp at he;subst he
  have hx:=h x (by simp)
  simp only [List.set_cons_zero,List.flatMap_cons,Nat.zero_mul,Nat.zero_add,hc,eg]
  rw [List.take_append_of_le_length (by omega),List.drop_append_of_le_length (by omega)]
  simp only [aB]
 | x :: es,i+1,q,e,e',ys,h,he,hc,hq=>by
  have hx:=h x (by simp)
  have ih:=lR (es:=es) (i:=i) (q:=q) (e:=e) (e':=e') (ys:=ys) (fun y hy=>h y (by simp [hy])) (by simpa using he) hc hq
  simp only [List.set_cons_succ,List.flatMap_cons,ih,eg]
  rw [show (i+1) * s+q=x.cells.length+(i * s+q) by rw [hx,Nat.succ_mul];omega,List.take_length_add_append,show x.cells.length+(i * s+q)+ys.length=x.cells.length+(i * s+q+ys.length) by omega,List.drop_length_add_append]
  simp only [aB]
 | [],_,_,_,_,_,_,he,_,_=>by simp at he
section
variable {C:Ctx} {S V:St} {a:Act} {w w':World} {R:Reach} {τ:Nat→Value} {o:Oper} {d:Nat} (h:cC C S a w R τ) (hV:Lt V S)
include h hV
theorem go_st' (hd:o.dst=none) {x v:Operand} {t:TypeId} {inf:TypeInfo} {m q:Nat} {cs:List TV} {ts us:List (Nat × Nat)} {qs:List TV} (ho:o.op = .store t x v) (hi:C.P.info? t=some inf) (hx:dQ C.E C.nt V 0 x=some (.pt,.ptr m q)) (hm:S m=(.ag cs,.cl ts)) (hL:bV R w qs (a.eval v).cells.toList) (hn:qs.length=inf.size) (gg:q+inf.size≤cs.length)
  (hu:∀u∈us,u.2≠m∧((u∈ts∧(u.1<q∨q+inf.size≤u.1))∨(C.nt≤u.2∧(S u.2).2 ≠ .no∧q≤u.1∧(a.eval v).cells.toList[u.1 - q]?=some (τ u.2)))):cL C o a w (bL S m (.ag (eg cs q qs),.cl us)):=by
 obtain ⟨q1,_,q3⟩:=dO h hV hx
 obtain ⟨b',p1,hv⟩:∃b,τ m = .pointer (some ⟨b,0,none⟩)∧a.eval x = .pointer (some ⟨b,q,none⟩):=q1
 obtain ⟨b,ys,e,k1,k2,k3,k4,k5,k6,k7⟩:=gX h hV hm
 rw [k1] at p1;cases p1
 have hlen:=hL.length
 have HI:=k3.length
 have zJ:(a.eval v).cells.size=inf.size:=by simp at hlen;omega
 have rZ:=run_storeCells_at (P:=C.P) b' q e (a.eval v).cells.toList 0 ⟨ys⟩ w k2 (by simp;omega) hL.one
 simp only [Nat.add_zero] at rZ
 let new:List Value:=ys.take q++(a.eval v).cells.toList++ys.drop (q+(a.eval v).cells.toList.length)
 have fy:(execOp a.eval o).run C.P w = .ok .skip (w.setRow b' ⟨new⟩):=by
  have:¬((a.eval v).cells.size≠inf.size):=by omega
  simp only [execOp,ho,hv,Instr.storeAt,Instr.sureAddr,Sem.run_bind,Sem.run_pure,Result.andThen_ok,storeVar,run_sizeOf hi,Sem.run_ite,this,if_false,rZ]
  rfl
 have cj:cD R w R (w.setRow b' ⟨new⟩):=fun b o hr=>⟨hr,cell_setRow_other w b' _ ⟨b,o,none⟩ (fun e=>k5 o (by have:b=b':=e;rw [←this];exact hr))⟩
 have hle:(a.eval v).cells.toList.length=qs.length:=hlen.symm
 have Ff:bV R (w.setRow b' ⟨new⟩) (eg cs q qs) new:=by
  show bV R (w.setRow b' ⟨new⟩) _ (ys.take q++(a.eval v).cells.toList++ys.drop (q+(a.eval v).cells.toList.length))
  rw [hle]
  exact (((k3.take q).append hL).append (k3.drop (q+qs.length))).mono cj
 refine (h.wr (k:=m) (b:=b') (cur:=⟨ys⟩) (cur':=⟨new⟩) (x := .ag (eg cs q qs)) (g := .cl us) (q3 m (by simp [Gh.bN])).1 k7 (by rw [hm];rfl) k2 k5 ⟨b',new,e,_,k1,setRow_heap w b' ⟨ys⟩ ⟨new⟩ e (0,0) k2,rfl,Ff,fun u CF=>?_,k5⟩ ⟨rfl,by simp⟩ fun j hj=>?_).AY hd fy
 ·rcases (hu u CF).2 with ⟨h1,h2⟩ | ⟨_,_,h1,h2⟩
  ·have hc:=k4 u h1
   have eL:=(av.1 hc).1
   simp only [new]
   rcases h2 with h2 | h2
   ·rw [aB,List.getElem?_append_left (by simp;omega),aH,aq h2];exact hc
   ·rw [aT (by simp;omega)]
    simp only [ak,ay,hle,hn,List.getElem?_drop]
    rw [←hc];congr 1;omega
  ·have eL:=(av.1 h2).1
   simp only [new]
   rw [aB,aT (by simp;omega),ay,Nat.min_eq_left (by omega),List.getElem?_append_left eL]
   exact h2
 ·obtain ⟨u,CF,rfl⟩:=aS.1 hj
  obtain ⟨h1,h2⟩:=hu u CF
  refine ⟨h1,?_⟩
  rcases h2 with ⟨h2,_⟩ | ⟨h2,h3,_⟩
  ·exact k6 u h2
  ·exact ⟨h2,h3⟩
omit h hV in
theorem n4 {o n:Nat} {ts:List (Nat × Nat)} {u:Nat × Nat} (hu:u∈sT o n ts):u∈ts∧(u.1<o∨o+n≤u.1):=by
 obtain ⟨h1,h2⟩:=List.mem_filter.1 hu
 simp only [Bool.or_eq_true] at h2
 exact ⟨h1,h2.imp (fun h=>Nat.le_of_ble_eq_true h) (fun h=>Nat.le_of_ble_eq_true h)⟩
theorem go_pst (hd:o.dst=none) {x v:Operand} {t:TypeId} {inf:TypeInfo} {i s q k:Nat} {st:ez} {l:List st.El} {y e':TV} {z:st.El} (ho:o.op = .store t x v) (hi:C.P.info? t=some inf) (hx:dQ C.E C.nt V 0 x=some (.el i s q,.pe k)) (hk:S k=(.sl st l,.pv)) (hv:Rep R w y (a.eval v)) (hp:y.plain=true) (hn:y.cells.length=inf.size)
  (hs:s=st.size) (eL:i<l.length) (he:rU (st.tv (l.getD i st.iH)) q y=some e') (hz:st.el e'=some z):cL C o a w (bL S k (.sl st (l.set i z),.pv)):=by
 have hK:=h.core.key k
 rw [hk] at hK
 obtain ⟨g,cap,cur,ce,fz,h1,h2,h3,h4,h5,h6,h7,h8,h9,iU⟩:=zQ h hV hx hK hs eL
 obtain ⟨_,_,q3⟩:=dO h hV hx
 have hL:=gR hv hp
 have hlen:=hL.length
 have zJ:(a.eval v).cells.size=inf.size:=by simp at hlen;omega
 rw [ai,ah eL,Option.getD_some] at he
 have BQ:=ez.fM st l[i]
 obtain ⟨gg,fc⟩:q+y.cells.length≤st.size∧e'.cells=eg (st.tv l[i]).cells q y.cells:=by
  unfold rU at he
  split at he
  ·rename_i cs ec
   cases hb:Nat.ble (q+y.cells.length) cs.length with
   | false=>rw [hb] at he;cases he
   | true =>
    rw [hb] at he;cases he
    rw [ec] at BQ ⊢
    have:=Nat.le_of_ble_eq_true hb
    exact ⟨by simp [TV.cells] at BQ;omega,rfl⟩
  ·rename_i gf
   cases hb:(Nat.beq q 0&&!y.lV) with
   | false=>rw [hb] at he;cases he
   | true =>
    rw [hb] at he;cases he
    simp only [ae,Bool.not_eq_true'] at hb
    have hq:=aj hb.1
    subst hq
    have e1:(st.tv l[i]).cells=[st.tv l[i]]:=by cases hq:st.tv l[i] <;> first | rfl | exact (gf _ hq).elim
    have e2:y.cells=[y]:=by cases y <;> first | rfl | (simp [TV.lV] at hb)
    rw [e1] at BQ
    rw [e1,e2]
    simp at BQ
    exact ⟨by simp;omega,by simp [eg]⟩
 have hle:(i+1) * st.size≤l.length * st.size:=aR _ eL
 rw [Nat.succ_mul] at hle
 have EW:l.length * st.size≤cap * st.size:=aR _ h6
 have rZ:=fw (P:=C.P) g (i * st.size+q) ce fz (a.eval v).cells.toList 0 cur w h3 (by rw [h5,←hlen];omega) h4 hL.one
 simp only [Nat.add_zero] at rZ
 let new:Array Value:=(cur.toList.take (i * st.size+q)++(a.eval v).cells.toList++cur.toList.drop (i * st.size+q+(a.eval v).cells.toList.length)).toArray
 have fy:(execOp a.eval o).run C.P w = .ok .skip (w.setRow g new):=by
  have:¬((a.eval v).cells.size≠inf.size):=by omega
  simp only [execOp,ho,h2,Instr.storeAt,Instr.sureAddr,Sem.run_bind,Sem.run_pure,Result.andThen_ok,storeVar,run_sizeOf hi,Sem.run_ite,this,if_false,rZ]
  rfl
 have hR:∀o,¬R g o:=fun o hr=>by have:=(h9 o).1 hr;simp at this
 have cj:cD R w R (w.setRow g new):=fun b o hr=>⟨hr,cell_setRow_other w g _ ⟨b,o,none⟩ (fun e=>hR o (by have:b=g:=e;rw [←this];exact hr))⟩
 have vh:cur.toList.length=cap * st.size:=by simp [h5]
 have kb:new.size=cur.size:=by simp only [new,List.size_toArray,ak,ay,aL,←hlen,vh,←Array.length_toList];omega
 have CR:bV R w (((l.set i z).map st.tv).flatMap TV.cells) (new.toList.take (l.length * st.size)):=by
  have e1:((l.set i z).map st.tv).flatMap TV.cells=eg ((l.map st.tv).flatMap TV.cells) (i * st.size+q) y.cells:=by
   rw [List.map_set,ez.zP hz]
   exact lR (fun x hx=>by obtain ⟨u,_,rfl⟩:=aS.1 hx;exact ez.fM st u) (by simp [eL]) fc gg
  have e2:=pV cur.toList (a.eval v).cells.toList (a:=i * st.size+q) (N:=l.length * st.size) (by rw [←hlen];omega) (by rw [vh];exact EW)
  rw [e1]
  show bV R w _ ((cur.toList.take (i * st.size+q)++(a.eval v).cells.toList++cur.toList.drop (i * st.size+q+(a.eval v).cells.toList.length)).take (l.length * st.size))
  rw [e2,←hlen]
  exact ((h8.take _).append hL).append (h8.drop _)
 refine (h.wr (k:=k) (b:=g) (cur:=cur) (cur':=new) (x := .sl st (l.set i z)) (g := .pv) (q3 k (by simp [Gh.bN])).1 (dM (by rw [hk];rfl) (by rw [hk];rfl) (by rw [h1];rfl)) (by rw [hk];rfl) h3 hR ⟨st,l.set i z,rfl,.inr ⟨g,cap,new,ce,fz,by rw [List.length_set];exact h1,setRow_heap w g cur new ce fz h3,fun o ho=>h4 o (by rw [←kb];exact ho),by rw [kb];exact h5,by rw [List.length_set];exact h6,h7,by rw [List.length_set];exact CR.mono cj,fun o=>⟨fun hr=>(hR o hr).elim,fun hr=>by simp at hr⟩⟩⟩ ⟨rfl,by simp⟩ (by simp [Gh.bN])).AY hd fy
end
end Go.Eng
namespace Go.Eng
open Go.RowKit
theorem fS {A:Type} {f:TV→Option A} {g:A→TV} (hf:∀x y,f x=some y→x=g y):∀{xs:List TV} {l:List A},allM f xs=some l→xs=l.map g
 | [],l,h=>by cases h;rfl
 | x :: r,l,h=>by
  simp only [allM] at h
  split at h
  ·rename_i y hy
   split at h
   ·rename_i m hm
    cases h
    rw [hf _ _ hy,fS hf hm];rfl
   ·cases h
  ·cases h
theorem pG {cs:List TV} {n:Nat} {x:TV} (h:va cs n=some x) (hn:n<cs.length):cs[n]?=some x:=by
 unfold va at h
 split at h
 ·split at h
  ·rename_i l hl
   have:=fS (g := .s) (fun x y h=>by cases x <;> simp [TV.str?] at h;rw [h]) hl
   cases h
   rw [this] at hn ⊢
   have qG:n<l.length:=by simpa using hn
   simp [ai,ah qG]
  ·cases h
 ·split at h
  ·rename_i l hl
   have:=fS (g := .i .i64) (fun x y h=>by
    cases x <;> simp [TV.i64?] at h
    rename_i k m
    cases k <;> simp at h
    rw [h]) hl
   cases h
   rw [this] at hn ⊢
   have qG:n<l.length:=by simpa using hn
   simp [ai,ah qG]
  ·cases h
 ·split at h
  ·rename_i l hl
   have:=fS (g := .u8) (fun x y h=>by cases x <;> simp [TV.u8?] at h;rw [h]) hl
   cases h
   rw [this] at hn ⊢
   have qG:n<l.length:=by simpa using hn
   simp [ai,ah qG]
  ·cases h
 ·split at h
  ·rename_i l hl
   have:=fS (g := .u64) (fun x y h=>by cases x <;> simp [TV.u64?] at h;rw [h]) hl
   cases h
   rw [this] at hn ⊢
   have qG:n<l.length:=by simpa using hn
   simp [ai,ah qG]
  ·cases h
 ·split at h
  ·rename_i l hl
   have:=fS (g := .b) (fun x y h=>by cases x <;> simp [TV.bool?] at h;rw [h]) hl
   cases h
   rw [this] at hn ⊢
   have qG:n<l.length:=by simpa using hn
   simp [ai,ah qG]
  ·cases h
 ·exact h
 ·split at h
  ·rename_i l hl
   have:=fS (g:=fun p => .c (.complex .f64 p.1 p.2)) (fun x y h=>by
    unfold TV.cx? at h
    split at h
    ·cases h;rfl
    ·cases h) hl
   cases h
   rw [this] at hn ⊢
   have qG:n<l.length:=by simpa using hn
   simp [ai,ah qG]
  ·cases h
 ·rename_i t _ _
  split at h
  ·rename_i l hl
   have:=fS (g := .sl t) (fun x y h=>by
    cases x <;> simp [TV.sl?] at h
    obtain ⟨rfl,h⟩:=h
    subst h;rfl) hl
   cases h
   rw [this] at hn ⊢
   have qG:n<l.length:=by simpa using hn
   simp [ai,ah qG]
  ·cases h
 ·cases h
theorem qV {s m n:Nat} {cs:List TV} (hl:m * s=cs.length) (hn:n<m):∀(j:Nat) {xs:List TV},j≤s→qW s m n cs j=some xs→xs=(cs.drop (n * s+(s - j))).take j
 | 0,xs,_,h=>by simp [qW] at h;simp [h]
 | j+1,xs,hj,h=>by
  simp only [qW] at h
  split at h
  ·rename_i x hx
   split at h
   ·rename_i ys hy
    cases h
    have h1:=qV hl hn j (by omega) hy
    have h2:=pG hx (by simpa [Bl] using hn)
    have eL:n * s+(s - (j+1))<cs.length:=by
     have:(n+1) * s≤m * s:=aR _ hn
     rw [Nat.succ_mul] at this;omega
    have e:x=cs[n * s+(s - (j+1))]:=by
     simp only [Bl,bg,List.getElem?_range hn,Option.map_some,aA] at h2
     rw [←h2,ai,ah eL];rfl
    rw [h1,List.drop_eq_getElem_cons eL,List.take_succ_cons,e,show n * s+(s - (j+1))+1=n * s+(s - j) by omega]
   ·cases h
  ·cases h
theorem JP {A:Type} {g:A→TV}:∀l:List A,JU g l=l.map g
 | []=>rfl
 | p :: r=>by rw [JU,JP r];rfl
theorem xp {a b:Nat} (h:a≠b):Nat.beq a b=false:=by
 cases e:Nat.beq a b with
 | false=>rfl
 | true=>exact (h (aj e)).elim
theorem sN {A:Type}:∀(l:List A) (j i:Nat) (q:A),rM j l (j+i) q=l.set i q
 | [],_,_,_=>rfl
 | p :: r,j,0,q=>by
  rw [rM,Nat.add_zero,show Nat.beq j j=true from Nat.beq_refl j]
  simp only [ao,List.set_cons_zero]
  congr 1
  have:∀(l:List A) (k:Nat),j<k→rM k l j q=l:=by
   intro l
   induction l with
   | nil=>intros;rfl
   | cons a r ih =>
    intro k hk
    rw [rM,ih _ (by omega),xp (show k≠j by omega)]
    rfl
  exact this r _ (by omega)
 | p :: r,j,i+1,q=>by
  rw [rM,xp (show j≠j+(i+1) by omega),show j+(i+1)=j+1+i by omega,sN r (j+1) i q]
  rfl
theorem wV {x:TV} {q:Cx} (h:x.cx?=some q):x=Fk q:=by
 unfold TV.cx? at h
 split at h
 ·cases h;rfl
 ·cases h
theorem J9 {x:TV} {q:UInt64} (h:x.u64?=some q):x = .u64 q:=by
 unfold TV.u64? at h
 split at h
 ·cases h;rfl
 ·cases h
theorem JI {A:Type} {g:A→TV} {l:List A} {i:Nat} {q:A} (hi:i<l.length):JU g (rM 0 l i q)=eg (l.map g) i [g q]:=by
 have:=sN l 0 i q
 rw [Nat.zero_add] at this
 rw [this,JP]
 simp only [eg,aD]
 rw [List.set_eq_take_append_cons_drop,aq hi]
 simp only [List.map_append,aP,List.map_take,List.map_drop,aB,List.singleton_append]
theorem Aw {cs ds:List TV} {i:Nat} {x:TV} (h:DN cs i x=some ds) (hi:i<cs.length):x.plain=true∧x.cells=[x]∧ds=eg cs i [x]:=by
 unfold DN at h
 split at h
 ·split at h
  ·rename_i q l h2
   cases h
   have hc:=fS (g := .u64) (fun x y h=>J9 h) h2
   subst hc
   exact ⟨rfl,rfl,JI (by simpa using hi)⟩
  ·cases h
 ·split at h
  ·rename_i q l h1 h2
   cases h
   have hx:=wV h1
   have hc:=fS (g:=Fk) (fun x y h=>wV h) h2
   subst hx;subst hc
   exact ⟨rfl,rfl,JI (by simpa using hi)⟩
  ·cases h
theorem wQ {t:ez}:∀{xs:List TV} {l:List t.El},t.rH xs=some l→l.map t.tv=xs
 | [],l,h=>by cases h;rfl
 | x :: r,l,h=>by
  simp only [ez.rH] at h
  split at h
  ·rename_i y hy
   split at h
   ·rename_i m hm
    cases h
    rw [aP,ez.zP hy,wQ hm]
   ·cases h
  ·cases h
section
variable {C:Ctx} {S V:St} {a:Act} {w w':World} {R:Reach} {τ:Nat→Value} {o:Oper} {d:Nat} (h:cC C S a w R τ) (hV:Lt V S)
include h hV
theorem xv {x:Operand} {t:TypeId} {i s q m:Nat} {xs:List TV} {ts:List (Nat × Nat)} (hx:dQ C.E C.nt V t x=some (.el i s q,.pe m)) (hm:S m=(.ag xs,.cl ts)):∃b,τ m = .pointer (some ⟨b,0,none⟩)∧a.eval x = .pointer (some ⟨b,i * s+q,none⟩):=by
 obtain ⟨q1,_,_⟩:=dO h hV hx
 obtain ⟨b,i',s',q',p1,p2,hv⟩:∃b i' s' q',Value.dq (τ m)=some b∧TV.el i s q = .el i' s' q'∧a.eval x = .pointer (some ⟨b,i' * s'+q',none⟩):=q1
 cases p2
 obtain ⟨b',_,_,k1,_⟩:=gX h hV hm
 rw [k1] at p1;cases p1
 exact ⟨_,k1,hv⟩
theorem go_pla (hd:o.dst=some d) (hl:d<C.nt) {x:Operand} {t:TypeId} {i m:Nat} {cs:List TV} {ts:List (Nat × Nat)} {y:TV} (ho:o.op = .load t x) (hs:fm C.P t=some (1,false)) (hx:dQ C.E C.nt V 0 x=some (.el i 1 0,.pe m)) (hm:S m=(.ag cs,.cl ts)) (hi:i<cs.length) (hp:va cs i=some y):cL C o a w (bL S d (y,.no)):=by
 obtain ⟨b0,p1,hv⟩:=xv h hV hx hm
 obtain ⟨b,ys,e,k1,k2,k3,_⟩:=gX h hV hm
 obtain rfl:b=b0:=by rw [k1] at p1;cases p1;rfl
 obtain ⟨inf,nK,hn,ha⟩:=dU hs
 obtain ⟨v,uA,_,yw⟩:=k3.get i y (pG hp hi)
 refine h.eA hd hl (v:=v) ?_ yw
 have:=fe (P:=C.P) nK ha (.inr hn) (w:=w) (b:=b) (off:=i * 1+0) (ys:=[v]) (by simp [hn]) (fun j y hj=>by
  cases j with
  | zero=>cases hj;simp only [World.cell?,k2];simpa using uA
  | succ j=>simp at hj)
 simp only [execOp,ho,hv,Instr.loadAt,Instr.sureAddr,Sem.run_bind,Sem.run_pure,Result.andThen_ok,this]
 rfl
theorem go_ls (hd:o.dst=none) {x v:Operand} {t:TypeId} {inf:TypeInfo} {i m:Nat} {cs ds:List TV} {y:TV} (ho:o.op = .store t x v) (nK:C.P.info? t=some inf) (hn:inf.size=1) (hx:dQ C.E C.nt V 0 x=some (.el i 1 0,.pe m)) (hm:S m=(.ag cs,.cl [])) (hi:i<cs.length) (hv:Rep R w y (a.eval v)) (hp:DN cs i y=some ds) :
  cL C o a w (bL S m (.ag ds,.cl [])):=by
 obtain ⟨e1,e2,e3⟩:=Aw hp hi
 obtain ⟨b0,p1,og⟩:=xv h hV hx hm
 obtain ⟨b,ys,e,k1,k2,k3,k4,k5,k6,k7⟩:=gX h hV hm
 obtain rfl:b=b0:=by rw [k1] at p1;cases p1;rfl
 obtain ⟨_,_,q3⟩:=dO h hV hx
 have hL:=gR hv e1
 rw [e2] at hL
 have hlen:=hL.length
 have HI:=k3.length
 have zJ:(a.eval v).cells.size=1:=by simpa using hlen.symm
 have rZ:=run_storeCells_at (P:=C.P) b (i * 1+0) e (a.eval v).cells.toList 0 ⟨ys⟩ w k2 (by simp;omega) hL.one
 simp only [Nat.add_zero,Nat.mul_one] at rZ og
 let new:List Value:=ys.take i++(a.eval v).cells.toList++ys.drop (i+(a.eval v).cells.toList.length)
 have fy:(execOp a.eval o).run C.P w = .ok .skip (w.setRow b ⟨new⟩):=by
  have:¬((a.eval v).cells.size≠inf.size):=by omega
  simp only [execOp,ho,og,Instr.storeAt,Instr.sureAddr,Sem.run_bind,Sem.run_pure,Result.andThen_ok,storeVar,run_sizeOf nK,Sem.run_ite,this,if_false,rZ]
  rfl
 have cj:cD R w R (w.setRow b ⟨new⟩):=fun b1 o hr=>⟨hr,cell_setRow_other w b _ ⟨b1,o,none⟩ (fun e=>k5 o (by have:b1=b:=e;rw [←this];exact hr))⟩
 have Ff:bV R (w.setRow b ⟨new⟩) ds new:=by
  rw [e3]
  show bV R (w.setRow b ⟨new⟩) _ (ys.take i++(a.eval v).cells.toList++ys.drop (i+(a.eval v).cells.toList.length))
  rw [←hlen]
  exact (((k3.take i).append hL).append (k3.drop _)).mono cj
 exact (h.wr (k:=m) (b:=b) (cur:=⟨ys⟩) (cur':=⟨new⟩) (x := .ag ds) (g := .cl []) (q3 m (by simp [Gh.bN])).1 k7 (by rw [hm];rfl) k2 k5 ⟨b,new,e,_,k1,setRow_heap w b ⟨ys⟩ ⟨new⟩ e (0,0) k2,rfl,Ff,by simp,k5⟩ ⟨rfl,by simp⟩ (by simp [Gh.bN])).AY hd fy
theorem je:∀{ts:List TypeId} {os:List Operand} {cs:List Cell},jl C.E C.nt V ts os=some cs→Cells R w τ C.nt cs (os.map a.eval)∧os.length=ts.length∧∀c∈cs,c.2.slot=true∧∀m∈c.2.bN,C.nt≤m∧(S m).2 ≠ .no
 | [],[],_,he=>by cases he;exact ⟨.nil,rfl,by simp⟩
 | t :: ts,x :: os,_,he=>by
  simp only [jl] at he
  split at he
  ·rename_i c e1
   split at he
   ·rename_i cs e2
    cases he
    obtain ⟨h1,h2,h3⟩:=dO h hV e1
    obtain ⟨k1,k2,k3⟩:=je e2
    exact ⟨.cons h1 (fun m hm=>(h3 m hm).1) k1,by simp [k2],fun c' hc=>by
     rcases aC.1 hc with rfl | hc
     ·exact ⟨h2,h3⟩
     ·exact k3 c' hc⟩
   ·cases he
  ·cases he
 | [],_ :: _,_,he=>by simp [jl] at he
 | _ :: _,[],_,he=>by simp [jl] at he
theorem cC.Gy {ts:List TypeId} {os:List Operand} {cs:List Cell} {xs:List TV} {ws:List (Nat × Cell)} (ho:jl C.E C.nt V ts os=some cs) (he:vj V cs=some (xs,ws)):∃R',cC C (cJ S ws) a w R' τ∧dX R' w xs (os.map a.eval)∧Lq V (cJ S ws):=by
 obtain ⟨h1,_,_⟩:=je h hV ho
 obtain ⟨R',k1,k2,k3,k4⟩:=ni h.core hV.q h1 he
 exact ⟨R',h.fz k1 k2,k3,k4⟩
theorem go_bl (hd:o.dst=some d) (hl:d<C.nt) (hE:fj C.P C.E) {t e:TypeId} {n jU k:Nat} {parts:Array (Nat × Operand)} {st:ez} {cs:List Cell} {xs:List TV} {ws:List (Nat × Cell)} {l:List st.El} (ho:o.op = .buildSlice t n parts) (ht:C.E.ty t=some (st,jU)) (hx:jl C.E C.nt V (parts.toList.map fun _=>e) (parts.toList.map (·.2))=some cs) (hf:vj V cs=some (xs,ws))
  (he:st.rH xs=some l) (hn:n=parts.size) (HE:n * st.size≤16777216) (Hu:parts.toList.map (·.1)=List.range n) (hk:jy C.nt V k=true):cL C o a w (bL (bL (cJ S ws) k (.sl st l,.pv)) d (.pt,.cM k)):=by
 obtain ⟨R',h',hT,hq⟩:=h.Gy hV hx hf
 obtain ⟨e',i,zv,h1,h2,h3,h4,h5,h6,h7⟩:=hE.ty _ _ _ ht
 have zA:=wQ he
 have nD:∀x∈xs,x.plain=true∧x.cells.length=st.size:=fun x hx=>by rw [←zA] at hx;obtain ⟨u,_,rfl⟩:=aS.1 hx;exact ⟨ez.vq st u,ez.fM st u⟩
 obtain ⟨hL,kb⟩:=nZ hT nD
 have hlen:parts.toList.length=n:=by simp [hn]
 have F9:l.length=n:=by have:=hT.length;rw [←zA] at this;simp at this;omega
 have hp:(parts.map fun p=>(p.1,a.eval p.2)).toList=((((parts.toList.map (·.2)).map a.eval).zipIdx 0).map fun p=>(p.2,p.1)):=by
  have e:=n0 ((parts.map fun p=>(p.1,a.eval p.2)).toList) 0 (by simp only [Array.toList_map,List.map_map,bn,hlen];rw [←List.range_eq_range',←Hu];rfl)
  rw [e]
  simp [Function.comp_def]
 let zc:Array Value:=if n * st.size=0 then #[] else zv.cells
 let c0:Array Value:=(Array.range (n * st.size)).map (zc[· % zc.size]!)
 obtain ⟨cA,xJ,AV⟩:=oz st.size ((parts.toList.map (·.2)).map a.eval) 0 c0 kb (by simp [c0,hlen,hn])
 simp only [Nat.zero_mul,List.take_zero,bf] at AV
 have fy:(Instr.buildSlice t n (parts.map fun p=>(p.1,a.eval p.2))).run C.P w = .ok (.slice (some ⟨w.heap.size,0,none⟩) n n) { w with heap:=w.heap.push (.cells cA e') }:=by
  have H7:¬(n * st.size > 2 ^ 24):=by omega
  rw [←hp] at xJ
  simp only [c0,zc] at xJ
  simp only [Instr.buildSlice,Sem.run_bind,run_underlying h1,Result.andThen_ok,run_sizeOf h2,h3,H7,if_false,Sem.run_pure]
  by_cases h0:n * st.size=0
  ·rw [aq h0] at xJ ⊢
   simp only [Sem.run_bind,Sem.run_pure,Result.andThen_ok]
   rw [xJ]
   simp [Go.newRow]
  ·rw [al h0] at xJ ⊢
   simp only [Sem.run_bind,Sem.run_pure,Result.andThen_ok,kC h2 h5]
   rw [xJ]
   simp [Go.newRow]
 rw [←zA] at hL
 have kO:cA.size=n * st.size:=by rw [←Array.length_toList,AV,←hL.length,gV,F9]
 have uC:=st.size_pos
 have HB:n≤maxLen:=by
  have:n * 1≤n * st.size:=Nat.mul_le_mul_left _ uC
  simp only [maxLen];omega
 refine h'.AZ hd hl (st:=st) (l:=l) (cap:=n) (cur:=cA) (e:=e') (fz:=(0,0)) (ys:=((parts.toList.map (·.2)).map a.eval).flatMap fun v=>v.cells.toList) (w':={ w with heap:=w.heap.push (.cells cA e') }) (dR hq hk) rfl rfl rfl rfl (fun o _=>by simp) kO (by omega) HB hL (fun j y hj=>by rw [←AV] at hj;simpa using hj) ?_
 simp only [execOp,ho,Sem.run_bind,F9]
 have hm:(parts.map fun x=>(x.1,a.eval x.2))=parts.map fun p=>(p.1,a.eval p.2):=rfl
 simp [fy]
end
end Go.Eng
namespace Go.Eng
open Go.RowKit
def Ae (P:Program) (t:TypeId):Option Nat:=(P.info? t).map (·.size)
theorem js {P:Program} {w:World}:∀(fs:List Field),(∀f∈fs,(sizeOf f.type).run P w = .ok ((Ae P f.type).getD 0) w) →
  ((fs.mapM fun (f:Field)=>do pure (f.offset,←sizeOf f.type)):Sem (List (Nat × Nat))).run P w = .ok (fs.map fun f=>(f.offset,(Ae P f.type).getD 0)) w
 | [],_=>rfl
 | f :: fs,hs=>by
  simp only [List.mapM_cons,Sem.run_bind,hs f (by simp),Result.andThen_ok,Sem.run_pure,js fs (fun g hg=>hs g (by simp [hg])),aP]
theorem kn {P:Program} {t:TypeId}:∀{l:List (Nat × Operand)} {pl:List (Nat × (Nat × TypeId))},jc P t l=some pl→pl.length=l.length∧∀(j:Nat) (p:Nat × Operand) (q:Nat × (Nat × TypeId)),l[j]?=some p→pl[j]?=some q→jw P t p.1=some q
 | [],pl,h=>by cases h;exact ⟨rfl,by simp⟩
 | (i,o) :: r,pl,h=>by
  simp only [jc] at h
  split at h
  ·rename_i q l e1 e2
   cases h
   obtain ⟨h1,h2⟩:=kn e2
   refine ⟨by simp [h1],fun j p q' hp hq=>?_⟩
   cases j with
   | zero=>cases hp;cases hq;exact e1
   | succ j=>exact h2 j p q' (by simpa using hp) (by simpa using hq)
  ·cases h
theorem dW:∀{l:List (Nat × Cell)} {S:St} {k:Nat},(∀p∈l,p.1≠k)→cJ S l k=S k
 | [],_,_,_=>rfl
 | (j,x) :: l,S,k,h=>by
  simp only [cJ]
  rw [bO _ _ (Ne.symm (h (j,x) (List.mem_cons_self ..)))]
  exact dW fun p hp=>h p (List.mem_cons_of_mem _ hp)
theorem mW:∀{cs pC:List Cell} {k:Nat},jf cs=some (pC,k)→cs=pC++[(.pt,.cM k)]
 | [],_,_,h=>by simp [jf] at h
 | [c],pC,k,h=>by
  obtain ⟨x,g⟩:=c
  cases x <;> cases g <;> simp [jf] at h
  obtain ⟨rfl,rfl⟩:=h;rfl
 | c :: d :: r,pC,k,h=>by
  simp only [jf] at h
  split at h
  ·rename_i c1 k1 e
   cases h
   rw [mW e];rfl
  ·cases h
theorem Cells.snoc {R:Reach} {w:World} {τ:Nat→Value} {nt:Nat}:∀{cs:List Cell} {c:Cell} {vs:List Value},Cells R w τ nt (cs++[c]) vs→∃rA v,vs=rA++[v]∧Cells R w τ nt cs rA∧cp R w τ c.1 c.2 v
 | [],_,_,.cons a b .nil=>⟨[],_,rfl,.nil,a⟩
 | _ :: _,_,_,.cons a b t=>by
  obtain ⟨rA,v,rfl,h1,h2⟩:=Cells.snoc t
  exact ⟨_ :: rA,v,rfl,.cons a b h1,h2⟩
theorem dX.snoc {R:Reach} {w:World}:∀{xs:List TV} {vs:List Value} {x:TV} {v:Value},dX R w xs vs→Rep R w x v→dX R w (xs++[x]) (vs++[v])
 | _,_,_,_,.nil,h => .cons h .nil
 | _,_,_,_,.cons a t,h => .cons a (dX.snoc t h)
theorem oy (place:Nat→Option (Nat × Nat)):∀(ps:List (Nat × Value)) (i:Nat) (v:Value) (off:Nat) (cells cA:Array Value),place i=some (off,1)→v.cells.toList=[v]→Instr.fill place cells (ps++[(i,v)])=some cA→cA[off]?=some v
 | [],i,v,off,cells,cA,hp,hv,h=>by
  have og:v.cells=#[v]:=Array.toList_inj.1 hv
  simp only [bf,Instr.fill,hp,og] at h
  split at h
  ·cases h
  ·rename_i hc
   cases h
   have:off<cells.size:=by simp at hc;omega
   simp [Array.getElem?_setIfInBounds,this]
 | p :: ps,i,v,off,cells,cA,hp,hv,h=>by
  simp only [List.cons_append,Instr.fill] at h
  split at h
  ·cases h
  ·split at h
   ·cases h
   ·exact oy place ps i v off _ _ hp hv h
section
variable {C:Ctx} {S V:St} {a:Act} {w w':World} {R:Reach} {τ:Nat→Value} {o:Oper} {d:Nat} (h:cC C S a w R τ) (hV:Lt V S)
include h hV
omit hV in
theorem tF (hE:fj C.P C.E) {R':Reach} {t:TypeId} {parts:Array (Nat × Operand)} {z ds xs:List TV} {pl:List (Nat × (Nat × TypeId))} (ho:o.op = .build t parts) (hz:C.E.z t=some z) (nD:jc C.P t parts.toList=some pl) (hT:dX R' w xs ((parts.toList.map (·.2)).map a.eval)) (h1:∀(j:Nat) (v:Value),xs[j]?=some .pt→(parts.toList.map fun p=>a.eval p.2)[j]?=some v→v.oneCell'=true)
  (qI:jG z (pl.map fun q=>(q.1,q.2.1)) xs=some ds):∃(place:Nat→Option (Nat × Nat)) (cells cA:Array Value),(∀(j:Nat) (q:Nat × (Nat × TypeId)),jw C.P t j=some q→place j=some (q.1,q.2.1))∧Instr.fill place cells (parts.toList.map fun p=>(p.1,a.eval p.2))=some cA∧bV R' w ds cA.toList∧(execOp a.eval o).run C.P w = .ok (.value (.agg cA)) w:=by
 have _:=h
 obtain ⟨AQ,zv,hi,Hk⟩:=hE.z _ _ hz
 rw [aE] at hi
 obtain ⟨i,hi,DP⟩:=hi
 have hL:bV R' w z zv.cells.toList:=jM Hk
 obtain ⟨hlen,yz⟩:=kn nD
 have CD:∀(j:Nat) (p:Nat × Value) (x:TV),((parts.map fun p=>(p.1,a.eval p.2)).toList)[j]?=some p→xs[j]?=some x→Rep R' w x p.2∧(x = .pt→p.2.oneCell'=true):=fun j p x hp FZ=>by
  obtain ⟨y,uA,yw⟩:=hT.get j x FZ
  simp only [Array.toList_map,bg,List.map_map] at hp uA
  cases hq:parts.toList[j]? with
  | none=>simp [hq] at hp
  | some q=>simp [hq] at hp uA;subst hp;rw [uA];exact ⟨yw,fun e=>h1 j _ (e ▸ FZ) (by simp [hq,uA])⟩
 have AI:∀place:Nat→Option (Nat × Nat),(∀(j:Nat) (q:Nat × (Nat × TypeId)),jw C.P t j=some q→place j=some (q.1,q.2.1)) →
   ∃cA,Instr.fill place zv.cells (parts.map fun p=>(p.1,a.eval p.2)).toList=some cA∧bV R' w ds cA.toList:=fun place oj =>
  qR place _ (pl.map fun q=>(q.1,q.2.1)) _ z ds zv.cells hL (by simp [hlen]) (fun j p q hp hq=>by
   simp only [Array.toList_map,bg] at hp hq
   cases EK:parts.toList[j]? with
   | none=>simp [EK] at hp
   | some q' =>
    simp [EK] at hp;subst hp
    cases zC:pl[j]? with
    | none=>simp [zC] at hq
    | some q2=>simp [zC] at hq;subst hq;exact oj _ _ (yz j q' q2 EK zC)) CD qI
 have fin:∀place:Nat→Option (Nat × Nat),(∀(j:Nat) (q:Nat × (Nat × TypeId)),jw C.P t j=some q→place j=some (q.1,q.2.1)) →
   (∀cA,Instr.fill place zv.cells (parts.map fun p=>(p.1,a.eval p.2)).toList=some cA→(execOp a.eval o).run C.P w = .ok (.value (.agg cA)) w)→∃(place:Nat→Option (Nat × Nat)) (cells cA:Array Value),(∀(j:Nat) (q:Nat × (Nat × TypeId)),jw C.P t j=some q→place j=some (q.1,q.2.1))∧Instr.fill place cells (parts.toList.map fun p=>(p.1,a.eval p.2))=some cA∧bV R' w ds cA.toList∧(execOp a.eval o).run C.P w = .ok (.value (.agg cA)) w:=fun place oj EF=>by
  obtain ⟨cA,CT,hR⟩:=AI place oj
  exact ⟨place,zv.cells,cA,oj,by rw [←Array.toList_map];exact CT,hR,EF cA CT⟩
 unfold jH at AQ
 cases hu:C.P.underlying t with
 | none=>simp [hu] at AQ
 | some dd =>
  cases dd with
  | struct fs =>
   simp only [hu] at AQ
   have kb:∀f∈fs.toList,(sizeOf f.type).run C.P w = .ok ((Ae C.P f.type).getD 0) w:=fun f hf=>by
    have:=aw.1 AQ f hf
    obtain ⟨n,hn⟩:=Option.isSome_iff_exists.1 this
    rw [run_sizeOf hn];simp [Ae,hn]
   refine fin (fun i=>(fs.map fun f=>(f.offset,(Ae C.P f.type).getD 0))[i]?) (fun j q hq=>?_) (fun cA hc=>?_)
   ·unfold jw at hq
    rw [hu] at hq
    simp only [aE,aG] at hq
    obtain ⟨f,h1,i',h2,rfl⟩:=hq
    simp [h1,Ae,h2]
   ·have hm:=js fs.toList kb
    have ET:((fs.mapM fun (f:Field)=>do pure (f.offset,←sizeOf f.type)):Sem (Array (Nat × Nat))).run C.P w = .ok (fs.map fun f=>(f.offset,(Ae C.P f.type).getD 0)) w:=by
     rw [Array.mapM_eq_mapM_toList,Sem.run_map,hm]
     simp only [Result.andThen_ok]
     congr 1
     apply Array.ext'
     simp
    simp only [execOp,ho,Instr.build,Sem.run_bind,kC hi DP,run_underlying hu,Result.andThen_ok,ET]
    rw [hc]
    simp
  | array n e =>
   simp only [hu] at AQ
   obtain ⟨i',h1⟩:=Option.isSome_iff_exists.1 AQ
   refine fin (fun i=>some (i * i'.size,i'.size)) (fun j q hq=>?_) (fun cA hc=>?_)
   ·unfold jw at hq
    rw [hu] at hq
    simp only [h1,Option.map_some,aA] at hq
    subst hq;rfl
   ·simp only [execOp,ho,Instr.build,Sem.run_bind,kC hi DP,run_underlying hu,Result.andThen_ok,run_sizeOf h1]
    rw [hc]
    simp
  | _=>simp [hu] at AQ
theorem go_bd (hd:o.dst=some d) (hl:d<C.nt) (hE:fj C.P C.E) {t:TypeId} {parts:Array (Nat × Operand)} {z ds xs:List TV} {pl:List (Nat × (Nat × TypeId))} {cs:List Cell} {ws:List (Nat × Cell)} (ho:o.op = .build t parts) (hz:C.E.z t=some z) (nD:jc C.P t parts.toList=some pl) (hx:jl C.E C.nt V (pl.map (·.2.2)) (parts.toList.map (·.2))=some cs) (hf:vj V cs=some (xs,ws))
  (qI:jG z (pl.map fun q=>(q.1,q.2.1)) xs=some ds) (AJ:xs.all TV.plain=true):cL C o a w (bL (cJ S ws) d (.ag ds,.no)):=by
 obtain ⟨R',h',hT,hq⟩:=h.Gy hV hx hf
 obtain ⟨_,_,cA,_,_,hR,fy⟩:=tF h hE ho hz nD hT (fun j v hj _=>by have:=aw.1 AJ _ (az hj);cases this) qI
 exact h'.eA hd hl (v := .agg cA) fy (by cases cA with | mk l=>exact .ag hR)
theorem go_bo (hd:o.dst=some d) (hl:d<C.nt) (hE:fj C.P C.E) {t:TypeId} {parts:Array (Nat × Operand)} {z ds xs:List TV} {pl:List (Nat × (Nat × TypeId))} {cs pC:List Cell} {ws:List (Nat × Cell)} {k:Nat} {q:Nat × (Nat × TypeId)} (ho:o.op = .build t parts) (hz:C.E.z t=some z) (nD:jc C.P t parts.toList=some pl) (hx:jl C.E C.nt V (pl.map (·.2.2)) (parts.toList.map (·.2))=some cs)
  (CL:jf cs=some (pC,k)) (hf:vj V pC=some (xs,ws)) (qI:jG z (pl.map fun q=>(q.1,q.2.1)) (xs++[.pt])=some ds) (BS:pl.getLast?=some q) (hq:q.2.1=1) (hk:∀p∈ws,p.1≠k) (AJ:xs.all TV.plain=true):cL C o a w (bL (cJ S ws) d (.ag ds,.ow [(q.1,k)])):=by
 obtain ⟨hlen,yz⟩:=kn nD
 have kO:=mW CL
 obtain ⟨h1,_,h3⟩:=je h hV hx
 have Ge:=(h3 (.pt,.cM k) (by rw [kO];simp)).2 k (by simp [Gh.bN])
 rw [kO] at h1
 obtain ⟨rA,v,rY,AV,hv⟩:=Cells.snoc h1
 obtain ⟨R',k1,k2,k3,_⟩:=ni h.core hV.q AV hf
 have h':=h.fz k1 k2
 obtain ⟨e1,e2⟩:v=τ k∧v.oneCell'=true:=hv
 have hT:dX R' w (xs++[.pt]) ((parts.toList.map (·.2)).map a.eval):=by rw [rY];exact dX.snoc k3 (.pt v)
 obtain ⟨place,cells,cA,oj,xJ,hR,fy⟩:=tF h hE ho hz nD hT (fun j v' hj lX=>by
  rw [show (parts.toList.map fun p=>a.eval p.2)=rA++[v] by rw [←rY];simp] at lX
  have hl:=k3.length
  by_cases CO:j<xs.length
  ·rw [List.getElem?_append_left CO] at hj
   have:=aw.1 AJ _ (az hj);cases this
  ·rw [aT (by omega)] at hj lX
   have e:j - rA.length=0:=by
    cases hh:j - xs.length with
    | zero=>omega
    | succ n=>rw [hh] at hj;simp at hj
   rw [e] at lX;cases lX;exact e2) qI
 -- the last part
 obtain ⟨ps,p0,Ht⟩:∃ps p0,parts.toList=ps++[p0]:=by
  rcases List.eq_nil_or_concat parts.toList with e | ⟨ps,p0,e⟩
  ·rw [e] at rY;simp at rY
  ·exact ⟨ps,p0,by rw [e,List.concat_eq_append]⟩
 rw [Ht] at xJ rY hlen yz
 simp only [List.map_append,aP,bo] at xJ rY
 have hv0:=(List.append_inj' rY rfl).2
 simp only [bj,and_true] at hv0
 have Hr:pl[ps.length]?=some q:=by
  rw [List.getLast?_eq_getElem?] at BS
  simp only [ak,aD] at hlen
  rw [hlen] at BS
  simpa using BS
 have CI:=oj _ _ (yz ps.length p0 q (by simp) Hr)
 rw [hq] at CI
 have AM:=oy place _ p0.1 (a.eval p0.2) q.1 cells cA CI (by rw [hv0];exact n8 e2) xJ
 refine h'.val hd hl (v := .agg cA) fy (x := .ag ds) (g := .ow [(q.1,k)]) ?_ rfl fun j hj=>?_
 ·cases cA with
  | mk l=>exact ⟨l,ds,rfl,rfl,hR,fun p hp=>by
    rw [List.mem_singleton] at hp
    subst hp
    rw [←e1,←hv0]
    simpa using AM⟩
 ·simp only [Gh.bN,aP,bo,List.mem_singleton] at hj
  subst hj
  exact ⟨Ge.1,by rw [dW hk];exact Ge.2⟩
end
end Go.Eng
namespace Go.Eng
open Go.RowKit
theorem ez.pH {t t':ez} {l n:List t.El} {m:List t'.El} (h:t.app l t' m=some n):∃e:t'=t,n=l++(e ▸ m):=by
 unfold ez.app at h
 split at h <;> cases h <;> exact ⟨rfl,rfl⟩
section
variable {C:Ctx} {S V:St} {a:Act} {w w':World} {R:Reach} {τ:Nat→Value} {o:Oper} {d:Nat}
def DC (P:Program) (R:Reach) (w:World) (p:Bool) (x0:Value) (st:ez) (n:List st.El) (r:World→Result Value):Prop :=
 ∃v w' R',r w = .ok v w'∧cP R' w' p v (.sl st n)∧cD R w R' w'∧(∀b o,R' b o→R b o∨Value.dq v=some b)∧w'.os=w.os∧w'.tape=w.tape∧w'.output=w.output∧w.heap.size≤w'.heap.size∧(∀b,Value.dq v≠some b→b<w.heap.size→w'.heap[b]?=w.heap[b]?) ∧
  (∀b,Value.dq v=some b→(w.heap.size≤b∨Value.dq x0=some b)∧b<w'.heap.size)∧∀b,Value.dq v=some b→Value.dq x0=some b→∃g cap m,x0 = .slice (some ⟨g,0,none⟩) m cap∧v = .slice (some ⟨g,0,none⟩) n.length cap
theorem BA {P:Program} {t u ty e:TypeId} {i:TypeInfo} {z:Value} {du:TypeDesc} (eL:∀b o,R b o→b<w.heap.size) (ht:P.underlying t=some (.slice e)) (hi:P.info? e=some i) (hz:i.zero=some z) (Hj:z.cells.size=i.size) (hu:P.underlying u=some du) (pg:∀k,du ≠ .int k)
  {p:Bool} {x0 x:Value} {st:ez} {l m:List st.El} {news:List Value} (hs:i.size=st.size) (h0:cP R w p x0 (.sl st l)) (hx:Source P w st.size x m.length news) (hL:bV R w ((m.map st.tv).flatMap TV.cells) news) (D0:l.length+m.length≤maxLen) (hb:(l.length+m.length) * i.bytes≤140737488355328) :
  DC P R w p x0 st (l++m) fun w=>(Builtin.append_ #[t,u] ty #[x0,x]).run P w:=by
 rw [←hs] at hx
 have qF:=hx.2.2.1
 have CX:((l++m).map st.tv).flatMap TV.cells=(l.map st.tv).flatMap TV.cells++(m.map st.tv).flatMap TV.cells:=by simp
 have grow:∀(q:Option Addr) (cap:Nat) (mN:List Value),x0 = .slice q l.length cap→cap<l.length+m.length→(∀w':World,w'.heap=w.heap→(Builtin.firstCells i.size l.length (.slice q l.length cap)).run P w' = .ok ⟨mN⟩ w') →
   bV R w ((l.map st.tv).flatMap TV.cells) mN→DC P R w p x0 st (l++m) fun w=>(Builtin.append_ #[t,u] ty #[x0,x]).run P w:=by
  rintro q cap mN rfl EV ho B3
  have fy:=lh (ty:=ty) ht hi hz hu pg ho hx EV D0 hb
  have AP:=grownCap_ge w (l.length+m.length) cap e
  have hle:=grownCap_le_maxLen w (l.length+m.length) cap e D0
  generalize hG:grownCap w (l.length+m.length) cap e=G at fy AP hle
  have zF:mN.length=l.length * i.size:=by rw [←B3.length,gV,hs]
  let cur:Array Value:=(⟨mN⟩:Array Value)++⟨news⟩++Builtin.zeroCells z.cells (G - (l.length+m.length))
  let R':Reach:=fun b o=>R b o∨(p=true∧b=w.heap.size∧o<(l.length+m.length) * st.size)
  have hold:∀b,b<w.heap.size→(w.drew.alloc (.cells cur e)).heap[b]?=w.heap[b]?:=fun b hb=>by
   show (w.heap.push _)[b]?=_
   rw [Array.getElem?_push,al (by omega)]
  have cj:cD R w R' (w.drew.alloc (.cells cur e)):=fun b o hr=>⟨.inl hr,World.cell?_of_block (w:=w) (hold b (eL b o hr))⟩
  have AU:cur.toList.take ((l++m).length * st.size)=mN++news:=by
   have e1:cur.toList=(mN++news)++(Builtin.zeroCells z.cells (G - (l.length+m.length))).toList:=by simp [cur]
   have e2:(mN++news).length=(l++m).length * st.size:=by rw [ak,ak,zF,qF,hs,Nat.add_mul]
   rw [e1,←e2,List.take_left]
  refine ⟨_,_,R',fy,⟨st,l++m,rfl,.inr ⟨w.heap.size,G,cur,e,(0,0),by rw [ak],?_,fun o _=>by simp,?_,by rw [ak];exact AP,hle,?_,fun o=>⟨fun hr=>?_,fun hr => .inr ⟨hr.1,rfl,by have:=hr.2;rwa [ak] at this⟩⟩⟩⟩,cj,fun b o hr=>hr.imp id fun e=>by rw [e.2.1];rfl,rfl,rfl,rfl,?_,fun b _ hb=>hold b hb,fun b hb=>?_,fun b hb fT=>?_⟩
  ·show (w.heap.push _)[w.heap.size]?=some _;rw [Array.getElem?_push,aq rfl]
  ·simp only [cur,Array.size_append,List.size_toArray,size_zeroCells,Hj,zF,qF,←Nat.add_mul,←hs]
   congr 1;omega
  ·rw [AU,CX]
   exact (B3.append hL).mono cj
  ·rcases hr with hr | ⟨h1,_,h2⟩
   ·have:=eL _ _ hr;omega
   ·exact ⟨h1,by rwa [ak]⟩
  ·show w.heap.size≤(w.heap.push _).size;simp
  ·cases hb
   exact ⟨.inl (Nat.le_refl _),by show w.heap.size<(w.heap.push _).size;simp⟩
  ·cases hb
   exact absurd (h0.lt fT) (Nat.lt_irrefl _)
 rcases h0.cells with ⟨rfl,rfl⟩ | ⟨g,cap,cur,ce,fz,rfl,hg,hfz,kO,IE,yH,B3,hR⟩
 ·by_cases hm:m.length=0
  ·have HH:m=[]:=bh hm
   subst HH
   refine ⟨.slice none 0 0,w,R,?_,h0,cD.refl _ _,fun b o => .inl,rfl,rfl,rfl,Nat.le_refl _,fun _ _ _=>rfl,fun b hb=>(by cases hb),fun b hb=>by cases hb⟩
   obtain ⟨h1,h2,h3,h4⟩:=hx
   have E3:(match du with | .int _=>true | _=>false)=false:=by cases du <;> first | rfl | exact (pg _ rfl).elim
   have Gv:=h2 w rfl
   simp only [aM] at h1 Gv
   simp [Builtin.append_,run_underlying ht,run_underlying hu,E3,sizeOf,typeInfo,hi,h1,Gv]
  ·exact grow none 0 [] rfl (by simp;omega) (fun _ _=>rfl) .nil
 ·have zF:(cur.toList.take (l.length * st.size)).length=l.length * i.size:=by rw [←B3.length,gV,hs]
  by_cases oi:l.length+m.length≤cap
  ·have fy:=lg (ty:=ty) ht hi hu pg hg hfz hx oi (by rw [hs];exact kO)
   have hle:(l.length+m.length) * st.size≤cap * st.size:=aR _ oi
   rw [Nat.add_mul] at hle
   rw [hs] at fy qF zF
   have vh:cur.toList.length=cap * st.size:=by simp [kO]
   let cur':Array Value:=(cur.toList.take (l.length * st.size)++news++cur.toList.drop (l.length * st.size+news.length)).toArray
   have CV:∀j,j<l.length * st.size→cur'[j]?=cur[j]?:=fun j hj=>by
    simp only [cur',List.getElem?_toArray,aB]
    rw [List.getElem?_append_left (by rw [zF];exact hj),aH,aq hj];simp
   have qJ:∀j,(w.setRow g cur').cell? ⟨g,j,none⟩=cur'[j]?:=fun j=>cell_setRow_same w g j cur cur' ce fz hg
   let R':Reach:=fun b o=>R b o∨(p=true∧b=g∧o<(l.length+m.length) * st.size)
   have cj:cD R w R' (w.setRow g cur'):=fun c o vf=>⟨.inl vf,by
    by_cases Gk:c=g
    ·subst Gk
     rw [qJ,CV o ((hR o).1 vf).2]
     simp [World.cell?,hg]
    ·exact cell_setRow_other w g cur' ⟨c,o,none⟩ Gk⟩
   have qH:g<w.heap.size:=(Array.getElem?_eq_some_iff.1 hg).1
   have DS:cur'.toList.take ((l++m).length * st.size)=cur.toList.take (l.length * st.size)++news:=by
    have e2:(cur.toList.take (l.length * st.size)++news).length=(l++m).length * st.size:=by rw [ak,ak,zF,qF,Nat.add_mul]
    show (cur.toList.take (l.length * st.size)++news++_).take _=_
    rw [←e2,List.take_left]
   have kb:cur'.size=cur.size:=by
    simp only [cur',List.size_toArray,ak,zF,aL,vh,qF,←Array.length_toList];omega
   refine ⟨_,_,R',fy,⟨st,l++m,rfl,.inr ⟨g,cap,cur',ce,fz,by rw [ak],setRow_heap w g cur cur' ce fz hg,fun o ho=>hfz o (by rw [←kb];exact ho),by rw [kb];exact kO,by rw [ak];exact oi,yH,?_,fun o=>⟨fun hr=>?_,fun hr => .inr ⟨hr.1,rfl,by have:=hr.2;rwa [ak] at this⟩⟩⟩⟩,
    cj,fun b o hr=>hr.imp id fun e=>by rw [e.2.1];rfl,rfl,rfl,rfl,by rw [setRow_size];exact Nat.le_refl _,fun b hb _=>setRow_other w g b cur' (fun e=>hb (by rw [e];rfl)),fun b hb=>?_,fun b _ _=>⟨g,cap,l.length,rfl,by rw [ak]⟩⟩
   ·rw [DS,CX];exact (B3.append hL).mono cj
   ·rcases hr with hr | ⟨h1,_,h2⟩
    ·have:=(hR o).1 hr
     refine ⟨this.1,?_⟩
     rw [ak,Nat.add_mul];omega
    ·exact ⟨h1,by rwa [ak]⟩
   ·cases hb
    exact ⟨.inr rfl,by rw [setRow_size];exact qH⟩
  ·refine grow (some ⟨g,0,none⟩) cap _ rfl (by omega) (fun w' hw=>?_) B3
   rw [hs]
   exact run_firstCells_some (P:=P) w' st.size l.length ⟨g,0,none⟩ l.length cap _ (by rw [zF,hs]) (fun j v hj=>by
    rw [addr_add,Nat.zero_add,World.cell?_of_block (w:=w) (by rw [hw])]
    rw [aH] at hj
    split at hj
    ·simp only [World.cell?,hg];simpa using hj
    ·cases hj)
theorem cC.A1 (h:cC C S a w R τ) {k k2:Nat} {v:Value} {x:TV} {g c:Gh} {y:TV} {R':Reach} (hk:C.nt≤k∧(S k).2.own=true∧(S k).2.s9=false) (lW:(S k2).2 = .no∧k2<1000000∧C.nt≤k2) (cj:cD R w R' w') (hn:∀b o,R' b o→R b o∨Value.dq v=some b) (os:w'.os=w.os) (tape:w'.tape=w.tape) (out:w'.output=w.output) (size:w.heap.size≤w'.heap.size)
  (heap:∀b,Value.dq v≠some b→b<w.heap.size→w'.heap[b]?=w.heap[b]?) (hb:∀b,Value.dq v=some b→(w.heap.size≤b∨Value.dq (τ k)=some b)∧b<w'.heap.size)
  (hg:g = .pv∨g = .lv) (new:fi R' w' τ x g v) (hc:c = .zz∨c = .us) (hy:fi R' w' τ y c (τ k)):cC C (bL (bL S k (y,c)) k2 (x,g)) a w' R' (ky τ k2 v):=by
 have gf:k≠k2:=by rintro rfl;rw [lW.1] at hk;cases hk.2.1
 have uD:g.own=true:=by rcases hg with rfl | rfl <;> rfl
 have Gi:g.bN=[]:=by rcases hg with rfl | rfl <;> rfl
 have yH:c.bN=[]:=by rcases hc with rfl | rfl <;> rfl
 have BR:bL (bL S k (y,c)) k2 (x,g) k=(y,c):=by rw [bO _ _ gf,bG]
 have Hd:∀j,j≠k→dq τ S j≠none→∀b,dq τ S j=some b→Value.dq v≠some b:=fun j hj _ b r7 hv=>by
  rcases (hb b hv).1 with e | e
  ·have:=h.core.lt r7;omega
  ·exact hj (h.core.kh (dM hk.2.1 (pa hk.2.2) e) r7).symm
 have b9:∀b,Value.dq v=some b→C.b9 b:=fun b hv=>by
  rcases (hb b hv).1 with e | e
  ·exact .inr (Nat.le_trans h.ext.size e)
  ·exact h.core.b9 k b (dM hk.2.1 (pa hk.2.2) e)
 have kP:Core C.nt R' w' C.b9 (ky τ k2 v) (bL (bL S k (y,c)) k2 (x,g)):=by
  refine h.core.step (fun j=>j=k∨j=k2) cj (fun j hj=>?_) (fun j b hj r7=>?_) ?_ ?_ ?_ ?_ ?_ ?_ (fun _=>id) ?_ ?_ ?_
  ·have h1:j≠k:=fun e=>hj (.inl e)
   have h2:j≠k2:=fun e=>hj (.inr e)
   exact ⟨by rw [bO _ _ h2,bO _ _ h1],dm _ _ h2⟩
  ·have h1:j≠k:=fun e=>hj (.inl e)
   have:=Hd j h1 (by rw [r7];simp) b r7
   exact ⟨heap b this (h.core.lt r7),fun o hr=>(hn b o hr).resolve_right this⟩
  ·rintro j (rfl | rfl)
   ·rw [BR,dm _ _ gf]
    exact hy.cj (cD.refl _ _) (by rw [yH];simp) fun b e=>by rcases hc with rfl | rfl <;> cases e
   ·rw [bG,de]
    exact new.cj (cD.refl _ _) (by rw [Gi];simp) fun _ _=>⟨rfl,fun _=>id⟩
  ·rintro j (rfl | rfl)
   ·exact .inl (dm _ _ gf)
   ·exact .inr (.inr lW.1)
  ·rintro j (rfl | rfl)
   ·rw [BR];right;rcases hc with rfl | rfl <;> simp
   ·rw [bG];right;rcases hg with rfl | rfl <;> simp
  ·rintro j (rfl | rfl)
   ·rw [BR];exact .inl ⟨hk.2.2,by rcases hc with rfl | rfl <;> rfl⟩
   ·rw [bG,lW.1];exact .inl ⟨rfl,by rcases hg with rfl | rfl <;> rfl⟩
  ·rintro j (rfl | rfl) _
   ·exact .inl hk.2.1
   ·exact .inr lW.1
  ·rintro j b (rfl | rfl) r7
   ·have:=(cW r7).1;rw [BR] at this;rcases hc with rfl | rfl <;> cases this
   ·have hv:=(cW r7).2
    rw [de] at hv
    refine ⟨b9 b hv,?_,(hb b hv).1.imp id fun e=>⟨k,.inl rfl,dM hk.2.1 (pa hk.2.2) e⟩⟩
    rintro q (rfl | rfl) hq Hq
    ·have:=(cW Hq).1;rw [BR] at this;rcases hc with rfl | rfl <;> cases this
    ·exact hq rfl
  ·rintro j (rfl | rfl) q hq
   ·rw [BR,yH] at hq;cases hq
   ·rw [bG,Gi] at hq;cases hq
  ·intro b o hr
   rcases hn b o hr with hr | hr
   ·have:=h.core.kj b o hr;omega
   ·exact (hb b hr).2
  ·rintro j (rfl | rfl) hj <;> omega
 refine ⟨h.size,h.defers,kP,fun t ht=>by rw [dm _ _ (by omega)];exact h.tmps t ht,⟨h.io.1,fun j hj=>by rw [dm _ _ (by omega)];exact h.io.2 j hj⟩,h.ext.trans (io':=fun b=>Value.dq v=some b) ⟨os,tape,out,size,fun b fT hv=>heap b hv fT,cj,fun b o hr=>(hn b o hr).imp id .inr⟩ (fun b hv=>b9 b hv),h.gl.cj cj⟩
end
end Go.Eng
