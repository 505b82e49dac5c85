/- Texts of my own, one behind the other: EngFl, XA, XB, XC, XD, YD, YI, XE, XF, XG, XH, XO, XI, XJ, XK, XL, XM, XN, XP, XQ, XR, XS. -/
import Derived.Laws.FloatArith
import Derived.WalkKit
import Derived.Calls
import Derived.Below
import Derived.Laws.OwnMore
import Derived.Lib.Bytealg
import Derived.Orders
import Derived.KernelRfl
import Derived.Laws.IdiomStrings
import Derived.Laws.Entries
import Derived.Laws.BytesString
import Derived.Laws.Strings
import Derived.ChangeKeysEq
import Derived.Laws.StructEq
import Derived.Laws.BytesArg
import Derived.Laws.Cover2
import Derived.Lib.Strings
import Derived.Laws.MakeOwn
import Derived.Laws.CopyRow
set_option linter.defProp false
set_option linter.unusedVariables false
set_option linter.unusedSimpArgs false
open Decidable renaming decide→oG
open Option renaming some→BQ
open Option renaming none→Ku
open Bool renaming true→NS
open Bool renaming false→NT
namespace Go.Eng
abbrev aa:=@decide_eq_true
abbrev ab:=@decide_eq_false
abbrev ae:=@List.length_append
abbrev af:=@Bool.and_eq_true
abbrev ah:=@Int.toNat_natCast
abbrev ai:=@cond_false
abbrev aj:=@List.getD_eq_getElem?_getD
abbrev ak:=@if_neg
abbrev ao:=@List.length_singleton
abbrev aq:=@of_decide_eq_true
abbrev ar:=@if_pos
abbrev au:=@cond_true
abbrev av:=@List.length_cons
abbrev aw:=@List.getElem?_eq_getElem
abbrev ay:=@Nat.mul_le_mul_right
abbrev az:=@List.drop_of_length_le
abbrev aA:=@List.append_assoc
abbrev aB:=@Nat.eq_of_beq_eq_true
abbrev aC:=@List.all_eq_true
abbrev aD:=@decide_eq_true_eq
abbrev aE:=@List.length_nil
abbrev aF:=@List.length_take
abbrev aG:=@Bool.not_true
abbrev aH:=@List.getElem?_eq_some_iff
abbrev aI:=@UInt64.lt_iff_toNat_lt
abbrev aJ:=@Bool.not_false
abbrev aK:=@Bool.and_eq_true_iff
abbrev aL:=@UInt64.le_iff_toNat_le
abbrev aM:=@List.append_nil
abbrev aN:=@Option.some.injEq
abbrev aO:=@Bool.eq_iff_iff
abbrev aP:=@List.mem_of_getElem?
abbrev aQ:=@List.mem_cons
abbrev aR:=@List.length_drop
abbrev aS:=@Bool.not_or_self
abbrev aT:=@decide_eq_decide
abbrev aU:=@Option.map_eq_some_iff
abbrev aV:=@Option.bind_eq_some_iff
abbrev aW:=@UInt64.toNat_inj
abbrev aX:=@Bool.and_self
abbrev aY:=@List.getElem?_append_right
abbrev aZ:=@List.drop_zero
abbrev bc:=@List.getElem?_take
abbrev bf:=@List.map_cons
abbrev bg:=@List.nil_append
abbrev bh:=@Bool.or_not_self
abbrev bj:=@List.length_map
abbrev bm:=@List.eq_nil_of_length_eq_zero
abbrev bn:=@List.mem_map
abbrev bo:=@Int.emod_eq_of_lt
abbrev bp:=@Option.ite_none_right_eq_some
abbrev bq:=@Bool.false_eq_true
abbrev br:=@List.getElem?_map
abbrev bt:=@List.cons.injEq
abbrev bw:=@List.map_nil
abbrev bA:=@List.map_map
end Go.Eng
noncomputable section
namespace Go.Eng
namespace Fl
def add(a b:Nat):Nat:=(Ieee.double.add a b).getD 0
def o6(a b:Nat):Bool:=(Ieee.double.add a b).isSome
def sub(a b:Nat):Nat:=(Ieee.double.sub a b).getD 0
def xo(a b:Nat):Bool:=(Ieee.double.sub a b).isSome
def mul(a b:Nat):Nat:=(Ieee.double.mul a b).getD 0
def sG(a b:Nat):Bool:=(Ieee.double.mul a b).isSome
def eq(a b:Nat):Bool:=Ieee.double.order a b==BQ .eq
def lt(a b:Nat):Bool:=Ieee.double.order a b==BQ .lt
def gt(a b:Nat):Bool:=Ieee.double.order a b==BQ .gt
def neg(a:Nat):Nat:=a^^^9223372036854775808
def wW(a b c d:Nat):Nat:=sub (mul a c) (mul b d)
def wX(a b c d:Nat):Nat:=add (mul a d) (mul b c)
def sW(a b c d:Nat):Bool:=sG a c&&sG b d&&xo (mul a c) (mul b d)&&(sG a d&&sG b c&&o6 (mul a d) (mul b c))
def ofInt(n:Int):Nat:=FloatKind.f64.nearest n
def om(a:Nat):Nat:=FloatKind.f64.encode ((FloatKind.f64.decode a).integral .zero)
def num(a:Nat):Bool:=!(FloatKind.f64.decode a).isNaN
def toInt(a:Nat):Int:=(floatToIntVal .f64 a .i64).getD 0
def rr(a:Nat):Bool:=(floatToIntVal .f64 a .i64).isSome
def DC{a b:Nat}(h:o6 a b=NS):Ieee.double.add a b=BQ (add a b):=by unfold o6 at h;obtain⟨x,hx⟩:=Option.isSome_iff_exists.1 h;unfold add;rw[hx];rfl
def Dz{a b:Nat}(h:xo a b=NS):Ieee.double.sub a b=BQ (sub a b):=by unfold xo at h;obtain⟨x,hx⟩:=Option.isSome_iff_exists.1 h;unfold sub;rw[hx];rfl
def DA{a b:Nat}(h:sG a b=NS):Ieee.double.mul a b=BQ (mul a b):=by unfold sG at h;obtain⟨x,hx⟩:=Option.isSome_iff_exists.1 h;unfold mul;rw[hx];rfl
end Fl
def EI:BinOp->Value->Value->Option Value
 |.add,.float .f64 a,.float .f64 b=>if Fl.o6 a b then BQ (.float .f64 (Fl.add a b))else Ku
 |.sub,.float .f64 a,.float .f64 b=>if Fl.xo a b then BQ (.float .f64 (Fl.sub a b))else Ku
 |.mul,.float .f64 a,.float .f64 b=>if Fl.sG a b then BQ (.float .f64 (Fl.mul a b))else Ku
 |.eql,.float .f64 a,.float .f64 b=>BQ (.bool (Fl.eq a b))
 |.neq,.float .f64 a,.float .f64 b=>BQ (.bool (!Fl.eq a b))
 |.lss,.float .f64 a,.float .f64 b=>BQ (.bool (Fl.lt a b))
 |.leq,.float .f64 a,.float .f64 b=>BQ (.bool (Fl.lt a b||Fl.eq a b))
 |.gtr,.float .f64 a,.float .f64 b=>BQ (.bool (Fl.gt a b))
 |.geq,.float .f64 a,.float .f64 b=>BQ (.bool (Fl.gt a b||Fl.eq a b))
 |.add,.complex .f64 a b,.complex .f64 c d=>if Fl.o6 a c&&Fl.o6 b d then BQ (.complex .f64 (Fl.add a c) (Fl.add b d))else Ku
 |.mul,.complex .f64 a b,.complex .f64 c d=>if Fl.sW a b c d then BQ (.complex .f64 (Fl.wW a b c d) (Fl.wX a b c d))else Ku
 |.lss,.string a,.string b=>BQ (.bool (Op.bytesLess a.toList b.toList))
 |.leq,.string a,.string b=>BQ (.bool (Op.bytesLess a.toList b.toList||a.toList==b.toList))
 |.gtr,.string a,.string b=>BQ (.bool (!(Op.bytesLess a.toList b.toList||a.toList==b.toList)))
 |.geq,.string a,.string b=>BQ (.bool (!Op.bytesLess a.toList b.toList))
 |_,_,_=>Ku
section
variable{P:Program}{w:World}
theorem qv{a b:Nat}(h:Fl.o6 a b=NS):(Op.Complex.arith .add .f64 a b).run P w=.ok (Fl.add a b) w:=by have e:FloatKind.f64.format.add a b=BQ (Fl.add a b):=Fl.DC h;simp[Op.Complex.arith,Op.floatArith,e]
theorem Az{a b:Nat}(h:Fl.xo a b=NS):(Op.Complex.arith .sub .f64 a b).run P w=.ok (Fl.sub a b) w:=by have e:FloatKind.f64.format.sub a b=BQ (Fl.sub a b):=Fl.Dz h;simp[Op.Complex.arith,Op.floatArith,e]
theorem ob{a b:Nat}(h:Fl.sG a b=NS):(Op.Complex.arith .mul .f64 a b).run P w=.ok (Fl.mul a b) w:=by have e:FloatKind.f64.format.mul a b=BQ (Fl.mul a b):=Fl.DA h;simp[Op.Complex.arith,Op.floatArith,e]
theorem MC{op:BinOp}{t:TypeId}{x y z:Value}(h:EI op x y=BQ z):(binOp op t x y).run P w=.ok z w:=by unfold EI at h;split at h;{rw[bp]at h;obtain⟨h1,h⟩:=h;cases h;have e:FloatKind.f64.format.add _ _=BQ (Fl.add _ _):=Fl.DC h1;simp[binOp,Op.floatArith,e]};{rw[bp]at h;obtain⟨h1,h⟩:=h;cases h;have e:FloatKind.f64.format.sub _ _=BQ (Fl.sub _ _):=Fl.Dz h1;simp[binOp,Op.floatArith,e]};{rw[bp]at h;obtain⟨h1,h⟩:=h;cases h;have e:FloatKind.f64.format.mul _ _=BQ (Fl.mul _ _):=Fl.DA h1;simp[binOp,Op.floatArith,e]};{cases h;rfl};{cases h;rfl};{cases h;rfl};{cases h;rfl};{cases h;rfl};{cases h;rfl};{rw[bp,af]at h;obtain⟨⟨h1,h2⟩,h⟩:=h;cases h;simp[binOp,Op.complexOp,qv h1,qv h2]};{rw[bp]at h;obtain⟨h1,h⟩:=h;cases h;unfold Fl.sW at h1;simp only[af]at h1;obtain⟨⟨⟨a1,a2⟩,a3⟩,⟨a4,a5⟩,a6⟩:=h1;simp[binOp,Op.complexOp,Op.Complex.conv,Op.Complex.product,Op.Complex.mul,Op.Complex.sub,Op.Complex.add,ob a1,ob a2,Az a3,ob a4,ob a5,qv a6,Fl.wW,Fl.wX]};{cases h;rfl};{cases h;rfl};{cases h;rfl};{cases h;rfl};{cases h}
theorem GZ{op:BinOp}{t:TypeId}{x y:Operand}{u v z:Value}(h:EI op u v=BQ z):eqGuard op t x y u v=pure ():=by unfold EI at h;split at h<;>first|rfl|cases h
theorem Ay{a:Nat}:(Op.unary .neg (.float .f64 a)).run P w=.ok (.float .f64 (Fl.neg a)) w:=rfl
end
end Go.Eng
namespace Go.Eng
abbrev bD:=List UInt8
inductive bF where
 |mk (name:bD) (kind:Int) (bits high low:UInt64) (text more:bD) (sub:Int) (bytes:bD) (kids:List bF)
 deriving Inhabited
structure Val where
 kind:Int
 bits:UInt64
 high:UInt64
 low:UInt64
 text:bD
 more:bD
 sub:Int
 bytes:bD
 kids:List bF
 deriving Inhabited
namespace bF
def name:bF->bD|.mk x _ _ _ _ _ _ _ _ _=>x
def kind:bF->Int|.mk _ x _ _ _ _ _ _ _ _=>x
def bits:bF->UInt64|.mk _ _ x _ _ _ _ _ _ _=>x
def high:bF->UInt64|.mk _ _ _ x _ _ _ _ _ _=>x
def low:bF->UInt64|.mk _ _ _ _ x _ _ _ _ _=>x
def text:bF->bD|.mk _ _ _ _ _ x _ _ _ _=>x
def more:bF->bD|.mk _ _ _ _ _ _ x _ _ _=>x
def sub:bF->Int|.mk _ _ _ _ _ _ _ x _ _=>x
def bytes:bF->bD|.mk _ _ _ _ _ _ _ _ x _=>x
def kids:bF->List bF|.mk _ _ _ _ _ _ _ _ _ x=>x
def val(f:bF):Val:=⟨f.kind,f.bits,f.high,f.low,f.text,f.more,f.sub,f.bytes,f.kids⟩
def of(n:bD)(v:Val):bF:=.mk n v.kind v.bits v.high v.low v.text v.more v.sub v.bytes v.kids
end bF
inductive Mem where
 |mk (name:bD) (kind:Int) (text:bD) (kids:List Mem)
 deriving Inhabited
structure cQ where
 kind:Int
 text:bD
 kids:List Mem
 deriving Inhabited
namespace Mem
def name:Mem->bD|.mk x _ _ _=>x
def kind:Mem->Int|.mk _ x _ _=>x
def text:Mem->bD|.mk _ _ x _=>x
def kids:Mem->List Mem|.mk _ _ _ x=>x
def val(f:Mem):cQ:=⟨f.kind,f.text,f.kids⟩
def of(n:bD)(v:cQ):Mem:=.mk n v.kind v.text v.kids
end Mem
inductive Hl where
 |mk (kind:Int) (n:UInt64) (bytes text:bD) (kids:List Hl)
 deriving Inhabited
namespace Hl
def kind:Hl->Int|.mk x _ _ _ _=>x
def n:Hl->UInt64|.mk _ x _ _ _=>x
def bytes:Hl->bD|.mk _ _ x _ _=>x
def text:Hl->bD|.mk _ _ _ x _=>x
def kids:Hl->List Hl|.mk _ _ _ _ x=>x
end Hl
namespace Hl
end Hl
structure Yr where
 at_:Int
 end_:Int
 deriving Inhabited
structure Out where
 at_:Int
 bytes:bD
 Y5:List (List Int)
 err:Int
 fat:Int
 path:List Int
 deriving Inhabited
structure xg where
 err:Int
 at_:Int
 path:List Int
 deriving Inhabited
structure dY where
 high:UInt64
 low:UInt64
 deriving Inhabited,DecidableEq
abbrev Cx:=Nat×Nat
structure Qd where
 c0:Cx
 c1:Cx
 c2:Cx
 c3:Cx
 deriving Inhabited
def Qd.set(x:Qd)(i:Nat)(y:Cx):Qd:=⟨cond (Nat.beq 0 i) y x.c0,cond (Nat.beq 1 i) y x.c1,cond (Nat.beq 2 i) y x.c2,cond (Nat.beq 3 i) y x.c3⟩
def Qd.get(x:Qd)(i:Nat):Cx:=List.getD [x.c0,x.c1,x.c2,x.c3] i (0,0)
inductive fE where
 |bs|is|ws|ss|r9|fl|ml|il|sp|ou|us|qd|Up|vl
 deriving DecidableEq,Inhabited
abbrev fE.El:fE->Type
 |.bs=>UInt8
 |.is=>Int
 |.ws=>UInt16
 |.ss=>bD
 |.r9=>List Int
 |.fl=>bF
 |.ml=>Mem
 |.il=>Hl
 |.sp=>Yr
 |.ou=>Out
 |.us=>UInt64
 |.qd=>Qd
 |.Up=>bD
 |.vl=>Val
def fE.size:fE->Nat
 |.fl=>10
 |.ml=>4
 |.il=>5
 |.sp=>2
 |.ou=>6
 |.qd=>4
 |.vl=>9
 |_=>1
def fE.fu:(t:fE)->t.El
 |.bs=>0
 |.is=>0
 |.ws=>0
 |.ss=>[]
 |.r9=>[]
 |.fl=>.mk [] 0 0 0 0 [] [] 0 [] []
 |.ml=>.mk [] 0 [] []
 |.il=>.mk 0 0 [] [] []
 |.sp=>⟨0,0⟩
 |.ou=>⟨0,[],[],0,0,[]⟩
 |.us=>0
 |.qd=>⟨(0,0),(0,0),(0,0),(0,0)⟩
 |.Up=>[]
 |.vl=>⟨0,0,0,0,[],[],0,[],[]⟩
inductive TV where
 |u8 (n:UInt8)
 |u16 (n:UInt16)
 |u32 (n:UInt32)
 |u64 (n:UInt64)
 |i (k:IntKind) (n:Int)
 |b (x:Bool)
 |s (l:bD)
 |sl (t:fE) (l:List t.El)
 |ag (l:List TV)
 |tu (l:List TV)
 |ro (x:TV)
 |gd (c:Bool) (x:TV)
 |c (x:Value)
 |pt
 |dead
 |el (p z q:Nat)
 |nl (t:fE)
 |ub (e:Bool)
 deriving Inhabited
def Val.cells(v:Val):List TV:=[.i .i64 v.kind,.u64 v.bits,.u64 v.high,.u64 v.low,.s v.text,.s v.more,.i .i64 v.sub,.sl .bs v.bytes,.sl .fl v.kids]
def bF.cells(f:bF):List TV:=[.s f.name,.i .i64 f.kind,.u64 f.bits,.u64 f.high,.u64 f.low,.s f.text,.s f.more,.i .i64 f.sub,.sl .bs f.bytes,.sl .fl f.kids]
def cQ.cells(v:cQ):List TV:=[.i .i64 v.kind,.s v.text,.sl .ml v.kids]
def Mem.cells(f:Mem):List TV:=[.s f.name,.i .i64 f.kind,.s f.text,.sl .ml f.kids]
def Hl.cells(f:Hl):List TV:=[.i .i64 f.kind,.u64 f.n,.sl .bs f.bytes,.s f.text,.sl .il f.kids]
def Yr.cells(f:Yr):List TV:=[.i .i64 f.at_,.i .i64 f.end_]
def Out.cells(f:Out):List TV:=[.i .i64 f.at_,.sl .bs f.bytes,.sl .r9 f.Y5,.i .i64 f.err,.i .i64 f.fat,.sl .is f.path]
def xg.cells(f:xg):List TV:=[.i .i64 f.err,.i .i64 f.at_,.sl .is f.path]
def dY.cells(f:dY):List TV:=[.u64 f.high,.u64 f.low]
def Qd.cells(x:Qd):List TV:=[.c (.complex .f64 x.c0.1 x.c0.2),.c (.complex .f64 x.c1.1 x.c1.2),.c (.complex .f64 x.c2.1 x.c2.2),.c (.complex .f64 x.c3.1 x.c3.2)]
def fE.tv:(t:fE)->t.El->TV
 |.bs,x=>.u8 x
 |.is,x=>.i .i64 x
 |.ws,x=>.u16 x
 |.ss,x=>.s x
 |.r9,x=>.sl .is x
 |.fl,x=>.ag (bF.cells x)
 |.ml,x=>.ag (Mem.cells x)
 |.il,x=>.ag (Hl.cells x)
 |.sp,x=>.ag (Yr.cells x)
 |.ou,x=>.ag (Out.cells x)
 |.us,x=>.u64 x
 |.qd,x=>.ag (Qd.cells x)
 |.Up,x=>.sl .bs x
 |.vl,x=>.ag (Val.cells x)
def fE.el:(t:fE)->TV->Option t.El
 |.bs,.u8 x=>BQ x
 |.is,.i .i64 x=>BQ x
 |.ws,.u16 x=>BQ x
 |.ss,.s x=>BQ x
 |.r9,.sl .is x=>BQ x
 |.fl,.ag [.s n,.i .i64 k,.u64 b,.u64 h,.u64 l,.s t,.s m,.i .i64 s,.sl .bs y,.sl .fl ks]=>BQ (.mk n k b h l t m s y ks)
 |.ml,.ag [.s n,.i .i64 k,.s t,.sl .ml ks]=>BQ (.mk n k t ks)
 |.il,.ag [.i .i64 k,.u64 n,.sl .bs b,.s t,.sl .il ks]=>BQ (.mk k n b t ks)
 |.sp,.ag [.i .i64 a,.i .i64 e]=>BQ ⟨a,e⟩
 |.us,.u64 x=>BQ x
 |.qd,.ag [.c (.complex .f64 a b),.c (.complex .f64 c d),.c (.complex .f64 e f),.c (.complex .f64 g h)]=>BQ ⟨(a,b),(c,d),(e,f),(g,h)⟩
 |.ou,.ag [.i .i64 a,.sl .bs b,.sl .r9 l,.i .i64 e,.i .i64 f,.sl .is p]=>BQ ⟨a,b,l,e,f,p⟩
 |.Up,.sl .bs x=>BQ x
 |.vl,.ag [.i .i64 k,.u64 b,.u64 h,.u64 l,.s t,.s m,.i .i64 s,.sl .bs y,.sl .fl ks]=>BQ ⟨k,b,h,l,t,m,s,y,ks⟩
 |_,_=>Ku
def fE.Q8{t:fE}{x:TV}{y:t.El}(h:t.el x=BQ y):t.tv y=x:=by unfold fE.el at h;split at h<;>cases h<;>rfl
end Go.Eng
namespace Go.Eng
abbrev OT:=Option (List TV)
end Go.Eng
namespace Go.Eng
def dm(o:BinOp)(k:IntKind)(x y:Int):Int:=
 let a:=BitVec.ofInt k.bits x
 let b:=BitVec.ofInt k.bits y
 match o with
 |.and=>k.wrap (a&&&b).toNat
 |.or=>k.wrap (a|||b).toNat
 |.xor=>k.wrap (a^^^b).toNat
 |_=>k.wrap (a&&&~~~b).toNat
inductive sa where
 |ok (ws:List TV)
 |dX (p:Bool) (ws:List TV)
 |err
abbrev ck{R:Type}(p:Bool)(x:Option R):Option R:=cond p x Ku
theorem bO{R:Type}(x:Option R):ck NS x=x:=rfl
def H2(k:IntKind)(n:Int):TV:=
 match k with
 |.u8=>.u8 (UInt8.ofInt n)
 |.u16=>.u16 (UInt16.ofInt n)
 |.u32=>.u32 (UInt32.ofInt n)
 |.u64=>.u64 (UInt64.ofInt n)
 |k=>.i k (k.wrap n)
def TV.int?:TV->Option (IntKind×Int)
 |.u8 n=>BQ (.u8,n.toNat)
 |.u16 n=>BQ (.u16,n.toNat)
 |.u32 n=>BQ (.u32,n.toNat)
 |.u64 n=>BQ (.u64,n.toNat)
 |.i k n=>BQ (k,n)
 |_=>Ku
def TG(o:BinOp)(a b:UInt8):sa:=
 match o with
 |.add=>.ok [.u8 (a+b)]
 |.sub=>.ok [.u8 (a -b)]
 |.mul=>.ok [.u8 (a*b)]
 |.quo=>.dX (!decide (b=0)) [.u8 (a/b)]
 |.rem=>.dX (!decide (b=0)) [.u8 (a% b)]
 |.and=>.ok [.u8 (a&&&b)]
 |.or=>.ok [.u8 (a|||b)]
 |.xor=>.ok [.u8 (a^^^b)]
 |.andNot=>.ok [.u8 (a&&&~~~b)]
 |.eql=>.ok [.b (oG (a=b))]
 |.neq=>.ok [.b (!decide (a=b))]
 |.lss=>.ok [.b (oG (a<b))]
 |.leq=>.ok [.b (oG (a<=b))]
 |.gtr=>.ok [.b (oG (b<a))]
 |.geq=>.ok [.b (oG (b<=a))]
 |_=>.err
def o9(a:UInt8)(n:Nat):UInt8:=UInt8.ofNat (a.toNat*2^n)
def oK(a:UInt8)(n:Nat):UInt8:=UInt8.ofNat (a.toNat/2^n)
def NA(o:BinOp)(a b:UInt16):sa:=
 match o with
 |.add=>.ok [.u16 (a+b)]
 |.sub=>.ok [.u16 (a -b)]
 |.mul=>.ok [.u16 (a*b)]
 |.quo=>.dX (!decide (b=0)) [.u16 (a/b)]
 |.rem=>.dX (!decide (b=0)) [.u16 (a% b)]
 |.and=>.ok [.u16 (a&&&b)]
 |.or=>.ok [.u16 (a|||b)]
 |.xor=>.ok [.u16 (a^^^b)]
 |.andNot=>.ok [.u16 (a&&&~~~b)]
 |.eql=>.ok [.b (oG (a=b))]
 |.neq=>.ok [.b (!decide (a=b))]
 |.lss=>.ok [.b (oG (a<b))]
 |.leq=>.ok [.b (oG (a<=b))]
 |.gtr=>.ok [.b (oG (b<a))]
 |.geq=>.ok [.b (oG (b<=a))]
 |_=>.err
def K3(a:UInt16)(n:Nat):UInt16:=UInt16.ofNat (a.toNat*2^n)
def uT(a:UInt16)(n:Nat):UInt16:=UInt16.ofNat (a.toNat/2^n)
def Ny(o:BinOp)(a b:UInt32):sa:=
 match o with
 |.add=>.ok [.u32 (a+b)]
 |.sub=>.ok [.u32 (a -b)]
 |.mul=>.ok [.u32 (a*b)]
 |.quo=>.dX (!decide (b=0)) [.u32 (a/b)]
 |.rem=>.dX (!decide (b=0)) [.u32 (a% b)]
 |.and=>.ok [.u32 (a&&&b)]
 |.or=>.ok [.u32 (a|||b)]
 |.xor=>.ok [.u32 (a^^^b)]
 |.andNot=>.ok [.u32 (a&&&~~~b)]
 |.eql=>.ok [.b (oG (a=b))]
 |.neq=>.ok [.b (!decide (a=b))]
 |.lss=>.ok [.b (oG (a<b))]
 |.leq=>.ok [.b (oG (a<=b))]
 |.gtr=>.ok [.b (oG (b<a))]
 |.geq=>.ok [.b (oG (b<=a))]
 |_=>.err
def uU(a:UInt32)(n:Nat):UInt32:=UInt32.ofNat (a.toNat*2^n)
def yL(a:UInt32)(n:Nat):UInt32:=UInt32.ofNat (a.toNat/2^n)
def Nw(o:BinOp)(a b:UInt64):sa:=
 match o with
 |.add=>.ok [.u64 (a+b)]
 |.sub=>.ok [.u64 (a -b)]
 |.mul=>.ok [.u64 (a*b)]
 |.quo=>.dX (!decide (b=0)) [.u64 (a/b)]
 |.rem=>.dX (!decide (b=0)) [.u64 (a% b)]
 |.and=>.ok [.u64 (a&&&b)]
 |.or=>.ok [.u64 (a|||b)]
 |.xor=>.ok [.u64 (a^^^b)]
 |.andNot=>.ok [.u64 (a&&&~~~b)]
 |.eql=>.ok [.b (oG (a=b))]
 |.neq=>.ok [.b (!decide (a=b))]
 |.lss=>.ok [.b (oG (a<b))]
 |.leq=>.ok [.b (oG (a<=b))]
 |.gtr=>.ok [.b (oG (b<a))]
 |.geq=>.ok [.b (oG (b<=a))]
 |_=>.err
def jB(a:UInt64)(n:Nat):UInt64:=UInt64.ofNat (a.toNat*2^n)
def cK(a:UInt64)(n:Nat):UInt64:=UInt64.ofNat (a.toNat/2^n)
def sa.holds:sa->List TV->Prop
 |.ok ws,r=>r=ws
 |.dX p ws,r=>p=NS/\r=ws
 |.err,_=>False
def TF(o:BinOp)(k:IntKind)(a b:Int):sa:=
 match o with
 |.add=>.ok [.i k (k.wrap (a+b))]
 |.sub=>.ok [.i k (k.wrap (a -b))]
 |.mul=>.ok [.i k (k.wrap (a*b))]
 |.quo=>.dX (!decide (b=0)) [.i k (k.wrap (a.tdiv b))]
 |.rem=>.dX (!decide (b=0)) [.i k (a.tmod b)]
 |.and=>.ok [.i k (dm .and k a b)]
 |.or=>.ok [.i k (dm .or k a b)]
 |.xor=>.ok [.i k (dm .xor k a b)]
 |.andNot=>.ok [.i k (dm .andNot k a b)]
 |.eql=>.ok [.b (oG (a=b))]
 |.neq=>.ok [.b (!decide (a=b))]
 |.lss=>.ok [.b (oG (a<b))]
 |.leq=>.ok [.b (oG (a<=b))]
 |.gtr=>.ok [.b (oG (b<a))]
 |.geq=>.ok [.b (oG (b<=a))]
 |_=>.err
def TE(o:BinOp)(a b:bD):sa:=
 match o with
 |.add=>.dX (oG (a.length+b.length<=9223372036854775807)) [.s (a++b)]
 |.eql=>.ok [.b (oG (a=b))]
 |.neq=>.ok [.b (!decide (a=b))]
 |.lss=>.ok [.b (Op.bytesLess a b)]
 |.leq=>.ok [.b (Op.bytesLess a b||oG (a=b))]
 |.gtr=>.ok [.b (!(Op.bytesLess a b||oG (a=b)))]
 |.geq=>.ok [.b (!Op.bytesLess a b)]
 |_=>.err
def TV.count:TV->Option (Option Bool×Nat)
 |.u8 n=>BQ (Ku,n.toNat)
 |.u16 n=>BQ (Ku,n.toNat)
 |.u32 n=>BQ (Ku,n.toNat)
 |.u64 n=>BQ (Ku,n.toNat)
 |.i _ n=>BQ (BQ (oG (0<=n)),n.toNat)
 |_=>Ku
def sa.under(p:Option Bool)(ws:List TV):sa:=
 match p with
 |none=>.ok ws
 |some p=>.dX p ws
def RQ(x y:TV):sa:=
 match y.count with
 |some (p,n)=>match x with|.u8 a=>.under p [.u8 (o9 a n)]|.u16 a=>.under p [.u16 (K3 a n)]|.u32 a=>.under p [.u32 (uU a n)]|.u64 a=>.under p [.u64 (jB a n)]|.i k a=>.under p [.i k (k.wrap (a*2^(min n k.bits)))]|_=>.err
 |none=>.err
def RP(x y:TV):sa:=
 match y.count with
 |some (p,n)=>match x with|.u8 a=>.under p [.u8 (oK a n)]|.u16 a=>.under p [.u16 (uT a n)]|.u32 a=>.under p [.u32 (yL a n)]|.u64 a=>.under p [.u64 (cK a n)]|.i k a=>.under p [.i k (a.fdiv (2^(min n k.bits)))]|_=>.err
 |none=>.err
def ye:BinOp->Option Bool
 |.shl=>BQ NS
 |.shr=>BQ NT
 |_=>Ku
def Tf(o:BinOp)(x y:Value):sa:=
 match o,x,y with
 |.add,.float .f64 a,.float .f64 b=>.dX (Fl.o6 a b) [.c (.float .f64 (Fl.add a b))]
 |.sub,.float .f64 a,.float .f64 b=>.dX (Fl.xo a b) [.c (.float .f64 (Fl.sub a b))]
 |.mul,.float .f64 a,.float .f64 b=>.dX (Fl.sG a b) [.c (.float .f64 (Fl.mul a b))]
 |.eql,.float .f64 a,.float .f64 b=>.ok [.b (Fl.eq a b)]
 |.neq,.float .f64 a,.float .f64 b=>.ok [.b (!Fl.eq a b)]
 |.lss,.float .f64 a,.float .f64 b=>.ok [.b (Fl.lt a b)]
 |.leq,.float .f64 a,.float .f64 b=>.ok [.b (Fl.lt a b||Fl.eq a b)]
 |.gtr,.float .f64 a,.float .f64 b=>.ok [.b (Fl.gt a b)]
 |.geq,.float .f64 a,.float .f64 b=>.ok [.b (Fl.gt a b||Fl.eq a b)]
 |.add,.complex .f64 a b,.complex .f64 c d=>.dX (Fl.o6 a c&&Fl.o6 b d) [.c (.complex .f64 (Fl.add a c) (Fl.add b d))]
 |.mul,.complex .f64 a b,.complex .f64 c d=>.dX (Fl.sW a b c d) [.c (.complex .f64 (Fl.wW a b c d) (Fl.wX a b c d))]
 |_,_,_=>.err
def P1(o:BinOp)(x y:TV):sa:=
 match ye o with
 |some NS=>RQ x y
 |some NT=>RP x y
 |none=>match x,y with|.u8 a,.u8 b=>TG o a b|.u16 a,.u16 b=>NA o a b|.u32 a,.u32 b=>Ny o a b|.u64 a,.u64 b=>Nw o a b|.i k a,.i k' b=>if k=k' then TF o k a b else .err|.s a,.s b=>TE o a b|.c a,.c b=>Tf o a b|_,_=>.err
def WZ(o:UnOp)(x:TV):sa:=
 match o,x with
 |.neg,.u8 a=>.ok [.u8 (0 -a)]
 |.neg,.u16 a=>.ok [.u16 (0 -a)]
 |.neg,.u32 a=>.ok [.u32 (0 -a)]
 |.neg,.u64 a=>.ok [.u64 (0 -a)]
 |.neg,.i k a=>.ok [.i k (k.wrap (0 -a))]
 |.xor,.u8 a=>.ok [.u8 (~~~a)]
 |.xor,.u16 a=>.ok [.u16 (~~~a)]
 |.xor,.u32 a=>.ok [.u32 (~~~a)]
 |.xor,.u64 a=>.ok [.u64 (~~~a)]
 |.xor,.i k a=>.ok [.i k (dm .xor k (if k.signed then -1 else k.max) a)]
 |.not,.b a=>.ok [.b !a]
 |.neg,.c (.float .f64 a)=>.ok [.c (.float .f64 (Fl.neg a))]
 |_,_=>.err
def TV.xK:TV->Bool
 |.ag _=>NS
 |_=>NT
def TV.cells:TV->List TV
 |.ag cs=>cs
 |x=>[x]
def TV.plain:TV->Bool
 |.u8 _=>NS
 |.u16 _=>NS
 |.u32 _=>NS
 |.u64 _=>NS
 |.i _ _=>NS
 |.b _=>NS
 |.s _=>NS
 |.sl _ _=>NS
 |.nl _=>NS
 |.ag _=>NS
 |.ro _=>NS
 |.c x=>x.oneCell'
 |_=>NT
def qg(cs:List TV)(o n:Nat)(agg:Bool):Option TV:=
 match agg with
 |true=>cond (Nat.ble (o+n) cs.length) (BQ (.ag ((cs.drop o).take n))) Ku
 |false=>cs[o]?
def iC(cs:List TV)(o:Nat)(xs:List TV):List TV:=cs.take o++xs++cs.drop (o+xs.length)
def TV.Vo:TV->Bool
 |.pt=>NS
 |x=>x.plain
def sS(z:List TV):List (Nat×Nat)->List TV->OT
 |[],[]=>BQ z
 |(o,n)::pl,x::xs=>cond (x.Vo&&Nat.beq x.cells.length n&&Nat.ble (o+n) z.length) (sS (iC z o x.cells) pl xs) Ku
 |_,_=>Ku
def Cb(e:TV)(o n:Nat)(agg:Bool):Option TV:=
 match e with
 |.ag cs=>qg cs o n agg
 |x=>cond (Nat.beq o 0&&Nat.beq n 1&&!agg) (BQ x) Ku
def Gl(e:TV)(o:Nat)(x:TV):Option TV:=
 match e with
 |.ag cs=>cond (Nat.ble (o+x.cells.length) cs.length) (BQ (.ag (iC cs o x.cells))) Ku
 |_=>cond (Nat.beq o 0&&!x.xK) (BQ x) Ku
def fE.app:(t:fE)->List t.El->(t':fE)->List t'.El->Option (List t.El)
 |.bs,l,.bs,m=>BQ (l++m)
 |.is,l,.is,m=>BQ (l++m)
 |.ws,l,.ws,m=>BQ (l++m)
 |.ss,l,.ss,m=>BQ (l++m)
 |.r9,l,.r9,m=>BQ (l++m)
 |.fl,l,.fl,m=>BQ (l++m)
 |.ml,l,.ml,m=>BQ (l++m)
 |.il,l,.il,m=>BQ (l++m)
 |.sp,l,.sp,m=>BQ (l++m)
 |.ou,l,.ou,m=>BQ (l++m)
 |.us,l,.us,m=>BQ (l++m)
 |.qd,l,.qd,m=>BQ (l++m)
 |.Up,l,.Up,m=>BQ (l++m)
 |.vl,l,.vl,m=>BQ (l++m)
 |_,_,_,_=>Ku
def fE.Wh(t:fE):List TV->Option (List t.El)
 |[]=>BQ []
 |x::r=>match t.el x with
  |some y=>match t.Wh r with|some l=>BQ (y::l)|none=>Ku
  |none=>Ku
def allM{A:Type}(f:TV->Option A):List TV->Option (List A)
 |[]=>BQ []
 |x::r=>match f x with
  |some y=>match allM f r with|some l=>BQ (y::l)|none=>Ku
  |none=>Ku
def TV.str?:TV->Option bD|.s l=>BQ l|_=>Ku
def TV.i64?:TV->Option Int|.i .i64 l=>BQ l|_=>Ku
def TV.u8?:TV->Option UInt8|.u8 l=>BQ l|_=>Ku
def TV.u64?:TV->Option UInt64|.u64 l=>BQ l|_=>Ku
def TV.bool?:TV->Option Bool|.b l=>BQ l|_=>Ku
def TV.cx?:TV->Option Cx|.c (.complex .f64 x y)=>BQ (x,y)|_=>Ku
def TV.sl?(t:fE):TV->Option (List t.El)
 |.sl t' l=>if h:t'=t then BQ (h▸l)else Ku
 |_=>Ku
def Kh(cs:List TV)(n:Nat):Option TV:=
 match cs with
 |.s _::_=>match allM TV.str? cs with|some l=>BQ (.s (l.getD n []))|none=>Ku
 |.i _ _::_=>match allM TV.i64? cs with|some l=>BQ (.i .i64 (l.getD n 0))|none=>Ku
 |.u8 _::_=>match allM TV.u8? cs with|some l=>BQ (.u8 (l.getD n 0))|none=>Ku
 |.u64 _::_=>match allM TV.u64? cs with|some l=>BQ (.u64 (l.getD n 0))|none=>Ku
 |.b _::_=>match allM TV.bool? cs with|some l=>BQ (.b (l.getD n NT))|none=>Ku
 |.c (.func _ _ _)::_=>cs[n]?
 |.c _::_=>match allM TV.cx? cs with|some l=>BQ (.c (.complex .f64 (List.getD l n (0,0)).1 (List.getD l n (0,0)).2))|none=>Ku
 |.sl t _::_=>match allM (TV.sl? t) cs with|some l=>BQ (.sl t (l.getD n []))|none=>Ku
 |_=>Ku
def Ty(s m j:Nat)(cs:List TV):List TV:=(List.range m).map λq=>cs.getD (q*s+j) .dead
def E5(s m n:Nat)(cs:List TV):Nat->OT
 |0=>BQ []
 |j+1=>match Kh (Ty s m (s -(j+1)) cs) n with
  |some x=>match E5 s m n cs j with|some xs=>BQ (x::xs)|none=>Ku
  |none=>Ku
def qQ(n:Nat):Bool:=oG (n<=maxLen)
def bG(n:Int)(l:Nat):Bool:=oG (0<=n)&&oG (n<l)
def fe(a b:Int)(l:Nat):Bool:=oG (0<=a)&&oG (a<=b)&&oG (b<=l)
def dP(n tE:Nat):Bool:=oG (n<=maxLen)&&oG (n*tE<=140737488355328)
def uu(l c:Int)(tE:Nat):Bool:=oG (0<=l)&&oG (l<=c)&&oG (c*tE<=140737488355328)&&oG (c<=maxLen)
def TV.bare:TV->TV
 |.gd _ x=>x
 |x=>x
def TV.Nc:TV->Option Bool
 |.gd q _=>BQ q
 |_=>Ku
def Lp(t:Bool)(x y:TV):Option TV:=
 match x,y with
 |.b a,.b b=>BQ (.b (cond t a b))
 |.i k a,.i k' b=>if k=k' then BQ (.i k (cond t a b))else Ku
 |.u8 a,.u8 b=>BQ (.u8 (cond t a b))
 |.u16 a,.u16 b=>BQ (.u16 (cond t a b))
 |.u32 a,.u32 b=>BQ (.u32 (cond t a b))
 |.u64 a,.u64 b=>BQ (.u64 (cond t a b))
 |.s a,.s b=>BQ (.s (cond t a b))
 |_,_=>Ku
def HH(t:Bool)(x y:TV):sa:=
 match Lp t x.bare y.bare with
 |some z=>match x.Nc,y.Nc with|none,Ku=>.ok [z]|some p,Ku=>.dX (!t||p) [z]|none,BQ q=>.dX (t||q) [z]|some p,BQ q=>.dX (cond t p q) [z]
 |none=>.err
def B3{A:Type}:Nat->List A->Nat->A->List A
 |_,[],_,_=>[]
 |j,p::r,i,q=>cond (Nat.beq j i) q p::B3 (j+1) r i q
def cxT(p:Cx):TV:=.c (.complex .f64 p.1 p.2)
def Jr{A:Type}(g:A->TV):List A->List TV
 |[]=>[]
 |p::r=>g p::Jr g r
def Xh(cs:List TV)(i:Nat)(x:TV):OT:=
 match x with
 |.u64 q=>match allM TV.u64? cs with|some l=>BQ (Jr .u64 (B3 0 l i q))|none=>Ku
 |x=>match x.cx?,allM TV.cx? cs with|some q,BQ l=>BQ (Jr cxT (B3 0 l i q))|_,_=>Ku
inductive Gh where
 |no|hid|zz|ptr (m o:Nat)|fF (k:Nat)|pe (k:Nat)|Ql (l:List (Nat×Nat))|ow (ts:List (Nat×Nat))|cl (ts:List (Nat×Nat))|pv|lv|us|pw (d:Nat)|pc (r:Nat)
 deriving DecidableEq,Inhabited
abbrev Cell:=TV×Gh
abbrev St:=Nat->Cell
inductive Md where
 |pl|rf|sl|sm|gv
 deriving DecidableEq,Inhabited
structure iB where
 md:List Md:=[]
 jE:Nat:=1
 own:List Nat:=[]
abbrev dn:=List TV->sa
structure cE where
 fs:Nat->dn×iB
 ty:Nat->Option (fE×Nat)
 z:Nat->OT
 ld:List Nat:=[]
def nrm:TV->TV
 |.nl t=>.sl t []
 |x=>x
def Vm:TV->TV
 |.nl t=>.sl t []
 |.ag cs=>.ag (cs.map nrm)
 |x=>x
def Sn(k:IntKind)(n:Int):Option TV:=
 match k with
 |.u8=>cond (oG (0<=n)&&oG (n<256)) (BQ (.u8 (UInt8.ofNat n.toNat))) Ku
 |.u16=>cond (oG (0<=n)&&oG (n<65536)) (BQ (.u16 (UInt16.ofNat n.toNat))) Ku
 |.u32=>cond (oG (0<=n)&&oG (n<4294967296)) (BQ (.u32 (UInt32.ofNat n.toNat))) Ku
 |.u64=>cond (oG (0<=n)&&oG (n<18446744073709551616)) (BQ (.u64 (UInt64.ofNat n.toNat))) Ku
 |k=>BQ (.i k n)
def YV:Value->Option TV
 |.bool b=>BQ (.b b)
 |.int k n=>Sn k n
 |.string s=>BQ (.s s.data.toList)
 |.float k b=>BQ (.c (.float k b))
 |.complex k a b=>BQ (.c (.complex k a b))
 |.pointer Ku=>BQ (.c (.pointer Ku))
 |.nilFunc=>BQ (.c .nilFunc)
 |.nilIface=>BQ (.c .nilIface)
 |_=>Ku
def Hm:Value->TV->Bool
 |.slice Ku 0 0,.nl _=>NS
 |.bool b,.b c=>b==c
 |.int .u8 n,.u8 m=>n==m.toNat
 |.int .u16 n,.u16 m=>n==m.toNat
 |.int .u32 n,.u32 m=>n==m.toNat
 |.int .u64 n,.u64 m=>n==m.toNat
 |.int j n,.i k m=>j==k&&n==m
 |.string s,.s l=>s.data.toList==l
 |.float j n,.c (.float k m)=>j==k&&n==m
 |.complex j n n',.c (.complex k m m')=>j==k&&n==m&&n'==m'
 |.pointer Ku,.c (.pointer Ku)=>NS
 |.nilFunc,.c .nilFunc=>NS
 |.nilIface,.c .nilIface=>NS
 |_,_=>NT
def sb:List Value->List TV->Bool
 |[],[]=>NS
 |x::xs,y::ys=>Hm x y&&sb xs ys
 |_,_=>NT
structure iN where
 p:Option Bool
 x:Cell
 ws:List (Nat×Cell):=[]
def iN.ok(x:TV)(g:Gh:=.no)(ws:List (Nat×Cell):=[]):Option iN:=BQ ⟨Ku,(x,g),ws⟩
def iN.dX(p:Bool)(x:TV)(g:Gh:=.no)(ws:List (Nat×Cell):=[]):Option iN:=BQ ⟨BQ p,(x,g),ws⟩
def sa.Ra(r:sa):Option iN:=
 match r with
 |.ok [x]=>iN.ok x
 |.dX p [x]=>iN.dX p x
 |_=>Ku
def wB(nt:Nat)(V:St)(k:Nat):Bool:=oG ((V k).2=.no)&&Nat.blt k 1000000&&Nat.ble nt k
def Cf(a b:Int):Int:=if b<a then b else a
def rZ(a b:Int):Int:=if a<b then b else a
abbrev gj{A:Type}(p:Bool)(x:Option A):Option A:=cond p x Ku
section
variable(P:Program)(E:cE)(nt:Nat)(own:Nat->Nat)(V:St)
def lj(t:TypeId):Option (Nat×Bool):=(P.info? t).bind λi=>(P.underlying t).map λd=>(i.size,match d with|.struct _=>NS|.array _ _=>NS|_=>NT)
def wP(t:TypeId)(f:Nat):Option Field:=(P.underlying t).bind λd=>match d with|.struct fs=>fs[f]? |_=>Ku
def Na(t:TypeId)(v:Value):Option TV:=
 match v with
 |.slice Ku 0 0=>(E.ty t).map λp=>.nl p.1
 |.agg cs=>(E.z t).bind λz=>gj (sb cs.toList z) (BQ (.ag z))
 |v=>YV v
def ik(t:TypeId)(o:Operand):Option Cell:=
 match o with
 |.tmp i=>gj (Nat.blt i nt) (match V i with
  |(_,.hid)=>Ku
  |c=>BQ c)
 |.const v=>(Na E t v).map λx=>(x,.no)
 |.func f=>BQ (.c (.func (.func f) #[] #[]),.no)
 |.global _=>Ku
def Ar(c:Cell):Option TV:=
 match c with
 |(.pt,.fF k)=>match V k with|(y,.pv)=>BQ y|(y,.lv)=>BQ y|(y,.us)=>BQ y|(y,.pw _)=>BQ y|(y,.pc _)=>BQ y|_=>Ku
 |(x,.no)=>BQ (Vm x)
 |_=>Ku
def H9(c:Cell):Option (TV×List (Nat×Cell)):=
 match c with
 |(.pt,.fF k)=>match V k with|(y,.pv)=>BQ (y,[(k,(y,.lv))])|(y,.lv)=>BQ (y,[])|(y,.us)=>gj y.plain (BQ (y,[]))|_=>Ku
 |(x,.no)=>BQ (Vm x,[])
 |_=>Ku
def qV(o n:Nat):List (Nat×Nat)->List TV->Option (List TV×List (Nat×Cell))
 |[],cs=>BQ (cs,[])
 |(c,k)::r,cs=>match qV o n r cs with
  |some (cs,ws)=>cond (Nat.ble o c&&Nat.blt c (o+n)) (match H9 V (.pt,.fF k)with
   |some (x,us)=>BQ (cs.set c x,us++ws)
   |none=>Ku) (BQ (cs,ws))
  |none=>Ku
def EH(c:Cell):Option (TV×List (Nat×Cell)):=
 match c with
 |(.ag cs,.ow ts)=>match qV V 0 cs.length ts cs with|some (cs,ws)=>BQ (.ag (cs.map nrm),ws)|none=>Ku
 |c=>H9 V c
def Oe:List Cell->Option (List TV×List (Nat×Cell))
 |[]=>BQ ([],[])
 |c::r=>match EH V c with
  |some (x,ws)=>match Oe r with|some (xs,us)=>BQ (x::xs,ws++us)|none=>Ku
  |none=>Ku
def rJ:List Cell->Option (List Cell×Nat)
 |[]=>Ku
 |[(.pt,.fF k)]=>BQ ([],k)
 |[_]=>Ku
 |c::d::r=>match rJ (d::r)with|some (cs,k)=>BQ (c::cs,k)|none=>Ku
def tN(ts:List TypeId)(os:List Operand):Option (List Cell):=
 match ts,os with
 |[],[]=>BQ []
 |t::ts,o::os=>match ik E nt V t o with
  |some c=>match tN ts os with|some cs=>BQ (c::cs)|none=>Ku
  |none=>Ku
 |_,_=>Ku
def HD(o n:Nat)(ts:List (Nat×Nat)):List (Nat×Nat):=ts.filter λt=>Nat.blt t.1 o||Nat.ble (o+n) t.1
def pX(c:Nat):List (Nat×Nat)->Option Nat
 |[]=>Ku
 |(d,k)::r=>cond (Nat.beq d c) (BQ k) (pX c r)
def TM(m:Md)(c:Cell):Option (TV×List (Nat×Cell)):=
 match m,c with
 |.pl,c=>EH V c
 |.rf,(.pt,.ptr k 0)=>match V k with
  |(.ag cs,.cl ts)=>match qV V 0 cs.length ts cs with|some (cs,ws)=>BQ (.ag (cs.map nrm),ws)|none=>Ku
  |_=>Ku
 |.rf,_=>Ku
 |m,(.pt,.fF k)=>match m,V k with|_,(y,.pv)=>BQ (y,[])|.sm,(y,.pc _)=>BQ (y,[])|_,_=>Ku
 |.sm,(.nl t,.no)=>BQ (.sl t [],[])
 |.gv,(.nl t,.no)=>BQ (.sl t [],[])
 |_,_=>Ku
def Fp(ms:List Md):List Cell->Option (List TV×List (Nat×Cell))
 |[]=>BQ ([],[])
 |c::r=>match TM V (ms.headD .pl) c with
  |some (x,ws)=>match Fp ms.tail r with|some (xs,us)=>BQ (x::xs,ws++us)|none=>Ku
  |none=>Ku
def nH:List Md->List TV->List TV->OT
 |[],_,outs=>gj outs.isEmpty (BQ [])
 |.rf::ms,_::ins,x::outs=>(nH ms ins outs).map (x::·)
 |.sl::ms,_::ins,x::outs=>(nH ms ins outs).map (x::·)
 |.pl::ms,y::ins,outs=>(nH ms ins outs).map (y::·)
 |.sm::ms,y::ins,outs=>(nH ms ins outs).map (y::·)
 |.gv::ms,y::ins,outs=>(nH ms ins outs).map (y::·)
 |_::_,_,_=>Ku
def o0(m:Md)(c:Cell)(y:TV):Option (Nat×Cell):=
 match m,c.2 with
 |.rf,.ptr k _=>BQ (k,(y,.cl []))
 |.sl,.fF k=>BQ (k,(y,.pv))
 |.sm,.fF k=>BQ (k,(y,(V k).2))
 |.gv,.fF k=>BQ (k,(.dead,.zz))
 |_,_=>Ku
def jt:List Md->List Cell->List TV->List (Nat×Cell)
 |m::ms,c::cs,y::ys=>match o0 V m c y with|some p=>p::jt ms cs ys|none=>jt ms cs ys
 |_,_,_=>[]
def CQ:List (Nat×Cell)->Bool
 |[]=>NS
 |(k,_)::r=>(r.all λp=>!Nat.beq p.1 k)&&CQ r
def tM(outs:List TV)(i:Nat):Option TV:=cond (Nat.blt i 1000) (outs[i]?) (match outs[0]? with|some (TV.ag cs)=>cs[i -1000]? |_=>Ku)
def O9:List Nat->Nat->List TV->Option (List (Nat×Cell))
 |[],_,_=>BQ []
 |i::r,j,outs=>match tM outs i with|some x=>gj (wB nt V (own j)) ((O9 r (j+1) outs).map ((own j,(x,.pv))::·))|none=>Ku
def Xc(l:List Nat):TV->TV
 |.ag cs=>.ag (cs.mapIdx λc y=>cond (l.contains (1000+c)) .pt y)
 |x=>x
def nK(l:List Nat):Bool:=l.all λi=>Nat.blt i 1000
def uk(l:List Nat)(outs:List TV):List TV:=cond (nK l) (outs.mapIdx λi x=>cond (l.contains i) .pt x) (outs.map (Xc l))
def okO(sg:iB):Bool:=nK sg.own||(Nat.beq sg.jE 1&&Nat.beq sg.own.length 1)
def I7(sg:iB)(outs:List TV):Cell:=
 cond (Nat.beq sg.jE 1) (match sg.own with
  |[]=>(outs.headD .dead,.no)
  |i::_=>cond (Nat.blt i 1000) (.pt,.fF (own 0)) ((uk sg.own outs).headD .dead,.ow [(i -1000,own 0)]))
  (.tu (uk sg.own outs),cond sg.own.isEmpty .no (.Ql (sg.own.mapIdx λj i=>(i,own j))))
def Fc(sg:iB)(cs:List Cell)(xs:List TV)(ws:List (Nat×Cell))(p:Option Bool)(outs:List TV):Option iN:=
 gj (Nat.ble sg.jE outs.length&&Nat.blt 0 nt&&okO sg) (match O9 nt own V sg.own 0 (outs.take sg.jE),nH sg.md xs (outs.drop sg.jE)with
  |some ns,BQ ys=>gj (CQ (jt V sg.md cs ys)&&(ws.all λq=>(jt V sg.md cs ys).all λp=>!Nat.beq p.1 q.1)) (BQ ⟨p,I7 own sg (outs.take sg.jE),jt V sg.md cs ys++(ns++ws)⟩)
  |_,_=>Ku)
def Iq(f:Nat)(ts:List TypeId)(args:List Operand):Option iN:=
 match tN E nt V ts args with
 |some cs=>match Fp V (E.fs f).2.md cs with
  |some (xs,ws)=>match(E.fs f).1 xs with|.ok outs=>Fc nt own V (E.fs f).2 cs xs ws Ku outs|.dX p outs=>Fc nt own V (E.fs f).2 cs xs ws (BQ p) outs|.err=>Ku
  |none=>Ku
 |none=>Ku
def O8(x:TV)(p:Option Bool)(ws:List (Nat×Cell)):Option iN:=gj (wB nt V (own 0)) (BQ ⟨p,(.pt,.fF (own 0)),(own 0,(x,.pv))::ws⟩)
def HT(tE:Nat)(k:Nat)(t:fE)(l:List t.El)(st':fE)(m:List st'.El)(ws:List (Nat×Cell)):Option iN:=
 match t.app l st' m with
 |some n=>gj (wB nt V (own 0)) (BQ ⟨BQ (dP (l.length+m.length) tE),(.pt,.fF (own 0)),[(own 0,(.sl t n,.pc k)),(k,(.sl t l,.pw (own 0)))]++ws⟩)
 |none=>Ku
def Qa(st:fE)(tE:Nat)(c:Cell)(st':fE)(m:List st'.El):Option iN:=
 match c with
 |(.pt,.fF k)=>match V k with
  |(.sl t l,.pv)=>match E.ld.contains (own 0)with|true=>gj (oG (t=st)) (HT nt own V tE k t l st' m [])|false=>match t.app l st' m with|some n=>gj (oG (t=st)&&wB nt V (own 0)) (BQ ⟨BQ (dP (l.length+m.length) tE),(.pt,.fF (own 0)),[(own 0,(.sl t n,.pv)),(k,(.dead,.zz))]⟩)|none=>Ku
  |(.sl t l,.pw d)=>gj (oG (t=st)) (HT nt own V tE k t l st' m [(d,(.dead,.zz))])
  |(.sl t l,.lv)=>match t.app l st' m with|some n=>gj (oG (t=st)&&wB nt V (own 0)) (BQ ⟨BQ (dP (l.length+m.length) tE),(.pt,.fF (own 0)),[(own 0,(.sl t n,.lv)),(k,(.sl t l,.us))]⟩)|none=>Ku
  |_=>Ku
 |(.nl t,.no)=>gj (oG (t=st')&&oG (t=st)) (O8 nt own V (.sl st' m) (BQ (dP m.length tE)) [])
 |_=>Ku
def Ab(b:Builtin)(ts:List TypeId)(args:List Operand):Option iN:=
 match b,ts,args with
 |.len,[t],[x]=>match P.underlying t,(ik E nt V t x).bind (Ar V)with|some (.slice _),BQ (.sl _ l)=>iN.ok (.i .i64 l.length)|some .string,BQ (.s l)=>iN.ok (.i .i64 l.length)|_,_=>Ku
 |.append,[t,u],[x,y]=>match E.ty t,ik E nt V t x,P.underlying u,(ik E nt V u y).bind (Ar V)with|some (st,tE),BQ c,BQ (.slice _),BQ (.sl st' m)=>Qa E nt own V st tE c st' m|some (st,tE),BQ c,BQ .string,BQ (.s m)=>Qa E nt own V st tE c .bs m|_,_,_,_=>Ku
 |.min,_,[x,y]=>match ik E nt V 0 x,ik E nt V 0 y with|some (.i k a,.no),BQ (.i k' b,.no)=>gj (oG (k=k')) (iN.ok (.i k (Cf a b)))|_,_=>Ku
 |.max,_,[x,y]=>match ik E nt V 0 x,ik E nt V 0 y with|some (.i k a,.no),BQ (.i k' b,.no)=>gj (oG (k=k')) (iN.ok (.i k (rZ a b)))|_,_=>Ku
 |.real,_,[x]=>match ik E nt V 0 x with|some (.c (.complex k a _),.no)=>iN.ok (.c (.float k a))|_=>Ku
 |.imag,_,[x]=>match ik E nt V 0 x with|some (.c (.complex k _ b),.no)=>iN.ok (.c (.float k b))|_=>Ku
 |.complex,_,[x,y]=>match ik E nt V 0 x,ik E nt V 0 y with|some (.c (.float .f64 a),.no),BQ (.c (.float .f64 b),.no)=>iN.ok (.c (.complex .f64 a b))|_,_=>Ku
 |_,_,_=>Ku
def M9(s d:TypeId)(x:TV):Option iN:=
 match P.underlying s,P.underlying d with
 |some (.int _),BQ (.int k)=>match x.int? with|some (_,n)=>iN.ok (H2 k n)|none=>Ku
 |some (.int _),BQ (.float .f64)=>match x with|.i _ n=>iN.ok (.c (.float .f64 (Fl.ofInt n)))|_=>Ku
 |some (.float .f64),BQ (.int .i64)=>match x with|.c (.float .f64 b)=>iN.dX (Fl.rr b) (.i .i64 (Fl.toInt b))|_=>Ku
 |some .string,BQ .string=>match x with|.s l=>iN.ok (.s l)|_=>Ku
 |some .string,BQ (.slice e)=>match P.underlying e,x with|some (.int .u8),.s l=>O8 nt own V (.sl .bs l) (BQ (qQ l.length)) []|_,_=>Ku
 |some (.slice e),BQ .string=>match P.underlying e,x with|some (.int .u8),.sl .bs l=>iN.ok (.s l)|_,_=>Ku
 |_,_=>Ku
def Tv(t:fE)(l:List t.El)(lo hi:Option Int):Option iN:=
 match lo,hi with
 |some a,BQ b=>iN.dX (fe a b l.length) (.sl t ((l.take b.toNat).drop a.toNat))
 |some a,Ku=>iN.dX (fe a l.length l.length) (.sl t (l.drop a.toNat))
 |none,BQ b=>iN.dX (fe 0 b l.length) (.sl t (l.take b.toNat))
 |none,Ku=>iN.ok (.sl t l)
def Tu(l:bD)(lo hi:Option Int):Option iN:=
 match lo,hi with
 |some a,BQ b=>iN.dX (fe a b l.length) (.s ((l.take b.toNat).drop a.toNat))
 |some a,Ku=>iN.dX (fe a l.length l.length) (.s (l.drop a.toNat))
 |none,BQ b=>iN.dX (fe 0 b l.length) (.s (l.take b.toNat))
 |none,Ku=>iN.ok (.s l)
def uA(o:Operand):Option Int:=
 match ik E nt V 0 o with
 |some (x,.no)=>(x.int?).map (·.2)
 |_=>Ku
def qn(o:Option Operand):Option (Option Int):=
 match o with
 |none=>BQ Ku
 |some o=>(uA E nt V o).map BQ
def xI(x:TypeId)(st:fE):Bool:=match E.ty x with|some (st',_)=>Nat.beq st'.size st.size|none=>NT
def M4(t:TypeId)(c:Cell)(lo hi:Option Int):Option iN:=
 match EH V c with
 |some (.sl st l,ws)=>gj (xI E t st) ((Tv st l lo hi).map λe=>{e with ws:=ws})
 |_=>Ku
def LQ(t:TypeId)(c:Cell):Option iN:=
 match lj P t with
 |some (n,agg)=>gj (agg||Nat.beq n 1) (match c with
  |(.pt,.ptr m o)=>match V m with
   |(.ag cs,.cl ts)=>match agg,pX o ts with
    |false,BQ k=>iN.ok .pt (.fF k)
    |_,_=>match E.ld.contains (own 0)with
     |true=>gj (agg&&Nat.beq o 0&&Nat.beq n cs.length) (iN.ok (.ag cs) (.ow ts))
     |false=>match qV V o n ts cs with
      |some (cs,ws)=>match qg cs o n agg with|some x=>iN.ok x .no ws|none=>Ku
      |none=>Ku
   |_=>Ku
  |(.el i s o,.pe k)=>match V k with
   |(.sl t l,g)=>match Cb (t.tv (l.getD i t.fu)) o n agg with|some x=>gj ((oG (g=.pv)||oG (g=.lv))&&Nat.beq s t.size) (iN.dX (oG (i<l.length)) x)|none=>Ku
   |(.ag cs,.cl [])=>match Kh cs i with|some x=>gj (Nat.beq s 1&&Nat.beq o 0&&Nat.beq n 1&&!agg) (iN.dX (oG (i<cs.length)) x)|none=>Ku
   |_=>Ku
  |(.ro x,.no)=>gj (x.plain&&(x.xK==agg)&&Nat.beq x.cells.length n) (iN.ok x)
  |_=>Ku)
 |none=>Ku
def F4(t:TypeId)(c v:Cell):Option iN:=
 match lj P t with
 |some (n,_)=>match c with
  |(.pt,.ptr m o)=>match V m with
   |(.ag cs,.cl ts)=>match v with
    |(.pt,.fF k)=>gj (Nat.beq n 1&&Nat.blt o cs.length&&(!Nat.beq k m&&ts.all λt=>!Nat.beq t.2 m)) (BQ ⟨Ku,(.dead,.no),[(m,(.ag (iC cs o [.pt]),.cl ((o,k)::HD o n ts)))]⟩)
    |(.ag xs,.ow us)=>gj (Nat.beq o 0&&Nat.beq xs.length n&&Nat.beq n cs.length&&us.all λt=>!Nat.beq t.2 m) (BQ ⟨Ku,(.dead,.no),[(m,(.ag xs,.cl us))]⟩)
    |(x,.no)=>gj (x.plain&&Nat.beq x.cells.length n&&Nat.ble (o+n) cs.length&&ts.all λt=>!Nat.beq t.2 m) (BQ ⟨Ku,(.dead,.no),[(m,(.ag (iC cs o x.cells),.cl (HD o n ts)))]⟩)
    |_=>Ku
   |_=>Ku
  |(.el i s o,.pe k)=>match EH V v with
   |some (x,ws)=>match V k with
    |(.sl t l,.pv)=>match Gl (t.tv (l.getD i t.fu)) o x with
     |some y=>match t.el y with
      |some z=>gj (x.plain&&Nat.beq s t.size&&Nat.beq x.cells.length n&&ws.all λp=>!Nat.beq p.1 k) (BQ ⟨BQ (oG (i<l.length)),(.dead,.no),(k,(.sl t (l.set i z),.pv))::ws⟩)
      |none=>Ku
     |none=>Ku
    |(.ag cs,.cl [])=>match Xh cs i x with
     |some ds=>gj (Nat.beq s 1&&Nat.beq o 0&&Nat.beq n 1&&ws.all λp=>!Nat.beq p.1 k) (BQ ⟨BQ (oG (i<cs.length)),(.dead,.no),(k,(.ag ds,.cl []))::ws⟩)
     |none=>Ku
    |_=>Ku
   |none=>Ku
  |_=>Ku
 |none=>Ku
def sA(t:TypeId)(j:Nat):Option (Nat×(Nat×TypeId)):=
 match P.underlying t with
 |some (.struct fs)=>(fs[j]?).bind λf=>(P.info? f.type).map λi=>(f.offset,i.size,f.type)
 |some (.array _ e)=>(P.info? e).map λi=>(j*i.size,i.size,e)
 |_=>Ku
def rB(t:TypeId):List (Nat×Operand)->Option (List (Nat×(Nat×TypeId)))
 |[]=>BQ []
 |(j,_)::r=>match sA P t j,rB t r with|some q,BQ l=>BQ (q::l)|_,_=>Ku
def Zd(x:TypeId)(c:Cell)(n:Int):Option iN:=
 match P.underlying x,c with
 |some (.slice _),(.pt,.fF k)=>match V k with|(.sl t l,.pv)=>gj (xI E x t) (iN.dX (bG n l.length) (.el n.toNat t.size 0) (.pe k))|(.sl t l,.lv)=>gj (xI E x t) (iN.dX (bG n l.length) (.ro (t.tv (l.getD n.toNat t.fu))))|(.sl t l,.us)=>gj (xI E x t) (iN.dX (bG n l.length) (.ro (t.tv (l.getD n.toNat t.fu))))|_=>Ku
 |some (.slice _),(.sl t l,.no)=>gj (xI E x t) (iN.dX (bG n l.length) (.ro (t.tv (l.getD n.toNat t.fu))))
 |some (.array m e),(.pt,.ptr k 0)=>match V k with
  |(.ag _,.cl _)=>(P.info? e).bind λi=>iN.dX (bG n m) (.el n.toNat i.size 0) (.pe k)
  |_=>Ku
 |_,_=>Ku
def Ss:String:=((Extern.BytealgIndexByte.rows[1]?).map Prod.fst).getD ""
def isName:String:=((Extern.BytealgIndexByte.rows[0]?).map Prod.fst).getD ""
def KN:String:= "math.archTrunc"
def sU(f:Nat)(nm:String):Bool:=(P.funcs[f]?).any λfn=>fn.name==nm&&fn.body.isNone&&(fn.origin== "" ||fn.origin==nm)
def Ti(f:Nat)(cs:Option (List Cell)):Option iN:=match cs with|some [(.c (.float .f64 b),.no)]=>gj (sU P f KN) (iN.dX (Fl.num b) (.c (.float .f64 (Fl.om b))))|some [(.s l,.no),(.u8 c,.no)]=>gj (sU P f Ss) (iN.ok (.i .i64 (Lib.indexByte l c)))|some [(.sl .bs l,.no),(.u8 c,.no)]=>gj (sU P f isName) (iN.ok (.i .i64 (Lib.indexByte l c)))|_=>Ku
def H6(f:Nat):Bool:=match P.funcs[f]? with|some fn=>fn.body.isSome|none=>NS
def HY(f:Field)(o:Nat):Bool:=f.name != "_" &&Nat.beq f.offset o&&match P.underlying f.type with|some (.int .u64)=>NS|_=>NT
def Un(t:TypeId)(fs:Array Field)(x y:TV):Option Bool:=
 match fs.toList,x,y with
 |[f,g],.ag [.u64 a,.u64 b],.ag [.u64 c,.u64 d]=>gj (HY P f 0&&HY P g 1&&!P.stoodInHeld t&&!P.eqGuardType P.depth t) (BQ (oG (a=c)&&oG (b=d)))
 |_,_,_=>Ku
def M7(s d:TypeId)(c:Cell):Option iN:=
 match c with
 |(.pt,.fF k)=>match V k,P.underlying s with
  |(.sl .bs l,.pv),BQ (.slice e)=>match P.underlying e with|some (.int .u8)=>gj (Nat.beq s d) (BQ ⟨BQ (!l.isEmpty),(.sl .bs l,.no),[(k,(.dead,.zz))]⟩)|_=>Ku
  |_,_=>Ku
 |_=>Ku
def Dw(ty:TypeId)(op:Op):Option iN:=
 match op with
 |.move x=>(ik E nt V ty x).map λc=>⟨Ku,c,[]⟩
 |.assign x=>(ik E nt V ty x).map λc=>⟨Ku,c,[]⟩
 |.pick c a b=>match ik E nt V 0 c,ik E nt V ty a,ik E nt V ty b with|some (.b t,.no),BQ (x,.no),BQ (y,.no)=>(HH t x y).Ra|_,_,_=>Ku
 |.binOp o t x y u=>match ik E nt V t x,ik E nt V u y with
  |some c,BQ d=>match P.underlying t with
   |some (.slice _)=>match o,Ar V c,d with|.eql,BQ (.sl _ l),(.nl _,.no)=>iN.ok (.ub l.isEmpty)|_,_,_=>Ku
   |some .bool=>match o,c,d with|.eql,(.b a,.no),(.b b,.no)=>iN.ok (.b (a==b))|.neq,(.b a,.no),(.b b,.no)=>iN.ok (.b (!(a==b)))|_,_,_=>Ku
   |some (.struct fs)=>match o,c,d with
    |.eql,(a,.no),(b,.no)=>(Un P t fs a b).bind λr=>iN.ok (.b r)
    |.neq,(a,.no),(b,.no)=>(Un P t fs a b).bind λr=>iN.ok (.b !r)
    |_,_,_=>Ku
   |_=>match c,d with|(a,.no),(b,.no)=>(P1 o a b).Ra|_,_=>Ku
  |_,_=>Ku
 |.unOp o t x=>match ik E nt V t x with|some (a,.no)=>(WZ o a).Ra|_=>Ku
 |.convert s d x=>match ik E nt V s x with
  |some c=>match M7 P V s d c with|some e=>BQ e|none=>match Ar V c with|some a=>M9 P nt own V s d a|none=>Ku
  |none=>Ku
 |.call {callee:=.builtin b,args,argTypes}=>Ab P E nt own V b argTypes.toList args.toList
 |.call {callee:=.value (.func f),args,argTypes}=>cond (H6 P f) (Iq E nt own V f argTypes.toList args.toList) (Ti P f (tN E nt V argTypes.toList args.toList))
 |.call {callee:=.value (.tmp i),args,argTypes}=>match ik E nt V 0 (.tmp i)with|some (.c (.func (.func f) ⟨[]⟩ ⟨[]⟩),.no)=>Iq E nt own V f argTypes.toList args.toList|_=>Ku
 |.indexAddr t x i=>match ik E nt V t x,uA E nt V i with|some c,BQ n=>Zd P E V t c n|_,_=>Ku
 |.index t x i=>match ik E nt V t x,uA E nt V i with
  |some (.s l,.no),BQ n=>match P.underlying t with|some .string=>iN.dX (bG n l.length) (.u8 (l.getD n.toNat 0))|_=>Ku
  |some (.ag cs,.no),BQ n=>match P.underlying t with
   |some (.array m e)=>match lj P e with
    |some (1,NT)=>match Kh cs n.toNat with|some x=>gj (Nat.beq m cs.length) (iN.dX (bG n m) x)|none=>Ku
    |some (s,NS)=>match E5 s m n.toNat cs s with|some xs=>gj (Nat.beq (m*s) cs.length) (iN.dX (bG n m) (.ag xs))|none=>Ku
    |_=>Ku
   |_=>Ku
  |_,_=>Ku
 |.field t x f=>match ik E nt V t x,wP P t f with
  |some (.ag cs,.no),BQ fl=>match lj P fl.type with
   |some (n,agg)=>match qg cs fl.offset n agg with|some x=>gj (agg||Nat.beq n 1) (iN.ok x)|none=>Ku
   |none=>Ku
  |_,_=>Ku
 |.fieldAddr t x f=>match ik E nt V 0 x,wP P t f with
  |some c,BQ fl=>match lj P fl.type with
   |some (n,agg)=>gj (Nat.blt 0 n) (match c with
    |(.pt,.ptr m o)=>iN.ok .pt (.ptr m (o+fl.offset))
    |(.el i s o,.pe k)=>iN.ok (.el i s (o+fl.offset)) (.pe k)
    |(.ro (.ag cs),.no)=>match qg cs fl.offset n agg with|some x=>iN.ok (.ro x)|none=>Ku
    |_=>Ku)
   |none=>Ku
  |_,_=>Ku
 |.nilCheck x=>match ik E nt V 0 x with|some (.pt,.ptr m o)=>iN.ok .pt (.ptr m o)|some (.ro x,.no)=>iN.ok (.ro x)|_=>Ku
 |.extract x i=>match ik E nt V 0 x with
  |some (.tu vs,.no)=>(vs[i]?).bind iN.ok
  |some (.tu vs,.Ql l)=>match pX i l with
   |some k=>match V k with|(_,.pv)=>iN.ok .pt (.fF k)|_=>Ku
   |none=>(vs[i]?).bind iN.ok
  |_=>Ku
 |.load t x=>match ik E nt V 0 x with|some c=>LQ P E own V t c|none=>Ku
 |.store t x v=>match ik E nt V 0 x,ik E nt V t v with|some c,BQ d=>F4 P V t c d|_,_=>Ku
 |.slice t x lo hi Ku=>match P.underlying t,ik E nt V t x,qn E nt V lo,qn E nt V hi with
  |some .string,BQ (.s l,.no),BQ a,BQ b=>Tu l a b
  |some (.slice _),BQ c,BQ a,BQ b=>match c,a,b with
   |(.pt,.fF k),Ku,BQ n=>match V k with|(.sl st l,.pv)=>gj (xI E t st&&wB nt V (own 0)) (BQ ⟨BQ (fe 0 n l.length),(.pt,.fF (own 0)),[(own 0,(.sl st (l.take n.toNat),.pv)),(k,(.dead,.zz))]⟩)|_=>M4 E V t c a b
   |_,_,_=>M4 E V t c a b
  |_,_,_,_=>Ku
 |.buildSlice t n parts=>match E.ty t,P.underlying t with
  |some (st,_),BQ (.slice e)=>match tN E nt V (parts.toList.map λ_=>e) (parts.toList.map (·.2))with
   |some cs=>match Oe V cs with
    |some (xs,ws)=>match st.Wh xs with|some l=>gj (Nat.beq n parts.size&&Nat.ble (n*st.size) 16777216&&oG (parts.toList.map (·.1)=List.range n)) (O8 nt own V (.sl st l) Ku ws)|none=>Ku
    |none=>Ku
   |none=>Ku
  |_,_=>Ku
 |.build t parts=>match E.z t,rB P t parts.toList with
  |some z,BQ pl=>match tN E nt V (pl.map (·.2.2)) (parts.toList.map (·.2))with
   |some cs=>match E.ld.contains (own 0),rJ cs with
    |true,BQ (CS,k)=>match Oe V CS with
     |some (xs,ws)=>match sS z (pl.map λq=>(q.1,q.2.1)) (xs++[.pt]),pl.getLast? with
      |some ds,BQ q=>gj (xs.all TV.plain&&(Nat.beq q.2.1 1&&ws.all λp=>!Nat.beq p.1 k)) (iN.ok (.ag ds) (.ow [(q.1,k)]) ws)
      |_,_=>Ku
     |none=>Ku
    |_,_=>match Oe V cs with
     |some (xs,ws)=>match sS z (pl.map λq=>(q.1,q.2.1)) xs with|some ds=>gj (xs.all TV.plain) (iN.ok (.ag ds) .no ws)|none=>Ku
     |none=>Ku
   |none=>Ku
  |_,_=>Ku
 |.alloc t=>(E.z t).bind λz=>gj (wB nt V (own 0)) (iN.ok .pt (.ptr (own 0) 0) [(own 0,(.ag z,.cl []))])
 |.box t v=>match ik E nt V t v with|some (x,.no)=>gj (x.plain&&wB nt V (own 0)) (iN.ok .pt (.ptr (own 0) 0) [(own 0,(.ag x.cells,.cl []))])|_=>Ku
 |.makeSlice t l c=>match E.ty t,uA E nt V l,uA E nt V c with|some (st,tE),BQ a,BQ b=>O8 nt own V (.sl st (List.replicate a.toNat st.fu)) (BQ (uu a b tE)) []|_,_,_=>Ku
 |_=>Ku
end
abbrev GL:=List (Nat×Gh)
inductive Hint where
 |o|s (a b:Hint)|j (G:GL) (a b:Hint)|c (a b:Hint)|b (a:Hint)|l (G:GL) (a:Hint)|sc (ls:List (Nat×GL)) (a:Hint)
def Hint.s1:Hint->Hint|.s a _=>a|.j _ a _=>a|.c a _=>a|.b a=>a|.l _ a=>a|.sc _ a=>a|.o=>.o
def Hint.s2:Hint->Hint|.s _ a=>a|.j _ _ a=>a|.c _ a=>a|_=>.o
def cX(S:St)(d:Nat)(x:Cell):St:=λk=>cond (Nat.beq k d) x (S k)
def gi(S:St):List (Nat×Cell)->St
 |[]=>S
 |(k,x)::r=>cX (gi S r) k x
def mO(nt:Nat)(ts:List Nat)(S:St):St:=λk=>cond (Nat.blt k nt&&ts.contains k) ((S k).1.bare,(S k).2) (S k)
def Mu(x:TV)(b:Bool):Option Bool:=
 match x with
 |.b x=>BQ (cond b x (!x))
 |.gd q (.b x)=>BQ (q&&cond b x (!x))
 |_=>Ku
def xN:List TV->Option Bool
 |[]=>Ku
 |x::r=>match x.Nc,xN r with|none,q=>q|some p,Ku=>BQ p|some p,BQ q=>BQ (p&&q)
def Qm(op:Op):List Nat:=op.operands.toList.filterMap λx=>match x with|.tmp t=>BQ t|_=>Ku
def TV.Ma:TV->Bool
 |.gd _ _=>NS
 |_=>NT
def okM(nt:Nat)(V:St)(k:Nat):Bool:=Nat.ble nt k&&match(V k).2 with|.no=>NT|.hid=>NT|_=>NS
def Gh.slot:Gh->Bool
 |.no|.ptr _ _|.fF _|.pe _|.Ql _|.ow _=>NS
 |_=>NT
def Gh.dA:Gh->List Nat
 |.ptr m _=>[m]
 |.fF k=>[k]
 |.pe k=>[k]
 |.Ql l=>l.map (·.2)
 |.ow l=>l.map (·.2)
 |.cl ts=>ts.map (·.2)
 |.pw d=>[d]
 |.pc r=>[r]
 |_=>[]
def KA(nt:Nat)(V:St)(c:Bool)(q:Option Bool)(e:iN):Option iN:=
 gj (e.ws.isEmpty&&(e.x.2.slot&&!e.x.1.Ma)&&e.x.2.dA.all (okM nt V)) (BQ ⟨match e.p,q with
  |none,Ku=>Ku
  |none,BQ q=>BQ (!c||q)
  |some p,Ku=>BQ (!c||p)
  |some p,BQ q=>BQ (!c||(q&&p)),(.gd c e.x.1,e.x.2),[]⟩)
def MB(nt:Nat)(c:Bool)(q:Option Bool)(e:iN):Option iN:=
 gj (e.ws.all λp=>Nat.ble nt p.1) (BQ ⟨BQ (match e.p,q with
  |none,Ku=>c
  |none,BQ q=>c&&q
  |some p,Ku=>c&&p
  |some p,BQ q=>c&&(q&&p)),e.x,e.ws⟩)
def zW(nt:Nat)(o:Oper):Bool:=
 match o.op,o.dst with
 |.store _ _ _,Ku=>NS
 |.store _ _ _,BQ _=>NT
 |.call {callee:=.value _,args:=_,argTypes:=_},Ku=>NS
 |_,BQ d=>Nat.blt d nt
 |_,Ku=>NT
def watch(op:Op):List Nat:=
 match op with
 |.pick _ _ _=>(Qm op).take 1
 |_=>Qm op
section
variable(P:Program)(E:cE)(nt:Nat)
def DY(d:Option Nat)(j:Nat):Nat:=(j+1)*nt+d.getD 0
def qI(ops:Array Oper)(o:Oper)(V:St):Option iN:=
 gj (zW nt o) (match o.guard with
 |none=>Dw P E nt (DY nt o.dst) V o.type o.op
 |some (j,b)=>match(ops[j]?).bind (·.dst)with
  |some t=>match V t with
   |(x,.no)=>match Mu x b,Dw P E nt (DY nt o.dst) (mO nt (watch o.op) V) o.type o.op with
    |some c,BQ e=>gj (Nat.blt t nt&&(o.dst.isSome&&(watch o.op).all λt=>!(V t).1.bare.Ma)) (cond (E.ld.contains (DY nt o.dst 1)) (MB nt c (xN ((watch o.op).map λt=>(V t).1)) e) (KA nt V c (xN ((watch o.op).map λt=>(V t).1)) e))
    |_,_=>Ku
   |_=>Ku
  |none=>Ku)
def kp(S:St)(d:Option Nat)(e:iN):St:=
 match d with
 |some d=>cX (gi S e.ws) d e.x
 |none=>gi S e.ws
variable{R:Type}
abbrev PX(p:Option Bool)(x:Option R):Option R:=match p with|none=>x|some p=>ck p x
abbrev I0 (ops:Array Oper) (l:List Oper) (S:St) (K:St→Option R):Option R :=
 List.rec (motive:=fun _=>St→(St→Option R)→Option R) (fun S K=>K S)
  (fun o _ ih S K=>match qI P E nt ops o S with
   | some e=>PX e.p (ih (kp S o.dst e) K)
   | none=>Ku) l S K
theorem IZ(ops:Array Oper)(o:Oper)(r:List Oper)(S:St)(K:St->Option R):I0 P E nt ops (o::r) S K=match qI P E nt ops o S with|some e=>PX e.p (I0 P E nt ops r (kp S o.dst e) K)|none=>Ku:=rfl
def np(d:Option Nat)(e:iN):List Nat:=d.toList++e.ws.map (·.1)
def tV(ds:List Nat)(S:St):St:=λk=>cond (ds.contains k) (.dead,.hid) (S k)
def xd(o:Oper):List Nat:=(o.after.toList.filter (Region.binds .any)).map (·.on)
def qt(ops:List Oper):List (List Nat):=ops.foldl (λacc o=>acc++[(xd o).flatMap λe=>e::(acc.getD e [])]) []
def yj(ops:List Oper):Bool:=ops.zipIdx.all λ(o,i)=>(xd o).all λe=>oG (e<i)
def L2(ops:Array Oper):List Oper->St->Option (List (List Nat))
 |[],_=>BQ []
 |o::r,S=>match qI P E nt ops o S with
  |some e=>match L2 ops r (kp S o.dst e)with|some l=>BQ (np o.dst e::l)|none=>Ku
  |none=>Ku
def wy(W B:List (List Nat))(i:Nat):List Nat:=(W.zipIdx.filter λ(_,j)=>!(Nat.beq j i)&&!((B.getD i []).contains j)&&!((B.getD j []).contains i)).flatMap (·.1)
abbrev I2 (ops:Array Oper) (W B:List (List Nat)) (i:Nat) (l:List Oper) (S:St) (K:St→Option R):Option R :=
 List.rec (motive:=fun _=>Nat→St→(St→Option R)→Option R) (fun _ S K=>K S)
  (fun o _ ih i S K=>match qI P E nt ops o (tV (wy W B i) S) with
   | some e=>gj (oG (np o.dst e=W.getD i [])&&(wy W B i).all fun k=>!((W.getD i []).contains k)) (PX e.p (ih (i+1) (kp S o.dst e) K))
   | none=>Ku) l i S K
theorem I1(ops:Array Oper)(W B:List (List Nat))(i:Nat)(o:Oper)(r:List Oper)(S:St)(K:St->Option R):I2 P E nt ops W B i (o::r) S K=match qI P E nt ops o (tV (wy W B i) S)with
 |some e=>gj (oG (np o.dst e=W.getD i [])&&(wy W B i).all λk=>!((W.getD i []).contains k)) (PX e.p (I2 P E nt ops W B (i+1) r (kp S o.dst e) K))
 |none=>Ku:=rfl
abbrev B7(ops:Array Oper)(draw:Bool)(S:St)(K:St->Option R):Option R:=
 match draw with
 |false=>I0 P E nt ops ops.toList S K
 |true=>gj (yj ops.toList) (match L2 P E nt ops ops.toList S with
  |some W=>I2 P E nt ops W (qt ops.toList) 0 ops.toList S K
  |none=>Ku)
inductive MX where
 |normal
 |exit (id:Nat)
 |goto (l:Nat)
 |ret
abbrev gf(R:Type):=MX->St->Option R
def sx(S:St):GL->List (Nat×Option Nat)
 |[]=>[]
 |(k,.fF i)::r=>(match S k with|(_,.fF j)=>[(i,BQ j)]|(.nl _,.no)=>[(i,Ku)]|_=>[])++sx S r
 |(m,.cl ts)::r=>(match S m with
  |(.ag cs,.cl us)=>ts.filterMap λt=>match pX t.1 us,cs[t.1]? with|some j,_=>BQ (t.2,BQ j)|none,BQ (.nl _)=>BQ (t.2,Ku)|_,_=>Ku
  |_=>[])++sx S r
 |_::r=>sx S r
def sK(k:Nat):List (Nat×Option Nat)->Option (Option Nat)
 |[]=>Ku
 |(i,j)::r=>cond (Nat.beq i k) (BQ j) (sK k r)
def A7(S:St)(i:Nat):GL->Option fE
 |[]=>Ku
 |(k,.fF i')::r=>match Nat.beq i' i,S k with|true,(.nl t,_)=>BQ t|_,_=>A7 S i r
 |(m,.cl ts)::r=>match S m,ts.find? (λt=>Nat.beq t.2 i)with
  |(.ag cs,_),BQ t=>match cs[t.1]? with|some (.nl t)=>BQ t|_=>A7 S i r
  |_,_=>A7 S i r
 |_::r=>A7 S i r
def DT(ts:List (Nat×Nat))(cs:List TV):List TV:=ts.foldl (λcs t=>cs.set t.1 .pt) cs
def lW(ρ:List (Nat×Option Nat))(k:Nat):Option Nat:=(sK k ρ).getD (BQ k)
def Vw:Option TV->Bool
 |some (.nl _)=>NS
 |_=>NT
def FT(S:St)(G:GL)(ρ:List (Nat×Option Nat))(p:Nat×Gh):Option (TV×List (Nat×Cell)):=
 match p.2 with
 |.no=>gj (Nat.blt p.1 nt) (EH S (S p.1))
 |.fF _=>gj (Nat.blt p.1 nt) (match S p.1 with
  |(.pt,.fF _)=>BQ (.pt,[])
  |(.nl _,.no)=>BQ (.pt,[])
  |_=>Ku)
 |.ptr m o=>gj (Nat.blt p.1 nt) (match S p.1 with
  |(.pt,.ptr m' o')=>gj (Nat.beq m' m&&Nat.beq o' o) (BQ (.pt,[]))
  |_=>Ku)
 |.cl ts=>gj (Nat.ble nt p.1) (match S p.1 with
  |(.ag cs,.cl us)=>gj (ts.all λt=>(pX t.1 us).isSome||Vw cs[t.1]?) (match qV S 0 cs.length (us.filter λu=>(pX u.1 ts).isNone) cs with
   |some (cs,ws)=>BQ (.ag (DT ts (cs.map nrm)),ws)
   |none=>Ku)
  |_=>Ku)
 |.pv=>gj (Nat.ble nt p.1) (match lW ρ p.1 with
  |some j=>match S j with|(y,.pv)=>BQ (y,[])|_=>Ku
  |none=>(A7 S p.1 G).map λt=>(.sl t [],[]))
 |.lv=>gj (Nat.ble nt p.1) (match lW ρ p.1 with
  |some j=>match S j with|(y,.pv)=>BQ (y,[(j,(y,.lv))])|(y,.lv)=>BQ (y,[])|_=>Ku
  |none=>(A7 S p.1 G).map λt=>(.sl t [],[]))
 |_=>Ku
def xk(S:St)(G:GL)(ρ:List (Nat×Option Nat)):GL->Option (List TV×List (Nat×Cell))
 |[]=>BQ ([],[])
 |p::r=>match FT nt S G ρ p with
  |some (x,ws)=>match xk S G ρ r with|some (xs,us)=>BQ (x::xs,ws++us)|none=>Ku
  |none=>Ku
def Gh.own:Gh->Bool
 |.cl _|.pv|.lv|.pw _|.pc _=>NS
 |_=>NT
def pY:List Nat->Bool
 |[]=>NS
 |k::r=>(r.all λj=>!Nat.beq j k)&&pY r
def Xd(G:GL)(ρ:List (Nat×Option Nat))(ws:List (Nat×Cell)):Bool:=
 pY (G.map (·.1))&&(ρ.all λp=>oG (sK p.1 ρ=BQ p.2)&&(Nat.blt p.1 1000000||oG (p.2=BQ p.1))&&Nat.ble nt p.1)&&
 pY (G.filterMap λp=>cond p.2.own (lW ρ p.1) Ku)&&(G.all λp=>p.2.dA.all λi=>G.any λq=>Nat.beq q.1 i&&q.2.own)&&
 G.all λp=>match p.2 with
  |.cl _=>(sK p.1 ρ).isNone
  |.ptr m _=>(sK m ρ).isNone
  |.pv=>match lW ρ p.1 with
   |some j=>ws.all λq=>!Nat.beq q.1 j
   |none=>NS
  |_=>NS
def hO:GL->List TV->St
 |(k,g)::G,x::xs=>λj=>cond (Nat.beq j k) (x,g) (hO G xs j)
 |_,_=>λ_=>(.dead,.no)
def DQ:List Nat->St->St
 |[],S=>S
 |k::r,S=>match S k with|(x,.pw d)=>DQ r (cX (cX S k (x,.pv)) d (.dead,.zz))|_=>DQ r S
def YZ(G:GL)(ρ:List (Nat×Option Nat)):List Nat:=G.filterMap λp=>match p.2 with|.pv=>lW ρ p.1|_=>Ku
def yW(G:GL)(S:St):OT:=
 match xk nt S G (sx S G) G with
 |some (xs,ws)=>gj (Xd nt G (sx S G) ws) (BQ xs)
 |none=>Ku
def lS(G:GL)(S:St):OT:=yW nt G (DQ (YZ G (sx S G)) S)
abbrev IW(f:St->gf R->Option R)(K:gf R):gf R:=λe S=>
 match e with
 |.normal=>f S K
 |e=>K e S
abbrev xA(f:St->gf R->Option R)(G:GL)(K:gf R):gf R:=λe S=>
 match e with
 |.normal=>match lS nt G S with|some xs=>f (hO G xs) K|none=>Ku
 |e=>K e S
abbrev oR(id:Nat)(K:gf R):gf R:=λe S=>
 match e with
 |.exit j=>match Nat.beq j id with|true=>K .normal S|false=>K (.exit j) S
 |e=>K e S
def pW{ι:Type}(f:ι->gf R->Option R)(tr:MX->St->Option (Option ι)):Nat->ι->gf R->Option R
 |0,_,_=>Ku
 |n+1,i,K=>f i λe S=>
  match tr e S with
  |none=>K e S
  |some Ku=>Ku
  |some (BQ j)=>pW f tr n j K
open Classical in
def Y6(g:Nat->Option R):Option R:=if h:∃n r,g n=BQ r then g h.choose else Ku
def JS{ι:Type}(f:ι->gf R->Option R)(tr:MX->St->Option (Option ι))(i:ι)(K:gf R):Option R:=Y6 λn=>pW f tr n i K
abbrev zT{ι:Type}(f:ι->gf R->Option R)(tr:MX->St->Option (Option ι))(K:gf R):gf R:=λe S=>
 match tr e S with
 |none=>K e S
 |some Ku=>Ku
 |some (BQ j)=>JS f tr j K
def RE(G:GL):MX->St->Option (OT)
 |.normal,S=>BQ (lS nt G S)
 |_,_=>Ku
def TL(f:St->gf R->Option R)(G:GL)(xs:List TV):gf R->Option R:=f (hO G xs)
def HQ(f:St->gf R->Option R)(G:GL)(xs:List TV)(K:gf R):Option R:=JS (TL f G) (RE nt G) xs K
abbrev zn(f:St->gf R->Option R)(G:GL)(S:St)(K:gf R):Option R:=
 match lS nt G S with
 |some xs=>HQ nt f G xs K
 |none=>Ku
abbrev Ai(f:St->gf R->Option R)(G:GL)(K:gf R):gf R:=zT (TL f G) (RE nt G) K
abbrev Ev(R:Type):=Hint->St->gf R->Option R
def zo(l:Nat):List (Nat×GL)->Option GL
 |[]=>Ku
 |(k,G)::r=>cond (Nat.beq k l) (BQ G) (zo l r)
def II(ls:List (Nat×GL)):MX->St->Option (Option (Nat×List TV))
 |.goto l,S=>BQ (match zo l ls with
  |some G=>(lS nt G S).map λxs=>(l,xs)
  |none=>Ku)
 |_,_=>Ku
def Kg(f:Nat->Option (Ev R))(ls:List (Nat×GL))(a:Hint)(i:Nat×List TV)(K:gf R):Option R:=
 match f i.1,zo i.1 ls with
 |some g,BQ G=>g a (hO G i.2) K
 |_,_=>Ku
def F8(f:Nat->Option (Ev R))(ls:List (Nat×GL))(a:Hint)(i:Nat×List TV)(K:gf R):Option R:=JS (Kg f ls a) (II nt ls) i K
abbrev nL(f:Nat->Option (Ev R))(ls:List (Nat×GL))(a:Hint)(K:gf R):gf R:=zT (Kg f ls a) (II nt ls) K
abbrev AG(R:Type):=Ev R×(Nat->Option (Ev R))
abbrev gg(f:Ev R):AG R:=(f,λ_=>Ku)
abbrev K7(g b o:Ev R):Ev R:=λh S K=>match h with|.j G a c=>g a S (xA nt (o c) G K)|h=>g h.s1 S (IW (b h.s2) K)
abbrev Ax(fa fb:Nat->Option (Ev R))(b o:Ev R)(l:Nat):Option (Ev R):=match fa l with
 |some g=>BQ (K7 nt g b o)
 |none=>match fb l with
  |some g=>BQ λh=>g h.s2
  |none=>Ku
abbrev K6(fa fb:AG R)(o:Ev R):AG R:=(K7 nt fa.1 fb.1 o,Ax nt fa.2 fb.2 fb.1 o)
open Classical in
def both(x y:Option R):Option R:=if x=y then x else Ku
abbrev Il(x:Operand)(fa fb:AG R):AG R:=gg λh S K=>match ik E nt S 0 x with|some (.b t,.no)=>cond t (fa.1 h.s1 S K) (fb.1 h.s2 S K)|some (.ub e,.no)=>cond e (both (fa.1 h.s1 S K) (fb.1 h.s2 S K)) (fb.1 h.s2 S K)|_=>Ku
abbrev Qx(o:Ev R):AG R:=gg λh S K=>match h with|.l G a=>zn nt (o a) G S K|_=>Ku
abbrev B4(f:AG R)(o:Nat->Option (Ev R)):AG R:=gg λh S K=>match h with|.sc ls a=>f.1 a S (nL nt o ls a K)|_=>Ku
abbrev qz(l l':Nat):Option (Ev R):=cond (Nat.beq l l') (BQ λ_ S K=>K .normal S) Ku
abbrev GC(l:Nat):AG R:=(λ_ S K=>K .normal S,qz l)
def Kt(c:Code):AG R:=Code.rec (motive:=λ_=>AG R) (gg λ_ S K=>K .normal S) (λ_ ops draw=>gg λ_ S K=>B7 P E nt ops draw S (K .normal)) (λ_ _ fa fb=>K6 nt fa fb fb.1) (λx _ _ fa fb=>Il E nt x fa fb) (λid _ f=>gg λh S K=>f.1 h.s1 S (oR id K)) (λ_ f=>Qx nt f.1) (λ_ _ _ _ _ _=>gg λ_ _ _=>Ku) (λid=>gg λ_ S K=>K (.exit id) S) (λ_ f=>B4 nt f f.2) GC (λl=>gg λ_ S K=>K (.goto l) S) (gg λ_ S K=>K .ret S) (λ_=>gg λ_ _ _=>Ku) c
def qa(c:Code):Ev R:=(Kt P E nt c).1
def xM(c:Code):Nat->Option (Ev R):=(Kt P E nt c).2
def MJ(c:Code):AG R:=Code.rec (motive:=λ_=>AG R) (gg λ_ S K=>K .normal S) (λ_ ops draw=>gg λ_ S K=>B7 P E nt ops draw S (K .normal)) (λ_ d fa fb=>K6 nt fa fb (qa P E nt d)) (λx _ _ fa fb=>Il E nt x fa fb) (λid _ f=>gg λh S K=>f.1 h.s1 S (oR id K)) (λd _=>Qx nt (qa P E nt d)) (λ_ _ _ _ _ _=>gg λ_ _ _=>Ku) (λid=>gg λ_ S K=>K (.exit id) S) (λd f=>B4 nt f (xM P E nt d)) GC (λl=>gg λ_ S K=>K (.goto l) S) (gg λ_ S K=>K .ret S) (λ_=>gg λ_ _ _=>Ku) c
def ev(c:Code):Ev R:=(MJ P E nt c).1
def Mc (n:Nat) (ms:List Md) (xH:List TV):St:=fun k =>
 cond (Nat.blt k n) (match ms.getD k .pl with
  | .pl=>(xH.getD k .dead,.no)
  | .rf=>(.pt,.ptr (1000000+k) 0)
  | _=>(.pt,.fF (1000000+k)))
 (cond (Nat.ble 1000000 k&&Nat.blt k (1000000+n)) (match ms.getD (k - 1000000) .pl with
  | .pl=>(.dead,.no)
  | .rf=>(xH.getD (k - 1000000) .dead,.cl [])
  | _=>(xH.getD (k - 1000000) .dead,.pv)) (.dead,.no))
def z6(own:List Nat):Nat->List ResultVar->St->Option (List TV×St)
 |_,[],S=>BQ ([],S)
 |i,.tmp _::rs,S=>match z6 own (i+1) rs S with|some (xs,S)=>BQ (.dead::xs,S)|none=>Ku
 |i,.cell a t::rs,S=>gj (Nat.blt a nt&&!own.contains i) (match S a,lj P t with
  |(.pt,.ptr m o),BQ (n,agg)=>gj (agg||Nat.beq n 1) (match S m with
   |(.ag cs,.cl ts)=>match qV S o n ts cs with
    |some (cs,ws)=>match qg cs o n agg with
     |some x=>match z6 own (i+1) rs (gi S ws)with|some (xs,S)=>BQ (Vm x::xs,S)|none=>Ku
     |none=>Ku
    |none=>Ku
   |_=>Ku)
  |_,_=>Ku)
def Gi(own:List Nat):Nat->List ResultVar->GL
 |_,[]=>[]
 |i,.tmp t::rs=>cond (own.contains i) [(t,.fF (900000+i)),(900000+i,.pv)] [(t,.no)]++Gi own (i+1) rs
 |i,.cell _ _::rs=>Gi own (i+1) rs
def rW:Nat->List Md->GL
 |_,[]=>[]
 |k,.rf::ms=>(1000000+k,.cl [])::rW (k+1) ms
 |k,.sl::ms=>(1000000+k,.pv)::rW (k+1) ms
 |k,.sm::ms=>(1000000+k,.pv)::rW (k+1) ms
 |k,_::ms=>rW (k+1) ms
def wm(own:List Nat)(H:St):Nat->List ResultVar->List TV->List TV
 |i,.tmp t::rs,_::xs=>cond (own.contains i) (H (900000+i)).1 (H t).1::wm own H (i+1) rs xs
 |i,.cell _ _::rs,x::xs=>x::wm own H (i+1) rs xs
 |_,_,_=>[]
def vH(H:St):Nat->List Md->List TV
 |_,[]=>[]
 |k,.rf::ms=>(H (1000000+k)).1::vH H (k+1) ms
 |k,.sl::ms=>(H (1000000+k)).1::vH H (k+1) ms
 |k,_::ms=>vH H (k+1) ms
def sN(H:St):Nat->List Md->List TV
 |_,[]=>[]
 |k,.sm::ms=>(H (1000000+k)).1::sN H (k+1) ms
 |k,_::ms=>sN H (k+1) ms
def MQ(fn:Func)(sg:iB):GL:=Gi sg.own 0 fn.results.toList++rW 0 sg.md
def Jc(fn:Func)(sg:iB):Option ((Nat×TypeId)×Nat):=
 match fn.results.toList,sg.own with
 |[.cell a t],[j]=>cond (Nat.blt j 1000) Ku (BQ ((a,t),j -1000))
 |_,_=>Ku
def JZ(a m c:Nat)(sg:iB):GL:=(a,.ptr m 0)::(m,.cl [(c,900000)])::(900000,.pv)::rW 0 sg.md
def Wg(a:Nat)(t:TypeId)(c:Nat)(sg:iB)(S:St):OT:=
 match S a,lj P t with
 |(.pt,.ptr m 0),BQ (n,NS)=>match lS nt (JZ a m c sg) S with
  |some ys=>match hO (JZ a m c sg) ys m with|(.ag cs,_)=>gj (Nat.beq n cs.length&&Nat.blt a nt) (BQ (.ag (cs.set c (hO (JZ a m c sg) ys 900000).1)::(vH (hO (JZ a m c sg) ys) 0 sg.md++sN (hO (JZ a m c sg) ys) 0 sg.md)))|_=>Ku
  |none=>Ku
 |_,_=>Ku
def G2(fn:Func)(sg:iB)(S:St):OT:=
 match Jc fn sg with
 |some ((a,t),c)=>Wg P nt a t c sg S
 |none=>match z6 P nt sg.own 0 fn.results.toList S with
  |some (xs,S)=>match lS nt (MQ fn sg) S with|some ys=>BQ (wm sg.own (hO (MQ fn sg) ys) 0 fn.results.toList xs++vH (hO (MQ fn sg) ys) 0 sg.md++sN (hO (MQ fn sg) ys) 0 sg.md)|none=>Ku
  |none=>Ku
def To(fn:Func)(sg:iB):gf (List TV):=λe S=>
 match e with
 |.ret=>G2 P nt fn sg S
 |.normal=>G2 P nt fn sg S
 |_=>Ku
def EN(fn:Func)(sg:iB):Bool:=Nat.blt fn.ntmps 900000&&Nat.ble fn.params.size fn.ntmps&&Nat.ble sg.md.length fn.params.size&&Nat.beq sg.jE fn.results.size&&Nat.blt fn.results.size 1000&&((Jc fn sg).isSome||sg.own.all λi=>Nat.blt i sg.jE)&&pY sg.own&&!(fn.name== "runtime.NumGoroutine")
def oS:List Md->List TV->List TV
 |.sm::ms,x::xs=>x::oS ms xs
 |_::ms,_::xs=>oS ms xs
 |_,_=>[]
def b9(f:Nat)(sg:iB)(h:Hint)(ins:List TV):OT:=
 match P.funcs[f]? with
 |some fn=>match fn.body with|some c=>gj (EN fn sg&&Nat.beq ins.length fn.params.size) (ev P E fn.ntmps c h (Mc fn.params.size sg.md ins) (To P fn.ntmps fn sg))|none=>Ku
 |none=>Ku
end
section
variable{R:Type}(P:Program)(E:cE)(nt:Nat)
theorem MK(c:Code):Kt (R:=R) P E nt c=MJ P E nt c:=by
 induction c with
 |seq a b GK C4=>show K6 nt (Kt P E nt a) (Kt P E nt b) (Kt P E nt b).1=K6 nt (MJ P E nt a) (MJ P E nt b) (qa P E nt b);rw[<-GK,<-C4];rfl
 |cond x a b GK C4=>show Il E nt x (Kt P E nt a) (Kt P E nt b)=Il E nt x (MJ P E nt a) (MJ P E nt b);rw[GK,C4]
 |block id a ih=>show(gg λh S K=>(Kt P E nt a).1 h.s1 S (oR id K))=(gg λh S K=>(MJ P E nt a).1 h.s1 S (oR id K):AG R);rw[ih]
 |scope a ih=>show B4 nt (Kt P E nt a) (Kt P E nt a).2=B4 nt (MJ P E nt a) (xM P E nt a);rw[<-ih];rfl
 |_=>rfl
theorem Ib(c:Code):qa (R:=R) P E nt c=ev P E nt c:=by show(Kt P E nt c).1=(MJ P E nt c).1;rw[MK]
end
section
variable{R:Type}{nt:Nat}
abbrev vJ:=List (Option (MX×St))
def AH(l:vJ)(K:MX×St->Option R)(r:R):Prop:=∀q∈l,∃p,q=BQ p/\K p=BQ r
def Oq(K:gf R)(q:MX×St):Option R:=K q.1 q.2
def pj(g:gf R->Option R):Prop:=∃l:vJ,∀(K:gf R)(r:R),g K=BQ r↔AH l (Oq K) r
theorem pj.nil{g:gf R->Option R}(h:∀K,g K=Ku):pj g:=⟨[Ku],λK r=>by rw[h];exact⟨λh=>(by cases h),λh=>(by obtain⟨p,e,_⟩:=h Ku (List.mem_singleton.2 rfl);cases e)⟩⟩
theorem pj.one{g:gf R->Option R}(e:MX)(S:St)(h:∀K,g K=K e S):pj g:=⟨[BQ (e,S)],λK r=>by rw[h];exact⟨λh q hq=>⟨_,List.mem_singleton.1 hq,h⟩,λh=>by obtain⟨p,e,h⟩:=h _ (List.mem_singleton.2 rfl);cases e;exact h⟩⟩
theorem xc{x y:Option R}{r:R}:both x y=BQ r↔x=BQ r/\y=BQ r:=by unfold both;split;{rename_i e;rw[<-e];simp};{rename_i e;simp only[reduceCtorEq,false_iff];rintro⟨rfl,rfl⟩;exact e rfl}
theorem Ke(x:Option R):both x x=x:=by simp[both]
theorem pj.bind{l:vJ}{g:gf R->Option R}{F:gf R->MX×St->Option R}(hF:∀q,pj λK=>F K q)(h:∀K r,g K=BQ r↔AH l (F K) r):pj g:=by
 have key:∀l:vJ,∃l':vJ,∀K r,AH l (F K) r↔AH l' (Oq K) r:=by
  intro l;induction l with
  |nil=>exact⟨[],λK r=>by simp[AH]⟩
  |cons q t ih=>
   obtain⟨lt,ht⟩:=ih;cases q with
   |none=>exact⟨[Ku],λK r=>⟨λh=>(by obtain⟨p,e,_⟩:=h Ku (List.mem_cons_self ..);cases e),λh=>(by obtain⟨p,e,_⟩:=h Ku (List.mem_singleton.2 rfl);cases e)⟩⟩
   |some q=>obtain⟨lq,hq⟩:=hF q;refine⟨lq++lt,λK r=>?_⟩;have h1:=hq K r;have h2:=ht K r;constructor;{intro ha x hx;rcases List.mem_append.1 hx with hx|hx;{obtain⟨p,e,hp⟩:=ha _ (List.mem_cons_self ..);cases e;exact h1.1 hp x hx};{exact h2.1 (λy hy=>ha y (List.mem_cons_of_mem _ hy)) x hx}};{intro ha x hx;rcases aQ.1 hx with rfl|hx;{exact⟨q,rfl,h1.2 λy hy=>ha y (List.mem_append_left _ hy)⟩};{exact h2.2 (λy hy=>ha y (List.mem_append_right _ hy)) x hx}}
 obtain⟨l',hl⟩:=key l;exact⟨l',λK r=>(h K r).trans (hl K r)⟩
def BR(f:St->gf R->Option R):Prop:=∀S,pj (f S)
theorem zq{g:Nat->Option R}(hm:∀n r,g n=BQ r->g (n+1)=BQ r){r:R}:Y6 g=BQ r↔∃n,g n=BQ r:=by
 have up:∀n k r,g n=BQ r->g (n+k)=BQ r:=by
  intro n k;induction k with
  |zero=>exact λr h=>h
  |succ k ih=>exact λr h=>hm _ _ (ih r h)
 unfold Y6;constructor;{intro h;split at h;{rename_i hx;exact⟨_,h⟩};{cases h}};{rintro⟨n,hn⟩;have hx:∃n r,g n=BQ r:=⟨n,r,hn⟩;rw[dif_pos hx];obtain⟨r',Kn⟩:=hx.choose_spec;rw[Kn];have h1:=up _ n _ Kn;have h2:=up _ hx.choose _ hn;rw[Nat.add_comm]at h2;rw[h1]at h2;exact h2}
section
variable{ι:Type}{f:ι->gf R->Option R}{tr:MX->St->Option (Option ι)}
def vi(tr:MX->St->Option (Option ι))(g:ι->Option R)(K:gf R)(q:MX×St):Option R:=
 match tr q.1 q.2 with
 |none=>K q.1 q.2
 |some Ku=>Ku
 |some (BQ j)=>g j
theorem ur{g g':ι->Option R}{K:gf R}{q:MX×St}{r:R}(h:∀j,g j=BQ r->g' j=BQ r)(e:vi tr g K q=BQ r):vi tr g' K q=BQ r:=by unfold vi at e⊢;split at e;{exact e};{cases e};{exact h _ e}
theorem yi{K:gf R}{i:ι}{l:vJ}(hp:∀(K:gf R)r,f i K=BQ r↔AH l (Oq K) r)(n:Nat)(r:R):pW f tr (n+1) i K=BQ r↔AH l (vi tr (λj=>pW f tr n j K) K) r:=by rw[pW,hp];rfl
theorem qT(hf:∀i,pj (f i)){K:gf R}:∀(n:Nat)(i:ι)(r:R),pW f tr n i K=BQ r->pW f tr (n+1) i K=BQ r
 |0,_,_,h=>by cases h
 |n+1,i,r,h=>by obtain⟨l,hp⟩:=hf i;rw[yi hp]at h⊢;intro q hq;obtain⟨p,e,h1⟩:=h q hq;exact⟨p,e,ur (λj hj=>qT hf n j r hj) h1⟩
theorem yg(hf:∀i,pj (f i)){K:gf R}{n:Nat}{i:ι}{r:R}(h:pW f tr n i K=BQ r):∀m,pW f tr (n+m) i K=BQ r
 |0=>h
 |m+1=>qT hf _ i r (yg hf h m)
theorem px(hf:∀i,pj (f i))(i:ι)(K:gf R)(r:R):JS f tr i K=BQ r↔∃n,pW f tr n i K=BQ r:=zq λn r=>qT hf n i r
theorem O2{x y:Option R}(h:∀r,x=BQ r↔y=BQ r):x=y:=by
 cases x with
 |none=>cases y with|none=>rfl|some b=>exact absurd ((h b).2 rfl) (by simp)
 |some a=>exact((h a).1 rfl).symm
theorem Bn(hf:∀i,pj (f i)){K:gf R}{q:MX×St}{r:R}:Oq (zT f tr K) q=BQ r↔∃n,vi tr (λj=>pW f tr n j K) K q=BQ r:=by
 unfold Oq zT vi;cases tr q.1 q.2 with
 |none=>exact⟨λh=>⟨0,h⟩,λ⟨_,h⟩=>h⟩
 |some j=>cases j with
  |none=>exact⟨λh=>(by cases h),λ⟨_,h⟩=>(by cases h)⟩
  |some j=>exact px hf j K r
theorem H8(hf:∀i,pj (f i))(i:ι)(K:gf R):JS f tr i K=f i (zT f tr K):=by
 obtain⟨l,hp⟩:=hf i;refine O2 λr=>?_;rw[px hf,hp];constructor
 ·rintro⟨n,hn⟩ q hq;cases n with
  |zero=>cases hn
  |succ n=>obtain⟨p,e,h1⟩:=(yi hp n r).1 hn q hq;exact⟨p,e,(Bn hf).2 ⟨n,h1⟩⟩
 ·intro h;have key:∀l:vJ,(∀q∈l,∃p,q=BQ p/\Oq (zT f tr K) p=BQ r)->∃n,AH l (vi tr (λj=>pW f tr n j K) K) r:=by
   intro l;induction l with
   |nil=>exact λ_=>⟨0,λq hq=>by cases hq⟩
   |cons q t ih=>intro h;obtain⟨n,hn⟩:=ih λx hx=>h x (List.mem_cons_of_mem _ hx);obtain⟨p,e,h1⟩:=h q (List.mem_cons_self ..);obtain⟨m,hm⟩:=(Bn hf).1 h1;refine⟨n+m,λx hx=>?_⟩;rcases aQ.1 hx with rfl|hx;{exact⟨p,e,ur (λj hj=>by rw[Nat.add_comm];exact yg hf hj n) hm⟩};{obtain⟨p',e',h2⟩:=hn x hx;exact⟨p',e',ur (λj hj=>yg hf hj m) h2⟩}
  obtain⟨n,hn⟩:=key l h;exact⟨n+1,(yi hp n r).2 hn⟩
def oB(L:ι->vJ)(tr:MX->St->Option (Option ι)):Nat->ι->vJ
 |0,_=>[Ku]
 |n+1,i=>(L i).flatMap λq=>match q with|none=>[Ku]|some p=>match tr p.1 p.2 with|none=>[BQ p]|some Ku=>[Ku]|some (BQ j)=>oB L tr n j
theorem EF(hf:∀i,pj (f i))(i:ι):pj (JS f tr i):=by
 let L:=λi=>(hf i).choose;have hL:∀i(K:gf R)r,f i K=BQ r↔AH (L i) (Oq K) r:=λi=>(hf i).choose_spec;have hI:∀n i(K:gf R)r,pW f tr n i K=BQ r↔AH (oB L tr n i) (Oq K) r:=by
  intro n;induction n with
  |zero=>exact λi K r=>⟨λh=>(by cases h),λh=>by obtain⟨p,e,_⟩:=h Ku (List.mem_singleton.2 rfl);cases e⟩
  |succ n ih=>
   intro i K r;rw[yi (hL i)];constructor
   ·intro h q hq;obtain⟨x,hx,hq⟩:=List.mem_flatMap.1 hq;obtain⟨p,rfl,h1⟩:=h x hx;simp only at hq;unfold vi at h1;cases e:tr p.1 p.2 with
    |none=>rw[e]at h1 hq;exact⟨p,List.mem_singleton.1 hq,h1⟩
    |some j=>cases j with
     |none=>rw[e]at h1;cases h1
     |some j=>rw[e]at h1 hq;exact(ih j K r).1 h1 q hq
   ·intro h x hx;have sub:∀q,q∈(match x with
      |none=>[Ku]
      |some p=>match tr p.1 p.2 with
       |none=>[BQ p]
       |some Ku=>[Ku]
       |some (BQ j)=>oB L tr n j:vJ)->∃p,q=BQ p/\Oq K p=BQ r:=λq hq=>h q (List.mem_flatMap.2 ⟨x,hx,hq⟩)
    cases x with
    |none=>obtain⟨p,e,_⟩:=sub Ku (List.mem_singleton.2 rfl);cases e
    |some p=>
     refine⟨p,rfl,?_⟩;simp only at sub;unfold vi;cases e:tr p.1 p.2 with
     |none=>rw[e]at sub;obtain⟨p',e',h1⟩:=sub _ (List.mem_singleton.2 rfl);cases e';exact h1
     |some j=>cases j with
      |none=>rw[e]at sub;obtain⟨p',e',_⟩:=sub _ (List.mem_singleton.2 rfl);cases e'
      |some j=>rw[e]at sub;exact(ih j K r).2 sub
 have stay:∀n i,Ku∉oB L tr n i->oB L tr (n+1) i=oB L tr n i:=by
  intro n;induction n with
  |zero=>intro i h;exact absurd (List.mem_singleton.2 rfl) h
  |succ n ih=>
   intro i h;rw[oB,oB];rw[oB]at h;have:∀l:vJ,Ku∉(l.flatMap λq=>match q with
     |none=>[Ku]
     |some p=>match tr p.1 p.2 with|none=>[BQ p]|some Ku=>[Ku]|some (BQ j)=>oB L tr n j:vJ)->(l.flatMap λq=>match q with
     |none=>[Ku]
     |some p=>match tr p.1 p.2 with|none=>[BQ p]|some Ku=>[Ku]|some (BQ j)=>oB L tr (n+1) j:vJ)=(l.flatMap λq=>match q with
     |none=>[Ku]
     |some p=>match tr p.1 p.2 with
      |none=>[BQ p]
      |some Ku=>[Ku]
      |some (BQ j)=>oB L tr n j:vJ):=by
    intro l
    induction l with
    |nil=>exact λ_=>rfl
    |cons q t iht=>intro h;rw[List.flatMap_cons,List.mem_append]at h;rw[List.flatMap_cons,List.flatMap_cons,iht λhx=>h (.inr hx)];congr 1;split;{rfl};{rename_i p;simp only at h;split;{rfl};{rfl};{rename_i j e;rw[e]at h;exact ih j λhx=>h (.inl hx)}}
   exact this _ h
 by_cases hx:∃n,Ku∉oB L tr n i
 ·obtain⟨n,hn⟩:=hx;have ups:∀m,oB L tr (n+m) i=oB L tr n i:=by
   intro m;induction m with
   |zero=>rfl
   |succ m ih=>rw[<-ih];exact stay (n+m) i (by rw[ih];exact hn)
  refine⟨oB L tr n i,λK r=>?_⟩;rw[px hf,<-hI];refine⟨λ⟨m,hm⟩=>?_,λh=>⟨n,h⟩⟩;have h1:=yg hf hm n;rw[Nat.add_comm,hI,ups,<-hI]at h1;exact h1
 {refine⟨[Ku],λK r=>?_⟩;rw[px hf];refine⟨λ⟨n,hn⟩=>?_,λh=>by obtain⟨p,e,_⟩:=h Ku (List.mem_singleton.2 rfl);cases e⟩;have:Ku∈oB L tr n i:=Classical.byContradiction λh=>hx ⟨n,h⟩;obtain⟨p,e,_⟩:=(hI n i K r).1 hn Ku this;cases e}
end
theorem yp{f:St->gf R->Option R}(hf:BR f)(G:GL):∀xs,pj (TL f G xs):=λxs=>hf (hO G xs)
theorem LN{f:St->gf R->Option R}(hf:BR f)(G:GL)(xs:List TV)(K:gf R):HQ nt f G xs K=f (hO G xs) (Ai nt f G K):=H8 (yp hf G) xs K
theorem Jt{f:St->gf R->Option R}(hf:BR f)(G:GL):BR (zn nt f G):=λS=>by
 unfold zn;cases lS nt G S with
 |none=>exact .nil λK=>rfl
 |some xs=>exact EF (yp hf G) xs
theorem yo{f:Nat->Option (Ev R)}(hf:∀l g,f l=BQ g->∀h,BR (g h))(ls:List (Nat×GL))(a:Hint)(i:Nat×List TV):pj (Kg f ls a i):=by
 cases e1:f i.1 with
 |none=>exact .nil λK=>by simp only[Kg,e1]
 |some g=>
  cases e2:zo i.1 ls with
  |none=>exact .nil λK=>by simp only[Kg,e1,e2]
  |some G=>obtain⟨p,hp⟩:=hf _ g e1 a (hO G i.2);exact⟨p,λK r=>by simp only[Kg,e1,e2];exact hp K r⟩
theorem IX{f:Nat->Option (Ev R)}(hf:∀l g,f l=BQ g->∀h,BR (g h))(ls:List (Nat×GL))(a:Hint)(i:Nat×List TV)(K:gf R):F8 nt f ls a i K=Kg f ls a i (nL nt f ls a K):=H8 (yo hf ls a) i K
theorem pj.then{g g':gf R->Option R}(hf:pj g)(F:gf R->gf R)(h:∀K,g' K=g (F K))(hF:∀e S,pj λK=>F K e S):pj g':=by obtain⟨l,hl⟩:=hf;exact pj.bind (F:=λK q=>F K q.1 q.2) (λq=>hF q.1 q.2) λK r=>by rw[h];exact hl (F K) r
theorem F9 {f:Ev R} {o:Nat→Option (Ev R)} (hf:∀h,BR (f h)) (ho:∀l g,o l=BQ g→∀h,BR (g h)) (ls:List (Nat × GL)) (a:Hint):BR fun S K=>f a S (nL nt o ls a K):=fun S =>
 (hf a S).then _ (fun K=>rfl) fun e S'=>by
  cases ht:II nt ls e S' with
  | none=>exact .one e S' fun K=>by simp only [nL,zT,ht]
  | some j =>
   cases j with
   | none=>exact .nil fun K=>by simp only [nL,zT,ht]
   | some j =>
    obtain ⟨p',SH⟩:=EF (yo ho ls a) (tr:=II nt ls) j
    exact ⟨p',fun K r=>by simp only [nL,zT,ht];exact SH K r⟩
theorem DG {f g:St→gf R→Option R} (hf:BR f) (hg:BR g):BR fun S K=>f S (IW g K):=fun S =>
 (hf S).then _ (fun K=>rfl) fun e S'=>by
  cases e with
  | normal=>exact hg S'
  | _=>exact .one _ S' fun K=>rfl
theorem Bi {f g:St→gf R→Option R} (hf:BR f) (hg:BR g) (G:GL):BR fun S K=>f S (xA nt g G K):=fun S =>
 (hf S).then _ (fun K=>rfl) fun e S'=>by
  cases e with
  | normal =>
   cases hr:lS nt G S' with
   | none=>exact .nil fun K=>by simp only [xA,hr]
   | some xs =>
    obtain ⟨p,hp⟩:=hg (hO G xs)
    exact ⟨p,fun K r=>by simp only [xA,hr];exact hp K r⟩
  | _=>exact .one _ S' fun K=>rfl
theorem Hd {f:St→gf R→Option R} (hf:BR f) (id:Nat):BR fun S K=>f S (oR id K):=fun S =>
 (hf S).then _ (fun K=>rfl) fun e S'=>by
  cases e with
  | exit j =>
   cases hb:Nat.beq j id with
   | true=>exact .one .normal S' fun K=>by simp only [oR,hb]
   | false=>exact .one (.exit j) S' fun K=>by simp only [oR,hb]
  | _=>exact .one _ S' fun K=>rfl
variable(P:Program)(E:cE)
theorem Im{X:Type}{p:Option Bool}{f:(X->Option R)->Option R}(h:∃q:Option X,∀K,f K=q.bind K):∃q:Option X,∀K,PX p (f K)=q.bind K:=by
 obtain⟨q,hq⟩:=h;cases p with
 |none=>exact⟨q,hq⟩
 |some b=>cases b with|true=>exact⟨q,hq⟩|false=>exact⟨Ku,λK=>rfl⟩
theorem DK(ops:Array Oper):∀(os:List Oper)(S:St),∃p:Option St,∀K:St->Option R,I0 P E nt ops os S K=p.bind K
 |[],S=>⟨BQ S,λK=>rfl⟩
 |o::os,S=>by
  show∃p:Option St,∀K:St->Option R,(match qI P E nt ops o S with|some e=>PX e.p (I0 P E nt ops os (kp S o.dst e) K)|none=>Ku)=p.bind K;cases qI P E nt ops o S with
  |none=>exact⟨Ku,λK=>rfl⟩
  |some e=>exact Im (DK ops os _)
theorem DL(ops:Array Oper)(W B:List (List Nat)):∀(os:List Oper)(i:Nat)(S:St),∃p:Option St,∀K:St->Option R,I2 P E nt ops W B i os S K=p.bind K
 |[],_,S=>⟨BQ S,λK=>rfl⟩
 |o::os,i,S=>by
  show∃p:Option St,∀K:St->Option R,(match qI P E nt ops o (tV (wy W B i) S)with|some e=>gj (oG (np o.dst e=W.getD i [])&&(wy W B i).all λk=>!((W.getD i []).contains k)) (PX e.p (I2 P E nt ops W B (i+1) os (kp S o.dst e) K))|none=>Ku)=p.bind K;cases qI P E nt ops o (tV (wy W B i) S)with
  |none=>exact⟨Ku,λK=>rfl⟩
  |some e=>
   simp only;generalize(oG (np o.dst e=W.getD i [])&&(wy W B i).all λk=>!((W.getD i []).contains k))=b;cases b with
   |false=>exact⟨Ku,λK=>rfl⟩
   |true=>exact Im (DL ops W B os (i+1) _)
theorem DJ(ops:Array Oper)(draw:Bool)(S:St):∃p:Option St,∀K:St->Option R,B7 P E nt ops draw S K=p.bind K:=by
 cases draw with
 |false=>exact DK P E ops _ S
 |true=>
  simp only[B7];cases yj ops.toList with
  |false=>exact⟨Ku,λK=>rfl⟩
  |true=>
   cases L2 P E nt ops ops.toList S with
   |none=>exact⟨Ku,λK=>rfl⟩
   |some W=>exact DL P E ops W _ _ 0 S
theorem tx(c:Code):(∀h,BR (qa (R:=R) P E nt c h))/\∀l g,xM (R:=R) P E nt c l=BQ g->∀h,BR (g h):=by
 have xZ:∀{f:Ev R},∀l g,(gg f).2 l=BQ g->∀h,BR (g h):=λl g e=>by{cases e};induction c with
 |skip=>exact⟨λh S=>.one .normal S λK=>rfl,xZ⟩
 |label l=>
  refine⟨λh S=>.one .normal S λK=>rfl,λl' g e=>?_⟩;have e:qz l l'=BQ g:=e;unfold qz at e;cases hb:Nat.beq l l' with
  |true=>rw[hb]at e;cases e;exact λh S=>.one .normal S λK=>rfl
  |false=>rw[hb]at e;cases e
 |exit id=>exact⟨λh S=>.one (.exit id) S λK=>rfl,xZ⟩
 |goto l=>exact⟨λh S=>.one (.goto l) S λK=>rfl,xZ⟩
 |ret=>exact⟨λh S=>.one .ret S λK=>rfl,xZ⟩
 |region id ops draw=>
  refine⟨λh S=>?_,xZ⟩;obtain⟨p,hp⟩:=DJ (R:=R) P E (nt:=nt) ops draw S;cases p with
  |none=>exact .nil λK=>hp _
  |some S'=>exact .one .normal S' λK=>hp _
 |seq a b GK C4=>refine⟨λh=>?_,λl g e=>?_⟩;{cases h<;>first|exact DG (GK.1 _) (C4.1 _)|exact Bi (GK.1 _) (C4.1 _) _};{have e:Ax nt (xM P E nt a) (xM P E nt b) (qa P E nt b) (qa P E nt b) l=BQ g:=e;unfold Ax at e;split at e;{rename_i ga ea;cases e;intro h;cases h<;>first|exact DG (GK.2 l ga ea _) (C4.1 _)|exact Bi (GK.2 l ga ea _) (C4.1 _) _};{split at e;{rename_i gb eb;cases e;exact λh=>C4.2 l gb eb _};{cases e}}}
 |cond x a b GK C4=>
  refine⟨λh S=>?_,xZ⟩;obtain⟨p,hp⟩:=GK.1 h.s1 S;obtain⟨p',SH⟩:=C4.1 h.s2 S;have two:pj (R:=R) λK=>both (qa P E nt a h.s1 S K) (qa P E nt b h.s2 S K):=by{refine⟨p++p',λK r=>?_⟩;rw[xc,hp,SH];refine⟨λ⟨h1,h2⟩q hq=>(List.mem_append.1 hq).elim (h1 q) (h2 q),λh=>⟨λq hq=>h q (List.mem_append_left _ hq),λq hq=>h q (List.mem_append_right _ hq)⟩⟩};show pj λK:gf R=>(match ik E nt S 0 x with|some (.b t,.no)=>cond t (qa P E nt a h.s1 S K) (qa P E nt b h.s2 S K)|some (.ub e,.no)=>cond e (both (qa P E nt a h.s1 S K) (qa P E nt b h.s2 S K)) (qa P E nt b h.s2 S K)|_=>Ku);split
  ·rename_i t _;cases t with
   |true=>exact⟨p,hp⟩
   |false=>exact⟨p',SH⟩
  ·rename_i t _;cases t with
   |true=>exact two
   |false=>exact⟨p',SH⟩
  {exact .nil λK=>rfl}
 |block id a ih=>exact⟨λh=>Hd (ih.1 _) id,xZ⟩
 |loop a ih=>refine⟨λh=>?_,xZ⟩;cases h<;>first|exact Jt (ih.1 _) _|exact λS=>.nil λK=>rfl
 |rangeFunc _ _ _ _ _ _=>exact⟨λh S=>.nil λK=>rfl,xZ⟩
 |scope a ih=>refine⟨λh=>?_,xZ⟩;cases h<;>first|exact F9 ih.1 ih.2 _ _|exact λS=>.nil λK=>rfl
 |refuse _=>exact⟨λh S=>.nil λK=>rfl,xZ⟩
theorem PK(c:Code)(h:Hint)(G:GL)(xs:List TV)(K:gf R):HQ nt (qa P E nt c h) G xs K=ev P E nt c h (hO G xs) (Ai nt (qa P E nt c h) G K):=by rw[LN ((tx P E c).1 h),Ib]
theorem MI(c:Code)(ls:List (Nat×GL))(a:Hint)(i:Nat×List TV)(K:gf R):F8 nt (xM P E nt c) ls a i K=Kg (MJ P E nt c).2 ls a i (nL nt (xM P E nt c) ls a K):=by rw[IX (tx P E c).2,<-MK];rfl
end
def bits:Nat->Nat->List Bool
 |0,_=>[]
 |f+1,n=>cond (Nat.ble n 1) [] (Nat.beq (n%2) 1::bits f (n/2))
section
variable{R:Type}(P:Program)(E:cE)(nt:Nat)
def walk:List Bool->Code->Hint->gf R->Code×Hint×gf R
 |[],c,h,K=>(c,h,K)
 |false::p,.seq a b,.j G h1 h2,K=>walk p a h1 (xA nt (qa P E nt b h2) G K)
 |true::p,.seq _ b,.j _ _ h2,K=>walk p b h2 K
 |false::p,.seq a b,h,K=>walk p a h.s1 (IW (ev P E nt b h.s2) K)
 |true::p,.seq _ b,h,K=>walk p b h.s2 K
 |false::p,.cond _ a _,h,K=>walk p a h.s1 K
 |true::p,.cond _ _ b,h,K=>walk p b h.s2 K
 |_::p,.block id a,h,K=>walk p a h.s1 (oR id K)
 |_::p,.loop a,.l G h,K=>walk p a h (Ai nt (qa P E nt a h) G K)
 |_::p,.scope a,.sc ls h,K=>walk p a h (nL nt (xM P E nt a) ls h K)
 |_::_,_,_,_=>(.skip,.o,λ_ _=>Ku)
end
def Qv(P:Program)(E:cE)(f:Nat)(sg:iB)(h:Hint)(p:Nat):Nat×Code×Hint×gf (List TV):=
 match P.funcs[f]? with
 |some fn=>match fn.body with|some c=>(fn.ntmps,walk P E fn.ntmps (bits 500 p) c h (To P fn.ntmps fn sg))|none=>(0,.skip,.o,λ_ _=>Ku)
 |none=>(0,.skip,.o,λ_ _=>Ku)
def df(P:Program)(E:cE)(f:Nat)(sg:iB)(h:Hint)(p:Nat)(xs:List TV):OT:=
 match Qv P E f sg h p with
 |(nt,.seq _ b,.j G _ h2,K)=>qa P E nt b h2 (hO G xs) K
 |_=>Ku
def cM(P:Program)(E:cE)(f:Nat)(sg:iB)(h:Hint)(p:Nat)(xs:List TV):OT:=
 match Qv P E f sg h p with
 |(nt,.loop a,.l G h1,K)=>HQ nt (qa P E nt a h1) G xs K
 |_=>Ku
def Cp(P:Program)(E:cE)(f:Nat)(sg:iB)(h:Hint)(p l:Nat)(xs:List TV):OT:=
 match Qv P E f sg h p with
 |(nt,.scope a,.sc ls h1,K)=>F8 nt (xM P E nt a) ls h1 (l,xs) K
 |_=>Ku
def oA(P:Program)(E:cE)(f:Nat)(sg:iB)(h:Hint)(p:Nat)(xs:List TV):df P E f sg h p xs=match Qv P E f sg h p with
  |(nt,.seq _ b,.j G _ h2,K)=>ev P E nt b h2 (hO G xs) K
  |_=>Ku:=by
 unfold df
 split
 {rw[Ib]}
 {rfl}
def sJ(P:Program)(E:cE)(f:Nat)(sg:iB)(h:Hint)(p:Nat)(xs:List TV):cM P E f sg h p xs=match Qv P E f sg h p with
  |(nt,.loop a,.l G h1,K)=>ev P E nt a h1 (hO G xs) (Ai nt (qa P E nt a h1) G K)
  |_=>Ku:=by
 unfold cM
 split
 {rw[PK]}
 {rfl}
def Bh(P:Program)(E:cE)(f:Nat)(sg:iB)(h:Hint)(p l:Nat)(xs:List TV):Cp P E f sg h p l xs=match Qv P E f sg h p with
  |(nt,.scope a,.sc ls h1,K)=>Kg (MJ P E nt a).2 ls h1 (l,xs) (nL nt (xM P E nt a) ls h1 K)
  |_=>Ku:=by
 unfold Cp
 split
 {rw[MI]}
 {rfl}
def lH{P:Program}{E:cE}{f:Nat}{sg:iB}{h:Hint}{p:Nat}{xs:List TV}{x y:OT}(a:(match Qv P E f sg h p with
  |(nt,.seq _ b,.j G _ h2,K)=>ev P E nt b h2 (hO G xs) K
  |_=>Ku)=x)(b:x=y):df P E f sg h p xs=y:=(oA P E f sg h p xs).trans (a.trans b)
def jx{P:Program}{E:cE}{f:Nat}{sg:iB}{h:Hint}{p:Nat}{xs:List TV}{x y:OT}(a:(match Qv P E f sg h p with
  |(nt,.loop a,.l G h1,K)=>ev P E nt a h1 (hO G xs) (Ai nt (qa P E nt a h1) G K)
  |_=>Ku)=x)(b:x=y):cM P E f sg h p xs=y:=(sJ P E f sg h p xs).trans (a.trans b)
def mf{xO:Type}{e1:xO}{P:xO->Prop}(K:∀v1,v1=e1->P v1):P e1:=K _ rfl
def lY{xO Db:Type}{e1:xO}{e2:xO->Db}{P:xO->Db->Prop}(K:∀v1,v1=e1->∀v2,v2=e2 v1->P v1 v2):P e1 (e2 e1):=K _ rfl _ rfl
def po{xO Db Kv:Type}{e1:xO}{e2:xO->Db}{e3:xO->Db->Kv}{P:xO->Db->Kv->Prop}(K:∀v1,v1=e1->∀v2,v2=e2 v1->∀v3,v3=e3 v1 v2->P v1 v2 v3):P e1 (e2 e1) (e3 e1 (e2 e1)):=K _ rfl _ rfl _ rfl
def qS{xO Db Kv T2:Type}{e1:xO}{e2:xO->Db}{e3:xO->Db->Kv}{e4:xO->Db->Kv->T2}{P:xO->Db->Kv->T2->Prop}(K:∀v1,v1=e1->∀v2,v2=e2 v1->∀v3,v3=e3 v1 v2->∀v4,v4=e4 v1 v2 v3->P v1 v2 v3 v4):P e1 (e2 e1) (e3 e1 (e2 e1)) (e4 e1 (e2 e1) (e3 e1 (e2 e1))):=K _ rfl _ rfl _ rfl _ rfl
def gH{xO Db Kv T2 α5:Type}{e1:xO}{e2:xO->Db}{e3:xO->Db->Kv}{e4:xO->Db->Kv->T2}{e5:xO->Db->Kv->T2->α5}{P:xO->Db->Kv->T2->α5->Prop}(K:∀v1,v1=e1->∀v2,v2=e2 v1->∀v3,v3=e3 v1 v2->∀v4,v4=e4 v1 v2 v3->∀v5,v5=e5 v1 v2 v3 v4->P v1 v2 v3 v4 v5):P e1 (e2 e1) (e3 e1 (e2 e1)) (e4 e1 (e2 e1) (e3 e1 (e2 e1))) (e5 e1 (e2 e1) (e3 e1 (e2 e1)) (e4 e1 (e2 e1) (e3 e1 (e2 e1)))):=K _ rfl _ rfl _ rfl _ rfl _ rfl
open Go.RowKit
def TV.val:TV->Option Value
 |.u8 n=>BQ (.int .u8 n.toNat)
 |.u16 n=>BQ (.int .u16 n.toNat)
 |.u32 n=>BQ (.int .u32 n.toNat)
 |.u64 n=>BQ (.int .u64 n.toNat)
 |.i k n=>BQ (.int k n)
 |.b x=>BQ (.bool x)
 |.s l=>BQ (.string ⟨⟨l⟩⟩)
 |.c v=>BQ v
 |_=>Ku
abbrev Reach:=Nat->Nat->Prop
mutual
inductive Rep (R:Reach) (w:World):TV->Value->Prop
 |sc {x:TV} {v:Value}:x.val=BQ v->Rep R w x v
 |ag {cs:List TV} {ys:List Value}:dR R w cs ys->Rep R w (.ag cs) (.agg ⟨ys⟩)
 |tu {vs:List TV} {ys:List Value}:jy R w vs ys->Rep R w (.tu vs) (.tuple ⟨ys⟩)
 |nl (t:fE):Rep R w (.nl t) (.slice Ku 0 0)
 |ub {e b:Bool}:(b=NS->e=NS)->Rep R w (.ub e) (.bool b)
 |sn (t:fE):Rep R w (.sl t []) (.slice Ku 0 0)
 |sl {t:fE} {l:List t.El} {b off n cap:Nat}:n=l.length->n<=cap->cap<=maxLen->mP R w t.size (l.map t.tv) b off->Rep R w (.sl t l) (.slice (BQ ⟨b,off,Ku⟩) n cap)
 |em {a:Addr} {cap:Nat} (t:fE):cap<=maxLen->Rep R w (.sl t []) (.slice (BQ a) 0 cap)
 |ro {x:TV} {b off s:Nat}:o7 R w s x b off->Rep R w (.ro x) (.pointer (BQ ⟨b,off,Ku⟩))
 |pt (y:Value):Rep R w .pt y
 |dead (y:Value):Rep R w .dead y
 |Um {x:TV} {y:Value}:Rep R w x y->Rep R w (.gd NS x) y
 |We (x:TV):Rep R w (.gd NT x) undef
inductive dR (R:Reach) (w:World):List TV->List Value->Prop
 |nil:dR R w [] []
 |cons {x:TV} {y:Value} {xs:List TV} {ys:List Value}:y.oneCell'=NS->Rep R w x y->dR R w xs ys->dR R w (x::xs) (y::ys)
inductive jy (R:Reach) (w:World):List TV->List Value->Prop
 |nil:jy R w [] []
 |cons {x:TV} {y:Value} {xs:List TV} {ys:List Value}:Rep R w x y->jy R w xs ys->jy R w (x::xs) (y::ys)
inductive ph (R:Reach) (w:World):List TV->Nat->Nat->Prop
 |nil (b off:Nat):ph R w [] b off
 |cons {x:TV} {y:Value} {xs:List TV} {b off:Nat}:R b off->w.cell? ⟨b,off,Ku⟩=BQ y->y.oneCell'=NS->Rep R w x y->ph R w xs b (off+1)->ph R w (x::xs) b off
inductive o7 (R:Reach) (w:World):Nat->TV->Nat->Nat->Prop
 |ag {cs:List TV} {b off s:Nat}:s=cs.length->ph R w cs b off->o7 R w s (.ag cs) b off
 |one {x:TV} {y:Value} {b off:Nat}:x.xK=NT->R b off->w.cell? ⟨b,off,Ku⟩=BQ y->y.oneCell'=NS->Rep R w x y->o7 R w 1 x b off
inductive mP (R:Reach) (w:World):Nat->List TV->Nat->Nat->Prop
 |nil (s b off:Nat):mP R w s [] b off
 |cons {s:Nat} {x:TV} {xs:List TV} {b off:Nat}:o7 R w s x b off->mP R w s xs b (off+s)->mP R w s (x::xs) b off
end
def fq(R:Reach)(w:World)(R':Reach)(w':World):Prop:=∀b o,R b o->R' b o/\w'.cell? ⟨b,o,Ku⟩=w.cell? ⟨b,o,Ku⟩
def fq.refl(R:Reach)(w:World):fq R w R w:=λ_ _ h=>⟨h,rfl⟩
def fq.trans{R R' WV:Reach}{w w' w'':World}(h:fq R w R' w')(k:fq R' w' WV w''):fq R w WV w'':=λb o hr=>⟨(k b o (h b o hr).1).1,(k b o (h b o hr).1).2.trans (h b o hr).2⟩
section
variable{R R':Reach}{w w':World}
mutual
theorem Rep.mono(k:fq R w R' w'):∀{x:TV}{y:Value},Rep R w x y->Rep R' w' x y
 |_,_,.sc h=>.sc h
 |_,_,.ag h=>.ag (dR.mono k h)
 |_,_,.tu h=>.tu (jy.mono k h)
 |_,_,.nl t=>.nl t
 |_,_,.ub h=>.ub h
 |_,_,.sn t=>.sn t
 |_,_,.sl a b c h=>.sl a b c (mP.mono k h)
 |_,_,.em t h=>.em t h
 |_,_,.ro h=>.ro (o7.mono k h)
 |_,_,.pt y=>.pt y
 |_,_,.dead y=>.dead y
 |_,_,.Um h=>.Um (Rep.mono k h)
 |_,_,.We x=>.We x
theorem dR.mono(k:fq R w R' w'):∀{x:List TV}{y:List Value},dR R w x y->dR R' w' x y
 |_,_,.nil=>.nil
 |_,_,.cons a h t=>.cons a (Rep.mono k h) (dR.mono k t)
theorem jy.mono(k:fq R w R' w'):∀{x:List TV}{y:List Value},jy R w x y->jy R' w' x y
 |_,_,.nil=>.nil
 |_,_,.cons h t=>.cons (Rep.mono k h) (jy.mono k t)
theorem ph.mono(k:fq R w R' w'):∀{x:List TV}{b o:Nat},ph R w x b o->ph R' w' x b o
 |_,_,_,.nil b o=>.nil b o
 |_,_,_,.cons r c a h t=>.cons (k _ _ r).1 ((k _ _ r).2.trans c) a (Rep.mono k h) (ph.mono k t)
theorem o7.mono(k:fq R w R' w'):∀{s:Nat}{x:TV}{b o:Nat},o7 R w s x b o->o7 R' w' s x b o
 |_,_,_,_,.ag e h=>.ag e (ph.mono k h)
 |_,_,_,_,.one n r c a h=>.one n (k _ _ r).1 ((k _ _ r).2.trans c) a (Rep.mono k h)
theorem mP.mono(k:fq R w R' w'):∀{s:Nat}{x:List TV}{b o:Nat},mP R w s x b o->mP R' w' s x b o
 |_,_,_,_,.nil s b o=>.nil s b o
 |_,_,_,_,.cons h t=>.cons (o7.mono k h) (mP.mono k t)
end
end
section
variable{R:Reach}{w:World}
theorem dR.length:∀{xs:List TV}{ys:List Value},dR R w xs ys->xs.length=ys.length
 |_,_,.nil=>rfl
 |_,_,.cons _ _ t=>by simp[dR.length t]
theorem jy.length:∀{xs:List TV}{ys:List Value},jy R w xs ys->xs.length=ys.length
 |_,_,.nil=>rfl
 |_,_,.cons _ t=>by simp[jy.length t]
theorem dR.get:∀{xs:List TV}{ys:List Value}(_:dR R w xs ys)(i:Nat)(x:TV),xs[i]?=BQ x->∃y,ys[i]?=BQ y/\y.oneCell'=NS/\Rep R w x y
 |_,_,.cons a h _,0,x,e=>by simp at e;subst e;exact⟨_,rfl,a,h⟩
 |_,_,.cons _ _ t,i+1,x,e=>by simpa using dR.get t i x (by simpa using e)
theorem jy.get:∀{xs:List TV}{ys:List Value}(_:jy R w xs ys)(i:Nat)(x:TV),xs[i]?=BQ x->∃y,ys[i]?=BQ y/\Rep R w x y
 |_,_,.cons h _,0,x,e=>by simp at e;subst e;exact⟨_,rfl,h⟩
 |_,_,.cons _ t,i+1,x,e=>by simpa using jy.get t i x (by simpa using e)
theorem dR.one:∀{xs:List TV}{ys:List Value},dR R w xs ys->∀y∈ys,y.oneCell'=NS
 |_,_,.cons a _ t,y,hy=>by rcases aQ.1 hy with rfl|h;{exact a};{exact dR.one t y h}
theorem dR.append:∀{xs:List TV}{ys:List Value}{N5:List TV}{BS:List Value},dR R w xs ys->dR R w N5 BS->dR R w (xs++N5) (ys++BS)
 |_,_,_,_,.nil,h=>h
 |_,_,_,_,.cons a h t,k=>.cons a h (dR.append t k)
theorem dR.take:∀{xs:List TV}{ys:List Value}(n:Nat),dR R w xs ys->dR R w (xs.take n) (ys.take n)
 |_,_,0,_=>by simp;exact .nil
 |_,_,n+1,.nil=>by simp;exact .nil
 |_,_,n+1,.cons a h t=>by simp;exact .cons a h (dR.take n t)
theorem dR.drop:∀{xs:List TV}{ys:List Value}(n:Nat),dR R w xs ys->dR R w (xs.drop n) (ys.drop n)
 |_,_,0,h=>by simpa using h
 |_,_,n+1,.nil=>by simp;exact .nil
 |_,_,n+1,.cons a h t=>by simp;exact dR.drop n t
theorem ph.read:∀{xs:List TV}{b o:Nat},ph R w xs b o->∃ys,dR R w xs ys/\∀j y,ys[j]?=BQ y->w.cell? ⟨b,o+j,Ku⟩=BQ y
 |_,_,_,.nil _ _=>⟨[],.nil,by simp⟩
 |_,b,o,.cons (y:=y) r c a h t=>by
  obtain⟨ys,hl,hc⟩:=ph.read t;refine⟨y::ys,.cons a h hl,λj z hz=>?_⟩;cases j with
  |zero=>simp at hz;subst hz;exact c
  |succ j=>have:=hc j z (by simpa using hz);rw[show o+(j+1)=o+1+j by omega];exact this
theorem ph.write:∀{xs:List TV} {ys:List Value} {b o:Nat},dR R w xs ys→(∀j,j<ys.length→R b (o+j))→(∀j y,ys[j]?=BQ y→w.cell? ⟨b,o+j,Ku⟩=BQ y)→ph R w xs b o
 | _,_,b,o,.nil,_,_ => .nil b o
 | _,_,b,o,.cons a h t,hr,hc => .cons (hr 0 (by simp)) (hc 0 _ rfl) a h
   (ph.write t (fun j hj=>by have:=hr (j+1) (by simp;omega);rwa [show o+(j+1)=o+1+j by omega] at this)
    (fun j y hy=>by have:=hc (j+1) y (by simpa using hy);rwa [show o+(j+1)=o+1+j by omega] at this))
theorem ph.drop:∀{xs:List TV}{b o:Nat}(n:Nat),ph R w xs b o->ph R w (xs.drop n) b (o+n)
 |_,b,o,0,h=>by simpa using h
 |_,b,o,n+1,.nil _ _=>by simp;exact .nil _ _
 |_,b,o,n+1,.cons r c a h t=>by simp;have:=ph.drop n t;rwa[show o+1+n=o+(n+1) by omega]at this
theorem ph.take:∀{xs:List TV}{b o:Nat}(n:Nat),ph R w xs b o->ph R w (xs.take n) b o
 |_,b,o,0,h=>by simp;exact .nil _ _
 |_,b,o,n+1,.nil _ _=>by simp;exact .nil _ _
 |_,b,o,n+1,.cons r c a h t=>by simp;exact .cons r c a h (ph.take n t)
theorem mP.get:∀{s:Nat}{es:List TV}{b o:Nat}(_:mP R w s es b o)(i:Nat)(x:TV),es[i]?=BQ x->o7 R w s x b (o+i*s)
 |s,_,b,o,.cons h _,0,x,e=>by simp at e;subst e;simpa using h
 |s,_,b,o,.cons _ t,i+1,x,e=>by have:=mP.get t i x (by simpa using e);rwa[show o+s+i*s=o+(i+1)*s by rw[Nat.succ_mul];omega]at this
theorem mP.drop:∀{s:Nat}{es:List TV}{b o:Nat}(n:Nat),mP R w s es b o->mP R w s (es.drop n) b (o+n*s)
 |s,_,b,o,0,h=>by simpa using h
 |s,_,b,o,n+1,.nil _ _ _=>by simp;exact .nil _ _ _
 |s,_,b,o,n+1,.cons h t=>by simp;have:=mP.drop n t;rwa[show o+s+n*s=o+(n+1)*s by rw[Nat.succ_mul];omega]at this
theorem mP.take:∀{s:Nat}{es:List TV}{b o:Nat}(n:Nat),mP R w s es b o->mP R w s (es.take n) b o
 |s,_,b,o,0,h=>by simp;exact .nil _ _ _
 |s,_,b,o,n+1,.nil _ _ _=>by simp;exact .nil _ _ _
 |s,_,b,o,n+1,.cons h t=>by simp;exact .cons h (mP.take n t)
theorem o7.read{s:Nat}{x:TV}{b o:Nat}(h:o7 R w s x b o):∃ys:List Value,ys.length=s/\(∀j y,ys[j]?=BQ y->w.cell? ⟨b,o+j,Ku⟩=BQ y)/\dR R w x.cells ys:=by
 cases h with
 |ag e h=>obtain⟨ys,hl,hc⟩:=h.read;exact⟨ys,by rw[e,hl.length],hc,hl⟩
 |one n r c a h=>
  rename_i y;refine⟨[y],rfl,?_,?_⟩
  ·intro j z hz;cases j with
   |zero=>simp at hz;subst hz;exact c
   |succ j=>simp at hz
  {cases x<;>simp[TV.cells,TV.xK]at n⊢<;>exact .cons a h .nil}
theorem o7.write{s:Nat}{x:TV}{ys:List Value}{b o:Nat}(hs:x.cells.length=s)(h:dR R w x.cells ys)(hr:∀j,j<s->R b (o+j))(hc:∀j y,ys[j]?=BQ y->w.cell? ⟨b,o+j,Ku⟩=BQ y):o7 R w s x b o:=by
 have hl:=h.length;cases x with
 |ag cs=>exact .ag hs.symm (ph.write h (λj hj=>hr j (by omega)) hc)
 |_=>
  simp only[TV.cells,ao]at hs h hl;subst hs;cases h with
  |cons a h t=>exact .one rfl (hr 0 (by omega)) (hc 0 _ rfl) a h
theorem mP.cells:∀{s:Nat}{es:List TV}{b o:Nat},mP R w s es b o->∃ys:List Value,ys.length=es.length*s/\(∀j y,ys[j]?=BQ y->w.cell? ⟨b,o+j,Ku⟩=BQ y)/\dR R w (es.flatMap TV.cells) ys/\∀e∈es,e.cells.length=s
 |s,_,b,o,.nil _ _ _=>⟨[],by simp,by simp,.nil,by simp⟩
 |s,_,b,o,.cons (x:=x) (xs:=xs) h t=>by obtain⟨ys,hl,hc,hr⟩:=h.read;obtain⟨zs,kl,kc,kr,ke⟩:=mP.cells t;have hx:x.cells.length=s:=by{rw[hr.length,hl]};refine⟨ys++zs,by simp[hl,kl,Nat.succ_mul];omega,?_,?_,?_⟩;{intro j y hy;by_cases hj:j<ys.length;{exact hc j y (by rwa[List.getElem?_append_left hj]at hy)};{rw[aY (by omega)]at hy;have:=kc _ y hy;rwa[show o+s+(j -ys.length)=o+j by omega]at this}};{simpa using hr.append kr};{intro e he;rcases aQ.1 he with rfl|h';{exact hx};{exact ke e h'}}
theorem mP.write:∀{s:Nat}{es:List TV}{ys:List Value}{b o:Nat},(∀e∈es,e.cells.length=s)->dR R w (es.flatMap TV.cells) ys->(∀j,j<es.length*s->R b (o+j))->
  (∀j y,ys[j]?=BQ y->w.cell? ⟨b,o+j,Ku⟩=BQ y)->mP R w s es b o
 |s,[],ys,b,o,_,_,_,_=>.nil _ _ _
 |s,e::es,ys,b,o,he,h,hr,hc=>by
  have hs:=he e (by simp);have hl:=h.length;simp only[List.flatMap_cons,ae]at hl;have h1:dR R w e.cells (ys.take s):=by{simpa[hs]using h.take s};have h2:dR R w (es.flatMap TV.cells) (ys.drop s):=by{have:=h.drop s;simpa[List.drop_append,hs,az]using this};refine .cons (.write hs h1 (λj hj=>hr j (by simp[Nat.succ_mul];omega)) (λj y hy=>hc j y ?_))
   (mP.write (λe' h'=>he e' (by simp[h'])) h2 (λj hj=>?_) (λj y hy=>?_))
  {rw[bc]at hy;split at hy;{exact hy};{cases hy}};{have:=hr (s+j) (by simp[Nat.succ_mul];omega);rwa[<-Nat.add_assoc]at this};{have:=hc (s+j) y (by simpa using hy);rwa[<-Nat.add_assoc]at this}
end
theorem fE.oa(t:fE)(x:t.El):(t.tv x).cells.length=t.size:=by cases t<;>rfl
def fE.KI(t:fE)(x:t.El):(t.tv x).plain=NS:=by cases t<;>rfl
end Go.Eng
namespace Go.Eng
open Go.RowKit
def Value.iL:Value->Option Nat
 |.pointer (BQ a)=>BQ a.block
 |.slice (BQ a) _ _=>BQ a.block
 |_=>Ku
def Gh.HZ:Gh->Bool
 |.pw _|.pc _=>NS
 |_=>NT
def Gh.HY:Gh->Bool
 |.pw _=>NS
 |_=>NT
def gb(τ:Nat->Value)(g:Gh)(v:Value):Option Nat:=match g with|.pw d=>if Value.iL v=Value.iL (τ d)then Ku else Value.iL v|g=>if g.own then Value.iL v else Ku
def iL(τ:Nat->Value)(S:St)(k:Nat):Option Nat:=gb τ (S k).2 (τ k)
def Tc{τ:Nat->Value}{g:Gh}{v:Value}{b:Nat}(h:gb τ g v=BQ b):g.own=NS/\Value.iL v=BQ b:=by unfold gb at h;split at h;{split at h;{cases h};{exact⟨rfl,h⟩}};{simp_all}
def Mx{τ:Nat->Value}{g:Gh}{v:Value}{b:Nat}(ho:g.own=NS)(hw:g.HY=NT)(h:Value.iL v=BQ b):gb τ g v=BQ b:=by unfold gb;split;{cases hw};{simp_all}
def Mw{τ rX:Nat->Value}{g:Gh}{v:Value}(h:∀m∈g.dA,rX m=τ m):gb rX g v=gb τ g v:=by unfold gb;split;{rw[h _ (List.mem_singleton.2 rfl)]};{rfl}
def gm(R:Reach)(w:World)(p:Bool)(v:Value)(x:TV):Prop:=∃t l,x=.sl t l/\((l=[]/\v=.slice Ku 0 0)\/∃g cap cur e fz,v=.slice (BQ ⟨g,0,Ku⟩) l.length cap/\w.heap[g]?=BQ (.cells cur e fz)/\(∀o,o<cur.size->¬(fz.1<=o/\o<fz.2))/\cur.size=cap*t.size/\l.length<=cap/\cap<=maxLen/\dR R w ((l.map t.tv).flatMap TV.cells) (cur.toList.take (l.length*t.size))/\∀o,R g o↔(p=NS/\o<l.length*t.size))
def TZ(R:Reach)(w:World)(v:Value)(x:TV)(u:Value):Prop:=(gm R w NT v x/\(Value.iL v=Ku\/Value.iL v≠Value.iL u))\/∃t l g cap n,x=.sl t l/\v=.slice (BQ ⟨g,0,Ku⟩) l.length cap/\u=.slice (BQ ⟨g,0,Ku⟩) n cap
def BP(R:Reach)(w:World)(τ:Nat->Value)(v:Value)(x:TV)(ts:List (Nat×Nat)):Prop:=∃b cs e xs,v=.pointer (BQ ⟨b,0,Ku⟩)/\w.heap[b]?=BQ (.cells ⟨cs⟩ e (0,0))/\x=.ag xs/\dR R w xs cs/\(∀t∈ts,cs[t.1]?=BQ (τ t.2))/\∀o,¬R b o
def lM(R:Reach)(w:World)(τ:Nat->Value)(x:TV)(g:Gh)(v:Value):Prop:=
 match g with
 |.ptr m o=>∃b,τ m=.pointer (BQ ⟨b,0,Ku⟩)/\v=.pointer (BQ ⟨b,o,Ku⟩)
 |.fF k=>v=τ k/\v.oneCell'=NS
 |.pe k=>∃b i s o,Value.iL (τ k)=BQ b/\x=.el i s o/\v=.pointer (BQ ⟨b,i*s+o,Ku⟩)
 |.Ql l=>∃ys vs,v=.tuple ⟨ys⟩/\x=.tu vs/\jy R w vs ys/\∀p∈l,ys[p.1]?=BQ (τ p.2)
 |.ow l=>∃ys vs,v=.agg ⟨ys⟩/\x=.ag vs/\dR R w vs ys/\∀p∈l,ys[p.1]?=BQ (τ p.2)
 |_=>Rep R w x v
def fo(R:Reach)(w:World)(τ:Nat->Value)(x:TV)(g:Gh)(v:Value):Prop:=
 match x with
 |.gd NT _=>v=undef
 |.gd NS x=>lM R w τ x g v
 |x=>lM R w τ x g v
def kY(R:Reach)(w:World)(τ:Nat->Value)(x:TV)(g:Gh)(v:Value):Prop:=
 match g with
 |.cl ts=>BP R w τ v x ts
 |.pv=>gm R w NT v x
 |.pw d=>TZ R w v x (τ d)
 |.pc _=>gm R w NT v x
 |.lv=>gm R w NS v x
 |.us=>Rep R w x v
 |.zz=>True
 |.hid=>True
 |g=>fo R w τ x g v
structure Core (nt:Nat) (R:Reach) (w:World) (eG:Nat->Prop) (τ:Nat->Value) (S:St):Prop where
 key:∀k,kY R w τ (S k).1 (S k).2 (τ k)
 sep:∀k k' g,iL τ S k=BQ g->iL τ S k'=BQ g->k=k'
 eG:∀k g,iL τ S k=BQ g->eG g
 inv:∀j,∀k∈(S j).2.dA,nt<=k/\(S k).2≠.no
 vK:∀b o,R b o->b<w.heap.size
 slt:∀k,k<nt->(S k).2.slot=NS
 par:∀k d,(S k).2=.pw d->(S d).2=.pc k/\∃t l m,(S k).1=.sl t l/\(S d).1=.sl t (l++m)
theorem gT{τ:Nat->Value}{S:St}{k g:Nat}(h:iL τ S k=BQ g):(S k).2.own=NS/\Value.iL (τ k)=BQ g:=Tc h
def gm.lt{R:Reach}{w:World}{p:Bool}{v:Value}{x:TV}{g:Nat}(h:gm R w p v x)(hb:Value.iL v=BQ g):g<w.heap.size:=by obtain⟨t,l,rfl,⟨_,rfl⟩|⟨g',cap,cur,e,fz,rfl,h,_⟩⟩:=h;{cases hb};{cases hb;exact(Array.getElem?_eq_some_iff.1 h).1}
def BP.lt{R:Reach}{w:World}{τ:Nat->Value}{v:Value}{x:TV}{ts:List (Nat×Nat)}{g:Nat}(h:BP R w τ v x ts)(hb:Value.iL v=BQ g):g<w.heap.size:=by obtain⟨b,cs,e,xs,rfl,h,_⟩:=h;cases hb;exact(Array.getElem?_eq_some_iff.1 h).1
def uV(S:St)(d:Nat)(x:Cell):St:=λk=>if k=d then x else S k
theorem xV(S:St)(d:Nat)(x:Cell):uV S d x=cX S d x:=by funext k;unfold uV cX;by_cases h:k=d;{simp[h]};{simp}
section
variable{nt:Nat}{R R':Reach}{w w':World}{eG HO:Nat->Prop}{τ rX:Nat->Value}{S S':St}
theorem Core.lt(h:Core nt R w eG τ S){k g:Nat}(hb:iL τ S k=BQ g):g<w.heap.size:=by have uL:=hb;obtain⟨ho,hb⟩:=gT hb;have hk:=h.key k;(cases hg:(S k).2<;>rw[hg]at ho hk<;>first|(cases ho;done)|exact BP.lt hk hb|exact gm.lt hk hb|skip);unfold iL at uL;rw[hg]at uL;rcases hk with⟨hk,_⟩|⟨t,l,g',cap,n,_,e1,e2⟩;{exact gm.lt hk hb};{simp_all[gb,Value.iL]}
theorem gm.eC{p:Bool}{v:Value}{x:TV}(h:gm R w p v x)(k:fq R w R' w')(hh:∀g,Value.iL v=BQ g->w'.heap[g]?=w.heap[g]?/\∀o,R' g o->R g o):gm R' w' p v x:=by obtain⟨t,l,rfl,h|⟨g,cap,cur,e,fz,rfl,h1,h2,h3,h4,h5,h6,h7⟩⟩:=h;{exact⟨t,l,rfl,.inl h⟩};{obtain⟨e1,e2⟩:=hh g rfl;exact⟨t,l,rfl,.inr ⟨g,cap,cur,e,fz,rfl,e1.trans h1,h2,h3,h4,h5,h6.mono k,λo=>⟨λhr=>(h7 o).1 (e2 o hr),λhr=>(k g o ((h7 o).2 hr)).1⟩⟩⟩}
theorem lM.eC{x:TV}{g:Gh}{v:Value}(h:lM R w τ x g v)(k:fq R w R' w')(ht:∀m∈g.dA,rX m=τ m):lM R' w' rX x g v:=by
 (cases g<;>simp only[lM,Gh.dA,List.mem_singleton,forall_eq,bn,forall_exists_index,and_imp,forall_apply_eq_imp_iff₂]at*<;>first|exact h.mono k|(rw[ht];exact h)|skip);all_goals
  obtain⟨ys,vs,h1,h2,h3,h4⟩:=h
  exact⟨ys,vs,h1,h2,h3.mono k,λp hp=>by rw[ht p hp];exact h4 p hp⟩
theorem kY.eC{x:TV}{g:Gh}{v:Value}(h:kY R w τ x g v)(k:fq R w R' w')(ht:∀m∈g.dA,rX m=τ m)(hh:∀b,gb τ g v=BQ b->w'.heap[b]?=w.heap[b]?/\∀o,R' b o->R b o):kY R' w' rX x g v:=by
 have slot:fo R w τ x g v->fo R' w' rX x g v:=λh=>by{unfold fo at h⊢;split at h<;>first|exact h|exact lM.eC h k ht};(cases g<;>simp only[kY]at h⊢<;>first|exact slot h|exact h.eC k hh|exact h.mono k|trivial|skip);case pw d=>
  rw[ht d (List.mem_singleton.2 rfl)]
  rcases h with⟨h1,h2⟩|h
  {refine .inl ⟨h1.eC k λb hb=>hh b ?_,h2⟩;rcases h2 with h2|h2;{simp_all};{simp_all[gb]}}
  {exact .inr h}
 obtain⟨b,cs,e,xs,rfl,h1,rfl,h2,h3,h4⟩:=h;obtain⟨e1,e2⟩:=hh b rfl;exact⟨b,cs,e,xs,rfl,e1.trans h1,rfl,h2.mono k,λt htm=>by rw[ht _ (List.mem_map_of_mem (f:=(·.2)) htm)];exact h3 t htm,λo hr=>h4 o (e2 o hr)⟩
theorem Core.step(h:Core nt R w eG τ S)(U:Nat->Prop)(eC:fq R w R' w')(out:∀k,¬U k->S' k=S k/\rX k=τ k)(TB:∀k g,¬U k->iL τ S k=BQ g->w'.heap[g]?=w.heap[g]?/\∀o,R' g o->R g o)(new:∀k,U k->kY R' w' rX (S' k).1 (S' k).2 (rX k))(tau:∀k,U k->rX k=τ k\/k<nt\/(S k).2=.no)(no:∀k,U k->k<nt\/(S' k).2≠.no)(Xf:∀k,U k->((S k).2.HZ=NT/\(S' k).2.HZ=NT)\/((S k).2.HY=NT/\S' k=S k))(_grow:∀k,U k->(S' k).2.own=NS->(S k).2.own=NS\/(S k).2=.no)(own:∀k g,U k->iL rX S' k=BQ g->HO g/\(∀k',U k'->k'≠k->iL rX S' k'≠BQ g)/\(w.heap.size<=g\/∃k0,U k0/\iL τ S k0=BQ g))(min:∀g,eG g->HO g)(inv:∀k,U k->∀j∈(S' k).2.dA,nt<=j/\(S' j).2≠.no)(vK:∀b o,R' b o->b<w'.heap.size)(slt:∀k,U k->k<nt->(S' k).2.slot=NS):Core nt R' w' HO rX S':=by have ht:∀j,∀m∈(S j).2.dA,rX m=τ m:=λj m hm=>by{obtain⟨h1,h2⟩:=h.inv j m hm;by_cases hu:U m;{grind};{simp_all}};have hb:∀k,¬U k->iL rX S' k=iL τ S k:=λk hk=>by{unfold iL;rw[(out k hk).1,(out k hk).2,Mw (ht k)]};have hn:∀j,(S j).2≠.no->nt<=j->(S' j).2≠.no:=λj hj hl=>by{grind};refine⟨λk=>?_,λk k' g h1 h2=>?_,λk g hk=>?_,λj k hk=>?_,vK,λk hk=>?_,λk d hk=>?_⟩;{by_cases hu:U k;{simp_all};{obtain⟨e1,e2⟩:=out k hu;rw[e1,e2];exact(h.key k).eC eC (ht k) λb oZ=>TB k b hu oZ}};{by_cases e:k=k';{exact e};{have one:∀k k' g,U k->¬U k'->iL rX S' k=BQ g->iL rX S' k'=BQ g->False:=λk k' g u u' h1 h2=>by{obtain⟨_,_,h3|⟨k0,u0,h3⟩⟩:=own k g u h1;{rw[hb k' u']at h2;have:=h.lt h2;omega};{rw[hb k' u']at h2;exact u' (h.sep k0 k' g h3 h2▸u0)}};by_cases u:U k<;>by_cases u':U k';{grind};{grind};{grind};{rw[hb k u]at h1;rw[hb k' u']at h2;exact h.sep k k' g h1 h2}}};{by_cases hu:U k;{grind};{rw[hb k hu]at hk;exact min g (h.eG k g hk)}};{by_cases hu:U j;{grind};{rw[(out j hu).1]at hk;obtain⟨h1,h2⟩:=h.inv j k hk;exact⟨h1,hn k h2 h1⟩}};{by_cases hu:U k;{simp_all};{rw[(out k hu).1];exact h.slt k hk}};{have e1:S' k=S k:=by{by_cases hu:U k;{rcases Xf k hu with e|e;{have:=e.2;rw[hk]at this;cases this};{exact e.2}};{simp_all}};rw[e1]at hk;obtain⟨p,q⟩:=h.par k d hk;have e2:S' d=S d:=by{by_cases hu:U d;{rcases Xf d hu with e|e;{have:=e.1;rw[p]at this;cases this};{exact e.2}};{exact(out d hu).1}};rw[e1,e2];exact⟨p,q⟩}
theorem Core.waits(h:Core nt R w eG τ S){k d:Nat}{x:TV}(hk:S k=(x,.pw d)):gm R w NT (τ k) x:=by
 have h1:=h.key k;rw[hk]at h1;rcases h1 with⟨h1,_⟩|⟨t,l,g,cap,n,rfl,e1,e2⟩;{exact h1}
 ·obtain⟨p1,t',l',m,q1,q2⟩:=h.par k d (by rw[hk]);rw[hk]at q1;cases q1;have h2:=h.key d;rw[p1,q2]at h2;obtain⟨t2,l2,e3,⟨_,e4⟩|⟨g',cap',cur,e,fz,e4,k1,k2,k3,k4,k5,k6,k7⟩⟩:=h2;{rw[e2]at e4;cases e4}
  ·cases e3;rw[e2]at e4;cases e4;refine⟨t,l,rfl,.inr ⟨g,cap,cur,e,fz,e1,k1,k2,k3,by rw[ae]at k4;omega,k5,?_,λo=>⟨λhr=>by simpa using(k7 o).1 hr,λhr=>by simp at hr⟩⟩⟩;have hl:l.length*t.size<=(l++m).length*t.size:=ay _ (by rw[ae];omega);have:=k6.take (l.length*t.size);rw[List.take_take,Nat.min_eq_left hl]at this;rw[List.map_append,List.flatMap_append]at this;have e5:((l.map t.tv).flatMap TV.cells).length=l.length*t.size:=by
    have:∀l:List t.El,((l.map t.tv).flatMap TV.cells).length=l.length*t.size:=λl=>by
     induction l with
     |nil=>simp
     |cons a r ih=>simp only[bf,List.flatMap_cons,ae,ih,fE.oa,av,Nat.succ_mul];omega
    exact this l
   rw[List.take_append_of_le_length (by omega),List.take_of_length_le (by omega)]at this;exact this
theorem Core.recover (h : Core nt R w eG τ S) {k d : Nat} {x : TV} (hk : S k = (x, .pw d)) : Core nt R w eG τ (uV (uV S k (x, .pv)) d (.dead, .zz)) := by
  obtain ⟨p1, _⟩ := h.par k d (by rw [hk])
  have nW : d ≠ k := by rintro rfl; rw [hk] at p1; cases p1
  have ZF : nt ≤ d := (h.inv k d (by rw [hk]; exact List.mem_singleton.2 rfl)).1
  have hkt : nt ≤ k := by rcases Nat.lt_or_ge k nt with e | e; · have := h.slt k e; rw [hk] at this; cases this
                          · exact e
  have e1 : ∀ j, uV (uV S k (x, .pv)) d (.dead, .zz) j = if j = d then (.dead, .zz) else if j = k then (x, .pv) else S j := fun j => rfl
  generalize uV (uV S k (x, .pv)) d (.dead, .zz) = S' at e1
  have s1 : S' d = (.dead, .zz) := by rw [e1, ar rfl]
  have s2 : S' k = (x, .pv) := by rw [e1, ak (Ne.symm nW), ar rfl]
  have s3 : ∀ j, j ≠ d → j ≠ k → S' j = S j := fun j a b => by rw [e1, ak a, ak b]
  have bl : ∀ j g, iL τ S' j = BQ g → iL τ S j = BQ g ∨ (j = k ∧ iL τ S d = BQ g) := fun j g hj => by
    by_cases a : j = d
    · rw [a] at hj; have := (gT hj).1; rw [s1] at this; cases this
    · by_cases b : j = k
      · subst b
        have hv := (gT hj).2
        by_cases c : Value.iL (τ j) = Value.iL (τ d)
        · right; exact ⟨rfl, by unfold iL; rw [p1]; exact Mx rfl rfl (by rw [← c]; exact hv)⟩
        · left; unfold iL; rw [hk]; simp only [gb, ak c]; exact hv
      · left; unfold iL at hj ⊢; rw [s3 j a b] at hj; exact hj
  refine ⟨fun j => ?_, fun j j' g h1 h2 => ?_, fun j g hj => ?_, fun j m hm => ?_, h.vK, fun j hj => ?_, fun j c hj => ?_⟩
  · by_cases a : j = d
    · rw [a, s1]; trivial
    · by_cases b : j = k
      · rw [b, s2]; exact h.waits hk
      · rw [s3 j a b]; exact h.key j
  · rcases bl j g h1 with q | ⟨q, q'⟩ <;> rcases bl j' g h2 with r | ⟨r, r'⟩
    · exact h.sep _ _ _ q r
    · have := h.sep _ _ _ q r'
      rw [this] at h1; have := (gT h1).1; rw [s1] at this; cases this
    · have := h.sep _ _ _ r q'
      rw [this] at h2; have := (gT h2).1; rw [s1] at this; cases this
    · rw [q, r]
  · rcases bl j g hj with q | ⟨_, q⟩
    · exact h.eG _ _ q
    · exact h.eG _ _ q
  · have JI : m ∈ (S j).2.dA := by
      by_cases a : j = d
      · rw [a, s1] at hm; simp [Gh.dA] at hm
      · by_cases b : j = k
        · rw [b, s2] at hm; simp [Gh.dA] at hm
        · rw [s3 j a b] at hm; exact hm
    obtain ⟨h1, h2⟩ := h.inv j m JI
    refine ⟨h1, ?_⟩
    by_cases a : m = d
    · rw [a, s1]; simp
    · by_cases b : m = k
      · rw [b, s2]; simp
      · rw [s3 m a b]; exact h2
  · rw [s3 j (by omega) (by omega)]; exact h.slt j hj
  · have a : j ≠ d := by rintro rfl; rw [s1] at hj; cases hj
    have b : j ≠ k := by rintro rfl; rw [s2] at hj; cases hj
    rw [s3 j a b] at hj
    obtain ⟨q1, q2⟩ := h.par j c hj
    have c1 : c ≠ d := by rintro rfl; rw [p1] at q1; cases q1; exact b rfl
    have c2 : c ≠ k := by rintro rfl; rw [hk] at q1; cases q1
    rw [s3 j a b, s3 c c1 c2]
    exact ⟨q1, q2⟩
theorem Core.Wx(h:Core nt R w eG τ S){k d:Nat}{t:fE}{l m:List t.El}{y:TV}(hkt:nt<=k)(hdt:nt<=d)(hk:S k=(y,.zz))(hd:S d=(.sl t (l++m),.pv))(hp:TZ R w (τ k) (.sl t l) (τ d))(hm:∀b,gb τ (.pw d) (τ k)=BQ b->eG b/\∀j,iL τ S j≠BQ b):Core nt R w eG τ (uV (uV S k (.sl t l,.pw d)) d (.sl t (l++m),.pc k)):=by have nW:d≠k:=by{rintro rfl;rw[hk]at hd;cases hd};have e1:∀j,uV (uV S k (.sl t l,.pw d)) d (.sl t (l++m),.pc k) j=if j=d then(.sl t (l++m),.pc k)else if j=k then(.sl t l,.pw d)else S j:=λj=>rfl;generalize uV (uV S k (.sl t l,.pw d)) d (.sl t (l++m),.pc k)=S' at e1;have s1:S' d=(.sl t (l++m),.pc k):=by{rw[e1,ar rfl]};have s2:S' k=(.sl t l,.pw d):=by{rw[e1,ak (Ne.symm nW),ar rfl]};have s3:∀j,j≠d->j≠k->S' j=S j:=λj a b=>by{rw[e1,ak a,ak b]};have bl:∀j g,iL τ S' j=BQ g->(iL τ S j=BQ g/\j≠k)\/(j=k/\gb τ (.pw d) (τ k)=BQ g):=λj g hj=>by{by_cases a:j=d;{subst a;left;refine⟨?_,nW⟩;have:=(gT hj).2;unfold iL;rw[hd];exact Mx rfl rfl this};{by_cases b:j=k;{subst b;right;unfold iL at hj;rw[s2]at hj;exact⟨rfl,hj⟩};{left;unfold iL at hj⊢;rw[s3 j a b]at hj;exact⟨hj,b⟩}}};refine⟨λj=>?_,λj j' g h1 h2=>?_,λj g hj=>?_,λj q hq=>?_,h.vK,λj hj=>?_,λj c hj=>?_⟩;{by_cases a:j=d;{rw[a,s1];have:=h.key d;rw[hd]at this;exact this};{by_cases b:j=k;{rw[b,s2];exact hp};{rw[s3 j a b];exact h.key j}}};{rcases bl j g h1 with⟨q,_⟩|⟨q,q'⟩<;>rcases bl j' g h2 with⟨r,_⟩|⟨r,r'⟩;{exact h.sep _ _ _ q r};{exact((hm g r').2 j q).elim};{exact((hm g q').2 j' r).elim};{rw[q,r]}};{rcases bl j g hj with⟨q,_⟩|⟨_,q⟩;{exact h.eG _ _ q};{exact(hm g q).1}};{by_cases a:j=d;{rw[a,s1]at hq;simp only[Gh.dA,List.mem_singleton]at hq;subst hq;exact⟨hkt,by rw[s2];simp⟩};{by_cases b:j=k;{rw[b,s2]at hq;simp only[Gh.dA,List.mem_singleton]at hq;subst hq;exact⟨hdt,by rw[s1];simp⟩};{rw[s3 j a b]at hq;obtain⟨h1,h2⟩:=h.inv j q hq;refine⟨h1,?_⟩;by_cases a:q=d;{rw[a,s1];simp};{by_cases b:q=k;{rw[b,s2];simp};{rw[s3 q a b];exact h2}}}}};{rw[s3 j (by omega) (by omega)];exact h.slt j hj};{have a:j≠d:=by{rintro rfl;rw[s1]at hj;cases hj};by_cases b:j=k;{rw[b,s2]at hj;cases hj;rw[b,s1,s2];exact⟨rfl,t,l,m,rfl,rfl⟩};{rw[s3 j a b]at hj;obtain⟨q1,q2⟩:=h.par j c hj;have c1:c≠d:=by{rintro rfl;rw[hd]at q1;cases q1};have c2:c≠k:=by{rintro rfl;rw[hk]at q1;cases q1};rw[s3 j a b,s3 c c1 c2];exact⟨q1,q2⟩}}
end
def Ap{X:Type}(σ:Nat->X)(t:Nat)(x:X):Nat->X:=λk=>if k=t then x else σ k
theorem iE{X:Type}(σ:Nat->X)(t:Nat)(x:X):Ap σ t x t=x:=by simp[Ap]
def jz{X:Type}(σ:Nat->X){t k:Nat}(x:X)(h:k≠t):Ap σ t x k=σ k:=by simp[Ap,h]
theorem cO(S:St)(d:Nat)(x:Cell):cX S d x d=x:=by simp[cX]
theorem fH(S:St){d k:Nat}(x:Cell)(h:k≠d):cX S d x k=S k:=by
 unfold cX;cases e:Nat.beq k d with
 |true=>exact(h (aB e)).elim
 |false=>rfl
def bL{A:Type}{p:Bool}{x:Option A}{y:A}:gj p x=BQ y↔p=NS/\x=BQ y:=by cases p<;>simp[gj]
def Fz(eG:Nat->Prop)(R:Reach)(w:World)(R':Reach):Prop:=fq R w R' w/\∀b o,R' b o->R b o\/eG b
def Fz.refl(eG:Nat->Prop)(R:Reach)(w:World):Fz eG R w R:=⟨fq.refl _ _,λ_ _=>.inl⟩
def Fz.trans{eG:Nat->Prop}{R R' WV:Reach}{w:World}(h:Fz eG R w R')(k:Fz eG R' w WV):Fz eG R w WV:=⟨h.1.trans k.1,λb o hr=>(k.2 b o hr).elim (h.2 b o) .inr⟩
def fq.reach{R:Reach}{w:World}{R':Reach}(h:∀b o,R b o->R' b o):fq R w R' w:=λb o hr=>⟨h b o hr,rfl⟩
def kY.slot{R:Reach}{w:World}{τ:Nat->Value}{x:TV}{g:Gh}{v:Value}(hg:g.slot=NS):kY R w τ x g v=fo R w τ x g v:=by cases g<;>first|rfl|cases hg
def fo.eC{R R':Reach}{w w':World}{τ rX:Nat->Value}{x:TV}{g:Gh}{v:Value}(h:fo R w τ x g v)(k:fq R w R' w')(ht:∀m∈g.dA,rX m=τ m):fo R' w' rX x g v:=by unfold fo at h⊢;split at h<;>first|exact h|exact lM.eC h k ht
section
variable{nt:Nat}{R R':Reach}{w w':World}{eG HO:Nat->Prop}{τ rX:Nat->Value}{S S':St}
theorem Core.put(h:Core nt R w eG τ S){d:Nat}{v:Value}{x:TV}{g:Gh}(hd:d<nt)(hs:fo R w τ x g v)(hg:g.slot=NS)(hm:∀k∈g.dA,nt<=k/\(S k).2≠.no):Core nt R w eG (Ap τ d v) (cX S d (x,g)):=by have hP:(S d).2.HZ=NT:=by{have:=h.slt d hd;cases hh:(S d).2<;>rw[hh]at this<;>first|rfl|cases this};have ho:g.own=NT:=by{cases g<;>first|rfl|cases hg};refine h.step (λk=>k=d) (fq.refl _ _) (λk hk=>⟨fH _ _ hk,jz _ _ hk⟩) (λ_ _ _ _=>⟨rfl,λ_=>id⟩) ?_ (λk hk=>.inr (.inl (hk▸hd))) (λk hk=>.inl (hk▸hd)) ?_ ?_ ?_ (λ_=>id) ?_ h.vK (λk hk _=>by rw[hk,cO];exact hg);{rintro k rfl;rw[cO,iE,kY.slot hg];exact hs.eC (fq.refl _ _) λm JI=>jz _ _ (by have:=(hm m JI).1;omega)};{rintro k rfl;rw[cO];exact .inl ⟨hP,by cases g<;>first|rfl|cases hg⟩};{rintro k rfl e;rw[cO,ho]at e;cases e};{rintro k b rfl hb;have:=(gT hb).1;rw[cO,ho]at this;cases this};{rintro k rfl j hj;rw[cO]at hj;obtain⟨h1,h2⟩:=hm j hj;exact⟨h1,by rw[fH _ _ (by omega)];exact h2⟩}
theorem Core.kD(h:Core nt R w eG τ S){k:Nat}{v:Value}{x:TV}{g:Gh}(hk:nt<=k)(eC:fq R w R' w')(TB:∀j b,j≠k->iL τ S j=BQ b->w'.heap[b]?=w.heap[b]?/\∀o,R' b o->R b o)(new:kY R' w' τ x g v)(tau:v=τ k\/(S k).2=.no)(Xf:(S k).2.HZ=NT/\g.HZ=NT)(no:g≠.no)(grow:g.own=NS->(S k).2.own=NS\/(S k).2=.no)(bl:∀b,g.own=NS->Value.iL v=BQ b->eG b/\(w.heap.size<=b\/iL τ S k=BQ b))(inv:∀j∈g.dA,j≠k/\nt<=j/\(S j).2≠.no)(vK:∀b o,R' b o->b<w'.heap.size):Core nt R' w' eG (Ap τ k v) (cX S k (x,g)):=by refine h.step (λj=>j=k) eC (λj hj=>⟨fH _ _ hj,jz _ _ hj⟩) (λj b hj=>TB j b hj) ?_ ?_ ?_ ?_ ?_ ?_ (λ_=>id) ?_ vK (λj hj hl=>by omega);{rintro j rfl;rw[cO,iE];exact new.eC (fq.refl _ _) (λm hm=>jz _ _ (inv m hm).1) λ_ _=>⟨rfl,λ_=>id⟩};{rintro j rfl;rw[iE];exact tau.imp id .inr};{rintro j rfl;rw[cO];exact .inr no};{rintro j rfl;rw[cO];exact .inl Xf};{rintro j rfl;rw[cO];exact grow};{rintro j b rfl hb;obtain⟨h1,h2⟩:=gT hb;rw[cO]at h1;rw[iE]at h2;obtain⟨h3,h4⟩:=bl b h1 h2;exact⟨h3,λk' e ne=>(ne e).elim,h4.imp id λh=>⟨j,rfl,h⟩⟩};{rintro j rfl m hm;rw[cO]at hm;obtain⟨h1,h2,h3⟩:=inv m hm;exact⟨h2,by rw[fH _ _ h1];exact h3⟩}
theorem Core.yO(h:Core nt R w eG τ S){k k' g:Nat}(h1:iL τ S k=BQ g)(h2:iL τ S k'=BQ g):k=k':=h.sep k k' g h1 h2
theorem iK{k g:Nat}(ho:(S k).2.own=NS)(hw:(S k).2.HY=NT)(hb:Value.iL (τ k)=BQ g):iL τ S k=BQ g:=Mx ho hw hb
theorem Cr{g:Gh}(h:g.HZ=NT):g.HY=NT:=by cases g<;>first|rfl|cases h
theorem Core.freeze(h:Core nt R w eG τ S){k:Nat}{x:TV}(hk:nt<=k)(hS:S k=(x,.pv)):∃R',Core nt R' w eG τ (cX S k (x,.lv))/\Fz eG R w R'/\Rep R' w x (τ k)/\(τ k).oneCell'=NS:=by
 have h0:=h.key k;rw[hS]at h0;obtain⟨t,l,rfl,⟨rfl,hv⟩|⟨g,cap,cur,e,fz,hv,h1,h2,h3,h4,h5,h6,h7⟩⟩:=h0
 ·refine⟨R,?_,Fz.refl _ _ _,by rw[hv];exact .sn t,by rw[hv];rfl⟩;have:=h.kD (g:=.lv) (x:=.sl t []) (v:=τ k) hk (fq.refl _ _) (λ_ _ _ _=>⟨rfl,λ_=>id⟩) ⟨t,[],rfl,.inl ⟨rfl,hv⟩⟩ (.inl rfl) (by rw[hS];exact⟨rfl,rfl⟩) (by simp) (λ_=>.inl (by rw[hS];rfl))
   (λb _ hb=>by rw[hv]at hb;cases hb) (by simp[Gh.dA]) h.vK
  rwa[show Ap τ k (τ k)=τ by funext j;simp only[Ap];split<;>simp_all]at this
 {have hb:iL τ S k=BQ g:=iK (by rw[hS];rfl) (by rw[hS];rfl) (by rw[hv];rfl);let R':Reach:=λb o=>R b o\/(b=g/\o<l.length*t.size);have eC:fq R w R' w:=fq.reach λb o=>.inl;have wL:(l.map t.tv).flatMap TV.cells=(l.map t.tv).flatMap TV.cells:=rfl;have hex:∀o,R g o->False:=λo hr=>by{have:=(h7 o).1 hr;simp at this};refine⟨R',?_,⟨eC,λb o(hr:R b o\/(b=g/\o<l.length*t.size))=>hr.imp id λ⟨e,_⟩=>e▸h.eG k g hb⟩,?_,by rw[hv];rfl⟩;{have:=h.kD (R':=R') (w':=w) (g:=.lv) (x:=.sl t l) (v:=τ k) hk eC (λj b hj oZ=>⟨rfl,λo hr=>hr.elim id λ⟨e,_⟩=>(hj (h.yO hb (e▸oZ)).symm).elim⟩) ⟨t,l,rfl,.inr ⟨g,cap,cur,e,fz,hv,h1,h2,h3,h4,h5,h6.mono eC,λo=>⟨λhr=>hr.elim (λhr=>(hex o hr).elim) λhr=>⟨rfl,hr.2⟩,λhr=>.inr ⟨rfl,hr.2⟩⟩⟩⟩ (.inl rfl) (by rw[hS];exact⟨rfl,rfl⟩) (by simp) (λ_=>.inl (by rw[hS];rfl)) (λb _ oZ=>⟨h.eG k b (iK (by rw[hS];rfl) (by rw[hS];rfl) oZ),.inr (iK (by rw[hS];rfl) (by rw[hS];rfl) oZ)⟩) (by simp[Gh.dA]) (λb o hr=>hr.elim (h.vK b o) λ⟨e,_⟩=>e▸(Array.getElem?_eq_some_iff.1 h1).1);rwa[show Ap τ k (τ k)=τ by funext j;simp only[Ap];split<;>simp_all]at this};{rw[hv];refine .sl rfl h4 h5 (mP.write (ys:=cur.toList.take (l.length*t.size)) ?_ (h6.mono eC) (λj hj=>.inr ⟨rfl,by rwa[bj,Nat.zero_add]at*⟩) (λj y hy=>?_));{intro x hx;obtain⟨y,_,rfl⟩:=bn.1 hx;exact fE.oa t y};{rw[bc]at hy;split at hy;{simp only[World.cell?,h1,Nat.zero_add];simpa using hy};{cases hy}}}}
end
def Lt(V S:St):Prop:=∀k,V k=S k\/(V k).2=.hid
def Lq(V S:St):Prop:=∀k,V k=S k\/(V k).2=.hid\/((V k).2=.pv/\S k=((V k).1,.lv))
def Lt.refl(S:St):Lt S S:=λ_=>.inl rfl
theorem Lt.q{V S:St}(h:Lt V S):Lq V S:=λk=>(h k).imp id .inl
theorem Lt.of{V S:St}(h:Lt V S){k:Nat}{x:TV}{g:Gh}(hk:V k=(x,g))(hg:g≠.hid:=by simp):S k=(x,g):=by rcases h k with e|e;{rw[<-e,hk]};{rw[hk]at e;exact(hg e).elim}
section
variable{nt:Nat}{R R':Reach}{w w':World}{eG:Nat->Prop}{τ:Nat->Value}{S V:St}
theorem IV{k:Nat}{c:Cell}(h:S k=c):cX S k c=S:=by funext j;by_cases e:j=k;{subst e;rw[cO,h]};{exact fH _ _ e}
theorem lV(S:St):∀l m:List (Nat×Cell),gi S (l++m)=gi (gi S m) l
 |[],_=>rfl
 |(k,x)::l,m=>by simp only[List.cons_append,gi,lV S l m]
theorem gm.rep{v:Value}{x:TV}(h:gm R w NS v x):Rep R w x v/\v.oneCell'=NS:=by obtain⟨t,l,rfl,⟨rfl,rfl⟩|⟨g,cap,cur,e,fz,rfl,h1,h2,h3,h4,h5,h6,h7⟩⟩:=h;{exact⟨.sn t,rfl⟩};{refine⟨.sl rfl h4 h5 (mP.write (ys:=cur.toList.take (l.length*t.size)) ?_ h6 (λj hj=>(h7 _).2 ⟨rfl,by rwa[bj,Nat.zero_add]at*⟩) (λj y hy=>?_)),rfl⟩;{intro x hx;obtain⟨y,_,rfl⟩:=bn.1 hx;exact fE.oa t y};{rw[bc]at hy;split at hy;{simp only[World.cell?,h1,Nat.zero_add];simpa using hy};{cases hy}}}
theorem O6{x:TV}{v:Value}(h:Rep R w x v):Rep R w (nrm x) v:=by
 unfold nrm;split
 ·cases h with
  |sc h=>cases h
  |nl=>exact .sn _
 {exact h}
theorem sE:∀{xs:List TV}{ys:List Value},dR R w xs ys->dR R w (xs.map nrm) ys
 |_,_,.nil=>.nil
 |_,_,.cons a h t=>.cons a (O6 h) (sE t)
theorem Ce{x:TV}{v:Value}(h:Rep R w x v):Rep R w (Vm x) v:=by
 unfold Vm;split
 ·cases h with
  |sc h=>cases h
  |nl=>exact .sn _
 ·cases h with
  |sc h=>cases h
  |ag h=>exact .ag (sE h)
 {exact h}
theorem lM.rep{x:TV}{v:Value}(h:fo R w τ x .no v):Rep R w x v:=by unfold fo at h;split at h;{rw[h];exact .We _};{exact .Um h};{exact h}
theorem GX(h:Core nt R w eG τ S)(hV:Lq V S){k:Nat}{x:TV}{ws:List (Nat×Cell)}(hk:nt<=k)(he:H9 V (.pt,.fF k)=BQ (x,ws)):∃R',Core nt R' w eG τ (gi S ws)/\Fz eG R w R'/\Rep R' w x (τ k)/\Lq V (gi S ws)/\(∀p∈ws,p.1=k)/\x.plain=NS:=by have plain:∀{R p v x},gm R w p v x->x.plain=NS:=λh=>by{obtain⟨_,_,rfl,_⟩:=h;rfl};have base:∀{y:TV}{g:Gh},S k=(y,g)->g=.lv->(∃R',Core nt R' w eG τ S/\Fz eG R w R'/\Rep R' w y (τ k))/\y.plain=NS:=λ{y g}e hg=>by{have:=h.key k;subst hg;rw[e]at this;exact⟨⟨R,h,Fz.refl _ _ _,(gm.rep this).1⟩,plain this⟩};simp only[H9]at he;split at he;{rename_i y e;cases he;have hq:Lq V (cX S k (x,.lv)):=λj=>by{by_cases ej:j=k;{subst ej;rw[cO,e];exact .inr (.inr ⟨rfl,rfl⟩)};{rw[fH _ _ ej];exact hV j}};rcases hV k with e1|e1|⟨_,e1⟩;{rw[e]at e1;have hp:=h.key k;rw[<-e1]at hp;obtain⟨R',h1,h2,h3,_⟩:=h.freeze hk e1.symm;exact⟨R',h1,h2,h3,hq,by simp,plain hp⟩};{rw[e]at e1;cases e1};{rw[e]at e1;obtain⟨⟨R',h1,h2,h3⟩,h4⟩:=base e1 rfl;refine⟨R',?_,h2,h3,hq,by simp,h4⟩;show Core nt R' w eG τ (cX S k _);rwa[IV e1]}};{rename_i y e;cases he;have e1:S k=(x,.lv):=by{rcases hV k with e1|e1|⟨e1,_⟩;{rw[e]at e1;exact e1.symm};{rw[e]at e1;cases e1};{rw[e]at e1;cases e1}};obtain⟨⟨R',h1,h2,h3⟩,h4⟩:=base e1 rfl;exact⟨R',h1,h2,h3,hV,by simp,h4⟩};{rename_i y e;obtain⟨C5,he⟩:=bL.1 he;cases he;have e1:S k=(x,.us):=by{rcases hV k with e1|e1|⟨e1,_⟩;{rw[e]at e1;exact e1.symm};{rw[e]at e1;cases e1};{rw[e]at e1;cases e1}};have:=h.key k;rw[e1]at this;exact⟨R,h,Fz.refl _ _ _,this,hV,by simp,C5⟩};{cases he}
theorem dR.set:∀{xs:List TV}{ys:List Value}{i:Nat}{x:TV},dR R w xs ys->(∀y,ys[i]?=BQ y->Rep R w x y)->dR R w (xs.set i x) ys
 |_,_,_,_,.nil,_=>by simpa using .nil
 |_,_,0,_,.cons a h t,hx=>.cons a (hx _ rfl) t
 |_,_,i+1,_,.cons a h t,hx=>.cons a h (t.set λy hy=>hx y (by simpa using hy))
theorem qU{o n:Nat}:∀{ts:List (Nat×Nat)}{R:Reach}{S:St}{cs ds:List TV}{ys:List Value}{ws:List (Nat×Cell)},Core nt R w eG τ S->Lq V S->dR R w cs ys->(∀t∈ts,nt<=t.2/\ys[t.1]?=BQ (τ t.2))->
  qV V o n ts cs=BQ (ds,ws)->∃R',Core nt R' w eG τ (gi S ws)/\Fz eG R w R'/\dR R' w ds ys/\Lq V (gi S ws)/\(∀p∈ws,p.1∈ts.map (·.2))/\ds.length=cs.length
 |[],R,S,_,_,_,_,h,hV,hL,_,he=>by cases he;exact⟨R,h,Fz.refl _ _ _,hL,hV,by simp,rfl⟩
 |(c,k)::ts,R,S,_,_,_,_,h,hV,hL,ht,he=>by
  simp only[qV]at he;split at he
  ·rename_i cs ws e1;obtain⟨R1,h1,k1,r1,q1,p1,l1⟩:=qU h hV hL (λt h=>ht t (List.mem_cons_of_mem _ h)) e1;have p1':∀p∈ws,p.1∈(((c,k)::ts).map (·.2)):=λp hp=>List.mem_cons_of_mem _ (p1 p hp);cases hb:(Nat.ble o c&&Nat.blt c (o+n))with
   |true=>rw[hb,au]at he;split at he;{rename_i x us e2;cases he;obtain⟨h3,h4⟩:=ht (c,k) (List.mem_cons_self ..);obtain⟨R2,h2,k2,r2,q2,p2,_⟩:=GX h1 q1 h3 e2;rw[lV];refine⟨R2,h2,k1.trans k2,(r1.mono k2.1).set λy hy=>?_,q2,λp hp=>?_,by rw[List.length_set,l1]⟩;{rw[h4]at hy;cases hy;exact r2};{rcases List.mem_append.1 hp with hp|hp;{rw[p2 p hp];exact List.mem_cons_self ..};{exact p1' p hp}}};{cases he}
   |false=>rw[hb,ai]at he;cases he;exact⟨R1,h1,k1,r1,q1,p1',l1⟩
  {cases he}
theorem CH(h:Core nt R w eG τ S)(hV:Lq V S){c:Cell}{v:Value}{x:TV}{ws:List (Nat×Cell)}(hs:fo R w τ c.1 c.2 v)(hc:∀m∈c.2.dA,nt<=m)(he:EH V c=BQ (x,ws)):∃R',Core nt R' w eG τ (gi S ws)/\Fz eG R w R'/\Rep R' w x v/\Lq V (gi S ws):=by
 obtain⟨y,g⟩:=c;cases g with
 |fF k=>(cases y<;>try(simp only[EH,H9]at he;cases he));obtain⟨R',h1,h2,h3,h4,_⟩:=GX h hV (hc k (by simp[Gh.dA])) he;have:v=τ k:=hs.1;exact⟨R',h1,h2,this▸h3,h4⟩
 |no=>simp only[EH,H9,aN,Prod.mk.injEq]at he;obtain⟨rfl,rfl⟩:=he;exact⟨R,h,Fz.refl _ _ _,Ce (lM.rep hs),hV⟩
 |ow l=>(cases y<;>try(simp only[EH,H9]at he;cases he));simp only[EH]at he;split at he;{rename_i hf;cases he;obtain⟨ys,vs,hv,hx,h3,h4⟩:∃ys vs,v=.agg ⟨ys⟩/\_=TV.ag vs/\dR R w vs ys/\∀p∈l,ys[p.1]?=BQ (τ p.2):=hs;cases hx;obtain⟨R',k1,k2,k3,k4,_⟩:=qU h hV h3 (λt ht=>⟨hc t.2 (bn.2 ⟨t,ht,rfl⟩),h4 t ht⟩) hf;exact⟨R',k1,k2,by rw[hv];exact .ag (sE k3),k4⟩};{cases he}
 |_=>simp only[EH,H9]at he;cases he
inductive Cells (R:Reach) (w:World) (τ:Nat->Value) (nt:Nat):List Cell->List Value->Prop
 |nil:Cells R w τ nt [] []
 |cons {c:Cell} {v:Value} {cs:List Cell} {vs:List Value}:fo R w τ c.1 c.2 v->(∀m∈c.2.dA,nt<=m)->Cells R w τ nt cs vs->Cells R w τ nt (c::cs) (v::vs)
theorem GV:∀{cs:List Cell}{R:Reach}{S:St}{vs:List Value}{xs:List TV}{ws:List (Nat×Cell)},Core nt R w eG τ S->Lq V S->Cells R w τ nt cs vs->Oe V cs=BQ (xs,ws)->
  ∃R',Core nt R' w eG τ (gi S ws)/\Fz eG R w R'/\jy R' w xs vs/\Lq V (gi S ws)
 |[],R,S,_,_,_,h,hV,.nil,he=>by cases he;exact⟨R,h,Fz.refl _ _ _,.nil,hV⟩
 |c::cs,R,S,_,_,_,h,hV,.cons a b t,he=>by simp only[Oe]at he;split at he;{rename_i x ws e1;split at he;{rename_i xs us e2;cases he;obtain⟨R1,h1,k1,r1,q1⟩:=GV h hV t e2;obtain⟨R2,h2,k2,r2,q2⟩:=CH h1 q1 (a.eC k1.1 λ_ _=>rfl) b e1;rw[lV];exact⟨R2,h2,k1.trans k2,.cons r2 (r1.mono k2.1),q2⟩};{cases he}};{cases he}
end
structure Ext (w0:World) (R0:Reach) (io:Nat->Prop) (w:World) (R:Reach):Prop where
 os:w.os=w0.os
 tape:w.tape=w0.tape
 output:w.output=w0.output
 size:w0.heap.size<=w.heap.size
 heap:∀b,b<w0.heap.size->¬io b->w.heap[b]?=w0.heap[b]?
 eC:fq R0 w0 R w
 I4:∀b o,R b o->R0 b o\/w0.heap.size<=b\/io b
def Ext.refl(w:World)(R:Reach)(io:Nat->Prop):Ext w R io w R:=⟨rfl,rfl,rfl,Nat.le_refl _,λ_ _ _=>rfl,fq.refl _ _,λ_ _ h=>.inl h⟩
def Ext.trans{w0 w1 w2:World}{R0 R1 R2:Reach}{io io':Nat->Prop}(h:Ext w0 R0 io w1 R1)(k:Ext w1 R1 io' w2 R2)(hi:∀b,io' b->io b\/w0.heap.size<=b):Ext w0 R0 io w2 R2 where
 os:=k.os.trans h.os
 tape:=k.tape.trans h.tape
 output:=k.output.trans h.output
 size:=Nat.le_trans h.size k.size
 heap b hb hn:=(k.heap b (Nat.lt_of_lt_of_le hb h.size) (λc=>by rcases hi b c with c|c<;>first|exact hn c|omega)).trans (h.heap b hb hn)
 eC:=h.eC.trans k.eC
 I4 b o hr:=by
  rcases k.I4 b o hr with r|r|r
  ·exact h.I4 b o r
  ·exact .inr (.inl (Nat.le_trans h.size r))
  ·rcases hi b r with r|r
   ·exact .inr (.inr r)
   ·exact .inr (.inl r)
structure Ctx where
 P:Program
 E:cE
 nt:Nat
 w0:World
 R0:Reach
 io:Nat->Prop
 τ0:Nat->Value
 gl:Nat->Option (List Value)
def Ctx.eG(C:Ctx)(b:Nat):Prop:=C.io b\/C.w0.heap.size<=b
def GlOK(gl:Nat->Option (List Value))(R:Reach)(w:World):Prop:=∀n zs,gl n=BQ zs->∀o,R n o/\w.cell? ⟨n,o,Ku⟩=zs[o]?
def GlOK.eC{gl:Nat->Option (List Value)}{R R':Reach}{w w':World}(h:GlOK gl R w)(k:fq R w R' w'):GlOK gl R' w':=λn zs hn o=>⟨(k _ _ (h n zs hn o).1).1,(k _ _ (h n zs hn o).1).2.trans (h n zs hn o).2⟩
structure fP (C:Ctx) (S:St) (a:Act) (w:World) (R:Reach) (τ:Nat->Value):Prop where
 size:a.tmps.size=C.nt
 defers:a.defers=[]
 core:Core C.nt R w C.eG τ S
 tmps:∀t,t<C.nt->a.tmps.getD t undef=τ t
 io:C.nt<=1000000/\∀k,1000000<=k->τ k=C.τ0 k
 ext:Ext C.w0 C.R0 C.io w R
 gl:GlOK C.gl R w
def yq(C:Ctx)(S:St)(a:Act)(w:World):Prop:=∃R τ,fP C S a w R τ
section
variable{C:Ctx}{S V:St}{a:Act}{w:World}{R:Reach}{τ:Nat->Value}{o:Oper}{d:Nat}{K:Act->World->Prop}{Q:Exit->Act->World->Prop}
theorem Ext.reach{w0 w:World}{R0 R R':Reach}{io:Nat->Prop}(h:Ext w0 R0 io w R)(k:fq R w R' w)(hn:∀b o,R' b o->R b o\/io b\/w0.heap.size<=b):Ext w0 R0 io w R':={h with eC:=h.eC.trans k,I4:=λb o hr=>by rcases hn b o hr with r|r|r;exact h.I4 b o r;exact .inr (.inr r);exact .inr (.inl r)}
end
def oF:BinOp->Value->Value->Option Value
 |.shl,.int k a,.int _ b=>if b<0 then Ku else BQ (.int k (k.wrap (a*2^(min b.toNat k.bits))))
 |.shr,.int k a,.int _ b=>if b<0 then Ku else BQ (.int k (a.fdiv (2^(min b.toNat k.bits))))
 |.add,.int k a,.int k' b=>if k=k' then BQ (.int k (k.wrap (a+b)))else Ku
 |.sub,.int k a,.int k' b=>if k=k' then BQ (.int k (k.wrap (a -b)))else Ku
 |.mul,.int k a,.int k' b=>if k=k' then BQ (.int k (k.wrap (a*b)))else Ku
 |.quo,.int k a,.int k' b=>if k=k' then(if b=0 then Ku else BQ (.int k (k.wrap (a.tdiv b))))else Ku
 |.rem,.int k a,.int k' b=>if k=k' then(if b=0 then Ku else BQ (.int k (a.tmod b)))else Ku
 |.and,.int k a,.int k' b=>if k=k' then BQ (.int k (dm .and k a b))else Ku
 |.or,.int k a,.int k' b=>if k=k' then BQ (.int k (dm .or k a b))else Ku
 |.xor,.int k a,.int k' b=>if k=k' then BQ (.int k (dm .xor k a b))else Ku
 |.andNot,.int k a,.int k' b=>if k=k' then BQ (.int k (dm .andNot k a b))else Ku
 |.eql,.int k a,.int k' b=>if k=k' then BQ (.bool (a==b))else Ku
 |.neq,.int k a,.int k' b=>if k=k' then BQ (.bool (a !=b))else Ku
 |.lss,.int k a,.int k' b=>if k=k' then BQ (.bool (oG (a<b)))else Ku
 |.leq,.int k a,.int k' b=>if k=k' then BQ (.bool (oG (a<=b)))else Ku
 |.gtr,.int k a,.int k' b=>if k=k' then BQ (.bool (oG (a>b)))else Ku
 |.geq,.int k a,.int k' b=>if k=k' then BQ (.bool (oG (a>=b)))else Ku
 |.add,.string a,.string b=>if((a.size+b.size:Nat):Int)>IntKind.i64.max then Ku else BQ (.string (a++b))
 |.eql,.string a,.string b=>BQ (.bool (a.toList==b.toList))
 |.neq,.string a,.string b=>BQ (.bool (!(a.toList==b.toList)))
 |o,x,y=>EI o x y
def YN:UnOp->Value->Option Value
 |.neg,.int k n=>BQ (.int k (k.wrap (0 -n)))
 |.xor,.int k n=>BQ (.int k (dm .xor k (if k.signed then -1 else k.max) n))
 |.not,.bool b=>BQ (.bool !b)
 |.neg,.float .f64 a=>BQ (.float .f64 (Fl.neg a))
 |_,_=>Ku
def TV.Et{x:TV}{k:IntKind}{n:Int}(h:x.int?=BQ (k,n)):x.val=BQ (.int k n):=by cases x<;>simp[TV.int?]at h<;>obtain⟨rfl,rfl⟩:=h<;>rfl
def rM(n:Int)(m:Nat)(h:0<m):(((n%(m:Int)).toNat% m:Nat):Int)=n% m:=by have h1:0<=n%(m:Int):=Int.emod_nonneg _ (by omega);have h2:n%(m:Int)<m:=Int.emod_lt_of_pos _ (by omega);rw[Nat.mod_eq_of_lt (by omega)];omega
theorem yA(n:Int):((UInt8.ofInt n).toNat:Int)=IntKind.u8.wrap n:=by have:IntKind.u8.wrap n=n%(256:Nat):=by{rfl};rw[this,UInt8.ofInt,UInt8.toNat_ofNat'];exact rM n 256 (by decide)
def vX(n:Int):((UInt16.ofInt n).toNat:Int)=IntKind.u16.wrap n:=by have:IntKind.u16.wrap n=n%(65536:Nat):=by{rfl};rw[this,UInt16.ofInt,UInt16.toNat_ofNat'];exact rM n 65536 (by decide)
def vW(n:Int):((UInt32.ofInt n).toNat:Int)=IntKind.u32.wrap n:=by have:IntKind.u32.wrap n=n%(4294967296:Nat):=by{rfl};rw[this,UInt32.ofInt,UInt32.toNat_ofNat'];exact rM n 4294967296 (by decide)
theorem vV(n:Int):((UInt64.ofInt n).toNat:Int)=IntKind.u64.wrap n:=by have:IntKind.u64.wrap n=n%(18446744073709551616:Nat):=by{rfl};rw[this,UInt64.ofInt,UInt64.toNat_ofNat'];exact rM n 18446744073709551616 (by decide)
def JB(k:IntKind)(n:Int):(H2 k n).val=BQ (.int k (k.wrap n)):=by cases k<;>simp only[H2,TV.val,aN,Value.int.injEq,true_and];{exact yA n};{exact vX n};{exact vW n};{exact vV n}
theorem Uv(n:Int):IntKind.u8.wrap n=n%256:=by simp[IntKind.wrap,IntKind.bits,IntKind.signed]
theorem aaE(a:UInt8):BitVec.ofInt 8 (a.toNat:Int)=a.toBitVec:=by simp
theorem me(n:Int):IntKind.u16.wrap n=n%65536:=by simp[IntKind.wrap,IntKind.bits,IntKind.signed]
theorem aar(a:UInt16):BitVec.ofInt 16 (a.toNat:Int)=a.toBitVec:=by simp
theorem Us(n:Int):IntKind.u32.wrap n=n%4294967296:=by rfl
theorem aaq(a:UInt32):BitVec.ofInt 32 (a.toNat:Int)=a.toBitVec:=by simp
theorem mQ(n:Int):IntKind.u64.wrap n=n%18446744073709551616:=by rfl
theorem aap(a:UInt64):BitVec.ofInt 64 (a.toNat:Int)=a.toBitVec:=by simp
def P4 {o : BinOp} {a b : UInt8} {ws : List TV} (h : (TG o a b).holds ws) : ∃ x : TV, ws = [x] ∧ ∃ v, x.val = BQ v ∧ oF o (.int .u8 a.toNat) (.int .u8 b.toNat) = BQ v := by
  have ha := a.toNat_lt
  have hb := b.toNat_lt
  cases o <;> simp only [TG] at h <;> first | exact h.elim | skip
  all_goals first
    | (obtain ⟨hp, rfl⟩ := h; refine ⟨_, rfl, _, rfl, ?_⟩; simp at hp
       have uL : (b.toNat : Int) ≠ 0 := fun e => hp (UInt8.toNat_inj.1 (by simpa using e))
       simp only [oF, if_true, uL, if_false, aN, Value.int.injEq, true_and, UInt8.toNat_div, UInt8.toNat_mod, Uv, Int.tdiv_eq_ediv_of_nonneg (Int.natCast_nonneg a.toNat), Int.tmod_eq_emod_of_nonneg (Int.natCast_nonneg a.toNat)]
       first | (rw [← Int.natCast_ediv]; have := Nat.div_le_self a.toNat b.toNat; generalize a.toNat / b.toNat = q at this ⊢; omega) | omega)
    | (subst h; refine ⟨_, rfl, _, rfl, ?_⟩
       simp only [oF, if_true, aN, Value.int.injEq, Value.bool.injEq, true_and, Uv, dm, IntKind.bits, aaE, UInt8.toNat_add, UInt8.toNat_sub, UInt8.toNat_mul]
       first | omega | (rw [bo (by omega) (by rfl)]; rfl)
             | (rw [bo (by omega) (by omega)]; rfl)
             | (rw [aO]; simp [← UInt8.toNat_inj]; omega)
             | (rw [aO]; simp [UInt8.lt_iff_toNat_lt, UInt8.le_iff_toNat_le]))
def Nz {o : BinOp} {a b : UInt16} {ws : List TV} (h : (NA o a b).holds ws) : ∃ x : TV, ws = [x] ∧ ∃ v, x.val = BQ v ∧ oF o (.int .u16 a.toNat) (.int .u16 b.toNat) = BQ v := by
  have ha := a.toNat_lt
  have hb := b.toNat_lt
  cases o <;> simp only [NA] at h <;> first | exact h.elim | skip
  all_goals first
    | (obtain ⟨hp, rfl⟩ := h; refine ⟨_, rfl, _, rfl, ?_⟩; simp at hp
       have uL : (b.toNat : Int) ≠ 0 := fun e => hp (UInt16.toNat_inj.1 (by simpa using e))
       simp only [oF, if_true, uL, if_false, aN, Value.int.injEq, true_and, UInt16.toNat_div, UInt16.toNat_mod, me, Int.tdiv_eq_ediv_of_nonneg (Int.natCast_nonneg a.toNat), Int.tmod_eq_emod_of_nonneg (Int.natCast_nonneg a.toNat)]
       first | (rw [← Int.natCast_ediv]; have := Nat.div_le_self a.toNat b.toNat; generalize a.toNat / b.toNat = q at this ⊢; omega) | omega)
    | (subst h; refine ⟨_, rfl, _, rfl, ?_⟩
       simp only [oF, if_true, aN, Value.int.injEq, Value.bool.injEq, true_and, me, dm, IntKind.bits, aar, UInt16.toNat_add, UInt16.toNat_sub, UInt16.toNat_mul]
       first | omega | (rw [bo (by omega) (by rfl)]; rfl)
             | (rw [bo (by omega) (by omega)]; rfl)
             | (rw [aO]; simp [← UInt16.toNat_inj]; omega)
             | (rw [aO]; simp [UInt16.lt_iff_toNat_lt, UInt16.le_iff_toNat_le]))
def Nx {o : BinOp} {a b : UInt32} {ws : List TV} (h : (Ny o a b).holds ws) : ∃ x : TV, ws = [x] ∧ ∃ v, x.val = BQ v ∧ oF o (.int .u32 a.toNat) (.int .u32 b.toNat) = BQ v := by
  have ha := a.toNat_lt
  have hb := b.toNat_lt
  cases o <;> simp only [Ny] at h <;> first | exact h.elim | skip
  all_goals first
    | (obtain ⟨hp, rfl⟩ := h; refine ⟨_, rfl, _, rfl, ?_⟩; simp at hp
       have uL : (b.toNat : Int) ≠ 0 := fun e => hp (UInt32.toNat_inj.1 (by simpa using e))
       simp only [oF, if_true, uL, if_false, aN, Value.int.injEq, true_and, UInt32.toNat_div, UInt32.toNat_mod, Us, Int.tdiv_eq_ediv_of_nonneg (Int.natCast_nonneg a.toNat), Int.tmod_eq_emod_of_nonneg (Int.natCast_nonneg a.toNat)]
       first | (rw [← Int.natCast_ediv]; have := Nat.div_le_self a.toNat b.toNat; generalize a.toNat / b.toNat = q at this ⊢; omega) | omega)
    | (subst h; refine ⟨_, rfl, _, rfl, ?_⟩
       simp only [oF, if_true, aN, Value.int.injEq, Value.bool.injEq, true_and, Us, dm, IntKind.bits, aaq, UInt32.toNat_add, UInt32.toNat_sub, UInt32.toNat_mul]
       first | omega | (rw [bo (by omega) (by rfl)]; rfl)
             | (rw [bo (by omega) (by omega)]; rfl)
             | (rw [aO]; simp [← UInt32.toNat_inj]; omega)
             | (rw [aO]; simp [UInt32.lt_iff_toNat_lt, UInt32.le_iff_toNat_le]))
def Nv {o : BinOp} {a b : UInt64} {ws : List TV} (h : (Nw o a b).holds ws) : ∃ x : TV, ws = [x] ∧ ∃ v, x.val = BQ v ∧ oF o (.int .u64 a.toNat) (.int .u64 b.toNat) = BQ v := by
  have ha := a.toNat_lt
  have hb := b.toNat_lt
  cases o <;> simp only [Nw] at h <;> first | exact h.elim | skip
  all_goals first
    | (obtain ⟨hp, rfl⟩ := h; refine ⟨_, rfl, _, rfl, ?_⟩; simp at hp
       have uL : (b.toNat : Int) ≠ 0 := fun e => hp (aW.1 (by simpa using e))
       simp only [oF, if_true, uL, if_false, aN, Value.int.injEq, true_and, UInt64.toNat_div, UInt64.toNat_mod, mQ, Int.tdiv_eq_ediv_of_nonneg (Int.natCast_nonneg a.toNat), Int.tmod_eq_emod_of_nonneg (Int.natCast_nonneg a.toNat)]
       first | (rw [← Int.natCast_ediv]; have := Nat.div_le_self a.toNat b.toNat; generalize a.toNat / b.toNat = q at this ⊢; omega) | omega)
    | (subst h; refine ⟨_, rfl, _, rfl, ?_⟩
       simp only [oF, if_true, aN, Value.int.injEq, Value.bool.injEq, true_and, mQ, dm, IntKind.bits, aap, UInt64.toNat_add, UInt64.toNat_sub, UInt64.toNat_mul]
       first | omega | (rw [bo (by omega) (by rfl)]; rfl)
             | (rw [bo (by omega) (by omega)]; rfl)
             | (rw [aO]; simp [← aW]; omega)
             | (rw [aO]; simp [aI, aL]))
def xU{a n b m:Nat}(hm:m=2^b):(a*2^(min n b))% m=(a*2^n)% m:=by subst hm;by_cases h:n<=b;{simp_all};{rw[Nat.min_eq_right (by omega),show n=b+(n -b) by omega,Nat.pow_add,<-Nat.mul_assoc,Nat.mul_mod_left,Nat.mul_right_comm,Nat.mul_mod_left]}
def xS{a n b m:Nat}(hm:m=2^b)(ha:a<m):a/2^(min n b)=(a/2^n)% m:=by subst hm;rw[Nat.mod_eq_of_lt (Nat.lt_of_le_of_lt (Nat.div_le_self _ _) ha)];by_cases h:n<=b;{simp_all};{rw[Nat.min_eq_right (by omega),Nat.div_eq_of_lt ha,Nat.div_eq_of_lt (Nat.lt_of_lt_of_le ha (Nat.pow_le_pow_right (by omega) (by omega)))]}
def pk(l:bD):ByteArray.toList ⟨⟨l⟩⟩=l:=by rw[ByteArray.toList_eq]
def sa.H7(r:sa)(P:TV->Prop):Prop:=∀ws,r.holds ws->∃x:TV,ws=[x]/\P x
def NZ(o:BinOp)(x y:TV)(z:TV):Prop:=∃a b v,x.val=BQ a/\y.val=BQ b/\oF o a b=BQ v/\z.val=BQ v
def xl{p:Option Bool}{ws r:List TV}(h:(sa.under p ws).holds r):r=ws/\∀b,p=BQ b->b=NS:=by
 cases p with
 |none=>exact⟨h,λ_ e=>by cases e⟩
 |some p=>exact⟨h.2,λ_ e=>by cases e;exact h.1⟩
def BF{y:TV}{p:Option Bool}{n:Nat}(h:y.count=BQ (p,n))(hp:∀b,p=BQ b->b=NS):∃k m,y.val=BQ (.int k m)/\0<=m/\m.toNat=n:=by cases y<;>simp[TV.count]at h<;>obtain⟨rfl,rfl⟩:=h;{exact⟨_,_,rfl,by omega,by omega⟩};{exact⟨_,_,rfl,by omega,by omega⟩};{exact⟨_,_,rfl,by omega,by omega⟩};{exact⟨_,_,rfl,by omega,by omega⟩};{rename_i k m;have:=hp _ rfl;exact⟨_,_,rfl,by simpa using this,rfl⟩}
theorem OL(a:UInt8)(n:Nat):IntKind.u8.wrap ((a.toNat:Int)*2^(min n 8))=((o9 a n).toNat:Int):=by rw[Uv,o9,UInt8.toNat_ofNat',show((a.toNat:Int)*2^(min n 8))=((a.toNat*2^(min n 8):Nat):Int) by simp];have:=xU (a:=a.toNat) (n:=n) (b:=8) (m:=256) (by decide);omega
theorem OJ(a:UInt8)(n:Nat):IntKind.u8.wrap ((a.toNat:Int).fdiv (2^(min n 8)))=((oK a n).toNat:Int):=by rw[Uv,oK,UInt8.toNat_ofNat',Int.fdiv_eq_ediv_of_nonneg _ (Int.le_of_lt (Int.pow_pos (by decide))),show((a.toNat:Int)/2^(min n 8))=((a.toNat/2^(min n 8):Nat):Int) by simp];have:=xS (a:=a.toNat) (n:=n) (b:=8) (m:=256) (by decide) (by have:=a.toNat_lt;simpa using this);omega
theorem K2(a:UInt16)(n:Nat):IntKind.u16.wrap ((a.toNat:Int)*2^(min n 16))=((K3 a n).toNat:Int):=by rw[me,K3,UInt16.toNat_ofNat',show((a.toNat:Int)*2^(min n 16))=((a.toNat*2^(min n 16):Nat):Int) by simp];have:=xU (a:=a.toNat) (n:=n) (b:=16) (m:=65536) (by decide);omega
theorem KZ(a:UInt16)(n:Nat):IntKind.u16.wrap ((a.toNat:Int).fdiv (2^(min n 16)))=((uT a n).toNat:Int):=by rw[me,uT,UInt16.toNat_ofNat',Int.fdiv_eq_ediv_of_nonneg _ (Int.le_of_lt (Int.pow_pos (by decide))),show((a.toNat:Int)/2^(min n 16))=((a.toNat/2^(min n 16):Nat):Int) by simp];have:=xS (a:=a.toNat) (n:=n) (b:=16) (m:=65536) (by decide) (by have:=a.toNat_lt;simpa using this);omega
theorem K1(a:UInt32)(n:Nat):IntKind.u32.wrap ((a.toNat:Int)*2^(min n 32))=((uU a n).toNat:Int):=by rw[Us,uU,UInt32.toNat_ofNat',show((a.toNat:Int)*2^(min n 32))=((a.toNat*2^(min n 32):Nat):Int) by simp];have:=xU (a:=a.toNat) (n:=n) (b:=32) (m:=4294967296) (by decide);omega
theorem KY(a:UInt32)(n:Nat):IntKind.u32.wrap ((a.toNat:Int).fdiv (2^(min n 32)))=((yL a n).toNat:Int):=by rw[Us,yL,UInt32.toNat_ofNat',Int.fdiv_eq_ediv_of_nonneg _ (Int.le_of_lt (Int.pow_pos (by decide))),show((a.toNat:Int)/2^(min n 32))=((a.toNat/2^(min n 32):Nat):Int) by simp];have:=xS (a:=a.toNat) (n:=n) (b:=32) (m:=4294967296) (by decide) (by have:=a.toNat_lt;simpa using this);omega
theorem K0(a:UInt64)(n:Nat):IntKind.u64.wrap ((a.toNat:Int)*2^(min n 64))=((jB a n).toNat:Int):=by rw[mQ,jB,UInt64.toNat_ofNat',show((a.toNat:Int)*2^(min n 64))=((a.toNat*2^(min n 64):Nat):Int) by simp];have:=xU (a:=a.toNat) (n:=n) (b:=64) (m:=18446744073709551616) (by decide);omega
theorem KX(a:UInt64)(n:Nat):IntKind.u64.wrap ((a.toNat:Int).fdiv (2^(min n 64)))=((cK a n).toNat:Int):=by rw[mQ,cK,UInt64.toNat_ofNat',Int.fdiv_eq_ediv_of_nonneg _ (Int.le_of_lt (Int.pow_pos (by decide))),show((a.toNat:Int)/2^(min n 64))=((a.toNat/2^(min n 64):Nat):Int) by simp];have:=xS (a:=a.toNat) (n:=n) (b:=64) (m:=18446744073709551616) (by decide) (by have:=a.toNat_lt;simpa using this);omega
def xT{w:Nat}{m:Int}(a:Nat)(k:Nat)(h:(a:Int)<m):0<=(a:Int).fdiv (2^k)/\(a:Int).fdiv (2^k)<m:=by rw[Int.fdiv_eq_ediv_of_nonneg _ (Int.le_of_lt (Int.pow_pos (by decide)))];refine⟨Int.ediv_nonneg (by omega) (Int.le_of_lt (Int.pow_pos (by decide))),?_⟩;rw[show((a:Int)/2^k)=((a/2^k:Nat):Int) by simp];have:=Nat.div_le_self a (2^k);omega
def OK(x y:TV):(RQ x y).H7 (NZ .shl x y):=by intro ws h;unfold RQ at h;split at h;{rename_i p n hc;have key:∀{r:TV}{u:IntKind}{a:Int},(sa.under p [r]).holds ws->x.val=BQ (.int u a)->r.val=BQ (.int u (u.wrap (a*2^(min n u.bits))))->∃z:TV,ws=[z]/\NZ .shl x y z:=by{intro r u a h hx hr;obtain⟨rfl,hp⟩:=xl h;obtain⟨k,m,h1,h2,rfl⟩:=BF hc hp;refine⟨_,rfl,_,_,_,hx,h1,?_,hr⟩;simp only[oF,Int.not_lt.2 h2,if_false]};split at h;{exact key h rfl (by rw[show IntKind.u8.bits=8 from rfl,OL];rfl)};{exact key h rfl (by rw[show IntKind.u16.bits=16 from rfl,K2];rfl)};{exact key h rfl (by rw[show IntKind.u32.bits=32 from rfl,K1];rfl)};{exact key h rfl (by rw[show IntKind.u64.bits=64 from rfl,K0];rfl)};{exact key h rfl rfl};{exact h.elim}};{exact h.elim}
def OI(x y:TV):(RP x y).H7 (NZ .shr x y):=by intro ws h;unfold RP at h;split at h;{rename_i p n hc;have key:∀{r:TV}{u:IntKind}{a:Int},(sa.under p [r]).holds ws->x.val=BQ (.int u a)->r.val=BQ (.int u (a.fdiv (2^(min n u.bits))))->∃z:TV,ws=[z]/\NZ .shr x y z:=by{intro r u a h hx hr;obtain⟨rfl,hp⟩:=xl h;obtain⟨k,m,h1,h2,rfl⟩:=BF hc hp;refine⟨_,rfl,_,_,_,hx,h1,?_,hr⟩;simp only[oF,Int.not_lt.2 h2,if_false]};split at h;{rename_i a;have q:=xT (w:=0) a.toNat (min n 8) (m:=256) (by have:=a.toNat_lt;simp at this;omega);exact key h rfl (by rw[show IntKind.u8.bits=8 from rfl];simp only[TV.val];rw[<-OJ,Uv,bo q.1 q.2])};{rename_i a;have q:=xT (w:=0) a.toNat (min n 16) (m:=65536) (by have:=a.toNat_lt;simp at this;omega);exact key h rfl (by rw[show IntKind.u16.bits=16 from rfl];simp only[TV.val];rw[<-KZ,me,bo q.1 q.2])};{rename_i a;have q:=xT (w:=0) a.toNat (min n 32) (m:=4294967296) (by have:=a.toNat_lt;simp at this;omega);exact key h rfl (by rw[show IntKind.u32.bits=32 from rfl];simp only[TV.val];rw[<-KY,Us,bo q.1 q.2])};{rename_i a;have q:=xT (w:=0) a.toNat (min n 64) (m:=18446744073709551616) (by have:=a.toNat_lt;simp at this;omega);exact key h rfl (by rw[show IntKind.u64.bits=64 from rfl];simp only[TV.val];rw[<-KX,mQ,bo q.1 q.2])};{exact key h rfl rfl};{exact h.elim}};{exact h.elim}
def P3{o:BinOp}{k:IntKind}{a b:Int}{ws:List TV}(h:(TF o k a b).holds ws):∃x:TV,ws=[x]/\∃v,x.val=BQ v/\oF o (.int k a) (.int k b)=BQ v:=by
 (cases o<;>simp only[TF,sa.holds]at h<;>first|exact h.elim|skip);all_goals first
  |(obtain⟨hp,rfl⟩:=h;refine⟨_,rfl,_,rfl,?_⟩;simp only[Bool.not_eq_true',decide_eq_false_iff_not]at hp;simp only[oF,if_true,hp,if_false])
  |(subst h;refine⟨_,rfl,_,rfl,?_⟩;simp only[oF,if_true,aN,Value.bool.injEq];first|done|(rw[aO];simp))
def P2{o:BinOp}{a b:bD}{ws:List TV}(h:(TE o a b).holds ws):∃x:TV,ws=[x]/\∃v,x.val=BQ v/\oF o (.string ⟨⟨a⟩⟩) (.string ⟨⟨b⟩⟩)=BQ v:=by(cases o<;>simp only[TE,sa.holds]at h<;>first|exact h.elim|skip);{obtain⟨hp,rfl⟩:=h;refine⟨_,rfl,_,rfl,?_⟩;simp only[oF];have hp:a.length+b.length<=9223372036854775807:=by{simpa using hp};rw[ak];{simp only[aN,Value.string.injEq];apply ByteArray.ext;apply Array.ext';simp};{have:IntKind.i64.max=9223372036854775807:=by{decide};rw[this];simp only[ByteArray.size,Array.size];omega}};{subst h;refine⟨_,rfl,_,rfl,?_⟩;simp only[oF,pk,aN,Value.bool.injEq];rw[aO];simp};{subst h;refine⟨_,rfl,_,rfl,?_⟩;simp only[oF,pk,aN,Value.bool.injEq];rw[aO];simp};{subst h;refine⟨_,rfl,_,rfl,?_⟩;show BQ (Value.bool _)=_;simp only[pk]};{subst h;refine⟨_,rfl,_,rfl,?_⟩;show BQ (Value.bool _)=_;have e:(a==b)=oG (a=b):=by{rw[aO];simp};simp only[pk,e]};{subst h;refine⟨_,rfl,_,rfl,?_⟩;show BQ (Value.bool _)=_;have e:(a==b)=oG (a=b):=by{rw[aO];simp};simp only[pk,e]};{subst h;refine⟨_,rfl,_,rfl,?_⟩;show BQ (Value.bool _)=_;simp only[pk]}
def PH{o:BinOp}{a b:Value}{ws:List TV}(h:(Tf o a b).holds ws):∃x:TV,ws=[x]/\∃v,EI o a b=BQ v/\x.val=BQ v:=by unfold Tf at h;split at h;{obtain⟨h1,rfl⟩:=h;exact⟨_,rfl,_,ar h1,rfl⟩};{obtain⟨h1,rfl⟩:=h;exact⟨_,rfl,_,ar h1,rfl⟩};{obtain⟨h1,rfl⟩:=h;exact⟨_,rfl,_,ar h1,rfl⟩};{cases h;exact⟨_,rfl,_,rfl,rfl⟩};{cases h;exact⟨_,rfl,_,rfl,rfl⟩};{cases h;exact⟨_,rfl,_,rfl,rfl⟩};{cases h;exact⟨_,rfl,_,rfl,rfl⟩};{cases h;exact⟨_,rfl,_,rfl,rfl⟩};{cases h;exact⟨_,rfl,_,rfl,rfl⟩};{obtain⟨h1,rfl⟩:=h;exact⟨_,rfl,_,ar h1,rfl⟩};{obtain⟨h1,rfl⟩:=h;exact⟨_,rfl,_,ar h1,rfl⟩};{exact h.elim}
def JT{o:BinOp}{a b v:Value}(h:EI o a b=BQ v)(h1:ye o=Ku):oF o a b=BQ v:=by unfold EI at h;split at h<;>first|(cases h;done)|exact h
def P0(o:BinOp)(x y:TV):(P1 o x y).H7 (NZ o x y):=by intro ws h;unfold P1 at h;split at h;{rename_i e;have:o=.shl:=by{cases o<;>simp[ye]at e⊢};subst this;exact OK x y ws h};{rename_i e;have:o=.shr:=by{cases o<;>simp[ye]at e⊢};subst this;exact OI x y ws h};{split at h;{obtain⟨x,h1,v,h2,h3⟩:=P4 h;exact⟨x,h1,_,_,v,rfl,rfl,h3,h2⟩};{obtain⟨x,h1,v,h2,h3⟩:=Nz h;exact⟨x,h1,_,_,v,rfl,rfl,h3,h2⟩};{obtain⟨x,h1,v,h2,h3⟩:=Nx h;exact⟨x,h1,_,_,v,rfl,rfl,h3,h2⟩};{obtain⟨x,h1,v,h2,h3⟩:=Nv h;exact⟨x,h1,_,_,v,rfl,rfl,h3,h2⟩};{split at h;{rename_i e;subst e;obtain⟨x,h1,v,h2,h3⟩:=P3 h;exact⟨x,h1,_,_,v,rfl,rfl,h3,h2⟩};{exact h.elim}};{obtain⟨x,h1,v,h2,h3⟩:=P2 h;exact⟨x,h1,_,_,v,rfl,rfl,h3,h2⟩};{rename_i e _ _ _ _;obtain⟨x,h1,v,h2,h3⟩:=PH h;exact⟨x,h1,_,_,v,rfl,rfl,JT h2 (by assumption),h3⟩};{exact h.elim}}
def O7(a:UInt8):dm .xor .u8 (if IntKind.u8.signed then -1 else IntKind.u8.max) a.toNat=((~~~a).toNat:Int):=by have em:(if IntKind.u8.signed then(-1:Int)else IntKind.u8.max)=255:=by{decide};have e:BitVec.ofInt 8 255=BitVec.allOnes 8:=by{decide};rw[em];simp only[dm,IntKind.bits];rw[e,aaE,Uv];show(((BitVec.allOnes 8^^^a.toBitVec:BitVec 8).toNat:Int))%256=_;rw[BitVec.allOnes_xor];have:=(~~~a).toNat_lt;simp only[UInt8.toNat,UInt8.toBitVec_not]at this⊢;omega
def LD(a:UInt16):dm .xor .u16 (if IntKind.u16.signed then -1 else IntKind.u16.max) a.toNat=((~~~a).toNat:Int):=by have em:(if IntKind.u16.signed then(-1:Int)else IntKind.u16.max)=65535:=by{decide};have e:BitVec.ofInt 16 65535=BitVec.allOnes 16:=by{decide};rw[em];simp only[dm,IntKind.bits];rw[e,aar,me];show(((BitVec.allOnes 16^^^a.toBitVec:BitVec 16).toNat:Int))%65536=_;rw[BitVec.allOnes_xor];have:=(~~~a).toNat_lt;simp only[UInt16.toNat,UInt16.toBitVec_not]at this⊢;omega
def LC(a:UInt32):dm .xor .u32 (if IntKind.u32.signed then -1 else IntKind.u32.max) a.toNat=((~~~a).toNat:Int):=by have em:(if IntKind.u32.signed then(-1:Int)else IntKind.u32.max)=4294967295:=by{decide};have e:BitVec.ofInt 32 4294967295=BitVec.allOnes 32:=by{decide};rw[em];simp only[dm,IntKind.bits];rw[e,aaq,Us];show(((BitVec.allOnes 32^^^a.toBitVec:BitVec 32).toNat:Int))%4294967296=_;rw[BitVec.allOnes_xor];have:=(~~~a).toNat_lt;simp only[UInt32.toNat,UInt32.toBitVec_not]at this⊢;omega
def LB(a:UInt64):dm .xor .u64 (if IntKind.u64.signed then -1 else IntKind.u64.max) a.toNat=((~~~a).toNat:Int):=by have em:(if IntKind.u64.signed then(-1:Int)else IntKind.u64.max)=18446744073709551615:=by{decide};have e:BitVec.ofInt 64 18446744073709551615=BitVec.allOnes 64:=by{decide};rw[em];simp only[dm,IntKind.bits];rw[e,aap,mQ];show(((BitVec.allOnes 64^^^a.toBitVec:BitVec 64).toNat:Int))%18446744073709551616=_;rw[BitVec.allOnes_xor];have:=(~~~a).toNat_lt;simp only[UInt64.toNat,UInt64.toBitVec_not]at this⊢;omega
def Rx (o : UnOp) (x : TV) : (WZ o x).H7 (fun z => ∃ a v, x.val = BQ a ∧ YN o a = BQ v ∧ z.val = BQ v) := by
  intro ws h
  unfold WZ at h
  split at h <;> first
    | exact h.elim
    | (cases h; exact ⟨_, rfl, _, _, rfl, rfl, rfl⟩)
    | (cases h; refine ⟨_, rfl, _, _, rfl, rfl, ?_⟩
       rename_i a
       have := a.toNat_lt
       simp only [TV.val, aN, Value.int.injEq, true_and]
       first
         | (rw [Uv, UInt8.toNat_sub]; simp; omega)
         | (rw [me, UInt16.toNat_sub]; simp; omega)
         | (rw [Us, UInt32.toNat_sub]; simp; omega)
         | (rw [mQ, UInt64.toNat_sub]; simp; omega)
         | exact (O7 a).symm | exact (LD a).symm | exact (LC a).symm | exact (LB a).symm)
def sT(P:Program)(t:TypeId):Bool:=match P.underlying t with
 |some (.struct fs)=>fs.toList.all λf=>(P.info? f.type).isSome
 |some (.array _ e)=>(P.info? e).isSome
 |_=>NT
structure kZ (P:Program) (E:cE):Prop where
 mixed:P.follows .mixedOrders=NS
 ty:∀t st b,E.ty t=BQ (st,b)->∃e i z,P.underlying t=BQ (.slice e)/\P.info? e=BQ i/\i.size=st.size/\i.bytes=b/\i.zero=BQ z/\z.cells.size=st.size/\∀R w,dR R w (st.tv st.fu).cells z.cells.toList
 z:∀t l,E.z t=BQ l->sT P t=NS/\∃v,(P.info? t).bind (·.zero)=BQ v/\sb v.cells.toList l=NS
section
variable{R:Reach}{w:World}
theorem Pr {k : IntKind} {n : Int} {x : TV} (h : Sn k n = BQ x) : x.val = BQ (.int k n) := by
  unfold Sn at h
  split at h <;> first
    | (obtain ⟨h1, h2⟩ := bL.1 h
       cases h2
       simp only [af, aD] at h1
       simp [TV.val]
       omega)
    | (cases h; rfl)
theorem OH(s:ByteArray):(⟨⟨s.data.toList⟩⟩:ByteArray)=s:=rfl
theorem RT{v:Value}{x:TV}(h:YV v=BQ x):x.val=BQ v:=by unfold YV at h;split at h<;>first|exact Pr h|(cases h;done)|(cases h;rfl)
theorem yr{v:Value}{x:TV}(h:Hm v x=NS):Rep R w x v/\v.oneCell'=NS:=by unfold Hm at h;(split at h<;>first|(cases h;done)|skip);{exact⟨.nl _,rfl⟩};(all_goals simp only[beq_iff_eq,af]at h);{subst h;exact⟨.sc rfl,rfl⟩};{subst h;exact⟨.sc rfl,rfl⟩};{subst h;exact⟨.sc rfl,rfl⟩};{subst h;exact⟨.sc rfl,rfl⟩};{subst h;exact⟨.sc rfl,rfl⟩};{obtain⟨rfl,rfl⟩:=h;exact⟨.sc rfl,rfl⟩};{subst h;exact⟨.sc (by simp only[TV.val,OH]),rfl⟩};{obtain⟨rfl,rfl⟩:=h;exact⟨.sc rfl,rfl⟩};{obtain⟨⟨rfl,rfl⟩,rfl⟩:=h;exact⟨.sc rfl,rfl⟩};{exact⟨.sc rfl,rfl⟩};{exact⟨.sc rfl,rfl⟩};{exact⟨.sc rfl,rfl⟩}
theorem sY:∀{vs:List Value}{xs:List TV},sb vs xs=NS->dR R w xs vs
 |[],[],_=>.nil
 |v::vs,x::xs,h=>by simp only[sb,af]at h;exact .cons (yr (R:=R) (w:=w) h.1).2 (yr h.1).1 (sY h.2)
 |[],_::_,h=>by simp[sb]at h
 |_::_,[],h=>by simp[sb]at h
theorem Rep.dW{x:TV}{u v:Value}(h:Rep R w x v)(hx:x.val=BQ u):v=u:=by cases h<;>first|(simp[TV.val]at hx;done)|(rename_i h;rw[h]at hx;exact Option.some.inj hx)
end
section
variable{P:Program}
theorem iq{t:TypeId}{n:Nat}{agg:Bool}(h:lj P t=BQ (n,agg)):∃i,P.info? t=BQ i/\i.size=n/\∀w,(isAgg t).run P w=.ok agg w:=by unfold lj at h;rw[aV]at h;obtain⟨i,h1,h2⟩:=h;rw[aU]at h2;obtain⟨d,hd,h2⟩:=h2;simp only[Prod.mk.injEq]at h2;refine⟨i,h1,h2.1,λw=>?_⟩;unfold isAgg;simp only[Sem.run_bind,run_underlying hd,Result.andThen_ok];rw[<-h2.2];cases d<;>rfl
theorem xE{t:TypeId}{f:Nat}{fl:Field}(h:wP P t f=BQ fl):∃fs,P.underlying t=BQ (.struct fs)/\fs[f]?=BQ fl:=by
 unfold wP at h;cases hu:P.underlying t with
 |none=>simp[hu]at h
 |some d=>simp only[hu,Option.bind_some]at h;split at h<;>simp_all
theorem T1{t:TypeId}{i:TypeInfo}(h:P.info? t=BQ i)(w:World):(sizeOf t).run P w=.ok i.size w:=by simp[sizeOf,typeInfo,h]
theorem kJ{t:TypeId}{i:TypeInfo}{agg:Bool}(hi:P.info? t=BQ i)(ha:∀w,(isAgg t).run P w=.ok agg w)(h1:agg=NS\/i.size=1){w:World}{b off:Nat}{ys:List Value}(hl:ys.length=i.size)(hc:∀j y,ys[j]?=BQ y->w.cell? ⟨b,off+j,Ku⟩=BQ y):(loadVar t ⟨b,off,Ku⟩).run P w=.ok (if agg then .agg ⟨ys⟩else ys.headD undef) w:=by
 unfold loadVar;simp only[Sem.run_bind,ha,Result.andThen_ok];cases agg with
 |true=>
  have:=run_loadCells_list (P:=P) w ⟨b,off,Ku⟩ ys (λj v hj=>by
   have h:=hc j v hj;unfold Addr.add;split;{rename_i e;subst e;exact h}
   ·exact h)
  simp[T1 hi,<-hl,this]
 |false=>
  have hs:i.size=1:=by{simpa using h1};match ys,hl with
  |[y],_=>have:=hc 0 y rfl;simp at this;simp[this]
  |[],hl=>simp[hs]at hl
  |_::_::_,hl=>simp[hs]at hl
end
def KS{α:Type}{l:List α}{i:Nat}(h:i<l.length):(l.drop i).take 1=[l[i]]:=by rw[List.drop_eq_getElem_cons h,List.take_succ_cons,List.take_zero]
theorem amc(b:ByteArray):b.data.toList.length=b.size:=by rw[Array.length_toList];rfl
theorem Ur(b off n:Nat):(⟨b,off,Ku⟩:Addr).add n=⟨b,off+n,Ku⟩:=by unfold Addr.add;split;{rename_i e;subst e;rfl};{rfl}
section
variable{R:Reach}{w:World}
theorem Rep.F7{t:fE}{l:List t.El}{y:Value}(h:Rep R w (.sl t l) y):(l=[]/\y=.slice Ku 0 0)\/(∃b off cap,y=.slice (BQ ⟨b,off,Ku⟩) l.length cap/\l.length<=cap/\cap<=maxLen/\mP R w t.size (l.map t.tv) b off)\/(l=[]/\∃ad cap,y=.slice (BQ ad) 0 cap/\cap<=maxLen):=by
 cases h with
 |sc h=>cases h
 |sn=>exact .inl ⟨rfl,rfl⟩
 |sl h1 h2 h3 h4=>subst h1;exact .inr (.inl ⟨_,_,_,rfl,h2,h3,h4⟩)
 |em _ h=>exact .inr (.inr ⟨rfl,_,_,rfl,h⟩)
theorem Rep.Gf{x:TV}{y:Value}(h:Rep R w (.ro x) y):∃b off s,y=.pointer (BQ ⟨b,off,Ku⟩)/\o7 R w s x b off:=by
 cases h with
 |sc h=>cases h
 |ro h=>exact⟨_,_,_,rfl,h⟩
theorem Rep.NN{cs:List TV}{y:Value}(h:Rep R w (.ag cs) y):∃ys,y=.agg ⟨ys⟩/\dR R w cs ys:=by
 cases h with
 |sc h=>cases h
 |ag h=>exact⟨_,rfl,h⟩
theorem Rep.RD{cs:List TV}{y:Value}(h:Rep R w (.tu cs) y):∃ys,y=.tuple ⟨ys⟩/\jy R w cs ys:=by
 cases h with
 |sc h=>cases h
 |tu h=>exact⟨_,rfl,h⟩
theorem Vc{x:TV}{ys:List Value}(h:dR R w x.cells ys):Rep R w x (if x.xK then .agg ⟨ys⟩else ys.headD undef):=by
 cases x with
 |ag cs=>exact .ag h
 |_=>
  simp only[TV.cells,TV.xK]at h⊢;cases h with
  |cons _ h1 h2=>cases h2;simpa using h1
theorem sB{cs:List TV}{ys:List Value}{o n:Nat}{agg:Bool}{x:TV}(h:dR R w cs ys)(hp:qg cs o n agg=BQ x)(h1:agg=NS\/n=1):((ys.drop o).take n).length=n/\Rep R w x (if agg then .agg ⟨(ys.drop o).take n⟩else((ys.drop o).take n).headD undef):=by
 have hlen:=h.length;unfold qg at hp;cases agg with
 |true=>
  cases hb:Nat.ble (o+n) cs.length with
  |true=>rw[hb]at hp;cases hp;have:=Nat.le_of_ble_eq_true hb;exact⟨by simp;omega,.ag ((h.drop o).take n)⟩
  |false=>rw[hb]at hp;cases hp
 |false=>simp at h1;subst h1;simp at hp;obtain⟨y,JE,_,JD⟩:=h.get o x hp;have gI:=(aH.1 JE).1;refine⟨by simp;omega,?_⟩;have:(ys.drop o).take 1=[y]:=by{rw[KS gI,(aH.1 JE).2]};simpa[this]using JD
end
section
variable{C:Ctx}{S V:St}{a:Act}{w:World}{R:Reach}{τ:Nat->Value}{o:Oper}{d:Nat}
theorem fo.no{x:TV}{v:Value}(h:Rep R w x v):fo R w τ x .no v:=by
 cases x with
 |gd q x=>cases q with
  |false=>cases h with
   |sc h=>cases h
   |We=>rfl
  |true=>cases h with
   |sc h=>cases h
   |Um h=>exact h
 |_=>exact h
def fM(C:Ctx)(o:Oper)(a:Act)(w:World)(S:St):Prop:=∀(K:Act->World->Prop)(Q:Exit->Act->World->Prop),(∀a' w',yq C S a' w'->K a' w')->o.wp C.P a w K Q
theorem fP.fz(h:fP C S a w R τ){S':St}{R':Reach}(hc:Core C.nt R' w C.eG τ S')(k:Fz C.eG R w R'):fP C S' a w R' τ:={h with core:=hc,ext:=h.ext.reach k.1 k.2,gl:=h.gl.eC k.1}
theorem fP.val(h:fP C S a w R τ)(hd:o.dst=BQ d)(hl:d<C.nt){v:Value}{x:TV}{g:Gh}(hr:(execOp a.eval o).run C.P w=.ok (.value v) w)(hs:fo R w τ x g v)(hg:g.slot=NS)(hm:∀k∈g.dA,C.nt<=k/\(S k).2≠.no):fM C o a w (cX S d (x,g)):=λK Q hK=>by unfold Oper.wp;rw[hr,Oper.upon_value,hd];refine hK _ _ ⟨R,_,by simp[Act.put,h.size],h.defers,h.core.put hl hs hg hm,λt ht=>?_,⟨h.io.1,λk hk=>?_⟩,h.ext,h.gl⟩;{by_cases e:t=d;{subst e;rw[iE];simp[Act.put,Array.getD,h.size,ht]};{rw[jz _ _ e,<-h.tmps t ht];simp only[Act.put,Array.getD_eq_getD_getElem?];rw[Array.getElem?_setIfInBounds_ne (Ne.symm e)]}};{have:=h.io.1;rw[jz _ _ (by omega)];exact h.io.2 k hk}
theorem fP.jq(h:fP C S a w R τ)(hd:o.dst=BQ d)(hl:d<C.nt){v:Value}{x:TV}(hr:(execOp a.eval o).run C.P w=.ok (.value v) w)(hs:Rep R w x v):fM C o a w (cX S d (x,.no)):=h.val hd hl hr (.no hs) rfl (by simp[Gh.dA])
theorem fo.at{x:TV}{g:Gh}{v:Value}(h:fo R w τ x g v)(hx:∀q y,x≠.gd q y):lM R w τ x g v:=by unfold fo at h;split at h;{exact(hx _ _ rfl).elim};{exact(hx _ _ rfl).elim};{exact h}
variable(h:fP C S a w R τ)(hV:Lt V S)
include h hV
theorem iy{t:TypeId}{x:Operand}{c:Cell}(he:ik C.E C.nt V t x=BQ c):fo R w τ c.1 c.2 (a.eval x)/\c.2.slot=NS/\∀m∈c.2.dA,C.nt<=m/\(S m).2≠.no:=by unfold ik at he;split at he;{rename_i i;obtain⟨h1,h2⟩:=bL.1 he;have hi:i<C.nt:=Nat.le_of_ble_eq_true h1;split at h2;{cases h2};{rename_i hn;cases h2;have e:V i=S i:=(hV i).resolve_right λe=>hn (V i).1 (by rw[<-e]);have hk:=h.core.key i;have hs:=h.core.slt i hi;rw[kY.slot hs]at hk;rw[e];exact⟨by simp only[Act.eval];rw[h.tmps i hi];exact hk,hs,h.core.inv i⟩}};{rename_i v;simp only[aU]at he;obtain⟨y,h1,rfl⟩:=he;refine⟨?_,rfl,by simp[Gh.dA]⟩;have hr:Rep R w y v:=by{unfold Na at h1;split at h1;{simp only[aU]at h1;obtain⟨p,_,rfl⟩:=h1;exact .nl _};{rename_i cs;rw[aV]at h1;obtain⟨z,_,h1⟩:=h1;obtain⟨h2,h3⟩:=bL.1 h1;cases h3;clear h1;cases cs;exact .ag (sY h2)};{exact .sc (RT h1)}};exact .no hr};{cases he;exact⟨Rep.sc rfl,rfl,by simp[Gh.dA]⟩};{cases he}
theorem fJ{t:TypeId}{x:Operand}{y:TV}(he:ik C.E C.nt V t x=BQ (y,.no)):Rep R w y (a.eval x):=lM.rep (iy h hV he).1
theorem qm{x:Operand}{n:Int}(he:uA C.E C.nt V x=BQ n):∃k,a.eval x=.int k n:=by unfold uA at he;split at he;{rename_i y e;simp only[aU]at he;obtain⟨⟨k,m⟩,h1,rfl⟩:=he;exact⟨k,(fJ h hV e).dW (TV.Et h1)⟩};{cases he}
theorem B8{t:TypeId}{x:Operand}{c:Cell}{y:TV}(he:ik C.E C.nt V t x=BQ c)(hr:Ar V c=BQ y):(∃t l,y=.sl t l/\∃k,c=(.pt,.fF k)/\a.eval x=τ k/\∃p,gm R w p (a.eval x) y)\/Rep R w y (a.eval x):=by
 obtain⟨h1,_,_⟩:=iy h hV he;obtain⟨z,g⟩:=c;cases g with
 |no=>simp only[Ar,aN]at hr;subst hr;exact .inr (Ce (lM.rep h1))
 |fF k=>(cases z<;>try(simp only[Ar]at hr;cases hr));have h1:a.eval x=τ k:=h1.1;simp only[Ar]at hr;have hk:=h.core.key k;have W6:∀{p y},gm R w p (τ k) y->∃t l,y=.sl t l/\∃q,(.pt,Gh.fF k)=(TV.pt,Gh.fF q)/\a.eval x=τ q/\∃p,gm R w p (a.eval x) y:=λ{p y}hs=>by{obtain⟨t,l,e,_⟩:=id hs;exact⟨t,l,e,k,rfl,h1,_,by rw[h1];exact hs⟩};(split at hr<;>first|(cases hr;done)|(rename_i e;cases hr;have e:=hV.of e));{left;rw[e]at hk;exact W6 hk};{left;rw[e]at hk;exact W6 hk};{right;rw[e]at hk;rw[h1];exact hk};{left;exact W6 (h.core.waits e)};{left;rw[e]at hk;exact W6 hk}
 |_=>simp only[Ar]at hr;cases hr
end
def sa.G7{r:sa}{e:iN}(h:r.Ra=BQ e)(hp:∀p,e.p=BQ p->p=NS):∃x,r.holds [x]/\e.x=(x,.no)/\e.ws=[]:=by unfold sa.Ra at h;split at h<;>cases h;{exact⟨_,rfl,rfl,rfl⟩};{exact⟨_,⟨hp _ rfl,rfl⟩,rfl,rfl⟩}
def vy{S:St}{e:iN}{x:Cell}{d:Nat}{o:Oper}(hd:o.dst=BQ d)(h1:e.x=x)(h2:e.ws=[]):kp S o.dst e=cX S d x:=by rw[hd];unfold kp;rw[h1,h2];rfl
def Nu{P:Program}{w:World}{op:BinOp}{t:TypeId}{x y z:Value}(h:oF op x y=BQ z):(binOp op t x y).run P w=.ok z w:=by
 unfold oF at h;split at h;(all_goals repeat' split at h);all_goals first
  |(cases h;done)
  |(cases h;simp only[binOp,Op.shift,Sem.run_ite];rw[ak (by assumption)];rfl)
  |(cases h;simp_all[binOp,Op.shift,Op.intArith,Op.intDiv,Op.intBits,Op.intCmp,Op.stringOp,dm];done)
  |exact MC h
  |skip
def Ot{P:Program}{w:World}{op:UnOp}{x z:Value}(h:YN op x=BQ z):(Op.unary op x).run P w=.ok z w:=by unfold YN at h;split at h<;>cases h<;>first|exact Ay|simp[Op.unary,Op.intArith,Op.intBits,dm]
def Ln{t:Bool}{x y z:TV}(h:Lp t x y=BQ z):z=if t then x else y:=by unfold Lp at h;(split at h<;>first|(cases h<;>cases t<;>rfl)|skip);split at h;{rename_i e;subst e;cases h;cases t<;>rfl};{cases h}
def TV.Fi{R:Reach}{w:World}{x:TV}{v:Value}(h:Rep R w x v)(hq:∀q,x.Nc=BQ q->q=NS):Rep R w x.bare v:=by
 cases x with
 |gd q x=>
  have:=hq q rfl;subst this;cases h with
  |sc h=>cases h
  |Um h=>exact h
 |_=>exact h
def Ja{R:Reach}{w:World}{t:Bool}{x y z:TV}{v:Value}(h:(HH t x y).holds [z])(hr:Rep R w (if t then x else y) v):Rep R w z v:=by
 unfold HH at h;split at h
 ·rename_i u hu;have hu:=Ln hu;have key:((t=NS->∀q,x.Nc=BQ q->q=NS)/\(t=NT->∀q,y.Nc=BQ q->q=NS))/\z=u:=by{split at h<;>rename_i c1 c2<;>rw[c1,c2];{cases h;exact⟨⟨by simp,by simp⟩,rfl⟩};{obtain⟨h,e⟩:=h;cases e;exact⟨⟨by rintro rfl q e;cases e;simpa using h,by simp⟩,rfl⟩};{obtain⟨h,e⟩:=h;cases e;exact⟨⟨by simp,by rintro rfl q e;cases e;simpa using h⟩,rfl⟩};{obtain⟨h,e⟩:=h;cases e;exact⟨⟨by rintro rfl q e;cases e;simpa using h,by rintro rfl q e;cases e;simpa using h⟩,rfl⟩}};obtain⟨⟨k1,k2⟩,rfl⟩:=key;rw[hu];cases t with
  |true=>exact TV.Fi hr (k1 rfl)
  |false=>exact TV.Fi hr (k2 rfl)
 {exact h.elim}
def Es{P:Program}{f:Field}{k:Nat}(h:HY P f k=NS):f.name≠ "_" /\f.offset=k/\P.underlying f.type=BQ (.int .u64):=by unfold HY at h;simp only[af,bne_iff_ne]at h;obtain⟨⟨h1,h2⟩,h3⟩:=h;refine⟨h1,aB h2,?_⟩;split at h3;{assumption};{cases h3}
def Hn(a b:UInt64):((a.toNat:Int)==(b.toNat:Int))=oG (a=b):=by by_cases e:a=b;{simp[e]};{have:¬(a.toNat:Int)=(b.toNat:Int):=λh=>e (aW.1 (by omega));simp[e,this]}
def PO{P:Program}{w:World}{t:TypeId}{fs:Array Field}{a b c d:UInt64}{r:Bool}(ht:P.underlying t=BQ (.struct fs))(he:Un P t fs (.ag [.u64 a,.u64 b]) (.ag [.u64 c,.u64 d])=BQ r):(Op.equalIn 10000 t (.agg ⟨[.int .u64 a.toNat,.int .u64 b.toNat]⟩) (.agg ⟨[.int .u64 c.toNat,.int .u64 d.toNat]⟩)).run P w=.ok r w/\P.eqGuardType P.depth t=NT:=by
 unfold Un at he;split at he
 ·rename_i f g a' b' c' d' hf hx hy;obtain⟨h1,h2⟩:=bL.1 he;cases hx;cases hy;cases h2;simp only[af,Bool.not_eq_true']at h1;obtain⟨⟨⟨h1,h2⟩,h3⟩,h4⟩:=h1;obtain⟨n1,o1,u1⟩:=Es h1;obtain⟨n2,o2,u2⟩:=Es h2;have ef:P.fieldsOf t=fs:=by{simp[Program.fieldsOf,ht]};have p1:P.plainKey f.type=NS:=by{simp[Program.plainKey,u1]};have p2:P.plainKey g.type=NS:=by{simp[Program.plainKey,u2]};refine⟨?_,h4⟩;rw[show(10000:Nat)=9999+1 from rfl,run_equalIn_struct w 9999 t _ _ (by rw[ef];exact ht) h3,ef,hf];simp only[Op.eqFields,n1,n2,ne_eq,not_false_eq_true,if_true,Sem.run_bind,o1,o2];rw[run_part_plain w p1 (v:=.int .u64 a.toNat) rfl];simp only[Result.andThen_ok];rw[run_part_plain w p1 (v:=.int .u64 c.toNat) rfl];simp only[Result.andThen_ok];rw[show(9999:Nat)=9998+1 from rfl,run_equalIn_int w 9998 f.type .u64 .u64 _ _ u1];simp only[Result.andThen_ok,Hn];cases oG (a=c)with
  |false=>simp
  |true=>simp only[aG,bq,if_false,Bool.true_and,Sem.run_bind];rw[run_part_plain w p2 (v:=.int .u64 b.toNat) rfl];simp only[Result.andThen_ok];rw[run_part_plain w p2 (v:=.int .u64 d.toNat) rfl];simp only[Result.andThen_ok];rw[run_equalIn_int w 9998 g.type .u64 .u64 _ _ u2];simp only[Result.andThen_ok,Hn];cases oG (b=d)<;>simp
 {cases he}
section
variable{C:Ctx}{S V:St}{a:Act}{w:World}{R:Reach}{τ:Nat->Value}{o:Oper}{d:Nat}(h:fP C S a w R τ)(hV:Lt V S)(hd:o.dst=BQ d)(hl:d<C.nt)
include h hV hd hl
theorem go_move{x:Operand}{t:TypeId}{c:Cell}(ho:o.op=.move x\/o.op=.assign x)(he:ik C.E C.nt V t x=BQ c):fM C o a w (cX S d c):=by obtain⟨h1,h2,h3⟩:=iy h hV he;exact h.val hd hl (v:=a.eval x) (by rcases ho with e|e<;>simp[execOp,e]) h1 h2 h3
theorem go_pick{c x y:Operand}{t:TypeId}{b:Bool}{u v z:TV}(ho:o.op=.pick c x y)(hc:ik C.E C.nt V 0 c=BQ (.b b,.no))(hx:ik C.E C.nt V t x=BQ (u,.no))(hy:ik C.E C.nt V t y=BQ (v,.no))(hz:(HH b u v).holds [z]):fM C o a w (cX S d (z,.no)):=by
 have hb:=(fJ h hV hc).dW rfl;refine h.jq hd hl (v:=if b then a.eval x else a.eval y) (by cases b<;>simp[execOp,ho,hb,asBool]) (Ja hz ?_);cases b with
 |true=>exact fJ h hV hx
 |false=>exact fJ h hV hy
theorem go_bin{b:BinOp}{t u:TypeId}{x y:Operand}{p q:TV}{z:TV}(ho:o.op=.binOp b t x y u)(hx:ik C.E C.nt V t x=BQ (p,.no))(hy:ik C.E C.nt V u y=BQ (q,.no))(hz:(P1 b p q).holds [z]):fM C o a w (cX S d (z,.no)):=by obtain⟨z',e,p',q',v,e1,e2,e3,e4⟩:=P0 _ _ _ _ hz;cases e;have hp:=(fJ h hV hx).dW e1;have hq:=(fJ h hV hy).dW e2;have hg:eqGuard b t x y p' q'=pure ():=by{unfold oF at e3;split at e3<;>first|(cases e3;done)|exact GZ e3|(unfold eqGuard;split<;>simp_all)};exact h.jq hd hl (v:=v) (by simp only[execOp,ho,hp,hq,hg,Sem.run_bind,Sem.run_pure,Result.andThen_ok,Nu e3]) (.sc e4)
theorem go_be{neg:Bool}{b:BinOp}{t u:TypeId}{x y:Operand}{p q:Bool}(ho:o.op=.binOp b t x y u)(hb:b=if neg then .neq else .eql)(ht:C.P.underlying t=BQ .bool)(hx:ik C.E C.nt V t x=BQ (.b p,.no))(hy:ik C.E C.nt V u y=BQ (.b q,.no)):fM C o a w (cX S d (.b (if neg then !(p==q)else p==q),.no)):=by have hp:=(fJ h hV hx).dW rfl;have hq:=(fJ h hV hy).dW rfl;have hg:eqGuard b t x y (.bool p) (.bool q)=pure ():=by{unfold eqGuard;cases neg<;>simp[hb]};have he:(Op.equal t (.bool p) (.bool q)).run C.P w=.ok (p==q) w:=by{unfold Op.equal Op.maxDepth;rw[show(10000:Nat)=9999+1 from rfl,Op.equalIn];simp[run_underlying ht]};refine h.jq hd hl (v:=.bool (if neg then !(p==q)else p==q)) ?_ (.sc rfl);simp only[execOp,ho,hp,hq,hg,Sem.run_bind,Sem.run_pure,Result.andThen_ok];cases neg<;>simp[hb,binOp,he]
theorem go_es{b:BinOp}{t u:TypeId}{x y:Operand}{p q:TV}{fs:Array Field}{r:Bool}(neg:Bool)(ho:o.op=.binOp b t x y u)(hb:b=if neg then .neq else .eql)(ht:C.P.underlying t=BQ (.struct fs))(hx:ik C.E C.nt V t x=BQ (p,.no))(hy:ik C.E C.nt V u y=BQ (q,.no))(he:Un C.P t fs p q=BQ r):fM C o a w (cX S d (.b (if neg then !r else r),.no)):=by
 have hp:=fJ h hV hx;have hq:=fJ h hV hy;have GN:=he;unfold Un at GN;split at GN
 ·rename_i f g a1 b1 c1 d1 hf;have two:∀{a b:UInt64}{v:Value},Rep R w (.ag [.u64 a,.u64 b]) v->v=.agg ⟨[.int .u64 a.toNat,.int .u64 b.toNat]⟩:=λhv=>by
   cases hv with
   |sc e=>cases e
   |ag l=>cases l with|cons _ h1 l=>cases l with|cons _ h2 l=>cases l;rw[h1.dW rfl,h2.dW rfl]
  obtain⟨e1,e2⟩:=PO (w:=w) ht he;refine h.jq hd hl (v:=.bool (if neg then !r else r)) ?_ (.sc rfl);simp only[execOp,ho,two hp,two hq,Sem.run_bind,run_eqGuard_agg w b t x y _ _ e2,Result.andThen_ok];cases neg with
  |false=>simp only[hb,bq,if_false,run_eql_struct,e1,Result.andThen_ok];rfl
  |true=>simp only[hb,if_true,run_neq_struct,e1,Result.andThen_ok];rfl
 {cases GN}
theorem go_nl{t u e:TypeId}{x y:Operand}{c:Cell}{st st':fE}{l:List st.El}(ho:o.op=.binOp .eql t x y u)(ht:C.P.underlying t=BQ (.slice e))(hx:ik C.E C.nt V t x=BQ c)(hr:Ar V c=BQ (.sl st l))(hy:ik C.E C.nt V u y=BQ (.nl st',.no)):fM C o a w (cX S d (.ub l.isEmpty,.no)):=by
 have hp:=B8 h hV hx hr;have hq:a.eval y=.slice Ku 0 0:=by
  have:=fJ h hV hy;generalize a.eval y=v at this;cases this with
  |sc h=>cases h
  |nl=>rfl
 have run:∀{q:Option Addr}{n k:Nat},(binOp .eql t (.slice q n k) (.slice Ku 0 0)).run C.P w=.ok (.bool q.isNone) w:=λ{q n k}=>by{have he:(Op.equal t (.slice q n k) (.slice Ku 0 0)).run C.P w=.ok q.isNone w:=by{unfold Op.equal Op.maxDepth;rw[show(10000:Nat)=9999+1 from rfl,Op.equalIn];cases q<;>simp[run_underlying ht]};simp[binOp,he]};have gd:∀{v:Value},eqGuard .eql t x y v (.slice Ku 0 0)=pure ():=λ{v}=>by{unfold eqGuard;split<;>simp_all};have fin:∀{q:Option Addr}{n k:Nat},a.eval x=.slice q n k->(q=Ku->l=[])->fM C o a w (cX S d (.ub l.isEmpty,.no)):=λ{q n k}e1 e2=>by{refine h.jq hd hl (v:=.bool q.isNone) ?_ (.ub λe=>by cases q with|none=>rw[e2 rfl];rfl|some _=>cases e);simp only[execOp,ho,e1,hq,gd,Sem.run_bind,Sem.run_pure,Result.andThen_ok,run]};rcases hp with⟨t',l',e,k,_,_,p,hs⟩|hp;{obtain⟨t2,l2,e2,hs⟩:=hs;cases e;cases e2;rcases hs with⟨e,hv⟩|⟨g,cap,cur,e,fz,hv,_⟩;{exact fin hv λ_=>e};{exact fin hv λe=>by cases e}}
 ·generalize hv:a.eval x=v at hp;cases hp with
  |sc h=>cases h
  |sn=>exact fin hv λ_=>rfl
  |sl=>exact fin hv λe=>by cases e
  |em=>exact fin hv λe=>by cases e
theorem go_un{b:UnOp}{t:TypeId}{x:Operand}{p z:TV}(ho:o.op=.unOp b t x)(hx:ik C.E C.nt V t x=BQ (p,.no))(hz:(WZ b p).holds [z]):fM C o a w (cX S d (z,.no)):=by obtain⟨z',e,p',v,e1,e2,e3⟩:=Rx _ _ _ hz;cases e;have hp:=(fJ h hV hx).dW e1;exact h.jq hd hl (v:=v) (by simp only[execOp,ho,hp,Sem.run_bind,Sem.run_pure,Result.andThen_ok,Ot e2]) (.sc e3)
end
def Holds (R:Reach) (w:World) (t:fE) (l:List t.El) (v:Value):Prop :=
 (l=[]∧(v = .slice Ku 0 0∨∃ad cap,v = .slice (BQ ad) 0 cap))∨∃b off cap ys,v = .slice (BQ ⟨b,off,Ku⟩) l.length cap∧ys.length=l.length * t.size ∧
  (∀j y,ys[j]?=BQ y→w.cell? ⟨b,off+j,Ku⟩=BQ y)∧dR R w ((l.map t.tv).flatMap TV.cells) ys
theorem qW{c k:Nat}:∀{l:List (Nat×Nat)},pX c l=BQ k->(c,k)∈l
 |(d,j)::r,h=>by
  simp only[pX]at h;cases hb:Nat.beq d c with
  |true=>rw[hb]at h;cases h;rw[aB hb];exact List.mem_cons_self ..
  |false=>rw[hb]at h;exact List.mem_cons_of_mem _ (qW h)
theorem yn:∀l:bD,(l.map (fE.tv .bs)).flatMap TV.cells=l.map TV.u8
 |[]=>rfl
 |x::l=>by rw[bf,List.flatMap_cons,yn l];rfl
theorem py(t:fE)(l:List t.El):((l.map t.tv).flatMap TV.cells).length=l.length*t.size:=by
 induction l with
 |nil=>simp
 |cons x l ih=>rw[bf,List.flatMap_cons,ae,ih,fE.oa,av,Nat.succ_mul,Nat.add_comm]
def Rep.holds{R:Reach}{w:World}{t:fE}{l:List t.El}{v:Value}(h:Rep R w (.sl t l) v):Holds R w t l v:=by rcases h.F7 with⟨h1,h2⟩|⟨b,off,cap,h1,h2,h3,h4⟩|⟨h1,ad,cap,h2,_⟩;{exact .inl ⟨h1,.inl h2⟩};{obtain⟨ys,k1,k2,k3,_⟩:=h4.cells;exact .inr ⟨b,off,cap,ys,h1,by rw[k1,bj],k2,k3⟩};{exact .inl ⟨h1,.inr ⟨ad,cap,h2⟩⟩}
def gm.cells{R:Reach}{w:World}{p:Bool}{t:fE}{l:List t.El}{v:Value}(h:gm R w p v (.sl t l)):(l=[]/\v=.slice Ku 0 0)\/∃g cap cur e fz,v=.slice (BQ ⟨g,0,Ku⟩) l.length cap/\w.heap[g]?=BQ (.cells cur e fz)/\(∀o,o<cur.size->¬(fz.1<=o/\o<fz.2))/\cur.size=cap*t.size/\l.length<=cap/\cap<=maxLen/\dR R w ((l.map t.tv).flatMap TV.cells) (cur.toList.take (l.length*t.size))/\∀o,R g o↔(p=NS/\o<l.length*t.size):=by obtain⟨t',l',e,h⟩:=h;cases e;exact h
def gm.holds{R:Reach}{w:World}{p:Bool}{t:fE}{l:List t.El}{v:Value}(h:gm R w p v (.sl t l)):Holds R w t l v:=by rcases h.cells with⟨h1,h2⟩|⟨g,cap,cur,e,fz,h1,h2,_,_,_,_,h3,_⟩;{exact .inl ⟨h1,.inl h2⟩};{refine .inr ⟨g,0,cap,_,h1,by rw[<-h3.length,py],λj y hy=>?_,h3⟩;rw[bc]at hy;split at hy;{simp only[World.cell?,h2,Nat.zero_add];simpa using hy};{cases hy}}
section
variable{C:Ctx}{S V:St}{a:Act}{w:World}{R:Reach}{τ:Nat->Value}{o:Oper}{d:Nat}(h:fP C S a w R τ)(hV:Lt V S)
include h hV
theorem y7{t:TypeId}{x:Operand}{st:fE}{l:List st.El}(he:(ik C.E C.nt V t x).bind (Ar V)=BQ (.sl st l)):Holds R w st l (a.eval x):=by rw[aV]at he;obtain⟨c,h1,h2⟩:=he;rcases B8 h hV h1 h2 with⟨_,_,_,_,_,_,p,hp⟩|hr;{exact hp.holds};{exact hr.holds}
theorem Lh{t:TypeId}{x:Operand}{l:bD}(he:(ik C.E C.nt V t x).bind (Ar V)=BQ (.s l)):a.eval x=.string ⟨⟨l⟩⟩:=by rw[aV]at he;obtain⟨c,h1,h2⟩:=he;rcases B8 h hV h1 h2 with⟨_,_,e,_⟩|hr;{cases e};{exact hr.dW rfl}
theorem aac{t:TypeId}{x:Operand}{c:Cell}{y:TV}{v:Value}(h1:ik C.E C.nt V t x=BQ c)(h2:Ar V c=BQ y)(hy:y.val=BQ v):a.eval x=v:=by rcases B8 h hV h1 h2 with⟨_,_,e,_⟩|hr;{rw[e]at hy;cases hy};{exact hr.dW hy}
variable(hd:o.dst=BQ d)(hl:d<C.nt)
include hd hl
theorem go_len{x:Operand}{t e:TypeId}{st:fE}{l:List st.El}(ho:o.op=.call {callee:=.builtin .len,args:=#[x],argTypes:=#[t]})(ht:C.P.underlying t=BQ (.slice e))(hx:(ik C.E C.nt V t x).bind (Ar V)=BQ (.sl st l)):fM C o a w (cX S d (.i .i64 l.length,.no)):=by have:∃q cap,a.eval x=.slice q l.length cap:=by{rcases y7 h hV hx with⟨rfl,e|⟨ad,cap,e⟩⟩|⟨b,off,cap,ys,e,_⟩<;>exact⟨_,_,e⟩};obtain⟨q,cap,hq⟩:=this;exact h.jq hd hl (v:=.int .i64 l.length) (by simp[execOp,ho,hq,resolve,invoke,builtin,Builtin.len_,run_underlying ht,goInt]) (.sc rfl)
theorem go_lens{x:Operand}{t:TypeId}{l:bD}(ho:o.op=.call {callee:=.builtin .len,args:=#[x],argTypes:=#[t]})(ht:C.P.underlying t=BQ .string)(hx:(ik C.E C.nt V t x).bind (Ar V)=BQ (.s l)):fM C o a w (cX S d (.i .i64 l.length,.no)):=by have hq:=Lh h hV hx;have hs:ByteArray.size ⟨⟨l⟩⟩=l.length:=rfl;exact h.jq hd hl (v:=.int .i64 l.length) (by simp[execOp,ho,hq,resolve,invoke,builtin,Builtin.len_,run_underlying ht,goInt,hs]) (.sc rfl)
theorem go_minmax{x y:Operand}{k:IntKind}{u v:Int}{mx:Bool}{ts:Array TypeId}(ho:o.op=.call {callee:=.builtin (if mx then .max else .min),args:=#[x,y],argTypes:=ts})(hx:ik C.E C.nt V 0 x=BQ (.i k u,.no))(hy:ik C.E C.nt V 0 y=BQ (.i k v,.no)):fM C o a w (cX S d (.i k (if mx then rZ u v else Cf u v),.no)):=by have e1:=(fJ h hV hx).dW rfl;have e2:=(fJ h hV hy).dW rfl;exact h.jq hd hl (v:=.int k (if mx then rZ u v else Cf u v)) (by cases mx<;>simp[execOp,ho,e1,e2,resolve,invoke,builtin,Builtin.min_,Builtin.max_,Builtin.min2,Builtin.max2,Cf,rZ]) (.sc rfl)
theorem go_real{x:Operand}{k:FloatKind}{p q:Nat}{im:Bool}{ts:Array TypeId}(ho:o.op=.call {callee:=.builtin (if im then .imag else .real),args:=#[x],argTypes:=ts})(hx:ik C.E C.nt V 0 x=BQ (.c (.complex k p q),.no)):fM C o a w (cX S d (.c (.float k (if im then q else p)),.no)):=by have e1:=(fJ h hV hx).dW rfl;have r1:∀(a:Array TypeId)(b:TypeId),Builtin.real_ a b #[.complex k p q]=pure (.float k p):=λ_ _=>rfl;have r2:∀(a:Array TypeId)(b:TypeId),Builtin.imag_ a b #[.complex k p q]=pure (.float k q):=λ_ _=>rfl;exact h.jq hd hl (v:=.float k (if im then q else p)) (by cases im<;>simp[execOp,ho,e1,resolve,invoke,builtin,r1,r2]) (.sc rfl)
theorem go_cx{x y:Operand}{p q:Nat}{ts:Array TypeId}(ho:o.op=.call {callee:=.builtin .complex,args:=#[x,y],argTypes:=ts})(hx:ik C.E C.nt V 0 x=BQ (.c (.float .f64 p),.no))(hy:ik C.E C.nt V 0 y=BQ (.c (.float .f64 q),.no)):fM C o a w (cX S d (.c (.complex .f64 p q),.no)):=by have e1:=(fJ h hV hx).dW rfl;have e2:=(fJ h hV hy).dW rfl;have r1:∀(a:Array TypeId)(b:TypeId),Builtin.complex_ a b #[.float .f64 p,.float .f64 q]=pure (.complex .f64 p q):=λ_ _=>rfl;exact h.jq hd hl (v:=.complex .f64 p q) (by simp[execOp,ho,e1,e2,resolve,invoke,builtin,r1]) (.sc rfl)
section
variable{x:Operand}{s t:TypeId}{c:Cell}(ho:o.op=.convert s t x)(hx:ik C.E C.nt V s x=BQ c)
include ho hx
theorem go_ci{y:TV}{k k':IntKind}{n:Int}{du:TypeDesc}(hy:Ar V c=BQ y)(hn:y.int?=BQ (k',n))(hs:C.P.underlying s=BQ du)(ht:C.P.underlying t=BQ (.int k)):fM C o a w (cX S d (H2 k n,.no)):=by have e1:=aac h hV hx hy (TV.Et hn);exact h.jq hd hl (v:=.int k (k.wrap n)) (by simp only[execOp,ho,e1,convert,Sem.run_bind,run_underlying hs,run_underlying ht,Result.andThen_ok,Conv.intToInt,Sem.run_pure]) (.sc (JB k n))
theorem go_cf{k:IntKind}{n:Int}(hy:Ar V c=BQ (.i k n))(hs:(C.P.underlying s).isSome=NS)(ht:C.P.underlying t=BQ (.float .f64)):fM C o a w (cX S d (.c (.float .f64 (Fl.ofInt n)),.no)):=by have e1:=aac h hV hx hy rfl;exact h.jq hd hl (v:=.float .f64 (Fl.ofInt n)) (by simp only[execOp,ho,e1,Sem.run_bind,run_convert_int_float w s t k .f64 n hs ht,Result.andThen_ok,Sem.run_pure];rfl) (.sc rfl)
theorem go_fc{b:Nat}(hy:Ar V c=BQ (.c (.float .f64 b)))(hb:Fl.rr b=NS)(hs:(C.P.underlying s).isSome=NS)(ht:C.P.underlying t=BQ (.int .i64)):fM C o a w (cX S d (.i .i64 (Fl.toInt b),.no)):=by have e1:=aac h hV hx hy rfl;have hn:floatToIntVal .f64 b .i64=BQ (Fl.toInt b):=by{unfold Fl.rr at hb;obtain⟨x,hx⟩:=Option.isSome_iff_exists.1 hb;unfold Fl.toInt;rw[hx];rfl};exact h.jq hd hl (v:=.int .i64 (Fl.toInt b)) (by simp only[execOp,ho,e1,Sem.run_bind,run_convert_float_int w s t .f64 .i64 b _ hs ht hn,Result.andThen_ok,Sem.run_pure]) (.sc rfl)
theorem go_cs{l:bD}(hy:Ar V c=BQ (.s l))(hs:C.P.underlying s=BQ .string)(ht:C.P.underlying t=BQ .string):fM C o a w (cX S d (.s l,.no)):=by have e1:=aac h hV hx hy rfl;exact h.jq hd hl (v:=.string ⟨⟨l⟩⟩) (by simp[execOp,ho,e1,convert,run_underlying hs,run_underlying ht]) (.sc rfl)
theorem go_bs{l:bD}{e:TypeId}(hy:Ar V c=BQ (.sl .bs l))(hs:C.P.underlying s=BQ (.slice e))(he:C.P.underlying e=BQ (.int .u8))(ht:C.P.underlying t=BQ .string):fM C o a w (cX S d (.s l,.no)):=by have hH:=y7 h hV (t:=s) (x:=x) (st:=.bs) (l:=l) (by rw[hx];exact hy);refine h.jq hd hl (v:=.string ⟨⟨l⟩⟩) ?_ (.sc rfl);rcases hH with⟨rfl,hv|⟨ad,cap,hv⟩⟩|⟨b,off,cap,ys,hv,h1,h2,h3⟩;{simp only[execOp,ho,hv,Sem.run_bind,run_convert_bytes_nil w s e hs he 0 0 t ht,Result.andThen_ok,Sem.run_pure];rfl};{have hc:=run_convert_bytes_back (P:=C.P) w s t e ad cap [] hs he ht (λj hj=>by simp at hj);simp only[aE]at hc;simp only[execOp,ho,hv,Sem.run_bind,hc,Result.andThen_ok,Sem.run_pure]};{have hc:=run_convert_bytes_back (P:=C.P) w s t e ⟨b,off,Ku⟩ cap l hs he ht (λj hj=>by rw[Ur];obtain⟨y,JE,_,JD⟩:=h3.get j (.u8 l[j]) (by rw[yn];simp[hj]);rw[h2 j y JE,JD.dW rfl]);simp only[execOp,ho,hv,Sem.run_bind,hc,Result.andThen_ok,Sem.run_pure]}
end
theorem go_si{x i:Operand}{t:TypeId}{l:bD}{n:Int}(ho:o.op=.index t x i)(hx:ik C.E C.nt V t x=BQ (.s l,.no))(hi:uA C.E C.nt V i=BQ n)(hn:bG n l.length=NS)(ht:C.P.underlying t=BQ .string):fM C o a w (cX S d (.u8 (l.getD n.toNat 0),.no)):=by have e1:=(fJ h hV hx).dW rfl;obtain⟨k,e2⟩:=qm h hV hi;simp only[bG,af,aD]at hn;have gI:n.toNat<l.length:=by{omega};have hb:(⟨⟨l⟩⟩:ByteArray)[n.toNat]?=BQ (l.getD n.toNat 0):=by{rw[getElem?_pos (⟨⟨l⟩⟩:ByteArray) n.toNat gI,aj,aw gI];rfl};exact h.jq hd hl (v:=.int .u8 (l.getD n.toNat 0).toNat) (by simp[execOp,ho,e1,e2,Instr.index,asIntOf,run_underlying ht,hn.1,hb]) (.sc rfl)
theorem go_fe{x:Operand}{t:TypeId}{f n:Nat}{agg:Bool}{fl:Field}{cs:List TV}{y:TV}(ho:o.op=.field t x f)(hx:ik C.E C.nt V t x=BQ (.ag cs,.no))(hf:wP C.P t f=BQ fl)(hs:lj C.P fl.type=BQ (n,agg))(hp:qg cs fl.offset n agg=BQ y)(h1:agg=NS\/n=1):fM C o a w (cX S d (y,.no)):=by
 obtain⟨ys,hy,hL⟩:=(fJ h hV hx).NN;obtain⟨fs,ht,hf⟩:=xE hf;obtain⟨inf,hi,rfl,ha⟩:=iq hs;obtain⟨hlen,mM⟩:=sB hL hp h1;refine h.jq hd hl (v:=if agg then .agg ⟨(ys.drop fl.offset).take inf.size⟩else((ys.drop fl.offset).take inf.size).headD undef) ?_ mM;simp only[execOp,ho,hy,Instr.field,Sem.run_bind,run_underlying ht,Result.andThen_ok,hf,asAgg,Sem.run_pure,part,ha];cases agg with
 |true=>simp[T1 hi,List.extract_eq_take_drop]
 |false=>have hn:inf.size=1:=by{simpa using h1};rw[hn]at hlen⊢;have gI:fl.offset<ys.length:=by{simp at hlen;omega};rw[KS gI];simp[aw gI]
theorem go_ai{x i:Operand}{t e:TypeId}{m s:Nat}{agg:Bool}{cs:List TV}{n:Int}{y:TV}(ho:o.op=.index t x i)(hx:ik C.E C.nt V t x=BQ (.ag cs,.no))(hi:uA C.E C.nt V i=BQ n)(ht:C.P.underlying t=BQ (.array m e))(hs:lj C.P e=BQ (s,agg))(h1:agg=NS\/s=1)(hn:bG n m=NS)(hp:qg cs (n.toNat*s) s agg=BQ y):fM C o a w (cX S d (y,.no)):=by
 obtain⟨ys,FB,hL⟩:=(fJ h hV hx).NN;obtain⟨k,e2⟩:=qm h hV hi;obtain⟨inf,AD,rfl,ha⟩:=iq hs;obtain⟨hlen,mM⟩:=sB hL hp h1;simp only[bG,af,aD]at hn;refine h.jq hd hl (v:=if agg then .agg ⟨(ys.drop (n.toNat*inf.size)).take inf.size⟩else((ys.drop (n.toNat*inf.size)).take inf.size).headD undef) ?_ mM;simp only[execOp,ho,FB,e2,Instr.index,asIntOf,Sem.run_bind,run_underlying ht,Result.andThen_ok,Sem.run_pure,hn.1,hn.2,and_self,if_true,T1 AD,part,ha];cases agg with
 |true=>simp[T1 AD,List.extract_eq_take_drop]
 |false=>have hn:inf.size=1:=by{simpa using h1};rw[hn,Nat.mul_one]at hlen⊢;have gI:n.toNat<ys.length:=by{simp at hlen;omega};rw[KS gI];simp[aw gI]
theorem go_ex{x:Operand}{i:Nat}{vs:List TV}{y:TV}{l:List (Nat×Nat)}(ho:o.op=.extract x i)(hx:ik C.E C.nt V 0 x=BQ (.tu vs,.no)\/ik C.E C.nt V 0 x=BQ (.tu vs,.Ql l))(hy:vs[i]?=BQ y):fM C o a w (cX S d (y,.no)):=by have:∃ys,a.eval x=.tuple ⟨ys⟩/\jy R w vs ys:=by{rcases hx with hx|hx;{exact(fJ h hV hx).RD};{obtain⟨ys,Kk,e1,e2,e3,_⟩:=((iy h hV hx).1.at (by simp):lM R w τ (.tu vs) (.Ql l) (a.eval x));cases e2;exact⟨ys,e1,e3⟩}};obtain⟨ys,hv,hT⟩:=this;obtain⟨v,JE,JD⟩:=hT.get i y hy;exact h.jq hd hl (v:=v) (by simp[execOp,ho,hv,Instr.extract,JE]) JD
end
def s0{P:Program}{E:cE}(hE:kZ P E){x:TypeId}{st:fE}(h:xI E x st=NS):∃e i,P.underlying x=BQ (.slice e)/\P.info? e=BQ i/\i.size=st.size:=by unfold xI at h;split at h;{rename_i e1;obtain⟨e,i,_,h1,h2,h3,_⟩:=hE.ty _ _ _ e1;exact⟨e,i,h1,h2,h3.trans (aB h)⟩};{cases h}
def fE.size_pos(t:fE):0<t.size:=by cases t<;>simp[fE.size]
section
variable{C:Ctx}{S V:St}{a:Act}{w:World}{R:Reach}{τ:Nat->Value}{o:Oper}{d:Nat}(h:fP C S a w R τ)(hV:Lt V S)
include h hV
theorem fP.fr{t:TypeId}{x:Operand}{c:Cell}{y:TV}{ws:List (Nat×Cell)}(hx:ik C.E C.nt V t x=BQ c)(he:EH V c=BQ (y,ws)):∃R',fP C (gi S ws) a w R' τ/\Rep R' w y (a.eval x)/\fq R w R' w:=by obtain⟨h1,_,h3⟩:=iy h hV hx;obtain⟨R',k1,k2,k3,_⟩:=CH h.core hV.q h1 (λm hm=>(h3 m hm).1) he;exact⟨R',h.fz k1 k2,k3,k2.1⟩
theorem zG{x:Option Operand}{n:Option Int}(he:qn C.E C.nt V x=BQ n):(x=Ku/\n=Ku)\/∃y m k,x=BQ y/\n=BQ m/\a.eval y=.int k m:=by unfold qn at he;split at he;{cases he;exact .inl ⟨rfl,rfl⟩};{simp only[aU]at he;obtain⟨m,h1,rfl⟩:=he;obtain⟨k,h2⟩:=qm h hV h1;exact .inr ⟨_,m,k,rfl,rfl,h2⟩}
theorem Qy{lo:Option Operand}{p:Option Int}{n:Nat}(h1:qn C.E C.nt V lo=BQ p)(h0:0<=p.getD n):(lo=Ku/\(p.getD n).toNat=n)\/∃y k,lo=BQ y/\a.eval y=.int k (((p.getD n).toNat:Nat):Int):=by rcases zG h hV h1 with⟨rfl,rfl⟩|⟨y,m,k,rfl,rfl,hy⟩;{exact .inl ⟨rfl,by simp⟩};{exact .inr ⟨y,k,rfl,by simp only[Option.getD_some]at h0⊢;rw[hy];congr 1;omega⟩}
theorem abt{lo hi:Option Operand}{p q:Option Int}(h1:qn C.E C.nt V lo=BQ p)(h2:qn C.E C.nt V hi=BQ q){n:Nat}(hc:fe (p.getD 0) (q.getD n) n=NS)(b:Bool){cap:Nat}(zQ:n<=cap)(hb:b=NT->cap=n):(Instr.sliceBounds b n cap (lo.map a.eval) (hi.map a.eval) Ku).run C.P w=.ok ((p.getD 0).toNat,(q.getD n).toNat,cap) w/\(p.getD 0).toNat<=(q.getD n).toNat/\(q.getD n).toNat<=n:=by simp only[fe,af,aD]at hc;have e1:=Qy h hV (n:=0) h1 hc.1.1;have e2:=Qy h hV (n:=n) h2 (by omega);generalize hu:(q.getD n).toNat=u at*;generalize hl:(p.getD 0:Int).toNat=l at*;have k1:l<=u:=by{omega};have k2:u<=n:=by{omega};refine⟨?_,k1,k2⟩;have k3:u<=cap:=by{omega};unfold Instr.sliceBounds;rcases e1 with⟨rfl,rfl⟩|⟨y,k,rfl,hy⟩<;>rcases e2 with⟨rfl,rfl⟩|⟨y',k',rfl,FB⟩<;>simp[Instr.sliceBound,asIntOf, *]
variable(hd:o.dst=BQ d)(hl:d<C.nt)
include hd hl
theorem go_ss{x:Operand}{t:TypeId}{lo hi:Option Operand}{p q:Option Int}{l:bD}(ho:o.op=.slice t x lo hi Ku)(ht:C.P.underlying t=BQ .string)(hx:ik C.E C.nt V t x=BQ (.s l,.no))(h1:qn C.E C.nt V lo=BQ p)(h2:qn C.E C.nt V hi=BQ q)(hc:fe (p.getD 0) (q.getD l.length) l.length=NS):fM C o a w (cX S d (.s ((l.take (q.getD l.length).toNat).drop (p.getD 0).toNat),.no)):=by have e1:=(fJ h hV hx).dW rfl;obtain⟨hb,k1,k2⟩:=abt h hV h1 h2 hc NT (Nat.le_refl _) (λ_=>rfl);have hs:ByteArray.size ⟨⟨l⟩⟩=l.length:=rfl;have he:(⟨⟨l⟩⟩:ByteArray).extract (p.getD 0).toNat (q.getD l.length).toNat=⟨⟨(l.take (q.getD l.length).toNat).drop (p.getD 0).toNat⟩⟩:=by{have:∀{s:ByteArray}{m:List UInt8},s.data.toList=m->s=⟨⟨m⟩⟩:=λh=>by{subst h;rfl};exact this (by rw[Lib.extract_data,List.drop_take])};refine h.jq hd hl (v:=.string ((⟨⟨l⟩⟩:ByteArray).extract (p.getD 0).toNat (q.getD l.length).toNat)) ?_ (.sc (by rw[he];rfl));simp only[execOp,ho,e1,Instr.sliceAt,Instr.slice,Sem.run_bind,run_underlying ht,Result.andThen_ok,Option.map_none,hs,hb,Sem.run_pure];simp[hb]
theorem go_sc{x:Operand}{t:TypeId}{lo hi:Option Operand}{p q:Option Int}{c:Cell}{st:fE}{l:List st.El}{ws:List (Nat×Cell)}(hE:kZ C.P C.E)(ho:o.op=.slice t x lo hi Ku)(ht:xI C.E t st=NS)(hx:ik C.E C.nt V t x=BQ c)(hf:EH V c=BQ (.sl st l,ws))(h1:qn C.E C.nt V lo=BQ p)(h2:qn C.E C.nt V hi=BQ q)(hc:fe (p.getD 0) (q.getD l.length) l.length=NS):fM C o a w (cX (gi S ws) d (.sl st ((l.take (q.getD l.length).toNat).drop (p.getD 0).toNat),.no)):=by obtain⟨R',h',e1,_⟩:=h.fr hV hx hf;obtain⟨e,inf,ht,uK,hz⟩:=s0 hE ht;have hb:=λcap zQ=>abt h hV h1 h2 hc NS (cap:=cap) zQ (λe=>by cases e);obtain⟨_,k1,k2⟩:=hb l.length (Nat.le_refl _);generalize hu:(q.getD l.length).toNat=u at*;generalize VO:(p.getD 0).toNat=lw at*;rcases e1.F7 with⟨rfl,hv⟩|⟨b,off,cap,hv,zQ,Py,hE'⟩|⟨rfl,ad,cap,hv,Py⟩;{obtain⟨rfl,rfl⟩:lw=0/\u=0:=by{simp at k2;omega};have uL:=(hb 0 (by simp)).1;refine h'.jq hd hl (v:=.slice Ku 0 0) ?_ (by simp only[List.take_nil,List.drop_nil];exact .sn st);simp only[aE]at uL;simp only[execOp,ho,hv,Instr.sliceAt,Instr.slice,Sem.run_bind,run_underlying ht,Result.andThen_ok,Option.map_none,uL,T1 uK,Sem.run_pure];simp};{refine h'.jq hd hl (v:=.slice (BQ ⟨b,if cap=lw then off else off+lw*st.size,Ku⟩) (u -lw) (cap -lw)) ?_ ?_;{simp only[execOp,ho,hv,Instr.sliceAt,Instr.slice,Sem.run_bind,run_underlying ht,Result.andThen_ok,Option.map_none,(hb cap zQ).1,T1 uK,Sem.run_pure,hz];split<;>simp[*,Ur]};{have hlen:((l.take u).drop lw).length=u -lw:=by{simp;omega};rw[<-hlen];refine .sl rfl (by rw[hlen];omega) (by omega) ?_;by_cases S2:cap=lw;{have:(l.take u).drop lw=[]:=bm (by rw[hlen];omega);rw[this];exact .nil _ _ _};{rw[ak S2,List.map_drop,List.map_take];exact(hE'.take u).drop lw}}};{obtain⟨rfl,rfl⟩:lw=0/\u=0:=by{simp at k2;omega};have uL:=(hb cap (by simp)).1;refine h'.jq hd hl (v:=.slice (BQ ad) 0 cap) ?_ (by simp only[List.take_nil,List.drop_nil];exact .em st Py);simp only[aE]at uL;simp only[execOp,ho,hv,Instr.sliceAt,Instr.slice,Sem.run_bind,run_underlying ht,Result.andThen_ok,Option.map_none,uL,T1 uK,Sem.run_pure];simp[Addr.add]}
theorem go_ix{x i:Operand}{t:TypeId}{st:fE}{l:List st.El}{n:Int}(hE:kZ C.P C.E)(ho:o.op=.indexAddr t x i)(ht:xI C.E t st=NS)(hx:Rep R w (.sl st l) (a.eval x))(hi:uA C.E C.nt V i=BQ n)(hn:bG n l.length=NS):fM C o a w (cX S d (.ro (st.tv (l.getD n.toNat st.fu)),.no)):=by obtain⟨e,inf,ht,uK,hz⟩:=s0 hE ht;obtain⟨k,e2⟩:=qm h hV hi;simp only[bG,af,aD]at hn;have gI:n.toNat<l.length:=by{omega};rcases hx.F7 with⟨rfl,hv⟩|⟨b,off,cap,hv,zQ,Py,hE'⟩|⟨rfl,ad,cap,hv,Py⟩;{simp at gI};{refine h.jq hd hl (v:=.pointer (BQ ⟨b,off+n.toNat*st.size,Ku⟩)) ?_ (.ro (hE'.get n.toNat _ ?_));{simp[execOp,ho,hv,e2,Instr.indexAt,asIntOf,run_underlying ht,T1 uK,hz,hn.1,Ur];omega};{simp[aj,aw gI]}};{simp at gI}
theorem go_pix{x i:Operand}{t:TypeId}{st:fE}{l:List st.El}{n:Int}{k:Nat}(hE:kZ C.P C.E)(ho:o.op=.indexAddr t x i)(ht:xI C.E t st=NS)(hx:ik C.E C.nt V t x=BQ (.pt,.fF k))(hk:S k=(.sl st l,.pv))(hi:uA C.E C.nt V i=BQ n)(hn:bG n l.length=NS):fM C o a w (cX S d (.el n.toNat st.size 0,.pe k)):=by obtain⟨e,inf,ht,uK,hz⟩:=s0 hE ht;obtain⟨kk,e2⟩:=qm h hV hi;obtain⟨q1,_,q3⟩:=iy h hV hx;have hv:a.eval x=τ k:=q1.1;simp only[bG,af,aD]at hn;have gI:n.toNat<l.length:=by{omega};have hs:=h.core.key k;rw[hk]at hs;rcases gm.cells hs with⟨rfl,_⟩|⟨g,cap,cur,ce,fz,e1,_⟩;{simp at gI};{rw[e1]at hv;refine h.val hd hl (v:=.pointer (BQ ⟨g,n.toNat*st.size,Ku⟩)) (g:=.pe k) ?_ ⟨g,_,_,_,by rw[e1];rfl,rfl,rfl⟩ rfl q3;simp[execOp,ho,hv,e2,Instr.indexAt,asIntOf,run_underlying ht,T1 uK,hz,hn.1,Ur];omega}
theorem go_la{x i:Operand}{t e:TypeId}{m k:Nat}{n:Int}{inf:TypeInfo}{cs:List TV}{ts:List (Nat×Nat)}(ho:o.op=.indexAddr t x i)(ht:C.P.underlying t=BQ (.array m e))(AD:C.P.info? e=BQ inf)(hx:ik C.E C.nt V t x=BQ (.pt,.ptr k 0))(hk:S k=(.ag cs,.cl ts))(hi:uA C.E C.nt V i=BQ n)(hn:bG n m=NS):fM C o a w (cX S d (.el n.toNat inf.size 0,.pe k)):=by obtain⟨kk,e2⟩:=qm h hV hi;obtain⟨q1,_,q3⟩:=iy h hV hx;obtain⟨b,p1,hv⟩:∃b,τ k=.pointer (BQ ⟨b,0,Ku⟩)/\a.eval x=.pointer (BQ ⟨b,0,Ku⟩):=q1;simp only[bG,af,aD]at hn;refine h.val hd hl (v:=.pointer (BQ ⟨b,n.toNat*inf.size,Ku⟩)) (g:=.pe k) ?_ ⟨b,_,_,_,by rw[p1];rfl,rfl,rfl⟩ rfl q3;simp[execOp,ho,hv,e2,Instr.indexAt,Instr.sureAddr,asIntOf,run_underlying ht,T1 AD,hn.1,hn.2,Ur]
section
variable{x:Operand}{t:TypeId}{f n:Nat}{agg:Bool}{fl:Field}(ho:o.op=.fieldAddr t x f)(hf:wP C.P t f=BQ fl)(hs:lj C.P fl.type=BQ (n,agg))(hn:0<n)
include ho hf hs hn
omit h hV hd hl in
theorem Gb{b off:Nat}(hv:a.eval x=.pointer (BQ ⟨b,off,Ku⟩)):(execOp a.eval o).run C.P w=.ok (.value (.pointer (BQ ⟨b,off+fl.offset,Ku⟩))) w:=by obtain⟨fs,ht,hf⟩:=xE hf;obtain⟨inf,hi,rfl,ha⟩:=iq hs;have nW:inf.size≠0:=by{omega};simp[execOp,ho,hv,Instr.fieldAt,Instr.sureAddr,run_underlying ht,hf,fieldPlace,T1 hi,nW,Ur]
theorem go_fa{m q:Nat}(hx:ik C.E C.nt V 0 x=BQ (.pt,.ptr m q)):fM C o a w (cX S d (.pt,.ptr m (q+fl.offset))):=by obtain⟨q1,_,q3⟩:=iy h hV hx;obtain⟨b,p1,hv⟩:∃b,τ m=.pointer (BQ ⟨b,0,Ku⟩)/\a.eval x=.pointer (BQ ⟨b,q,Ku⟩):=q1;exact h.val hd hl (Gb ho hf hs hn hv) (g:=.ptr m (q+fl.offset)) ⟨b,p1,rfl⟩ rfl q3
theorem go_pfa{i s q k:Nat}(hx:ik C.E C.nt V 0 x=BQ (.el i s q,.pe k)):fM C o a w (cX S d (.el i s (q+fl.offset),.pe k)):=by obtain⟨q1,_,q3⟩:=iy h hV hx;obtain⟨b,i',s',q',p1,p2,hv⟩:∃b i' s' q',Value.iL (τ k)=BQ b/\TV.el i s q=.el i' s' q'/\a.eval x=.pointer (BQ ⟨b,i'*s'+q',Ku⟩):=q1;cases p2;exact h.val hd hl (Gb ho hf hs hn hv) (g:=.pe k) ⟨b,_,_,_,p1,rfl,by rw[Nat.add_assoc]⟩ rfl q3
theorem go_fr{cs:List TV}{y:TV}(hx:ik C.E C.nt V 0 x=BQ (.ro (.ag cs),.no))(hp:qg cs fl.offset n agg=BQ y):fM C o a w (cX S d (.ro y,.no)):=by
 obtain⟨b,off,s',hv,hA⟩:=(fJ h hV hx).Gf;refine h.jq hd hl (Gb ho hf hs hn hv) ?_;cases hA with
 |one n _ _ _ _=>simp[TV.xK]at n
 |ag _ hC=>
  unfold qg at hp;cases agg with
  |true=>
   simp only at hp;cases hb:Nat.ble (fl.offset+n) cs.length with
   |true=>rw[hb]at hp;cases hp;exact .ro (.ag rfl ((hC.drop fl.offset).take n))
   |false=>rw[hb]at hp;cases hp
  |false=>
   simp at hp;have gI:=(aH.1 hp).1;have hD:=hC.drop fl.offset;rw[List.drop_eq_getElem_cons gI]at hD;have hs:cs[fl.offset]=y:=(aH.1 hp).2;rw[hs]at hD;cases hD with
   |cons r c a Kn _=>
    refine .ro (.one ?_ r c a Kn);cases y with
    |ag _=>cases Kn with
     |sc h=>cases h
     |ag=>simp[Value.oneCell']at a
    |_=>rfl
end
theorem go_nc{x:Operand}{m q:Nat}(ho:o.op=.nilCheck x)(hx:ik C.E C.nt V 0 x=BQ (.pt,.ptr m q)):fM C o a w (cX S d (.pt,.ptr m q)):=by obtain⟨q1,q2,q3⟩:=iy h hV hx;obtain⟨b,p1,hv⟩:∃b,τ m=.pointer (BQ ⟨b,0,Ku⟩)/\a.eval x=.pointer (BQ ⟨b,q,Ku⟩):=q1;exact h.val hd hl (v:=.pointer (BQ ⟨b,q,Ku⟩)) (by simp[execOp,ho,hv]) (g:=.ptr m q) ⟨b,p1,rfl⟩ rfl q3
theorem go_ncr{x:Operand}{y:TV}(ho:o.op=.nilCheck x)(hx:ik C.E C.nt V 0 x=BQ (.ro y,.no)):fM C o a w (cX S d (.ro y,.no)):=by obtain⟨b,off,s',hv,hA⟩:=(fJ h hV hx).Gf;exact h.jq hd hl (v:=.pointer (BQ ⟨b,off,Ku⟩)) (by simp[execOp,ho,hv]) (.ro hA)
theorem go_ext{x:Operand}{i k:Nat}{vs:List TV}{l:List (Nat×Nat)}(ho:o.op=.extract x i)(hx:ik C.E C.nt V 0 x=BQ (.tu vs,.Ql l))(hk:pX i l=BQ k)(Cv:(τ k).oneCell'=NS):fM C o a w (cX S d (.pt,.fF k)):=by obtain⟨q1,_,q3⟩:=iy h hV hx;obtain⟨ys,Kk,e1,e2,e3,e4⟩:∃ys Kk,a.eval x=.tuple ⟨ys⟩/\TV.tu vs=.tu Kk/\jy R w Kk ys/\∀p∈l,ys[p.1]?=BQ (τ p.2):=q1;have hm:=qW hk;refine h.val hd hl (v:=τ k) (by simp[execOp,ho,e1,Instr.extract,e4 _ hm]) (g:=.fF k) ⟨rfl,Cv⟩ rfl λj hj=>?_;simp only[Gh.dA,List.mem_singleton]at hj;subst hj;exact q3 _ (List.mem_map_of_mem (f:=(·.2)) hm)
end
def jP{nt k:Nat}{V S:St}(hV:Lq V S)(h:wB nt V k=NS):(S k).2=.no/\k<1000000/\nt<=k:=by simp only[wB,af,aD]at h;obtain⟨⟨h1,h2⟩,h3⟩:=h;refine⟨?_,Nat.le_of_ble_eq_true h2,Nat.le_of_ble_eq_true h3⟩;rcases hV k with e|e|⟨e,_⟩;{rw[<-e];exact h1};{rw[h1]at e;cases e};{rw[h1]at e;cases e}
def pn{R:Reach}{w:World}{x:TV}{v:Value}(h:Rep R w x v)(hp:x.plain=NS):dR R w x.cells v.cells.toList:=by
 cases h with
 |sc hv=>have key:∀{x:TV}{v:Value},x.val=BQ v->v.oneCell'=NS->x.xK=NT->x.plain=NS->dR R w x.cells v.cells.toList:=λ{x v}h1 h2 h3 h4=>by{have e1:x.cells=[x]:=by{cases x<;>first|rfl|(simp[TV.xK]at h3)};have e2:v.cells.toList=[v]:=by{cases v<;>first|rfl|(simp[Value.oneCell']at h2)};rw[e1,e2];exact .cons h2 (.sc h1) .nil};refine key hv ?_ (by cases x<;>first|rfl|cases hv) hp;(cases x<;>first|(cases hv;done)|(cases hv;rfl)|skip);cases hv;cases v<;>first|rfl|(cases hp)
 |ag h=>exact h
 |nl t=>exact .cons rfl (.nl t) .nil
 |ub _=>simp[TV.plain]at hp
 |sn t=>exact .cons rfl (.sn t) .nil
 |sl a b c d=>exact .cons rfl (.sl a b c d) .nil
 |em s h=>exact .cons rfl (.em s h) .nil
 |ro h=>exact .cons rfl (.ro h) .nil
 |tu=>simp[TV.plain]at hp
 |pt=>simp[TV.plain]at hp
 |dead=>simp[TV.plain]at hp
 |Um=>simp[TV.plain]at hp
 |We=>simp[TV.plain]at hp
def uX{P:Program}{t:TypeId}{i:TypeInfo}{v:Value}(hi:P.info? t=BQ i)(hz:i.zero=BQ v)(w:World):(zeroValue t).run P w=.ok v w:=by simp[zeroValue,typeInfo,hi,hz]
theorem xC{α:Type}{zs:List α}(hz:0<zs.length):∀(l j:Nat)(y:α),(List.replicate l zs).flatten[j]?=BQ y->zs[j% zs.length]?=BQ y
 |0,j,y,h=>by simp at h
 |l+1,j,y,h=>by simp only[List.replicate_succ,List.flatten_cons]at h;by_cases hj:j<zs.length;{rw[List.getElem?_append_left hj]at h;rwa[Nat.mod_eq_of_lt hj]};{rw[aY (by omega)]at h;have:=xC hz l _ y h;rwa[Nat.mod_eq_sub_mod (by omega)]}
theorem sw{R:Reach}{w:World}{xs:List TV}{ys:List Value}(h:dR R w xs ys):∀n,dR R w (List.replicate n xs).flatten (List.replicate n ys).flatten
 |0=>.nil
 |n+1=>by simp only[List.replicate_succ,List.flatten_cons];exact h.append (sw h n)
section
variable{C:Ctx}{S V:St}{a:Act}{w w':World}{R:Reach}{τ:Nat->Value}{o:Oper}{d:Nat}
theorem fP.new(h:fP C S a w R τ){cur:Array Value}{e:TypeId}{fz:Nat×Nat}{k:Nat}{v:Value}{x:TV}{g:Gh}(hk:(S k).2=.no/\k<1000000/\C.nt<=k)(os:w'.os=w.os)(tape:w'.tape=w.tape)(out:w'.output=w.output)(hh:w'.heap=w.heap.push (.cells cur e fz))(new:kY R w' τ x g v)(hb:Value.iL v=Ku\/Value.iL v=BQ w.heap.size)(hg:g=.pv\/g=.lv\/g=.cl []):fP C (cX S k (x,g)) a w' R (Ap τ k v):=by
 have wL:w'.heap.size=w.heap.size+1:=by{rw[hh];simp};have hold:∀b,b<w.heap.size->w'.heap[b]?=w.heap[b]?:=λb hb=>by{rw[hh,Array.getElem?_push,ak (by omega)]};have eC:fq R w R w':=λb o hr=>⟨hr,World.cell?_of_block (w:=w) (hold b (h.core.vK b o hr))⟩;have hm:g.dA=[]:=by{rcases hg with rfl|rfl|rfl<;>rfl};refine⟨h.size,h.defers,h.core.kD hk.2.2 eC (λj b _ hb=>⟨hold b (h.core.lt hb),λ_=>id⟩) new (.inr hk.1) ⟨by rw[hk.1];rfl,by rcases hg with rfl|rfl|rfl<;>rfl⟩ (by rcases hg with rfl|rfl|rfl<;>simp)
  (λ_=>.inr hk.1) (λb _ oZ=>?_) (by rw[hm];simp) (λb o hr=>by have:=h.core.vK b o hr;omega),λt ht=>?_,⟨h.io.1,λj hj=>?_⟩,
  h.ext.trans (io':=C.io) ⟨os,tape,out,by omega,λb hb _=>hold b hb,eC,λb o hr=>.inl hr⟩ λb hb=>.inl hb,h.gl.eC eC⟩
 {rcases hb with hb|hb<;>rw[hb]at oZ<;>cases oZ;exact⟨.inr h.ext.size,.inl (Nat.le_refl _)⟩};{rw[jz _ _ (by omega)];exact h.tmps t ht};{rw[jz _ _ (by omega)];exact h.io.2 j hj}
theorem fP.zS(h:fP C S a w' R τ)(hd:o.dst=BQ d)(hl:d<C.nt){v:Value}{x:TV}{g:Gh}(hr:(execOp a.eval o).run C.P w=.ok (.value v) w')(hs:fo R w' τ x g v)(hg:g.slot=NS)(hm:∀k∈g.dA,C.nt<=k/\(S k).2≠.no):fM C o a w (cX S d (x,g)):=λK Q hK=>by unfold Oper.wp;rw[hr,Oper.upon_value,hd];refine hK _ _ ⟨R,_,by simp[Act.put,h.size],h.defers,h.core.put hl hs hg hm,λt ht=>?_,⟨h.io.1,λk hk=>?_⟩,h.ext,h.gl⟩;{by_cases e:t=d;{subst e;rw[iE];simp[Act.put,Array.getD,h.size,ht]};{rw[jz _ _ e,<-h.tmps t ht];simp only[Act.put,Array.getD_eq_getD_getElem?];rw[Array.getElem?_setIfInBounds_ne (Ne.symm e)]}};{have:=h.io.1;rw[jz _ _ (by omega)];exact h.io.2 k hk}
theorem fP.S9(h:fP C S a w R τ)(hd:o.dst=BQ d)(hl:d<C.nt){cur:Array Value}{e:TypeId}{fz:Nat×Nat}{k cap:Nat}{st:fE}{l:List st.El}{ys:List Value}(hk:(S k).2=.no/\k<1000000/\C.nt<=k)(os:w'.os=w.os)(tape:w'.tape=w.tape)(out:w'.output=w.output)(hh:w'.heap=w.heap.push (.cells cur e fz))(hf:∀o,o<cur.size->¬(fz.1<=o/\o<fz.2))(wL:cur.size=cap*st.size)(h1:l.length<=cap)(h2:cap<=maxLen)(hL:dR R w ((l.map st.tv).flatMap TV.cells) ys)(SZ:∀(j:Nat)(y:Value),ys[j]?=BQ y->cur[j]?=BQ y)(hr:(execOp a.eval o).run C.P w=.ok (.value (.slice (BQ ⟨w.heap.size,0,Ku⟩) l.length cap)) w'):fM C o a w (cX (cX S k (.sl st l,.pv)) d (.pt,.fF k)):=by have SK:w'.heap[w.heap.size]?=BQ (.cells cur e fz):=by{rw[hh];simp};have hold:∀b,b<w.heap.size->w'.heap[b]?=w.heap[b]?:=λb hb=>by{rw[hh,Array.getElem?_push,ak (by omega)]};have eC:fq R w R w':=λb o hr=>⟨hr,World.cell?_of_block (w:=w) (hold b (h.core.vK b o hr))⟩;have hlen:=hL.length;rw[py]at hlen;have Sv:cur.toList.take (l.length*st.size)=ys:=by{apply List.ext_getElem?;intro j;rw[bc];split;{have e:=aw (l:=ys) (i:=j) (by omega);have:=SZ j _ e;rw[e];simpa using this};{exact(List.getElem?_eq_none (by omega)).symm}};have hn:=h.new (x:=.sl st l) (g:=.pv) (v:=.slice (BQ ⟨w.heap.size,0,Ku⟩) l.length cap) hk os tape out hh ⟨st,l,rfl,.inr ⟨_,cap,cur,e,fz,rfl,SK,hf,wL,h1,h2,by rw[Sv];exact hL.mono eC,λo=>⟨λhr=>by have:=h.core.vK _ _ hr;omega,λhr=>by simp at hr⟩⟩⟩ (.inr rfl) (.inl rfl);refine hn.zS hd hl hr (g:=.fF k) ⟨(iE _ _ _).symm,rfl⟩ rfl λj hj=>?_;simp only[Gh.dA,List.mem_singleton]at hj;subst hj;exact⟨hk.2.2,by rw[cO];simp⟩
theorem fP.goVar(h:fP C S a w R τ)(hd:o.dst=BQ d)(hl:d<C.nt){ys:List Value}{e:TypeId}{k:Nat}{xs:List TV}(hk:(S k).2=.no/\k<1000000/\C.nt<=k)(os:w'.os=w.os)(tape:w'.tape=w.tape)(out:w'.output=w.output)(hh:w'.heap=w.heap.push (.cells ⟨ys⟩ e (0,0)))(hL:dR R w xs ys)(hr:(execOp a.eval o).run C.P w=.ok (.value (.pointer (BQ ⟨w.heap.size,0,Ku⟩))) w'):fM C o a w (cX (cX S k (.ag xs,.cl [])) d (.pt,.ptr k 0)):=by have SK:w'.heap[w.heap.size]?=BQ (.cells ⟨ys⟩ e (0,0)):=by{rw[hh];simp};have hold:∀b,b<w.heap.size->w'.heap[b]?=w.heap[b]?:=λb hb=>by{rw[hh,Array.getElem?_push,ak (by omega)]};have eC:fq R w R w':=λb o hr=>⟨hr,World.cell?_of_block (w:=w) (hold b (h.core.vK b o hr))⟩;have hn:=h.new (x:=.ag xs) (g:=.cl []) (v:=.pointer (BQ ⟨w.heap.size,0,Ku⟩)) hk os tape out hh ⟨_,ys,e,xs,rfl,SK,rfl,hL.mono eC,by simp,λo hr=>by have:=h.core.vK _ _ hr;omega⟩ (.inr rfl) (.inr (.inr rfl));refine hn.zS hd hl hr (g:=.ptr k 0) ⟨_,iE _ _ _,rfl⟩ rfl λj hj=>?_;simp only[Gh.dA,List.mem_singleton]at hj;subst hj;exact⟨hk.2.2,by rw[cO];simp⟩
variable(h:fP C S a w R τ)(hd:o.dst=BQ d)(hl:d<C.nt)
include h hd hl
theorem go_al{t:TypeId}{k:Nat}{z:List TV}(hE:kZ C.P C.E)(ho:o.op=.alloc t)(hz:C.E.z t=BQ z)(hk:(S k).2=.no/\k<1000000/\C.nt<=k):fM C o a w (cX (cX S k (.ag z,.cl [])) d (.pt,.ptr k 0)):=by obtain⟨_,v,h1,h2⟩:=hE.z _ _ hz;rw[aV]at h1;obtain⟨i,hi,Xk⟩:=h1;exact h.goVar hd hl (w':={w with heap:=w.heap.push (.cells ⟨v.cells.toList⟩ t)}) hk rfl rfl rfl rfl (sY h2) (by simp[execOp,ho,Instr.alloc,uX hi Xk,newVar,newRow])
theorem go_bx{t:TypeId}{k:Nat}{x:Operand}{y:TV}(hV:Lt V S)(ho:o.op=.box t x)(hx:ik C.E C.nt V t x=BQ (y,.no))(hp:y.plain=NS)(hk:(S k).2=.no/\k<1000000/\C.nt<=k):fM C o a w (cX (cX S k (.ag y.cells,.cl [])) d (.pt,.ptr k 0)):=h.goVar hd hl (w':={w with heap:=w.heap.push (.cells ⟨(a.eval x).cells.toList⟩ t)}) hk rfl rfl rfl rfl (pn (fJ h hV hx) hp) (by simp[execOp,ho,Instr.box,newVar,newRow])
theorem go_sb{x:Operand}{s t e:TypeId}{c:Cell}{l:bD}{k:Nat}(hV:Lt V S)(ho:o.op=.convert s t x)(hx:ik C.E C.nt V s x=BQ c)(hy:Ar V c=BQ (.s l))(hs:C.P.underlying s=BQ .string)(ht:C.P.underlying t=BQ (.slice e))(he:C.P.underlying e=BQ (.int .u8))(hm:qQ l.length=NS)(hk:(S k).2=.no/\k<1000000/\C.nt<=k):fM C o a w (cX (cX S k (.sl .bs l,.pv)) d (.pt,.fF k)):=by
 have e1:=aac h hV hx hy rfl;have hlen:ByteArray.size ⟨⟨l⟩⟩=l.length:=rfl;have hm:l.length<=maxLen:=by{simpa[qQ]using hm};have mW:=run_bytes_of_string (P:=C.P) w s t e ⟨⟨l⟩⟩ hs ht he;rw[hlen]at mW;have Mn:=grownCap_ge w l.length 0 e;have hle:=grownCap_le_maxLen w l.length 0 e hm;have wL:(bytesRow ⟨⟨l⟩⟩ (grownCap w l.length 0 e)).size=grownCap w l.length 0 e:=by{simp only[bytesRow,Array.size_append,Array.size_map,Array.size_replicate,List.size_toArray];omega};refine h.S9 hd hl (st:=.bs) (l:=l) (ys:=l.map λx=>.int .u8 x.toNat) (cur:=bytesRow ⟨⟨l⟩⟩ (grownCap w l.length 0 e)) (e:=e) (fz:=((bytesRow ⟨⟨l⟩⟩ (grownCap w l.length 0 e)).size,(bytesRow ⟨⟨l⟩⟩ (grownCap w l.length 0 e)).size+1)) hk ?_ ?_ ?_ ?_ ?_ ?_ Mn hle ?_ ?_ (w':=w.drew.alloc (.cells (bytesRow ⟨⟨l⟩⟩ (grownCap w l.length 0 e)) e ((bytesRow ⟨⟨l⟩⟩ (grownCap w l.length 0 e)).size,(bytesRow ⟨⟨l⟩⟩ (grownCap w l.length 0 e)).size+1))) (by simp only[execOp,ho,e1,Sem.run_bind,mW,Result.andThen_ok,Sem.run_pure]);{rfl};{rfl};{rfl};{rfl};{simp only;intro o ho;omega};{simpa[fE.size]using wL}
 ·rw[yn];have:∀m:bD,dR R w (m.map TV.u8) (m.map λx=>.int .u8 x.toNat):=λm=>by
   induction m with
   |nil=>exact .nil
   |cons b m ih=>exact .cons rfl (.sc rfl) ih
  exact this l
 {intro j y hj;have gI:=(aH.1 hj).1;unfold bytesRow;rw[Array.getElem?_append_left (by simp at gI⊢;exact gI)];simpa using hj}
theorem go_cc{x:Operand}{t e:TypeId}{l:bD}{k:Nat}(hV:Lt V S)(ho:o.op=.convert t t x)(hx:ik C.E C.nt V t x=BQ (.pt,.fF k))(hk:V k=(.sl .bs l,.pv))(ht:C.P.underlying t=BQ (.slice e))(he:C.P.underlying e=BQ (.int .u8))(nW:l≠[]):fM C o a w (cX (cX S k (.dead,.zz)) d (.sl .bs l,.no)):=by obtain⟨q1,_,q3⟩:=iy h hV hx;obtain⟨hv,_⟩:a.eval x=τ k/\_:=q1;have Ob:=(q3 k (by simp[Gh.dA])).1;have hS:=hV.of hk;have h0:=h.core.key k;rw[hS]at h0;obtain⟨st,l',VO,⟨rfl,_⟩|⟨g,cap,cur,ce,fz,Zm,h1,h2,h3,h4,h5,h6,h7⟩⟩:=h0;{cases VO;exact(nW rfl).elim};cases VO;have hb:iL τ S k=BQ g:=iK (by rw[hS];rfl) (by rw[hS];rfl) (by rw[Zm];rfl);obtain⟨R',hc,hz,hr,_⟩:=h.core.freeze Ob hS;have Mh:=h.fz hc hz;have Kq:g<w.heap.size:=(Array.getElem?_eq_some_iff.1 h1).1;generalize Zl:w.freeze ⟨g,cur.size,Ku⟩ 1=w2;have hh:w2.heap=w.heap.modify g fun|.cells c el (lo,hi)=>.cells c el (if lo==hi then(cur.size,cur.size+1)else(min lo cur.size,max hi (cur.size+1)))|o=>o:=by{rw[<-Zl];unfold World.freeze;rw[ak (by decide)];rfl};have wL:w2.heap.size=w.heap.size:=by{rw[hh,Array.size_modify]};have ZC:∀b,b≠g->w2.heap[b]?=w.heap[b]?:=λb hb=>by{rw[hh,Array.getElem?_modify,ak (λe=>hb e.symm)]};have zP:∀b o,w2.cell? ⟨b,o,Ku⟩=w.cell? ⟨b,o,Ku⟩:=λb o=>by{by_cases e:b=g;{subst e;have:w2.heap[b]?=BQ (.cells cur ce (if fz.1==fz.2 then(cur.size,cur.size+1)else(min fz.1 cur.size,max fz.2 (cur.size+1)))):=by{rw[hh,Array.getElem?_modify,ar rfl,h1];rfl};simp only[World.cell?,this,h1]};{simp only[World.cell?,ZC b e]}};have eC:fq R' w R' w2:=λb o hr=>⟨hr,zP b o⟩;have Z9:cX S k (.sl .bs l,.lv) k=(.sl .bs l,.lv):=cO _ _ _;have C7:iL τ (cX S k (.sl .bs l,.lv)) k=BQ g:=iK (by rw[Z9];rfl) (by rw[Z9];rfl) (by rw[Zm];rfl);have GO:=hc.kD (k:=k) (v:=τ k) (x:=.dead) (g:=.zz) (w':=w2) (R':=R') Ob eC (λj b hj JJ=>⟨ZC b λe=>hj (hc.yO (e▸JJ) C7),λ_=>id⟩) trivial (.inl rfl) (by rw[Z9];exact⟨rfl,rfl⟩) (by simp) (λh=>by cases h) (λ_ h=>by cases h) (λ_ h=>by cases h) (λb o hr=>by rw[wL];exact hc.vK b o hr);rw[show Ap τ k (τ k)=τ by funext j;simp only[Ap];split<;>simp_all,show cX (cX S k (.sl .bs l,.lv)) k (.dead,.zz)=cX S k (.dead,.zz) by funext j;by_cases e:j=k;rw[e,cO,cO];rw[fH _ _ e,fH _ _ e,fH _ _ e]]at GO;have ZD:w2.os=w.os/\w2.tape=w.tape/\w2.output=w.output:=by{rw[<-Zl];unfold World.freeze;rw[ak (by decide)];exact⟨rfl,rfl,rfl⟩};have Xq:fP C (cX S k (.dead,.zz)) a w2 R' τ:=⟨h.size,h.defers,GO,h.tmps,h.io,Mh.ext.trans (io':=(·=g)) ⟨ZD.1,ZD.2.1,ZD.2.2,by rw[wL];exact Nat.le_refl _,λc _ hc=>ZC c hc,eC,λc o hr=>.inl hr⟩ λc hc=>hc▸h.core.eG k g hb,Mh.gl.eC eC⟩;have Sz:w.shape? g=BQ (ce,cur.size):=by{unfold World.shape?;rw[h1]};refine Xq.zS hd hl (v:=τ k) (x:=.sl .bs l) (g:=.no) ?_ (Rep.mono eC hr) rfl (by simp[Gh.dA]);rw[Zm]at hv⊢;simp[execOp,ho,hv,convert,run_underlying ht,run_underlying he,markStringish,Sz];exact Zl
theorem go_mk{t:TypeId}{x y:Operand}{k tE:Nat}{m n:Int}{st:fE}(hE:kZ C.P C.E)(hV:Lt V S)(ho:o.op=.makeSlice t x y)(ht:C.E.ty t=BQ (st,tE))(hx:uA C.E C.nt V x=BQ m)(hy:uA C.E C.nt V y=BQ n)(hm:uu m n tE=NS)(hk:(S k).2=.no/\k<1000000/\C.nt<=k):fM C o a w (cX (cX S k (.sl st (List.replicate m.toNat st.fu),.pv)) d (.pt,.fF k)):=by
 obtain⟨e,i,zv,h1,h2,h3,h4,h5,h6,h7⟩:=hE.ty _ _ _ ht;obtain⟨k1,e1⟩:=qm h hV hx;obtain⟨k2,e2⟩:=qm h hV hy;simp only[uu,af,aD]at hm;obtain⟨⟨⟨m0,mn⟩,mb⟩,mm⟩:=hm;have hmk:=run_make (P:=C.P) w t e i zv h1 h2 h5 k1 k2 m n m0 mn (by rw[Int.mul_comm,h4];omega) (by simp only[maxLen]at mm;omega);have qA:=st.size_pos;have hfm:((List.replicate m.toNat st.fu).map st.tv).flatMap TV.cells=(List.replicate m.toNat (st.tv st.fu).cells).flatten:=by{rw[List.map_replicate,List.flatMap_def,List.map_replicate]};refine h.S9 hd hl (st:=st) (l:=List.replicate m.toNat st.fu) (cap:=n.toNat) (cur:=madeCells zv.cells (n.toNat*i.size)) (e:=e) (fz:=(0,0)) (ys:=(List.replicate m.toNat zv.cells.toList).flatten) (w':=w.alloc (.cells (madeCells zv.cells (n.toNat*i.size)) e)) hk rfl rfl rfl rfl (λo _=>by simp) (by rw[size_madeCells,h3]) (by rw[List.length_replicate];omega) (by omega)
  (by rw[hfm];exact sw (h7 R w) _) (λj y hj=>?_) ?_
 {have q1:=xC (by simp;omega) _ _ _ hj;have gI:=(aH.1 hj).1;have VT:(List.replicate m.toNat zv.cells.toList).flatten.length=m.toNat*st.size:=by{simp[h6]};rw[VT]at gI;have hle:m.toNat*st.size<=n.toNat*st.size:=ay _ (by omega);have hm:j<n.toNat*i.size:=by{rw[h3];omega};simp only[madeCells,Array.getElem?_map,Array.getElem?_range,hm,if_true,Option.map_some];simp only[Array.length_toList,Array.getElem?_toList]at q1;rw[getElem!_def,q1]};{simp only[execOp,ho,e1,e2,Sem.run_bind,hmk,Result.andThen_ok,Sem.run_pure,List.length_replicate]}
end
theorem mr{P:Program}(g o:Nat)(t:TypeId)(fz:Nat×Nat):∀(vs:List Value)(i:Nat)(cur:Array Value)(w:World),w.heap[g]?=BQ (.cells cur t fz)->o+i+vs.length<=cur.size->
  (∀j,j<cur.size->¬(fz.1<=j/\j<fz.2))->(∀v∈vs,v.oneCell'=NS)->
  (storeCells ⟨g,o,Ku⟩ vs i).run P w=.ok () (w.setRow g (cur.toList.take (o+i)++vs++cur.toList.drop (o+i+vs.length)).toArray)
 |[],i,cur,w,hg,_,_,_=>by simp only[storeCells,aM,aE,Nat.add_zero,List.take_append_drop,Array.toArray_toList];rw[setRow_self w g cur t fz hg];rfl
 |v::rest,i,cur,w,hg,hl,hf,h1=>by have hi:o+i<cur.size:=by{simp at hl;omega};have Z6:(⟨g,o,Ku⟩:Addr).add i=⟨g,o+i,Ku⟩:=Ur g o i;have zP:w.cell? ⟨g,o+i,Ku⟩=BQ cur[o+i]:=by{simp[World.cell?,hg,hi]};have ZW:w.frozen? ⟨g,o+i,Ku⟩=NT:=by{obtain⟨f1,f2⟩:=fz;have:=hf (o+i) hi;simp only[World.frozen?,hg];simp only[Bool.and_eq_false_iff,decide_eq_false_iff_not];simp only at this;omega};have JF:(store ((⟨g,o,Ku⟩:Addr).add i) v).run P w=.ok () (w.setRow g (cur.setIfInBounds (o+i) v)):=by{rw[Z6,run_store P w _ v _ (h1 v (by simp)),zP];simp[ZW,setCell_eq_setRow w g (o+i) cur t fz v hg]};have ih:=mr (P:=P) g o t fz rest (i+1) (cur.setIfInBounds (o+i) v) (w.setRow g (cur.setIfInBounds (o+i) v)) (setRow_heap w g cur _ t _ hg) (by simp at hl⊢;omega) (by simpa using hf) (λx hx=>h1 x (by simp[hx]));simp only[storeCells,Sem.run_bind,JF,Result.andThen_ok,ih,setRow_setRow];congr 3;have e:=list_seg_step cur.toList (o+i) v rest (by simp at hl⊢;omega);simpa[Array.toList_setIfInBounds,Nat.add_assoc]using e
section
variable{P:Program}{w:World}
def Source(P:Program)(w:World)(s:Nat)(x:Value)(m:Nat)(news:List Value):Prop:=(∀w',(Builtin.lenOf x).run P w'=.ok m w')/\(∀w':World,w'.heap=w.heap->(Builtin.firstCells s m x).run P w'=.ok ⟨news⟩ w')/\news.length=m*s/\∀v∈news,v.oneCell'=NS
theorem wg {t u ty e:TypeId} {i:TypeInfo} {du:TypeDesc} (ht:P.underlying t=BQ (.slice e)) (hi:P.info? e=BQ i) (hu:P.underlying u=BQ du) (Cy:∀k,du ≠ .int k)
  {g n cap m:Nat} {cur:Array Value} {ce:TypeId} {fz:Nat × Nat} {x:Value} {news:List Value} (hg:w.heap[g]?=BQ (.cells cur ce fz)) (hf:∀j,j<cur.size→¬(fz.1≤j∧j<fz.2))
  (hx:Source P w i.size x m news) (Bm:n+m≤cap) (pd:cur.size=cap * i.size) :
  (Builtin.append_ #[t,u] ty #[.slice (BQ ⟨g,0,Ku⟩) n cap,x]).run P w =
   .ok (.slice (BQ ⟨g,0,Ku⟩) (n+m) cap) (w.setRow g (cur.toList.take (n * i.size)++news++cur.toList.drop (n * i.size+news.length)).toArray):=by
 obtain ⟨h1,h2,h3,h4⟩:=hx
 have hle:n * i.size+news.length≤cur.size:=by rw [h3,pd,←Nat.add_mul];exact ay _ Bm
 have JF:=mr (P:=P) g (n * i.size) ce fz news 0 cur w hg (by simpa using hle) hf h4
 simp only [Nat.add_zero] at JF
 have hz:(match du with | .int _=>NS | _=>NT)=NT:=by cases du <;> first | rfl | exact (Cy _ rfl).elim
 simp only [Builtin.append_,List.getElem?_toArray,List.getElem?_cons_zero,List.getElem?_cons_succ,Sem.run_bind,run_underlying ht,run_underlying hu,Result.andThen_ok,T1 hi,Sem.run_pure,hz,bq,if_false,h1,Bm,if_true,aJ,h2 w rfl]
 simp [Ur,JF]
theorem wh {t u ty e:TypeId} {i:TypeInfo} {z:Value} {du:TypeDesc} (ht:P.underlying t=BQ (.slice e)) (hi:P.info? e=BQ i) (hz:i.zero=BQ z) (hu:P.underlying u=BQ du) (Cy:∀k,du ≠ .int k)
  {q:Option Addr} {n cap m:Nat} {x:Value} {zg news:List Value} (ho:∀w':World,w'.heap=w.heap→(Builtin.firstCells i.size n (.slice q n cap)).run P w' = .ok ⟨zg⟩ w')
  (hx:Source P w i.size x m news) (hg:cap<n+m) (X5:n+m≤maxLen) (hb:(n+m) * i.bytes≤140737488355328) :
  (Builtin.append_ #[t,u] ty #[.slice q n cap,x]).run P w =
   .ok (.slice (BQ ⟨w.heap.size,0,Ku⟩) (n+m) (grownCap w (n+m) cap e))
    (w.drew.alloc (.cells ((⟨zg⟩:Array Value)++⟨news⟩++Builtin.zeroCells z.cells (grownCap w (n+m) cap e - (n+m))) e)):=by
 obtain ⟨h1,h2,h3,h4⟩:=hx
 have hn:¬(n+m≤cap):=by omega
 have h63':¬(9223372036854775807<((n:Int)+(m:Int))):=by simp only [maxLen] at X5;omega
 have h48':¬(281474976710656<Builtin.nextslicecap (n+m) cap * i.bytes):=by
  have:=growslice_fits hg hb;omega
 have ZZ:(match du with | .int _=>NS | _=>NT)=NT:=by cases du <;> first | rfl | exact (Cy _ rfl).elim
 simp [Builtin.append_,run_underlying ht,run_underlying hu,ZZ,sizeOf,typeInfo,zeroValue,hi,hz,h1,hn,h63',h48',Question.forced,ho w.drew rfl,h2 w.drew rfl,newRow,grownCap]
 congr 2
 apply Array.ext'
 simp [aA]
end
section
variable{w:World}
theorem Source.of_string{P:Program}(b:ByteArray):Source P w 1 (.string b) b.data.toList.length (b.data.toList.map λb=>.int .u8 b.toNat):=by refine⟨λ_=>?_,λw' _=>?_,by simp,by simp;exact λ_ _=>rfl⟩;{rw[amc];rfl};{have:b.extract 0 b.size=b:=by{simp};simp only[Builtin.firstCells,amc,this,Sem.run_pure];congr 1;apply Array.ext';simp}
theorem Source.of{P:Program}{R:Reach}{t:fE}{l:List t.El}{x:Value}(h:Holds R w t l x):∃news,Source P w t.size x l.length news/\dR R w ((l.map t.tv).flatMap TV.cells) news:=by rcases h with⟨rfl,rfl|⟨ad,cap,rfl⟩⟩|⟨b,off,cap,ys,rfl,h1,h2,h3⟩;{exact⟨[],⟨λ_=>rfl,λ_ _=>rfl,by simp,by simp⟩,.nil⟩};{exact⟨[],⟨λ_=>rfl,λw' _=>run_firstCells_some (P:=P) w' t.size 0 ad 0 cap [] (by simp) (λj v hj=>by simp at hj),by simp,by simp⟩,.nil⟩};{refine⟨ys,⟨λ_=>rfl,λw' hw=>?_,h1,h3.one⟩,h3⟩;exact run_firstCells_some (P:=P) w' t.size l.length ⟨b,off,Ku⟩ l.length cap ys h1 (λj v hj=>by rw[Ur];rw[World.cell?_of_block (w:=w) (by rw[hw])];exact h2 j v hj)}
theorem Source.R5{P:Program}{R:Reach}(l:bD):Source P w 1 (.string ⟨⟨l⟩⟩) l.length (l.map λb=>.int .u8 b.toNat)/\dR R w ((l.map (fE.tv .bs)).flatMap TV.cells) (l.map λb=>.int .u8 b.toNat):=by
 refine⟨Source.of_string (P:=P) (w:=w) ⟨⟨l⟩⟩,?_⟩;rw[yn];induction l with
 |nil=>exact .nil
 |cons b m ih=>exact .cons rfl (.sc rfl) ih
end
theorem EL{s:Nat}:∀{es:List TV}{i:Nat}{e:TV},(∀x∈es,x.cells.length=s)->es[i]?=BQ e->((es.flatMap TV.cells).drop (i*s)).take s=e.cells
 |x::es,0,e,h,he=>by simp at he;subst he;have:=h x (by simp);simp[<-this]
 |x::es,i+1,e,h,he=>by have hx:=h x (by simp);have ih:=EL (es:=es) (i:=i) (e:=e) (λy hy=>h y (by simp[hy])) (by simpa using he);simp only[List.flatMap_cons];rw[show(i+1)*s=x.cells.length+i*s by rw[hx,Nat.succ_mul];omega,<-List.drop_drop,List.drop_left];exact ih
 |[],_,_,_,he=>by simp at he
section
variable{C:Ctx}{S V:St}{a:Act}{w w':World}{R:Reach}{τ:Nat->Value}{o:Oper}{d:Nat}
theorem fP.wr(h:fP C S a w R τ){k b:Nat}{cur cur':Array Value}{e:TypeId}{fz:Nat×Nat}{x:TV}{g:Gh}(hk:C.nt<=k)(hb:iL τ S k=BQ b)(hP:(S k).2.HZ=NT)(hh:w.heap[b]?=BQ (.cells cur e fz))(hR:∀o,¬R b o)(new:kY R (w.setRow b cur') τ x g (τ k))(hg:g.HZ=NT/\g≠.no)(hm:∀j∈g.dA,j≠k/\C.nt<=j/\(S j).2≠.no):fP C (cX S k (x,g)) a (w.setRow b cur') R τ:=by have eC:fq R w R (w.setRow b cur'):=λc o hr=>⟨hr,cell_setRow_other w b _ ⟨c,o,Ku⟩ (λe=>hR o (by have:c=b:=e;rw[<-this];exact hr))⟩;have Q5:=(gT hb).1;have hc:=h.core.kD (k:=k) (v:=τ k) (x:=x) (g:=g) (w':=w.setRow b cur') (R':=R) hk eC (λj c hj hc=>⟨setRow_other w b c cur' (λe=>hj (h.core.yO hb (e▸hc)).symm),λ_=>id⟩) new (.inl rfl) ⟨hP,hg.1⟩ hg.2 (λ_=>.inl Q5) (λc Od GO=>by have:iL τ S k=BQ c:=iK Q5 (Cr hP) GO;exact⟨h.core.eG k c this,.inr this⟩) hm (λc o hr=>by rw[setRow_size];exact h.core.vK c o hr);rw[show Ap τ k (τ k)=τ by funext j;simp only[Ap];split<;>simp_all]at hc;exact⟨h.size,h.defers,hc,h.tmps,h.io,h.ext.trans (io':=(·=b)) ⟨rfl,rfl,rfl,by rw[setRow_size];exact Nat.le_refl _,λc _ hc=>setRow_other w b c cur' hc,eC,λc o hr=>.inl hr⟩ λc hc=>hc▸h.core.eG k b hb,h.gl.eC eC⟩
theorem fP.S8(h:fP C S a w' R τ)(hd:o.dst=Ku)(hr:(execOp a.eval o).run C.P w=.ok .skip w'):fM C o a w S:=λK Q hK=>by unfold Oper.wp;rw[hr,Oper.upon_skip,hd];exact hK _ _ ⟨R,τ,h⟩
variable(h:fP C S a w R τ)(hV:Lt V S)
include h hV
theorem sf{m:Nat}{xs:List TV}{ts:List (Nat×Nat)}(hm:S m=(.ag xs,.cl ts)):∃b cs e,τ m=.pointer (BQ ⟨b,0,Ku⟩)/\w.heap[b]?=BQ (.cells ⟨cs⟩ e (0,0))/\dR R w xs cs/\(∀t∈ts,cs[t.1]?=BQ (τ t.2))/\(∀o,¬R b o)/\(∀t∈ts,C.nt<=t.2/\(S t.2).2≠.no)/\iL τ S m=BQ b:=by have _:=hV;have hk:=h.core.key m;rw[hm]at hk;obtain⟨b,cs,e,N5,h1,h2,h3,h4,h5,h6⟩:=hk;cases h3;refine⟨b,cs,e,h1,h2,h4,h5,h6,λt ht=>?_,iK (by rw[hm];rfl) (by rw[hm];rfl) (by rw[h1];rfl)⟩;have:=h.core.inv m t.2;rw[hm]at this;exact this (List.mem_map_of_mem (f:=(·.2)) ht)
section
variable(hd:o.dst=BQ d)(hl:d<C.nt)
include hd hl
theorem go_lr{x:Operand}{t:TypeId}{n:Nat}{agg:Bool}{y:TV}(ho:o.op=.load t x)(hs:lj C.P t=BQ (n,agg))(h1:agg=NS\/n=1)(hx:ik C.E C.nt V 0 x=BQ (.ro y,.no))(h2:y.xK=agg)(h3:y.cells.length=n):fM C o a w (cX S d (y,.no)):=by obtain⟨b,off,s',hv,hA⟩:=(fJ h hV hx).Gf;obtain⟨inf,hi,rfl,ha⟩:=iq hs;obtain⟨ys,VN,hc,hL⟩:=hA.read;have Sv:ys.length=inf.size:=by{rw[<-hL.length,h3]};refine h.jq hd hl (v:=if agg then .agg ⟨ys⟩else ys.headD undef) ?_ (by rw[<-h2];exact Vc hL);simp only[execOp,ho,hv,Instr.loadAt,Instr.sureAddr,Sem.run_bind,Sem.run_pure,Result.andThen_ok,kJ hi ha h1 Sv hc]
theorem go_ld{x:Operand}{t:TypeId}{m q n:Nat}{agg:Bool}{cs CS:List TV}{ts:List (Nat×Nat)}{y:TV}{ws:List (Nat×Cell)}(ho:o.op=.load t x)(hs:lj C.P t=BQ (n,agg))(h1:agg=NS\/n=1)(hx:ik C.E C.nt V 0 x=BQ (.pt,.ptr m q))(hm:S m=(.ag cs,.cl ts))(hf:qV V q n ts cs=BQ (CS,ws))(hp:qg CS q n agg=BQ y):fM C o a w (cX (gi S ws) d (y,.no)):=by obtain⟨q1,_,q3⟩:=iy h hV hx;obtain⟨b',p1,hv⟩:∃b,τ m=.pointer (BQ ⟨b,0,Ku⟩)/\a.eval x=.pointer (BQ ⟨b,q,Ku⟩):=q1;obtain⟨b,ys,e,k1,k2,k3,k4,k5,k6,_⟩:=sf h hV hm;rw[k1]at p1;cases p1;obtain⟨inf,hi,rfl,ha⟩:=iq hs;obtain⟨R',f1,f2,f3,_⟩:=qU h.core hV.q k3 (λt ht=>⟨(k6 t ht).1,k4 t ht⟩) hf;have h':=h.fz f1 f2;obtain⟨hlen,mM⟩:=sB f3 hp h1;refine h'.jq hd hl (v:=if agg then .agg ⟨(ys.drop q).take inf.size⟩else((ys.drop q).take inf.size).headD undef) ?_ mM;have hc:∀j y,((ys.drop q).take inf.size)[j]?=BQ y->w.cell? ⟨b',q+j,Ku⟩=BQ y:=λj y hj=>by{rw[bc]at hj;split at hj;{rw[List.getElem?_drop]at hj;simp only[World.cell?,k2];simpa using hj};{cases hj}};simp only[execOp,ho,hv,Instr.loadAt,Instr.sureAddr,Sem.run_bind,Sem.run_pure,Result.andThen_ok,kJ hi ha h1 hlen hc]
theorem go_ldt{x:Operand}{t:TypeId}{m q k:Nat}{cs:List TV}{ts:List (Nat×Nat)}(ho:o.op=.load t x)(hs:lj C.P t=BQ (1,NT))(hx:ik C.E C.nt V 0 x=BQ (.pt,.ptr m q))(hm:S m=(.ag cs,.cl ts))(hf:pX q ts=BQ k):fM C o a w (cX S d (.pt,.fF k)):=by
 obtain⟨q1,_,q3⟩:=iy h hV hx;obtain⟨b',p1,hv⟩:∃b,τ m=.pointer (BQ ⟨b,0,Ku⟩)/\a.eval x=.pointer (BQ ⟨b,q,Ku⟩):=q1;obtain⟨b,ys,e,k1,k2,k3,k4,k5,k6,_⟩:=sf h hV hm;rw[k1]at p1;cases p1;obtain⟨inf,hi,hn,ha⟩:=iq hs;have wM:=qW hf;have hy:=k4 _ wM;refine h.val hd hl (v:=τ k) ?_ (g:=.fF k) ⟨rfl,k3.one _ (aP hy)⟩ rfl λj hj=>?_
 ·have:=kJ (P:=C.P) hi ha (.inr hn) (w:=w) (b:=b') (off:=q) (ys:=[τ k]) (by simp[hn]) (λj y hj=>by
   cases j with
   |zero=>cases hj;simp only[World.cell?,k2];simpa using hy
   |succ j=>simp at hj)
  simp only[execOp,ho,hv,Instr.loadAt,Instr.sureAddr,Sem.run_bind,Sem.run_pure,Result.andThen_ok,this];rfl
 {simp only[Gh.dA,List.mem_singleton]at hj;subst hj;exact k6 _ wM}
theorem go_ldo{x:Operand}{t:TypeId}{m:Nat}{cs:List TV}{ts:List (Nat×Nat)}(ho:o.op=.load t x)(hs:lj C.P t=BQ (cs.length,NS))(hx:ik C.E C.nt V 0 x=BQ (.pt,.ptr m 0))(hm:S m=(.ag cs,.cl ts)):fM C o a w (cX S d (.ag cs,.ow ts)):=by obtain⟨q1,_,q3⟩:=iy h hV hx;obtain⟨b',p1,hv⟩:∃b,τ m=.pointer (BQ ⟨b,0,Ku⟩)/\a.eval x=.pointer (BQ ⟨b,0,Ku⟩):=q1;obtain⟨b,ys,e,k1,k2,k3,k4,k5,k6,_⟩:=sf h hV hm;rw[k1]at p1;cases p1;obtain⟨inf,hi,hn,ha⟩:=iq hs;have hle:=k3.length;refine h.val hd hl (v:=.agg ⟨ys⟩) ?_ (g:=.ow ts) ⟨_,_,rfl,rfl,k3,k4⟩ rfl λj hj=>?_;{have:=kJ (P:=C.P) hi ha (.inl rfl) (w:=w) (b:=b') (off:=0) (ys:=ys) (by omega) (λj y hj=>by simp only[World.cell?,k2];simpa using hj);simp only[execOp,ho,hv,Instr.loadAt,Instr.sureAddr,Sem.run_bind,Sem.run_pure,Result.andThen_ok,this];rfl};{obtain⟨t,ht,rfl⟩:=bn.1 hj;exact k6 t ht}
omit hd hl in
theorem Q9{x:Operand}{t:TypeId}{i s q k:Nat}{st:fE}{l:List st.El}{p:Bool}(hx:ik C.E C.nt V t x=BQ (.el i s q,.pe k))(hk:gm R w p (τ k) (.sl st l))(hs:s=st.size)(hi:i<l.length):∃g cap cur e fz,τ k=.slice (BQ ⟨g,0,Ku⟩) l.length cap/\a.eval x=.pointer (BQ ⟨g,i*st.size+q,Ku⟩)/\w.heap[g]?=BQ (.cells cur e fz)/\(∀o,o<cur.size->¬(fz.1<=o/\o<fz.2))/\cur.size=cap*st.size/\l.length<=cap/\cap<=maxLen/\dR R w ((l.map st.tv).flatMap TV.cells) (cur.toList.take (l.length*st.size))/\(∀o,R g o↔(p=NS/\o<l.length*st.size))/\dR R w (st.tv l[i]).cells (((cur.toList.take (l.length*st.size)).drop (i*st.size)).take st.size):=by subst hs;obtain⟨q1,_,_⟩:=iy h hV hx;obtain⟨b,i',s',q',p1,p2,hv⟩:∃b i' s' q',Value.iL (τ k)=BQ b/\TV.el i st.size q=.el i' s' q'/\a.eval x=.pointer (BQ ⟨b,i'*s'+q',Ku⟩):=q1;cases p2;rcases hk.cells with⟨rfl,_⟩|⟨g,cap,cur,e,fz,e1,e2,e3,e4,e5,e6,e7,e8⟩;{simp at hi};{rw[e1]at p1;cases p1;have:=(e7.drop (i*st.size)).take st.size;rw[EL (e:=st.tv l[i]) (λy hy=>by obtain⟨z,_,rfl⟩:=bn.1 hy;exact fE.oa st z) (by simp[hi])]at this;exact⟨g,cap,cur,e,fz,e1,hv,e2,e3,e4,e5,e6,e7,e8,this⟩}
theorem go_pld{x:Operand}{t:TypeId}{i s q k n:Nat}{agg p:Bool}{st:fE}{l:List st.El}{y:TV}(ho:o.op=.load t x)(hs:lj C.P t=BQ (n,agg))(h1:agg=NS\/n=1)(hx:ik C.E C.nt V 0 x=BQ (.el i s q,.pe k))(hk:gm R w p (τ k) (.sl st l))(h2:s=st.size)(hi:i<l.length)(hp:Cb (st.tv (l.getD i st.fu)) q n agg=BQ y):fM C o a w (cX S d (y,.no)):=by
 obtain⟨g,cap,cur,e,fz,_,hv,hh,_,wL,hle,_,_,_,hLe⟩:=Q9 h hV hx hk h2 hi;obtain⟨inf,AD,rfl,ha⟩:=iq hs;rw[aj,aw hi,Option.getD_some]at hp;have SH:qg (st.tv l[i]).cells q inf.size agg=BQ y:=by
  unfold Cb at hp;split at hp;{rename_i cs e;rw[e];exact hp}
  ·rename_i nW;cases hb:(Nat.beq q 0&&Nat.beq inf.size 1&&!agg)with
   |false=>rw[hb]at hp;cases hp
   |true=>rw[hb]at hp;cases hp;simp only[af,Bool.not_eq_true']at hb;obtain⟨⟨b1,b2⟩,rfl⟩:=hb;have b1:=aB b1;subst b1;have:(st.tv l[i]).cells=[st.tv l[i]]:=by{cases hq:st.tv l[i]<;>first|rfl|exact(nW _ hq).elim};rw[this];rfl
 obtain⟨hlen,mM⟩:=sB hLe SH h1;refine h.jq hd hl (v:=if agg then .agg ⟨(((((cur.toList.take (l.length*st.size)).drop (i*st.size)).take st.size).drop q).take inf.size)⟩else(((((cur.toList.take (l.length*st.size)).drop (i*st.size)).take st.size).drop q).take inf.size).headD undef) ?_ mM;have hc:∀j y,(((((cur.toList.take (l.length*st.size)).drop (i*st.size)).take st.size).drop q).take inf.size)[j]?=BQ y->w.cell? ⟨g,i*st.size+q+j,Ku⟩=BQ y:=by{intro j y hj;simp only[World.cell?,hh];rw[bc]at hj;split at hj;{rw[List.getElem?_drop,bc]at hj;split at hj;{rw[List.getElem?_drop,bc]at hj;split at hj;{rw[show i*st.size+q+j=i*st.size+(q+j) by omega];simpa using hj};{cases hj}};{cases hj}};{cases hj}};simp only[execOp,ho,hv,Instr.loadAt,Instr.sureAddr,Sem.run_bind,Sem.run_pure,Result.andThen_ok,kJ AD ha h1 hlen hc]
end
end
section
variable{R:Reach}{w:World}
theorem Bp(l:List Value):∀(off k:Nat)(cells:Array Value),off+k+l.length<=cells.size->((l.zipIdx k).foldl (λcs p=>cs.setIfInBounds (off+p.2) p.1) cells).toList=cells.toList.take (off+k)++l++cells.toList.drop (off+k+l.length):=by
 induction l with
 |nil=>intro off k cells _;simp
 |cons v l ih=>intro off k cells hl;simp only[List.zipIdx_cons,List.foldl_cons];rw[ih off (k+1) (cells.setIfInBounds (off+k) v) (by simp at hl⊢;omega)];have e:=list_seg_step cells.toList (off+k) v l (by simp at hl⊢;omega);simpa[Array.toList_setIfInBounds,Nat.add_assoc]using e
theorem LV{R:Reach}{w:World}{x:TV}{v:Value}(h:Rep R w x v)(hp:x.Vo=NS)(h1:x=.pt->v.oneCell'=NS):dR R w x.cells v.cells.toList:=by
 cases x with
 |pt=>have e2:v.cells.toList=[v]:=by{have:=h1 rfl;cases v<;>first|rfl|(simp[Value.oneCell']at this)};rw[e2];exact .cons (h1 rfl) h .nil
 |_=>exact pn h hp
theorem EP(place:Nat->Option (Nat×Nat)):∀(parts:List (Nat×Value))(pl:List (Nat×Nat))(xs:List TV)(z cs:List TV)(cells:Array Value),dR R w z cells.toList->parts.length=pl.length->
  (∀(j:Nat)(p:Nat×Value)(q:Nat×Nat),parts[j]?=BQ p->pl[j]?=BQ q->place p.1=BQ q)->(∀(j:Nat)(p:Nat×Value)(x:TV),parts[j]?=BQ p->xs[j]?=BQ x->Rep R w x p.2/\(x=.pt->p.2.oneCell'=NS))->sS z pl xs=BQ cs->
  ∃fc,Instr.fill place cells parts=BQ fc/\dR R w cs fc.toList
 |[],pl,xs,z,cs,cells,hz,hl,_,_,hf=>by
  have:pl=[]:=bm hl.symm;subst this;cases xs with
  |nil=>simp[sS]at hf;subst hf;exact⟨cells,rfl,hz⟩
  |cons=>simp[sS]at hf
 |(i,v)::parts,pl,xs,z,cs,cells,hz,hl,hp,hr,hf=>by
  cases pl with
  |nil=>simp at hl
  |cons q pl=>
   obtain⟨off,n⟩:=q;cases xs with
   |nil=>simp[sS]at hf
   |cons x xs=>simp only[sS]at hf;obtain⟨hc,hf⟩:=bL.1 hf;{simp only[af]at hc;obtain⟨⟨Od,GO⟩,hc3⟩:=hc;have GO:=aB GO;have hc3:=Nat.le_of_ble_eq_true hc3;have hx:=LV (hr 0 _ _ rfl rfl).1 Od (hr 0 _ _ rfl rfl).2;have Xl:=hx.length;have JC:=hz.length;simp only[Array.length_toList]at Xl JC;have C5:=hp 0 _ _ rfl rfl;simp only at C5;have hs:v.cells.size=n:=by{omega};have pd:¬(v.cells.size≠n\/off+v.cells.size>cells.size):=by{omega};have ll:=Bp v.cells.toList off 0 cells (by simp;omega);have hz':dR R w (iC z off x.cells) (v.cells.zipIdx.foldl (λcs p=>cs.setIfInBounds (off+p.2) p.1) cells).toList:=by{have e:(v.cells.zipIdx.foldl (λcs p=>cs.setIfInBounds (off+p.2) p.1) cells)=(v.cells.toList.zipIdx 0).foldl (λcs p=>cs.setIfInBounds (off+p.2) p.1) cells:=by{rw[<-Array.foldl_toList];simp};rw[e,ll];have hle:v.cells.toList.length=x.cells.length:=by{simp;omega};simp only[iC,Nat.add_zero,hle];exact((hz.take off).append hx).append (hz.drop _)};obtain⟨fc,h1,h2⟩:=EP place parts pl xs _ cs _ hz' (by simpa using hl) (λj p q h1 h2=>hp (j+1) p q (by simpa using h1) (by simpa using h2)) (λj p y h1 h2=>hr (j+1) p y (by simpa using h1) (by simpa using h2)) hf;refine⟨fc,?_,h2⟩;simp only[Instr.fill,C5];rw[ak (by simpa using pd)];exact h1}
end
theorem Br(s:Nat):∀(vs:List Value)(k:Nat)(cells:Array Value),(∀v∈vs,v.cells.size=s)->(k+vs.length)*s=cells.size->
  ∃fc,Instr.fill (λi=>BQ (i*s,s)) cells ((vs.zipIdx k).map λp=>(p.2,p.1))=BQ fc/\fc.toList=cells.toList.take (k*s)++vs.flatMap λv=>v.cells.toList
 |[],k,cells,_,hl=>by refine⟨cells,rfl,?_⟩;simp at hl;simp[List.take_of_length_le,hl]
 |v::vs,k,cells,hv,hl=>by have h0:=hv v (by simp);simp only[av]at hl;have hm:(k+(vs.length+1))*s=k*s+s+vs.length*s:=by{rw[Nat.add_mul,Nat.succ_mul];omega};have pd:¬(v.cells.size≠s\/k*s+v.cells.size>cells.size):=by{omega};have ll:=Bp v.cells.toList (k*s) 0 cells (by simp;omega);have e:(v.cells.zipIdx.foldl (λcs p=>cs.setIfInBounds (k*s+p.2) p.1) cells)=(v.cells.toList.zipIdx 0).foldl (λcs p=>cs.setIfInBounds (k*s+p.2) p.1) cells:=by{rw[<-Array.foldl_toList];simp};have wL:(v.cells.zipIdx.foldl (λcs p=>cs.setIfInBounds (k*s+p.2) p.1) cells).size=cells.size:=by{rw[e,<-Array.length_toList,ll];simp;omega};obtain⟨fc,h1,h2⟩:=Br s vs (k+1) (v.cells.zipIdx.foldl (λcs p=>cs.setIfInBounds (k*s+p.2) p.1) cells) (λu hu=>hv u (by simp[hu])) (by rw[wL,<-hl];congr 1;omega);refine⟨fc,?_,?_⟩;{simp only[List.zipIdx_cons,bf,Instr.fill];rw[ak (by simpa using pd)];exact h1};{rw[h2,e,ll];have ZQ:(k+1)*s=k*s+s:=Nat.succ_mul k s;have hL:(cells.toList.take (k*s+0)++v.cells.toList).length=(k+1)*s:=by{simp;omega};rw[aA,<-aA (cells.toList.take (k*s+0)),List.take_left' hL];simp}
theorem AX{α:Type}:∀(l:List (Nat×α))(k:Nat),l.map (·.1)=List.range' k l.length->l=((l.map (·.2)).zipIdx k).map λp=>(p.2,p.1)
 |[],_,_=>rfl
 |(i,x)::l,k,h=>by simp only[bf,av,List.range'_succ,bt]at h;simp only[bf,List.zipIdx_cons];rw[<-AX l (k+1) h.2,h.1]
theorem AU{R:Reach}{w:World}{s:Nat}:∀{xs:List TV}{vs:List Value},jy R w xs vs->(∀x∈xs,x.plain=NS/\x.cells.length=s)->dR R w (xs.flatMap TV.cells) (vs.flatMap λv=>v.cells.toList)/\∀v∈vs,v.cells.size=s
 |_,_,.nil,_=>⟨.nil,by simp⟩
 |_,_,.cons (x:=x) h t,hx=>by obtain⟨h1,h2⟩:=AU t (λx Cu=>hx x (by simp[Cu]));obtain⟨p1,p2⟩:=hx x (by simp);have hL:=pn h p1;refine⟨by simpa using hL.append h1,λv hv=>?_⟩;rcases aQ.1 hv with rfl|hv;{have:=hL.length;simp at this;omega};{exact h2 v hv}
def A6{v:Value}(h:v.oneCell'=NS):v.cells.toList=[v]:=by cases v<;>first|rfl|(simp[Value.oneCell']at h)
def Dt{α:Type}(l v:List α){a N:Nat}(h:a+v.length<=N)(hl:N<=l.length):(l.take a++v++l.drop (a+v.length)).take N=(l.take N).take a++v++(l.take N).drop (a+v.length):=by have e:(l.take a++v).length=a+v.length:=by{simp;omega};rw[List.take_append,List.take_of_length_le (by omega),e,List.take_take,Nat.min_eq_left (by omega),List.drop_take]
theorem xD{s:Nat}:∀{es:List TV}{i q:Nat}{e e':TV}{ys:List TV},(∀x∈es,x.cells.length=s)->es[i]?=BQ e->e'.cells=iC e.cells q ys->q+ys.length<=s->(es.set i e').flatMap TV.cells=iC (es.flatMap TV.cells) (i*s+q) ys
 |x::es,0,q,e,e',ys,h,he,hc,hq=>by simp at he;subst he;have hx:=h x (by simp);simp only[List.set_cons_zero,List.flatMap_cons,Nat.zero_mul,Nat.zero_add,hc,iC];rw[List.take_append_of_le_length (by omega),List.drop_append_of_le_length (by omega)];simp only[aA]
 |x::es,i+1,q,e,e',ys,h,he,hc,hq=>by have hx:=h x (by simp);have ih:=xD (es:=es) (i:=i) (q:=q) (e:=e) (e':=e') (ys:=ys) (λy hy=>h y (by simp[hy])) (by simpa using he) hc hq;simp only[List.set_cons_succ,List.flatMap_cons,ih,iC];rw[show(i+1)*s+q=x.cells.length+(i*s+q) by rw[hx,Nat.succ_mul];omega,List.take_length_add_append,show x.cells.length+(i*s+q)+ys.length=x.cells.length+(i*s+q+ys.length) by omega,List.drop_length_add_append];simp only[aA]
 |[],_,_,_,_,_,_,he,_,_=>by simp at he
section
variable{C:Ctx}{S V:St}{a:Act}{w w':World}{R:Reach}{τ:Nat->Value}{o:Oper}{d:Nat}(h:fP C S a w R τ)(hV:Lt V S)
include h hV
theorem go_st'(hd:o.dst=Ku){x v:Operand}{t:TypeId}{inf:TypeInfo}{m q:Nat}{cs:List TV}{ts us:List (Nat×Nat)}{qs:List TV}(ho:o.op=.store t x v)(hi:C.P.info? t=BQ inf)(hx:ik C.E C.nt V 0 x=BQ (.pt,.ptr m q))(hm:S m=(.ag cs,.cl ts))(hL:dR R w qs (a.eval v).cells.toList)(hn:qs.length=inf.size)(pd:q+inf.size<=cs.length)(hu:∀u∈us,u.2≠m/\((u∈ts/\(u.1<q\/q+inf.size<=u.1))\/(C.nt<=u.2/\(S u.2).2≠.no/\q<=u.1/\(a.eval v).cells.toList[u.1 -q]?=BQ (τ u.2)))):fM C o a w (cX S m (.ag (iC cs q qs),.cl us)):=by obtain⟨q1,_,q3⟩:=iy h hV hx;obtain⟨b',p1,hv⟩:∃b,τ m=.pointer (BQ ⟨b,0,Ku⟩)/\a.eval x=.pointer (BQ ⟨b,q,Ku⟩):=q1;obtain⟨b,ys,e,k1,k2,k3,k4,k5,k6,k7⟩:=sf h hV hm;rw[k1]at p1;cases p1;have hlen:=hL.length;have hlm:=k3.length;have Q4:(a.eval v).cells.size=inf.size:=by{simp at hlen;omega};have JF:=run_storeCells_at (P:=C.P) b' q e (a.eval v).cells.toList 0 ⟨ys⟩ w k2 (by simp;omega) hL.one;simp only[Nat.add_zero]at JF;let new:List Value:=ys.take q++(a.eval v).cells.toList++ys.drop (q+(a.eval v).cells.toList.length);have mW:(execOp a.eval o).run C.P w=.ok .skip (w.setRow b' ⟨new⟩):=by{have:¬((a.eval v).cells.size≠inf.size):=by{omega};simp only[execOp,ho,hv,Instr.storeAt,Instr.sureAddr,Sem.run_bind,Sem.run_pure,Result.andThen_ok,storeVar,T1 hi,Sem.run_ite,this,if_false,JF];rfl};have eC:fq R w R (w.setRow b' ⟨new⟩):=λb o hr=>⟨hr,cell_setRow_other w b' _ ⟨b,o,Ku⟩ (λe=>k5 o (by have:b=b':=e;rw[<-this];exact hr))⟩;have hle:(a.eval v).cells.toList.length=qs.length:=hlen.symm;have hLn:dR R (w.setRow b' ⟨new⟩) (iC cs q qs) new:=by{show dR R (w.setRow b' ⟨new⟩) _ (ys.take q++(a.eval v).cells.toList++ys.drop (q+(a.eval v).cells.toList.length));rw[hle];exact(((k3.take q).append hL).append (k3.drop (q+qs.length))).mono eC};refine(h.wr (k:=m) (b:=b') (cur:=⟨ys⟩) (cur':=⟨new⟩) (x:=.ag (iC cs q qs)) (g:=.cl us) (q3 m (by simp[Gh.dA])).1 k7 (by rw[hm];rfl) k2 k5 ⟨b',new,e,_,k1,setRow_heap w b' ⟨ys⟩ ⟨new⟩ e (0,0) k2,rfl,hLn,λu Zn=>?_,k5⟩ ⟨rfl,by simp⟩ λj hj=>?_).S8 hd mW;{rcases(hu u Zn).2 with⟨h1,h2⟩|⟨_,_,h1,h2⟩;{have hc:=k4 u h1;have gI:=(aH.1 hc).1;simp only[new];rcases h2 with h2|h2;{rw[aA,List.getElem?_append_left (by simp;omega),bc,ar h2];exact hc};{rw[aY (by simp;omega)];simp only[ae,aF,hle,hn,List.getElem?_drop];rw[<-hc];congr 1;omega}};{have gI:=(aH.1 h2).1;simp only[new];rw[aA,aY (by simp;omega),aF,Nat.min_eq_left (by omega),List.getElem?_append_left gI];exact h2}};{obtain⟨u,Zn,rfl⟩:=bn.1 hj;obtain⟨h1,h2⟩:=hu u Zn;refine⟨h1,?_⟩;rcases h2 with⟨h2,_⟩|⟨h2,h3,_⟩;{exact k6 u h2};{exact⟨h2,h3⟩}}
omit h hV in
theorem AY{o n:Nat}{ts:List (Nat×Nat)}{u:Nat×Nat}(hu:u∈HD o n ts):u∈ts/\(u.1<o\/o+n<=u.1):=by obtain⟨h1,h2⟩:=List.mem_filter.1 hu;simp only[Bool.or_eq_true]at h2;exact⟨h1,h2.imp (λh=>Nat.le_of_ble_eq_true h) (λh=>Nat.le_of_ble_eq_true h)⟩
theorem go_pst(hd:o.dst=Ku){x v:Operand}{t:TypeId}{inf:TypeInfo}{i s q k:Nat}{st:fE}{l:List st.El}{y e':TV}{z:st.El}(ho:o.op=.store t x v)(hi:C.P.info? t=BQ inf)(hx:ik C.E C.nt V 0 x=BQ (.el i s q,.pe k))(hk:S k=(.sl st l,.pv))(hv:Rep R w y (a.eval v))(hp:y.plain=NS)(hn:y.cells.length=inf.size)(hs:s=st.size)(gI:i<l.length)(he:Gl (st.tv (l.getD i st.fu)) q y=BQ e')(hz:st.el e'=BQ z):fM C o a w (cX S k (.sl st (l.set i z),.pv)):=by
 have hK:=h.core.key k;rw[hk]at hK;obtain⟨g,cap,cur,ce,fz,h1,h2,h3,h4,h5,h6,h7,h8,h9,jo⟩:=Q9 h hV hx hK hs gI;obtain⟨_,_,q3⟩:=iy h hV hx;have hL:=pn hv hp;have hlen:=hL.length;have Q4:(a.eval v).cells.size=inf.size:=by{simp at hlen;omega};rw[aj,aw gI,Option.getD_some]at he;have T7:=fE.oa st l[i];obtain⟨pd,ll⟩:q+y.cells.length<=st.size/\e'.cells=iC (st.tv l[i]).cells q y.cells:=by
  unfold Gl at he;split at he
  ·rename_i cs ec;cases hb:Nat.ble (q+y.cells.length) cs.length with
   |false=>rw[hb]at he;cases he
   |true=>rw[hb]at he;cases he;rw[ec]at T7⊢;have:=Nat.le_of_ble_eq_true hb;exact⟨by simp[TV.cells]at T7;omega,rfl⟩
  ·rename_i nW;cases hb:(Nat.beq q 0&&!y.xK)with
   |false=>rw[hb]at he;cases he
   |true=>rw[hb]at he;cases he;simp only[af,Bool.not_eq_true']at hb;have hq:=aB hb.1;subst hq;have e1:(st.tv l[i]).cells=[st.tv l[i]]:=by{cases hq:st.tv l[i]<;>first|rfl|exact(nW _ hq).elim};have e2:y.cells=[y]:=by{cases y<;>first|rfl|(simp[TV.xK]at hb)};rw[e1]at T7;rw[e1,e2];simp at T7;exact⟨by simp;omega,by simp[iC]⟩
 have hle:(i+1)*st.size<=l.length*st.size:=ay _ gI;rw[Nat.succ_mul]at hle;have ZN:l.length*st.size<=cap*st.size:=ay _ h6;have JF:=mr (P:=C.P) g (i*st.size+q) ce fz (a.eval v).cells.toList 0 cur w h3 (by rw[h5,<-hlen];omega) h4 hL.one;simp only[Nat.add_zero]at JF;let new:Array Value:=(cur.toList.take (i*st.size+q)++(a.eval v).cells.toList++cur.toList.drop (i*st.size+q+(a.eval v).cells.toList.length)).toArray;have mW:(execOp a.eval o).run C.P w=.ok .skip (w.setRow g new):=by{have:¬((a.eval v).cells.size≠inf.size):=by{omega};simp only[execOp,ho,h2,Instr.storeAt,Instr.sureAddr,Sem.run_bind,Sem.run_pure,Result.andThen_ok,storeVar,T1 hi,Sem.run_ite,this,if_false,JF];rfl};have hR:∀o,¬R g o:=λo hr=>by{have:=(h9 o).1 hr;simp at this};have eC:fq R w R (w.setRow g new):=λb o hr=>⟨hr,cell_setRow_other w g _ ⟨b,o,Ku⟩ (λe=>hR o (by have:b=g:=e;rw[<-this];exact hr))⟩;have AE:cur.toList.length=cap*st.size:=by{simp[h5]};have wL:new.size=cur.size:=by{simp only[new,List.size_toArray,ae,aF,aR,<-hlen,AE,<-Array.length_toList];omega};have VU:dR R w (((l.set i z).map st.tv).flatMap TV.cells) (new.toList.take (l.length*st.size)):=by{have e1:((l.set i z).map st.tv).flatMap TV.cells=iC ((l.map st.tv).flatMap TV.cells) (i*st.size+q) y.cells:=by{rw[List.map_set,fE.Q8 hz];exact xD (λx hx=>by obtain⟨u,_,rfl⟩:=bn.1 hx;exact fE.oa st u) (by simp[gI]) ll pd};have e2:=Dt cur.toList (a.eval v).cells.toList (a:=i*st.size+q) (N:=l.length*st.size) (by rw[<-hlen];omega) (by rw[AE];exact ZN);rw[e1];show dR R w _ ((cur.toList.take (i*st.size+q)++(a.eval v).cells.toList++cur.toList.drop (i*st.size+q+(a.eval v).cells.toList.length)).take (l.length*st.size));rw[e2,<-hlen];exact((h8.take _).append hL).append (h8.drop _)};refine(h.wr (k:=k) (b:=g) (cur:=cur) (cur':=new) (x:=.sl st (l.set i z)) (g:=.pv) (q3 k (by simp[Gh.dA])).1 (iK (by rw[hk];rfl) (by rw[hk];rfl) (by rw[h1];rfl)) (by rw[hk];rfl) h3 hR ⟨st,l.set i z,rfl,.inr ⟨g,cap,new,ce,fz,by rw[List.length_set];exact h1,setRow_heap w g cur new ce fz h3,λo ho=>h4 o (by rw[<-wL];exact ho),by rw[wL];exact h5,by rw[List.length_set];exact h6,h7,by rw[List.length_set];exact VU.mono eC,λo=>⟨λhr=>(hR o hr).elim,λhr=>by simp at hr⟩⟩⟩ ⟨rfl,by simp⟩ (by simp[Gh.dA])).S8 hd mW
end
theorem mH{A:Type}{f:TV->Option A}{g:A->TV}(hf:∀x y,f x=BQ y->x=g y):∀{xs:List TV}{l:List A},allM f xs=BQ l->xs=l.map g
 |[],l,h=>by cases h;rfl
 |x::r,l,h=>by simp only[allM]at h;split at h;{rename_i y hy;split at h;{rename_i m hm;cases h;rw[hf _ _ hy,mH hf hm];rfl};{cases h}};{cases h}
def CU{cs:List TV}{n:Nat}{x:TV}(h:Kh cs n=BQ x)(hn:n<cs.length):cs[n]?=BQ x:=by
 unfold Kh at h;split at h;{split at h;{rename_i l hl;have:=mH (g:=.s) (λx y h=>by cases x<;>simp[TV.str?]at h;rw[h]) hl;cases h;rw[this]at hn⊢;have Ez:n<l.length:=by{simpa using hn};simp[aj,aw Ez]};{cases h}};{split at h;{rename_i l hl;have:=mH (g:=.i .i64) (λx y h=>by cases x<;>simp[TV.i64?]at h;rename_i k m;cases k<;>simp at h;rw[h]) hl;cases h;rw[this]at hn⊢;have Ez:n<l.length:=by{simpa using hn};simp[aj,aw Ez]};{cases h}};{split at h;{rename_i l hl;have:=mH (g:=.u8) (λx y h=>by cases x<;>simp[TV.u8?]at h;rw[h]) hl;cases h;rw[this]at hn⊢;have Ez:n<l.length:=by{simpa using hn};simp[aj,aw Ez]};{cases h}};{split at h;{rename_i l hl;have:=mH (g:=.u64) (λx y h=>by cases x<;>simp[TV.u64?]at h;rw[h]) hl;cases h;rw[this]at hn⊢;have Ez:n<l.length:=by{simpa using hn};simp[aj,aw Ez]};{cases h}};{split at h;{rename_i l hl;have:=mH (g:=.b) (λx y h=>by cases x<;>simp[TV.bool?]at h;rw[h]) hl;cases h;rw[this]at hn⊢;have Ez:n<l.length:=by{simpa using hn};simp[aj,aw Ez]};{cases h}};{exact h}
 ·split at h
  ·rename_i l hl;have:=mH (g:=λp=>.c (.complex .f64 p.1 p.2)) (λx y h=>by
    unfold TV.cx? at h;split at h;{cases h;rfl}
    ·cases h) hl
   cases h;rw[this]at hn⊢;have Ez:n<l.length:=by{simpa using hn};simp[aj,aw Ez]
  {cases h}
 {rename_i t _ _;split at h;{rename_i l hl;have:=mH (g:=.sl t) (λx y h=>by cases x<;>simp[TV.sl?]at h;obtain⟨rfl,h⟩:=h;subst h;rfl) hl;cases h;rw[this]at hn⊢;have Ez:n<l.length:=by{simpa using hn};simp[aj,aw Ez]};{cases h}};{cases h}
theorem E4{s m n:Nat}{cs:List TV}(hl:m*s=cs.length)(hn:n<m):∀(j:Nat){xs:List TV},j<=s->E5 s m n cs j=BQ xs->xs=(cs.drop (n*s+(s -j))).take j
 |0,xs,_,h=>by simp[E5]at h;simp[h]
 |j+1,xs,hj,h=>by simp only[E5]at h;split at h;{rename_i x hx;split at h;{rename_i ys hy;cases h;have h1:=E4 hl hn j (by omega) hy;have h2:=CU hx (by simpa[Ty]using hn);have gI:n*s+(s -(j+1))<cs.length:=by{have:(n+1)*s<=m*s:=ay _ hn;rw[Nat.succ_mul]at this;omega};have e:x=cs[n*s+(s -(j+1))]:=by{simp only[Ty,br,List.getElem?_range hn,Option.map_some,aN]at h2;rw[<-h2,aj,aw gI];rfl};rw[h1,List.drop_eq_getElem_cons gI,List.take_succ_cons,e,show n*s+(s -(j+1))+1=n*s+(s -j) by omega]};{cases h}};{cases h}
theorem HP{A:Type}{g:A->TV}:∀l:List A,Jr g l=l.map g
 |[]=>rfl
 |p::r=>by rw[Jr,HP r];rfl
def NB{a b:Nat}(h:a≠b):Nat.beq a b=NT:=by
 cases e:Nat.beq a b with
 |false=>rfl
 |true=>exact(h (aB e)).elim
theorem Hv{A:Type}:∀(l:List A)(j i:Nat)(q:A),B3 j l (j+i) q=l.set i q
 |[],_,_,_=>rfl
 |p::r,j,0,q=>by
  rw[B3,Nat.add_zero,show Nat.beq j j=NS from Nat.beq_refl j];simp only[au,List.set_cons_zero];congr 1;have:∀(l:List A)(k:Nat),j<k->B3 k l j q=l:=by
   intro l;induction l with
   |nil=>intros;rfl
   |cons a r ih=>intro k hk;rw[B3,ih _ (by omega),NB (show k≠j by omega)];rfl
  exact this r _ (by omega)
 |p::r,j,i+1,q=>by rw[B3,NB (show j≠j+(i+1) by omega),show j+(i+1)=j+1+i by omega,Hv r (j+1) i q];rfl
def M1{x:TV}{q:Cx}(h:x.cx?=BQ q):x=cxT q:=by unfold TV.cx? at h;split at h;{cases h;rfl};{cases h}
def Ov{x:TV}{q:UInt64}(h:x.u64?=BQ q):x=.u64 q:=by unfold TV.u64? at h;split at h;{cases h;rfl};{cases h}
def D8{A:Type}{g:A->TV}{l:List A}{i:Nat}{q:A}(hi:i<l.length):Jr g (B3 0 l i q)=iC (l.map g) i [g q]:=by have:=Hv l 0 i q;rw[Nat.zero_add]at this;rw[this,HP];simp only[iC,ao];rw[List.set_eq_take_append_cons_drop,ar hi];simp only[List.map_append,bf,List.map_take,List.map_drop,aA,List.singleton_append]
def Sa{cs ds:List TV}{i:Nat}{x:TV}(h:Xh cs i x=BQ ds)(hi:i<cs.length):x.plain=NS/\x.cells=[x]/\ds=iC cs i [x]:=by unfold Xh at h;split at h;{split at h;{rename_i q l h2;cases h;have hc:=mH (g:=.u64) (λx y h=>Ov h) h2;subst hc;exact⟨rfl,rfl,D8 (by simpa using hi)⟩};{cases h}};{split at h;{rename_i q l h1 h2;cases h;have hx:=M1 h1;have hc:=mH (g:=cxT) (λx y h=>M1 h) h2;subst hx;subst hc;exact⟨rfl,rfl,D8 (by simpa using hi)⟩};{cases h}}
theorem MS{t:fE}:∀{xs:List TV}{l:List t.El},t.Wh xs=BQ l->l.map t.tv=xs
 |[],l,h=>by cases h;rfl
 |x::r,l,h=>by simp only[fE.Wh]at h;split at h;{rename_i y hy;split at h;{rename_i m hm;cases h;rw[bf,fE.Q8 hy,MS hm]};{cases h}};{cases h}
section
variable{C:Ctx}{S V:St}{a:Act}{w w':World}{R:Reach}{τ:Nat->Value}{o:Oper}{d:Nat}(h:fP C S a w R τ)(hV:Lt V S)
include h hV
theorem NJ{x:Operand}{t:TypeId}{i s q m:Nat}{xs:List TV}{ts:List (Nat×Nat)}(hx:ik C.E C.nt V t x=BQ (.el i s q,.pe m))(hm:S m=(.ag xs,.cl ts)):∃b,τ m=.pointer (BQ ⟨b,0,Ku⟩)/\a.eval x=.pointer (BQ ⟨b,i*s+q,Ku⟩):=by obtain⟨q1,_,_⟩:=iy h hV hx;obtain⟨b,i',s',q',p1,p2,hv⟩:∃b i' s' q',Value.iL (τ m)=BQ b/\TV.el i s q=.el i' s' q'/\a.eval x=.pointer (BQ ⟨b,i'*s'+q',Ku⟩):=q1;cases p2;obtain⟨b',_,_,k1,_⟩:=sf h hV hm;rw[k1]at p1;cases p1;exact⟨_,k1,hv⟩
theorem go_pla(hd:o.dst=BQ d)(hl:d<C.nt){x:Operand}{t:TypeId}{i m:Nat}{cs:List TV}{ts:List (Nat×Nat)}{y:TV}(ho:o.op=.load t x)(hs:lj C.P t=BQ (1,NT))(hx:ik C.E C.nt V 0 x=BQ (.el i 1 0,.pe m))(hm:S m=(.ag cs,.cl ts))(hi:i<cs.length)(hp:Kh cs i=BQ y):fM C o a w (cX S d (y,.no)):=by
 obtain⟨b0,p1,hv⟩:=NJ h hV hx hm;obtain⟨b,ys,e,k1,k2,k3,_⟩:=sf h hV hm;obtain rfl:b=b0:=by{rw[k1]at p1;cases p1;rfl};obtain⟨inf,AD,hn,ha⟩:=iq hs;obtain⟨v,JE,_,JD⟩:=k3.get i y (CU hp hi);refine h.jq hd hl (v:=v) ?_ JD;have:=kJ (P:=C.P) AD ha (.inr hn) (w:=w) (b:=b) (off:=i*1+0) (ys:=[v]) (by simp[hn]) (λj y hj=>by
  cases j with
  |zero=>cases hj;simp only[World.cell?,k2];simpa using JE
  |succ j=>simp at hj)
 simp only[execOp,ho,hv,Instr.loadAt,Instr.sureAddr,Sem.run_bind,Sem.run_pure,Result.andThen_ok,this];rfl
theorem go_ls(hd:o.dst=Ku){x v:Operand}{t:TypeId}{inf:TypeInfo}{i m:Nat}{cs ds:List TV}{y:TV}(ho:o.op=.store t x v)(AD:C.P.info? t=BQ inf)(hn:inf.size=1)(hx:ik C.E C.nt V 0 x=BQ (.el i 1 0,.pe m))(hm:S m=(.ag cs,.cl []))(hi:i<cs.length)(hv:Rep R w y (a.eval v))(hp:Xh cs i y=BQ ds):fM C o a w (cX S m (.ag ds,.cl [])):=by obtain⟨e1,e2,e3⟩:=Sa hp hi;obtain⟨b0,p1,Bk⟩:=NJ h hV hx hm;obtain⟨b,ys,e,k1,k2,k3,k4,k5,k6,k7⟩:=sf h hV hm;obtain rfl:b=b0:=by{rw[k1]at p1;cases p1;rfl};obtain⟨_,_,q3⟩:=iy h hV hx;have hL:=pn hv e1;rw[e2]at hL;have hlen:=hL.length;have hlm:=k3.length;have Q4:(a.eval v).cells.size=1:=by{simpa using hlen.symm};have JF:=run_storeCells_at (P:=C.P) b (i*1+0) e (a.eval v).cells.toList 0 ⟨ys⟩ w k2 (by simp;omega) hL.one;simp only[Nat.add_zero,Nat.mul_one]at JF Bk;let new:List Value:=ys.take i++(a.eval v).cells.toList++ys.drop (i+(a.eval v).cells.toList.length);have mW:(execOp a.eval o).run C.P w=.ok .skip (w.setRow b ⟨new⟩):=by{have:¬((a.eval v).cells.size≠inf.size):=by{omega};simp only[execOp,ho,Bk,Instr.storeAt,Instr.sureAddr,Sem.run_bind,Sem.run_pure,Result.andThen_ok,storeVar,T1 AD,Sem.run_ite,this,if_false,JF];rfl};have eC:fq R w R (w.setRow b ⟨new⟩):=λb1 o hr=>⟨hr,cell_setRow_other w b _ ⟨b1,o,Ku⟩ (λe=>k5 o (by have:b1=b:=e;rw[<-this];exact hr))⟩;have hLn:dR R (w.setRow b ⟨new⟩) ds new:=by{rw[e3];show dR R (w.setRow b ⟨new⟩) _ (ys.take i++(a.eval v).cells.toList++ys.drop (i+(a.eval v).cells.toList.length));rw[<-hlen];exact(((k3.take i).append hL).append (k3.drop _)).mono eC};exact(h.wr (k:=m) (b:=b) (cur:=⟨ys⟩) (cur':=⟨new⟩) (x:=.ag ds) (g:=.cl []) (q3 m (by simp[Gh.dA])).1 k7 (by rw[hm];rfl) k2 k5 ⟨b,new,e,_,k1,setRow_heap w b ⟨ys⟩ ⟨new⟩ e (0,0) k2,rfl,hLn,by simp,k5⟩ ⟨rfl,by simp⟩ (by simp[Gh.dA])).S8 hd mW
theorem ve:∀{ts:List TypeId}{os:List Operand}{cs:List Cell},tN C.E C.nt V ts os=BQ cs->Cells R w τ C.nt cs (os.map a.eval)/\os.length=ts.length/\∀c∈cs,c.2.slot=NS/\∀m∈c.2.dA,C.nt<=m/\(S m).2≠.no
 |[],[],_,he=>by cases he;exact⟨.nil,rfl,by simp⟩
 |t::ts,x::os,_,he=>by
  simp only[tN]at he;split at he
  ·rename_i c e1;split at he
   ·rename_i cs e2;cases he;obtain⟨h1,h2,h3⟩:=iy h hV e1;obtain⟨k1,k2,k3⟩:=ve e2;exact⟨.cons h1 (λm hm=>(h3 m hm).1) k1,by simp[k2],λc' hc=>by
     rcases aQ.1 hc with rfl|hc;{exact⟨h2,h3⟩}
     ·exact k3 c' hc⟩
   {cases he}
  {cases he}
 |[],_::_,_,he=>by simp[tN]at he
 |_::_,[],_,he=>by simp[tN]at he
theorem fP.frs{ts:List TypeId}{os:List Operand}{cs:List Cell}{xs:List TV}{ws:List (Nat×Cell)}(ho:tN C.E C.nt V ts os=BQ cs)(he:Oe V cs=BQ (xs,ws)):∃R',fP C (gi S ws) a w R' τ/\jy R' w xs (os.map a.eval)/\Lq V (gi S ws):=by obtain⟨h1,_,_⟩:=ve h hV ho;obtain⟨R',k1,k2,k3,k4⟩:=GV h.core hV.q h1 he;exact⟨R',h.fz k1 k2,k3,k4⟩
theorem go_bl(hd:o.dst=BQ d)(hl:d<C.nt)(hE:kZ C.P C.E){t e:TypeId}{n tE k:Nat}{parts:Array (Nat×Operand)}{st:fE}{cs:List Cell}{xs:List TV}{ws:List (Nat×Cell)}{l:List st.El}(ho:o.op=.buildSlice t n parts)(ht:C.E.ty t=BQ (st,tE))(hx:tN C.E C.nt V (parts.toList.map λ_=>e) (parts.toList.map (·.2))=BQ cs)(hf:Oe V cs=BQ (xs,ws))(he:st.Wh xs=BQ l)(hn:n=parts.size)(hn24:n*st.size<=16777216)(hpr:parts.toList.map (·.1)=List.range n)(hk:wB C.nt V k=NS):fM C o a w (cX (cX (gi S ws) k (.sl st l,.pv)) d (.pt,.fF k)):=by obtain⟨R',h',hT,hq⟩:=h.frs hV hx hf;obtain⟨e',i,zv,h1,h2,h3,h4,h5,h6,h7⟩:=hE.ty _ _ _ ht;have QM:=MS he;have C5:∀x∈xs,x.plain=NS/\x.cells.length=st.size:=λx hx=>by{rw[<-QM]at hx;obtain⟨u,_,rfl⟩:=bn.1 hx;exact⟨fE.KI st u,fE.oa st u⟩};obtain⟨hL,wL⟩:=AU hT C5;have hlen:parts.toList.length=n:=by{simp[hn]};have VL:l.length=n:=by{have:=hT.length;rw[<-QM]at this;simp at this;omega};have hp:(parts.map λp=>(p.1,a.eval p.2)).toList=((((parts.toList.map (·.2)).map a.eval).zipIdx 0).map λp=>(p.2,p.1)):=by{have e:=AX ((parts.map λp=>(p.1,a.eval p.2)).toList) 0 (by simp only[Array.toList_map,bA,bj,hlen];rw[<-List.range_eq_range',<-hpr];rfl);rw[e];simp[Function.comp_def]};let zc:Array Value:=if n*st.size=0 then#[]else zv.cells;let c0:Array Value:=(Array.range (n*st.size)).map (zc[· % zc.size]!);obtain⟨fc,Mo,S2⟩:=Br st.size ((parts.toList.map (·.2)).map a.eval) 0 c0 wL (by simp[c0,hlen,hn]);simp only[Nat.zero_mul,List.take_zero,bg]at S2;have mW:(Instr.buildSlice t n (parts.map λp=>(p.1,a.eval p.2))).run C.P w=.ok (.slice (BQ ⟨w.heap.size,0,Ku⟩) n n) {w with heap:=w.heap.push (.cells fc e')}:=by{have PA:¬(n*st.size>2^24):=by{omega};rw[<-hp]at Mo;simp only[c0,zc]at Mo;simp only[Instr.buildSlice,Sem.run_bind,run_underlying h1,Result.andThen_ok,T1 h2,h3,PA,if_false,Sem.run_pure];by_cases h0:n*st.size=0;{rw[ar h0]at Mo⊢;simp only[Sem.run_bind,Sem.run_pure,Result.andThen_ok];rw[Mo];simp[Go.newRow]};{rw[ak h0]at Mo⊢;simp only[Sem.run_bind,Sem.run_pure,Result.andThen_ok,uX h2 h5];rw[Mo];simp[Go.newRow]}};rw[<-QM]at hL;have zO:fc.size=n*st.size:=by{rw[<-Array.length_toList,S2,<-hL.length,py,VL]};have qA:=st.size_pos;have Xs:n<=maxLen:=by{have:n*1<=n*st.size:=Nat.mul_le_mul_left _ qA;simp only[maxLen];omega};refine h'.S9 hd hl (st:=st) (l:=l) (cap:=n) (cur:=fc) (e:=e') (fz:=(0,0)) (ys:=((parts.toList.map (·.2)).map a.eval).flatMap λv=>v.cells.toList) (w':={w with heap:=w.heap.push (.cells fc e')}) (jP hq hk) rfl rfl rfl rfl (λo _=>by simp) zO (by omega) Xs hL (λj y hj=>by rw[<-S2]at hj;simpa using hj) ?_;simp only[execOp,ho,Sem.run_bind,VL];have hm:(parts.map λx=>(x.1,a.eval x.2))=parts.map λp=>(p.1,a.eval p.2):=rfl;simp[mW]
end
end Go.Eng
