/- Texts of my own, one behind the other: EngFl, XA, XB, XC, XD, YD, YI, XE, XF, XG, XH, XO, XI, XJ, XK, XL, XM, XN, XP, XQ, XR, XS. -/
import Derived.Laws.FloatArith
import Derived.WalkKit
import Derived.Calls
import Derived.Below
import Derived.Laws.OwnMore
import Derived.Lib.Bytealg
import Derived.Orders
import Derived.KernelRfl
import Derived.Laws.IdiomStrings
import Derived.Laws.Entries
import Derived.Laws.BytesString
import Derived.Laws.Strings
import Derived.ChangeKeysEq
import Derived.Laws.StructEq
import Derived.Laws.BytesArg
import Derived.Laws.Cover2
import Derived.Lib.Strings
import Derived.Laws.MakeOwn
import Derived.Laws.CopyRow
set_option linter.defProp false
set_option linter.unusedVariables false
set_option linter.unusedSimpArgs false
namespace Go.Eng
abbrev aa:=@decide_eq_true
abbrev ab:=@decide_eq_false
abbrev ae:=@List.length_append
abbrev af:=@Bool.and_eq_true
abbrev ah:=@Int.toNat_natCast
abbrev ai:=@List.getD_eq_getElem?_getD
abbrev aj:=@cond_false
abbrev ak:=@List.length_singleton
abbrev ao:=@if_neg
abbrev aq:=@of_decide_eq_true
abbrev ar:=@if_pos
abbrev au:=@cond_true
abbrev av:=@List.length_cons
abbrev aw:=@List.getElem?_eq_getElem
abbrev ay:=@Nat.mul_le_mul_right
abbrev az:=@List.append_assoc
abbrev aA:=@List.drop_of_length_le
abbrev aB:=@Nat.eq_of_beq_eq_true
abbrev aC:=@List.all_eq_true
abbrev aD:=@decide_eq_true_eq
abbrev aE:=@List.length_nil
abbrev aF:=@List.length_take
abbrev aG:=@Bool.not_true
abbrev aH:=@List.getElem?_eq_some_iff
abbrev aI:=@UInt64.lt_iff_toNat_lt
abbrev aJ:=@UInt64.le_iff_toNat_le
abbrev aK:=@List.append_nil
abbrev aL:=@Bool.not_false
abbrev aM:=@Option.some.injEq
abbrev aN:=@Bool.eq_iff_iff
abbrev aO:=@List.mem_of_getElem?
abbrev aP:=@List.mem_cons
abbrev aQ:=@Bool.and_eq_true_iff
abbrev aR:=@List.length_drop
abbrev aS:=@Bool.not_or_self
abbrev aT:=@decide_eq_decide
abbrev aU:=@UInt64.toNat_inj
abbrev aV:=@Option.bind_eq_some_iff
abbrev aW:=@Option.map_eq_some_iff
abbrev aX:=@Bool.and_self
abbrev aY:=@List.getElem?_append_right
abbrev aZ:=@List.getElem?_take
abbrev bc:=@List.map_cons
abbrev bf:=@List.drop_zero
abbrev bg:=@Bool.or_not_self
abbrev bh:=@List.nil_append
abbrev bj:=@List.eq_nil_of_length_eq_zero
abbrev bm:=@List.length_map
abbrev bn:=@List.mem_map
abbrev bo:=@Int.emod_eq_of_lt
abbrev bp:=@Option.ite_none_right_eq_some
abbrev bq:=@Bool.false_eq_true
abbrev br:=@List.getElem?_map
abbrev bt:=@List.cons.injEq
abbrev bw:=@List.map_nil
abbrev bA:=@List.map_map
end Go.Eng
noncomputable section
namespace Go.Eng
namespace Fl
def add(a b:Nat):Nat:=(Ieee.double.add a b).getD 0
def oc(a b:Nat):Bool:=(Ieee.double.add a b).isSome
def sub(a b:Nat):Nat:=(Ieee.double.sub a b).getD 0
def vL(a b:Nat):Bool:=(Ieee.double.sub a b).isSome
def mul(a b:Nat):Nat:=(Ieee.double.mul a b).getD 0
def re(a b:Nat):Bool:=(Ieee.double.mul a b).isSome
def eq(a b:Nat):Bool:=Ieee.double.order a b==some .eq
def lt(a b:Nat):Bool:=Ieee.double.order a b==some .lt
def gt(a b:Nat):Bool:=Ieee.double.order a b==some .gt
def neg(a:Nat):Nat:=a^^^9223372036854775808
def vw(a b c d:Nat):Nat:=sub (mul a c) (mul b d)
def vx(a b c d:Nat):Nat:=add (mul a d) (mul b c)
def rF(a b c d:Nat):Bool:=re a c&&re b d&&vL (mul a c) (mul b d)&&(re a d&&re b c&&oc (mul a d) (mul b c))
def ofInt(n:Int):Nat:=FloatKind.f64.nearest n
def nn(a:Nat):Nat:=FloatKind.f64.encode ((FloatKind.f64.decode a).integral .zero)
def num(a:Nat):Bool:=!(FloatKind.f64.decode a).isNaN
def toInt(a:Nat):Int:=(floatToIntVal .f64 a .i64).getD 0
def qm(a:Nat):Bool:=(floatToIntVal .f64 a .i64).isSome
theorem B2{a b:Nat}(h:oc a b=true):Ieee.double.add a b=some (add a b):=by unfold oc at h;obtain⟨x,hx⟩:=Option.isSome_iff_exists.1 h;unfold add;rw[hx];rfl
theorem BZ{a b:Nat}(h:vL a b=true):Ieee.double.sub a b=some (sub a b):=by unfold vL at h;obtain⟨x,hx⟩:=Option.isSome_iff_exists.1 h;unfold sub;rw[hx];rfl
theorem B0{a b:Nat}(h:re a b=true):Ieee.double.mul a b=some (mul a b):=by unfold re at h;obtain⟨x,hx⟩:=Option.isSome_iff_exists.1 h;unfold mul;rw[hx];rfl
end Fl
def C9:BinOp->Value->Value->Option Value
 |.add,.float .f64 a,.float .f64 b=>if Fl.oc a b then some (.float .f64 (Fl.add a b))else none
 |.sub,.float .f64 a,.float .f64 b=>if Fl.vL a b then some (.float .f64 (Fl.sub a b))else none
 |.mul,.float .f64 a,.float .f64 b=>if Fl.re a b then some (.float .f64 (Fl.mul a b))else none
 |.eql,.float .f64 a,.float .f64 b=>some (.bool (Fl.eq a b))
 |.neq,.float .f64 a,.float .f64 b=>some (.bool (!Fl.eq a b))
 |.lss,.float .f64 a,.float .f64 b=>some (.bool (Fl.lt a b))
 |.leq,.float .f64 a,.float .f64 b=>some (.bool (Fl.lt a b||Fl.eq a b))
 |.gtr,.float .f64 a,.float .f64 b=>some (.bool (Fl.gt a b))
 |.geq,.float .f64 a,.float .f64 b=>some (.bool (Fl.gt a b||Fl.eq a b))
 |.add,.complex .f64 a b,.complex .f64 c d=>if Fl.oc a c&&Fl.oc b d then some (.complex .f64 (Fl.add a c) (Fl.add b d))else none
 |.mul,.complex .f64 a b,.complex .f64 c d=>if Fl.rF a b c d then some (.complex .f64 (Fl.vw a b c d) (Fl.vx a b c d))else none
 |.lss,.string a,.string b=>some (.bool (Op.bytesLess a.toList b.toList))
 |.leq,.string a,.string b=>some (.bool (Op.bytesLess a.toList b.toList||a.toList==b.toList))
 |.gtr,.string a,.string b=>some (.bool (!(Op.bytesLess a.toList b.toList||a.toList==b.toList)))
 |.geq,.string a,.string b=>some (.bool (!Op.bytesLess a.toList b.toList))
 |_,_,_=>none
section
variable{P:Program}{w:World}
theorem pC{a b:Nat}(h:Fl.oc a b=true):(Op.Complex.arith .add .f64 a b).run P w=.ok (Fl.add a b) w:=by have e:FloatKind.f64.format.add a b=some (Fl.add a b):=Fl.B2 h;simp[Op.Complex.arith,Op.floatArith,e]
theorem y7{a b:Nat}(h:Fl.vL a b=true):(Op.Complex.arith .sub .f64 a b).run P w=.ok (Fl.sub a b) w:=by have e:FloatKind.f64.format.sub a b=some (Fl.sub a b):=Fl.BZ h;simp[Op.Complex.arith,Op.floatArith,e]
theorem nf{a b:Nat}(h:Fl.re a b=true):(Op.Complex.arith .mul .f64 a b).run P w=.ok (Fl.mul a b) w:=by have e:FloatKind.f64.format.mul a b=some (Fl.mul a b):=Fl.B0 h;simp[Op.Complex.arith,Op.floatArith,e]
theorem KJ{op:BinOp}{t:TypeId}{x y z:Value}(h:C9 op x y=some z):(binOp op t x y).run P w=.ok z w:=by unfold C9 at h;split at h;{rw[bp]at h;obtain⟨h1,h⟩:=h;cases h;have e:FloatKind.f64.format.add _ _=some (Fl.add _ _):=Fl.B2 h1;simp[binOp,Op.floatArith,e]};{rw[bp]at h;obtain⟨h1,h⟩:=h;cases h;have e:FloatKind.f64.format.sub _ _=some (Fl.sub _ _):=Fl.BZ h1;simp[binOp,Op.floatArith,e]};{rw[bp]at h;obtain⟨h1,h⟩:=h;cases h;have e:FloatKind.f64.format.mul _ _=some (Fl.mul _ _):=Fl.B0 h1;simp[binOp,Op.floatArith,e]};{cases h;rfl};{cases h;rfl};{cases h;rfl};{cases h;rfl};{cases h;rfl};{cases h;rfl};{rw[bp,af]at h;obtain⟨⟨h1,h2⟩,h⟩:=h;cases h;simp[binOp,Op.complexOp,pC h1,pC h2]};{rw[bp]at h;obtain⟨h1,h⟩:=h;cases h;unfold Fl.rF at h1;simp only[af]at h1;obtain⟨⟨⟨a1,a2⟩,a3⟩,⟨a4,a5⟩,a6⟩:=h1;simp[binOp,Op.complexOp,Op.Complex.conv,Op.Complex.product,Op.Complex.mul,Op.Complex.sub,Op.Complex.add,nf a1,nf a2,y7 a3,nf a4,nf a5,pC a6,Fl.vw,Fl.vx]};{cases h;rfl};{cases h;rfl};{cases h;rfl};{cases h;rfl};{cases h}
theorem E7{op:BinOp}{t:TypeId}{x y:Operand}{u v z:Value}(h:C9 op u v=some z):eqGuard op t x y u v=pure ():=by unfold C9 at h;split at h<;>first|rfl|cases h
theorem y6{a:Nat}:(Op.unary .neg (.float .f64 a)).run P w=.ok (.float .f64 (Fl.neg a)) w:=rfl
end
end Go.Eng
namespace Go.Eng
abbrev bD:=List UInt8
inductive bJ where
 |mk (name:bD) (kind:Int) (bits high low:UInt64) (text more:bD) (sub:Int) (bytes:bD) (kids:List bJ)
 deriving Inhabited
structure Val where
 kind:Int
 bits:UInt64
 high:UInt64
 low:UInt64
 text:bD
 more:bD
 sub:Int
 bytes:bD
 kids:List bJ
 deriving Inhabited
namespace bJ
def name:bJ->bD|.mk x _ _ _ _ _ _ _ _ _=>x
def kind:bJ->Int|.mk _ x _ _ _ _ _ _ _ _=>x
def bits:bJ->UInt64|.mk _ _ x _ _ _ _ _ _ _=>x
def high:bJ->UInt64|.mk _ _ _ x _ _ _ _ _ _=>x
def low:bJ->UInt64|.mk _ _ _ _ x _ _ _ _ _=>x
def text:bJ->bD|.mk _ _ _ _ _ x _ _ _ _=>x
def more:bJ->bD|.mk _ _ _ _ _ _ x _ _ _=>x
def sub:bJ->Int|.mk _ _ _ _ _ _ _ x _ _=>x
def bytes:bJ->bD|.mk _ _ _ _ _ _ _ _ x _=>x
def kids:bJ->List bJ|.mk _ _ _ _ _ _ _ _ _ x=>x
def val(f:bJ):Val:=⟨f.kind,f.bits,f.high,f.low,f.text,f.more,f.sub,f.bytes,f.kids⟩
def of(n:bD)(v:Val):bJ:=.mk n v.kind v.bits v.high v.low v.text v.more v.sub v.bytes v.kids
end bJ
inductive Mem where
 |mk (name:bD) (kind:Int) (text:bD) (kids:List Mem)
 deriving Inhabited
structure cQ where
 kind:Int
 text:bD
 kids:List Mem
 deriving Inhabited
namespace Mem
def name:Mem->bD|.mk x _ _ _=>x
def kind:Mem->Int|.mk _ x _ _=>x
def text:Mem->bD|.mk _ _ x _=>x
def kids:Mem->List Mem|.mk _ _ _ x=>x
def val(f:Mem):cQ:=⟨f.kind,f.text,f.kids⟩
def of(n:bD)(v:cQ):Mem:=.mk n v.kind v.text v.kids
end Mem
inductive Fx where
 |mk (kind:Int) (n:UInt64) (bytes text:bD) (kids:List Fx)
 deriving Inhabited
namespace Fx
def kind:Fx->Int|.mk x _ _ _ _=>x
def n:Fx->UInt64|.mk _ x _ _ _=>x
def bytes:Fx->bD|.mk _ _ x _ _=>x
def text:Fx->bD|.mk _ _ _ x _=>x
def kids:Fx->List Fx|.mk _ _ _ _ x=>x
end Fx
namespace Fx
end Fx
structure V8 where
 at_:Int
 end_:Int
 deriving Inhabited
structure Out where
 at_:Int
 bytes:bD
 Wz:List (List Int)
 err:Int
 fat:Int
 path:List Int
 deriving Inhabited
structure vF where
 err:Int
 at_:Int
 path:List Int
 deriving Inhabited
structure dP where
 high:UInt64
 low:UInt64
 deriving Inhabited,DecidableEq
abbrev Cx:=Nat×Nat
structure Qd where
 c0:Cx
 c1:Cx
 c2:Cx
 c3:Cx
 deriving Inhabited
def Qd.set(x:Qd)(i:Nat)(y:Cx):Qd:=⟨cond (Nat.beq 0 i) y x.c0,cond (Nat.beq 1 i) y x.c1,cond (Nat.beq 2 i) y x.c2,cond (Nat.beq 3 i) y x.c3⟩
def Qd.get(x:Qd)(i:Nat):Cx:=List.getD [x.c0,x.c1,x.c2,x.c3] i (0,0)
inductive fF where
 |bs|is|ws|ss|Nk|fl|ml|il|sp|ou|us|qd|Su|vl
 deriving DecidableEq,Inhabited
abbrev fF.El:fF->Type
 |.bs=>UInt8
 |.is=>Int
 |.ws=>UInt16
 |.ss=>bD
 |.Nk=>List Int
 |.fl=>bJ
 |.ml=>Mem
 |.il=>Fx
 |.sp=>V8
 |.ou=>Out
 |.us=>UInt64
 |.qd=>Qd
 |.Su=>bD
 |.vl=>Val
def fF.size:fF->Nat
 |.fl=>10
 |.ml=>4
 |.il=>5
 |.sp=>2
 |.ou=>6
 |.qd=>4
 |.vl=>9
 |_=>1
def fF.fS:(t:fF)->t.El
 |.bs=>0
 |.is=>0
 |.ws=>0
 |.ss=>[]
 |.Nk=>[]
 |.fl=>.mk [] 0 0 0 0 [] [] 0 [] []
 |.ml=>.mk [] 0 [] []
 |.il=>.mk 0 0 [] [] []
 |.sp=>⟨0,0⟩
 |.ou=>⟨0,[],[],0,0,[]⟩
 |.us=>0
 |.qd=>⟨(0,0),(0,0),(0,0),(0,0)⟩
 |.Su=>[]
 |.vl=>⟨0,0,0,0,[],[],0,[],[]⟩
inductive TV where
 |u8 (n:UInt8)
 |u16 (n:UInt16)
 |u32 (n:UInt32)
 |u64 (n:UInt64)
 |i (k:IntKind) (n:Int)
 |b (x:Bool)
 |s (l:bD)
 |sl (t:fF) (l:List t.El)
 |ag (l:List TV)
 |tu (l:List TV)
 |ro (x:TV)
 |gd (c:Bool) (x:TV)
 |c (x:Value)
 |pt
 |dead
 |el (p z q:Nat)
 |nl (t:fF)
 |ub (e:Bool)
 deriving Inhabited
def Val.cells(v:Val):List TV:=[.i .i64 v.kind,.u64 v.bits,.u64 v.high,.u64 v.low,.s v.text,.s v.more,.i .i64 v.sub,.sl .bs v.bytes,.sl .fl v.kids]
def bJ.cells(f:bJ):List TV:=[.s f.name,.i .i64 f.kind,.u64 f.bits,.u64 f.high,.u64 f.low,.s f.text,.s f.more,.i .i64 f.sub,.sl .bs f.bytes,.sl .fl f.kids]
def cQ.cells(v:cQ):List TV:=[.i .i64 v.kind,.s v.text,.sl .ml v.kids]
def Mem.cells(f:Mem):List TV:=[.s f.name,.i .i64 f.kind,.s f.text,.sl .ml f.kids]
def Fx.cells(f:Fx):List TV:=[.i .i64 f.kind,.u64 f.n,.sl .bs f.bytes,.s f.text,.sl .il f.kids]
def V8.cells(f:V8):List TV:=[.i .i64 f.at_,.i .i64 f.end_]
def Out.cells(f:Out):List TV:=[.i .i64 f.at_,.sl .bs f.bytes,.sl .Nk f.Wz,.i .i64 f.err,.i .i64 f.fat,.sl .is f.path]
def vF.cells(f:vF):List TV:=[.i .i64 f.err,.i .i64 f.at_,.sl .is f.path]
def dP.cells(f:dP):List TV:=[.u64 f.high,.u64 f.low]
def Qd.cells(x:Qd):List TV:=[.c (.complex .f64 x.c0.1 x.c0.2),.c (.complex .f64 x.c1.1 x.c1.2),.c (.complex .f64 x.c2.1 x.c2.2),.c (.complex .f64 x.c3.1 x.c3.2)]
def fF.tv:(t:fF)->t.El->TV
 |.bs,x=>.u8 x
 |.is,x=>.i .i64 x
 |.ws,x=>.u16 x
 |.ss,x=>.s x
 |.Nk,x=>.sl .is x
 |.fl,x=>.ag (bJ.cells x)
 |.ml,x=>.ag (Mem.cells x)
 |.il,x=>.ag (Fx.cells x)
 |.sp,x=>.ag (V8.cells x)
 |.ou,x=>.ag (Out.cells x)
 |.us,x=>.u64 x
 |.qd,x=>.ag (Qd.cells x)
 |.Su,x=>.sl .bs x
 |.vl,x=>.ag (Val.cells x)
def fF.el:(t:fF)->TV->Option t.El
 |.bs,.u8 x=>some x
 |.is,.i .i64 x=>some x
 |.ws,.u16 x=>some x
 |.ss,.s x=>some x
 |.Nk,.sl .is x=>some x
 |.fl,.ag [.s n,.i .i64 k,.u64 b,.u64 h,.u64 l,.s t,.s m,.i .i64 s,.sl .bs y,.sl .fl ks]=>some (.mk n k b h l t m s y ks)
 |.ml,.ag [.s n,.i .i64 k,.s t,.sl .ml ks]=>some (.mk n k t ks)
 |.il,.ag [.i .i64 k,.u64 n,.sl .bs b,.s t,.sl .il ks]=>some (.mk k n b t ks)
 |.sp,.ag [.i .i64 a,.i .i64 e]=>some ⟨a,e⟩
 |.us,.u64 x=>some x
 |.qd,.ag [.c (.complex .f64 a b),.c (.complex .f64 c d),.c (.complex .f64 e f),.c (.complex .f64 g h)]=>some ⟨(a,b),(c,d),(e,f),(g,h)⟩
 |.ou,.ag [.i .i64 a,.sl .bs b,.sl .Nk l,.i .i64 e,.i .i64 f,.sl .is p]=>some ⟨a,b,l,e,f,p⟩
 |.Su,.sl .bs x=>some x
 |.vl,.ag [.i .i64 k,.u64 b,.u64 h,.u64 l,.s t,.s m,.i .i64 s,.sl .bs y,.sl .fl ks]=>some ⟨k,b,h,l,t,m,s,y,ks⟩
 |_,_=>none
theorem fF.O5{t:fF}{x:TV}{y:t.El}(h:t.el x=some y):t.tv y=x:=by unfold fF.el at h;split at h<;>cases h<;>rfl
end Go.Eng
namespace Go.Eng
abbrev OT:=Option (List TV)
end Go.Eng
namespace Go.Eng
def db(o:BinOp)(k:IntKind)(x y:Int):Int:=
 let a:=BitVec.ofInt k.bits x
 let b:=BitVec.ofInt k.bits y
 match o with
 |.and=>k.wrap (a&&&b).toNat
 |.or=>k.wrap (a|||b).toNat
 |.xor=>k.wrap (a^^^b).toNat
 |_=>k.wrap (a&&&~~~b).toNat
inductive qK where
 |ok (ws:List TV)
 |eI (p:Bool) (ws:List TV)
 |err
abbrev ck{R:Type}(p:Bool)(x:Option R):Option R:=cond p x none
theorem bP{R:Type}(x:Option R):ck true x=x:=rfl
def Gg(k:IntKind)(n:Int):TV:=
 match k with
 |.u8=>.u8 (UInt8.ofInt n)
 |.u16=>.u16 (UInt16.ofInt n)
 |.u32=>.u32 (UInt32.ofInt n)
 |.u64=>.u64 (UInt64.ofInt n)
 |k=>.i k (k.wrap n)
def TV.int?:TV->Option (IntKind×Int)
 |.u8 n=>some (.u8,n.toNat)
 |.u16 n=>some (.u16,n.toNat)
 |.u32 n=>some (.u32,n.toNat)
 |.u64 n=>some (.u64,n.toNat)
 |.i k n=>some (k,n)
 |_=>none
def RG(o:BinOp)(a b:UInt8):qK:=
 match o with
 |.add=>.ok [.u8 (a+b)]
 |.sub=>.ok [.u8 (a -b)]
 |.mul=>.ok [.u8 (a*b)]
 |.quo=>.eI (!decide (b=0)) [.u8 (a/b)]
 |.rem=>.eI (!decide (b=0)) [.u8 (a% b)]
 |.and=>.ok [.u8 (a&&&b)]
 |.or=>.ok [.u8 (a|||b)]
 |.xor=>.ok [.u8 (a^^^b)]
 |.andNot=>.ok [.u8 (a&&&~~~b)]
 |.eql=>.ok [.b (decide (a=b))]
 |.neq=>.ok [.b (!decide (a=b))]
 |.lss=>.ok [.b (decide (a<b))]
 |.leq=>.ok [.b (decide (a<=b))]
 |.gtr=>.ok [.b (decide (b<a))]
 |.geq=>.ok [.b (decide (b<=a))]
 |_=>.err
def oe(a:UInt8)(n:Nat):UInt8:=UInt8.ofNat (a.toNat*2^n)
def nP(a:UInt8)(n:Nat):UInt8:=UInt8.ofNat (a.toNat/2^n)
def LJ(o:BinOp)(a b:UInt16):qK:=
 match o with
 |.add=>.ok [.u16 (a+b)]
 |.sub=>.ok [.u16 (a -b)]
 |.mul=>.ok [.u16 (a*b)]
 |.quo=>.eI (!decide (b=0)) [.u16 (a/b)]
 |.rem=>.eI (!decide (b=0)) [.u16 (a% b)]
 |.and=>.ok [.u16 (a&&&b)]
 |.or=>.ok [.u16 (a|||b)]
 |.xor=>.ok [.u16 (a^^^b)]
 |.andNot=>.ok [.u16 (a&&&~~~b)]
 |.eql=>.ok [.b (decide (a=b))]
 |.neq=>.ok [.b (!decide (a=b))]
 |.lss=>.ok [.b (decide (a<b))]
 |.leq=>.ok [.b (decide (a<=b))]
 |.gtr=>.ok [.b (decide (b<a))]
 |.geq=>.ok [.b (decide (b<=a))]
 |_=>.err
def Jd(a:UInt16)(n:Nat):UInt16:=UInt16.ofNat (a.toNat*2^n)
def tp(a:UInt16)(n:Nat):UInt16:=UInt16.ofNat (a.toNat/2^n)
def LH(o:BinOp)(a b:UInt32):qK:=
 match o with
 |.add=>.ok [.u32 (a+b)]
 |.sub=>.ok [.u32 (a -b)]
 |.mul=>.ok [.u32 (a*b)]
 |.quo=>.eI (!decide (b=0)) [.u32 (a/b)]
 |.rem=>.eI (!decide (b=0)) [.u32 (a% b)]
 |.and=>.ok [.u32 (a&&&b)]
 |.or=>.ok [.u32 (a|||b)]
 |.xor=>.ok [.u32 (a^^^b)]
 |.andNot=>.ok [.u32 (a&&&~~~b)]
 |.eql=>.ok [.b (decide (a=b))]
 |.neq=>.ok [.b (!decide (a=b))]
 |.lss=>.ok [.b (decide (a<b))]
 |.leq=>.ok [.b (decide (a<=b))]
 |.gtr=>.ok [.b (decide (b<a))]
 |.geq=>.ok [.b (decide (b<=a))]
 |_=>.err
def tq(a:UInt32)(n:Nat):UInt32:=UInt32.ofNat (a.toNat*2^n)
def xn(a:UInt32)(n:Nat):UInt32:=UInt32.ofNat (a.toNat/2^n)
def LF(o:BinOp)(a b:UInt64):qK:=
 match o with
 |.add=>.ok [.u64 (a+b)]
 |.sub=>.ok [.u64 (a -b)]
 |.mul=>.ok [.u64 (a*b)]
 |.quo=>.eI (!decide (b=0)) [.u64 (a/b)]
 |.rem=>.eI (!decide (b=0)) [.u64 (a% b)]
 |.and=>.ok [.u64 (a&&&b)]
 |.or=>.ok [.u64 (a|||b)]
 |.xor=>.ok [.u64 (a^^^b)]
 |.andNot=>.ok [.u64 (a&&&~~~b)]
 |.eql=>.ok [.b (decide (a=b))]
 |.neq=>.ok [.b (!decide (a=b))]
 |.lss=>.ok [.b (decide (a<b))]
 |.leq=>.ok [.b (decide (a<=b))]
 |.gtr=>.ok [.b (decide (b<a))]
 |.geq=>.ok [.b (decide (b<=a))]
 |_=>.err
def iS(a:UInt64)(n:Nat):UInt64:=UInt64.ofNat (a.toNat*2^n)
def cE(a:UInt64)(n:Nat):UInt64:=UInt64.ofNat (a.toNat/2^n)
def qK.holds:qK->List TV->Prop
 |.ok ws,r=>r=ws
 |.eI p ws,r=>p=true/\r=ws
 |.err,_=>False
def RF(o:BinOp)(k:IntKind)(a b:Int):qK:=
 match o with
 |.add=>.ok [.i k (k.wrap (a+b))]
 |.sub=>.ok [.i k (k.wrap (a -b))]
 |.mul=>.ok [.i k (k.wrap (a*b))]
 |.quo=>.eI (!decide (b=0)) [.i k (k.wrap (a.tdiv b))]
 |.rem=>.eI (!decide (b=0)) [.i k (a.tmod b)]
 |.and=>.ok [.i k (db .and k a b)]
 |.or=>.ok [.i k (db .or k a b)]
 |.xor=>.ok [.i k (db .xor k a b)]
 |.andNot=>.ok [.i k (db .andNot k a b)]
 |.eql=>.ok [.b (decide (a=b))]
 |.neq=>.ok [.b (!decide (a=b))]
 |.lss=>.ok [.b (decide (a<b))]
 |.leq=>.ok [.b (decide (a<=b))]
 |.gtr=>.ok [.b (decide (b<a))]
 |.geq=>.ok [.b (decide (b<=a))]
 |_=>.err
def RE(o:BinOp)(a b:bD):qK:=
 match o with
 |.add=>.eI (decide (a.length+b.length<=9223372036854775807)) [.s (a++b)]
 |.eql=>.ok [.b (decide (a=b))]
 |.neq=>.ok [.b (!decide (a=b))]
 |.lss=>.ok [.b (Op.bytesLess a b)]
 |.leq=>.ok [.b (Op.bytesLess a b||decide (a=b))]
 |.gtr=>.ok [.b (!(Op.bytesLess a b||decide (a=b)))]
 |.geq=>.ok [.b (!Op.bytesLess a b)]
 |_=>.err
def TV.count:TV->Option (Option Bool×Nat)
 |.u8 n=>some (none,n.toNat)
 |.u16 n=>some (none,n.toNat)
 |.u32 n=>some (none,n.toNat)
 |.u64 n=>some (none,n.toNat)
 |.i _ n=>some (some (decide (0<=n)),n.toNat)
 |_=>none
def qK.under(p:Option Bool)(ws:List TV):qK:=
 match p with
 |none=>.ok ws
 |some p=>.eI p ws
def PQ(x y:TV):qK:=
 match y.count with
 |some (p,n)=>match x with|.u8 a=>.under p [.u8 (oe a n)]|.u16 a=>.under p [.u16 (Jd a n)]|.u32 a=>.under p [.u32 (tq a n)]|.u64 a=>.under p [.u64 (iS a n)]|.i k a=>.under p [.i k (k.wrap (a*2^(min n k.bits)))]|_=>.err
 |none=>.err
def PO(x y:TV):qK:=
 match y.count with
 |some (p,n)=>match x with|.u8 a=>.under p [.u8 (nP a n)]|.u16 a=>.under p [.u16 (tp a n)]|.u32 a=>.under p [.u32 (xn a n)]|.u64 a=>.under p [.u64 (cE a n)]|.i k a=>.under p [.i k (a.fdiv (2^(min n k.bits)))]|_=>.err
 |none=>.err
def wK:BinOp->Option Bool
 |.shl=>some true
 |.shr=>some false
 |_=>none
def Q9(o:BinOp)(x y:Value):qK:=
 match o,x,y with
 |.add,.float .f64 a,.float .f64 b=>.eI (Fl.oc a b) [.c (.float .f64 (Fl.add a b))]
 |.sub,.float .f64 a,.float .f64 b=>.eI (Fl.vL a b) [.c (.float .f64 (Fl.sub a b))]
 |.mul,.float .f64 a,.float .f64 b=>.eI (Fl.re a b) [.c (.float .f64 (Fl.mul a b))]
 |.eql,.float .f64 a,.float .f64 b=>.ok [.b (Fl.eq a b)]
 |.neq,.float .f64 a,.float .f64 b=>.ok [.b (!Fl.eq a b)]
 |.lss,.float .f64 a,.float .f64 b=>.ok [.b (Fl.lt a b)]
 |.leq,.float .f64 a,.float .f64 b=>.ok [.b (Fl.lt a b||Fl.eq a b)]
 |.gtr,.float .f64 a,.float .f64 b=>.ok [.b (Fl.gt a b)]
 |.geq,.float .f64 a,.float .f64 b=>.ok [.b (Fl.gt a b||Fl.eq a b)]
 |.add,.complex .f64 a b,.complex .f64 c d=>.eI (Fl.oc a c&&Fl.oc b d) [.c (.complex .f64 (Fl.add a c) (Fl.add b d))]
 |.mul,.complex .f64 a b,.complex .f64 c d=>.eI (Fl.rF a b c d) [.c (.complex .f64 (Fl.vw a b c d) (Fl.vx a b c d))]
 |_,_,_=>.err
def NQ(o:BinOp)(x y:TV):qK:=
 match wK o with
 |some true=>PQ x y
 |some false=>PO x y
 |none=>match x,y with|.u8 a,.u8 b=>RG o a b|.u16 a,.u16 b=>LJ o a b|.u32 a,.u32 b=>LH o a b|.u64 a,.u64 b=>LF o a b|.i k a,.i k' b=>if k=k' then RF o k a b else .err|.s a,.s b=>RE o a b|.c a,.c b=>Q9 o a b|_,_=>.err
def U8(o:UnOp)(x:TV):qK:=
 match o,x with
 |.neg,.u8 a=>.ok [.u8 (0 -a)]
 |.neg,.u16 a=>.ok [.u16 (0 -a)]
 |.neg,.u32 a=>.ok [.u32 (0 -a)]
 |.neg,.u64 a=>.ok [.u64 (0 -a)]
 |.neg,.i k a=>.ok [.i k (k.wrap (0 -a))]
 |.xor,.u8 a=>.ok [.u8 (~~~a)]
 |.xor,.u16 a=>.ok [.u16 (~~~a)]
 |.xor,.u32 a=>.ok [.u32 (~~~a)]
 |.xor,.u64 a=>.ok [.u64 (~~~a)]
 |.xor,.i k a=>.ok [.i k (db .xor k (if k.signed then -1 else k.max) a)]
 |.not,.b a=>.ok [.b !a]
 |.neg,.c (.float .f64 a)=>.ok [.c (.float .f64 (Fl.neg a))]
 |_,_=>.err
def TV.wq:TV->Bool
 |.ag _=>true
 |_=>false
def TV.cells:TV->List TV
 |.ag cs=>cs
 |x=>[x]
def TV.plain:TV->Bool
 |.u8 _=>true
 |.u16 _=>true
 |.u32 _=>true
 |.u64 _=>true
 |.i _ _=>true
 |.b _=>true
 |.s _=>true
 |.sl _ _=>true
 |.nl _=>true
 |.ag _=>true
 |.ro _=>true
 |.c x=>x.oneCell'
 |_=>false
def ph(cs:List TV)(o n:Nat)(agg:Bool):Option TV:=
 match agg with
 |true=>cond (Nat.ble (o+n) cs.length) (some (.ag ((cs.drop o).take n))) none
 |false=>cs[o]?
def gX(cs:List TV)(o:Nat)(xs:List TV):List TV:=cs.take o++xs++cs.drop (o+xs.length)
def TV.Tz:TV->Bool
 |.pt=>true
 |x=>x.plain
def rB(z:List TV):List (Nat×Nat)->List TV->OT
 |[],[]=>some z
 |(o,n)::pl,x::xs=>cond (x.Tz&&Nat.beq x.cells.length n&&Nat.ble (o+n) z.length) (rB (gX z o x.cells) pl xs) none
 |_,_=>none
def AL(e:TV)(o n:Nat)(agg:Bool):Option TV:=
 match e with
 |.ag cs=>ph cs o n agg
 |x=>cond (Nat.beq o 0&&Nat.beq n 1&&!agg) (some x) none
def ED(e:TV)(o:Nat)(x:TV):Option TV:=
 match e with
 |.ag cs=>cond (Nat.ble (o+x.cells.length) cs.length) (some (.ag (gX cs o x.cells))) none
 |_=>cond (Nat.beq o 0&&!x.wq) (some x) none
def fF.app:(t:fF)->List t.El->(t':fF)->List t'.El->Option (List t.El)
 |.bs,l,.bs,m=>some (l++m)
 |.is,l,.is,m=>some (l++m)
 |.ws,l,.ws,m=>some (l++m)
 |.ss,l,.ss,m=>some (l++m)
 |.Nk,l,.Nk,m=>some (l++m)
 |.fl,l,.fl,m=>some (l++m)
 |.ml,l,.ml,m=>some (l++m)
 |.il,l,.il,m=>some (l++m)
 |.sp,l,.sp,m=>some (l++m)
 |.ou,l,.ou,m=>some (l++m)
 |.us,l,.us,m=>some (l++m)
 |.qd,l,.qd,m=>some (l++m)
 |.Su,l,.Su,m=>some (l++m)
 |.vl,l,.vl,m=>some (l++m)
 |_,_,_,_=>none
def fF.Uq(t:fF):List TV->Option (List t.El)
 |[]=>some []
 |x::r=>match t.el x with
  |some y=>match t.Uq r with|some l=>some (y::l)|none=>none
  |none=>none
def allM{A:Type}(f:TV->Option A):List TV->Option (List A)
 |[]=>some []
 |x::r=>match f x with
  |some y=>match allM f r with|some l=>some (y::l)|none=>none
  |none=>none
def TV.str?:TV->Option bD|.s l=>some l|_=>none
def TV.i64?:TV->Option Int|.i .i64 l=>some l|_=>none
def TV.u8?:TV->Option UInt8|.u8 l=>some l|_=>none
def TV.u64?:TV->Option UInt64|.u64 l=>some l|_=>none
def TV.bool?:TV->Option Bool|.b l=>some l|_=>none
def TV.cx?:TV->Option Cx|.c (.complex .f64 x y)=>some (x,y)|_=>none
def TV.sl?(t:fF):TV->Option (List t.El)
 |.sl t' l=>if h:t'=t then some (h▸l)else none
 |_=>none
def Im(cs:List TV)(n:Nat):Option TV:=
 match cs with
 |.s _::_=>match allM TV.str? cs with|some l=>some (.s (l.getD n []))|none=>none
 |.i _ _::_=>match allM TV.i64? cs with|some l=>some (.i .i64 (l.getD n 0))|none=>none
 |.u8 _::_=>match allM TV.u8? cs with|some l=>some (.u8 (l.getD n 0))|none=>none
 |.u64 _::_=>match allM TV.u64? cs with|some l=>some (.u64 (l.getD n 0))|none=>none
 |.b _::_=>match allM TV.bool? cs with|some l=>some (.b (l.getD n false))|none=>none
 |.c (.func _ _ _)::_=>cs[n]?
 |.c _::_=>match allM TV.cx? cs with|some l=>some (.c (.complex .f64 (List.getD l n (0,0)).1 (List.getD l n (0,0)).2))|none=>none
 |.sl t _::_=>match allM (TV.sl? t) cs with|some l=>some (.sl t (l.getD n []))|none=>none
 |_=>none
def Ry(s m j:Nat)(cs:List TV):List TV:=(List.range m).map λq=>cs.getD (q*s+j) .dead
def Dv(s m n:Nat)(cs:List TV):Nat->OT
 |0=>some []
 |j+1=>match Im (Ry s m (s -(j+1)) cs) n with
  |some x=>match Dv s m n cs j with|some xs=>some (x::xs)|none=>none
  |none=>none
def pU(n:Nat):Bool:=decide (n<=maxLen)
def bF(n:Int)(l:Nat):Bool:=decide (0<=n)&&decide (n<l)
def eM(a b:Int)(l:Nat):Bool:=decide (0<=a)&&decide (a<=b)&&decide (b<=l)
def dY(n sa:Nat):Bool:=decide (n<=maxLen)&&decide (n*sa<=140737488355328)
def sP(l c:Int)(sa:Nat):Bool:=decide (0<=l)&&decide (l<=c)&&decide (c*sa<=140737488355328)&&decide (c<=maxLen)
def TV.bare:TV->TV
 |.gd _ x=>x
 |x=>x
def TV.Ll:TV->Option Bool
 |.gd q _=>some q
 |_=>none
def Jz(t:Bool)(x y:TV):Option TV:=
 match x,y with
 |.b a,.b b=>some (.b (cond t a b))
 |.i k a,.i k' b=>if k=k' then some (.i k (cond t a b))else none
 |.u8 a,.u8 b=>some (.u8 (cond t a b))
 |.u16 a,.u16 b=>some (.u16 (cond t a b))
 |.u32 a,.u32 b=>some (.u32 (cond t a b))
 |.u64 a,.u64 b=>some (.u64 (cond t a b))
 |.s a,.s b=>some (.s (cond t a b))
 |_,_=>none
def FV(t:Bool)(x y:TV):qK:=
 match Jz t x.bare y.bare with
 |some z=>match x.Ll,y.Ll with|none,none=>.ok [z]|some p,none=>.eI (!t||p) [z]|none,some q=>.eI (t||q) [z]|some p,some q=>.eI (cond t p q) [z]
 |none=>.err
def AB{A:Type}:Nat->List A->Nat->A->List A
 |_,[],_,_=>[]
 |j,p::r,i,q=>cond (Nat.beq j i) q p::AB (j+1) r i q
def Yq(p:Cx):TV:=.c (.complex .f64 p.1 p.2)
def Hy{A:Type}(g:A->TV):List A->List TV
 |[]=>[]
 |p::r=>g p::Hy g r
def Vo(cs:List TV)(i:Nat)(x:TV):OT:=
 match x with
 |.u64 q=>match allM TV.u64? cs with|some l=>some (Hy .u64 (AB 0 l i q))|none=>none
 |x=>match x.cx?,allM TV.cx? cs with|some q,some l=>some (Hy Yq (AB 0 l i q))|_,_=>none
inductive Gh where
 |no|hid|zz|ptr (m o:Nat)|fo (k:Nat)|pe (k:Nat)|Of (l:List (Nat×Nat))|ow (ts:List (Nat×Nat))|cl (ts:List (Nat×Nat))|pv|lv|us|pw (d:Nat)|pc (r:Nat)
 deriving DecidableEq,Inhabited
abbrev Cell:=TV×Gh
abbrev St:=Nat->Cell
inductive Md where
 |pl|rf|sl|sm|gv
 deriving DecidableEq,Inhabited
structure ib where
 md:List Md:=[]
 jd:Nat:=1
 own:List Nat:=[]
abbrev dD:=List TV->qK
structure cH where
 fs:Nat->dD×ib
 ty:Nat->Option (fF×Nat)
 z:Nat->OT
 ld:List Nat:=[]
def nrm:TV->TV
 |.nl t=>.sl t []
 |x=>x
def Tx:TV->TV
 |.nl t=>.sl t []
 |.ag cs=>.ag (cs.map nrm)
 |x=>x
def Qg(k:IntKind)(n:Int):Option TV:=
 match k with
 |.u8=>cond (decide (0<=n)&&decide (n<256)) (some (.u8 (UInt8.ofNat n.toNat))) none
 |.u16=>cond (decide (0<=n)&&decide (n<65536)) (some (.u16 (UInt16.ofNat n.toNat))) none
 |.u32=>cond (decide (0<=n)&&decide (n<4294967296)) (some (.u32 (UInt32.ofNat n.toNat))) none
 |.u64=>cond (decide (0<=n)&&decide (n<18446744073709551616)) (some (.u64 (UInt64.ofNat n.toNat))) none
 |k=>some (.i k n)
def Wr:Value->Option TV
 |.bool b=>some (.b b)
 |.int k n=>Qg k n
 |.string s=>some (.s s.data.toList)
 |.float k b=>some (.c (.float k b))
 |.complex k a b=>some (.c (.complex k a b))
 |.pointer none=>some (.c (.pointer none))
 |.nilFunc=>some (.c .nilFunc)
 |.nilIface=>some (.c .nilIface)
 |_=>none
def Fy:Value->TV->Bool
 |.slice none 0 0,.nl _=>true
 |.bool b,.b c=>b==c
 |.int .u8 n,.u8 m=>n==m.toNat
 |.int .u16 n,.u16 m=>n==m.toNat
 |.int .u32 n,.u32 m=>n==m.toNat
 |.int .u64 n,.u64 m=>n==m.toNat
 |.int j n,.i k m=>j==k&&n==m
 |.string s,.s l=>s.data.toList==l
 |.float j n,.c (.float k m)=>j==k&&n==m
 |.complex j n n',.c (.complex k m m')=>j==k&&n==m&&n'==m'
 |.pointer none,.c (.pointer none)=>true
 |.nilFunc,.c .nilFunc=>true
 |.nilIface,.c .nilIface=>true
 |_,_=>false
def qL:List Value->List TV->Bool
 |[],[]=>true
 |x::xs,y::ys=>Fy x y&&qL xs ys
 |_,_=>false
structure iu where
 p:Option Bool
 x:Cell
 ws:List (Nat×Cell):=[]
def iu.ok(x:TV)(g:Gh:=.no)(ws:List (Nat×Cell):=[]):Option iu:=some ⟨none,(x,g),ws⟩
def iu.eI(p:Bool)(x:TV)(g:Gh:=.no)(ws:List (Nat×Cell):=[]):Option iu:=some ⟨some p,(x,g),ws⟩
def qK.O7(r:qK):Option iu:=
 match r with
 |.ok [x]=>iu.ok x
 |.eI p [x]=>iu.eI p x
 |_=>none
def vc(nt:Nat)(V:St)(k:Nat):Bool:=decide ((V k).2=.no)&&Nat.blt k 1000000&&Nat.ble nt k
def AN(a b:Int):Int:=if b<a then b else a
def qI(a b:Int):Int:=if a<b then b else a
abbrev fV{A:Type}(p:Bool)(x:Option A):Option A:=cond p x none
section
variable(P:Program)(E:cH)(nt:Nat)(own:Nat->Nat)(V:St)
def kF(t:TypeId):Option (Nat×Bool):=(P.info? t).bind λi=>(P.underlying t).map λd=>(i.size,match d with|.struct _=>true|.array _ _=>true|_=>false)
def vo(t:TypeId)(f:Nat):Option Field:=(P.underlying t).bind λd=>match d with|.struct fs=>fs[f]? |_=>none
def Lj(t:TypeId)(v:Value):Option TV:=
 match v with
 |.slice none 0 0=>(E.ty t).map λp=>.nl p.1
 |.agg cs=>(E.z t).bind λz=>fV (qL cs.toList z) (some (.ag z))
 |v=>Wr v
def gR(t:TypeId)(o:Operand):Option Cell:=
 match o with
 |.tmp i=>fV (Nat.blt i nt) (match V i with
  |(_,.hid)=>none
  |c=>some c)
 |.const v=>(Lj E t v).map λx=>(x,.no)
 |.func f=>some (.c (.func (.func f) #[] #[]),.no)
 |.global _=>none
def yV(c:Cell):Option TV:=
 match c with
 |(.pt,.fo k)=>match V k with|(y,.pv)=>some y|(y,.lv)=>some y|(y,.us)=>some y|(y,.pw _)=>some y|(y,.pc _)=>some y|_=>none
 |(x,.no)=>some (Tx x)
 |_=>none
def Gp(c:Cell):Option (TV×List (Nat×Cell)):=
 match c with
 |(.pt,.fo k)=>match V k with|(y,.pv)=>some (y,[(k,(y,.lv))])|(y,.lv)=>some (y,[])|(y,.us)=>fV y.plain (some (y,[]))|_=>none
 |(x,.no)=>some (Tx x,[])
 |_=>none
def pZ(o n:Nat):List (Nat×Nat)->List TV->Option (List TV×List (Nat×Cell))
 |[],cs=>some (cs,[])
 |(c,k)::r,cs=>match pZ o n r cs with
  |some (cs,ws)=>cond (Nat.ble o c&&Nat.blt c (o+n)) (match Gp V (.pt,.fo k)with
   |some (x,us)=>some (cs.set c x,us++ws)
   |none=>none) (some (cs,ws))
  |none=>none
def C8(c:Cell):Option (TV×List (Nat×Cell)):=
 match c with
 |(.ag cs,.ow ts)=>match pZ V 0 cs.length ts cs with|some (cs,ws)=>some (.ag (cs.map nrm),ws)|none=>none
 |c=>Gp V c
def Mi:List Cell->Option (List TV×List (Nat×Cell))
 |[]=>some ([],[])
 |c::r=>match C8 V c with
  |some (x,ws)=>match Mi r with|some (xs,us)=>some (x::xs,ws++us)|none=>none
  |none=>none
def qy:List Cell->Option (List Cell×Nat)
 |[]=>none
 |[(.pt,.fo k)]=>some ([],k)
 |[_]=>none
 |c::d::r=>match qy (d::r)with|some (cs,k)=>some (c::cs,k)|none=>none
def sj(ts:List TypeId)(os:List Operand):Option (List Cell):=
 match ts,os with
 |[],[]=>some []
 |t::ts,o::os=>match gR E nt V t o with
  |some c=>match sj ts os with|some cs=>some (c::cs)|none=>none
  |none=>none
 |_,_=>none
def FR(o n:Nat)(ts:List (Nat×Nat)):List (Nat×Nat):=ts.filter λt=>Nat.blt t.1 o||Nat.ble (o+n) t.1
def oY(c:Nat):List (Nat×Nat)->Option Nat
 |[]=>none
 |(d,k)::r=>cond (Nat.beq d c) (some k) (oY c r)
def RN(m:Md)(c:Cell):Option (TV×List (Nat×Cell)):=
 match m,c with
 |.pl,c=>C8 V c
 |.rf,(.pt,.ptr k 0)=>match V k with
  |(.ag cs,.cl ts)=>match pZ V 0 cs.length ts cs with|some (cs,ws)=>some (.ag (cs.map nrm),ws)|none=>none
  |_=>none
 |.rf,_=>none
 |m,(.pt,.fo k)=>match m,V k with|_,(y,.pv)=>some (y,[])|.sm,(y,.pc _)=>some (y,[])|_,_=>none
 |.sm,(.nl t,.no)=>some (.sl t [],[])
 |.gv,(.nl t,.no)=>some (.sl t [],[])
 |_,_=>none
def DK(ms:List Md):List Cell->Option (List TV×List (Nat×Cell))
 |[]=>some ([],[])
 |c::r=>match RN V (ms.headD .pl) c with
  |some (x,ws)=>match DK ms.tail r with|some (xs,us)=>some (x::xs,ws++us)|none=>none
  |none=>none
def nJ:List Md->List TV->List TV->OT
 |[],_,outs=>fV outs.isEmpty (some [])
 |.rf::ms,_::ins,x::outs=>(nJ ms ins outs).map (x::·)
 |.sl::ms,_::ins,x::outs=>(nJ ms ins outs).map (x::·)
 |.pl::ms,y::ins,outs=>(nJ ms ins outs).map (y::·)
 |.sm::ms,y::ins,outs=>(nJ ms ins outs).map (y::·)
 |.gv::ms,y::ins,outs=>(nJ ms ins outs).map (y::·)
 |_::_,_,_=>none
def ob(m:Md)(c:Cell)(y:TV):Option (Nat×Cell):=
 match m,c.2 with
 |.rf,.ptr k _=>some (k,(y,.cl []))
 |.sl,.fo k=>some (k,(y,.pv))
 |.sm,.fo k=>some (k,(y,(V k).2))
 |.gv,.fo k=>some (k,(.dead,.zz))
 |_,_=>none
def iP:List Md->List Cell->List TV->List (Nat×Cell)
 |m::ms,c::cs,y::ys=>match ob V m c y with|some p=>p::iP ms cs ys|none=>iP ms cs ys
 |_,_,_=>[]
def Bk:List (Nat×Cell)->Bool
 |[]=>true
 |(k,_)::r=>(r.all λp=>!Nat.beq p.1 k)&&Bk r
def sf(outs:List TV)(i:Nat):Option TV:=cond (Nat.blt i 1000) (outs[i]?) (match outs[0]? with|some (TV.ag cs)=>cs[i -1000]? |_=>none)
def M3:List Nat->Nat->List TV->Option (List (Nat×Cell))
 |[],_,_=>some []
 |i::r,j,outs=>match sf outs i with|some x=>fV (vc nt V (own j)) ((M3 r (j+1) outs).map ((own j,(x,.pv))::·))|none=>none
def Vj(l:List Nat):TV->TV
 |.ag cs=>.ag (cs.mapIdx λc y=>cond (l.contains (1000+c)) .pt y)
 |x=>x
def mN(l:List Nat):Bool:=l.all λi=>Nat.blt i 1000
def uU(l:List Nat)(outs:List TV):List TV:=cond (mN l) (outs.mapIdx λi x=>cond (l.contains i) .pt x) (outs.map (Vj l))
def okO(sg:ib):Bool:=mN sg.own||(Nat.beq sg.jd 1&&Nat.beq sg.own.length 1)
def Hg(sg:ib)(outs:List TV):Cell:=
 cond (Nat.beq sg.jd 1) (match sg.own with
  |[]=>(outs.headD .dead,.no)
  |i::_=>cond (Nat.blt i 1000) (.pt,.fo (own 0)) ((uU sg.own outs).headD .dead,.ow [(i -1000,own 0)]))
  (.tu (uU sg.own outs),cond sg.own.isEmpty .no (.Of (sg.own.mapIdx λj i=>(i,own j))))
def DA(sg:ib)(cs:List Cell)(xs:List TV)(ws:List (Nat×Cell))(p:Option Bool)(outs:List TV):Option iu:=
 fV (Nat.ble sg.jd outs.length&&Nat.blt 0 nt&&okO sg) (match M3 nt own V sg.own 0 (outs.take sg.jd),nJ sg.md xs (outs.drop sg.jd)with
  |some ns,some ys=>fV (Bk (iP V sg.md cs ys)&&(ws.all λq=>(iP V sg.md cs ys).all λp=>!Nat.beq p.1 q.1)) (some ⟨p,Hg own sg (outs.take sg.jd),iP V sg.md cs ys++(ns++ws)⟩)
  |_,_=>none)
def GG(f:Nat)(ts:List TypeId)(args:List Operand):Option iu:=
 match sj E nt V ts args with
 |some cs=>match DK V (E.fs f).2.md cs with
  |some (xs,ws)=>match(E.fs f).1 xs with|.ok outs=>DA nt own V (E.fs f).2 cs xs ws none outs|.eI p outs=>DA nt own V (E.fs f).2 cs xs ws (some p) outs|.err=>none
  |none=>none
 |none=>none
def M1(x:TV)(p:Option Bool)(ws:List (Nat×Cell)):Option iu:=fV (vc nt V (own 0)) (some ⟨p,(.pt,.fo (own 0)),(own 0,(x,.pv))::ws⟩)
def F7(sa:Nat)(k:Nat)(t:fF)(l:List t.El)(st':fF)(m:List st'.El)(ws:List (Nat×Cell)):Option iu:=
 match t.app l st' m with
 |some n=>fV (vc nt V (own 0)) (some ⟨some (dY (l.length+m.length) sa),(.pt,.fo (own 0)),[(own 0,(.sl t n,.pc k)),(k,(.sl t l,.pw (own 0)))]++ws⟩)
 |none=>none
def N0(st:fF)(sa:Nat)(c:Cell)(st':fF)(m:List st'.El):Option iu:=
 match c with
 |(.pt,.fo k)=>match V k with
  |(.sl t l,.pv)=>match E.ld.contains (own 0)with|true=>fV (decide (t=st)) (F7 nt own V sa k t l st' m [])|false=>match t.app l st' m with|some n=>fV (decide (t=st)&&vc nt V (own 0)) (some ⟨some (dY (l.length+m.length) sa),(.pt,.fo (own 0)),[(own 0,(.sl t n,.pv)),(k,(.dead,.zz))]⟩)|none=>none
  |(.sl t l,.pw d)=>fV (decide (t=st)) (F7 nt own V sa k t l st' m [(d,(.dead,.zz))])
  |(.sl t l,.lv)=>match t.app l st' m with|some n=>fV (decide (t=st)&&vc nt V (own 0)) (some ⟨some (dY (l.length+m.length) sa),(.pt,.fo (own 0)),[(own 0,(.sl t n,.lv)),(k,(.sl t l,.us))]⟩)|none=>none
  |_=>none
 |(.nl t,.no)=>fV (decide (t=st')&&decide (t=st)) (M1 nt own V (.sl st' m) (some (dY m.length sa)) [])
 |_=>none
def yH(b:Builtin)(ts:List TypeId)(args:List Operand):Option iu:=
 match b,ts,args with
 |.len,[t],[x]=>match P.underlying t,(gR E nt V t x).bind (yV V)with|some (.slice _),some (.sl _ l)=>iu.ok (.i .i64 l.length)|some .string,some (.s l)=>iu.ok (.i .i64 l.length)|_,_=>none
 |.append,[t,u],[x,y]=>match E.ty t,gR E nt V t x,P.underlying u,(gR E nt V u y).bind (yV V)with|some (st,sa),some c,some (.slice _),some (.sl st' m)=>N0 E nt own V st sa c st' m|some (st,sa),some c,some .string,some (.s m)=>N0 E nt own V st sa c .bs m|_,_,_,_=>none
 |.min,_,[x,y]=>match gR E nt V 0 x,gR E nt V 0 y with|some (.i k a,.no),some (.i k' b,.no)=>fV (decide (k=k')) (iu.ok (.i k (AN a b)))|_,_=>none
 |.max,_,[x,y]=>match gR E nt V 0 x,gR E nt V 0 y with|some (.i k a,.no),some (.i k' b,.no)=>fV (decide (k=k')) (iu.ok (.i k (qI a b)))|_,_=>none
 |.real,_,[x]=>match gR E nt V 0 x with|some (.c (.complex k a _),.no)=>iu.ok (.c (.float k a))|_=>none
 |.imag,_,[x]=>match gR E nt V 0 x with|some (.c (.complex k _ b),.no)=>iu.ok (.c (.float k b))|_=>none
 |.complex,_,[x,y]=>match gR E nt V 0 x,gR E nt V 0 y with|some (.c (.float .f64 a),.no),some (.c (.float .f64 b),.no)=>iu.ok (.c (.complex .f64 a b))|_,_=>none
 |_,_,_=>none
def Li(s d:TypeId)(x:TV):Option iu:=
 match P.underlying s,P.underlying d with
 |some (.int _),some (.int k)=>match x.int? with|some (_,n)=>iu.ok (Gg k n)|none=>none
 |some (.int _),some (.float .f64)=>match x with|.i _ n=>iu.ok (.c (.float .f64 (Fl.ofInt n)))|_=>none
 |some (.float .f64),some (.int .i64)=>match x with|.c (.float .f64 b)=>iu.eI (Fl.qm b) (.i .i64 (Fl.toInt b))|_=>none
 |some .string,some .string=>match x with|.s l=>iu.ok (.s l)|_=>none
 |some .string,some (.slice e)=>match P.underlying e,x with|some (.int .u8),.s l=>M1 nt own V (.sl .bs l) (some (pU l.length)) []|_,_=>none
 |some (.slice e),some .string=>match P.underlying e,x with|some (.int .u8),.sl .bs l=>iu.ok (.s l)|_,_=>none
 |_,_=>none
def Rv(t:fF)(l:List t.El)(lo hi:Option Int):Option iu:=
 match lo,hi with
 |some a,some b=>iu.eI (eM a b l.length) (.sl t ((l.take b.toNat).drop a.toNat))
 |some a,none=>iu.eI (eM a l.length l.length) (.sl t (l.drop a.toNat))
 |none,some b=>iu.eI (eM 0 b l.length) (.sl t (l.take b.toNat))
 |none,none=>iu.ok (.sl t l)
def Ru(l:bD)(lo hi:Option Int):Option iu:=
 match lo,hi with
 |some a,some b=>iu.eI (eM a b l.length) (.s ((l.take b.toNat).drop a.toNat))
 |some a,none=>iu.eI (eM a l.length l.length) (.s (l.drop a.toNat))
 |none,some b=>iu.eI (eM 0 b l.length) (.s (l.take b.toNat))
 |none,none=>iu.ok (.s l)
def sW(o:Operand):Option Int:=
 match gR E nt V 0 o with
 |some (x,.no)=>(x.int?).map (·.2)
 |_=>none
def px(o:Option Operand):Option (Option Int):=
 match o with
 |none=>some none
 |some o=>(sW E nt V o).map some
def wm(x:TypeId)(st:fF):Bool:=match E.ty x with|some (st',_)=>Nat.beq st'.size st.size|none=>false
def Lc(t:TypeId)(c:Cell)(lo hi:Option Int):Option iu:=
 match C8 V c with
 |some (.sl st l,ws)=>fV (wm E t st) ((Rv st l lo hi).map λe=>{e with ws:=ws})
 |_=>none
def JW(t:TypeId)(c:Cell):Option iu:=
 match kF P t with
 |some (n,agg)=>fV (agg||Nat.beq n 1) (match c with
  |(.pt,.ptr m o)=>match V m with
   |(.ag cs,.cl ts)=>match agg,oY o ts with
    |false,some k=>iu.ok .pt (.fo k)
    |_,_=>match E.ld.contains (own 0)with
     |true=>fV (agg&&Nat.beq o 0&&Nat.beq n cs.length) (iu.ok (.ag cs) (.ow ts))
     |false=>match pZ V o n ts cs with
      |some (cs,ws)=>match ph cs o n agg with|some x=>iu.ok x .no ws|none=>none
      |none=>none
   |_=>none
  |(.el i s o,.pe k)=>match V k with
   |(.sl t l,g)=>match AL (t.tv (l.getD i t.fS)) o n agg with|some x=>fV ((decide (g=.pv)||decide (g=.lv))&&Nat.beq s t.size) (iu.eI (decide (i<l.length)) x)|none=>none
   |(.ag cs,.cl [])=>match Im cs i with|some x=>fV (Nat.beq s 1&&Nat.beq o 0&&Nat.beq n 1&&!agg) (iu.eI (decide (i<cs.length)) x)|none=>none
   |_=>none
  |(.ro x,.no)=>fV (x.plain&&(x.wq==agg)&&Nat.beq x.cells.length n) (iu.ok x)
  |_=>none)
 |none=>none
def Ek(t:TypeId)(c v:Cell):Option iu:=
 match kF P t with
 |some (n,_)=>match c with
  |(.pt,.ptr m o)=>match V m with
   |(.ag cs,.cl ts)=>match v with
    |(.pt,.fo k)=>fV (Nat.beq n 1&&Nat.blt o cs.length&&(!Nat.beq k m&&ts.all λt=>!Nat.beq t.2 m)) (some ⟨none,(.dead,.no),[(m,(.ag (gX cs o [.pt]),.cl ((o,k)::FR o n ts)))]⟩)
    |(.ag xs,.ow us)=>fV (Nat.beq o 0&&Nat.beq xs.length n&&Nat.beq n cs.length&&us.all λt=>!Nat.beq t.2 m) (some ⟨none,(.dead,.no),[(m,(.ag xs,.cl us))]⟩)
    |(x,.no)=>fV (x.plain&&Nat.beq x.cells.length n&&Nat.ble (o+n) cs.length&&ts.all λt=>!Nat.beq t.2 m) (some ⟨none,(.dead,.no),[(m,(.ag (gX cs o x.cells),.cl (FR o n ts)))]⟩)
    |_=>none
   |_=>none
  |(.el i s o,.pe k)=>match C8 V v with
   |some (x,ws)=>match V k with
    |(.sl t l,.pv)=>match ED (t.tv (l.getD i t.fS)) o x with
     |some y=>match t.el y with
      |some z=>fV (x.plain&&Nat.beq s t.size&&Nat.beq x.cells.length n&&ws.all λp=>!Nat.beq p.1 k) (some ⟨some (decide (i<l.length)),(.dead,.no),(k,(.sl t (l.set i z),.pv))::ws⟩)
      |none=>none
     |none=>none
    |(.ag cs,.cl [])=>match Vo cs i x with
     |some ds=>fV (Nat.beq s 1&&Nat.beq o 0&&Nat.beq n 1&&ws.all λp=>!Nat.beq p.1 k) (some ⟨some (decide (i<cs.length)),(.dead,.no),(k,(.ag ds,.cl []))::ws⟩)
     |none=>none
    |_=>none
   |none=>none
  |_=>none
 |none=>none
def qY(t:TypeId)(j:Nat):Option (Nat×(Nat×TypeId)):=
 match P.underlying t with
 |some (.struct fs)=>(fs[j]?).bind λf=>(P.info? f.type).map λi=>(f.offset,i.size,f.type)
 |some (.array _ e)=>(P.info? e).map λi=>(j*i.size,i.size,e)
 |_=>none
def qo(t:TypeId):List (Nat×Operand)->Option (List (Nat×(Nat×TypeId)))
 |[]=>some []
 |(j,_)::r=>match qY P t j,qo t r with|some q,some l=>some (q::l)|_,_=>none
def WJ(x:TypeId)(c:Cell)(n:Int):Option iu:=
 match P.underlying x,c with
 |some (.slice _),(.pt,.fo k)=>match V k with|(.sl t l,.pv)=>fV (wm E x t) (iu.eI (bF n l.length) (.el n.toNat t.size 0) (.pe k))|(.sl t l,.lv)=>fV (wm E x t) (iu.eI (bF n l.length) (.ro (t.tv (l.getD n.toNat t.fS))))|(.sl t l,.us)=>fV (wm E x t) (iu.eI (bF n l.length) (.ro (t.tv (l.getD n.toNat t.fS))))|_=>none
 |some (.slice _),(.sl t l,.no)=>fV (wm E x t) (iu.eI (bF n l.length) (.ro (t.tv (l.getD n.toNat t.fS))))
 |some (.array m e),(.pt,.ptr k 0)=>match V k with
  |(.ag _,.cl _)=>(P.info? e).bind λi=>iu.eI (bF n m) (.el n.toNat i.size 0) (.pe k)
  |_=>none
 |_,_=>none
def Ql:String:=((Extern.BytealgIndexByte.rows[1]?).map Prod.fst).getD ""
def isName:String:=((Extern.BytealgIndexByte.rows[0]?).map Prod.fst).getD ""
def IY:String:= "math.archTrunc"
def rD(f:Nat)(nm:String):Bool:=(P.funcs[f]?).any λfn=>fn.name==nm&&fn.body.isNone&&(fn.origin== "" ||fn.origin==nm)
def Rd(f:Nat)(cs:Option (List Cell)):Option iu:=match cs with|some [(.c (.float .f64 b),.no)]=>fV (rD P f IY) (iu.eI (Fl.num b) (.c (.float .f64 (Fl.nn b))))|some [(.s l,.no),(.u8 c,.no)]=>fV (rD P f Ql) (iu.ok (.i .i64 (Lib.indexByte l c)))|some [(.sl .bs l,.no),(.u8 c,.no)]=>fV (rD P f isName) (iu.ok (.i .i64 (Lib.indexByte l c)))|_=>none
def Gl(f:Nat):Bool:=match P.funcs[f]? with|some fn=>fn.body.isSome|none=>true
def Gd(f:Field)(o:Nat):Bool:=f.name != "_" &&Nat.beq f.offset o&&match P.underlying f.type with|some (.int .u64)=>true|_=>false
def Sr(t:TypeId)(fs:Array Field)(x y:TV):Option Bool:=
 match fs.toList,x,y with
 |[f,g],.ag [.u64 a,.u64 b],.ag [.u64 c,.u64 d]=>fV (Gd P f 0&&Gd P g 1&&!P.stoodInHeld t&&!P.eqGuardType P.depth t) (some (decide (a=c)&&decide (b=d)))
 |_,_,_=>none
def Lg(s d:TypeId)(c:Cell):Option iu:=
 match c with
 |(.pt,.fo k)=>match V k,P.underlying s with
  |(.sl .bs l,.pv),some (.slice e)=>match P.underlying e with|some (.int .u8)=>fV (Nat.beq s d) (some ⟨some (!l.isEmpty),(.sl .bs l,.no),[(k,(.dead,.zz))]⟩)|_=>none
  |_,_=>none
 |_=>none
def BW(ty:TypeId)(op:Op):Option iu:=
 match op with
 |.move x=>(gR E nt V ty x).map λc=>⟨none,c,[]⟩
 |.assign x=>(gR E nt V ty x).map λc=>⟨none,c,[]⟩
 |.pick c a b=>match gR E nt V 0 c,gR E nt V ty a,gR E nt V ty b with|some (.b t,.no),some (x,.no),some (y,.no)=>(FV t x y).O7|_,_,_=>none
 |.binOp o t x y u=>match gR E nt V t x,gR E nt V u y with
  |some c,some d=>match P.underlying t with
   |some (.slice _)=>match o,yV V c,d with|.eql,some (.sl _ l),(.nl _,.no)=>iu.ok (.ub l.isEmpty)|_,_,_=>none
   |some .bool=>match o,c,d with|.eql,(.b a,.no),(.b b,.no)=>iu.ok (.b (a==b))|.neq,(.b a,.no),(.b b,.no)=>iu.ok (.b (!(a==b)))|_,_,_=>none
   |some (.struct fs)=>match o,c,d with
    |.eql,(a,.no),(b,.no)=>(Sr P t fs a b).bind λr=>iu.ok (.b r)
    |.neq,(a,.no),(b,.no)=>(Sr P t fs a b).bind λr=>iu.ok (.b !r)
    |_,_,_=>none
   |_=>match c,d with|(a,.no),(b,.no)=>(NQ o a b).O7|_,_=>none
  |_,_=>none
 |.unOp o t x=>match gR E nt V t x with|some (a,.no)=>(U8 o a).O7|_=>none
 |.convert s d x=>match gR E nt V s x with
  |some c=>match Lg P V s d c with|some e=>some e|none=>match yV V c with|some a=>Li P nt own V s d a|none=>none
  |none=>none
 |.call {callee:=.builtin b,args,argTypes}=>yH P E nt own V b argTypes.toList args.toList
 |.call {callee:=.value (.func f),args,argTypes}=>cond (Gl P f) (GG E nt own V f argTypes.toList args.toList) (Rd P f (sj E nt V argTypes.toList args.toList))
 |.call {callee:=.value (.tmp i),args,argTypes}=>match gR E nt V 0 (.tmp i)with|some (.c (.func (.func f) ⟨[]⟩ ⟨[]⟩),.no)=>GG E nt own V f argTypes.toList args.toList|_=>none
 |.indexAddr t x i=>match gR E nt V t x,sW E nt V i with|some c,some n=>WJ P E V t c n|_,_=>none
 |.index t x i=>match gR E nt V t x,sW E nt V i with
  |some (.s l,.no),some n=>match P.underlying t with|some .string=>iu.eI (bF n l.length) (.u8 (l.getD n.toNat 0))|_=>none
  |some (.ag cs,.no),some n=>match P.underlying t with
   |some (.array m e)=>match kF P e with
    |some (1,false)=>match Im cs n.toNat with|some x=>fV (Nat.beq m cs.length) (iu.eI (bF n m) x)|none=>none
    |some (s,true)=>match Dv s m n.toNat cs s with|some xs=>fV (Nat.beq (m*s) cs.length) (iu.eI (bF n m) (.ag xs))|none=>none
    |_=>none
   |_=>none
  |_,_=>none
 |.field t x f=>match gR E nt V t x,vo P t f with
  |some (.ag cs,.no),some fl=>match kF P fl.type with
   |some (n,agg)=>match ph cs fl.offset n agg with|some x=>fV (agg||Nat.beq n 1) (iu.ok x)|none=>none
   |none=>none
  |_,_=>none
 |.fieldAddr t x f=>match gR E nt V 0 x,vo P t f with
  |some c,some fl=>match kF P fl.type with
   |some (n,agg)=>fV (Nat.blt 0 n) (match c with
    |(.pt,.ptr m o)=>iu.ok .pt (.ptr m (o+fl.offset))
    |(.el i s o,.pe k)=>iu.ok (.el i s (o+fl.offset)) (.pe k)
    |(.ro (.ag cs),.no)=>match ph cs fl.offset n agg with|some x=>iu.ok (.ro x)|none=>none
    |_=>none)
   |none=>none
  |_,_=>none
 |.nilCheck x=>match gR E nt V 0 x with|some (.pt,.ptr m o)=>iu.ok .pt (.ptr m o)|some (.ro x,.no)=>iu.ok (.ro x)|_=>none
 |.extract x i=>match gR E nt V 0 x with
  |some (.tu vs,.no)=>(vs[i]?).bind iu.ok
  |some (.tu vs,.Of l)=>match oY i l with
   |some k=>match V k with|(_,.pv)=>iu.ok .pt (.fo k)|_=>none
   |none=>(vs[i]?).bind iu.ok
  |_=>none
 |.load t x=>match gR E nt V 0 x with|some c=>JW P E own V t c|none=>none
 |.store t x v=>match gR E nt V 0 x,gR E nt V t v with|some c,some d=>Ek P V t c d|_,_=>none
 |.slice t x lo hi none=>match P.underlying t,gR E nt V t x,px E nt V lo,px E nt V hi with
  |some .string,some (.s l,.no),some a,some b=>Ru l a b
  |some (.slice _),some c,some a,some b=>match c,a,b with
   |(.pt,.fo k),none,some n=>match V k with|(.sl st l,.pv)=>fV (wm E t st&&vc nt V (own 0)) (some ⟨some (eM 0 n l.length),(.pt,.fo (own 0)),[(own 0,(.sl st (l.take n.toNat),.pv)),(k,(.dead,.zz))]⟩)|_=>Lc E V t c a b
   |_,_,_=>Lc E V t c a b
  |_,_,_,_=>none
 |.buildSlice t n parts=>match E.ty t,P.underlying t with
  |some (st,_),some (.slice e)=>match sj E nt V (parts.toList.map λ_=>e) (parts.toList.map (·.2))with
   |some cs=>match Mi V cs with
    |some (xs,ws)=>match st.Uq xs with|some l=>fV (Nat.beq n parts.size&&Nat.ble (n*st.size) 16777216&&decide (parts.toList.map (·.1)=List.range n)) (M1 nt own V (.sl st l) none ws)|none=>none
    |none=>none
   |none=>none
  |_,_=>none
 |.build t parts=>match E.z t,qo P t parts.toList with
  |some z,some pl=>match sj E nt V (pl.map (·.2.2)) (parts.toList.map (·.2))with
   |some cs=>match E.ld.contains (own 0),qy cs with
    |true,some (Bl,k)=>match Mi V Bl with
     |some (xs,ws)=>match rB z (pl.map λq=>(q.1,q.2.1)) (xs++[.pt]),pl.getLast? with
      |some ds,some q=>fV (xs.all TV.plain&&(Nat.beq q.2.1 1&&ws.all λp=>!Nat.beq p.1 k)) (iu.ok (.ag ds) (.ow [(q.1,k)]) ws)
      |_,_=>none
     |none=>none
    |_,_=>match Mi V cs with
     |some (xs,ws)=>match rB z (pl.map λq=>(q.1,q.2.1)) xs with|some ds=>fV (xs.all TV.plain) (iu.ok (.ag ds) .no ws)|none=>none
     |none=>none
   |none=>none
  |_,_=>none
 |.alloc t=>(E.z t).bind λz=>fV (vc nt V (own 0)) (iu.ok .pt (.ptr (own 0) 0) [(own 0,(.ag z,.cl []))])
 |.box t v=>match gR E nt V t v with|some (x,.no)=>fV (x.plain&&vc nt V (own 0)) (iu.ok .pt (.ptr (own 0) 0) [(own 0,(.ag x.cells,.cl []))])|_=>none
 |.makeSlice t l c=>match E.ty t,sW E nt V l,sW E nt V c with|some (st,sa),some a,some b=>M1 nt own V (.sl st (List.replicate a.toNat st.fS)) (some (sP a b sa)) []|_,_,_=>none
 |_=>none
end
abbrev GL:=List (Nat×Gh)
inductive Hint where
 |o|s (a b:Hint)|j (G:GL) (a b:Hint)|c (a b:Hint)|b (a:Hint)|l (G:GL) (a:Hint)|sc (ls:List (Nat×GL)) (a:Hint)
def Hint.s1:Hint->Hint|.s a _=>a|.j _ a _=>a|.c a _=>a|.b a=>a|.l _ a=>a|.sc _ a=>a|.o=>.o
def Hint.s2:Hint->Hint|.s _ a=>a|.j _ _ a=>a|.c _ a=>a|_=>.o
def cR(S:St)(d:Nat)(x:Cell):St:=λk=>cond (Nat.beq k d) x (S k)
def fU(S:St):List (Nat×Cell)->St
 |[]=>S
 |(k,x)::r=>cR (fU S r) k x
def lW(nt:Nat)(ts:List Nat)(S:St):St:=λk=>cond (Nat.blt k nt&&ts.contains k) ((S k).1.bare,(S k).2) (S k)
def KB(x:TV)(b:Bool):Option Bool:=
 match x with
 |.b x=>some (cond b x (!x))
 |.gd q (.b x)=>some (q&&cond b x (!x))
 |_=>none
def wx:List TV->Option Bool
 |[]=>none
 |x::r=>match x.Ll,wx r with|none,q=>q|some p,none=>some p|some p,some q=>some (p&&q)
def Og(op:Op):List Nat:=op.operands.toList.filterMap λx=>match x with|.tmp t=>some t|_=>none
def TV.Ki:TV->Bool
 |.gd _ _=>true
 |_=>false
def Y5(nt:Nat)(V:St)(k:Nat):Bool:=Nat.ble nt k&&match(V k).2 with|.no=>false|.hid=>false|_=>true
def Gh.slot:Gh->Bool
 |.no|.ptr _ _|.fo _|.pe _|.Of _|.ow _=>true
 |_=>false
def Gh.dt:Gh->List Nat
 |.ptr m _=>[m]
 |.fo k=>[k]
 |.pe k=>[k]
 |.Of l=>l.map (·.2)
 |.ow l=>l.map (·.2)
 |.cl ts=>ts.map (·.2)
 |.pw d=>[d]
 |.pc r=>[r]
 |_=>[]
def IG(nt:Nat)(V:St)(c:Bool)(q:Option Bool)(e:iu):Option iu:=
 fV (e.ws.isEmpty&&(e.x.2.slot&&!e.x.1.Ki)&&e.x.2.dt.all (Y5 nt V)) (some ⟨match e.p,q with
  |none,none=>none
  |none,some q=>some (!c||q)
  |some p,none=>some (!c||p)
  |some p,some q=>some (!c||(q&&p)),(.gd c e.x.1,e.x.2),[]⟩)
def KI(nt:Nat)(c:Bool)(q:Option Bool)(e:iu):Option iu:=
 fV (e.ws.all λp=>Nat.ble nt p.1) (some ⟨some (match e.p,q with
  |none,none=>c
  |none,some q=>c&&q
  |some p,none=>c&&p
  |some p,some q=>c&&(q&&p)),e.x,e.ws⟩)
def yx(nt:Nat)(o:Oper):Bool:=
 match o.op,o.dst with
 |.store _ _ _,none=>true
 |.store _ _ _,some _=>false
 |.call {callee:=.value _,args:=_,argTypes:=_},none=>true
 |_,some d=>Nat.blt d nt
 |_,none=>false
def watch(op:Op):List Nat:=
 match op with
 |.pick _ _ _=>(Og op).take 1
 |_=>Og op
section
variable(P:Program)(E:cH)(nt:Nat)
def Cq(d:Option Nat)(j:Nat):Nat:=(j+1)*nt+d.getD 0
def pL(ops:Array Oper)(o:Oper)(V:St):Option iu:=
 fV (yx nt o) (match o.guard with
 |none=>BW P E nt (Cq nt o.dst) V o.type o.op
 |some (j,b)=>match(ops[j]?).bind (·.dst)with
  |some t=>match V t with
   |(x,.no)=>match KB x b,BW P E nt (Cq nt o.dst) (lW nt (watch o.op) V) o.type o.op with
    |some c,some e=>fV (Nat.blt t nt&&(o.dst.isSome&&(watch o.op).all λt=>!(V t).1.bare.Ki)) (cond (E.ld.contains (Cq nt o.dst 1)) (KI nt c (wx ((watch o.op).map λt=>(V t).1)) e) (IG nt V c (wx ((watch o.op).map λt=>(V t).1)) e))
    |_,_=>none
   |_=>none
  |none=>none)
def jJ(S:St)(d:Option Nat)(e:iu):St:=
 match d with
 |some d=>cR (fU S e.ws) d e.x
 |none=>fU S e.ws
variable{R:Type}
abbrev NM(p:Option Bool)(x:Option R):Option R:=match p with|none=>x|some p=>ck p x
abbrev G9 (ops:Array Oper) (l:List Oper) (S:St) (K:St→Option R):Option R :=
 List.rec (motive:=fun _=>St→(St→Option R)→Option R) (fun S K=>K S)
  (fun o _ ih S K=>match pL P E nt ops o S with
   | some e=>NM e.p (ih (jJ S o.dst e) K)
   | none=>none) l S K
theorem G8(ops:Array Oper)(o:Oper)(r:List Oper)(S:St)(K:St->Option R):G9 P E nt ops (o::r) S K=match pL P E nt ops o S with|some e=>NM e.p (G9 P E nt ops r (jJ S o.dst e) K)|none=>none:=rfl
def mD(d:Option Nat)(e:iu):List Nat:=d.toList++e.ws.map (·.1)
def sA(ds:List Nat)(S:St):St:=λk=>cond (ds.contains k) (.dead,.hid) (S k)
def vC(o:Oper):List Nat:=(o.after.toList.filter (Region.binds .any)).map (·.on)
def pA(ops:List Oper):List (List Nat):=ops.foldl (λacc o=>acc++[(vC o).flatMap λe=>e::(acc.getD e [])]) []
def wR(ops:List Oper):Bool:=ops.zipIdx.all λ(o,i)=>(vC o).all λe=>decide (e<i)
def Ka(ops:Array Oper):List Oper->St->Option (List (List Nat))
 |[],_=>some []
 |o::r,S=>match pL P E nt ops o S with
  |some e=>match Ka ops r (jJ S o.dst e)with|some l=>some (mD o.dst e::l)|none=>none
  |none=>none
def uZ(W B:List (List Nat))(i:Nat):List Nat:=(W.zipIdx.filter λ(_,j)=>!(Nat.beq j i)&&!((B.getD i []).contains j)&&!((B.getD j []).contains i)).flatMap (·.1)
abbrev Hb (ops:Array Oper) (W B:List (List Nat)) (i:Nat) (l:List Oper) (S:St) (K:St→Option R):Option R :=
 List.rec (motive:=fun _=>Nat→St→(St→Option R)→Option R) (fun _ S K=>K S)
  (fun o _ ih i S K=>match pL P E nt ops o (sA (uZ W B i) S) with
   | some e=>fV (decide (mD o.dst e=W.getD i [])&&(uZ W B i).all fun k=>!((W.getD i []).contains k)) (NM e.p (ih (i+1) (jJ S o.dst e) K))
   | none=>none) l i S K
theorem Ha(ops:Array Oper)(W B:List (List Nat))(i:Nat)(o:Oper)(r:List Oper)(S:St)(K:St->Option R):Hb P E nt ops W B i (o::r) S K=match pL P E nt ops o (sA (uZ W B i) S)with
 |some e=>fV (decide (mD o.dst e=W.getD i [])&&(uZ W B i).all λk=>!((W.getD i []).contains k)) (NM e.p (Hb P E nt ops W B (i+1) r (jJ S o.dst e) K))
 |none=>none:=rfl
abbrev AG(ops:Array Oper)(draw:Bool)(S:St)(K:St->Option R):Option R:=
 match draw with
 |false=>G9 P E nt ops ops.toList S K
 |true=>fV (wR ops.toList) (match Ka P E nt ops ops.toList S with
  |some W=>Hb P E nt ops W (pA ops.toList) 0 ops.toList S K
  |none=>none)
inductive MX where
 |normal
 |exit (id:Nat)
 |goto (l:Nat)
 |ret
abbrev fQ(R:Type):=MX->St->Option R
def qW(S:St):GL->List (Nat×Option Nat)
 |[]=>[]
 |(k,.fo i)::r=>(match S k with|(_,.fo j)=>[(i,some j)]|(.nl _,.no)=>[(i,none)]|_=>[])++qW S r
 |(m,.cl ts)::r=>(match S m with
  |(.ag cs,.cl us)=>ts.filterMap λt=>match oY t.1 us,cs[t.1]? with|some j,_=>some (t.2,some j)|none,some (.nl _)=>some (t.2,none)|_,_=>none
  |_=>[])++qW S r
 |_::r=>qW S r
def rj(k:Nat):List (Nat×Option Nat)->Option (Option Nat)
 |[]=>none
 |(i,j)::r=>cond (Nat.beq i k) (some j) (rj k r)
def zE(S:St)(i:Nat):GL->Option fF
 |[]=>none
 |(k,.fo i')::r=>match Nat.beq i' i,S k with|true,(.nl t,_)=>some t|_,_=>zE S i r
 |(m,.cl ts)::r=>match S m,ts.find? (λt=>Nat.beq t.2 i)with
  |(.ag cs,_),some t=>match cs[t.1]? with|some (.nl t)=>some t|_=>zE S i r
  |_,_=>zE S i r
 |_::r=>zE S i r
def Cj(ts:List (Nat×Nat))(cs:List TV):List TV:=ts.foldl (λcs t=>cs.set t.1 .pt) cs
def lh(ρ:List (Nat×Option Nat))(k:Nat):Option Nat:=(rj k ρ).getD (some k)
def TH:Option TV->Bool
 |some (.nl _)=>true
 |_=>false
def Ea(S:St)(G:GL)(ρ:List (Nat×Option Nat))(p:Nat×Gh):Option (TV×List (Nat×Cell)):=
 match p.2 with
 |.no=>fV (Nat.blt p.1 nt) (C8 S (S p.1))
 |.fo _=>fV (Nat.blt p.1 nt) (match S p.1 with
  |(.pt,.fo _)=>some (.pt,[])
  |(.nl _,.no)=>some (.pt,[])
  |_=>none)
 |.ptr m o=>fV (Nat.blt p.1 nt) (match S p.1 with
  |(.pt,.ptr m' o')=>fV (Nat.beq m' m&&Nat.beq o' o) (some (.pt,[]))
  |_=>none)
 |.cl ts=>fV (Nat.ble nt p.1) (match S p.1 with
  |(.ag cs,.cl us)=>fV (ts.all λt=>(oY t.1 us).isSome||TH cs[t.1]?) (match pZ S 0 cs.length (us.filter λu=>(oY u.1 ts).isNone) cs with
   |some (cs,ws)=>some (.ag (Cj ts (cs.map nrm)),ws)
   |none=>none)
  |_=>none)
 |.pv=>fV (Nat.ble nt p.1) (match lh ρ p.1 with
  |some j=>match S j with|(y,.pv)=>some (y,[])|_=>none
  |none=>(zE S p.1 G).map λt=>(.sl t [],[]))
 |.lv=>fV (Nat.ble nt p.1) (match lh ρ p.1 with
  |some j=>match S j with|(y,.pv)=>some (y,[(j,(y,.lv))])|(y,.lv)=>some (y,[])|_=>none
  |none=>(zE S p.1 G).map λt=>(.sl t [],[]))
 |_=>none
def vH(S:St)(G:GL)(ρ:List (Nat×Option Nat)):GL->Option (List TV×List (Nat×Cell))
 |[]=>some ([],[])
 |p::r=>match Ea nt S G ρ p with
  |some (x,ws)=>match vH S G ρ r with|some (xs,us)=>some (x::xs,ws++us)|none=>none
  |none=>none
def Gh.own:Gh->Bool
 |.cl _|.pv|.lv|.pw _|.pc _=>true
 |_=>false
def oZ:List Nat->Bool
 |[]=>true
 |k::r=>(r.all λj=>!Nat.beq j k)&&oZ r
def Vk(G:GL)(ρ:List (Nat×Option Nat))(ws:List (Nat×Cell)):Bool:=
 oZ (G.map (·.1))&&(ρ.all λp=>decide (rj p.1 ρ=some p.2)&&(Nat.blt p.1 1000000||decide (p.2=some p.1))&&Nat.ble nt p.1)&&
 oZ (G.filterMap λp=>cond p.2.own (lh ρ p.1) none)&&(G.all λp=>p.2.dt.all λi=>G.any λq=>Nat.beq q.1 i&&q.2.own)&&
 G.all λp=>match p.2 with
  |.cl _=>(rj p.1 ρ).isNone
  |.ptr m _=>(rj m ρ).isNone
  |.pv=>match lh ρ p.1 with
   |some j=>ws.all λq=>!Nat.beq q.1 j
   |none=>true
  |_=>true
def gN:GL->List TV->St
 |(k,g)::G,x::xs=>λj=>cond (Nat.beq j k) (x,g) (gN G xs j)
 |_,_=>λ_=>(.dead,.no)
def Cg:List Nat->St->St
 |[],S=>S
 |k::r,S=>match S k with|(x,.pw d)=>Cg r (cR (cR S k (x,.pv)) d (.dead,.zz))|_=>Cg r S
def Wt(G:GL)(ρ:List (Nat×Option Nat)):List Nat:=G.filterMap λp=>match p.2 with|.pv=>lh ρ p.1|_=>none
def xz(G:GL)(S:St):OT:=
 match vH nt S G (qW S G) G with
 |some (xs,ws)=>fV (Vk nt G (qW S G) ws) (some xs)
 |none=>none
def lf(G:GL)(S:St):OT:=xz nt G (Cg (Wt G (qW S G)) S)
abbrev G5(f:St->fQ R->Option R)(K:fQ R):fQ R:=λe S=>
 match e with
 |.normal=>f S K
 |e=>K e S
abbrev vW(f:St->fQ R->Option R)(G:GL)(K:fQ R):fQ R:=λe S=>
 match e with
 |.normal=>match lf nt G S with|some xs=>f (gN G xs) K|none=>none
 |e=>K e S
abbrev nT(id:Nat)(K:fQ R):fQ R:=λe S=>
 match e with
 |.exit j=>match Nat.beq j id with|true=>K .normal S|false=>K (.exit j) S
 |e=>K e S
def oW{ι:Type}(f:ι->fQ R->Option R)(tr:MX->St->Option (Option ι)):Nat->ι->fQ R->Option R
 |0,_,_=>none
 |n+1,i,K=>f i λe S=>
  match tr e S with
  |none=>K e S
  |some none=>none
  |some (some j)=>oW f tr n j K
open Classical in
def WA(g:Nat->Option R):Option R:=if h:∃n r,g n=some r then g h.choose else none
def HY{ι:Type}(f:ι->fQ R->Option R)(tr:MX->St->Option (Option ι))(i:ι)(K:fQ R):Option R:=WA λn=>oW f tr n i K
abbrev yu{ι:Type}(f:ι->fQ R->Option R)(tr:MX->St->Option (Option ι))(K:fQ R):fQ R:=λe S=>
 match tr e S with
 |none=>K e S
 |some none=>none
 |some (some j)=>HY f tr j K
def PD(G:GL):MX->St->Option (OT)
 |.normal,S=>some (lf nt G S)
 |_,_=>none
def RM(f:St->fQ R->Option R)(G:GL)(xs:List TV):fQ R->Option R:=f (gN G xs)
def F4(f:St->fQ R->Option R)(G:GL)(xs:List TV)(K:fQ R):Option R:=HY (RM f G) (PD nt G) xs K
abbrev xS(f:St->fQ R->Option R)(G:GL)(S:St)(K:fQ R):Option R:=
 match lf nt G S with
 |some xs=>F4 nt f G xs K
 |none=>none
abbrev yP(f:St->fQ R->Option R)(G:GL)(K:fQ R):fQ R:=yu (RM f G) (PD nt G) K
abbrev Ev(R:Type):=Hint->St->fQ R->Option R
def xT(l:Nat):List (Nat×GL)->Option GL
 |[]=>none
 |(k,G)::r=>cond (Nat.beq k l) (some G) (xT l r)
def GV(ls:List (Nat×GL)):MX->St->Option (Option (Nat×List TV))
 |.goto l,S=>some (match xT l ls with
  |some G=>(lf nt G S).map λxs=>(l,xs)
  |none=>none)
 |_,_=>none
def Il(f:Nat->Option (Ev R))(ls:List (Nat×GL))(a:Hint)(i:Nat×List TV)(K:fQ R):Option R:=
 match f i.1,xT i.1 ls with
 |some g,some G=>g a (gN G i.2) K
 |_,_=>none
def Ep(f:Nat->Option (Ev R))(ls:List (Nat×GL))(a:Hint)(i:Nat×List TV)(K:fQ R):Option R:=HY (Il f ls a) (GV nt ls) i K
abbrev mO(f:Nat->Option (Ev R))(ls:List (Nat×GL))(a:Hint)(K:fQ R):fQ R:=yu (Il f ls a) (GV nt ls) K
abbrev zd(R:Type):=Ev R×(Nat->Option (Ev R))
abbrev fR(f:Ev R):zd R:=(f,λ_=>none)
abbrev Jh(g b o:Ev R):Ev R:=λh S K=>match h with|.j G a c=>g a S (vW nt (o c) G K)|h=>g h.s1 S (G5 (b h.s2) K)
abbrev y5(fa fb:Nat->Option (Ev R))(b o:Ev R)(l:Nat):Option (Ev R):=match fa l with
 |some g=>some (Jh nt g b o)
 |none=>match fb l with
  |some g=>some λh=>g h.s2
  |none=>none
abbrev Jg(fa fb:zd R)(o:Ev R):zd R:=(Jh nt fa.1 fb.1 o,y5 nt fa.2 fb.2 fb.1 o)
open Classical in
def both(x y:Option R):Option R:=if x=y then x else none
abbrev Gy(x:Operand)(fa fb:zd R):zd R:=fR λh S K=>match gR E nt S 0 x with|some (.b t,.no)=>cond t (fa.1 h.s1 S K) (fb.1 h.s2 S K)|some (.ub e,.no)=>cond e (both (fa.1 h.s1 S K) (fb.1 h.s2 S K)) (fb.1 h.s2 S K)|_=>none
abbrev Ot(o:Ev R):zd R:=fR λh S K=>match h with|.l G a=>xS nt (o a) G S K|_=>none
abbrev AD(f:zd R)(o:Nat->Option (Ev R)):zd R:=fR λh S K=>match h with|.sc ls a=>f.1 a S (mO nt o ls a K)|_=>none
abbrev pG(l l':Nat):Option (Ev R):=cond (Nat.beq l l') (some λ_ S K=>K .normal S) none
abbrev EP(l:Nat):zd R:=(λ_ S K=>K .normal S,pG l)
def Iz(c:Code):zd R:=Code.rec (motive:=λ_=>zd R) (fR λ_ S K=>K .normal S) (λ_ ops draw=>fR λ_ S K=>AG P E nt ops draw S (K .normal)) (λ_ _ fa fb=>Jg nt fa fb fb.1) (λx _ _ fa fb=>Gy E nt x fa fb) (λid _ f=>fR λh S K=>f.1 h.s1 S (nT id K)) (λ_ f=>Ot nt f.1) (λ_ _ _ _ _ _=>fR λ_ _ _=>none) (λid=>fR λ_ S K=>K (.exit id) S) (λ_ f=>AD nt f f.2) EP (λl=>fR λ_ S K=>K (.goto l) S) (fR λ_ S K=>K .ret S) (λ_=>fR λ_ _ _=>none) c
def o8(c:Code):Ev R:=(Iz P E nt c).1
def wv(c:Code):Nat->Option (Ev R):=(Iz P E nt c).2
def KS(c:Code):zd R:=Code.rec (motive:=λ_=>zd R) (fR λ_ S K=>K .normal S) (λ_ ops draw=>fR λ_ S K=>AG P E nt ops draw S (K .normal)) (λ_ d fa fb=>Jg nt fa fb (o8 P E nt d)) (λx _ _ fa fb=>Gy E nt x fa fb) (λid _ f=>fR λh S K=>f.1 h.s1 S (nT id K)) (λd _=>Ot nt (o8 P E nt d)) (λ_ _ _ _ _ _=>fR λ_ _ _=>none) (λid=>fR λ_ S K=>K (.exit id) S) (λd f=>AD nt f (wv P E nt d)) EP (λl=>fR λ_ S K=>K (.goto l) S) (fR λ_ S K=>K .ret S) (λ_=>fR λ_ _ _=>none) c
def ev(c:Code):Ev R:=(KS P E nt c).1
def Kk (n:Nat) (ms:List Md) (wk:List TV):St:=fun k =>
 cond (Nat.blt k n) (match ms.getD k .pl with
  | .pl=>(wk.getD k .dead,.no)
  | .rf=>(.pt,.ptr (1000000+k) 0)
  | _=>(.pt,.fo (1000000+k)))
 (cond (Nat.ble 1000000 k&&Nat.blt k (1000000+n)) (match ms.getD (k - 1000000) .pl with
  | .pl=>(.dead,.no)
  | .rf=>(wk.getD (k - 1000000) .dead,.cl [])
  | _=>(wk.getD (k - 1000000) .dead,.pv)) (.dead,.no))
def yD(own:List Nat):Nat->List ResultVar->St->Option (List TV×St)
 |_,[],S=>some ([],S)
 |i,.tmp _::rs,S=>match yD own (i+1) rs S with|some (xs,S)=>some (.dead::xs,S)|none=>none
 |i,.cell a t::rs,S=>fV (Nat.blt a nt&&!own.contains i) (match S a,kF P t with
  |(.pt,.ptr m o),some (n,agg)=>fV (agg||Nat.beq n 1) (match S m with
   |(.ag cs,.cl ts)=>match pZ S o n ts cs with
    |some (cs,ws)=>match ph cs o n agg with
     |some x=>match yD own (i+1) rs (fU S ws)with|some (xs,S)=>some (Tx x::xs,S)|none=>none
     |none=>none
    |none=>none
   |_=>none)
  |_,_=>none)
def EA(own:List Nat):Nat->List ResultVar->GL
 |_,[]=>[]
 |i,.tmp t::rs=>cond (own.contains i) [(t,.fo (900000+i)),(900000+i,.pv)] [(t,.no)]++EA own (i+1) rs
 |i,.cell _ _::rs=>EA own (i+1) rs
def qF:Nat->List Md->GL
 |_,[]=>[]
 |k,.rf::ms=>(1000000+k,.cl [])::qF (k+1) ms
 |k,.sl::ms=>(1000000+k,.pv)::qF (k+1) ms
 |k,.sm::ms=>(1000000+k,.pv)::qF (k+1) ms
 |k,_::ms=>qF (k+1) ms
def uT(own:List Nat)(H:St):Nat->List ResultVar->List TV->List TV
 |i,.tmp t::rs,_::xs=>cond (own.contains i) (H (900000+i)).1 (H t).1::uT own H (i+1) rs xs
 |i,.cell _ _::rs,x::xs=>x::uT own H (i+1) rs xs
 |_,_,_=>[]
def uu(H:St):Nat->List Md->List TV
 |_,[]=>[]
 |k,.rf::ms=>(H (1000000+k)).1::uu H (k+1) ms
 |k,.sl::ms=>(H (1000000+k)).1::uu H (k+1) ms
 |k,_::ms=>uu H (k+1) ms
def rp(H:St):Nat->List Md->List TV
 |_,[]=>[]
 |k,.sm::ms=>(H (1000000+k)).1::rp H (k+1) ms
 |k,_::ms=>rp H (k+1) ms
def KZ(fn:Func)(sg:ib):GL:=EA sg.own 0 fn.results.toList++qF 0 sg.md
def Hl(fn:Func)(sg:ib):Option ((Nat×TypeId)×Nat):=
 match fn.results.toList,sg.own with
 |[.cell a t],[j]=>cond (Nat.blt j 1000) none (some ((a,t),j -1000))
 |_,_=>none
def H6(a m c:Nat)(sg:ib):GL:=(a,.ptr m 0)::(m,.cl [(c,900000)])::(900000,.pv)::qF 0 sg.md
def Up(a:Nat)(t:TypeId)(c:Nat)(sg:ib)(S:St):OT:=
 match S a,kF P t with
 |(.pt,.ptr m 0),some (n,true)=>match lf nt (H6 a m c sg) S with
  |some ys=>match gN (H6 a m c sg) ys m with|(.ag cs,_)=>fV (Nat.beq n cs.length&&Nat.blt a nt) (some (.ag (cs.set c (gN (H6 a m c sg) ys 900000).1)::(uu (gN (H6 a m c sg) ys) 0 sg.md++rp (gN (H6 a m c sg) ys) 0 sg.md)))|_=>none
  |none=>none
 |_,_=>none
def Fa(fn:Func)(sg:ib)(S:St):OT:=
 match Hl fn sg with
 |some ((a,t),c)=>Up P nt a t c sg S
 |none=>match yD P nt sg.own 0 fn.results.toList S with
  |some (xs,S)=>match lf nt (KZ fn sg) S with|some ys=>some (uT sg.own (gN (KZ fn sg) ys) 0 fn.results.toList xs++uu (gN (KZ fn sg) ys) 0 sg.md++rp (gN (KZ fn sg) ys) 0 sg.md)|none=>none
  |none=>none
def Rj(fn:Func)(sg:ib):fQ (List TV):=λe S=>
 match e with
 |.ret=>Fa P nt fn sg S
 |.normal=>Fa P nt fn sg S
 |_=>none
def Dd(fn:Func)(sg:ib):Bool:=Nat.blt fn.ntmps 900000&&Nat.ble fn.params.size fn.ntmps&&Nat.ble sg.md.length fn.params.size&&Nat.beq sg.jd fn.results.size&&Nat.blt fn.results.size 1000&&((Hl fn sg).isSome||sg.own.all λi=>Nat.blt i sg.jd)&&oZ sg.own&&!(fn.name== "runtime.NumGoroutine")
def nV:List Md->List TV->List TV
 |.sm::ms,x::xs=>x::nV ms xs
 |_::ms,_::xs=>nV ms xs
 |_,_=>[]
def cq(f:Nat)(sg:ib)(h:Hint)(ins:List TV):OT:=
 match P.funcs[f]? with
 |some fn=>match fn.body with|some c=>fV (Dd fn sg&&Nat.beq ins.length fn.params.size) (ev P E fn.ntmps c h (Kk fn.params.size sg.md ins) (Rj P fn.ntmps fn sg))|none=>none
 |none=>none
end
section
variable{R:Type}(P:Program)(E:cH)(nt:Nat)
theorem KT(c:Code):Iz (R:=R) P E nt c=KS P E nt c:=by
 induction c with
 |seq a b EX Bz=>show Jg nt (Iz P E nt a) (Iz P E nt b) (Iz P E nt b).1=Jg nt (KS P E nt a) (KS P E nt b) (o8 P E nt b);rw[<-EX,<-Bz];rfl
 |cond x a b EX Bz=>show Gy E nt x (Iz P E nt a) (Iz P E nt b)=Gy E nt x (KS P E nt a) (KS P E nt b);rw[EX,Bz]
 |block id a ih=>show(fR λh S K=>(Iz P E nt a).1 h.s1 S (nT id K))=(fR λh S K=>(KS P E nt a).1 h.s1 S (nT id K):zd R);rw[ih]
 |scope a ih=>show AD nt (Iz P E nt a) (Iz P E nt a).2=AD nt (KS P E nt a) (wv P E nt a);rw[<-ih];rfl
 |_=>rfl
theorem Gr(c:Code):o8 (R:=R) P E nt c=ev P E nt c:=by show(Iz P E nt c).1=(KS P E nt c).1;rw[KT]
end
section
variable{R:Type}{nt:Nat}
abbrev uw:=List (Option (MX×St))
def ze(l:uw)(K:MX×St->Option R)(r:R):Prop:=∀q∈l,∃p,q=some p/\K p=some r
def Mo(K:fQ R)(q:MX×St):Option R:=K q.1 q.2
def oo(g:fQ R->Option R):Prop:=∃l:uw,∀(K:fQ R)(r:R),g K=some r↔ze l (Mo K) r
theorem oo.nil{g:fQ R->Option R}(h:∀K,g K=none):oo g:=⟨[none],λK r=>by rw[h];exact⟨λh=>(by cases h),λh=>(by obtain⟨p,e,_⟩:=h none (List.mem_singleton.2 rfl);cases e)⟩⟩
theorem oo.one{g:fQ R->Option R}(e:MX)(S:St)(h:∀K,g K=K e S):oo g:=⟨[some (e,S)],λK r=>by rw[h];exact⟨λh q hq=>⟨_,List.mem_singleton.1 hq,h⟩,λh=>by obtain⟨p,e,h⟩:=h _ (List.mem_singleton.2 rfl);cases e;exact h⟩⟩
theorem vB{x y:Option R}{r:R}:both x y=some r↔x=some r/\y=some r:=by unfold both;split;{rename_i e;rw[<-e];simp};{rename_i e;simp only[reduceCtorEq,false_iff];rintro⟨rfl,rfl⟩;exact e rfl}
theorem Ik(x:Option R):both x x=x:=by simp[both]
theorem oo.bind{l:uw}{g:fQ R->Option R}{F:fQ R->MX×St->Option R}(hF:∀q,oo λK=>F K q)(h:∀K r,g K=some r↔ze l (F K) r):oo g:=by
 have key:∀l:uw,∃l':uw,∀K r,ze l (F K) r↔ze l' (Mo K) r:=by
  intro l;induction l with
  |nil=>exact⟨[],λK r=>by simp[ze]⟩
  |cons q t ih=>
   obtain⟨lt,ht⟩:=ih;cases q with
   |none=>exact⟨[none],λK r=>⟨λh=>(by obtain⟨p,e,_⟩:=h none (List.mem_cons_self ..);cases e),λh=>(by obtain⟨p,e,_⟩:=h none (List.mem_singleton.2 rfl);cases e)⟩⟩
   |some q=>obtain⟨lq,hq⟩:=hF q;refine⟨lq++lt,λK r=>?_⟩;have h1:=hq K r;have h2:=ht K r;constructor;{intro ha x hx;rcases List.mem_append.1 hx with hx|hx;{obtain⟨p,e,hp⟩:=ha _ (List.mem_cons_self ..);cases e;exact h1.1 hp x hx};{exact h2.1 (λy hy=>ha y (List.mem_cons_of_mem _ hy)) x hx}};{intro ha x hx;rcases aP.1 hx with rfl|hx;{exact⟨q,rfl,h1.2 λy hy=>ha y (List.mem_append_left _ hy)⟩};{exact h2.2 (λy hy=>ha y (List.mem_append_right _ hy)) x hx}}
 obtain⟨l',hl⟩:=key l;exact⟨l',λK r=>(h K r).trans (hl K r)⟩
def As(f:St->fQ R->Option R):Prop:=∀S,oo (f S)
theorem xV{g:Nat->Option R}(hm:∀n r,g n=some r->g (n+1)=some r){r:R}:WA g=some r↔∃n,g n=some r:=by
 have up:∀n k r,g n=some r->g (n+k)=some r:=by
  intro n k;induction k with
  |zero=>exact λr h=>h
  |succ k ih=>exact λr h=>hm _ _ (ih r h)
 unfold WA;constructor;{intro h;split at h;{rename_i hx;exact⟨_,h⟩};{cases h}};{rintro⟨n,hn⟩;have hx:∃n r,g n=some r:=⟨n,r,hn⟩;rw[dif_pos hx];obtain⟨r',Iu⟩:=hx.choose_spec;rw[Iu];have h1:=up _ n _ Iu;have h2:=up _ hx.choose _ hn;rw[Nat.add_comm]at h2;rw[h1]at h2;exact h2}
section
variable{ι:Type}{f:ι->fQ R->Option R}{tr:MX->St->Option (Option ι)}
def tM(tr:MX->St->Option (Option ι))(g:ι->Option R)(K:fQ R)(q:MX×St):Option R:=
 match tr q.1 q.2 with
 |none=>K q.1 q.2
 |some none=>none
 |some (some j)=>g j
theorem sO{g g':ι->Option R}{K:fQ R}{q:MX×St}{r:R}(h:∀j,g j=some r->g' j=some r)(e:tM tr g K q=some r):tM tr g' K q=some r:=by unfold tM at e⊢;split at e;{exact e};{cases e};{exact h _ e}
theorem wQ{K:fQ R}{i:ι}{l:uw}(hp:∀(K:fQ R)r,f i K=some r↔ze l (Mo K) r)(n:Nat)(r:R):oW f tr (n+1) i K=some r↔ze l (tM tr (λj=>oW f tr n j K) K) r:=by rw[oW,hp];rfl
theorem pX(hf:∀i,oo (f i)){K:fQ R}:∀(n:Nat)(i:ι)(r:R),oW f tr n i K=some r->oW f tr (n+1) i K=some r
 |0,_,_,h=>by cases h
 |n+1,i,r,h=>by obtain⟨l,hp⟩:=hf i;rw[wQ hp]at h⊢;intro q hq;obtain⟨p,e,h1⟩:=h q hq;exact⟨p,e,sO (λj hj=>pX hf n j r hj) h1⟩
theorem wP(hf:∀i,oo (f i)){K:fQ R}{n:Nat}{i:ι}{r:R}(h:oW f tr n i K=some r):∀m,oW f tr (n+m) i K=some r
 |0=>h
 |m+1=>pX hf _ i r (wP hf h m)
theorem oz(hf:∀i,oo (f i))(i:ι)(K:fQ R)(r:R):HY f tr i K=some r↔∃n,oW f tr n i K=some r:=xV λn r=>pX hf n i r
theorem MU{x y:Option R}(h:∀r,x=some r↔y=some r):x=y:=by
 cases x with
 |none=>cases y with|none=>rfl|some b=>exact absurd ((h b).2 rfl) (by simp)
 |some a=>exact((h a).1 rfl).symm
theorem zU(hf:∀i,oo (f i)){K:fQ R}{q:MX×St}{r:R}:Mo (yu f tr K) q=some r↔∃n,tM tr (λj=>oW f tr n j K) K q=some r:=by
 unfold Mo yu tM;cases tr q.1 q.2 with
 |none=>exact⟨λh=>⟨0,h⟩,λ⟨_,h⟩=>h⟩
 |some j=>cases j with
  |none=>exact⟨λh=>(by cases h),λ⟨_,h⟩=>(by cases h)⟩
  |some j=>exact oz hf j K r
theorem Gn(hf:∀i,oo (f i))(i:ι)(K:fQ R):HY f tr i K=f i (yu f tr K):=by
 obtain⟨l,hp⟩:=hf i;refine MU λr=>?_;rw[oz hf,hp];constructor
 ·rintro⟨n,hn⟩ q hq;cases n with
  |zero=>cases hn
  |succ n=>obtain⟨p,e,h1⟩:=(wQ hp n r).1 hn q hq;exact⟨p,e,(zU hf).2 ⟨n,h1⟩⟩
 ·intro h;have key:∀l:uw,(∀q∈l,∃p,q=some p/\Mo (yu f tr K) p=some r)->∃n,ze l (tM tr (λj=>oW f tr n j K) K) r:=by
   intro l;induction l with
   |nil=>exact λ_=>⟨0,λq hq=>by cases hq⟩
   |cons q t ih=>intro h;obtain⟨n,hn⟩:=ih λx hx=>h x (List.mem_cons_of_mem _ hx);obtain⟨p,e,h1⟩:=h q (List.mem_cons_self ..);obtain⟨m,hm⟩:=(zU hf).1 h1;refine⟨n+m,λx hx=>?_⟩;rcases aP.1 hx with rfl|hx;{exact⟨p,e,sO (λj hj=>by rw[Nat.add_comm];exact wP hf hj n) hm⟩};{obtain⟨p',e',h2⟩:=hn x hx;exact⟨p',e',sO (λj hj=>wP hf hj m) h2⟩}
  obtain⟨n,hn⟩:=key l h;exact⟨n+1,(wQ hp n r).2 hn⟩
def nF(L:ι->uw)(tr:MX->St->Option (Option ι)):Nat->ι->uw
 |0,_=>[none]
 |n+1,i=>(L i).flatMap λq=>match q with|none=>[none]|some p=>match tr p.1 p.2 with|none=>[some p]|some none=>[none]|some (some j)=>nF L tr n j
theorem C6(hf:∀i,oo (f i))(i:ι):oo (HY f tr i):=by
 let L:=λi=>(hf i).choose;have hL:∀i(K:fQ R)r,f i K=some r↔ze (L i) (Mo K) r:=λi=>(hf i).choose_spec;have hI:∀n i(K:fQ R)r,oW f tr n i K=some r↔ze (nF L tr n i) (Mo K) r:=by
  intro n;induction n with
  |zero=>exact λi K r=>⟨λh=>(by cases h),λh=>by obtain⟨p,e,_⟩:=h none (List.mem_singleton.2 rfl);cases e⟩
  |succ n ih=>
   intro i K r;rw[wQ (hL i)];constructor
   ·intro h q hq;obtain⟨x,hx,hq⟩:=List.mem_flatMap.1 hq;obtain⟨p,rfl,h1⟩:=h x hx;simp only at hq;unfold tM at h1;cases e:tr p.1 p.2 with
    |none=>rw[e]at h1 hq;exact⟨p,List.mem_singleton.1 hq,h1⟩
    |some j=>cases j with
     |none=>rw[e]at h1;cases h1
     |some j=>rw[e]at h1 hq;exact(ih j K r).1 h1 q hq
   ·intro h x hx;have sub:∀q,q∈(match x with
      |none=>[none]
      |some p=>match tr p.1 p.2 with
       |none=>[some p]
       |some none=>[none]
       |some (some j)=>nF L tr n j:uw)->∃p,q=some p/\Mo K p=some r:=λq hq=>h q (List.mem_flatMap.2 ⟨x,hx,hq⟩)
    cases x with
    |none=>obtain⟨p,e,_⟩:=sub none (List.mem_singleton.2 rfl);cases e
    |some p=>
     refine⟨p,rfl,?_⟩;simp only at sub;unfold tM;cases e:tr p.1 p.2 with
     |none=>rw[e]at sub;obtain⟨p',e',h1⟩:=sub _ (List.mem_singleton.2 rfl);cases e';exact h1
     |some j=>cases j with
      |none=>rw[e]at sub;obtain⟨p',e',_⟩:=sub _ (List.mem_singleton.2 rfl);cases e'
      |some j=>rw[e]at sub;exact(ih j K r).2 sub
 have stay:∀n i,none∉nF L tr n i->nF L tr (n+1) i=nF L tr n i:=by
  intro n;induction n with
  |zero=>intro i h;exact absurd (List.mem_singleton.2 rfl) h
  |succ n ih=>
   intro i h;rw[nF,nF];rw[nF]at h;have:∀l:uw,none∉(l.flatMap λq=>match q with
     |none=>[none]
     |some p=>match tr p.1 p.2 with|none=>[some p]|some none=>[none]|some (some j)=>nF L tr n j:uw)->(l.flatMap λq=>match q with
     |none=>[none]
     |some p=>match tr p.1 p.2 with|none=>[some p]|some none=>[none]|some (some j)=>nF L tr (n+1) j:uw)=(l.flatMap λq=>match q with
     |none=>[none]
     |some p=>match tr p.1 p.2 with
      |none=>[some p]
      |some none=>[none]
      |some (some j)=>nF L tr n j:uw):=by
    intro l
    induction l with
    |nil=>exact λ_=>rfl
    |cons q t iht=>intro h;rw[List.flatMap_cons,List.mem_append]at h;rw[List.flatMap_cons,List.flatMap_cons,iht λhx=>h (.inr hx)];congr 1;split;{rfl};{rename_i p;simp only at h;split;{rfl};{rfl};{rename_i j e;rw[e]at h;exact ih j λhx=>h (.inl hx)}}
   exact this _ h
 by_cases hx:∃n,none∉nF L tr n i
 ·obtain⟨n,hn⟩:=hx;have ups:∀m,nF L tr (n+m) i=nF L tr n i:=by
   intro m;induction m with
   |zero=>rfl
   |succ m ih=>rw[<-ih];exact stay (n+m) i (by rw[ih];exact hn)
  refine⟨nF L tr n i,λK r=>?_⟩;rw[oz hf,<-hI];refine⟨λ⟨m,hm⟩=>?_,λh=>⟨n,h⟩⟩;have h1:=wP hf hm n;rw[Nat.add_comm,hI,ups,<-hI]at h1;exact h1
 {refine⟨[none],λK r=>?_⟩;rw[oz hf];refine⟨λ⟨n,hn⟩=>?_,λh=>by obtain⟨p,e,_⟩:=h none (List.mem_singleton.2 rfl);cases e⟩;have:none∈nF L tr n i:=Classical.byContradiction λh=>hx ⟨n,h⟩;obtain⟨p,e,_⟩:=(hI n i K r).1 hn none this;cases e}
end
theorem wW{f:St->fQ R->Option R}(hf:As f)(G:GL):∀xs,oo (RM f G xs):=λxs=>hf (gN G xs)
theorem JT{f:St->fQ R->Option R}(hf:As f)(G:GL)(xs:List TV)(K:fQ R):F4 nt f G xs K=f (gN G xs) (yP nt f G K):=Gn (wW hf G) xs K
theorem HA{f:St->fQ R->Option R}(hf:As f)(G:GL):As (xS nt f G):=λS=>by
 unfold xS;cases lf nt G S with
 |none=>exact .nil λK=>rfl
 |some xs=>exact C6 (wW hf G) xs
theorem wV{f:Nat->Option (Ev R)}(hf:∀l g,f l=some g->∀h,As (g h))(ls:List (Nat×GL))(a:Hint)(i:Nat×List TV):oo (Il f ls a i):=by
 cases e1:f i.1 with
 |none=>exact .nil λK=>by simp only[Il,e1]
 |some g=>
  cases e2:xT i.1 ls with
  |none=>exact .nil λK=>by simp only[Il,e1,e2]
  |some G=>obtain⟨p,hp⟩:=hf _ g e1 a (gN G i.2);exact⟨p,λK r=>by simp only[Il,e1,e2];exact hp K r⟩
theorem G6{f:Nat->Option (Ev R)}(hf:∀l g,f l=some g->∀h,As (g h))(ls:List (Nat×GL))(a:Hint)(i:Nat×List TV)(K:fQ R):Ep nt f ls a i K=Il f ls a i (mO nt f ls a K):=Gn (wV hf ls a) i K
theorem oo.then{g g':fQ R->Option R}(hf:oo g)(F:fQ R->fQ R)(h:∀K,g' K=g (F K))(hF:∀e S,oo λK=>F K e S):oo g':=by obtain⟨l,hl⟩:=hf;exact oo.bind (F:=λK q=>F K q.1 q.2) (λq=>hF q.1 q.2) λK r=>by rw[h];exact hl (F K) r
theorem Er {f:Ev R} {o:Nat→Option (Ev R)} (hf:∀h,As (f h)) (ho:∀l g,o l=some g→∀h,As (g h)) (ls:List (Nat × GL)) (a:Hint):As fun S K=>f a S (mO nt o ls a K):=fun S =>
 (hf a S).then _ (fun K=>rfl) fun e S'=>by
  cases ht:GV nt ls e S' with
  | none=>exact .one e S' fun K=>by simp only [mO,yu,ht]
  | some j =>
   cases j with
   | none=>exact .nil fun K=>by simp only [mO,yu,ht]
   | some j =>
    obtain ⟨p',Qz⟩:=C6 (wV ho ls a) (tr:=GV nt ls) j
    exact ⟨p',fun K r=>by simp only [mO,yu,ht];exact Qz K r⟩
theorem B6 {f g:St→fQ R→Option R} (hf:As f) (hg:As g):As fun S K=>f S (G5 g K):=fun S =>
 (hf S).then _ (fun K=>rfl) fun e S'=>by
  cases e with
  | normal=>exact hg S'
  | _=>exact .one _ S' fun K=>rfl
theorem zP {f g:St→fQ R→Option R} (hf:As f) (hg:As g) (G:GL):As fun S K=>f S (vW nt g G K):=fun S =>
 (hf S).then _ (fun K=>rfl) fun e S'=>by
  cases e with
  | normal =>
   cases hr:lf nt G S' with
   | none=>exact .nil fun K=>by simp only [vW,hr]
   | some xs =>
    obtain ⟨p,hp⟩:=hg (gN G xs)
    exact ⟨p,fun K r=>by simp only [vW,hr];exact hp K r⟩
  | _=>exact .one _ S' fun K=>rfl
theorem Fo {f:St→fQ R→Option R} (hf:As f) (id:Nat):As fun S K=>f S (nT id K):=fun S =>
 (hf S).then _ (fun K=>rfl) fun e S'=>by
  cases e with
  | exit j =>
   cases hb:Nat.beq j id with
   | true=>exact .one .normal S' fun K=>by simp only [nT,hb]
   | false=>exact .one (.exit j) S' fun K=>by simp only [nT,hb]
  | _=>exact .one _ S' fun K=>rfl
variable(P:Program)(E:cH)
theorem GC{X:Type}{p:Option Bool}{f:(X->Option R)->Option R}(h:∃q:Option X,∀K,f K=q.bind K):∃q:Option X,∀K,NM p (f K)=q.bind K:=by
 obtain⟨q,hq⟩:=h;cases p with
 |none=>exact⟨q,hq⟩
 |some b=>cases b with|true=>exact⟨q,hq⟩|false=>exact⟨none,λK=>rfl⟩
theorem Ca(ops:Array Oper):∀(os:List Oper)(S:St),∃p:Option St,∀K:St->Option R,G9 P E nt ops os S K=p.bind K
 |[],S=>⟨some S,λK=>rfl⟩
 |o::os,S=>by
  show∃p:Option St,∀K:St->Option R,(match pL P E nt ops o S with|some e=>NM e.p (G9 P E nt ops os (jJ S o.dst e) K)|none=>none)=p.bind K;cases pL P E nt ops o S with
  |none=>exact⟨none,λK=>rfl⟩
  |some e=>exact GC (Ca ops os _)
theorem Cb(ops:Array Oper)(W B:List (List Nat)):∀(os:List Oper)(i:Nat)(S:St),∃p:Option St,∀K:St->Option R,Hb P E nt ops W B i os S K=p.bind K
 |[],_,S=>⟨some S,λK=>rfl⟩
 |o::os,i,S=>by
  show∃p:Option St,∀K:St->Option R,(match pL P E nt ops o (sA (uZ W B i) S)with|some e=>fV (decide (mD o.dst e=W.getD i [])&&(uZ W B i).all λk=>!((W.getD i []).contains k)) (NM e.p (Hb P E nt ops W B (i+1) os (jJ S o.dst e) K))|none=>none)=p.bind K;cases pL P E nt ops o (sA (uZ W B i) S)with
  |none=>exact⟨none,λK=>rfl⟩
  |some e=>
   simp only;generalize(decide (mD o.dst e=W.getD i [])&&(uZ W B i).all λk=>!((W.getD i []).contains k))=b;cases b with
   |false=>exact⟨none,λK=>rfl⟩
   |true=>exact GC (Cb ops W B os (i+1) _)
theorem B9(ops:Array Oper)(draw:Bool)(S:St):∃p:Option St,∀K:St->Option R,AG P E nt ops draw S K=p.bind K:=by
 cases draw with
 |false=>exact Ca P E ops _ S
 |true=>
  simp only[AG];cases wR ops.toList with
  |false=>exact⟨none,λK=>rfl⟩
  |true=>
   cases Ka P E nt ops ops.toList S with
   |none=>exact⟨none,λK=>rfl⟩
   |some W=>exact Cb P E ops W _ _ 0 S
theorem r8(c:Code):(∀h,As (o8 (R:=R) P E nt c h))/\∀l g,wv (R:=R) P E nt c l=some g->∀h,As (g h):=by
 have wG:∀{f:Ev R},∀l g,(fR f).2 l=some g->∀h,As (g h):=λl g e=>by{cases e};induction c with
 |skip=>exact⟨λh S=>.one .normal S λK=>rfl,wG⟩
 |label l=>
  refine⟨λh S=>.one .normal S λK=>rfl,λl' g e=>?_⟩;have e:pG l l'=some g:=e;unfold pG at e;cases hb:Nat.beq l l' with
  |true=>rw[hb]at e;cases e;exact λh S=>.one .normal S λK=>rfl
  |false=>rw[hb]at e;cases e
 |exit id=>exact⟨λh S=>.one (.exit id) S λK=>rfl,wG⟩
 |goto l=>exact⟨λh S=>.one (.goto l) S λK=>rfl,wG⟩
 |ret=>exact⟨λh S=>.one .ret S λK=>rfl,wG⟩
 |region id ops draw=>
  refine⟨λh S=>?_,wG⟩;obtain⟨p,hp⟩:=B9 (R:=R) P E (nt:=nt) ops draw S;cases p with
  |none=>exact .nil λK=>hp _
  |some S'=>exact .one .normal S' λK=>hp _
 |seq a b EX Bz=>refine⟨λh=>?_,λl g e=>?_⟩;{cases h<;>first|exact B6 (EX.1 _) (Bz.1 _)|exact zP (EX.1 _) (Bz.1 _) _};{have e:y5 nt (wv P E nt a) (wv P E nt b) (o8 P E nt b) (o8 P E nt b) l=some g:=e;unfold y5 at e;split at e;{rename_i ga ea;cases e;intro h;cases h<;>first|exact B6 (EX.2 l ga ea _) (Bz.1 _)|exact zP (EX.2 l ga ea _) (Bz.1 _) _};{split at e;{rename_i gb eb;cases e;exact λh=>Bz.2 l gb eb _};{cases e}}}
 |cond x a b EX Bz=>
  refine⟨λh S=>?_,wG⟩;obtain⟨p,hp⟩:=EX.1 h.s1 S;obtain⟨p',Qz⟩:=Bz.1 h.s2 S;have two:oo (R:=R) λK=>both (o8 P E nt a h.s1 S K) (o8 P E nt b h.s2 S K):=by{refine⟨p++p',λK r=>?_⟩;rw[vB,hp,Qz];refine⟨λ⟨h1,h2⟩q hq=>(List.mem_append.1 hq).elim (h1 q) (h2 q),λh=>⟨λq hq=>h q (List.mem_append_left _ hq),λq hq=>h q (List.mem_append_right _ hq)⟩⟩};show oo λK:fQ R=>(match gR E nt S 0 x with|some (.b t,.no)=>cond t (o8 P E nt a h.s1 S K) (o8 P E nt b h.s2 S K)|some (.ub e,.no)=>cond e (both (o8 P E nt a h.s1 S K) (o8 P E nt b h.s2 S K)) (o8 P E nt b h.s2 S K)|_=>none);split
  ·rename_i t _;cases t with
   |true=>exact⟨p,hp⟩
   |false=>exact⟨p',Qz⟩
  ·rename_i t _;cases t with
   |true=>exact two
   |false=>exact⟨p',Qz⟩
  {exact .nil λK=>rfl}
 |block id a ih=>exact⟨λh=>Fo (ih.1 _) id,wG⟩
 |loop a ih=>refine⟨λh=>?_,wG⟩;cases h<;>first|exact HA (ih.1 _) _|exact λS=>.nil λK=>rfl
 |rangeFunc _ _ _ _ _ _=>exact⟨λh S=>.nil λK=>rfl,wG⟩
 |scope a ih=>refine⟨λh=>?_,wG⟩;cases h<;>first|exact Er ih.1 ih.2 _ _|exact λS=>.nil λK=>rfl
 |refuse _=>exact⟨λh S=>.nil λK=>rfl,wG⟩
theorem NF(c:Code)(h:Hint)(G:GL)(xs:List TV)(K:fQ R):F4 nt (o8 P E nt c h) G xs K=ev P E nt c h (gN G xs) (yP nt (o8 P E nt c h) G K):=by rw[JT ((r8 P E c).1 h),Gr]
theorem KR(c:Code)(ls:List (Nat×GL))(a:Hint)(i:Nat×List TV)(K:fQ R):Ep nt (wv P E nt c) ls a i K=Il (KS P E nt c).2 ls a i (mO nt (wv P E nt c) ls a K):=by rw[G6 (r8 P E c).2,<-KT];rfl
end
def bits:Nat->Nat->List Bool
 |0,_=>[]
 |f+1,n=>cond (Nat.ble n 1) [] (Nat.beq (n%2) 1::bits f (n/2))
section
variable{R:Type}(P:Program)(E:cH)(nt:Nat)
def walk:List Bool->Code->Hint->fQ R->Code×Hint×fQ R
 |[],c,h,K=>(c,h,K)
 |false::p,.seq a b,.j G h1 h2,K=>walk p a h1 (vW nt (o8 P E nt b h2) G K)
 |true::p,.seq _ b,.j _ _ h2,K=>walk p b h2 K
 |false::p,.seq a b,h,K=>walk p a h.s1 (G5 (ev P E nt b h.s2) K)
 |true::p,.seq _ b,h,K=>walk p b h.s2 K
 |false::p,.cond _ a _,h,K=>walk p a h.s1 K
 |true::p,.cond _ _ b,h,K=>walk p b h.s2 K
 |_::p,.block id a,h,K=>walk p a h.s1 (nT id K)
 |_::p,.loop a,.l G h,K=>walk p a h (yP nt (o8 P E nt a h) G K)
 |_::p,.scope a,.sc ls h,K=>walk p a h (mO nt (wv P E nt a) ls h K)
 |_::_,_,_,_=>(.skip,.o,λ_ _=>none)
end
def Oo(P:Program)(E:cH)(f:Nat)(sg:ib)(h:Hint)(p:Nat):Nat×Code×Hint×fQ (List TV):=
 match P.funcs[f]? with
 |some fn=>match fn.body with|some c=>(fn.ntmps,walk P E fn.ntmps (bits 500 p) c h (Rj P fn.ntmps fn sg))|none=>(0,.skip,.o,λ_ _=>none)
 |none=>(0,.skip,.o,λ_ _=>none)
def di(P:Program)(E:cH)(f:Nat)(sg:ib)(h:Hint)(p:Nat)(xs:List TV):OT:=
 match Oo P E f sg h p with
 |(nt,.seq _ b,.j G _ h2,K)=>o8 P E nt b h2 (gN G xs) K
 |_=>none
def cM(P:Program)(E:cH)(f:Nat)(sg:ib)(h:Hint)(p:Nat)(xs:List TV):OT:=
 match Oo P E f sg h p with
 |(nt,.loop a,.l G h1,K)=>F4 nt (o8 P E nt a h1) G xs K
 |_=>none
def AX(P:Program)(E:cH)(f:Nat)(sg:ib)(h:Hint)(p l:Nat)(xs:List TV):OT:=
 match Oo P E f sg h p with
 |(nt,.scope a,.sc ls h1,K)=>Ep nt (wv P E nt a) ls h1 (l,xs) K
 |_=>none
theorem nE(P:Program)(E:cH)(f:Nat)(sg:ib)(h:Hint)(p:Nat)(xs:List TV):di P E f sg h p xs=match Oo P E f sg h p with
  |(nt,.seq _ b,.j G _ h2,K)=>ev P E nt b h2 (gN G xs) K
  |_=>none:=by
 unfold di
 split
 {rw[Gr]}
 {rfl}
theorem tP(P:Program)(E:cH)(f:Nat)(sg:ib)(h:Hint)(p:Nat)(xs:List TV):cM P E f sg h p xs=match Oo P E f sg h p with
  |(nt,.loop a,.l G h1,K)=>ev P E nt a h1 (gN G xs) (yP nt (o8 P E nt a h1) G K)
  |_=>none:=by
 unfold cM
 split
 {rw[NF]}
 {rfl}
theorem zO(P:Program)(E:cH)(f:Nat)(sg:ib)(h:Hint)(p l:Nat)(xs:List TV):AX P E f sg h p l xs=match Oo P E f sg h p with
  |(nt,.scope a,.sc ls h1,K)=>Il (KS P E nt a).2 ls h1 (l,xs) (mO nt (wv P E nt a) ls h1 K)
  |_=>none:=by
 unfold AX
 split
 {rw[KR]}
 {rfl}
theorem ly{P:Program}{E:cH}{f:Nat}{sg:ib}{h:Hint}{p:Nat}{xs:List TV}{x y:OT}(a:(match Oo P E f sg h p with
  |(nt,.seq _ b,.j G _ h2,K)=>ev P E nt b h2 (gN G xs) K
  |_=>none)=x)(b:x=y):di P E f sg h p xs=y:=(nE P E f sg h p xs).trans (a.trans b)
theorem je{P:Program}{E:cH}{f:Nat}{sg:ib}{h:Hint}{p:Nat}{xs:List TV}{x y:OT}(a:(match Oo P E f sg h p with
  |(nt,.loop a,.l G h1,K)=>ev P E nt a h1 (gN G xs) (yP nt (o8 P E nt a h1) G K)
  |_=>none)=x)(b:x=y):cM P E f sg h p xs=y:=(tP P E f sg h p xs).trans (a.trans b)
theorem lP{wy:Type}{e1:wy}{P:wy->Prop}(K:∀v1,v1=e1->P v1):P e1:=K _ rfl
theorem mg{wy BE:Type}{e1:wy}{e2:wy->BE}{P:wy->BE->Prop}(K:∀v1,v1=e1->∀v2,v2=e2 v1->P v1 v2):P e1 (e2 e1):=K _ rfl _ rfl
theorem pn{wy BE IB:Type}{e1:wy}{e2:wy->BE}{e3:wy->BE->IB}{P:wy->BE->IB->Prop}(K:∀v1,v1=e1->∀v2,v2=e2 v1->∀v3,v3=e3 v1 v2->P v1 v2 v3):P e1 (e2 e1) (e3 e1 (e2 e1)):=K _ rfl _ rfl _ rfl
theorem qz{wy BE IB R4:Type}{e1:wy}{e2:wy->BE}{e3:wy->BE->IB}{e4:wy->BE->IB->R4}{P:wy->BE->IB->R4->Prop}(K:∀v1,v1=e1->∀v2,v2=e2 v1->∀v3,v3=e3 v1 v2->∀v4,v4=e4 v1 v2 v3->P v1 v2 v3 v4):P e1 (e2 e1) (e3 e1 (e2 e1)) (e4 e1 (e2 e1) (e3 e1 (e2 e1))):=K _ rfl _ rfl _ rfl _ rfl
theorem gQ{wy BE IB R4 YU:Type}{e1:wy}{e2:wy->BE}{e3:wy->BE->IB}{e4:wy->BE->IB->R4}{e5:wy->BE->IB->R4->YU}{P:wy->BE->IB->R4->YU->Prop}(K:∀v1,v1=e1->∀v2,v2=e2 v1->∀v3,v3=e3 v1 v2->∀v4,v4=e4 v1 v2 v3->∀v5,v5=e5 v1 v2 v3 v4->P v1 v2 v3 v4 v5):P e1 (e2 e1) (e3 e1 (e2 e1)) (e4 e1 (e2 e1) (e3 e1 (e2 e1))) (e5 e1 (e2 e1) (e3 e1 (e2 e1)) (e4 e1 (e2 e1) (e3 e1 (e2 e1)))):=K _ rfl _ rfl _ rfl _ rfl _ rfl
open Go.RowKit
def TV.val:TV->Option Value
 |.u8 n=>some (.int .u8 n.toNat)
 |.u16 n=>some (.int .u16 n.toNat)
 |.u32 n=>some (.int .u32 n.toNat)
 |.u64 n=>some (.int .u64 n.toNat)
 |.i k n=>some (.int k n)
 |.b x=>some (.bool x)
 |.s l=>some (.string ⟨⟨l⟩⟩)
 |.c v=>some v
 |_=>none
abbrev Reach:=Nat->Nat->Prop
mutual
inductive Rep (R:Reach) (w:World):TV->Value->Prop
 |sc {x:TV} {v:Value}:x.val=some v->Rep R w x v
 |ag {cs:List TV} {ys:List Value}:dJ R w cs ys->Rep R w (.ag cs) (.agg ⟨ys⟩)
 |tu {vs:List TV} {ys:List Value}:jf R w vs ys->Rep R w (.tu vs) (.tuple ⟨ys⟩)
 |nl (t:fF):Rep R w (.nl t) (.slice none 0 0)
 |ub {e b:Bool}:(b=true->e=true)->Rep R w (.ub e) (.bool b)
 |sn (t:fF):Rep R w (.sl t []) (.slice none 0 0)
 |sl {t:fF} {l:List t.El} {b off n cap:Nat}:n=l.length->n<=cap->cap<=maxLen->lX R w t.size (l.map t.tv) b off->Rep R w (.sl t l) (.slice (some ⟨b,off,none⟩) n cap)
 |em {a:Addr} {cap:Nat} (t:fF):cap<=maxLen->Rep R w (.sl t []) (.slice (some a) 0 cap)
 |ro {x:TV} {b off s:Nat}:od R w s x b off->Rep R w (.ro x) (.pointer (some ⟨b,off,none⟩))
 |pt (y:Value):Rep R w .pt y
 |dead (y:Value):Rep R w .dead y
 |Sq {x:TV} {y:Value}:Rep R w x y->Rep R w (.gd true x) y
 |Un (x:TV):Rep R w (.gd false x) undef
inductive dJ (R:Reach) (w:World):List TV->List Value->Prop
 |nil:dJ R w [] []
 |cons {x:TV} {y:Value} {xs:List TV} {ys:List Value}:y.oneCell'=true->Rep R w x y->dJ R w xs ys->dJ R w (x::xs) (y::ys)
inductive jf (R:Reach) (w:World):List TV->List Value->Prop
 |nil:jf R w [] []
 |cons {x:TV} {y:Value} {xs:List TV} {ys:List Value}:Rep R w x y->jf R w xs ys->jf R w (x::xs) (y::ys)
inductive om (R:Reach) (w:World):List TV->Nat->Nat->Prop
 |nil (b off:Nat):om R w [] b off
 |cons {x:TV} {y:Value} {xs:List TV} {b off:Nat}:R b off->w.cell? ⟨b,off,none⟩=some y->y.oneCell'=true->Rep R w x y->om R w xs b (off+1)->om R w (x::xs) b off
inductive od (R:Reach) (w:World):Nat->TV->Nat->Nat->Prop
 |ag {cs:List TV} {b off s:Nat}:s=cs.length->om R w cs b off->od R w s (.ag cs) b off
 |one {x:TV} {y:Value} {b off:Nat}:x.wq=false->R b off->w.cell? ⟨b,off,none⟩=some y->y.oneCell'=true->Rep R w x y->od R w 1 x b off
inductive lX (R:Reach) (w:World):Nat->List TV->Nat->Nat->Prop
 |nil (s b off:Nat):lX R w s [] b off
 |cons {s:Nat} {x:TV} {xs:List TV} {b off:Nat}:od R w s x b off->lX R w s xs b (off+s)->lX R w s (x::xs) b off
end
def eZ(R:Reach)(w:World)(R':Reach)(w':World):Prop:=∀b o,R b o->R' b o/\w'.cell? ⟨b,o,none⟩=w.cell? ⟨b,o,none⟩
theorem eZ.refl(R:Reach)(w:World):eZ R w R w:=λ_ _ h=>⟨h,rfl⟩
theorem eZ.trans{R R' U4:Reach}{w w' YY:World}(h:eZ R w R' w')(k:eZ R' w' U4 YY):eZ R w U4 YY:=λb o hr=>⟨(k b o (h b o hr).1).1,(k b o (h b o hr).1).2.trans (h b o hr).2⟩
section
variable{R R':Reach}{w w':World}
mutual
theorem Rep.mono(k:eZ R w R' w'):∀{x:TV}{y:Value},Rep R w x y->Rep R' w' x y
 |_,_,.sc h=>.sc h
 |_,_,.ag h=>.ag (dJ.mono k h)
 |_,_,.tu h=>.tu (jf.mono k h)
 |_,_,.nl t=>.nl t
 |_,_,.ub h=>.ub h
 |_,_,.sn t=>.sn t
 |_,_,.sl a b c h=>.sl a b c (lX.mono k h)
 |_,_,.em t h=>.em t h
 |_,_,.ro h=>.ro (od.mono k h)
 |_,_,.pt y=>.pt y
 |_,_,.dead y=>.dead y
 |_,_,.Sq h=>.Sq (Rep.mono k h)
 |_,_,.Un x=>.Un x
theorem dJ.mono(k:eZ R w R' w'):∀{x:List TV}{y:List Value},dJ R w x y->dJ R' w' x y
 |_,_,.nil=>.nil
 |_,_,.cons a h t=>.cons a (Rep.mono k h) (dJ.mono k t)
theorem jf.mono(k:eZ R w R' w'):∀{x:List TV}{y:List Value},jf R w x y->jf R' w' x y
 |_,_,.nil=>.nil
 |_,_,.cons h t=>.cons (Rep.mono k h) (jf.mono k t)
theorem om.mono(k:eZ R w R' w'):∀{x:List TV}{b o:Nat},om R w x b o->om R' w' x b o
 |_,_,_,.nil b o=>.nil b o
 |_,_,_,.cons r c a h t=>.cons (k _ _ r).1 ((k _ _ r).2.trans c) a (Rep.mono k h) (om.mono k t)
theorem od.mono(k:eZ R w R' w'):∀{s:Nat}{x:TV}{b o:Nat},od R w s x b o->od R' w' s x b o
 |_,_,_,_,.ag e h=>.ag e (om.mono k h)
 |_,_,_,_,.one n r c a h=>.one n (k _ _ r).1 ((k _ _ r).2.trans c) a (Rep.mono k h)
theorem lX.mono(k:eZ R w R' w'):∀{s:Nat}{x:List TV}{b o:Nat},lX R w s x b o->lX R' w' s x b o
 |_,_,_,_,.nil s b o=>.nil s b o
 |_,_,_,_,.cons h t=>.cons (od.mono k h) (lX.mono k t)
end
end
section
variable{R:Reach}{w:World}
theorem dJ.length:∀{xs:List TV}{ys:List Value},dJ R w xs ys->xs.length=ys.length
 |_,_,.nil=>rfl
 |_,_,.cons _ _ t=>by simp[dJ.length t]
theorem jf.length:∀{xs:List TV}{ys:List Value},jf R w xs ys->xs.length=ys.length
 |_,_,.nil=>rfl
 |_,_,.cons _ t=>by simp[jf.length t]
theorem dJ.get:∀{xs:List TV}{ys:List Value}(_:dJ R w xs ys)(i:Nat)(x:TV),xs[i]?=some x->∃y,ys[i]?=some y/\y.oneCell'=true/\Rep R w x y
 |_,_,.cons a h _,0,x,e=>by simp at e;subst e;exact⟨_,rfl,a,h⟩
 |_,_,.cons _ _ t,i+1,x,e=>by simpa using dJ.get t i x (by simpa using e)
theorem jf.get:∀{xs:List TV}{ys:List Value}(_:jf R w xs ys)(i:Nat)(x:TV),xs[i]?=some x->∃y,ys[i]?=some y/\Rep R w x y
 |_,_,.cons h _,0,x,e=>by simp at e;subst e;exact⟨_,rfl,h⟩
 |_,_,.cons _ t,i+1,x,e=>by simpa using jf.get t i x (by simpa using e)
theorem dJ.one:∀{xs:List TV}{ys:List Value},dJ R w xs ys->∀y∈ys,y.oneCell'=true
 |_,_,.cons a _ t,y,hy=>by rcases aP.1 hy with rfl|h;{exact a};{exact dJ.one t y h}
theorem dJ.append:∀{xs:List TV}{ys:List Value}{L8:List TV}{At:List Value},dJ R w xs ys->dJ R w L8 At->dJ R w (xs++L8) (ys++At)
 |_,_,_,_,.nil,h=>h
 |_,_,_,_,.cons a h t,k=>.cons a h (dJ.append t k)
theorem dJ.take:∀{xs:List TV}{ys:List Value}(n:Nat),dJ R w xs ys->dJ R w (xs.take n) (ys.take n)
 |_,_,0,_=>by simp;exact .nil
 |_,_,n+1,.nil=>by simp;exact .nil
 |_,_,n+1,.cons a h t=>by simp;exact .cons a h (dJ.take n t)
theorem dJ.drop:∀{xs:List TV}{ys:List Value}(n:Nat),dJ R w xs ys->dJ R w (xs.drop n) (ys.drop n)
 |_,_,0,h=>by simpa using h
 |_,_,n+1,.nil=>by simp;exact .nil
 |_,_,n+1,.cons a h t=>by simp;exact dJ.drop n t
theorem om.read:∀{xs:List TV}{b o:Nat},om R w xs b o->∃ys,dJ R w xs ys/\∀j y,ys[j]?=some y->w.cell? ⟨b,o+j,none⟩=some y
 |_,_,_,.nil _ _=>⟨[],.nil,by simp⟩
 |_,b,o,.cons (y:=y) r c a h t=>by
  obtain⟨ys,hl,hc⟩:=om.read t;refine⟨y::ys,.cons a h hl,λj z hz=>?_⟩;cases j with
  |zero=>simp at hz;subst hz;exact c
  |succ j=>have:=hc j z (by simpa using hz);rw[show o+(j+1)=o+1+j by omega];exact this
theorem om.write:∀{xs:List TV} {ys:List Value} {b o:Nat},dJ R w xs ys→(∀j,j<ys.length→R b (o+j))→(∀j y,ys[j]?=some y→w.cell? ⟨b,o+j,none⟩=some y)→om R w xs b o
 | _,_,b,o,.nil,_,_ => .nil b o
 | _,_,b,o,.cons a h t,hr,hc => .cons (hr 0 (by simp)) (hc 0 _ rfl) a h
   (om.write t (fun j hj=>by have:=hr (j+1) (by simp;omega);rwa [show o+(j+1)=o+1+j by omega] at this)
    (fun j y hy=>by have:=hc (j+1) y (by simpa using hy);rwa [show o+(j+1)=o+1+j by omega] at this))
theorem om.drop:∀{xs:List TV}{b o:Nat}(n:Nat),om R w xs b o->om R w (xs.drop n) b (o+n)
 |_,b,o,0,h=>by simpa using h
 |_,b,o,n+1,.nil _ _=>by simp;exact .nil _ _
 |_,b,o,n+1,.cons r c a h t=>by simp;have:=om.drop n t;rwa[show o+1+n=o+(n+1) by omega]at this
theorem om.take:∀{xs:List TV}{b o:Nat}(n:Nat),om R w xs b o->om R w (xs.take n) b o
 |_,b,o,0,h=>by simp;exact .nil _ _
 |_,b,o,n+1,.nil _ _=>by simp;exact .nil _ _
 |_,b,o,n+1,.cons r c a h t=>by simp;exact .cons r c a h (om.take n t)
theorem lX.get:∀{s:Nat}{es:List TV}{b o:Nat}(_:lX R w s es b o)(i:Nat)(x:TV),es[i]?=some x->od R w s x b (o+i*s)
 |s,_,b,o,.cons h _,0,x,e=>by simp at e;subst e;simpa using h
 |s,_,b,o,.cons _ t,i+1,x,e=>by have:=lX.get t i x (by simpa using e);rwa[show o+s+i*s=o+(i+1)*s by rw[Nat.succ_mul];omega]at this
theorem lX.drop:∀{s:Nat}{es:List TV}{b o:Nat}(n:Nat),lX R w s es b o->lX R w s (es.drop n) b (o+n*s)
 |s,_,b,o,0,h=>by simpa using h
 |s,_,b,o,n+1,.nil _ _ _=>by simp;exact .nil _ _ _
 |s,_,b,o,n+1,.cons h t=>by simp;have:=lX.drop n t;rwa[show o+s+n*s=o+(n+1)*s by rw[Nat.succ_mul];omega]at this
theorem lX.take:∀{s:Nat}{es:List TV}{b o:Nat}(n:Nat),lX R w s es b o->lX R w s (es.take n) b o
 |s,_,b,o,0,h=>by simp;exact .nil _ _ _
 |s,_,b,o,n+1,.nil _ _ _=>by simp;exact .nil _ _ _
 |s,_,b,o,n+1,.cons h t=>by simp;exact .cons h (lX.take n t)
theorem od.read{s:Nat}{x:TV}{b o:Nat}(h:od R w s x b o):∃ys:List Value,ys.length=s/\(∀j y,ys[j]?=some y->w.cell? ⟨b,o+j,none⟩=some y)/\dJ R w x.cells ys:=by
 cases h with
 |ag e h=>obtain⟨ys,hl,hc⟩:=h.read;exact⟨ys,by rw[e,hl.length],hc,hl⟩
 |one n r c a h=>
  rename_i y;refine⟨[y],rfl,?_,?_⟩
  ·intro j z hz;cases j with
   |zero=>simp at hz;subst hz;exact c
   |succ j=>simp at hz
  {cases x<;>simp[TV.cells,TV.wq]at n⊢<;>exact .cons a h .nil}
theorem od.write{s:Nat}{x:TV}{ys:List Value}{b o:Nat}(hs:x.cells.length=s)(h:dJ R w x.cells ys)(hr:∀j,j<s->R b (o+j))(hc:∀j y,ys[j]?=some y->w.cell? ⟨b,o+j,none⟩=some y):od R w s x b o:=by
 have hl:=h.length;cases x with
 |ag cs=>exact .ag hs.symm (om.write h (λj hj=>hr j (by omega)) hc)
 |_=>
  simp only[TV.cells,ak]at hs h hl;subst hs;cases h with
  |cons a h t=>exact .one rfl (hr 0 (by omega)) (hc 0 _ rfl) a h
theorem lX.cells:∀{s:Nat}{es:List TV}{b o:Nat},lX R w s es b o->∃ys:List Value,ys.length=es.length*s/\(∀j y,ys[j]?=some y->w.cell? ⟨b,o+j,none⟩=some y)/\dJ R w (es.flatMap TV.cells) ys/\∀e∈es,e.cells.length=s
 |s,_,b,o,.nil _ _ _=>⟨[],by simp,by simp,.nil,by simp⟩
 |s,_,b,o,.cons (x:=x) (xs:=xs) h t=>by obtain⟨ys,hl,hc,hr⟩:=h.read;obtain⟨zs,kl,kc,kr,ke⟩:=lX.cells t;have hx:x.cells.length=s:=by{rw[hr.length,hl]};refine⟨ys++zs,by simp[hl,kl,Nat.succ_mul];omega,?_,?_,?_⟩;{intro j y hy;by_cases hj:j<ys.length;{exact hc j y (by rwa[List.getElem?_append_left hj]at hy)};{rw[aY (by omega)]at hy;have:=kc _ y hy;rwa[show o+s+(j -ys.length)=o+j by omega]at this}};{simpa using hr.append kr};{intro e he;rcases aP.1 he with rfl|h';{exact hx};{exact ke e h'}}
theorem lX.write:∀{s:Nat}{es:List TV}{ys:List Value}{b o:Nat},(∀e∈es,e.cells.length=s)->dJ R w (es.flatMap TV.cells) ys->(∀j,j<es.length*s->R b (o+j))->
  (∀j y,ys[j]?=some y->w.cell? ⟨b,o+j,none⟩=some y)->lX R w s es b o
 |s,[],ys,b,o,_,_,_,_=>.nil _ _ _
 |s,e::es,ys,b,o,he,h,hr,hc=>by
  have hs:=he e (by simp);have hl:=h.length;simp only[List.flatMap_cons,ae]at hl;have h1:dJ R w e.cells (ys.take s):=by{simpa[hs]using h.take s};have h2:dJ R w (es.flatMap TV.cells) (ys.drop s):=by{have:=h.drop s;simpa[List.drop_append,hs,aA]using this};refine .cons (.write hs h1 (λj hj=>hr j (by simp[Nat.succ_mul];omega)) (λj y hy=>hc j y ?_))
   (lX.write (λe' h'=>he e' (by simp[h'])) h2 (λj hj=>?_) (λj y hy=>?_))
  {rw[aZ]at hy;split at hy;{exact hy};{cases hy}};{have:=hr (s+j) (by simp[Nat.succ_mul];omega);rwa[<-Nat.add_assoc]at this};{have:=hc (s+j) y (by simpa using hy);rwa[<-Nat.add_assoc]at this}
end
theorem fF.nc(t:fF)(x:t.El):(t.tv x).cells.length=t.size:=by cases t<;>rfl
theorem fF.IQ(t:fF)(x:t.El):(t.tv x).plain=true:=by cases t<;>rfl
end Go.Eng
namespace Go.Eng
open Go.RowKit
def Value.ij:Value->Option Nat
 |.pointer (some a)=>some a.block
 |.slice (some a) _ _=>some a.block
 |_=>none
def Gh.Ge:Gh->Bool
 |.pw _|.pc _=>true
 |_=>false
def Gh.Gd:Gh->Bool
 |.pw _=>true
 |_=>false
def gb(τ:Nat->Value)(g:Gh)(v:Value):Option Nat:=match g with|.pw d=>if Value.ij v=Value.ij (τ d)then none else Value.ij v|g=>if g.own then Value.ij v else none
def ij(τ:Nat->Value)(S:St)(k:Nat):Option Nat:=gb τ (S k).2 (τ k)
theorem Q6{τ:Nat->Value}{g:Gh}{v:Value}{b:Nat}(h:gb τ g v=some b):g.own=true/\Value.ij v=some b:=by unfold gb at h;split at h;{split at h;{cases h};{exact⟨rfl,h⟩}};{simp_all}
theorem KE{τ:Nat->Value}{g:Gh}{v:Value}{b:Nat}(ho:g.own=true)(hw:g.Gd=false)(h:Value.ij v=some b):gb τ g v=some b:=by unfold gb;split;{cases hw};{simp_all}
theorem KD{τ qH:Nat->Value}{g:Gh}{v:Value}(h:∀m∈g.dt,qH m=τ m):gb qH g v=gb τ g v:=by unfold gb;split;{rw[h _ (List.mem_singleton.2 rfl)]};{rfl}
def fX(R:Reach)(w:World)(p:Bool)(v:Value)(x:TV):Prop:=∃t l,x=.sl t l/\((l=[]/\v=.slice none 0 0)\/∃g cap cur e fz,v=.slice (some ⟨g,0,none⟩) l.length cap/\w.heap[g]?=some (.cells cur e fz)/\(∀o,o<cur.size->¬(fz.1<=o/\o<fz.2))/\cur.size=cap*t.size/\l.length<=cap/\cap<=maxLen/\dJ R w ((l.map t.tv).flatMap TV.cells) (cur.toList.take (l.length*t.size))/\∀o,R g o↔(p=true/\o<l.length*t.size))
def RY(R:Reach)(w:World)(v:Value)(x:TV)(u:Value):Prop:=(fX R w false v x/\(Value.ij v=none\/Value.ij v≠Value.ij u))\/∃t l g cap n,x=.sl t l/\v=.slice (some ⟨g,0,none⟩) l.length cap/\u=.slice (some ⟨g,0,none⟩) n cap
def Ar(R:Reach)(w:World)(τ:Nat->Value)(v:Value)(x:TV)(ts:List (Nat×Nat)):Prop:=∃b cs e xs,v=.pointer (some ⟨b,0,none⟩)/\w.heap[b]?=some (.cells ⟨cs⟩ e (0,0))/\x=.ag xs/\dJ R w xs cs/\(∀t∈ts,cs[t.1]?=some (τ t.2))/\∀o,¬R b o
def kU(R:Reach)(w:World)(τ:Nat->Value)(x:TV)(g:Gh)(v:Value):Prop:=
 match g with
 |.ptr m o=>∃b,τ m=.pointer (some ⟨b,0,none⟩)/\v=.pointer (some ⟨b,o,none⟩)
 |.fo k=>v=τ k/\v.oneCell'=true
 |.pe k=>∃b i s o,Value.ij (τ k)=some b/\x=.el i s o/\v=.pointer (some ⟨b,i*s+o,none⟩)
 |.Of l=>∃ys vs,v=.tuple ⟨ys⟩/\x=.tu vs/\jf R w vs ys/\∀p∈l,ys[p.1]?=some (τ p.2)
 |.ow l=>∃ys vs,v=.agg ⟨ys⟩/\x=.ag vs/\dJ R w vs ys/\∀p∈l,ys[p.1]?=some (τ p.2)
 |_=>Rep R w x v
def eY(R:Reach)(w:World)(τ:Nat->Value)(x:TV)(g:Gh)(v:Value):Prop:=
 match x with
 |.gd false _=>v=undef
 |.gd true x=>kU R w τ x g v
 |x=>kU R w τ x g v
def kA(R:Reach)(w:World)(τ:Nat->Value)(x:TV)(g:Gh)(v:Value):Prop:=
 match g with
 |.cl ts=>Ar R w τ v x ts
 |.pv=>fX R w false v x
 |.pw d=>RY R w v x (τ d)
 |.pc _=>fX R w false v x
 |.lv=>fX R w true v x
 |.us=>Rep R w x v
 |.zz=>True
 |.hid=>True
 |g=>eY R w τ x g v
structure Core (nt:Nat) (R:Reach) (w:World) (dV:Nat->Prop) (τ:Nat->Value) (S:St):Prop where
 key:∀k,kA R w τ (S k).1 (S k).2 (τ k)
 sep:∀k k' g,ij τ S k=some g->ij τ S k'=some g->k=k'
 dV:∀k g,ij τ S k=some g->dV g
 inv:∀j,∀k∈(S j).2.dt,nt<=k/\(S k).2≠.no
 ux:∀b o,R b o->b<w.heap.size
 slt:∀k,k<nt->(S k).2.slot=true
 par:∀k d,(S k).2=.pw d->(S d).2=.pc k/\∃t l m,(S k).1=.sl t l/\(S d).1=.sl t (l++m)
theorem gE{τ:Nat->Value}{S:St}{k g:Nat}(h:ij τ S k=some g):(S k).2.own=true/\Value.ij (τ k)=some g:=Q6 h
theorem fX.lt{R:Reach}{w:World}{p:Bool}{v:Value}{x:TV}{g:Nat}(h:fX R w p v x)(hb:Value.ij v=some g):g<w.heap.size:=by obtain⟨t,l,rfl,⟨_,rfl⟩|⟨g',cap,cur,e,fz,rfl,h,_⟩⟩:=h;{cases hb};{cases hb;exact(Array.getElem?_eq_some_iff.1 h).1}
theorem Ar.lt{R:Reach}{w:World}{τ:Nat->Value}{v:Value}{x:TV}{ts:List (Nat×Nat)}{g:Nat}(h:Ar R w τ v x ts)(hb:Value.ij v=some g):g<w.heap.size:=by obtain⟨b,cs,e,xs,rfl,h,_⟩:=h;cases hb;exact(Array.getElem?_eq_some_iff.1 h).1
def tt(S:St)(d:Nat)(x:Cell):St:=λk=>if k=d then x else S k
theorem wE(S:St)(d:Nat)(x:Cell):tt S d x=cR S d x:=by funext k;unfold tt cR;by_cases h:k=d;{simp[h]};{simp}
section
variable{nt:Nat}{R R':Reach}{w w':World}{dV F2:Nat->Prop}{τ qH:Nat->Value}{S S':St}
theorem Core.lt(h:Core nt R w dV τ S){k g:Nat}(hb:ij τ S k=some g):g<w.heap.size:=by have ta:=hb;obtain⟨ho,hb⟩:=gE hb;have hk:=h.key k;(cases hg:(S k).2<;>rw[hg]at ho hk<;>first|(cases ho;done)|exact Ar.lt hk hb|exact fX.lt hk hb|skip);unfold ij at ta;rw[hg]at ta;rcases hk with⟨hk,_⟩|⟨t,l,g',cap,n,_,e1,e2⟩;{exact fX.lt hk hb};{simp_all[gb,Value.ij]}
theorem fX.dX{p:Bool}{v:Value}{x:TV}(h:fX R w p v x)(k:eZ R w R' w')(hh:∀g,Value.ij v=some g->w'.heap[g]?=w.heap[g]?/\∀o,R' g o->R g o):fX R' w' p v x:=by obtain⟨t,l,rfl,h|⟨g,cap,cur,e,fz,rfl,h1,h2,h3,h4,h5,h6,h7⟩⟩:=h;{exact⟨t,l,rfl,.inl h⟩};{obtain⟨e1,e2⟩:=hh g rfl;exact⟨t,l,rfl,.inr ⟨g,cap,cur,e,fz,rfl,e1.trans h1,h2,h3,h4,h5,h6.mono k,λo=>⟨λhr=>(h7 o).1 (e2 o hr),λhr=>(k g o ((h7 o).2 hr)).1⟩⟩⟩}
theorem kU.dX{x:TV}{g:Gh}{v:Value}(h:kU R w τ x g v)(k:eZ R w R' w')(ht:∀m∈g.dt,qH m=τ m):kU R' w' qH x g v:=by
 (cases g<;>simp only[kU,Gh.dt,List.mem_singleton,forall_eq,bn,forall_exists_index,and_imp,forall_apply_eq_imp_iff₂]at*<;>first|exact h.mono k|(rw[ht];exact h)|skip);all_goals
  obtain⟨ys,vs,h1,h2,h3,h4⟩:=h
  exact⟨ys,vs,h1,h2,h3.mono k,λp hp=>by rw[ht p hp];exact h4 p hp⟩
theorem kA.dX{x:TV}{g:Gh}{v:Value}(h:kA R w τ x g v)(k:eZ R w R' w')(ht:∀m∈g.dt,qH m=τ m)(hh:∀b,gb τ g v=some b->w'.heap[b]?=w.heap[b]?/\∀o,R' b o->R b o):kA R' w' qH x g v:=by
 have slot:eY R w τ x g v->eY R' w' qH x g v:=λh=>by{unfold eY at h⊢;split at h<;>first|exact h|exact kU.dX h k ht};(cases g<;>simp only[kA]at h⊢<;>first|exact slot h|exact h.dX k hh|exact h.mono k|trivial|skip);case pw d=>
  rw[ht d (List.mem_singleton.2 rfl)]
  rcases h with⟨h1,h2⟩|h
  {refine .inl ⟨h1.dX k λb hb=>hh b ?_,h2⟩;rcases h2 with h2|h2;{simp_all};{simp_all[gb]}}
  {exact .inr h}
 obtain⟨b,cs,e,xs,rfl,h1,rfl,h2,h3,h4⟩:=h;obtain⟨e1,e2⟩:=hh b rfl;exact⟨b,cs,e,xs,rfl,e1.trans h1,rfl,h2.mono k,λt Zh=>by rw[ht _ (List.mem_map_of_mem (f:=(·.2)) Zh)];exact h3 t Zh,λo hr=>h4 o (e2 o hr)⟩
theorem Core.step(h:Core nt R w dV τ S)(U:Nat->Prop)(dX:eZ R w R' w')(out:∀k,¬U k->S' k=S k/\qH k=τ k)(RB:∀k g,¬U k->ij τ S k=some g->w'.heap[g]?=w.heap[g]?/\∀o,R' g o->R g o)(new:∀k,U k->kA R' w' qH (S' k).1 (S' k).2 (qH k))(YZ:∀k,U k->qH k=τ k\/k<nt\/(S k).2=.no)(no:∀k,U k->k<nt\/(S' k).2≠.no)(Vm:∀k,U k->((S k).2.Ge=false/\(S' k).2.Ge=false)\/((S k).2.Gd=false/\S' k=S k))(_grow:∀k,U k->(S' k).2.own=true->(S k).2.own=true\/(S k).2=.no)(own:∀k g,U k->ij qH S' k=some g->F2 g/\(∀k',U k'->k'≠k->ij qH S' k'≠some g)/\(w.heap.size<=g\/∃k0,U k0/\ij τ S k0=some g))(min:∀g,dV g->F2 g)(inv:∀k,U k->∀j∈(S' k).2.dt,nt<=j/\(S' j).2≠.no)(ux:∀b o,R' b o->b<w'.heap.size)(slt:∀k,U k->k<nt->(S' k).2.slot=true):Core nt R' w' F2 qH S':=by have ht:∀j,∀m∈(S j).2.dt,qH m=τ m:=λj m hm=>by{obtain⟨h1,h2⟩:=h.inv j m hm;by_cases hu:U m;{grind};{simp_all}};have hb:∀k,¬U k->ij qH S' k=ij τ S k:=λk hk=>by{unfold ij;rw[(out k hk).1,(out k hk).2,KD (ht k)]};have hn:∀j,(S j).2≠.no->nt<=j->(S' j).2≠.no:=λj hj hl=>by{grind};refine⟨λk=>?_,λk k' g h1 h2=>?_,λk g hk=>?_,λj k hk=>?_,ux,λk hk=>?_,λk d hk=>?_⟩;{by_cases hu:U k;{simp_all};{obtain⟨e1,e2⟩:=out k hu;rw[e1,e2];exact(h.key k).dX dX (ht k) λb oa=>RB k b hu oa}};{by_cases e:k=k';{exact e};{have one:∀k k' g,U k->¬U k'->ij qH S' k=some g->ij qH S' k'=some g->False:=λk k' g u u' h1 h2=>by{obtain⟨_,_,h3|⟨k0,u0,h3⟩⟩:=own k g u h1;{rw[hb k' u']at h2;have:=h.lt h2;omega};{rw[hb k' u']at h2;exact u' (h.sep k0 k' g h3 h2▸u0)}};by_cases u:U k<;>by_cases u':U k';{grind};{grind};{grind};{rw[hb k u]at h1;rw[hb k' u']at h2;exact h.sep k k' g h1 h2}}};{by_cases hu:U k;{grind};{rw[hb k hu]at hk;exact min g (h.dV k g hk)}};{by_cases hu:U j;{grind};{rw[(out j hu).1]at hk;obtain⟨h1,h2⟩:=h.inv j k hk;exact⟨h1,hn k h2 h1⟩}};{by_cases hu:U k;{simp_all};{rw[(out k hu).1];exact h.slt k hk}};{have e1:S' k=S k:=by{by_cases hu:U k;{rcases Vm k hu with e|e;{have:=e.2;rw[hk]at this;cases this};{exact e.2}};{simp_all}};rw[e1]at hk;obtain⟨p,q⟩:=h.par k d hk;have e2:S' d=S d:=by{by_cases hu:U d;{rcases Vm d hu with e|e;{have:=e.1;rw[p]at this;cases this};{exact e.2}};{exact(out d hu).1}};rw[e1,e2];exact⟨p,q⟩}
theorem Core.waits(h:Core nt R w dV τ S){k d:Nat}{x:TV}(hk:S k=(x,.pw d)):fX R w false (τ k) x:=by
 have h1:=h.key k;rw[hk]at h1;rcases h1 with⟨h1,_⟩|⟨t,l,g,cap,n,rfl,e1,e2⟩;{exact h1}
 ·obtain⟨p1,t',l',m,q1,q2⟩:=h.par k d (by rw[hk]);rw[hk]at q1;cases q1;have h2:=h.key d;rw[p1,q2]at h2;obtain⟨t2,l2,e3,⟨_,e4⟩|⟨g',Yt,cur,e,fz,e4,k1,k2,k3,k4,k5,k6,k7⟩⟩:=h2;{rw[e2]at e4;cases e4}
  ·cases e3;rw[e2]at e4;cases e4;refine⟨t,l,rfl,.inr ⟨g,cap,cur,e,fz,e1,k1,k2,k3,by rw[ae]at k4;omega,k5,?_,λo=>⟨λhr=>by simpa using(k7 o).1 hr,λhr=>by simp at hr⟩⟩⟩;have hl:l.length*t.size<=(l++m).length*t.size:=ay _ (by rw[ae];omega);have:=k6.take (l.length*t.size);rw[List.take_take,Nat.min_eq_left hl]at this;rw[List.map_append,List.flatMap_append]at this;have e5:((l.map t.tv).flatMap TV.cells).length=l.length*t.size:=by
    have:∀l:List t.El,((l.map t.tv).flatMap TV.cells).length=l.length*t.size:=λl=>by
     induction l with
     |nil=>simp
     |cons a r ih=>simp only[bc,List.flatMap_cons,ae,ih,fF.nc,av,Nat.succ_mul];omega
    exact this l
   rw[List.take_append_of_le_length (by omega),List.take_of_length_le (by omega)]at this;exact this
theorem Core.recover (h : Core nt R w dV τ S) {k d : Nat} {x : TV} (hk : S k = (x, .pw d)) : Core nt R w dV τ (tt (tt S k (x, .pv)) d (.dead, .zz)) := by
  obtain ⟨p1, _⟩ := h.par k d (by rw [hk])
  have mU : d ≠ k := by rintro rfl; rw [hk] at p1; cases p1
  have Xb : nt ≤ d := (h.inv k d (by rw [hk]; exact List.mem_singleton.2 rfl)).1
  have Zv : nt ≤ k := by rcases Nat.lt_or_ge k nt with e | e; · have := h.slt k e; rw [hk] at this; cases this
                         · exact e
  have e1 : ∀ j, tt (tt S k (x, .pv)) d (.dead, .zz) j = if j = d then (.dead, .zz) else if j = k then (x, .pv) else S j := fun j => rfl
  generalize tt (tt S k (x, .pv)) d (.dead, .zz) = S' at e1
  have s1 : S' d = (.dead, .zz) := by rw [e1, ar rfl]
  have s2 : S' k = (x, .pv) := by rw [e1, ao (Ne.symm mU), ar rfl]
  have s3 : ∀ j, j ≠ d → j ≠ k → S' j = S j := fun j a b => by rw [e1, ao a, ao b]
  have bl : ∀ j g, ij τ S' j = some g → ij τ S j = some g ∨ (j = k ∧ ij τ S d = some g) := fun j g hj => by
    by_cases a : j = d
    · rw [a] at hj; have := (gE hj).1; rw [s1] at this; cases this
    · by_cases b : j = k
      · subst b
        have hv := (gE hj).2
        by_cases c : Value.ij (τ j) = Value.ij (τ d)
        · right; exact ⟨rfl, by unfold ij; rw [p1]; exact KE rfl rfl (by rw [← c]; exact hv)⟩
        · left; unfold ij; rw [hk]; simp only [gb, ao c]; exact hv
      · left; unfold ij at hj ⊢; rw [s3 j a b] at hj; exact hj
  refine ⟨fun j => ?_, fun j j' g h1 h2 => ?_, fun j g hj => ?_, fun j m hm => ?_, h.ux, fun j hj => ?_, fun j c hj => ?_⟩
  · by_cases a : j = d
    · rw [a, s1]; trivial
    · by_cases b : j = k
      · rw [b, s2]; exact h.waits hk
      · rw [s3 j a b]; exact h.key j
  · rcases bl j g h1 with q | ⟨q, q'⟩ <;> rcases bl j' g h2 with r | ⟨r, r'⟩
    · exact h.sep _ _ _ q r
    · have := h.sep _ _ _ q r'
      rw [this] at h1; have := (gE h1).1; rw [s1] at this; cases this
    · have := h.sep _ _ _ r q'
      rw [this] at h2; have := (gE h2).1; rw [s1] at this; cases this
    · rw [q, r]
  · rcases bl j g hj with q | ⟨_, q⟩
    · exact h.dV _ _ q
    · exact h.dV _ _ q
  · have HP : m ∈ (S j).2.dt := by
      by_cases a : j = d
      · rw [a, s1] at hm; simp [Gh.dt] at hm
      · by_cases b : j = k
        · rw [b, s2] at hm; simp [Gh.dt] at hm
        · rw [s3 j a b] at hm; exact hm
    obtain ⟨h1, h2⟩ := h.inv j m HP
    refine ⟨h1, ?_⟩
    by_cases a : m = d
    · rw [a, s1]; simp
    · by_cases b : m = k
      · rw [b, s2]; simp
      · rw [s3 m a b]; exact h2
  · rw [s3 j (by omega) (by omega)]; exact h.slt j hj
  · have a : j ≠ d := by rintro rfl; rw [s1] at hj; cases hj
    have b : j ≠ k := by rintro rfl; rw [s2] at hj; cases hj
    rw [s3 j a b] at hj
    obtain ⟨q1, q2⟩ := h.par j c hj
    have c1 : c ≠ d := by rintro rfl; rw [p1] at q1; cases q1; exact b rfl
    have c2 : c ≠ k := by rintro rfl; rw [hk] at q1; cases q1
    rw [s3 j a b, s3 c c1 c2]
    exact ⟨q1, q2⟩
theorem Core.UH(h:Core nt R w dV τ S){k d:Nat}{t:fF}{l m:List t.El}{y:TV}(Zv:nt<=k)(hdt:nt<=d)(hk:S k=(y,.zz))(hd:S d=(.sl t (l++m),.pv))(hp:RY R w (τ k) (.sl t l) (τ d))(hm:∀b,gb τ (.pw d) (τ k)=some b->dV b/\∀j,ij τ S j≠some b):Core nt R w dV τ (tt (tt S k (.sl t l,.pw d)) d (.sl t (l++m),.pc k)):=by have mU:d≠k:=by{rintro rfl;rw[hk]at hd;cases hd};have e1:∀j,tt (tt S k (.sl t l,.pw d)) d (.sl t (l++m),.pc k) j=if j=d then(.sl t (l++m),.pc k)else if j=k then(.sl t l,.pw d)else S j:=λj=>rfl;generalize tt (tt S k (.sl t l,.pw d)) d (.sl t (l++m),.pc k)=S' at e1;have s1:S' d=(.sl t (l++m),.pc k):=by{rw[e1,ar rfl]};have s2:S' k=(.sl t l,.pw d):=by{rw[e1,ao (Ne.symm mU),ar rfl]};have s3:∀j,j≠d->j≠k->S' j=S j:=λj a b=>by{rw[e1,ao a,ao b]};have bl:∀j g,ij τ S' j=some g->(ij τ S j=some g/\j≠k)\/(j=k/\gb τ (.pw d) (τ k)=some g):=λj g hj=>by{by_cases a:j=d;{subst a;left;refine⟨?_,mU⟩;have:=(gE hj).2;unfold ij;rw[hd];exact KE rfl rfl this};{by_cases b:j=k;{subst b;right;unfold ij at hj;rw[s2]at hj;exact⟨rfl,hj⟩};{left;unfold ij at hj⊢;rw[s3 j a b]at hj;exact⟨hj,b⟩}}};refine⟨λj=>?_,λj j' g h1 h2=>?_,λj g hj=>?_,λj q hq=>?_,h.ux,λj hj=>?_,λj c hj=>?_⟩;{by_cases a:j=d;{rw[a,s1];have:=h.key d;rw[hd]at this;exact this};{by_cases b:j=k;{rw[b,s2];exact hp};{rw[s3 j a b];exact h.key j}}};{rcases bl j g h1 with⟨q,_⟩|⟨q,q'⟩<;>rcases bl j' g h2 with⟨r,_⟩|⟨r,r'⟩;{exact h.sep _ _ _ q r};{exact((hm g r').2 j q).elim};{exact((hm g q').2 j' r).elim};{rw[q,r]}};{rcases bl j g hj with⟨q,_⟩|⟨_,q⟩;{exact h.dV _ _ q};{exact(hm g q).1}};{by_cases a:j=d;{rw[a,s1]at hq;simp only[Gh.dt,List.mem_singleton]at hq;subst hq;exact⟨Zv,by rw[s2];simp⟩};{by_cases b:j=k;{rw[b,s2]at hq;simp only[Gh.dt,List.mem_singleton]at hq;subst hq;exact⟨hdt,by rw[s1];simp⟩};{rw[s3 j a b]at hq;obtain⟨h1,h2⟩:=h.inv j q hq;refine⟨h1,?_⟩;by_cases a:q=d;{rw[a,s1];simp};{by_cases b:q=k;{rw[b,s2];simp};{rw[s3 q a b];exact h2}}}}};{rw[s3 j (by omega) (by omega)];exact h.slt j hj};{have a:j≠d:=by{rintro rfl;rw[s1]at hj;cases hj};by_cases b:j=k;{rw[b,s2]at hj;cases hj;rw[b,s1,s2];exact⟨rfl,t,l,m,rfl,rfl⟩};{rw[s3 j a b]at hj;obtain⟨q1,q2⟩:=h.par j c hj;have c1:c≠d:=by{rintro rfl;rw[hd]at q1;cases q1};have c2:c≠k:=by{rintro rfl;rw[hk]at q1;cases q1};rw[s3 j a b,s3 c c1 c2];exact⟨q1,q2⟩}}
end
def yT{X:Type}(σ:Nat->X)(t:Nat)(x:X):Nat->X:=λk=>if k=t then x else σ k
theorem gZ{X:Type}(σ:Nat->X)(t:Nat)(x:X):yT σ t x t=x:=by simp[yT]
theorem iQ{X:Type}(σ:Nat->X){t k:Nat}(x:X)(h:k≠t):yT σ t x k=σ k:=by simp[yT,h]
theorem cG(S:St)(d:Nat)(x:Cell):cR S d x d=x:=by simp[cR]
theorem fq(S:St){d k:Nat}(x:Cell)(h:k≠d):cR S d x k=S k:=by
 unfold cR;cases e:Nat.beq k d with
 |true=>exact(h (aB e)).elim
 |false=>rfl
theorem bK{A:Type}{p:Bool}{x:Option A}{y:A}:fV p x=some y↔p=true/\x=some y:=by cases p<;>simp[fV]
def Fz(dV:Nat->Prop)(R:Reach)(w:World)(R':Reach):Prop:=eZ R w R' w/\∀b o,R' b o->R b o\/dV b
theorem Fz.refl(dV:Nat->Prop)(R:Reach)(w:World):Fz dV R w R:=⟨eZ.refl _ _,λ_ _=>.inl⟩
theorem Fz.trans{dV:Nat->Prop}{R R' U4:Reach}{w:World}(h:Fz dV R w R')(k:Fz dV R' w U4):Fz dV R w U4:=⟨h.1.trans k.1,λb o hr=>(k.2 b o hr).elim (h.2 b o) .inr⟩
theorem eZ.reach{R:Reach}{w:World}{R':Reach}(h:∀b o,R b o->R' b o):eZ R w R' w:=λb o hr=>⟨h b o hr,rfl⟩
theorem kA.slot{R:Reach}{w:World}{τ:Nat->Value}{x:TV}{g:Gh}{v:Value}(hg:g.slot=true):kA R w τ x g v=eY R w τ x g v:=by cases g<;>first|rfl|cases hg
theorem eY.dX{R R':Reach}{w w':World}{τ qH:Nat->Value}{x:TV}{g:Gh}{v:Value}(h:eY R w τ x g v)(k:eZ R w R' w')(ht:∀m∈g.dt,qH m=τ m):eY R' w' qH x g v:=by unfold eY at h⊢;split at h<;>first|exact h|exact kU.dX h k ht
section
variable{nt:Nat}{R R':Reach}{w w':World}{dV F2:Nat->Prop}{τ qH:Nat->Value}{S S':St}
theorem Core.put(h:Core nt R w dV τ S){d:Nat}{v:Value}{x:TV}{g:Gh}(hd:d<nt)(hs:eY R w τ x g v)(hg:g.slot=true)(hm:∀k∈g.dt,nt<=k/\(S k).2≠.no):Core nt R w dV (yT τ d v) (cR S d (x,g)):=by have hP:(S d).2.Ge=false:=by{have:=h.slt d hd;cases hh:(S d).2<;>rw[hh]at this<;>first|rfl|cases this};have ho:g.own=false:=by{cases g<;>first|rfl|cases hg};refine h.step (λk=>k=d) (eZ.refl _ _) (λk hk=>⟨fq _ _ hk,iQ _ _ hk⟩) (λ_ _ _ _=>⟨rfl,λ_=>id⟩) ?_ (λk hk=>.inr (.inl (hk▸hd))) (λk hk=>.inl (hk▸hd)) ?_ ?_ ?_ (λ_=>id) ?_ h.ux (λk hk _=>by rw[hk,cG];exact hg);{rintro k rfl;rw[cG,gZ,kA.slot hg];exact hs.dX (eZ.refl _ _) λm HP=>iQ _ _ (by have:=(hm m HP).1;omega)};{rintro k rfl;rw[cG];exact .inl ⟨hP,by cases g<;>first|rfl|cases hg⟩};{rintro k rfl e;rw[cG,ho]at e;cases e};{rintro k b rfl hb;have:=(gE hb).1;rw[cG,ho]at this;cases this};{rintro k rfl j hj;rw[cG]at hj;obtain⟨h1,h2⟩:=hm j hj;exact⟨h1,by rw[fq _ _ (by omega)];exact h2⟩}
theorem Core.qQ(h:Core nt R w dV τ S){k:Nat}{v:Value}{x:TV}{g:Gh}(hk:nt<=k)(dX:eZ R w R' w')(RB:∀j b,j≠k->ij τ S j=some b->w'.heap[b]?=w.heap[b]?/\∀o,R' b o->R b o)(new:kA R' w' τ x g v)(YZ:v=τ k\/(S k).2=.no)(Vm:(S k).2.Ge=false/\g.Ge=false)(no:g≠.no)(grow:g.own=true->(S k).2.own=true\/(S k).2=.no)(bl:∀b,g.own=true->Value.ij v=some b->dV b/\(w.heap.size<=b\/ij τ S k=some b))(inv:∀j∈g.dt,j≠k/\nt<=j/\(S j).2≠.no)(ux:∀b o,R' b o->b<w'.heap.size):Core nt R' w' dV (yT τ k v) (cR S k (x,g)):=by refine h.step (λj=>j=k) dX (λj hj=>⟨fq _ _ hj,iQ _ _ hj⟩) (λj b hj=>RB j b hj) ?_ ?_ ?_ ?_ ?_ ?_ (λ_=>id) ?_ ux (λj hj hl=>by omega);{rintro j rfl;rw[cG,gZ];exact new.dX (eZ.refl _ _) (λm hm=>iQ _ _ (inv m hm).1) λ_ _=>⟨rfl,λ_=>id⟩};{rintro j rfl;rw[gZ];exact YZ.imp id .inr};{rintro j rfl;rw[cG];exact .inr no};{rintro j rfl;rw[cG];exact .inl Vm};{rintro j rfl;rw[cG];exact grow};{rintro j b rfl hb;obtain⟨h1,h2⟩:=gE hb;rw[cG]at h1;rw[gZ]at h2;obtain⟨h3,h4⟩:=bl b h1 h2;exact⟨h3,λk' e ne=>(ne e).elim,h4.imp id λh=>⟨j,rfl,h⟩⟩};{rintro j rfl m hm;rw[cG]at hm;obtain⟨h1,h2,h3⟩:=inv m hm;exact⟨h2,by rw[fq _ _ h1];exact h3⟩}
theorem Core.xq(h:Core nt R w dV τ S){k k' g:Nat}(h1:ij τ S k=some g)(h2:ij τ S k'=some g):k=k':=h.sep k k' g h1 h2
theorem ig{k g:Nat}(ho:(S k).2.own=true)(hw:(S k).2.Gd=false)(hb:Value.ij (τ k)=some g):ij τ S k=some g:=KE ho hw hb
theorem AY{g:Gh}(h:g.Ge=false):g.Gd=false:=by cases g<;>first|rfl|cases h
theorem Core.freeze(h:Core nt R w dV τ S){k:Nat}{x:TV}(hk:nt<=k)(hS:S k=(x,.pv)):∃R',Core nt R' w dV τ (cR S k (x,.lv))/\Fz dV R w R'/\Rep R' w x (τ k)/\(τ k).oneCell'=true:=by
 have h0:=h.key k;rw[hS]at h0;obtain⟨t,l,rfl,⟨rfl,hv⟩|⟨g,cap,cur,e,fz,hv,h1,h2,h3,h4,h5,h6,h7⟩⟩:=h0
 ·refine⟨R,?_,Fz.refl _ _ _,by rw[hv];exact .sn t,by rw[hv];rfl⟩;have:=h.qQ (g:=.lv) (x:=.sl t []) (v:=τ k) hk (eZ.refl _ _) (λ_ _ _ _=>⟨rfl,λ_=>id⟩) ⟨t,[],rfl,.inl ⟨rfl,hv⟩⟩ (.inl rfl) (by rw[hS];exact⟨rfl,rfl⟩) (by simp) (λ_=>.inl (by rw[hS];rfl))
   (λb _ hb=>by rw[hv]at hb;cases hb) (by simp[Gh.dt]) h.ux
  rwa[show yT τ k (τ k)=τ by funext j;simp only[yT];split<;>simp_all]at this
 {have hb:ij τ S k=some g:=ig (by rw[hS];rfl) (by rw[hS];rfl) (by rw[hv];rfl);let R':Reach:=λb o=>R b o\/(b=g/\o<l.length*t.size);have dX:eZ R w R' w:=eZ.reach λb o=>.inl;have wM:(l.map t.tv).flatMap TV.cells=(l.map t.tv).flatMap TV.cells:=rfl;have hex:∀o,R g o->False:=λo hr=>by{have:=(h7 o).1 hr;simp at this};refine⟨R',?_,⟨dX,λb o(hr:R b o\/(b=g/\o<l.length*t.size))=>hr.imp id λ⟨e,_⟩=>e▸h.dV k g hb⟩,?_,by rw[hv];rfl⟩;{have:=h.qQ (R':=R') (w':=w) (g:=.lv) (x:=.sl t l) (v:=τ k) hk dX (λj b hj oa=>⟨rfl,λo hr=>hr.elim id λ⟨e,_⟩=>(hj (h.xq hb (e▸oa)).symm).elim⟩) ⟨t,l,rfl,.inr ⟨g,cap,cur,e,fz,hv,h1,h2,h3,h4,h5,h6.mono dX,λo=>⟨λhr=>hr.elim (λhr=>(hex o hr).elim) λhr=>⟨rfl,hr.2⟩,λhr=>.inr ⟨rfl,hr.2⟩⟩⟩⟩ (.inl rfl) (by rw[hS];exact⟨rfl,rfl⟩) (by simp) (λ_=>.inl (by rw[hS];rfl)) (λb _ oa=>⟨h.dV k b (ig (by rw[hS];rfl) (by rw[hS];rfl) oa),.inr (ig (by rw[hS];rfl) (by rw[hS];rfl) oa)⟩) (by simp[Gh.dt]) (λb o hr=>hr.elim (h.ux b o) λ⟨e,_⟩=>e▸(Array.getElem?_eq_some_iff.1 h1).1);rwa[show yT τ k (τ k)=τ by funext j;simp only[yT];split<;>simp_all]at this};{rw[hv];refine .sl rfl h4 h5 (lX.write (ys:=cur.toList.take (l.length*t.size)) ?_ (h6.mono dX) (λj hj=>.inr ⟨rfl,by rwa[bm,Nat.zero_add]at*⟩) (λj y hy=>?_));{intro x hx;obtain⟨y,_,rfl⟩:=bn.1 hx;exact fF.nc t y};{rw[aZ]at hy;split at hy;{simp only[World.cell?,h1,Nat.zero_add];simpa using hy};{cases hy}}}}
end
def Lt(V S:St):Prop:=∀k,V k=S k\/(V k).2=.hid
def Lq(V S:St):Prop:=∀k,V k=S k\/(V k).2=.hid\/((V k).2=.pv/\S k=((V k).1,.lv))
theorem Lt.refl(S:St):Lt S S:=λ_=>.inl rfl
theorem Lt.q{V S:St}(h:Lt V S):Lq V S:=λk=>(h k).imp id .inl
theorem Lt.of{V S:St}(h:Lt V S){k:Nat}{x:TV}{g:Gh}(hk:V k=(x,g))(hg:g≠.hid:=by simp):S k=(x,g):=by rcases h k with e|e;{rw[<-e,hk]};{rw[hk]at e;exact(hg e).elim}
section
variable{nt:Nat}{R R':Reach}{w w':World}{dV:Nat->Prop}{τ:Nat->Value}{S V:St}
theorem G4{k:Nat}{c:Cell}(h:S k=c):cR S k c=S:=by funext j;by_cases e:j=k;{subst e;rw[cG,h]};{exact fq _ _ e}
theorem lg(S:St):∀l m:List (Nat×Cell),fU S (l++m)=fU (fU S m) l
 |[],_=>rfl
 |(k,x)::l,m=>by simp only[List.cons_append,fU,lg S l m]
theorem fX.rep{v:Value}{x:TV}(h:fX R w true v x):Rep R w x v/\v.oneCell'=true:=by obtain⟨t,l,rfl,⟨rfl,rfl⟩|⟨g,cap,cur,e,fz,rfl,h1,h2,h3,h4,h5,h6,h7⟩⟩:=h;{exact⟨.sn t,rfl⟩};{refine⟨.sl rfl h4 h5 (lX.write (ys:=cur.toList.take (l.length*t.size)) ?_ h6 (λj hj=>(h7 _).2 ⟨rfl,by rwa[bm,Nat.zero_add]at*⟩) (λj y hy=>?_)),rfl⟩;{intro x hx;obtain⟨y,_,rfl⟩:=bn.1 hx;exact fF.nc t y};{rw[aZ]at hy;split at hy;{simp only[World.cell?,h1,Nat.zero_add];simpa using hy};{cases hy}}}
theorem MZ{x:TV}{v:Value}(h:Rep R w x v):Rep R w (nrm x) v:=by
 unfold nrm;split
 ·cases h with
  |sc h=>cases h
  |nl=>exact .sn _
 {exact h}
theorem q8:∀{xs:List TV}{ys:List Value},dJ R w xs ys->dJ R w (xs.map nrm) ys
 |_,_,.nil=>.nil
 |_,_,.cons a h t=>.cons a (MZ h) (q8 t)
theorem AM{x:TV}{v:Value}(h:Rep R w x v):Rep R w (Tx x) v:=by
 unfold Tx;split
 ·cases h with
  |sc h=>cases h
  |nl=>exact .sn _
 ·cases h with
  |sc h=>cases h
  |ag h=>exact .ag (q8 h)
 {exact h}
theorem kU.rep{x:TV}{v:Value}(h:eY R w τ x .no v):Rep R w x v:=by unfold eY at h;split at h;{rw[h];exact .Un _};{exact .Sq h};{exact h}
theorem E5(h:Core nt R w dV τ S)(hV:Lq V S){k:Nat}{x:TV}{ws:List (Nat×Cell)}(hk:nt<=k)(he:Gp V (.pt,.fo k)=some (x,ws)):∃R',Core nt R' w dV τ (fU S ws)/\Fz dV R w R'/\Rep R' w x (τ k)/\Lq V (fU S ws)/\(∀p∈ws,p.1=k)/\x.plain=true:=by have plain:∀{R p v x},fX R w p v x->x.plain=true:=λh=>by{obtain⟨_,_,rfl,_⟩:=h;rfl};have base:∀{y:TV}{g:Gh},S k=(y,g)->g=.lv->(∃R',Core nt R' w dV τ S/\Fz dV R w R'/\Rep R' w y (τ k))/\y.plain=true:=λ{y g}e hg=>by{have:=h.key k;subst hg;rw[e]at this;exact⟨⟨R,h,Fz.refl _ _ _,(fX.rep this).1⟩,plain this⟩};simp only[Gp]at he;split at he;{rename_i y e;cases he;have hq:Lq V (cR S k (x,.lv)):=λj=>by{by_cases ej:j=k;{subst ej;rw[cG,e];exact .inr (.inr ⟨rfl,rfl⟩)};{rw[fq _ _ ej];exact hV j}};rcases hV k with e1|e1|⟨_,e1⟩;{rw[e]at e1;have hp:=h.key k;rw[<-e1]at hp;obtain⟨R',h1,h2,h3,_⟩:=h.freeze hk e1.symm;exact⟨R',h1,h2,h3,hq,by simp,plain hp⟩};{rw[e]at e1;cases e1};{rw[e]at e1;obtain⟨⟨R',h1,h2,h3⟩,h4⟩:=base e1 rfl;refine⟨R',?_,h2,h3,hq,by simp,h4⟩;show Core nt R' w dV τ (cR S k _);rwa[G4 e1]}};{rename_i y e;cases he;have e1:S k=(x,.lv):=by{rcases hV k with e1|e1|⟨e1,_⟩;{rw[e]at e1;exact e1.symm};{rw[e]at e1;cases e1};{rw[e]at e1;cases e1}};obtain⟨⟨R',h1,h2,h3⟩,h4⟩:=base e1 rfl;exact⟨R',h1,h2,h3,hV,by simp,h4⟩};{rename_i y e;obtain⟨BA,he⟩:=bK.1 he;cases he;have e1:S k=(x,.us):=by{rcases hV k with e1|e1|⟨e1,_⟩;{rw[e]at e1;exact e1.symm};{rw[e]at e1;cases e1};{rw[e]at e1;cases e1}};have:=h.key k;rw[e1]at this;exact⟨R,h,Fz.refl _ _ _,this,hV,by simp,BA⟩};{cases he}
theorem dJ.set:∀{xs:List TV}{ys:List Value}{i:Nat}{x:TV},dJ R w xs ys->(∀y,ys[i]?=some y->Rep R w x y)->dJ R w (xs.set i x) ys
 |_,_,_,_,.nil,_=>by simpa using .nil
 |_,_,0,_,.cons a h t,hx=>.cons a (hx _ rfl) t
 |_,_,i+1,_,.cons a h t,hx=>.cons a h (t.set λy hy=>hx y (by simpa using hy))
theorem pY{o n:Nat}:∀{ts:List (Nat×Nat)}{R:Reach}{S:St}{cs ds:List TV}{ys:List Value}{ws:List (Nat×Cell)},Core nt R w dV τ S->Lq V S->dJ R w cs ys->(∀t∈ts,nt<=t.2/\ys[t.1]?=some (τ t.2))->
  pZ V o n ts cs=some (ds,ws)->∃R',Core nt R' w dV τ (fU S ws)/\Fz dV R w R'/\dJ R' w ds ys/\Lq V (fU S ws)/\(∀p∈ws,p.1∈ts.map (·.2))/\ds.length=cs.length
 |[],R,S,_,_,_,_,h,hV,hL,_,he=>by cases he;exact⟨R,h,Fz.refl _ _ _,hL,hV,by simp,rfl⟩
 |(c,k)::ts,R,S,_,_,_,_,h,hV,hL,ht,he=>by
  simp only[pZ]at he;split at he
  ·rename_i cs ws e1;obtain⟨R1,h1,k1,r1,q1,p1,l1⟩:=pY h hV hL (λt h=>ht t (List.mem_cons_of_mem _ h)) e1;have Y2:∀p∈ws,p.1∈(((c,k)::ts).map (·.2)):=λp hp=>List.mem_cons_of_mem _ (p1 p hp);cases hb:(Nat.ble o c&&Nat.blt c (o+n))with
   |true=>rw[hb,au]at he;split at he;{rename_i x us e2;cases he;obtain⟨h3,h4⟩:=ht (c,k) (List.mem_cons_self ..);obtain⟨R2,h2,k2,r2,q2,p2,_⟩:=E5 h1 q1 h3 e2;rw[lg];refine⟨R2,h2,k1.trans k2,(r1.mono k2.1).set λy hy=>?_,q2,λp hp=>?_,by rw[List.length_set,l1]⟩;{rw[h4]at hy;cases hy;exact r2};{rcases List.mem_append.1 hp with hp|hp;{rw[p2 p hp];exact List.mem_cons_self ..};{exact Y2 p hp}}};{cases he}
   |false=>rw[hb,aj]at he;cases he;exact⟨R1,h1,k1,r1,q1,Y2,l1⟩
  {cases he}
theorem Ba(h:Core nt R w dV τ S)(hV:Lq V S){c:Cell}{v:Value}{x:TV}{ws:List (Nat×Cell)}(hs:eY R w τ c.1 c.2 v)(hc:∀m∈c.2.dt,nt<=m)(he:C8 V c=some (x,ws)):∃R',Core nt R' w dV τ (fU S ws)/\Fz dV R w R'/\Rep R' w x v/\Lq V (fU S ws):=by
 obtain⟨y,g⟩:=c;cases g with
 |fo k=>(cases y<;>try(simp only[C8,Gp]at he;cases he));obtain⟨R',h1,h2,h3,h4,_⟩:=E5 h hV (hc k (by simp[Gh.dt])) he;have:v=τ k:=hs.1;exact⟨R',h1,h2,this▸h3,h4⟩
 |no=>simp only[C8,Gp,aM,Prod.mk.injEq]at he;obtain⟨rfl,rfl⟩:=he;exact⟨R,h,Fz.refl _ _ _,AM (kU.rep hs),hV⟩
 |ow l=>(cases y<;>try(simp only[C8,Gp]at he;cases he));simp only[C8]at he;split at he;{rename_i hf;cases he;obtain⟨ys,vs,hv,hx,h3,h4⟩:∃ys vs,v=.agg ⟨ys⟩/\_=TV.ag vs/\dJ R w vs ys/\∀p∈l,ys[p.1]?=some (τ p.2):=hs;cases hx;obtain⟨R',k1,k2,k3,k4,_⟩:=pY h hV h3 (λt ht=>⟨hc t.2 (bn.2 ⟨t,ht,rfl⟩),h4 t ht⟩) hf;exact⟨R',k1,k2,by rw[hv];exact .ag (q8 k3),k4⟩};{cases he}
 |_=>simp only[C8,Gp]at he;cases he
inductive Cells (R:Reach) (w:World) (τ:Nat->Value) (nt:Nat):List Cell->List Value->Prop
 |nil:Cells R w τ nt [] []
 |cons {c:Cell} {v:Value} {cs:List Cell} {vs:List Value}:eY R w τ c.1 c.2 v->(∀m∈c.2.dt,nt<=m)->Cells R w τ nt cs vs->Cells R w τ nt (c::cs) (v::vs)
theorem E4:∀{cs:List Cell}{R:Reach}{S:St}{vs:List Value}{xs:List TV}{ws:List (Nat×Cell)},Core nt R w dV τ S->Lq V S->Cells R w τ nt cs vs->Mi V cs=some (xs,ws)->
  ∃R',Core nt R' w dV τ (fU S ws)/\Fz dV R w R'/\jf R' w xs vs/\Lq V (fU S ws)
 |[],R,S,_,_,_,h,hV,.nil,he=>by cases he;exact⟨R,h,Fz.refl _ _ _,.nil,hV⟩
 |c::cs,R,S,_,_,_,h,hV,.cons a b t,he=>by simp only[Mi]at he;split at he;{rename_i x ws e1;split at he;{rename_i xs us e2;cases he;obtain⟨R1,h1,k1,r1,q1⟩:=E4 h hV t e2;obtain⟨R2,h2,k2,r2,q2⟩:=Ba h1 q1 (a.dX k1.1 λ_ _=>rfl) b e1;rw[lg];exact⟨R2,h2,k1.trans k2,.cons r2 (r1.mono k2.1),q2⟩};{cases he}};{cases he}
end
structure Ext (w0:World) (R0:Reach) (io:Nat->Prop) (w:World) (R:Reach):Prop where
 os:w.os=w0.os
 tape:w.tape=w0.tape
 output:w.output=w0.output
 size:w0.heap.size<=w.heap.size
 heap:∀b,b<w0.heap.size->¬io b->w.heap[b]?=w0.heap[b]?
 dX:eZ R0 w0 R w
 Hd:∀b o,R b o->R0 b o\/w0.heap.size<=b\/io b
theorem Ext.refl(w:World)(R:Reach)(io:Nat->Prop):Ext w R io w R:=⟨rfl,rfl,rfl,Nat.le_refl _,λ_ _ _=>rfl,eZ.refl _ _,λ_ _ h=>.inl h⟩
theorem Ext.trans{w0 w1 w2:World}{R0 R1 R2:Reach}{io io':Nat->Prop}(h:Ext w0 R0 io w1 R1)(k:Ext w1 R1 io' w2 R2)(hi:∀b,io' b->io b\/w0.heap.size<=b):Ext w0 R0 io w2 R2 where
 os:=k.os.trans h.os
 tape:=k.tape.trans h.tape
 output:=k.output.trans h.output
 size:=Nat.le_trans h.size k.size
 heap b hb hn:=(k.heap b (Nat.lt_of_lt_of_le hb h.size) (λc=>by rcases hi b c with c|c<;>first|exact hn c|omega)).trans (h.heap b hb hn)
 dX:=h.dX.trans k.dX
 Hd b o hr:=by
  rcases k.Hd b o hr with r|r|r
  ·exact h.Hd b o r
  ·exact .inr (.inl (Nat.le_trans h.size r))
  ·rcases hi b r with r|r
   ·exact .inr (.inr r)
   ·exact .inr (.inl r)
structure Ctx where
 P:Program
 E:cH
 nt:Nat
 w0:World
 R0:Reach
 io:Nat->Prop
 τ0:Nat->Value
 gl:Nat->Option (List Value)
def Ctx.dV(C:Ctx)(b:Nat):Prop:=C.io b\/C.w0.heap.size<=b
def GlOK(gl:Nat->Option (List Value))(R:Reach)(w:World):Prop:=∀n zs,gl n=some zs->∀o,R n o/\w.cell? ⟨n,o,none⟩=zs[o]?
theorem GlOK.dX{gl:Nat->Option (List Value)}{R R':Reach}{w w':World}(h:GlOK gl R w)(k:eZ R w R' w'):GlOK gl R' w':=λn zs hn o=>⟨(k _ _ (h n zs hn o).1).1,(k _ _ (h n zs hn o).1).2.trans (h n zs hn o).2⟩
structure fD (C:Ctx) (S:St) (a:Act) (w:World) (R:Reach) (τ:Nat->Value):Prop where
 size:a.tmps.size=C.nt
 defers:a.defers=[]
 core:Core C.nt R w C.dV τ S
 tmps:∀t,t<C.nt->a.tmps.getD t undef=τ t
 io:C.nt<=1000000/\∀k,1000000<=k->τ k=C.τ0 k
 ext:Ext C.w0 C.R0 C.io w R
 gl:GlOK C.gl R w
def wX(C:Ctx)(S:St)(a:Act)(w:World):Prop:=∃R τ,fD C S a w R τ
section
variable{C:Ctx}{S V:St}{a:Act}{w:World}{R:Reach}{τ:Nat->Value}{o:Oper}{d:Nat}{K:Act->World->Prop}{Q:Exit->Act->World->Prop}
theorem Ext.reach{w0 w:World}{R0 R R':Reach}{io:Nat->Prop}(h:Ext w0 R0 io w R)(k:eZ R w R' w)(hn:∀b o,R' b o->R b o\/io b\/w0.heap.size<=b):Ext w0 R0 io w R':={h with dX:=h.dX.trans k,Hd:=λb o hr=>by rcases hn b o hr with r|r|r;exact h.Hd b o r;exact .inr (.inr r);exact .inr (.inl r)}
end
def nI:BinOp->Value->Value->Option Value
 |.shl,.int k a,.int _ b=>if b<0 then none else some (.int k (k.wrap (a*2^(min b.toNat k.bits))))
 |.shr,.int k a,.int _ b=>if b<0 then none else some (.int k (a.fdiv (2^(min b.toNat k.bits))))
 |.add,.int k a,.int k' b=>if k=k' then some (.int k (k.wrap (a+b)))else none
 |.sub,.int k a,.int k' b=>if k=k' then some (.int k (k.wrap (a -b)))else none
 |.mul,.int k a,.int k' b=>if k=k' then some (.int k (k.wrap (a*b)))else none
 |.quo,.int k a,.int k' b=>if k=k' then(if b=0 then none else some (.int k (k.wrap (a.tdiv b))))else none
 |.rem,.int k a,.int k' b=>if k=k' then(if b=0 then none else some (.int k (a.tmod b)))else none
 |.and,.int k a,.int k' b=>if k=k' then some (.int k (db .and k a b))else none
 |.or,.int k a,.int k' b=>if k=k' then some (.int k (db .or k a b))else none
 |.xor,.int k a,.int k' b=>if k=k' then some (.int k (db .xor k a b))else none
 |.andNot,.int k a,.int k' b=>if k=k' then some (.int k (db .andNot k a b))else none
 |.eql,.int k a,.int k' b=>if k=k' then some (.bool (a==b))else none
 |.neq,.int k a,.int k' b=>if k=k' then some (.bool (a !=b))else none
 |.lss,.int k a,.int k' b=>if k=k' then some (.bool (decide (a<b)))else none
 |.leq,.int k a,.int k' b=>if k=k' then some (.bool (decide (a<=b)))else none
 |.gtr,.int k a,.int k' b=>if k=k' then some (.bool (decide (a>b)))else none
 |.geq,.int k a,.int k' b=>if k=k' then some (.bool (decide (a>=b)))else none
 |.add,.string a,.string b=>if((a.size+b.size:Nat):Int)>IntKind.i64.max then none else some (.string (a++b))
 |.eql,.string a,.string b=>some (.bool (a.toList==b.toList))
 |.neq,.string a,.string b=>some (.bool (!(a.toList==b.toList)))
 |o,x,y=>C9 o x y
def Wi:UnOp->Value->Option Value
 |.neg,.int k n=>some (.int k (k.wrap (0 -n)))
 |.xor,.int k n=>some (.int k (db .xor k (if k.signed then -1 else k.max) n))
 |.not,.bool b=>some (.bool !b)
 |.neg,.float .f64 a=>some (.float .f64 (Fl.neg a))
 |_,_=>none
theorem TV.CS{x:TV}{k:IntKind}{n:Int}(h:x.int?=some (k,n)):x.val=some (.int k n):=by cases x<;>simp[TV.int?]at h<;>obtain⟨rfl,rfl⟩:=h<;>rfl
theorem qA(n:Int)(m:Nat)(h:0<m):(((n%(m:Int)).toNat% m:Nat):Int)=n% m:=by have h1:0<=n%(m:Int):=Int.emod_nonneg _ (by omega);have h2:n%(m:Int)<m:=Int.emod_lt_of_pos _ (by omega);rw[Nat.mod_eq_of_lt (by omega)];omega
theorem xd(n:Int):((UInt8.ofInt n).toNat:Int)=IntKind.u8.wrap n:=by have:IntKind.u8.wrap n=n%(256:Nat):=by{rfl};rw[this,UInt8.ofInt,UInt8.toNat_ofNat'];exact qA n 256 (by decide)
theorem uL(n:Int):((UInt16.ofInt n).toNat:Int)=IntKind.u16.wrap n:=by have:IntKind.u16.wrap n=n%(65536:Nat):=by{rfl};rw[this,UInt16.ofInt,UInt16.toNat_ofNat'];exact qA n 65536 (by decide)
theorem uK(n:Int):((UInt32.ofInt n).toNat:Int)=IntKind.u32.wrap n:=by have:IntKind.u32.wrap n=n%(4294967296:Nat):=by{rfl};rw[this,UInt32.ofInt,UInt32.toNat_ofNat'];exact qA n 4294967296 (by decide)
theorem uJ(n:Int):((UInt64.ofInt n).toNat:Int)=IntKind.u64.wrap n:=by have:IntKind.u64.wrap n=n%(18446744073709551616:Nat):=by{rfl};rw[this,UInt64.ofInt,UInt64.toNat_ofNat'];exact qA n 18446744073709551616 (by decide)
theorem HI(k:IntKind)(n:Int):(Gg k n).val=some (.int k (k.wrap n)):=by cases k<;>simp only[Gg,TV.val,aM,Value.int.injEq,true_and];{exact xd n};{exact uL n};{exact uK n};{exact uJ n}
theorem wrap_u8'(n:Int):IntKind.u8.wrap n=n%256:=by simp[IntKind.wrap,IntKind.bits,IntKind.signed]
theorem ofInt_u8(a:UInt8):BitVec.ofInt 8 (a.toNat:Int)=a.toBitVec:=by simp
theorem ln(n:Int):IntKind.u16.wrap n=n%65536:=by simp[IntKind.wrap,IntKind.bits,IntKind.signed]
theorem ofInt_u16(a:UInt16):BitVec.ofInt 16 (a.toNat:Int)=a.toBitVec:=by simp
theorem wrap_u32'(n:Int):IntKind.u32.wrap n=n%4294967296:=by rfl
theorem ofInt_u32(a:UInt32):BitVec.ofInt 32 (a.toNat:Int)=a.toBitVec:=by simp
theorem lY(n:Int):IntKind.u64.wrap n=n%18446744073709551616:=by rfl
theorem ofInt_u64(a:UInt64):BitVec.ofInt 64 (a.toNat:Int)=a.toBitVec:=by simp
theorem NT {o : BinOp} {a b : UInt8} {ws : List TV} (h : (RG o a b).holds ws) : ∃ x : TV, ws = [x] ∧ ∃ v, x.val = some v ∧ nI o (.int .u8 a.toNat) (.int .u8 b.toNat) = some v := by
  have ha := a.toNat_lt
  have hb := b.toNat_lt
  cases o <;> simp only [RG] at h <;> first | exact h.elim | skip
  all_goals first
    | (obtain ⟨hp, rfl⟩ := h; refine ⟨_, rfl, _, rfl, ?_⟩; simp at hp
       have ta : (b.toNat : Int) ≠ 0 := fun e => hp (UInt8.toNat_inj.1 (by simpa using e))
       simp only [nI, if_true, ta, if_false, aM, Value.int.injEq, true_and, UInt8.toNat_div, UInt8.toNat_mod, wrap_u8', Int.tdiv_eq_ediv_of_nonneg (Int.natCast_nonneg a.toNat), Int.tmod_eq_emod_of_nonneg (Int.natCast_nonneg a.toNat)]
       first | (rw [← Int.natCast_ediv]; have := Nat.div_le_self a.toNat b.toNat; generalize a.toNat / b.toNat = q at this ⊢; omega) | omega)
    | (subst h; refine ⟨_, rfl, _, rfl, ?_⟩
       simp only [nI, if_true, aM, Value.int.injEq, Value.bool.injEq, true_and, wrap_u8', db, IntKind.bits, ofInt_u8, UInt8.toNat_add, UInt8.toNat_sub, UInt8.toNat_mul]
       first | omega | (rw [bo (by omega) (by rfl)]; rfl)
             | (rw [bo (by omega) (by omega)]; rfl)
             | (rw [aN]; simp [← UInt8.toNat_inj]; omega)
             | (rw [aN]; simp [UInt8.lt_iff_toNat_lt, UInt8.le_iff_toNat_le]))
theorem LI {o : BinOp} {a b : UInt16} {ws : List TV} (h : (LJ o a b).holds ws) : ∃ x : TV, ws = [x] ∧ ∃ v, x.val = some v ∧ nI o (.int .u16 a.toNat) (.int .u16 b.toNat) = some v := by
  have ha := a.toNat_lt
  have hb := b.toNat_lt
  cases o <;> simp only [LJ] at h <;> first | exact h.elim | skip
  all_goals first
    | (obtain ⟨hp, rfl⟩ := h; refine ⟨_, rfl, _, rfl, ?_⟩; simp at hp
       have ta : (b.toNat : Int) ≠ 0 := fun e => hp (UInt16.toNat_inj.1 (by simpa using e))
       simp only [nI, if_true, ta, if_false, aM, Value.int.injEq, true_and, UInt16.toNat_div, UInt16.toNat_mod, ln, Int.tdiv_eq_ediv_of_nonneg (Int.natCast_nonneg a.toNat), Int.tmod_eq_emod_of_nonneg (Int.natCast_nonneg a.toNat)]
       first | (rw [← Int.natCast_ediv]; have := Nat.div_le_self a.toNat b.toNat; generalize a.toNat / b.toNat = q at this ⊢; omega) | omega)
    | (subst h; refine ⟨_, rfl, _, rfl, ?_⟩
       simp only [nI, if_true, aM, Value.int.injEq, Value.bool.injEq, true_and, ln, db, IntKind.bits, ofInt_u16, UInt16.toNat_add, UInt16.toNat_sub, UInt16.toNat_mul]
       first | omega | (rw [bo (by omega) (by rfl)]; rfl)
             | (rw [bo (by omega) (by omega)]; rfl)
             | (rw [aN]; simp [← UInt16.toNat_inj]; omega)
             | (rw [aN]; simp [UInt16.lt_iff_toNat_lt, UInt16.le_iff_toNat_le]))
theorem LG {o : BinOp} {a b : UInt32} {ws : List TV} (h : (LH o a b).holds ws) : ∃ x : TV, ws = [x] ∧ ∃ v, x.val = some v ∧ nI o (.int .u32 a.toNat) (.int .u32 b.toNat) = some v := by
  have ha := a.toNat_lt
  have hb := b.toNat_lt
  cases o <;> simp only [LH] at h <;> first | exact h.elim | skip
  all_goals first
    | (obtain ⟨hp, rfl⟩ := h; refine ⟨_, rfl, _, rfl, ?_⟩; simp at hp
       have ta : (b.toNat : Int) ≠ 0 := fun e => hp (UInt32.toNat_inj.1 (by simpa using e))
       simp only [nI, if_true, ta, if_false, aM, Value.int.injEq, true_and, UInt32.toNat_div, UInt32.toNat_mod, wrap_u32', Int.tdiv_eq_ediv_of_nonneg (Int.natCast_nonneg a.toNat), Int.tmod_eq_emod_of_nonneg (Int.natCast_nonneg a.toNat)]
       first | (rw [← Int.natCast_ediv]; have := Nat.div_le_self a.toNat b.toNat; generalize a.toNat / b.toNat = q at this ⊢; omega) | omega)
    | (subst h; refine ⟨_, rfl, _, rfl, ?_⟩
       simp only [nI, if_true, aM, Value.int.injEq, Value.bool.injEq, true_and, wrap_u32', db, IntKind.bits, ofInt_u32, UInt32.toNat_add, UInt32.toNat_sub, UInt32.toNat_mul]
       first | omega | (rw [bo (by omega) (by rfl)]; rfl)
             | (rw [bo (by omega) (by omega)]; rfl)
             | (rw [aN]; simp [← UInt32.toNat_inj]; omega)
             | (rw [aN]; simp [UInt32.lt_iff_toNat_lt, UInt32.le_iff_toNat_le]))
theorem LD {o : BinOp} {a b : UInt64} {ws : List TV} (h : (LF o a b).holds ws) : ∃ x : TV, ws = [x] ∧ ∃ v, x.val = some v ∧ nI o (.int .u64 a.toNat) (.int .u64 b.toNat) = some v := by
  have ha := a.toNat_lt
  have hb := b.toNat_lt
  cases o <;> simp only [LF] at h <;> first | exact h.elim | skip
  all_goals first
    | (obtain ⟨hp, rfl⟩ := h; refine ⟨_, rfl, _, rfl, ?_⟩; simp at hp
       have ta : (b.toNat : Int) ≠ 0 := fun e => hp (aU.1 (by simpa using e))
       simp only [nI, if_true, ta, if_false, aM, Value.int.injEq, true_and, UInt64.toNat_div, UInt64.toNat_mod, lY, Int.tdiv_eq_ediv_of_nonneg (Int.natCast_nonneg a.toNat), Int.tmod_eq_emod_of_nonneg (Int.natCast_nonneg a.toNat)]
       first | (rw [← Int.natCast_ediv]; have := Nat.div_le_self a.toNat b.toNat; generalize a.toNat / b.toNat = q at this ⊢; omega) | omega)
    | (subst h; refine ⟨_, rfl, _, rfl, ?_⟩
       simp only [nI, if_true, aM, Value.int.injEq, Value.bool.injEq, true_and, lY, db, IntKind.bits, ofInt_u64, UInt64.toNat_add, UInt64.toNat_sub, UInt64.toNat_mul]
       first | omega | (rw [bo (by omega) (by rfl)]; rfl)
             | (rw [bo (by omega) (by omega)]; rfl)
             | (rw [aN]; simp [← aU]; omega)
             | (rw [aN]; simp [aI, aJ]))
theorem wD{a n b m:Nat}(hm:m=2^b):(a*2^(min n b))% m=(a*2^n)% m:=by subst hm;by_cases h:n<=b;{simp_all};{rw[Nat.min_eq_right (by omega),show n=b+(n -b) by omega,Nat.pow_add,<-Nat.mul_assoc,Nat.mul_mod_left,Nat.mul_right_comm,Nat.mul_mod_left]}
theorem wB{a n b m:Nat}(hm:m=2^b)(ha:a<m):a/2^(min n b)=(a/2^n)% m:=by subst hm;rw[Nat.mod_eq_of_lt (Nat.lt_of_le_of_lt (Nat.div_le_self _ _) ha)];by_cases h:n<=b;{simp_all};{rw[Nat.min_eq_right (by omega),Nat.div_eq_of_lt ha,Nat.div_eq_of_lt (Nat.lt_of_lt_of_le ha (Nat.pow_le_pow_right (by omega) (by omega)))]}
theorem oq(l:bD):ByteArray.toList ⟨⟨l⟩⟩=l:=by rw[ByteArray.toList_eq]
def qK.Gm(r:qK)(P:TV->Prop):Prop:=∀ws,r.holds ws->∃x:TV,ws=[x]/\P x
def L6(o:BinOp)(x y:TV)(z:TV):Prop:=∃a b v,x.val=some a/\y.val=some b/\nI o a b=some v/\z.val=some v
theorem vI{p:Option Bool}{ws r:List TV}(h:(qK.under p ws).holds r):r=ws/\∀b,p=some b->b=true:=by
 cases p with
 |none=>exact⟨h,λ_ e=>by cases e⟩
 |some p=>exact⟨h.2,λ_ e=>by cases e;exact h.1⟩
theorem Ah{y:TV}{p:Option Bool}{n:Nat}(h:y.count=some (p,n))(hp:∀b,p=some b->b=true):∃k m,y.val=some (.int k m)/\0<=m/\m.toNat=n:=by cases y<;>simp[TV.count]at h<;>obtain⟨rfl,rfl⟩:=h;{exact⟨_,_,rfl,by omega,by omega⟩};{exact⟨_,_,rfl,by omega,by omega⟩};{exact⟨_,_,rfl,by omega,by omega⟩};{exact⟨_,_,rfl,by omega,by omega⟩};{rename_i k m;have:=hp _ rfl;exact⟨_,_,rfl,by simpa using this,rfl⟩}
theorem MG(a:UInt8)(n:Nat):IntKind.u8.wrap ((a.toNat:Int)*2^(min n 8))=((oe a n).toNat:Int):=by rw[wrap_u8',oe,UInt8.toNat_ofNat',show((a.toNat:Int)*2^(min n 8))=((a.toNat*2^(min n 8):Nat):Int) by simp];have:=wD (a:=a.toNat) (n:=n) (b:=8) (m:=256) (by decide);omega
theorem ME(a:UInt8)(n:Nat):IntKind.u8.wrap ((a.toNat:Int).fdiv (2^(min n 8)))=((nP a n).toNat:Int):=by rw[wrap_u8',nP,UInt8.toNat_ofNat',Int.fdiv_eq_ediv_of_nonneg _ (Int.le_of_lt (Int.pow_pos (by decide))),show((a.toNat:Int)/2^(min n 8))=((a.toNat/2^(min n 8):Nat):Int) by simp];have:=wB (a:=a.toNat) (n:=n) (b:=8) (m:=256) (by decide) (by have:=a.toNat_lt;simpa using this);omega
theorem Jc(a:UInt16)(n:Nat):IntKind.u16.wrap ((a.toNat:Int)*2^(min n 16))=((Jd a n).toNat:Int):=by rw[ln,Jd,UInt16.toNat_ofNat',show((a.toNat:Int)*2^(min n 16))=((a.toNat*2^(min n 16):Nat):Int) by simp];have:=wD (a:=a.toNat) (n:=n) (b:=16) (m:=65536) (by decide);omega
theorem I9(a:UInt16)(n:Nat):IntKind.u16.wrap ((a.toNat:Int).fdiv (2^(min n 16)))=((tp a n).toNat:Int):=by rw[ln,tp,UInt16.toNat_ofNat',Int.fdiv_eq_ediv_of_nonneg _ (Int.le_of_lt (Int.pow_pos (by decide))),show((a.toNat:Int)/2^(min n 16))=((a.toNat/2^(min n 16):Nat):Int) by simp];have:=wB (a:=a.toNat) (n:=n) (b:=16) (m:=65536) (by decide) (by have:=a.toNat_lt;simpa using this);omega
theorem Jb(a:UInt32)(n:Nat):IntKind.u32.wrap ((a.toNat:Int)*2^(min n 32))=((tq a n).toNat:Int):=by rw[wrap_u32',tq,UInt32.toNat_ofNat',show((a.toNat:Int)*2^(min n 32))=((a.toNat*2^(min n 32):Nat):Int) by simp];have:=wD (a:=a.toNat) (n:=n) (b:=32) (m:=4294967296) (by decide);omega
theorem I8(a:UInt32)(n:Nat):IntKind.u32.wrap ((a.toNat:Int).fdiv (2^(min n 32)))=((xn a n).toNat:Int):=by rw[wrap_u32',xn,UInt32.toNat_ofNat',Int.fdiv_eq_ediv_of_nonneg _ (Int.le_of_lt (Int.pow_pos (by decide))),show((a.toNat:Int)/2^(min n 32))=((a.toNat/2^(min n 32):Nat):Int) by simp];have:=wB (a:=a.toNat) (n:=n) (b:=32) (m:=4294967296) (by decide) (by have:=a.toNat_lt;simpa using this);omega
theorem Ja(a:UInt64)(n:Nat):IntKind.u64.wrap ((a.toNat:Int)*2^(min n 64))=((iS a n).toNat:Int):=by rw[lY,iS,UInt64.toNat_ofNat',show((a.toNat:Int)*2^(min n 64))=((a.toNat*2^(min n 64):Nat):Int) by simp];have:=wD (a:=a.toNat) (n:=n) (b:=64) (m:=18446744073709551616) (by decide);omega
theorem I7(a:UInt64)(n:Nat):IntKind.u64.wrap ((a.toNat:Int).fdiv (2^(min n 64)))=((cE a n).toNat:Int):=by rw[lY,cE,UInt64.toNat_ofNat',Int.fdiv_eq_ediv_of_nonneg _ (Int.le_of_lt (Int.pow_pos (by decide))),show((a.toNat:Int)/2^(min n 64))=((a.toNat/2^(min n 64):Nat):Int) by simp];have:=wB (a:=a.toNat) (n:=n) (b:=64) (m:=18446744073709551616) (by decide) (by have:=a.toNat_lt;simpa using this);omega
theorem wC{w:Nat}{m:Int}(a:Nat)(k:Nat)(h:(a:Int)<m):0<=(a:Int).fdiv (2^k)/\(a:Int).fdiv (2^k)<m:=by rw[Int.fdiv_eq_ediv_of_nonneg _ (Int.le_of_lt (Int.pow_pos (by decide)))];refine⟨Int.ediv_nonneg (by omega) (Int.le_of_lt (Int.pow_pos (by decide))),?_⟩;rw[show((a:Int)/2^k)=((a/2^k:Nat):Int) by simp];have:=Nat.div_le_self a (2^k);omega
theorem MF(x y:TV):(PQ x y).Gm (L6 .shl x y):=by intro ws h;unfold PQ at h;split at h;{rename_i p n hc;have key:∀{r:TV}{u:IntKind}{a:Int},(qK.under p [r]).holds ws->x.val=some (.int u a)->r.val=some (.int u (u.wrap (a*2^(min n u.bits))))->∃z:TV,ws=[z]/\L6 .shl x y z:=by{intro r u a h hx hr;obtain⟨rfl,hp⟩:=vI h;obtain⟨k,m,h1,h2,rfl⟩:=Ah hc hp;refine⟨_,rfl,_,_,_,hx,h1,?_,hr⟩;simp only[nI,Int.not_lt.2 h2,if_false]};split at h;{exact key h rfl (by rw[show IntKind.u8.bits=8 from rfl,MG];rfl)};{exact key h rfl (by rw[show IntKind.u16.bits=16 from rfl,Jc];rfl)};{exact key h rfl (by rw[show IntKind.u32.bits=32 from rfl,Jb];rfl)};{exact key h rfl (by rw[show IntKind.u64.bits=64 from rfl,Ja];rfl)};{exact key h rfl rfl};{exact h.elim}};{exact h.elim}
theorem MD(x y:TV):(PO x y).Gm (L6 .shr x y):=by intro ws h;unfold PO at h;split at h;{rename_i p n hc;have key:∀{r:TV}{u:IntKind}{a:Int},(qK.under p [r]).holds ws->x.val=some (.int u a)->r.val=some (.int u (a.fdiv (2^(min n u.bits))))->∃z:TV,ws=[z]/\L6 .shr x y z:=by{intro r u a h hx hr;obtain⟨rfl,hp⟩:=vI h;obtain⟨k,m,h1,h2,rfl⟩:=Ah hc hp;refine⟨_,rfl,_,_,_,hx,h1,?_,hr⟩;simp only[nI,Int.not_lt.2 h2,if_false]};split at h;{rename_i a;have q:=wC (w:=0) a.toNat (min n 8) (m:=256) (by have:=a.toNat_lt;simp at this;omega);exact key h rfl (by rw[show IntKind.u8.bits=8 from rfl];simp only[TV.val];rw[<-ME,wrap_u8',bo q.1 q.2])};{rename_i a;have q:=wC (w:=0) a.toNat (min n 16) (m:=65536) (by have:=a.toNat_lt;simp at this;omega);exact key h rfl (by rw[show IntKind.u16.bits=16 from rfl];simp only[TV.val];rw[<-I9,ln,bo q.1 q.2])};{rename_i a;have q:=wC (w:=0) a.toNat (min n 32) (m:=4294967296) (by have:=a.toNat_lt;simp at this;omega);exact key h rfl (by rw[show IntKind.u32.bits=32 from rfl];simp only[TV.val];rw[<-I8,wrap_u32',bo q.1 q.2])};{rename_i a;have q:=wC (w:=0) a.toNat (min n 64) (m:=18446744073709551616) (by have:=a.toNat_lt;simp at this;omega);exact key h rfl (by rw[show IntKind.u64.bits=64 from rfl];simp only[TV.val];rw[<-I7,lY,bo q.1 q.2])};{exact key h rfl rfl};{exact h.elim}};{exact h.elim}
theorem NS{o:BinOp}{k:IntKind}{a b:Int}{ws:List TV}(h:(RF o k a b).holds ws):∃x:TV,ws=[x]/\∃v,x.val=some v/\nI o (.int k a) (.int k b)=some v:=by
 (cases o<;>simp only[RF,qK.holds]at h<;>first|exact h.elim|skip);all_goals first
  |(obtain⟨hp,rfl⟩:=h;refine⟨_,rfl,_,rfl,?_⟩;simp only[Bool.not_eq_true',decide_eq_false_iff_not]at hp;simp only[nI,if_true,hp,if_false])
  |(subst h;refine⟨_,rfl,_,rfl,?_⟩;simp only[nI,if_true,aM,Value.bool.injEq];first|done|(rw[aN];simp))
theorem NR{o:BinOp}{a b:bD}{ws:List TV}(h:(RE o a b).holds ws):∃x:TV,ws=[x]/\∃v,x.val=some v/\nI o (.string ⟨⟨a⟩⟩) (.string ⟨⟨b⟩⟩)=some v:=by(cases o<;>simp only[RE,qK.holds]at h<;>first|exact h.elim|skip);{obtain⟨hp,rfl⟩:=h;refine⟨_,rfl,_,rfl,?_⟩;simp only[nI];have hp:a.length+b.length<=9223372036854775807:=by{simpa using hp};rw[ao];{simp only[aM,Value.string.injEq];apply ByteArray.ext;apply Array.ext';simp};{have:IntKind.i64.max=9223372036854775807:=by{decide};rw[this];simp only[ByteArray.size,Array.size];omega}};{subst h;refine⟨_,rfl,_,rfl,?_⟩;simp only[nI,oq,aM,Value.bool.injEq];rw[aN];simp};{subst h;refine⟨_,rfl,_,rfl,?_⟩;simp only[nI,oq,aM,Value.bool.injEq];rw[aN];simp};{subst h;refine⟨_,rfl,_,rfl,?_⟩;show some (Value.bool _)=_;simp only[oq]};{subst h;refine⟨_,rfl,_,rfl,?_⟩;show some (Value.bool _)=_;have e:(a==b)=decide (a=b):=by{rw[aN];simp};simp only[oq,e]};{subst h;refine⟨_,rfl,_,rfl,?_⟩;show some (Value.bool _)=_;have e:(a==b)=decide (a=b):=by{rw[aN];simp};simp only[oq,e]};{subst h;refine⟨_,rfl,_,rfl,?_⟩;show some (Value.bool _)=_;simp only[oq]}
theorem NB{o:BinOp}{a b:Value}{ws:List TV}(h:(Q9 o a b).holds ws):∃x:TV,ws=[x]/\∃v,C9 o a b=some v/\x.val=some v:=by unfold Q9 at h;split at h;{obtain⟨h1,rfl⟩:=h;exact⟨_,rfl,_,ar h1,rfl⟩};{obtain⟨h1,rfl⟩:=h;exact⟨_,rfl,_,ar h1,rfl⟩};{obtain⟨h1,rfl⟩:=h;exact⟨_,rfl,_,ar h1,rfl⟩};{cases h;exact⟨_,rfl,_,rfl,rfl⟩};{cases h;exact⟨_,rfl,_,rfl,rfl⟩};{cases h;exact⟨_,rfl,_,rfl,rfl⟩};{cases h;exact⟨_,rfl,_,rfl,rfl⟩};{cases h;exact⟨_,rfl,_,rfl,rfl⟩};{cases h;exact⟨_,rfl,_,rfl,rfl⟩};{obtain⟨h1,rfl⟩:=h;exact⟨_,rfl,_,ar h1,rfl⟩};{obtain⟨h1,rfl⟩:=h;exact⟨_,rfl,_,ar h1,rfl⟩};{exact h.elim}
theorem HZ{o:BinOp}{a b v:Value}(h:C9 o a b=some v)(h1:wK o=none):nI o a b=some v:=by unfold C9 at h;split at h<;>first|(cases h;done)|exact h
theorem NP(o:BinOp)(x y:TV):(NQ o x y).Gm (L6 o x y):=by intro ws h;unfold NQ at h;split at h;{rename_i e;have:o=.shl:=by{cases o<;>simp[wK]at e⊢};subst this;exact MF x y ws h};{rename_i e;have:o=.shr:=by{cases o<;>simp[wK]at e⊢};subst this;exact MD x y ws h};{split at h;{obtain⟨x,h1,v,h2,h3⟩:=NT h;exact⟨x,h1,_,_,v,rfl,rfl,h3,h2⟩};{obtain⟨x,h1,v,h2,h3⟩:=LI h;exact⟨x,h1,_,_,v,rfl,rfl,h3,h2⟩};{obtain⟨x,h1,v,h2,h3⟩:=LG h;exact⟨x,h1,_,_,v,rfl,rfl,h3,h2⟩};{obtain⟨x,h1,v,h2,h3⟩:=LD h;exact⟨x,h1,_,_,v,rfl,rfl,h3,h2⟩};{split at h;{rename_i e;subst e;obtain⟨x,h1,v,h2,h3⟩:=NS h;exact⟨x,h1,_,_,v,rfl,rfl,h3,h2⟩};{exact h.elim}};{obtain⟨x,h1,v,h2,h3⟩:=NR h;exact⟨x,h1,_,_,v,rfl,rfl,h3,h2⟩};{rename_i e _ _ _ _;obtain⟨x,h1,v,h2,h3⟩:=NB h;exact⟨x,h1,_,_,v,rfl,rfl,HZ h2 (by assumption),h3⟩};{exact h.elim}}
theorem M0(a:UInt8):db .xor .u8 (if IntKind.u8.signed then -1 else IntKind.u8.max) a.toNat=((~~~a).toNat:Int):=by have em:(if IntKind.u8.signed then(-1:Int)else IntKind.u8.max)=255:=by{decide};have e:BitVec.ofInt 8 255=BitVec.allOnes 8:=by{decide};rw[em];simp only[db,IntKind.bits];rw[e,ofInt_u8,wrap_u8'];show(((BitVec.allOnes 8^^^a.toBitVec:BitVec 8).toNat:Int))%256=_;rw[BitVec.allOnes_xor];have:=(~~~a).toNat_lt;simp only[UInt8.toNat,UInt8.toBitVec_not]at this⊢;omega
theorem JK(a:UInt16):db .xor .u16 (if IntKind.u16.signed then -1 else IntKind.u16.max) a.toNat=((~~~a).toNat:Int):=by have em:(if IntKind.u16.signed then(-1:Int)else IntKind.u16.max)=65535:=by{decide};have e:BitVec.ofInt 16 65535=BitVec.allOnes 16:=by{decide};rw[em];simp only[db,IntKind.bits];rw[e,ofInt_u16,ln];show(((BitVec.allOnes 16^^^a.toBitVec:BitVec 16).toNat:Int))%65536=_;rw[BitVec.allOnes_xor];have:=(~~~a).toNat_lt;simp only[UInt16.toNat,UInt16.toBitVec_not]at this⊢;omega
theorem JJ(a:UInt32):db .xor .u32 (if IntKind.u32.signed then -1 else IntKind.u32.max) a.toNat=((~~~a).toNat:Int):=by have em:(if IntKind.u32.signed then(-1:Int)else IntKind.u32.max)=4294967295:=by{decide};have e:BitVec.ofInt 32 4294967295=BitVec.allOnes 32:=by{decide};rw[em];simp only[db,IntKind.bits];rw[e,ofInt_u32,wrap_u32'];show(((BitVec.allOnes 32^^^a.toBitVec:BitVec 32).toNat:Int))%4294967296=_;rw[BitVec.allOnes_xor];have:=(~~~a).toNat_lt;simp only[UInt32.toNat,UInt32.toBitVec_not]at this⊢;omega
theorem JI(a:UInt64):db .xor .u64 (if IntKind.u64.signed then -1 else IntKind.u64.max) a.toNat=((~~~a).toNat:Int):=by have em:(if IntKind.u64.signed then(-1:Int)else IntKind.u64.max)=18446744073709551615:=by{decide};have e:BitVec.ofInt 64 18446744073709551615=BitVec.allOnes 64:=by{decide};rw[em];simp only[db,IntKind.bits];rw[e,ofInt_u64,lY];show(((BitVec.allOnes 64^^^a.toBitVec:BitVec 64).toNat:Int))%18446744073709551616=_;rw[BitVec.allOnes_xor];have:=(~~~a).toNat_lt;simp only[UInt64.toNat,UInt64.toBitVec_not]at this⊢;omega
theorem Pw (o : UnOp) (x : TV) : (U8 o x).Gm (fun z => ∃ a v, x.val = some a ∧ Wi o a = some v ∧ z.val = some v) := by
  intro ws h
  unfold U8 at h
  split at h <;> first
    | exact h.elim
    | (cases h; exact ⟨_, rfl, _, _, rfl, rfl, rfl⟩)
    | (cases h; refine ⟨_, rfl, _, _, rfl, rfl, ?_⟩
       rename_i a
       have := a.toNat_lt
       simp only [TV.val, aM, Value.int.injEq, true_and]
       first
         | (rw [wrap_u8', UInt8.toNat_sub]; simp; omega)
         | (rw [ln, UInt16.toNat_sub]; simp; omega)
         | (rw [wrap_u32', UInt32.toNat_sub]; simp; omega)
         | (rw [lY, UInt64.toNat_sub]; simp; omega)
         | exact (M0 a).symm | exact (JK a).symm | exact (JJ a).symm | exact (JI a).symm)
def rC(P:Program)(t:TypeId):Bool:=match P.underlying t with
 |some (.struct fs)=>fs.toList.all λf=>(P.info? f.type).isSome
 |some (.array _ e)=>(P.info? e).isSome
 |_=>false
structure kB (P:Program) (E:cH):Prop where
 mixed:P.follows .mixedOrders=true
 ty:∀t st b,E.ty t=some (st,b)->∃e i z,P.underlying t=some (.slice e)/\P.info? e=some i/\i.size=st.size/\i.bytes=b/\i.zero=some z/\z.cells.size=st.size/\∀R w,dJ R w (st.tv st.fS).cells z.cells.toList
 z:∀t l,E.z t=some l->rC P t=true/\∃v,(P.info? t).bind (·.zero)=some v/\qL v.cells.toList l=true
section
variable{R:Reach}{w:World}
theorem Nl {k : IntKind} {n : Int} {x : TV} (h : Qg k n = some x) : x.val = some (.int k n) := by
  unfold Qg at h
  split at h <;> first
    | (obtain ⟨h1, h2⟩ := bK.1 h
       cases h2
       simp only [af, aD] at h1
       simp [TV.val]
       omega)
    | (cases h; rfl)
theorem MC(s:ByteArray):(⟨⟨s.data.toList⟩⟩:ByteArray)=s:=rfl
theorem PT{v:Value}{x:TV}(h:Wr v=some x):x.val=some v:=by unfold Wr at h;split at h<;>first|exact Nl h|(cases h;done)|(cases h;rfl)
theorem wY{v:Value}{x:TV}(h:Fy v x=true):Rep R w x v/\v.oneCell'=true:=by unfold Fy at h;(split at h<;>first|(cases h;done)|skip);{exact⟨.nl _,rfl⟩};(all_goals simp only[beq_iff_eq,af]at h);{subst h;exact⟨.sc rfl,rfl⟩};{subst h;exact⟨.sc rfl,rfl⟩};{subst h;exact⟨.sc rfl,rfl⟩};{subst h;exact⟨.sc rfl,rfl⟩};{subst h;exact⟨.sc rfl,rfl⟩};{obtain⟨rfl,rfl⟩:=h;exact⟨.sc rfl,rfl⟩};{subst h;exact⟨.sc (by simp only[TV.val,MC]),rfl⟩};{obtain⟨rfl,rfl⟩:=h;exact⟨.sc rfl,rfl⟩};{obtain⟨⟨rfl,rfl⟩,rfl⟩:=h;exact⟨.sc rfl,rfl⟩};{exact⟨.sc rfl,rfl⟩};{exact⟨.sc rfl,rfl⟩};{exact⟨.sc rfl,rfl⟩}
theorem rJ:∀{vs:List Value}{xs:List TV},qL vs xs=true->dJ R w xs vs
 |[],[],_=>.nil
 |v::vs,x::xs,h=>by simp only[qL,af]at h;exact .cons (wY (R:=R) (w:=w) h.1).2 (wY h.1).1 (rJ h.2)
 |[],_::_,h=>by simp[qL]at h
 |_::_,[],h=>by simp[qL]at h
theorem Rep.dN{x:TV}{u v:Value}(h:Rep R w x v)(hx:x.val=some u):v=u:=by cases h<;>first|(simp[TV.val]at hx;done)|(rename_i h;rw[h]at hx;exact Option.some.inj hx)
end
section
variable{P:Program}
theorem gS{t:TypeId}{n:Nat}{agg:Bool}(h:kF P t=some (n,agg)):∃i,P.info? t=some i/\i.size=n/\∀w,(isAgg t).run P w=.ok agg w:=by unfold kF at h;rw[aV]at h;obtain⟨i,h1,h2⟩:=h;rw[aW]at h2;obtain⟨d,hd,h2⟩:=h2;simp only[Prod.mk.injEq]at h2;refine⟨i,h1,h2.1,λw=>?_⟩;unfold isAgg;simp only[Sem.run_bind,run_underlying hd,Result.andThen_ok];rw[<-h2.2];cases d<;>rfl
theorem wb{t:TypeId}{f:Nat}{fl:Field}(h:vo P t f=some fl):∃fs,P.underlying t=some (.struct fs)/\fs[f]?=some fl:=by
 unfold vo at h;cases hu:P.underlying t with
 |none=>simp[hu]at h
 |some d=>simp only[hu,Option.bind_some]at h;split at h<;>simp_all
theorem run_sizeOf{t:TypeId}{i:TypeInfo}(h:P.info? t=some i)(w:World):(sizeOf t).run P w=.ok i.size w:=by simp[sizeOf,typeInfo,h]
theorem kj{t:TypeId}{i:TypeInfo}{agg:Bool}(hi:P.info? t=some i)(ha:∀w,(isAgg t).run P w=.ok agg w)(h1:agg=true\/i.size=1){w:World}{b off:Nat}{ys:List Value}(hl:ys.length=i.size)(hc:∀j y,ys[j]?=some y->w.cell? ⟨b,off+j,none⟩=some y):(loadVar t ⟨b,off,none⟩).run P w=.ok (if agg then .agg ⟨ys⟩else ys.headD undef) w:=by
 unfold loadVar;simp only[Sem.run_bind,ha,Result.andThen_ok];cases agg with
 |true=>
  have:=run_loadCells_list (P:=P) w ⟨b,off,none⟩ ys (λj v hj=>by
   have h:=hc j v hj;unfold Addr.add;split;{rename_i e;subst e;exact h}
   ·exact h)
  simp[run_sizeOf hi,<-hl,this]
 |false=>
  have hs:i.size=1:=by{simpa using h1};match ys,hl with
  |[y],_=>have:=hc 0 y rfl;simp at this;simp[this]
  |[],hl=>simp[hs]at hl
  |_::_::_,hl=>simp[hs]at hl
end
theorem I2{α:Type}{l:List α}{i:Nat}(h:i<l.length):(l.drop i).take 1=[l[i]]:=by rw[List.drop_eq_getElem_cons h,List.take_succ_cons,List.take_zero]
theorem bsize(b:ByteArray):b.data.toList.length=b.size:=by rw[Array.length_toList];rfl
theorem addr_add(b off n:Nat):(⟨b,off,none⟩:Addr).add n=⟨b,off+n,none⟩:=by unfold Addr.add;split;{rename_i e;subst e;rfl};{rfl}
section
variable{R:Reach}{w:World}
theorem Rep.Eo{t:fF}{l:List t.El}{y:Value}(h:Rep R w (.sl t l) y):(l=[]/\y=.slice none 0 0)\/(∃b off cap,y=.slice (some ⟨b,off,none⟩) l.length cap/\l.length<=cap/\cap<=maxLen/\lX R w t.size (l.map t.tv) b off)\/(l=[]/\∃ad cap,y=.slice (some ad) 0 cap/\cap<=maxLen):=by
 cases h with
 |sc h=>cases h
 |sn=>exact .inl ⟨rfl,rfl⟩
 |sl h1 h2 h3 h4=>subst h1;exact .inr (.inl ⟨_,_,_,rfl,h2,h3,h4⟩)
 |em _ h=>exact .inr (.inr ⟨rfl,_,_,rfl,h⟩)
theorem Rep.Ey{x:TV}{y:Value}(h:Rep R w (.ro x) y):∃b off s,y=.pointer (some ⟨b,off,none⟩)/\od R w s x b off:=by
 cases h with
 |sc h=>cases h
 |ro h=>exact⟨_,_,_,rfl,h⟩
theorem Rep.LW{cs:List TV}{y:Value}(h:Rep R w (.ag cs) y):∃ys,y=.agg ⟨ys⟩/\dJ R w cs ys:=by
 cases h with
 |sc h=>cases h
 |ag h=>exact⟨_,rfl,h⟩
theorem Rep.PC{cs:List TV}{y:Value}(h:Rep R w (.tu cs) y):∃ys,y=.tuple ⟨ys⟩/\jf R w cs ys:=by
 cases h with
 |sc h=>cases h
 |tu h=>exact⟨_,rfl,h⟩
theorem Tp{x:TV}{ys:List Value}(h:dJ R w x.cells ys):Rep R w x (if x.wq then .agg ⟨ys⟩else ys.headD undef):=by
 cases x with
 |ag cs=>exact .ag h
 |_=>
  simp only[TV.cells,TV.wq]at h⊢;cases h with
  |cons _ h1 h2=>cases h2;simpa using h1
theorem qZ{cs:List TV}{ys:List Value}{o n:Nat}{agg:Bool}{x:TV}(h:dJ R w cs ys)(hp:ph cs o n agg=some x)(h1:agg=true\/n=1):((ys.drop o).take n).length=n/\Rep R w x (if agg then .agg ⟨(ys.drop o).take n⟩else((ys.drop o).take n).headD undef):=by
 have hlen:=h.length;unfold ph at hp;cases agg with
 |true=>
  cases hb:Nat.ble (o+n) cs.length with
  |true=>rw[hb]at hp;cases hp;have:=Nat.le_of_ble_eq_true hb;exact⟨by simp;omega,.ag ((h.drop o).take n)⟩
  |false=>rw[hb]at hp;cases hp
 |false=>simp at h1;subst h1;simp at hp;obtain⟨y,HL,_,HK⟩:=h.get o x hp;have gr:=(aH.1 HL).1;refine⟨by simp;omega,?_⟩;have:(ys.drop o).take 1=[y]:=by{rw[I2 gr,(aH.1 HL).2]};simpa[this]using HK
end
section
variable{C:Ctx}{S V:St}{a:Act}{w:World}{R:Reach}{τ:Nat->Value}{o:Oper}{d:Nat}
theorem eY.no{x:TV}{v:Value}(h:Rep R w x v):eY R w τ x .no v:=by
 cases x with
 |gd q x=>cases q with
  |false=>cases h with
   |sc h=>cases h
   |Un=>rfl
  |true=>cases h with
   |sc h=>cases h
   |Sq h=>exact h
 |_=>exact h
def fx(C:Ctx)(o:Oper)(a:Act)(w:World)(S:St):Prop:=∀(K:Act->World->Prop)(Q:Exit->Act->World->Prop),(∀a' w',wX C S a' w'->K a' w')->o.wp C.P a w K Q
theorem fD.fz(h:fD C S a w R τ){S':St}{R':Reach}(hc:Core C.nt R' w C.dV τ S')(k:Fz C.dV R w R'):fD C S' a w R' τ:={h with core:=hc,ext:=h.ext.reach k.1 k.2,gl:=h.gl.dX k.1}
theorem fD.val(h:fD C S a w R τ)(hd:o.dst=some d)(hl:d<C.nt){v:Value}{x:TV}{g:Gh}(hr:(execOp a.eval o).run C.P w=.ok (.value v) w)(hs:eY R w τ x g v)(hg:g.slot=true)(hm:∀k∈g.dt,C.nt<=k/\(S k).2≠.no):fx C o a w (cR S d (x,g)):=λK Q hK=>by unfold Oper.wp;rw[hr,Oper.upon_value,hd];refine hK _ _ ⟨R,_,by simp[Act.put,h.size],h.defers,h.core.put hl hs hg hm,λt ht=>?_,⟨h.io.1,λk hk=>?_⟩,h.ext,h.gl⟩;{by_cases e:t=d;{subst e;rw[gZ];simp[Act.put,Array.getD,h.size,ht]};{rw[iQ _ _ e,<-h.tmps t ht];simp only[Act.put,Array.getD_eq_getD_getElem?];rw[Array.getElem?_setIfInBounds_ne (Ne.symm e)]}};{have:=h.io.1;rw[iQ _ _ (by omega)];exact h.io.2 k hk}
theorem fD.iL(h:fD C S a w R τ)(hd:o.dst=some d)(hl:d<C.nt){v:Value}{x:TV}(hr:(execOp a.eval o).run C.P w=.ok (.value v) w)(hs:Rep R w x v):fx C o a w (cR S d (x,.no)):=h.val hd hl hr (.no hs) rfl (by simp[Gh.dt])
theorem eY.at{x:TV}{g:Gh}{v:Value}(h:eY R w τ x g v)(hx:∀q y,x≠.gd q y):kU R w τ x g v:=by unfold eY at h;split at h;{exact(hx _ _ rfl).elim};{exact(hx _ _ rfl).elim};{exact h}
variable(h:fD C S a w R τ)(hV:Lt V S)
include h hV
theorem gV{t:TypeId}{x:Operand}{c:Cell}(he:gR C.E C.nt V t x=some c):eY R w τ c.1 c.2 (a.eval x)/\c.2.slot=true/\∀m∈c.2.dt,C.nt<=m/\(S m).2≠.no:=by unfold gR at he;split at he;{rename_i i;obtain⟨h1,h2⟩:=bK.1 he;have hi:i<C.nt:=Nat.le_of_ble_eq_true h1;split at h2;{cases h2};{rename_i hn;cases h2;have e:V i=S i:=(hV i).resolve_right λe=>hn (V i).1 (by rw[<-e]);have hk:=h.core.key i;have hs:=h.core.slt i hi;rw[kA.slot hs]at hk;rw[e];exact⟨by simp only[Act.eval];rw[h.tmps i hi];exact hk,hs,h.core.inv i⟩}};{rename_i v;simp only[aW]at he;obtain⟨y,h1,rfl⟩:=he;refine⟨?_,rfl,by simp[Gh.dt]⟩;have hr:Rep R w y v:=by{unfold Lj at h1;split at h1;{simp only[aW]at h1;obtain⟨p,_,rfl⟩:=h1;exact .nl _};{rename_i cs;rw[aV]at h1;obtain⟨z,_,h1⟩:=h1;obtain⟨h2,h3⟩:=bK.1 h1;cases h3;clear h1;cases cs;exact .ag (rJ h2)};{exact .sc (PT h1)}};exact .no hr};{cases he;exact⟨Rep.sc rfl,rfl,by simp[Gh.dt]⟩};{cases he}
theorem fu{t:TypeId}{x:Operand}{y:TV}(he:gR C.E C.nt V t x=some (y,.no)):Rep R w y (a.eval x):=kU.rep (gV h hV he).1
theorem pr{x:Operand}{n:Int}(he:sW C.E C.nt V x=some n):∃k,a.eval x=.int k n:=by unfold sW at he;split at he;{rename_i y e;simp only[aW]at he;obtain⟨⟨k,m⟩,h1,rfl⟩:=he;exact⟨k,(fu h hV e).dN (TV.CS h1)⟩};{cases he}
theorem AH{t:TypeId}{x:Operand}{c:Cell}{y:TV}(he:gR C.E C.nt V t x=some c)(hr:yV V c=some y):(∃t l,y=.sl t l/\∃k,c=(.pt,.fo k)/\a.eval x=τ k/\∃p,fX R w p (a.eval x) y)\/Rep R w y (a.eval x):=by
 obtain⟨h1,_,_⟩:=gV h hV he;obtain⟨z,g⟩:=c;cases g with
 |no=>simp only[yV,aM]at hr;subst hr;exact .inr (AM (kU.rep h1))
 |fo k=>(cases z<;>try(simp only[yV]at hr;cases hr));have h1:a.eval x=τ k:=h1.1;simp only[yV]at hr;have hk:=h.core.key k;have Vd:∀{p y},fX R w p (τ k) y->∃t l,y=.sl t l/\∃q,(.pt,Gh.fo k)=(TV.pt,Gh.fo q)/\a.eval x=τ q/\∃p,fX R w p (a.eval x) y:=λ{p y}hs=>by{obtain⟨t,l,e,_⟩:=id hs;exact⟨t,l,e,k,rfl,h1,_,by rw[h1];exact hs⟩};(split at hr<;>first|(cases hr;done)|(rename_i e;cases hr;have e:=hV.of e));{left;rw[e]at hk;exact Vd hk};{left;rw[e]at hk;exact Vd hk};{right;rw[e]at hk;rw[h1];exact hk};{left;exact Vd (h.core.waits e)};{left;rw[e]at hk;exact Vd hk}
 |_=>simp only[yV]at hr;cases hr
end
theorem qK.Fg{r:qK}{e:iu}(h:r.O7=some e)(hp:∀p,e.p=some p->p=true):∃x,r.holds [x]/\e.x=(x,.no)/\e.ws=[]:=by unfold qK.O7 at h;split at h<;>cases h;{exact⟨_,rfl,rfl,rfl⟩};{exact⟨_,⟨hp _ rfl,rfl⟩,rfl,rfl⟩}
theorem uf{S:St}{e:iu}{x:Cell}{d:Nat}{o:Oper}(hd:o.dst=some d)(h1:e.x=x)(h2:e.ws=[]):jJ S o.dst e=cR S d x:=by rw[hd];unfold jJ;rw[h1,h2];rfl
theorem LC{P:Program}{w:World}{op:BinOp}{t:TypeId}{x y z:Value}(h:nI op x y=some z):(binOp op t x y).run P w=.ok z w:=by
 unfold nI at h;split at h;(all_goals repeat' split at h);all_goals first
  |(cases h;done)
  |(cases h;simp only[binOp,Op.shift,Sem.run_ite];rw[ao (by assumption)];rfl)
  |(cases h;simp_all[binOp,Op.shift,Op.intArith,Op.intDiv,Op.intBits,Op.intCmp,Op.stringOp,db];done)
  |exact KJ h
  |skip
theorem Mp{P:Program}{w:World}{op:UnOp}{x z:Value}(h:Wi op x=some z):(Op.unary op x).run P w=.ok z w:=by unfold Wi at h;split at h<;>cases h<;>first|exact y6|simp[Op.unary,Op.intArith,Op.intBits,db]
theorem Jy{t:Bool}{x y z:TV}(h:Jz t x y=some z):z=if t then x else y:=by unfold Jz at h;(split at h<;>first|(cases h<;>cases t<;>rfl)|skip);split at h;{rename_i e;subst e;cases h;cases t<;>rfl};{cases h}
theorem TV.DF{R:Reach}{w:World}{x:TV}{v:Value}(h:Rep R w x v)(hq:∀q,x.Ll=some q->q=true):Rep R w x.bare v:=by
 cases x with
 |gd q x=>
  have:=hq q rfl;subst this;cases h with
  |sc h=>cases h
  |Sq h=>exact h
 |_=>exact h
theorem Hj{R:Reach}{w:World}{t:Bool}{x y z:TV}{v:Value}(h:(FV t x y).holds [z])(hr:Rep R w (if t then x else y) v):Rep R w z v:=by
 unfold FV at h;split at h
 ·rename_i u hu;have hu:=Jy hu;have key:((t=true->∀q,x.Ll=some q->q=true)/\(t=false->∀q,y.Ll=some q->q=true))/\z=u:=by{split at h<;>rename_i c1 c2<;>rw[c1,c2];{cases h;exact⟨⟨by simp,by simp⟩,rfl⟩};{obtain⟨h,e⟩:=h;cases e;exact⟨⟨by rintro rfl q e;cases e;simpa using h,by simp⟩,rfl⟩};{obtain⟨h,e⟩:=h;cases e;exact⟨⟨by simp,by rintro rfl q e;cases e;simpa using h⟩,rfl⟩};{obtain⟨h,e⟩:=h;cases e;exact⟨⟨by rintro rfl q e;cases e;simpa using h,by rintro rfl q e;cases e;simpa using h⟩,rfl⟩}};obtain⟨⟨k1,k2⟩,rfl⟩:=key;rw[hu];cases t with
  |true=>exact TV.DF hr (k1 rfl)
  |false=>exact TV.DF hr (k2 rfl)
 {exact h.elim}
theorem CR{P:Program}{f:Field}{k:Nat}(h:Gd P f k=true):f.name≠ "_" /\f.offset=k/\P.underlying f.type=some (.int .u64):=by unfold Gd at h;simp only[af,bne_iff_ne]at h;obtain⟨⟨h1,h2⟩,h3⟩:=h;refine⟨h1,aB h2,?_⟩;split at h3;{assumption};{cases h3}
theorem FB(a b:UInt64):((a.toNat:Int)==(b.toNat:Int))=decide (a=b):=by by_cases e:a=b;{simp[e]};{have:¬(a.toNat:Int)=(b.toNat:Int):=λh=>e (aU.1 (by omega));simp[e,this]}
theorem NH{P:Program}{w:World}{t:TypeId}{fs:Array Field}{a b c d:UInt64}{r:Bool}(ht:P.underlying t=some (.struct fs))(he:Sr P t fs (.ag [.u64 a,.u64 b]) (.ag [.u64 c,.u64 d])=some r):(Op.equalIn 10000 t (.agg ⟨[.int .u64 a.toNat,.int .u64 b.toNat]⟩) (.agg ⟨[.int .u64 c.toNat,.int .u64 d.toNat]⟩)).run P w=.ok r w/\P.eqGuardType P.depth t=false:=by
 unfold Sr at he;split at he
 ·rename_i f g a' b' c' d' hf hx hy;obtain⟨h1,h2⟩:=bK.1 he;cases hx;cases hy;cases h2;simp only[af,Bool.not_eq_true']at h1;obtain⟨⟨⟨h1,h2⟩,h3⟩,h4⟩:=h1;obtain⟨n1,o1,u1⟩:=CR h1;obtain⟨n2,o2,u2⟩:=CR h2;have ef:P.fieldsOf t=fs:=by{simp[Program.fieldsOf,ht]};have p1:P.plainKey f.type=true:=by{simp[Program.plainKey,u1]};have p2:P.plainKey g.type=true:=by{simp[Program.plainKey,u2]};refine⟨?_,h4⟩;rw[show(10000:Nat)=9999+1 from rfl,run_equalIn_struct w 9999 t _ _ (by rw[ef];exact ht) h3,ef,hf];simp only[Op.eqFields,n1,n2,ne_eq,not_false_eq_true,if_true,Sem.run_bind,o1,o2];rw[run_part_plain w p1 (v:=.int .u64 a.toNat) rfl];simp only[Result.andThen_ok];rw[run_part_plain w p1 (v:=.int .u64 c.toNat) rfl];simp only[Result.andThen_ok];rw[show(9999:Nat)=9998+1 from rfl,run_equalIn_int w 9998 f.type .u64 .u64 _ _ u1];simp only[Result.andThen_ok,FB];cases decide (a=c)with
  |false=>simp
  |true=>simp only[aG,bq,if_false,Bool.true_and,Sem.run_bind];rw[run_part_plain w p2 (v:=.int .u64 b.toNat) rfl];simp only[Result.andThen_ok];rw[run_part_plain w p2 (v:=.int .u64 d.toNat) rfl];simp only[Result.andThen_ok];rw[run_equalIn_int w 9998 g.type .u64 .u64 _ _ u2];simp only[Result.andThen_ok,FB];cases decide (b=d)<;>simp
 {cases he}
section
variable{C:Ctx}{S V:St}{a:Act}{w:World}{R:Reach}{τ:Nat->Value}{o:Oper}{d:Nat}(h:fD C S a w R τ)(hV:Lt V S)(hd:o.dst=some d)(hl:d<C.nt)
include h hV hd hl
theorem go_move{x:Operand}{t:TypeId}{c:Cell}(ho:o.op=.move x\/o.op=.assign x)(he:gR C.E C.nt V t x=some c):fx C o a w (cR S d c):=by obtain⟨h1,h2,h3⟩:=gV h hV he;exact h.val hd hl (v:=a.eval x) (by rcases ho with e|e<;>simp[execOp,e]) h1 h2 h3
theorem go_pick{c x y:Operand}{t:TypeId}{b:Bool}{u v z:TV}(ho:o.op=.pick c x y)(hc:gR C.E C.nt V 0 c=some (.b b,.no))(hx:gR C.E C.nt V t x=some (u,.no))(hy:gR C.E C.nt V t y=some (v,.no))(hz:(FV b u v).holds [z]):fx C o a w (cR S d (z,.no)):=by
 have hb:=(fu h hV hc).dN rfl;refine h.iL hd hl (v:=if b then a.eval x else a.eval y) (by cases b<;>simp[execOp,ho,hb,asBool]) (Hj hz ?_);cases b with
 |true=>exact fu h hV hx
 |false=>exact fu h hV hy
theorem go_bin{b:BinOp}{t u:TypeId}{x y:Operand}{p q:TV}{z:TV}(ho:o.op=.binOp b t x y u)(hx:gR C.E C.nt V t x=some (p,.no))(hy:gR C.E C.nt V u y=some (q,.no))(hz:(NQ b p q).holds [z]):fx C o a w (cR S d (z,.no)):=by obtain⟨z',e,p',q',v,e1,e2,e3,e4⟩:=NP _ _ _ _ hz;cases e;have hp:=(fu h hV hx).dN e1;have hq:=(fu h hV hy).dN e2;have hg:eqGuard b t x y p' q'=pure ():=by{unfold nI at e3;split at e3<;>first|(cases e3;done)|exact E7 e3|(unfold eqGuard;split<;>simp_all)};exact h.iL hd hl (v:=v) (by simp only[execOp,ho,hp,hq,hg,Sem.run_bind,Sem.run_pure,Result.andThen_ok,LC e3]) (.sc e4)
theorem go_be{neg:Bool}{b:BinOp}{t u:TypeId}{x y:Operand}{p q:Bool}(ho:o.op=.binOp b t x y u)(hb:b=if neg then .neq else .eql)(ht:C.P.underlying t=some .bool)(hx:gR C.E C.nt V t x=some (.b p,.no))(hy:gR C.E C.nt V u y=some (.b q,.no)):fx C o a w (cR S d (.b (if neg then !(p==q)else p==q),.no)):=by have hp:=(fu h hV hx).dN rfl;have hq:=(fu h hV hy).dN rfl;have hg:eqGuard b t x y (.bool p) (.bool q)=pure ():=by{unfold eqGuard;cases neg<;>simp[hb]};have he:(Op.equal t (.bool p) (.bool q)).run C.P w=.ok (p==q) w:=by{unfold Op.equal Op.maxDepth;rw[show(10000:Nat)=9999+1 from rfl,Op.equalIn];simp[run_underlying ht]};refine h.iL hd hl (v:=.bool (if neg then !(p==q)else p==q)) ?_ (.sc rfl);simp only[execOp,ho,hp,hq,hg,Sem.run_bind,Sem.run_pure,Result.andThen_ok];cases neg<;>simp[hb,binOp,he]
theorem go_es{b:BinOp}{t u:TypeId}{x y:Operand}{p q:TV}{fs:Array Field}{r:Bool}(neg:Bool)(ho:o.op=.binOp b t x y u)(hb:b=if neg then .neq else .eql)(ht:C.P.underlying t=some (.struct fs))(hx:gR C.E C.nt V t x=some (p,.no))(hy:gR C.E C.nt V u y=some (q,.no))(he:Sr C.P t fs p q=some r):fx C o a w (cR S d (.b (if neg then !r else r),.no)):=by
 have hp:=fu h hV hx;have hq:=fu h hV hy;have E0:=he;unfold Sr at E0;split at E0
 ·rename_i f g a1 b1 c1 d1 hf;have two:∀{a b:UInt64}{v:Value},Rep R w (.ag [.u64 a,.u64 b]) v->v=.agg ⟨[.int .u64 a.toNat,.int .u64 b.toNat]⟩:=λhv=>by
   cases hv with
   |sc e=>cases e
   |ag l=>cases l with|cons _ h1 l=>cases l with|cons _ h2 l=>cases l;rw[h1.dN rfl,h2.dN rfl]
  obtain⟨e1,e2⟩:=NH (w:=w) ht he;refine h.iL hd hl (v:=.bool (if neg then !r else r)) ?_ (.sc rfl);simp only[execOp,ho,two hp,two hq,Sem.run_bind,run_eqGuard_agg w b t x y _ _ e2,Result.andThen_ok];cases neg with
  |false=>simp only[hb,bq,if_false,run_eql_struct,e1,Result.andThen_ok];rfl
  |true=>simp only[hb,if_true,run_neq_struct,e1,Result.andThen_ok];rfl
 {cases E0}
theorem go_nl{t u e:TypeId}{x y:Operand}{c:Cell}{st st':fF}{l:List st.El}(ho:o.op=.binOp .eql t x y u)(ht:C.P.underlying t=some (.slice e))(hx:gR C.E C.nt V t x=some c)(hr:yV V c=some (.sl st l))(hy:gR C.E C.nt V u y=some (.nl st',.no)):fx C o a w (cR S d (.ub l.isEmpty,.no)):=by
 have hp:=AH h hV hx hr;have hq:a.eval y=.slice none 0 0:=by
  have:=fu h hV hy;generalize a.eval y=v at this;cases this with
  |sc h=>cases h
  |nl=>rfl
 have run:∀{q:Option Addr}{n k:Nat},(binOp .eql t (.slice q n k) (.slice none 0 0)).run C.P w=.ok (.bool q.isNone) w:=λ{q n k}=>by{have he:(Op.equal t (.slice q n k) (.slice none 0 0)).run C.P w=.ok q.isNone w:=by{unfold Op.equal Op.maxDepth;rw[show(10000:Nat)=9999+1 from rfl,Op.equalIn];cases q<;>simp[run_underlying ht]};simp[binOp,he]};have gd:∀{v:Value},eqGuard .eql t x y v (.slice none 0 0)=pure ():=λ{v}=>by{unfold eqGuard;split<;>simp_all};have fin:∀{q:Option Addr}{n k:Nat},a.eval x=.slice q n k->(q=none->l=[])->fx C o a w (cR S d (.ub l.isEmpty,.no)):=λ{q n k}e1 e2=>by{refine h.iL hd hl (v:=.bool q.isNone) ?_ (.ub λe=>by cases q with|none=>rw[e2 rfl];rfl|some _=>cases e);simp only[execOp,ho,e1,hq,gd,Sem.run_bind,Sem.run_pure,Result.andThen_ok,run]};rcases hp with⟨t',l',e,k,_,_,p,hs⟩|hp;{obtain⟨t2,l2,e2,hs⟩:=hs;cases e;cases e2;rcases hs with⟨e,hv⟩|⟨g,cap,cur,e,fz,hv,_⟩;{exact fin hv λ_=>e};{exact fin hv λe=>by cases e}}
 ·generalize hv:a.eval x=v at hp;cases hp with
  |sc h=>cases h
  |sn=>exact fin hv λ_=>rfl
  |sl=>exact fin hv λe=>by cases e
  |em=>exact fin hv λe=>by cases e
theorem go_un{b:UnOp}{t:TypeId}{x:Operand}{p z:TV}(ho:o.op=.unOp b t x)(hx:gR C.E C.nt V t x=some (p,.no))(hz:(U8 b p).holds [z]):fx C o a w (cR S d (z,.no)):=by obtain⟨z',e,p',v,e1,e2,e3⟩:=Pw _ _ _ hz;cases e;have hp:=(fu h hV hx).dN e1;exact h.iL hd hl (v:=v) (by simp only[execOp,ho,hp,Sem.run_bind,Sem.run_pure,Result.andThen_ok,Mp e2]) (.sc e3)
end
def Holds (R:Reach) (w:World) (t:fF) (l:List t.El) (v:Value):Prop :=
 (l=[]∧(v = .slice none 0 0∨∃ad cap,v = .slice (some ad) 0 cap))∨∃b off cap ys,v = .slice (some ⟨b,off,none⟩) l.length cap∧ys.length=l.length * t.size ∧
  (∀j y,ys[j]?=some y→w.cell? ⟨b,off+j,none⟩=some y)∧dJ R w ((l.map t.tv).flatMap TV.cells) ys
theorem p9{c k:Nat}:∀{l:List (Nat×Nat)},oY c l=some k->(c,k)∈l
 |(d,j)::r,h=>by
  simp only[oY]at h;cases hb:Nat.beq d c with
  |true=>rw[hb]at h;cases h;rw[aB hb];exact List.mem_cons_self ..
  |false=>rw[hb]at h;exact List.mem_cons_of_mem _ (p9 h)
theorem wU:∀l:bD,(l.map (fF.tv .bs)).flatMap TV.cells=l.map TV.u8
 |[]=>rfl
 |x::l=>by rw[bc,List.flatMap_cons,wU l];rfl
theorem oA(t:fF)(l:List t.El):((l.map t.tv).flatMap TV.cells).length=l.length*t.size:=by
 induction l with
 |nil=>simp
 |cons x l ih=>rw[bc,List.flatMap_cons,ae,ih,fF.nc,av,Nat.succ_mul,Nat.add_comm]
theorem Rep.holds{R:Reach}{w:World}{t:fF}{l:List t.El}{v:Value}(h:Rep R w (.sl t l) v):Holds R w t l v:=by rcases h.Eo with⟨h1,h2⟩|⟨b,off,cap,h1,h2,h3,h4⟩|⟨h1,ad,cap,h2,_⟩;{exact .inl ⟨h1,.inl h2⟩};{obtain⟨ys,k1,k2,k3,_⟩:=h4.cells;exact .inr ⟨b,off,cap,ys,h1,by rw[k1,bm],k2,k3⟩};{exact .inl ⟨h1,.inr ⟨ad,cap,h2⟩⟩}
theorem fX.cells{R:Reach}{w:World}{p:Bool}{t:fF}{l:List t.El}{v:Value}(h:fX R w p v (.sl t l)):(l=[]/\v=.slice none 0 0)\/∃g cap cur e fz,v=.slice (some ⟨g,0,none⟩) l.length cap/\w.heap[g]?=some (.cells cur e fz)/\(∀o,o<cur.size->¬(fz.1<=o/\o<fz.2))/\cur.size=cap*t.size/\l.length<=cap/\cap<=maxLen/\dJ R w ((l.map t.tv).flatMap TV.cells) (cur.toList.take (l.length*t.size))/\∀o,R g o↔(p=true/\o<l.length*t.size):=by obtain⟨t',l',e,h⟩:=h;cases e;exact h
theorem fX.holds{R:Reach}{w:World}{p:Bool}{t:fF}{l:List t.El}{v:Value}(h:fX R w p v (.sl t l)):Holds R w t l v:=by rcases h.cells with⟨h1,h2⟩|⟨g,cap,cur,e,fz,h1,h2,_,_,_,_,h3,_⟩;{exact .inl ⟨h1,.inl h2⟩};{refine .inr ⟨g,0,cap,_,h1,by rw[<-h3.length,oA],λj y hy=>?_,h3⟩;rw[aZ]at hy;split at hy;{simp only[World.cell?,h2,Nat.zero_add];simpa using hy};{cases hy}}
section
variable{C:Ctx}{S V:St}{a:Act}{w:World}{R:Reach}{τ:Nat->Value}{o:Oper}{d:Nat}(h:fD C S a w R τ)(hV:Lt V S)
include h hV
theorem xF{t:TypeId}{x:Operand}{st:fF}{l:List st.El}(he:(gR C.E C.nt V t x).bind (yV V)=some (.sl st l)):Holds R w st l (a.eval x):=by rw[aV]at he;obtain⟨c,h1,h2⟩:=he;rcases AH h hV h1 h2 with⟨_,_,_,_,_,_,p,hp⟩|hr;{exact hp.holds};{exact hr.holds}
theorem Jr{t:TypeId}{x:Operand}{l:bD}(he:(gR C.E C.nt V t x).bind (yV V)=some (.s l)):a.eval x=.string ⟨⟨l⟩⟩:=by rw[aV]at he;obtain⟨c,h1,h2⟩:=he;rcases AH h hV h1 h2 with⟨_,_,e,_⟩|hr;{cases e};{exact hr.dN rfl}
theorem rd_val{t:TypeId}{x:Operand}{c:Cell}{y:TV}{v:Value}(h1:gR C.E C.nt V t x=some c)(h2:yV V c=some y)(hy:y.val=some v):a.eval x=v:=by rcases AH h hV h1 h2 with⟨_,_,e,_⟩|hr;{rw[e]at hy;cases hy};{exact hr.dN hy}
variable(hd:o.dst=some d)(hl:d<C.nt)
include hd hl
theorem go_len{x:Operand}{t e:TypeId}{st:fF}{l:List st.El}(ho:o.op=.call {callee:=.builtin .len,args:=#[x],argTypes:=#[t]})(ht:C.P.underlying t=some (.slice e))(hx:(gR C.E C.nt V t x).bind (yV V)=some (.sl st l)):fx C o a w (cR S d (.i .i64 l.length,.no)):=by have:∃q cap,a.eval x=.slice q l.length cap:=by{rcases xF h hV hx with⟨rfl,e|⟨ad,cap,e⟩⟩|⟨b,off,cap,ys,e,_⟩<;>exact⟨_,_,e⟩};obtain⟨q,cap,hq⟩:=this;exact h.iL hd hl (v:=.int .i64 l.length) (by simp[execOp,ho,hq,resolve,invoke,builtin,Builtin.len_,run_underlying ht,goInt]) (.sc rfl)
theorem go_lens{x:Operand}{t:TypeId}{l:bD}(ho:o.op=.call {callee:=.builtin .len,args:=#[x],argTypes:=#[t]})(ht:C.P.underlying t=some .string)(hx:(gR C.E C.nt V t x).bind (yV V)=some (.s l)):fx C o a w (cR S d (.i .i64 l.length,.no)):=by have hq:=Jr h hV hx;have hs:ByteArray.size ⟨⟨l⟩⟩=l.length:=rfl;exact h.iL hd hl (v:=.int .i64 l.length) (by simp[execOp,ho,hq,resolve,invoke,builtin,Builtin.len_,run_underlying ht,goInt,hs]) (.sc rfl)
theorem go_minmax{x y:Operand}{k:IntKind}{u v:Int}{mx:Bool}{ts:Array TypeId}(ho:o.op=.call {callee:=.builtin (if mx then .max else .min),args:=#[x,y],argTypes:=ts})(hx:gR C.E C.nt V 0 x=some (.i k u,.no))(hy:gR C.E C.nt V 0 y=some (.i k v,.no)):fx C o a w (cR S d (.i k (if mx then qI u v else AN u v),.no)):=by have e1:=(fu h hV hx).dN rfl;have e2:=(fu h hV hy).dN rfl;exact h.iL hd hl (v:=.int k (if mx then qI u v else AN u v)) (by cases mx<;>simp[execOp,ho,e1,e2,resolve,invoke,builtin,Builtin.min_,Builtin.max_,Builtin.min2,Builtin.max2,AN,qI]) (.sc rfl)
theorem go_real{x:Operand}{k:FloatKind}{p q:Nat}{im:Bool}{ts:Array TypeId}(ho:o.op=.call {callee:=.builtin (if im then .imag else .real),args:=#[x],argTypes:=ts})(hx:gR C.E C.nt V 0 x=some (.c (.complex k p q),.no)):fx C o a w (cR S d (.c (.float k (if im then q else p)),.no)):=by have e1:=(fu h hV hx).dN rfl;have r1:∀(a:Array TypeId)(b:TypeId),Builtin.real_ a b #[.complex k p q]=pure (.float k p):=λ_ _=>rfl;have r2:∀(a:Array TypeId)(b:TypeId),Builtin.imag_ a b #[.complex k p q]=pure (.float k q):=λ_ _=>rfl;exact h.iL hd hl (v:=.float k (if im then q else p)) (by cases im<;>simp[execOp,ho,e1,resolve,invoke,builtin,r1,r2]) (.sc rfl)
theorem go_cx{x y:Operand}{p q:Nat}{ts:Array TypeId}(ho:o.op=.call {callee:=.builtin .complex,args:=#[x,y],argTypes:=ts})(hx:gR C.E C.nt V 0 x=some (.c (.float .f64 p),.no))(hy:gR C.E C.nt V 0 y=some (.c (.float .f64 q),.no)):fx C o a w (cR S d (.c (.complex .f64 p q),.no)):=by have e1:=(fu h hV hx).dN rfl;have e2:=(fu h hV hy).dN rfl;have r1:∀(a:Array TypeId)(b:TypeId),Builtin.complex_ a b #[.float .f64 p,.float .f64 q]=pure (.complex .f64 p q):=λ_ _=>rfl;exact h.iL hd hl (v:=.complex .f64 p q) (by simp[execOp,ho,e1,e2,resolve,invoke,builtin,r1]) (.sc rfl)
section
variable{x:Operand}{s t:TypeId}{c:Cell}(ho:o.op=.convert s t x)(hx:gR C.E C.nt V s x=some c)
include ho hx
theorem go_ci{y:TV}{k k':IntKind}{n:Int}{du:TypeDesc}(hy:yV V c=some y)(hn:y.int?=some (k',n))(hs:C.P.underlying s=some du)(ht:C.P.underlying t=some (.int k)):fx C o a w (cR S d (Gg k n,.no)):=by have e1:=rd_val h hV hx hy (TV.CS hn);exact h.iL hd hl (v:=.int k (k.wrap n)) (by simp only[execOp,ho,e1,convert,Sem.run_bind,run_underlying hs,run_underlying ht,Result.andThen_ok,Conv.intToInt,Sem.run_pure]) (.sc (HI k n))
theorem go_cf{k:IntKind}{n:Int}(hy:yV V c=some (.i k n))(hs:(C.P.underlying s).isSome=true)(ht:C.P.underlying t=some (.float .f64)):fx C o a w (cR S d (.c (.float .f64 (Fl.ofInt n)),.no)):=by have e1:=rd_val h hV hx hy rfl;exact h.iL hd hl (v:=.float .f64 (Fl.ofInt n)) (by simp only[execOp,ho,e1,Sem.run_bind,run_convert_int_float w s t k .f64 n hs ht,Result.andThen_ok,Sem.run_pure];rfl) (.sc rfl)
theorem go_fc{b:Nat}(hy:yV V c=some (.c (.float .f64 b)))(hb:Fl.qm b=true)(hs:(C.P.underlying s).isSome=true)(ht:C.P.underlying t=some (.int .i64)):fx C o a w (cR S d (.i .i64 (Fl.toInt b),.no)):=by have e1:=rd_val h hV hx hy rfl;have hn:floatToIntVal .f64 b .i64=some (Fl.toInt b):=by{unfold Fl.qm at hb;obtain⟨x,hx⟩:=Option.isSome_iff_exists.1 hb;unfold Fl.toInt;rw[hx];rfl};exact h.iL hd hl (v:=.int .i64 (Fl.toInt b)) (by simp only[execOp,ho,e1,Sem.run_bind,run_convert_float_int w s t .f64 .i64 b _ hs ht hn,Result.andThen_ok,Sem.run_pure]) (.sc rfl)
theorem go_cs{l:bD}(hy:yV V c=some (.s l))(hs:C.P.underlying s=some .string)(ht:C.P.underlying t=some .string):fx C o a w (cR S d (.s l,.no)):=by have e1:=rd_val h hV hx hy rfl;exact h.iL hd hl (v:=.string ⟨⟨l⟩⟩) (by simp[execOp,ho,e1,convert,run_underlying hs,run_underlying ht]) (.sc rfl)
theorem go_bs{l:bD}{e:TypeId}(hy:yV V c=some (.sl .bs l))(hs:C.P.underlying s=some (.slice e))(he:C.P.underlying e=some (.int .u8))(ht:C.P.underlying t=some .string):fx C o a w (cR S d (.s l,.no)):=by have hH:=xF h hV (t:=s) (x:=x) (st:=.bs) (l:=l) (by rw[hx];exact hy);refine h.iL hd hl (v:=.string ⟨⟨l⟩⟩) ?_ (.sc rfl);rcases hH with⟨rfl,hv|⟨ad,cap,hv⟩⟩|⟨b,off,cap,ys,hv,h1,h2,h3⟩;{simp only[execOp,ho,hv,Sem.run_bind,run_convert_bytes_nil w s e hs he 0 0 t ht,Result.andThen_ok,Sem.run_pure];rfl};{have hc:=run_convert_bytes_back (P:=C.P) w s t e ad cap [] hs he ht (λj hj=>by simp at hj);simp only[aE]at hc;simp only[execOp,ho,hv,Sem.run_bind,hc,Result.andThen_ok,Sem.run_pure]};{have hc:=run_convert_bytes_back (P:=C.P) w s t e ⟨b,off,none⟩ cap l hs he ht (λj hj=>by rw[addr_add];obtain⟨y,HL,_,HK⟩:=h3.get j (.u8 l[j]) (by rw[wU];simp[hj]);rw[h2 j y HL,HK.dN rfl]);simp only[execOp,ho,hv,Sem.run_bind,hc,Result.andThen_ok,Sem.run_pure]}
end
theorem go_si{x i:Operand}{t:TypeId}{l:bD}{n:Int}(ho:o.op=.index t x i)(hx:gR C.E C.nt V t x=some (.s l,.no))(hi:sW C.E C.nt V i=some n)(hn:bF n l.length=true)(ht:C.P.underlying t=some .string):fx C o a w (cR S d (.u8 (l.getD n.toNat 0),.no)):=by have e1:=(fu h hV hx).dN rfl;obtain⟨k,e2⟩:=pr h hV hi;simp only[bF,af,aD]at hn;have gr:n.toNat<l.length:=by{omega};have hb:(⟨⟨l⟩⟩:ByteArray)[n.toNat]?=some (l.getD n.toNat 0):=by{rw[getElem?_pos (⟨⟨l⟩⟩:ByteArray) n.toNat gr,ai,aw gr];rfl};exact h.iL hd hl (v:=.int .u8 (l.getD n.toNat 0).toNat) (by simp[execOp,ho,e1,e2,Instr.index,asIntOf,run_underlying ht,hn.1,hb]) (.sc rfl)
theorem go_fe{x:Operand}{t:TypeId}{f n:Nat}{agg:Bool}{fl:Field}{cs:List TV}{y:TV}(ho:o.op=.field t x f)(hx:gR C.E C.nt V t x=some (.ag cs,.no))(hf:vo C.P t f=some fl)(hs:kF C.P fl.type=some (n,agg))(hp:ph cs fl.offset n agg=some y)(h1:agg=true\/n=1):fx C o a w (cR S d (y,.no)):=by
 obtain⟨ys,hy,hL⟩:=(fu h hV hx).LW;obtain⟨fs,ht,hf⟩:=wb hf;obtain⟨inf,hi,rfl,ha⟩:=gS hs;obtain⟨hlen,lU⟩:=qZ hL hp h1;refine h.iL hd hl (v:=if agg then .agg ⟨(ys.drop fl.offset).take inf.size⟩else((ys.drop fl.offset).take inf.size).headD undef) ?_ lU;simp only[execOp,ho,hy,Instr.field,Sem.run_bind,run_underlying ht,Result.andThen_ok,hf,asAgg,Sem.run_pure,part,ha];cases agg with
 |true=>simp[run_sizeOf hi,List.extract_eq_take_drop]
 |false=>have hn:inf.size=1:=by{simpa using h1};rw[hn]at hlen⊢;have gr:fl.offset<ys.length:=by{simp at hlen;omega};rw[I2 gr];simp[aw gr]
theorem go_ai{x i:Operand}{t e:TypeId}{m s:Nat}{agg:Bool}{cs:List TV}{n:Int}{y:TV}(ho:o.op=.index t x i)(hx:gR C.E C.nt V t x=some (.ag cs,.no))(hi:sW C.E C.nt V i=some n)(ht:C.P.underlying t=some (.array m e))(hs:kF C.P e=some (s,agg))(h1:agg=true\/s=1)(hn:bF n m=true)(hp:ph cs (n.toNat*s) s agg=some y):fx C o a w (cR S d (y,.no)):=by
 obtain⟨ys,DX,hL⟩:=(fu h hV hx).LW;obtain⟨k,e2⟩:=pr h hV hi;obtain⟨inf,za,rfl,ha⟩:=gS hs;obtain⟨hlen,lU⟩:=qZ hL hp h1;simp only[bF,af,aD]at hn;refine h.iL hd hl (v:=if agg then .agg ⟨(ys.drop (n.toNat*inf.size)).take inf.size⟩else((ys.drop (n.toNat*inf.size)).take inf.size).headD undef) ?_ lU;simp only[execOp,ho,DX,e2,Instr.index,asIntOf,Sem.run_bind,run_underlying ht,Result.andThen_ok,Sem.run_pure,hn.1,hn.2,and_self,if_true,run_sizeOf za,part,ha];cases agg with
 |true=>simp[run_sizeOf za,List.extract_eq_take_drop]
 |false=>have hn:inf.size=1:=by{simpa using h1};rw[hn,Nat.mul_one]at hlen⊢;have gr:n.toNat<ys.length:=by{simp at hlen;omega};rw[I2 gr];simp[aw gr]
theorem go_ex{x:Operand}{i:Nat}{vs:List TV}{y:TV}{l:List (Nat×Nat)}(ho:o.op=.extract x i)(hx:gR C.E C.nt V 0 x=some (.tu vs,.no)\/gR C.E C.nt V 0 x=some (.tu vs,.Of l))(hy:vs[i]?=some y):fx C o a w (cR S d (y,.no)):=by have:∃ys,a.eval x=.tuple ⟨ys⟩/\jf R w vs ys:=by{rcases hx with hx|hx;{exact(fu h hV hx).PC};{obtain⟨ys,Iq,e1,e2,e3,_⟩:=((gV h hV hx).1.at (by simp):kU R w τ (.tu vs) (.Of l) (a.eval x));cases e2;exact⟨ys,e1,e3⟩}};obtain⟨ys,hv,hT⟩:=this;obtain⟨v,HL,HK⟩:=hT.get i y hy;exact h.iL hd hl (v:=v) (by simp[execOp,ho,hv,Instr.extract,HL]) HK
end
theorem rN{P:Program}{E:cH}(hE:kB P E){x:TypeId}{st:fF}(h:wm E x st=true):∃e i,P.underlying x=some (.slice e)/\P.info? e=some i/\i.size=st.size:=by unfold wm at h;split at h;{rename_i e1;obtain⟨e,i,_,h1,h2,h3,_⟩:=hE.ty _ _ _ e1;exact⟨e,i,h1,h2,h3.trans (aB h)⟩};{cases h}
theorem fF.size_pos(t:fF):0<t.size:=by cases t<;>simp[fF.size]
section
variable{C:Ctx}{S V:St}{a:Act}{w:World}{R:Reach}{τ:Nat->Value}{o:Oper}{d:Nat}(h:fD C S a w R τ)(hV:Lt V S)
include h hV
theorem fD.fr{t:TypeId}{x:Operand}{c:Cell}{y:TV}{ws:List (Nat×Cell)}(hx:gR C.E C.nt V t x=some c)(he:C8 V c=some (y,ws)):∃R',fD C (fU S ws) a w R' τ/\Rep R' w y (a.eval x)/\eZ R w R' w:=by obtain⟨h1,_,h3⟩:=gV h hV hx;obtain⟨R',k1,k2,k3,_⟩:=Ba h.core hV.q h1 (λm hm=>(h3 m hm).1) he;exact⟨R',h.fz k1 k2,k3,k2.1⟩
theorem yf{x:Option Operand}{n:Option Int}(he:px C.E C.nt V x=some n):(x=none/\n=none)\/∃y m k,x=some y/\n=some m/\a.eval y=.int k m:=by unfold px at he;split at he;{cases he;exact .inl ⟨rfl,rfl⟩};{simp only[aW]at he;obtain⟨m,h1,rfl⟩:=he;obtain⟨k,h2⟩:=pr h hV h1;exact .inr ⟨_,m,k,rfl,rfl,h2⟩}
theorem Ou{lo:Option Operand}{p:Option Int}{n:Nat}(h1:px C.E C.nt V lo=some p)(h0:0<=p.getD n):(lo=none/\(p.getD n).toNat=n)\/∃y k,lo=some y/\a.eval y=.int k (((p.getD n).toNat:Nat):Int):=by rcases yf h hV h1 with⟨rfl,rfl⟩|⟨y,m,k,rfl,rfl,hy⟩;{exact .inl ⟨rfl,by simp⟩};{exact .inr ⟨y,k,rfl,by simp only[Option.getD_some]at h0⊢;rw[hy];congr 1;omega⟩}
theorem bounds{lo hi:Option Operand}{p q:Option Int}(h1:px C.E C.nt V lo=some p)(h2:px C.E C.nt V hi=some q){n:Nat}(hc:eM (p.getD 0) (q.getD n) n=true)(b:Bool){cap:Nat}(yq:n<=cap)(hb:b=false->cap=n):(Instr.sliceBounds b n cap (lo.map a.eval) (hi.map a.eval) none).run C.P w=.ok ((p.getD 0).toNat,(q.getD n).toNat,cap) w/\(p.getD 0).toNat<=(q.getD n).toNat/\(q.getD n).toNat<=n:=by simp only[eM,af,aD]at hc;have e1:=Ou h hV (n:=0) h1 hc.1.1;have e2:=Ou h hV (n:=n) h2 (by omega);generalize hu:(q.getD n).toNat=u at*;generalize hl:(p.getD 0:Int).toNat=l at*;have k1:l<=u:=by{omega};have k2:u<=n:=by{omega};refine⟨?_,k1,k2⟩;have k3:u<=cap:=by{omega};unfold Instr.sliceBounds;rcases e1 with⟨rfl,rfl⟩|⟨y,k,rfl,hy⟩<;>rcases e2 with⟨rfl,rfl⟩|⟨y',k',rfl,DX⟩<;>simp[Instr.sliceBound,asIntOf, *]
variable(hd:o.dst=some d)(hl:d<C.nt)
include hd hl
theorem go_ss{x:Operand}{t:TypeId}{lo hi:Option Operand}{p q:Option Int}{l:bD}(ho:o.op=.slice t x lo hi none)(ht:C.P.underlying t=some .string)(hx:gR C.E C.nt V t x=some (.s l,.no))(h1:px C.E C.nt V lo=some p)(h2:px C.E C.nt V hi=some q)(hc:eM (p.getD 0) (q.getD l.length) l.length=true):fx C o a w (cR S d (.s ((l.take (q.getD l.length).toNat).drop (p.getD 0).toNat),.no)):=by have e1:=(fu h hV hx).dN rfl;obtain⟨hb,k1,k2⟩:=bounds h hV h1 h2 hc false (Nat.le_refl _) (λ_=>rfl);have hs:ByteArray.size ⟨⟨l⟩⟩=l.length:=rfl;have he:(⟨⟨l⟩⟩:ByteArray).extract (p.getD 0).toNat (q.getD l.length).toNat=⟨⟨(l.take (q.getD l.length).toNat).drop (p.getD 0).toNat⟩⟩:=by{have:∀{s:ByteArray}{m:List UInt8},s.data.toList=m->s=⟨⟨m⟩⟩:=λh=>by{subst h;rfl};exact this (by rw[Lib.extract_data,List.drop_take])};refine h.iL hd hl (v:=.string ((⟨⟨l⟩⟩:ByteArray).extract (p.getD 0).toNat (q.getD l.length).toNat)) ?_ (.sc (by rw[he];rfl));simp only[execOp,ho,e1,Instr.sliceAt,Instr.slice,Sem.run_bind,run_underlying ht,Result.andThen_ok,Option.map_none,hs,hb,Sem.run_pure];simp[hb]
theorem go_sc{x:Operand}{t:TypeId}{lo hi:Option Operand}{p q:Option Int}{c:Cell}{st:fF}{l:List st.El}{ws:List (Nat×Cell)}(hE:kB C.P C.E)(ho:o.op=.slice t x lo hi none)(ht:wm C.E t st=true)(hx:gR C.E C.nt V t x=some c)(hf:C8 V c=some (.sl st l,ws))(h1:px C.E C.nt V lo=some p)(h2:px C.E C.nt V hi=some q)(hc:eM (p.getD 0) (q.getD l.length) l.length=true):fx C o a w (cR (fU S ws) d (.sl st ((l.take (q.getD l.length).toNat).drop (p.getD 0).toNat),.no)):=by obtain⟨R',h',e1,_⟩:=h.fr hV hx hf;obtain⟨e,inf,ht,wN,hz⟩:=rN hE ht;have hb:=λcap yq=>bounds h hV h1 h2 hc true (cap:=cap) yq (λe=>by cases e);obtain⟨_,k1,k2⟩:=hb l.length (Nat.le_refl _);generalize hu:(q.getD l.length).toNat=u at*;generalize TZ:(p.getD 0).toNat=lw at*;rcases e1.Eo with⟨rfl,hv⟩|⟨b,off,cap,hv,yq,Nv,Yc⟩|⟨rfl,ad,cap,hv,Nv⟩;{obtain⟨rfl,rfl⟩:lw=0/\u=0:=by{simp at k2;omega};have ta:=(hb 0 (by simp)).1;refine h'.iL hd hl (v:=.slice none 0 0) ?_ (by simp only[List.take_nil,List.drop_nil];exact .sn st);simp only[aE]at ta;simp only[execOp,ho,hv,Instr.sliceAt,Instr.slice,Sem.run_bind,run_underlying ht,Result.andThen_ok,Option.map_none,ta,run_sizeOf wN,Sem.run_pure];simp};{refine h'.iL hd hl (v:=.slice (some ⟨b,if cap=lw then off else off+lw*st.size,none⟩) (u -lw) (cap -lw)) ?_ ?_;{simp only[execOp,ho,hv,Instr.sliceAt,Instr.slice,Sem.run_bind,run_underlying ht,Result.andThen_ok,Option.map_none,(hb cap yq).1,run_sizeOf wN,Sem.run_pure,hz];split<;>simp[*,addr_add]};{have hlen:((l.take u).drop lw).length=u -lw:=by{simp;omega};rw[<-hlen];refine .sl rfl (by rw[hlen];omega) (by omega) ?_;by_cases QR:cap=lw;{have:(l.take u).drop lw=[]:=bj (by rw[hlen];omega);rw[this];exact .nil _ _ _};{rw[ao QR,List.map_drop,List.map_take];exact(Yc.take u).drop lw}}};{obtain⟨rfl,rfl⟩:lw=0/\u=0:=by{simp at k2;omega};have ta:=(hb cap (by simp)).1;refine h'.iL hd hl (v:=.slice (some ad) 0 cap) ?_ (by simp only[List.take_nil,List.drop_nil];exact .em st Nv);simp only[aE]at ta;simp only[execOp,ho,hv,Instr.sliceAt,Instr.slice,Sem.run_bind,run_underlying ht,Result.andThen_ok,Option.map_none,ta,run_sizeOf wN,Sem.run_pure];simp[Addr.add]}
theorem go_ix{x i:Operand}{t:TypeId}{st:fF}{l:List st.El}{n:Int}(hE:kB C.P C.E)(ho:o.op=.indexAddr t x i)(ht:wm C.E t st=true)(hx:Rep R w (.sl st l) (a.eval x))(hi:sW C.E C.nt V i=some n)(hn:bF n l.length=true):fx C o a w (cR S d (.ro (st.tv (l.getD n.toNat st.fS)),.no)):=by obtain⟨e,inf,ht,wN,hz⟩:=rN hE ht;obtain⟨k,e2⟩:=pr h hV hi;simp only[bF,af,aD]at hn;have gr:n.toNat<l.length:=by{omega};rcases hx.Eo with⟨rfl,hv⟩|⟨b,off,cap,hv,yq,Nv,Yc⟩|⟨rfl,ad,cap,hv,Nv⟩;{simp at gr};{refine h.iL hd hl (v:=.pointer (some ⟨b,off+n.toNat*st.size,none⟩)) ?_ (.ro (Yc.get n.toNat _ ?_));{simp[execOp,ho,hv,e2,Instr.indexAt,asIntOf,run_underlying ht,run_sizeOf wN,hz,hn.1,addr_add];omega};{simp[ai,aw gr]}};{simp at gr}
theorem go_pix{x i:Operand}{t:TypeId}{st:fF}{l:List st.El}{n:Int}{k:Nat}(hE:kB C.P C.E)(ho:o.op=.indexAddr t x i)(ht:wm C.E t st=true)(hx:gR C.E C.nt V t x=some (.pt,.fo k))(hk:S k=(.sl st l,.pv))(hi:sW C.E C.nt V i=some n)(hn:bF n l.length=true):fx C o a w (cR S d (.el n.toNat st.size 0,.pe k)):=by obtain⟨e,inf,ht,wN,hz⟩:=rN hE ht;obtain⟨kk,e2⟩:=pr h hV hi;obtain⟨q1,_,q3⟩:=gV h hV hx;have hv:a.eval x=τ k:=q1.1;simp only[bF,af,aD]at hn;have gr:n.toNat<l.length:=by{omega};have hs:=h.core.key k;rw[hk]at hs;rcases fX.cells hs with⟨rfl,_⟩|⟨g,cap,cur,ce,fz,e1,_⟩;{simp at gr};{rw[e1]at hv;refine h.val hd hl (v:=.pointer (some ⟨g,n.toNat*st.size,none⟩)) (g:=.pe k) ?_ ⟨g,_,_,_,by rw[e1];rfl,rfl,rfl⟩ rfl q3;simp[execOp,ho,hv,e2,Instr.indexAt,asIntOf,run_underlying ht,run_sizeOf wN,hz,hn.1,addr_add];omega}
theorem go_la{x i:Operand}{t e:TypeId}{m k:Nat}{n:Int}{inf:TypeInfo}{cs:List TV}{ts:List (Nat×Nat)}(ho:o.op=.indexAddr t x i)(ht:C.P.underlying t=some (.array m e))(za:C.P.info? e=some inf)(hx:gR C.E C.nt V t x=some (.pt,.ptr k 0))(hk:S k=(.ag cs,.cl ts))(hi:sW C.E C.nt V i=some n)(hn:bF n m=true):fx C o a w (cR S d (.el n.toNat inf.size 0,.pe k)):=by obtain⟨kk,e2⟩:=pr h hV hi;obtain⟨q1,_,q3⟩:=gV h hV hx;obtain⟨b,p1,hv⟩:∃b,τ k=.pointer (some ⟨b,0,none⟩)/\a.eval x=.pointer (some ⟨b,0,none⟩):=q1;simp only[bF,af,aD]at hn;refine h.val hd hl (v:=.pointer (some ⟨b,n.toNat*inf.size,none⟩)) (g:=.pe k) ?_ ⟨b,_,_,_,by rw[p1];rfl,rfl,rfl⟩ rfl q3;simp[execOp,ho,hv,e2,Instr.indexAt,Instr.sureAddr,asIntOf,run_underlying ht,run_sizeOf za,hn.1,hn.2,addr_add]
section
variable{x:Operand}{t:TypeId}{f n:Nat}{agg:Bool}{fl:Field}(ho:o.op=.fieldAddr t x f)(hf:vo C.P t f=some fl)(hs:kF C.P fl.type=some (n,agg))(hn:0<n)
include ho hf hs hn
omit h hV hd hl in
theorem Et{b off:Nat}(hv:a.eval x=.pointer (some ⟨b,off,none⟩)):(execOp a.eval o).run C.P w=.ok (.value (.pointer (some ⟨b,off+fl.offset,none⟩))) w:=by obtain⟨fs,ht,hf⟩:=wb hf;obtain⟨inf,hi,rfl,ha⟩:=gS hs;have mU:inf.size≠0:=by{omega};simp[execOp,ho,hv,Instr.fieldAt,Instr.sureAddr,run_underlying ht,hf,fieldPlace,run_sizeOf hi,mU,addr_add]
theorem go_fa{m q:Nat}(hx:gR C.E C.nt V 0 x=some (.pt,.ptr m q)):fx C o a w (cR S d (.pt,.ptr m (q+fl.offset))):=by obtain⟨q1,_,q3⟩:=gV h hV hx;obtain⟨b,p1,hv⟩:∃b,τ m=.pointer (some ⟨b,0,none⟩)/\a.eval x=.pointer (some ⟨b,q,none⟩):=q1;exact h.val hd hl (Et ho hf hs hn hv) (g:=.ptr m (q+fl.offset)) ⟨b,p1,rfl⟩ rfl q3
theorem go_pfa{i s q k:Nat}(hx:gR C.E C.nt V 0 x=some (.el i s q,.pe k)):fx C o a w (cR S d (.el i s (q+fl.offset),.pe k)):=by obtain⟨q1,_,q3⟩:=gV h hV hx;obtain⟨b,i',s',q',p1,p2,hv⟩:∃b i' s' q',Value.ij (τ k)=some b/\TV.el i s q=.el i' s' q'/\a.eval x=.pointer (some ⟨b,i'*s'+q',none⟩):=q1;cases p2;exact h.val hd hl (Et ho hf hs hn hv) (g:=.pe k) ⟨b,_,_,_,p1,rfl,by rw[Nat.add_assoc]⟩ rfl q3
theorem go_fr{cs:List TV}{y:TV}(hx:gR C.E C.nt V 0 x=some (.ro (.ag cs),.no))(hp:ph cs fl.offset n agg=some y):fx C o a w (cR S d (.ro y,.no)):=by
 obtain⟨b,off,s',hv,hA⟩:=(fu h hV hx).Ey;refine h.iL hd hl (Et ho hf hs hn hv) ?_;cases hA with
 |one n _ _ _ _=>simp[TV.wq]at n
 |ag _ hC=>
  unfold ph at hp;cases agg with
  |true=>
   simp only at hp;cases hb:Nat.ble (fl.offset+n) cs.length with
   |true=>rw[hb]at hp;cases hp;exact .ro (.ag rfl ((hC.drop fl.offset).take n))
   |false=>rw[hb]at hp;cases hp
  |false=>
   simp at hp;have gr:=(aH.1 hp).1;have hD:=hC.drop fl.offset;rw[List.drop_eq_getElem_cons gr]at hD;have hs:cs[fl.offset]=y:=(aH.1 hp).2;rw[hs]at hD;cases hD with
   |cons r c a Iu _=>
    refine .ro (.one ?_ r c a Iu);cases y with
    |ag _=>cases Iu with
     |sc h=>cases h
     |ag=>simp[Value.oneCell']at a
    |_=>rfl
end
theorem go_nc{x:Operand}{m q:Nat}(ho:o.op=.nilCheck x)(hx:gR C.E C.nt V 0 x=some (.pt,.ptr m q)):fx C o a w (cR S d (.pt,.ptr m q)):=by obtain⟨q1,q2,q3⟩:=gV h hV hx;obtain⟨b,p1,hv⟩:∃b,τ m=.pointer (some ⟨b,0,none⟩)/\a.eval x=.pointer (some ⟨b,q,none⟩):=q1;exact h.val hd hl (v:=.pointer (some ⟨b,q,none⟩)) (by simp[execOp,ho,hv]) (g:=.ptr m q) ⟨b,p1,rfl⟩ rfl q3
theorem go_ncr{x:Operand}{y:TV}(ho:o.op=.nilCheck x)(hx:gR C.E C.nt V 0 x=some (.ro y,.no)):fx C o a w (cR S d (.ro y,.no)):=by obtain⟨b,off,s',hv,hA⟩:=(fu h hV hx).Ey;exact h.iL hd hl (v:=.pointer (some ⟨b,off,none⟩)) (by simp[execOp,ho,hv]) (.ro hA)
theorem go_ext{x:Operand}{i k:Nat}{vs:List TV}{l:List (Nat×Nat)}(ho:o.op=.extract x i)(hx:gR C.E C.nt V 0 x=some (.tu vs,.Of l))(hk:oY i l=some k)(A1:(τ k).oneCell'=true):fx C o a w (cR S d (.pt,.fo k)):=by obtain⟨q1,_,q3⟩:=gV h hV hx;obtain⟨ys,Iq,e1,e2,e3,e4⟩:∃ys Iq,a.eval x=.tuple ⟨ys⟩/\TV.tu vs=.tu Iq/\jf R w Iq ys/\∀p∈l,ys[p.1]?=some (τ p.2):=q1;have hm:=p9 hk;refine h.val hd hl (v:=τ k) (by simp[execOp,ho,e1,Instr.extract,e4 _ hm]) (g:=.fo k) ⟨rfl,A1⟩ rfl λj hj=>?_;simp only[Gh.dt,List.mem_singleton]at hj;subst hj;exact q3 _ (List.mem_map_of_mem (f:=(·.2)) hm)
end
theorem jl{nt k:Nat}{V S:St}(hV:Lq V S)(h:vc nt V k=true):(S k).2=.no/\k<1000000/\nt<=k:=by simp only[vc,af,aD]at h;obtain⟨⟨h1,h2⟩,h3⟩:=h;refine⟨?_,Nat.le_of_ble_eq_true h2,Nat.le_of_ble_eq_true h3⟩;rcases hV k with e|e|⟨e,_⟩;{rw[<-e];exact h1};{rw[h1]at e;cases e};{rw[h1]at e;cases e}
theorem ot{R:Reach}{w:World}{x:TV}{v:Value}(h:Rep R w x v)(hp:x.plain=true):dJ R w x.cells v.cells.toList:=by
 cases h with
 |sc hv=>have key:∀{x:TV}{v:Value},x.val=some v->v.oneCell'=true->x.wq=false->x.plain=true->dJ R w x.cells v.cells.toList:=λ{x v}h1 h2 h3 h4=>by{have e1:x.cells=[x]:=by{cases x<;>first|rfl|(simp[TV.wq]at h3)};have e2:v.cells.toList=[v]:=by{cases v<;>first|rfl|(simp[Value.oneCell']at h2)};rw[e1,e2];exact .cons h2 (.sc h1) .nil};refine key hv ?_ (by cases x<;>first|rfl|cases hv) hp;(cases x<;>first|(cases hv;done)|(cases hv;rfl)|skip);cases hv;cases v<;>first|rfl|(cases hp)
 |ag h=>exact h
 |nl t=>exact .cons rfl (.nl t) .nil
 |ub _=>simp[TV.plain]at hp
 |sn t=>exact .cons rfl (.sn t) .nil
 |sl a b c d=>exact .cons rfl (.sl a b c d) .nil
 |em s h=>exact .cons rfl (.em s h) .nil
 |ro h=>exact .cons rfl (.ro h) .nil
 |tu=>simp[TV.plain]at hp
 |pt=>simp[TV.plain]at hp
 |dead=>simp[TV.plain]at hp
 |Sq=>simp[TV.plain]at hp
 |Un=>simp[TV.plain]at hp
theorem tx{P:Program}{t:TypeId}{i:TypeInfo}{v:Value}(hi:P.info? t=some i)(hz:i.zero=some v)(w:World):(zeroValue t).run P w=.ok v w:=by simp[zeroValue,typeInfo,hi,hz]
theorem vY{α:Type}{zs:List α}(hz:0<zs.length):∀(l j:Nat)(y:α),(List.replicate l zs).flatten[j]?=some y->zs[j% zs.length]?=some y
 |0,j,y,h=>by simp at h
 |l+1,j,y,h=>by simp only[List.replicate_succ,List.flatten_cons]at h;by_cases hj:j<zs.length;{rw[List.getElem?_append_left hj]at h;rwa[Nat.mod_eq_of_lt hj]};{rw[aY (by omega)]at h;have:=vY hz l _ y h;rwa[Nat.mod_eq_sub_mod (by omega)]}
theorem qV{R:Reach}{w:World}{xs:List TV}{ys:List Value}(h:dJ R w xs ys):∀n,dJ R w (List.replicate n xs).flatten (List.replicate n ys).flatten
 |0=>.nil
 |n+1=>by simp only[List.replicate_succ,List.flatten_cons];exact h.append (qV h n)
section
variable{C:Ctx}{S V:St}{a:Act}{w w':World}{R:Reach}{τ:Nat->Value}{o:Oper}{d:Nat}
theorem fD.new(h:fD C S a w R τ){cur:Array Value}{e:TypeId}{fz:Nat×Nat}{k:Nat}{v:Value}{x:TV}{g:Gh}(hk:(S k).2=.no/\k<1000000/\C.nt<=k)(os:w'.os=w.os)(tape:w'.tape=w.tape)(out:w'.output=w.output)(hh:w'.heap=w.heap.push (.cells cur e fz))(new:kA R w' τ x g v)(hb:Value.ij v=none\/Value.ij v=some w.heap.size)(hg:g=.pv\/g=.lv\/g=.cl []):fD C (cR S k (x,g)) a w' R (yT τ k v):=by
 have wM:w'.heap.size=w.heap.size+1:=by{rw[hh];simp};have hold:∀b,b<w.heap.size->w'.heap[b]?=w.heap[b]?:=λb hb=>by{rw[hh,Array.getElem?_push,ao (by omega)]};have dX:eZ R w R w':=λb o hr=>⟨hr,World.cell?_of_block (w:=w) (hold b (h.core.ux b o hr))⟩;have hm:g.dt=[]:=by{rcases hg with rfl|rfl|rfl<;>rfl};refine⟨h.size,h.defers,h.core.qQ hk.2.2 dX (λj b _ hb=>⟨hold b (h.core.lt hb),λ_=>id⟩) new (.inr hk.1) ⟨by rw[hk.1];rfl,by rcases hg with rfl|rfl|rfl<;>rfl⟩ (by rcases hg with rfl|rfl|rfl<;>simp)
  (λ_=>.inr hk.1) (λb _ oa=>?_) (by rw[hm];simp) (λb o hr=>by have:=h.core.ux b o hr;omega),λt ht=>?_,⟨h.io.1,λj hj=>?_⟩,
  h.ext.trans (io':=C.io) ⟨os,tape,out,by omega,λb hb _=>hold b hb,dX,λb o hr=>.inl hr⟩ λb hb=>.inl hb,h.gl.dX dX⟩
 {rcases hb with hb|hb<;>rw[hb]at oa<;>cases oa;exact⟨.inr h.ext.size,.inl (Nat.le_refl _)⟩};{rw[iQ _ _ (by omega)];exact h.tmps t ht};{rw[iQ _ _ (by omega)];exact h.io.2 j hj}
theorem fD.yt(h:fD C S a w' R τ)(hd:o.dst=some d)(hl:d<C.nt){v:Value}{x:TV}{g:Gh}(hr:(execOp a.eval o).run C.P w=.ok (.value v) w')(hs:eY R w' τ x g v)(hg:g.slot=true)(hm:∀k∈g.dt,C.nt<=k/\(S k).2≠.no):fx C o a w (cR S d (x,g)):=λK Q hK=>by unfold Oper.wp;rw[hr,Oper.upon_value,hd];refine hK _ _ ⟨R,_,by simp[Act.put,h.size],h.defers,h.core.put hl hs hg hm,λt ht=>?_,⟨h.io.1,λk hk=>?_⟩,h.ext,h.gl⟩;{by_cases e:t=d;{subst e;rw[gZ];simp[Act.put,Array.getD,h.size,ht]};{rw[iQ _ _ e,<-h.tmps t ht];simp only[Act.put,Array.getD_eq_getD_getElem?];rw[Array.getElem?_setIfInBounds_ne (Ne.symm e)]}};{have:=h.io.1;rw[iQ _ _ (by omega)];exact h.io.2 k hk}
theorem fD.Q3(h:fD C S a w R τ)(hd:o.dst=some d)(hl:d<C.nt){cur:Array Value}{e:TypeId}{fz:Nat×Nat}{k cap:Nat}{st:fF}{l:List st.El}{ys:List Value}(hk:(S k).2=.no/\k<1000000/\C.nt<=k)(os:w'.os=w.os)(tape:w'.tape=w.tape)(out:w'.output=w.output)(hh:w'.heap=w.heap.push (.cells cur e fz))(hf:∀o,o<cur.size->¬(fz.1<=o/\o<fz.2))(wM:cur.size=cap*st.size)(h1:l.length<=cap)(h2:cap<=maxLen)(hL:dJ R w ((l.map st.tv).flatMap TV.cells) ys)(QQ:∀(j:Nat)(y:Value),ys[j]?=some y->cur[j]?=some y)(hr:(execOp a.eval o).run C.P w=.ok (.value (.slice (some ⟨w.heap.size,0,none⟩) l.length cap)) w'):fx C o a w (cR (cR S k (.sl st l,.pv)) d (.pt,.fo k)):=by have QC:w'.heap[w.heap.size]?=some (.cells cur e fz):=by{rw[hh];simp};have hold:∀b,b<w.heap.size->w'.heap[b]?=w.heap[b]?:=λb hb=>by{rw[hh,Array.getElem?_push,ao (by omega)]};have dX:eZ R w R w':=λb o hr=>⟨hr,World.cell?_of_block (w:=w) (hold b (h.core.ux b o hr))⟩;have hlen:=hL.length;rw[oA]at hlen;have Qn:cur.toList.take (l.length*st.size)=ys:=by{apply List.ext_getElem?;intro j;rw[aZ];split;{have e:=aw (l:=ys) (i:=j) (by omega);have:=QQ j _ e;rw[e];simpa using this};{exact(List.getElem?_eq_none (by omega)).symm}};have hn:=h.new (x:=.sl st l) (g:=.pv) (v:=.slice (some ⟨w.heap.size,0,none⟩) l.length cap) hk os tape out hh ⟨st,l,rfl,.inr ⟨_,cap,cur,e,fz,rfl,QC,hf,wM,h1,h2,by rw[Qn];exact hL.mono dX,λo=>⟨λhr=>by have:=h.core.ux _ _ hr;omega,λhr=>by simp at hr⟩⟩⟩ (.inr rfl) (.inl rfl);refine hn.yt hd hl hr (g:=.fo k) ⟨(gZ _ _ _).symm,rfl⟩ rfl λj hj=>?_;simp only[Gh.dt,List.mem_singleton]at hj;subst hj;exact⟨hk.2.2,by rw[cG];simp⟩
theorem fD.goVar(h:fD C S a w R τ)(hd:o.dst=some d)(hl:d<C.nt){ys:List Value}{e:TypeId}{k:Nat}{xs:List TV}(hk:(S k).2=.no/\k<1000000/\C.nt<=k)(os:w'.os=w.os)(tape:w'.tape=w.tape)(out:w'.output=w.output)(hh:w'.heap=w.heap.push (.cells ⟨ys⟩ e (0,0)))(hL:dJ R w xs ys)(hr:(execOp a.eval o).run C.P w=.ok (.value (.pointer (some ⟨w.heap.size,0,none⟩))) w'):fx C o a w (cR (cR S k (.ag xs,.cl [])) d (.pt,.ptr k 0)):=by have QC:w'.heap[w.heap.size]?=some (.cells ⟨ys⟩ e (0,0)):=by{rw[hh];simp};have hold:∀b,b<w.heap.size->w'.heap[b]?=w.heap[b]?:=λb hb=>by{rw[hh,Array.getElem?_push,ao (by omega)]};have dX:eZ R w R w':=λb o hr=>⟨hr,World.cell?_of_block (w:=w) (hold b (h.core.ux b o hr))⟩;have hn:=h.new (x:=.ag xs) (g:=.cl []) (v:=.pointer (some ⟨w.heap.size,0,none⟩)) hk os tape out hh ⟨_,ys,e,xs,rfl,QC,rfl,hL.mono dX,by simp,λo hr=>by have:=h.core.ux _ _ hr;omega⟩ (.inr rfl) (.inr (.inr rfl));refine hn.yt hd hl hr (g:=.ptr k 0) ⟨_,gZ _ _ _,rfl⟩ rfl λj hj=>?_;simp only[Gh.dt,List.mem_singleton]at hj;subst hj;exact⟨hk.2.2,by rw[cG];simp⟩
variable(h:fD C S a w R τ)(hd:o.dst=some d)(hl:d<C.nt)
include h hd hl
theorem go_al{t:TypeId}{k:Nat}{z:List TV}(hE:kB C.P C.E)(ho:o.op=.alloc t)(hz:C.E.z t=some z)(hk:(S k).2=.no/\k<1000000/\C.nt<=k):fx C o a w (cR (cR S k (.ag z,.cl [])) d (.pt,.ptr k 0)):=by obtain⟨_,v,h1,h2⟩:=hE.z _ _ hz;rw[aV]at h1;obtain⟨i,hi,Vr⟩:=h1;exact h.goVar hd hl (w':={w with heap:=w.heap.push (.cells ⟨v.cells.toList⟩ t)}) hk rfl rfl rfl rfl (rJ h2) (by simp[execOp,ho,Instr.alloc,tx hi Vr,newVar,newRow])
theorem go_bx{t:TypeId}{k:Nat}{x:Operand}{y:TV}(hV:Lt V S)(ho:o.op=.box t x)(hx:gR C.E C.nt V t x=some (y,.no))(hp:y.plain=true)(hk:(S k).2=.no/\k<1000000/\C.nt<=k):fx C o a w (cR (cR S k (.ag y.cells,.cl [])) d (.pt,.ptr k 0)):=h.goVar hd hl (w':={w with heap:=w.heap.push (.cells ⟨(a.eval x).cells.toList⟩ t)}) hk rfl rfl rfl rfl (ot (fu h hV hx) hp) (by simp[execOp,ho,Instr.box,newVar,newRow])
theorem go_sb{x:Operand}{s t e:TypeId}{c:Cell}{l:bD}{k:Nat}(hV:Lt V S)(ho:o.op=.convert s t x)(hx:gR C.E C.nt V s x=some c)(hy:yV V c=some (.s l))(hs:C.P.underlying s=some .string)(ht:C.P.underlying t=some (.slice e))(he:C.P.underlying e=some (.int .u8))(hm:pU l.length=true)(hk:(S k).2=.no/\k<1000000/\C.nt<=k):fx C o a w (cR (cR S k (.sl .bs l,.pv)) d (.pt,.fo k)):=by
 have e1:=rd_val h hV hx hy rfl;have hlen:ByteArray.size ⟨⟨l⟩⟩=l.length:=rfl;have hm:l.length<=maxLen:=by{simpa[pU]using hm};have mi:=run_bytes_of_string (P:=C.P) w s t e ⟨⟨l⟩⟩ hs ht he;rw[hlen]at mi;have Ku:=grownCap_ge w l.length 0 e;have hle:=grownCap_le_maxLen w l.length 0 e hm;have wM:(bytesRow ⟨⟨l⟩⟩ (grownCap w l.length 0 e)).size=grownCap w l.length 0 e:=by{simp only[bytesRow,Array.size_append,Array.size_map,Array.size_replicate,List.size_toArray];omega};refine h.Q3 hd hl (st:=.bs) (l:=l) (ys:=l.map λx=>.int .u8 x.toNat) (cur:=bytesRow ⟨⟨l⟩⟩ (grownCap w l.length 0 e)) (e:=e) (fz:=((bytesRow ⟨⟨l⟩⟩ (grownCap w l.length 0 e)).size,(bytesRow ⟨⟨l⟩⟩ (grownCap w l.length 0 e)).size+1)) hk ?_ ?_ ?_ ?_ ?_ ?_ Ku hle ?_ ?_ (w':=w.drew.alloc (.cells (bytesRow ⟨⟨l⟩⟩ (grownCap w l.length 0 e)) e ((bytesRow ⟨⟨l⟩⟩ (grownCap w l.length 0 e)).size,(bytesRow ⟨⟨l⟩⟩ (grownCap w l.length 0 e)).size+1))) (by simp only[execOp,ho,e1,Sem.run_bind,mi,Result.andThen_ok,Sem.run_pure]);{rfl};{rfl};{rfl};{rfl};{simp only;intro o ho;omega};{simpa[fF.size]using wM}
 ·rw[wU];have:∀m:bD,dJ R w (m.map TV.u8) (m.map λx=>.int .u8 x.toNat):=λm=>by
   induction m with
   |nil=>exact .nil
   |cons b m ih=>exact .cons rfl (.sc rfl) ih
  exact this l
 {intro j y hj;have gr:=(aH.1 hj).1;unfold bytesRow;rw[Array.getElem?_append_left (by simp at gr⊢;exact gr)];simpa using hj}
theorem go_cc{x:Operand}{t e:TypeId}{l:bD}{k:Nat}(hV:Lt V S)(ho:o.op=.convert t t x)(hx:gR C.E C.nt V t x=some (.pt,.fo k))(hk:V k=(.sl .bs l,.pv))(ht:C.P.underlying t=some (.slice e))(he:C.P.underlying e=some (.int .u8))(mU:l≠[]):fx C o a w (cR (cR S k (.dead,.zz)) d (.sl .bs l,.no)):=by obtain⟨q1,_,q3⟩:=gV h hV hx;obtain⟨hv,_⟩:a.eval x=τ k/\_:=q1;have Me:=(q3 k (by simp[Gh.dt])).1;have hS:=hV.of hk;have h0:=h.core.key k;rw[hS]at h0;obtain⟨st,l',TZ,⟨rfl,_⟩|⟨g,cap,cur,ce,fz,WT,h1,h2,h3,h4,h5,h6,h7⟩⟩:=h0;{cases TZ;exact(mU rfl).elim};cases TZ;have hb:ij τ S k=some g:=ig (by rw[hS];rfl) (by rw[hS];rfl) (by rw[WT];rfl);obtain⟨R',hc,hz,hr,_⟩:=h.core.freeze Me hS;have Ko:=h.fz hc hz;have Mg:g<w.heap.size:=(Array.getElem?_eq_some_iff.1 h1).1;generalize WS:w.freeze ⟨g,cur.size,none⟩ 1=w2;have hh:w2.heap=w.heap.modify g fun|.cells c el (lo,hi)=>.cells c el (if lo==hi then(cur.size,cur.size+1)else(min lo cur.size,max hi (cur.size+1)))|o=>o:=by{rw[<-WS];unfold World.freeze;rw[ao (by decide)];rfl};have wM:w2.heap.size=w.heap.size:=by{rw[hh,Array.size_modify]};have W8:∀b,b≠g->w2.heap[b]?=w.heap[b]?:=λb hb=>by{rw[hh,Array.getElem?_modify,ao (λe=>hb e.symm)]};have yp:∀b o,w2.cell? ⟨b,o,none⟩=w.cell? ⟨b,o,none⟩:=λb o=>by{by_cases e:b=g;{subst e;have:w2.heap[b]?=some (.cells cur ce (if fz.1==fz.2 then(cur.size,cur.size+1)else(min fz.1 cur.size,max fz.2 (cur.size+1)))):=by{rw[hh,Array.getElem?_modify,ar rfl,h1];rfl};simp only[World.cell?,this,h1]};{simp only[World.cell?,W8 b e]}};have dX:eZ R' w R' w2:=λb o hr=>⟨hr,yp b o⟩;have X6:cR S k (.sl .bs l,.lv) k=(.sl .bs l,.lv):=cG _ _ _;have D2:ij τ (cR S k (.sl .bs l,.lv)) k=some g:=ig (by rw[X6];rfl) (by rw[X6];rfl) (by rw[WT];rfl);have E1:=hc.qQ (k:=k) (v:=τ k) (x:=.dead) (g:=.zz) (w':=w2) (R':=R') Me dX (λj b hj HQ=>⟨W8 b λe=>hj (hc.xq (e▸HQ) D2),λ_=>id⟩) trivial (.inl rfl) (by rw[X6];exact⟨rfl,rfl⟩) (by simp) (λh=>by cases h) (λ_ h=>by cases h) (λ_ h=>by cases h) (λb o hr=>by rw[wM];exact hc.ux b o hr);rw[show yT τ k (τ k)=τ by funext j;simp only[yT];split<;>simp_all,show cR (cR S k (.sl .bs l,.lv)) k (.dead,.zz)=cR S k (.dead,.zz) by funext j;by_cases e:j=k;rw[e,cG,cG];rw[fq _ _ e,fq _ _ e,fq _ _ e]]at E1;have W9:w2.os=w.os/\w2.tape=w.tape/\w2.output=w.output:=by{rw[<-WS];unfold World.freeze;rw[ao (by decide)];exact⟨rfl,rfl,rfl⟩};have Vx:fD C (cR S k (.dead,.zz)) a w2 R' τ:=⟨h.size,h.defers,E1,h.tmps,h.io,Ko.ext.trans (io':=(·=g)) ⟨W9.1,W9.2.1,W9.2.2,by rw[wM];exact Nat.le_refl _,λc _ hc=>W8 c hc,dX,λc o hr=>.inl hr⟩ λc hc=>hc▸h.core.dV k g hb,Ko.gl.dX dX⟩;have Qr:w.shape? g=some (ce,cur.size):=by{unfold World.shape?;rw[h1]};refine Vx.yt hd hl (v:=τ k) (x:=.sl .bs l) (g:=.no) ?_ (Rep.mono dX hr) rfl (by simp[Gh.dt]);rw[WT]at hv⊢;simp[execOp,ho,hv,convert,run_underlying ht,run_underlying he,markStringish,Qr];exact WS
theorem go_mk{t:TypeId}{x y:Operand}{k sa:Nat}{m n:Int}{st:fF}(hE:kB C.P C.E)(hV:Lt V S)(ho:o.op=.makeSlice t x y)(ht:C.E.ty t=some (st,sa))(hx:sW C.E C.nt V x=some m)(hy:sW C.E C.nt V y=some n)(hm:sP m n sa=true)(hk:(S k).2=.no/\k<1000000/\C.nt<=k):fx C o a w (cR (cR S k (.sl st (List.replicate m.toNat st.fS),.pv)) d (.pt,.fo k)):=by
 obtain⟨e,i,zv,h1,h2,h3,h4,h5,h6,h7⟩:=hE.ty _ _ _ ht;obtain⟨k1,e1⟩:=pr h hV hx;obtain⟨k2,e2⟩:=pr h hV hy;simp only[sP,af,aD]at hm;obtain⟨⟨⟨m0,mn⟩,mb⟩,mm⟩:=hm;have hmk:=run_make (P:=C.P) w t e i zv h1 h2 h5 k1 k2 m n m0 mn (by rw[Int.mul_comm,h4];omega) (by simp only[maxLen]at mm;omega);have pH:=st.size_pos;have hfm:((List.replicate m.toNat st.fS).map st.tv).flatMap TV.cells=(List.replicate m.toNat (st.tv st.fS).cells).flatten:=by{rw[List.map_replicate,List.flatMap_def,List.map_replicate]};refine h.Q3 hd hl (st:=st) (l:=List.replicate m.toNat st.fS) (cap:=n.toNat) (cur:=madeCells zv.cells (n.toNat*i.size)) (e:=e) (fz:=(0,0)) (ys:=(List.replicate m.toNat zv.cells.toList).flatten) (w':=w.alloc (.cells (madeCells zv.cells (n.toNat*i.size)) e)) hk rfl rfl rfl rfl (λo _=>by simp) (by rw[size_madeCells,h3]) (by rw[List.length_replicate];omega) (by omega)
  (by rw[hfm];exact qV (h7 R w) _) (λj y hj=>?_) ?_
 {have q1:=vY (by simp;omega) _ _ _ hj;have gr:=(aH.1 hj).1;have T4:(List.replicate m.toNat zv.cells.toList).flatten.length=m.toNat*st.size:=by{simp[h6]};rw[T4]at gr;have hle:m.toNat*st.size<=n.toNat*st.size:=ay _ (by omega);have hm:j<n.toNat*i.size:=by{rw[h3];omega};simp only[madeCells,Array.getElem?_map,Array.getElem?_range,hm,if_true,Option.map_some];simp only[Array.length_toList,Array.getElem?_toList]at q1;rw[getElem!_def,q1]};{simp only[execOp,ho,e1,e2,Sem.run_bind,hmk,Result.andThen_ok,Sem.run_pure,List.length_replicate]}
end
theorem lB{P:Program}(g o:Nat)(t:TypeId)(fz:Nat×Nat):∀(vs:List Value)(i:Nat)(cur:Array Value)(w:World),w.heap[g]?=some (.cells cur t fz)->o+i+vs.length<=cur.size->
  (∀j,j<cur.size->¬(fz.1<=j/\j<fz.2))->(∀v∈vs,v.oneCell'=true)->
  (storeCells ⟨g,o,none⟩ vs i).run P w=.ok () (w.setRow g (cur.toList.take (o+i)++vs++cur.toList.drop (o+i+vs.length)).toArray)
 |[],i,cur,w,hg,_,_,_=>by simp only[storeCells,aK,aE,Nat.add_zero,List.take_append_drop,Array.toArray_toList];rw[setRow_self w g cur t fz hg];rfl
 |v::rest,i,cur,w,hg,hl,hf,h1=>by have hi:o+i<cur.size:=by{simp at hl;omega};have X3:(⟨g,o,none⟩:Addr).add i=⟨g,o+i,none⟩:=addr_add g o i;have yp:w.cell? ⟨g,o+i,none⟩=some cur[o+i]:=by{simp[World.cell?,hg,hi]};have Xs:w.frozen? ⟨g,o+i,none⟩=false:=by{obtain⟨f1,f2⟩:=fz;have:=hf (o+i) hi;simp only[World.frozen?,hg];simp only[Bool.and_eq_false_iff,decide_eq_false_iff_not];simp only at this;omega};have HM:(store ((⟨g,o,none⟩:Addr).add i) v).run P w=.ok () (w.setRow g (cur.setIfInBounds (o+i) v)):=by{rw[X3,run_store P w _ v _ (h1 v (by simp)),yp];simp[Xs,setCell_eq_setRow w g (o+i) cur t fz v hg]};have ih:=lB (P:=P) g o t fz rest (i+1) (cur.setIfInBounds (o+i) v) (w.setRow g (cur.setIfInBounds (o+i) v)) (setRow_heap w g cur _ t _ hg) (by simp at hl⊢;omega) (by simpa using hf) (λx hx=>h1 x (by simp[hx]));simp only[storeCells,Sem.run_bind,HM,Result.andThen_ok,ih,setRow_setRow];congr 3;have e:=list_seg_step cur.toList (o+i) v rest (by simp at hl⊢;omega);simpa[Array.toList_setIfInBounds,Nat.add_assoc]using e
section
variable{P:Program}{w:World}
def Source(P:Program)(w:World)(s:Nat)(x:Value)(m:Nat)(news:List Value):Prop:=(∀w',(Builtin.lenOf x).run P w'=.ok m w')/\(∀w':World,w'.heap=w.heap->(Builtin.firstCells s m x).run P w'=.ok ⟨news⟩ w')/\news.length=m*s/\∀v∈news,v.oneCell'=true
theorem uQ {t u ty e:TypeId} {i:TypeInfo} {du:TypeDesc} (ht:P.underlying t=some (.slice e)) (hi:P.info? e=some i) (hu:P.underlying u=some du) (A3:∀k,du ≠ .int k)
  {g n cap m:Nat} {cur:Array Value} {ce:TypeId} {fz:Nat × Nat} {x:Value} {news:List Value} (hg:w.heap[g]?=some (.cells cur ce fz)) (hf:∀j,j<cur.size→¬(fz.1≤j∧j<fz.2))
  (hx:Source P w i.size x m news) (zT:n+m≤cap) (oh:cur.size=cap * i.size) :
  (Builtin.append_ #[t,u] ty #[.slice (some ⟨g,0,none⟩) n cap,x]).run P w =
   .ok (.slice (some ⟨g,0,none⟩) (n+m) cap) (w.setRow g (cur.toList.take (n * i.size)++news++cur.toList.drop (n * i.size+news.length)).toArray):=by
 obtain ⟨h1,h2,h3,h4⟩:=hx
 have hle:n * i.size+news.length≤cur.size:=by rw [h3,oh,←Nat.add_mul];exact ay _ zT
 have HM:=lB (P:=P) g (n * i.size) ce fz news 0 cur w hg (by simpa using hle) hf h4
 simp only [Nat.add_zero] at HM
 have hz:(match du with | .int _=>true | _=>false)=false:=by cases du <;> first | rfl | exact (A3 _ rfl).elim
 simp only [Builtin.append_,List.getElem?_toArray,List.getElem?_cons_zero,List.getElem?_cons_succ,Sem.run_bind,run_underlying ht,run_underlying hu,Result.andThen_ok,run_sizeOf hi,Sem.run_pure,hz,bq,if_false,h1,zT,if_true,aL,h2 w rfl]
 simp [addr_add,HM]
theorem uR {t u ty e:TypeId} {i:TypeInfo} {z:Value} {du:TypeDesc} (ht:P.underlying t=some (.slice e)) (hi:P.info? e=some i) (hz:i.zero=some z) (hu:P.underlying u=some du) (A3:∀k,du ≠ .int k)
  {q:Option Addr} {n cap m:Nat} {x:Value} {xK news:List Value} (ho:∀w':World,w'.heap=w.heap→(Builtin.firstCells i.size n (.slice q n cap)).run P w' = .ok ⟨xK⟩ w')
  (hx:Source P w i.size x m news) (hg:cap<n+m) (VM:n+m≤maxLen) (hb:(n+m) * i.bytes≤140737488355328) :
  (Builtin.append_ #[t,u] ty #[.slice q n cap,x]).run P w =
   .ok (.slice (some ⟨w.heap.size,0,none⟩) (n+m) (grownCap w (n+m) cap e))
    (w.drew.alloc (.cells ((⟨xK⟩:Array Value)++⟨news⟩++Builtin.zeroCells z.cells (grownCap w (n+m) cap e - (n+m))) e)):=by
 obtain ⟨h1,h2,h3,h4⟩:=hx
 have hn:¬(n+m≤cap):=by omega
 have Ye:¬(9223372036854775807<((n:Int)+(m:Int))):=by simp only [maxLen] at VM;omega
 have Yf:¬(281474976710656<Builtin.nextslicecap (n+m) cap * i.bytes):=by
  have:=growslice_fits hg hb;omega
 have Xv:(match du with | .int _=>true | _=>false)=false:=by cases du <;> first | rfl | exact (A3 _ rfl).elim
 simp [Builtin.append_,run_underlying ht,run_underlying hu,Xv,sizeOf,typeInfo,zeroValue,hi,hz,h1,hn,Ye,Yf,Question.forced,ho w.drew rfl,h2 w.drew rfl,newRow,grownCap]
 congr 2
 apply Array.ext'
 simp [az]
end
section
variable{w:World}
theorem Source.of_string{P:Program}(b:ByteArray):Source P w 1 (.string b) b.data.toList.length (b.data.toList.map λb=>.int .u8 b.toNat):=by refine⟨λ_=>?_,λw' _=>?_,by simp,by simp;exact λ_ _=>rfl⟩;{rw[bsize];rfl};{have:b.extract 0 b.size=b:=by{simp};simp only[Builtin.firstCells,bsize,this,Sem.run_pure];congr 1;apply Array.ext';simp}
theorem Source.of{P:Program}{R:Reach}{t:fF}{l:List t.El}{x:Value}(h:Holds R w t l x):∃news,Source P w t.size x l.length news/\dJ R w ((l.map t.tv).flatMap TV.cells) news:=by rcases h with⟨rfl,rfl|⟨ad,cap,rfl⟩⟩|⟨b,off,cap,ys,rfl,h1,h2,h3⟩;{exact⟨[],⟨λ_=>rfl,λ_ _=>rfl,by simp,by simp⟩,.nil⟩};{exact⟨[],⟨λ_=>rfl,λw' _=>run_firstCells_some (P:=P) w' t.size 0 ad 0 cap [] (by simp) (λj v hj=>by simp at hj),by simp,by simp⟩,.nil⟩};{refine⟨ys,⟨λ_=>rfl,λw' hw=>?_,h1,h3.one⟩,h3⟩;exact run_firstCells_some (P:=P) w' t.size l.length ⟨b,off,none⟩ l.length cap ys h1 (λj v hj=>by rw[addr_add];rw[World.cell?_of_block (w:=w) (by rw[hw])];exact h2 j v hj)}
theorem Source.PZ{P:Program}{R:Reach}(l:bD):Source P w 1 (.string ⟨⟨l⟩⟩) l.length (l.map λb=>.int .u8 b.toNat)/\dJ R w ((l.map (fF.tv .bs)).flatMap TV.cells) (l.map λb=>.int .u8 b.toNat):=by
 refine⟨Source.of_string (P:=P) (w:=w) ⟨⟨l⟩⟩,?_⟩;rw[wU];induction l with
 |nil=>exact .nil
 |cons b m ih=>exact .cons rfl (.sc rfl) ih
end
theorem Db{s:Nat}:∀{es:List TV}{i:Nat}{e:TV},(∀x∈es,x.cells.length=s)->es[i]?=some e->((es.flatMap TV.cells).drop (i*s)).take s=e.cells
 |x::es,0,e,h,he=>by simp at he;subst he;have:=h x (by simp);simp[<-this]
 |x::es,i+1,e,h,he=>by have hx:=h x (by simp);have ih:=Db (es:=es) (i:=i) (e:=e) (λy hy=>h y (by simp[hy])) (by simpa using he);simp only[List.flatMap_cons];rw[show(i+1)*s=x.cells.length+i*s by rw[hx,Nat.succ_mul];omega,<-List.drop_drop,List.drop_left];exact ih
 |[],_,_,_,he=>by simp at he
section
variable{C:Ctx}{S V:St}{a:Act}{w w':World}{R:Reach}{τ:Nat->Value}{o:Oper}{d:Nat}
theorem fD.wr(h:fD C S a w R τ){k b:Nat}{cur cur':Array Value}{e:TypeId}{fz:Nat×Nat}{x:TV}{g:Gh}(hk:C.nt<=k)(hb:ij τ S k=some b)(hP:(S k).2.Ge=false)(hh:w.heap[b]?=some (.cells cur e fz))(hR:∀o,¬R b o)(new:kA R (w.setRow b cur') τ x g (τ k))(hg:g.Ge=false/\g≠.no)(hm:∀j∈g.dt,j≠k/\C.nt<=j/\(S j).2≠.no):fD C (cR S k (x,g)) a (w.setRow b cur') R τ:=by have dX:eZ R w R (w.setRow b cur'):=λc o hr=>⟨hr,cell_setRow_other w b _ ⟨c,o,none⟩ (λe=>hR o (by have:c=b:=e;rw[<-this];exact hr))⟩;have O2:=(gE hb).1;have hc:=h.core.qQ (k:=k) (v:=τ k) (x:=x) (g:=g) (w':=w.setRow b cur') (R':=R) hk dX (λj c hj hc=>⟨setRow_other w b c cur' (λe=>hj (h.core.xq hb (e▸hc)).symm),λ_=>id⟩) new (.inl rfl) ⟨hP,hg.1⟩ hg.2 (λ_=>.inl O2) (λc Mh E1=>by have:ij τ S k=some c:=ig O2 (AY hP) E1;exact⟨h.core.dV k c this,.inr this⟩) hm (λc o hr=>by rw[setRow_size];exact h.core.ux c o hr);rw[show yT τ k (τ k)=τ by funext j;simp only[yT];split<;>simp_all]at hc;exact⟨h.size,h.defers,hc,h.tmps,h.io,h.ext.trans (io':=(·=b)) ⟨rfl,rfl,rfl,by rw[setRow_size];exact Nat.le_refl _,λc _ hc=>setRow_other w b c cur' hc,dX,λc o hr=>.inl hr⟩ λc hc=>hc▸h.core.dV k b hb,h.gl.dX dX⟩
theorem fD.Q2(h:fD C S a w' R τ)(hd:o.dst=none)(hr:(execOp a.eval o).run C.P w=.ok .skip w'):fx C o a w S:=λK Q hK=>by unfold Oper.wp;rw[hr,Oper.upon_skip,hd];exact hK _ _ ⟨R,τ,h⟩
variable(h:fD C S a w R τ)(hV:Lt V S)
include h hV
theorem qN{m:Nat}{xs:List TV}{ts:List (Nat×Nat)}(hm:S m=(.ag xs,.cl ts)):∃b cs e,τ m=.pointer (some ⟨b,0,none⟩)/\w.heap[b]?=some (.cells ⟨cs⟩ e (0,0))/\dJ R w xs cs/\(∀t∈ts,cs[t.1]?=some (τ t.2))/\(∀o,¬R b o)/\(∀t∈ts,C.nt<=t.2/\(S t.2).2≠.no)/\ij τ S m=some b:=by have _:=hV;have hk:=h.core.key m;rw[hm]at hk;obtain⟨b,cs,e,L8,h1,h2,h3,h4,h5,h6⟩:=hk;cases h3;refine⟨b,cs,e,h1,h2,h4,h5,h6,λt ht=>?_,ig (by rw[hm];rfl) (by rw[hm];rfl) (by rw[h1];rfl)⟩;have:=h.core.inv m t.2;rw[hm]at this;exact this (List.mem_map_of_mem (f:=(·.2)) ht)
section
variable(hd:o.dst=some d)(hl:d<C.nt)
include hd hl
theorem go_lr{x:Operand}{t:TypeId}{n:Nat}{agg:Bool}{y:TV}(ho:o.op=.load t x)(hs:kF C.P t=some (n,agg))(h1:agg=true\/n=1)(hx:gR C.E C.nt V 0 x=some (.ro y,.no))(h2:y.wq=agg)(h3:y.cells.length=n):fx C o a w (cR S d (y,.no)):=by obtain⟨b,off,s',hv,hA⟩:=(fu h hV hx).Ey;obtain⟨inf,hi,rfl,ha⟩:=gS hs;obtain⟨ys,TY,hc,hL⟩:=hA.read;have Qn:ys.length=inf.size:=by{rw[<-hL.length,h3]};refine h.iL hd hl (v:=if agg then .agg ⟨ys⟩else ys.headD undef) ?_ (by rw[<-h2];exact Tp hL);simp only[execOp,ho,hv,Instr.loadAt,Instr.sureAddr,Sem.run_bind,Sem.run_pure,Result.andThen_ok,kj hi ha h1 Qn hc]
theorem go_ld{x:Operand}{t:TypeId}{m q n:Nat}{agg:Bool}{cs Bl:List TV}{ts:List (Nat×Nat)}{y:TV}{ws:List (Nat×Cell)}(ho:o.op=.load t x)(hs:kF C.P t=some (n,agg))(h1:agg=true\/n=1)(hx:gR C.E C.nt V 0 x=some (.pt,.ptr m q))(hm:S m=(.ag cs,.cl ts))(hf:pZ V q n ts cs=some (Bl,ws))(hp:ph Bl q n agg=some y):fx C o a w (cR (fU S ws) d (y,.no)):=by obtain⟨q1,_,q3⟩:=gV h hV hx;obtain⟨b',p1,hv⟩:∃b,τ m=.pointer (some ⟨b,0,none⟩)/\a.eval x=.pointer (some ⟨b,q,none⟩):=q1;obtain⟨b,ys,e,k1,k2,k3,k4,k5,k6,_⟩:=qN h hV hm;rw[k1]at p1;cases p1;obtain⟨inf,hi,rfl,ha⟩:=gS hs;obtain⟨R',f1,f2,f3,_⟩:=pY h.core hV.q k3 (λt ht=>⟨(k6 t ht).1,k4 t ht⟩) hf;have h':=h.fz f1 f2;obtain⟨hlen,lU⟩:=qZ f3 hp h1;refine h'.iL hd hl (v:=if agg then .agg ⟨(ys.drop q).take inf.size⟩else((ys.drop q).take inf.size).headD undef) ?_ lU;have hc:∀j y,((ys.drop q).take inf.size)[j]?=some y->w.cell? ⟨b',q+j,none⟩=some y:=λj y hj=>by{rw[aZ]at hj;split at hj;{rw[List.getElem?_drop]at hj;simp only[World.cell?,k2];simpa using hj};{cases hj}};simp only[execOp,ho,hv,Instr.loadAt,Instr.sureAddr,Sem.run_bind,Sem.run_pure,Result.andThen_ok,kj hi ha h1 hlen hc]
theorem go_ldt{x:Operand}{t:TypeId}{m q k:Nat}{cs:List TV}{ts:List (Nat×Nat)}(ho:o.op=.load t x)(hs:kF C.P t=some (1,false))(hx:gR C.E C.nt V 0 x=some (.pt,.ptr m q))(hm:S m=(.ag cs,.cl ts))(hf:oY q ts=some k):fx C o a w (cR S d (.pt,.fo k)):=by
 obtain⟨q1,_,q3⟩:=gV h hV hx;obtain⟨b',p1,hv⟩:∃b,τ m=.pointer (some ⟨b,0,none⟩)/\a.eval x=.pointer (some ⟨b,q,none⟩):=q1;obtain⟨b,ys,e,k1,k2,k3,k4,k5,k6,_⟩:=qN h hV hm;rw[k1]at p1;cases p1;obtain⟨inf,hi,hn,ha⟩:=gS hs;have vm:=p9 hf;have hy:=k4 _ vm;refine h.val hd hl (v:=τ k) ?_ (g:=.fo k) ⟨rfl,k3.one _ (aO hy)⟩ rfl λj hj=>?_
 ·have:=kj (P:=C.P) hi ha (.inr hn) (w:=w) (b:=b') (off:=q) (ys:=[τ k]) (by simp[hn]) (λj y hj=>by
   cases j with
   |zero=>cases hj;simp only[World.cell?,k2];simpa using hy
   |succ j=>simp at hj)
  simp only[execOp,ho,hv,Instr.loadAt,Instr.sureAddr,Sem.run_bind,Sem.run_pure,Result.andThen_ok,this];rfl
 {simp only[Gh.dt,List.mem_singleton]at hj;subst hj;exact k6 _ vm}
theorem go_ldo{x:Operand}{t:TypeId}{m:Nat}{cs:List TV}{ts:List (Nat×Nat)}(ho:o.op=.load t x)(hs:kF C.P t=some (cs.length,true))(hx:gR C.E C.nt V 0 x=some (.pt,.ptr m 0))(hm:S m=(.ag cs,.cl ts)):fx C o a w (cR S d (.ag cs,.ow ts)):=by obtain⟨q1,_,q3⟩:=gV h hV hx;obtain⟨b',p1,hv⟩:∃b,τ m=.pointer (some ⟨b,0,none⟩)/\a.eval x=.pointer (some ⟨b,0,none⟩):=q1;obtain⟨b,ys,e,k1,k2,k3,k4,k5,k6,_⟩:=qN h hV hm;rw[k1]at p1;cases p1;obtain⟨inf,hi,hn,ha⟩:=gS hs;have hle:=k3.length;refine h.val hd hl (v:=.agg ⟨ys⟩) ?_ (g:=.ow ts) ⟨_,_,rfl,rfl,k3,k4⟩ rfl λj hj=>?_;{have:=kj (P:=C.P) hi ha (.inl rfl) (w:=w) (b:=b') (off:=0) (ys:=ys) (by omega) (λj y hj=>by simp only[World.cell?,k2];simpa using hj);simp only[execOp,ho,hv,Instr.loadAt,Instr.sureAddr,Sem.run_bind,Sem.run_pure,Result.andThen_ok,this];rfl};{obtain⟨t,ht,rfl⟩:=bn.1 hj;exact k6 t ht}
omit hd hl in
theorem O6{x:Operand}{t:TypeId}{i s q k:Nat}{st:fF}{l:List st.El}{p:Bool}(hx:gR C.E C.nt V t x=some (.el i s q,.pe k))(hk:fX R w p (τ k) (.sl st l))(hs:s=st.size)(hi:i<l.length):∃g cap cur e fz,τ k=.slice (some ⟨g,0,none⟩) l.length cap/\a.eval x=.pointer (some ⟨g,i*st.size+q,none⟩)/\w.heap[g]?=some (.cells cur e fz)/\(∀o,o<cur.size->¬(fz.1<=o/\o<fz.2))/\cur.size=cap*st.size/\l.length<=cap/\cap<=maxLen/\dJ R w ((l.map st.tv).flatMap TV.cells) (cur.toList.take (l.length*st.size))/\(∀o,R g o↔(p=true/\o<l.length*st.size))/\dJ R w (st.tv l[i]).cells (((cur.toList.take (l.length*st.size)).drop (i*st.size)).take st.size):=by subst hs;obtain⟨q1,_,_⟩:=gV h hV hx;obtain⟨b,i',s',q',p1,p2,hv⟩:∃b i' s' q',Value.ij (τ k)=some b/\TV.el i st.size q=.el i' s' q'/\a.eval x=.pointer (some ⟨b,i'*s'+q',none⟩):=q1;cases p2;rcases hk.cells with⟨rfl,_⟩|⟨g,cap,cur,e,fz,e1,e2,e3,e4,e5,e6,e7,e8⟩;{simp at hi};{rw[e1]at p1;cases p1;have:=(e7.drop (i*st.size)).take st.size;rw[Db (e:=st.tv l[i]) (λy hy=>by obtain⟨z,_,rfl⟩:=bn.1 hy;exact fF.nc st z) (by simp[hi])]at this;exact⟨g,cap,cur,e,fz,e1,hv,e2,e3,e4,e5,e6,e7,e8,this⟩}
theorem go_pld{x:Operand}{t:TypeId}{i s q k n:Nat}{agg p:Bool}{st:fF}{l:List st.El}{y:TV}(ho:o.op=.load t x)(hs:kF C.P t=some (n,agg))(h1:agg=true\/n=1)(hx:gR C.E C.nt V 0 x=some (.el i s q,.pe k))(hk:fX R w p (τ k) (.sl st l))(h2:s=st.size)(hi:i<l.length)(hp:AL (st.tv (l.getD i st.fS)) q n agg=some y):fx C o a w (cR S d (y,.no)):=by
 obtain⟨g,cap,cur,e,fz,_,hv,hh,_,wM,hle,_,_,_,hLe⟩:=O6 h hV hx hk h2 hi;obtain⟨inf,za,rfl,ha⟩:=gS hs;rw[ai,aw hi,Option.getD_some]at hp;have Qz:ph (st.tv l[i]).cells q inf.size agg=some y:=by
  unfold AL at hp;split at hp;{rename_i cs e;rw[e];exact hp}
  ·rename_i mU;cases hb:(Nat.beq q 0&&Nat.beq inf.size 1&&!agg)with
   |false=>rw[hb]at hp;cases hp
   |true=>rw[hb]at hp;cases hp;simp only[af,Bool.not_eq_true']at hb;obtain⟨⟨b1,b2⟩,rfl⟩:=hb;have b1:=aB b1;subst b1;have:(st.tv l[i]).cells=[st.tv l[i]]:=by{cases hq:st.tv l[i]<;>first|rfl|exact(mU _ hq).elim};rw[this];rfl
 obtain⟨hlen,lU⟩:=qZ hLe Qz h1;refine h.iL hd hl (v:=if agg then .agg ⟨(((((cur.toList.take (l.length*st.size)).drop (i*st.size)).take st.size).drop q).take inf.size)⟩else(((((cur.toList.take (l.length*st.size)).drop (i*st.size)).take st.size).drop q).take inf.size).headD undef) ?_ lU;have hc:∀j y,(((((cur.toList.take (l.length*st.size)).drop (i*st.size)).take st.size).drop q).take inf.size)[j]?=some y->w.cell? ⟨g,i*st.size+q+j,none⟩=some y:=by{intro j y hj;simp only[World.cell?,hh];rw[aZ]at hj;split at hj;{rw[List.getElem?_drop,aZ]at hj;split at hj;{rw[List.getElem?_drop,aZ]at hj;split at hj;{rw[show i*st.size+q+j=i*st.size+(q+j) by omega];simpa using hj};{cases hj}};{cases hj}};{cases hj}};simp only[execOp,ho,hv,Instr.loadAt,Instr.sureAddr,Sem.run_bind,Sem.run_pure,Result.andThen_ok,kj za ha h1 hlen hc]
end
end
section
variable{R:Reach}{w:World}
theorem zW(l:List Value):∀(off k:Nat)(cells:Array Value),off+k+l.length<=cells.size->((l.zipIdx k).foldl (λcs p=>cs.setIfInBounds (off+p.2) p.1) cells).toList=cells.toList.take (off+k)++l++cells.toList.drop (off+k+l.length):=by
 induction l with
 |nil=>intro off k cells _;simp
 |cons v l ih=>intro off k cells hl;simp only[List.zipIdx_cons,List.foldl_cons];rw[ih off (k+1) (cells.setIfInBounds (off+k) v) (by simp at hl⊢;omega)];have e:=list_seg_step cells.toList (off+k) v l (by simp at hl⊢;omega);simpa[Array.toList_setIfInBounds,Nat.add_assoc]using e
theorem J0{R:Reach}{w:World}{x:TV}{v:Value}(h:Rep R w x v)(hp:x.Tz=true)(h1:x=.pt->v.oneCell'=true):dJ R w x.cells v.cells.toList:=by
 cases x with
 |pt=>have e2:v.cells.toList=[v]:=by{have:=h1 rfl;cases v<;>first|rfl|(simp[Value.oneCell']at this)};rw[e2];exact .cons (h1 rfl) h .nil
 |_=>exact ot h hp
theorem Df(place:Nat->Option (Nat×Nat)):∀(parts:List (Nat×Value))(pl:List (Nat×Nat))(xs:List TV)(z cs:List TV)(cells:Array Value),dJ R w z cells.toList->parts.length=pl.length->
  (∀(j:Nat)(p:Nat×Value)(q:Nat×Nat),parts[j]?=some p->pl[j]?=some q->place p.1=some q)->(∀(j:Nat)(p:Nat×Value)(x:TV),parts[j]?=some p->xs[j]?=some x->Rep R w x p.2/\(x=.pt->p.2.oneCell'=true))->rB z pl xs=some cs->
  ∃eK,Instr.fill place cells parts=some eK/\dJ R w cs eK.toList
 |[],pl,xs,z,cs,cells,hz,hl,_,_,hf=>by
  have:pl=[]:=bj hl.symm;subst this;cases xs with
  |nil=>simp[rB]at hf;subst hf;exact⟨cells,rfl,hz⟩
  |cons=>simp[rB]at hf
 |(i,v)::parts,pl,xs,z,cs,cells,hz,hl,hp,hr,hf=>by
  cases pl with
  |nil=>simp at hl
  |cons q pl=>
   obtain⟨off,n⟩:=q;cases xs with
   |nil=>simp[rB]at hf
   |cons x xs=>simp only[rB]at hf;obtain⟨hc,hf⟩:=bK.1 hf;{simp only[af]at hc;obtain⟨⟨Mh,E1⟩,ZF⟩:=hc;have E1:=aB E1;have ZF:=Nat.le_of_ble_eq_true ZF;have hx:=J0 (hr 0 _ _ rfl rfl).1 Mh (hr 0 _ _ rfl rfl).2;have Vs:=hx.length;have HJ:=hz.length;simp only[Array.length_toList]at Vs HJ;have BA:=hp 0 _ _ rfl rfl;simp only at BA;have hs:v.cells.size=n:=by{omega};have oh:¬(v.cells.size≠n\/off+v.cells.size>cells.size):=by{omega};have kH:=zW v.cells.toList off 0 cells (by simp;omega);have hz':dJ R w (gX z off x.cells) (v.cells.zipIdx.foldl (λcs p=>cs.setIfInBounds (off+p.2) p.1) cells).toList:=by{have e:(v.cells.zipIdx.foldl (λcs p=>cs.setIfInBounds (off+p.2) p.1) cells)=(v.cells.toList.zipIdx 0).foldl (λcs p=>cs.setIfInBounds (off+p.2) p.1) cells:=by{rw[<-Array.foldl_toList];simp};rw[e,kH];have hle:v.cells.toList.length=x.cells.length:=by{simp;omega};simp only[gX,Nat.add_zero,hle];exact((hz.take off).append hx).append (hz.drop _)};obtain⟨eK,h1,h2⟩:=Df place parts pl xs _ cs _ hz' (by simpa using hl) (λj p q h1 h2=>hp (j+1) p q (by simpa using h1) (by simpa using h2)) (λj p y h1 h2=>hr (j+1) p y (by simpa using h1) (by simpa using h2)) hf;refine⟨eK,?_,h2⟩;simp only[Instr.fill,BA];rw[ao (by simpa using oh)];exact h1}
end
theorem zY(s:Nat):∀(vs:List Value)(k:Nat)(cells:Array Value),(∀v∈vs,v.cells.size=s)->(k+vs.length)*s=cells.size->
  ∃eK,Instr.fill (λi=>some (i*s,s)) cells ((vs.zipIdx k).map λp=>(p.2,p.1))=some eK/\eK.toList=cells.toList.take (k*s)++vs.flatMap λv=>v.cells.toList
 |[],k,cells,_,hl=>by refine⟨cells,rfl,?_⟩;simp at hl;simp[List.take_of_length_le,hl]
 |v::vs,k,cells,hv,hl=>by have h0:=hv v (by simp);simp only[av]at hl;have hm:(k+(vs.length+1))*s=k*s+s+vs.length*s:=by{rw[Nat.add_mul,Nat.succ_mul];omega};have oh:¬(v.cells.size≠s\/k*s+v.cells.size>cells.size):=by{omega};have kH:=zW v.cells.toList (k*s) 0 cells (by simp;omega);have e:(v.cells.zipIdx.foldl (λcs p=>cs.setIfInBounds (k*s+p.2) p.1) cells)=(v.cells.toList.zipIdx 0).foldl (λcs p=>cs.setIfInBounds (k*s+p.2) p.1) cells:=by{rw[<-Array.foldl_toList];simp};have wM:(v.cells.zipIdx.foldl (λcs p=>cs.setIfInBounds (k*s+p.2) p.1) cells).size=cells.size:=by{rw[e,<-Array.length_toList,kH];simp;omega};obtain⟨eK,h1,h2⟩:=zY s vs (k+1) (v.cells.zipIdx.foldl (λcs p=>cs.setIfInBounds (k*s+p.2) p.1) cells) (λu hu=>hv u (by simp[hu])) (by rw[wM,<-hl];congr 1;omega);refine⟨eK,?_,?_⟩;{simp only[List.zipIdx_cons,bc,Instr.fill];rw[ao (by simpa using oh)];exact h1};{rw[h2,e,kH];have Xm:(k+1)*s=k*s+s:=Nat.succ_mul k s;have hL:(cells.toList.take (k*s+0)++v.cells.toList).length=(k+1)*s:=by{simp;omega};rw[az,<-az (cells.toList.take (k*s+0)),List.take_left' hL];simp}
theorem zr{α:Type}:∀(l:List (Nat×α))(k:Nat),l.map (·.1)=List.range' k l.length->l=((l.map (·.2)).zipIdx k).map λp=>(p.2,p.1)
 |[],_,_=>rfl
 |(i,x)::l,k,h=>by simp only[bc,av,List.range'_succ,bt]at h;simp only[bc,List.zipIdx_cons];rw[<-zr l (k+1) h.2,h.1]
theorem zo{R:Reach}{w:World}{s:Nat}:∀{xs:List TV}{vs:List Value},jf R w xs vs->(∀x∈xs,x.plain=true/\x.cells.length=s)->dJ R w (xs.flatMap TV.cells) (vs.flatMap λv=>v.cells.toList)/\∀v∈vs,v.cells.size=s
 |_,_,.nil,_=>⟨.nil,by simp⟩
 |_,_,.cons (x:=x) h t,hx=>by obtain⟨h1,h2⟩:=zo t (λx A0=>hx x (by simp[A0]));obtain⟨p1,p2⟩:=hx x (by simp);have hL:=ot h p1;refine⟨by simpa using hL.append h1,λv hv=>?_⟩;rcases aP.1 hv with rfl|hv;{have:=hL.length;simp at this;omega};{exact h2 v hv}
theorem zD{v:Value}(h:v.oneCell'=true):v.cells.toList=[v]:=by cases v<;>first|rfl|(simp[Value.oneCell']at h)
theorem BS{α:Type}(l v:List α){a N:Nat}(h:a+v.length<=N)(hl:N<=l.length):(l.take a++v++l.drop (a+v.length)).take N=(l.take N).take a++v++(l.take N).drop (a+v.length):=by have e:(l.take a++v).length=a+v.length:=by{simp;omega};rw[List.take_append,List.take_of_length_le (by omega),e,List.take_take,Nat.min_eq_left (by omega),List.drop_take]
theorem vZ{s:Nat}:∀{es:List TV}{i q:Nat}{e e':TV}{ys:List TV},(∀x∈es,x.cells.length=s)->es[i]?=some e->e'.cells=gX e.cells q ys->q+ys.length<=s->(es.set i e').flatMap TV.cells=gX (es.flatMap TV.cells) (i*s+q) ys
 |x::es,0,q,e,e',ys,h,he,hc,hq=>by simp at he;subst he;have hx:=h x (by simp);simp only[List.set_cons_zero,List.flatMap_cons,Nat.zero_mul,Nat.zero_add,hc,gX];rw[List.take_append_of_le_length (by omega),List.drop_append_of_le_length (by omega)];simp only[az]
 |x::es,i+1,q,e,e',ys,h,he,hc,hq=>by have hx:=h x (by simp);have ih:=vZ (es:=es) (i:=i) (q:=q) (e:=e) (e':=e') (ys:=ys) (λy hy=>h y (by simp[hy])) (by simpa using he) hc hq;simp only[List.set_cons_succ,List.flatMap_cons,ih,gX];rw[show(i+1)*s+q=x.cells.length+(i*s+q) by rw[hx,Nat.succ_mul];omega,List.take_length_add_append,show x.cells.length+(i*s+q)+ys.length=x.cells.length+(i*s+q+ys.length) by omega,List.drop_length_add_append];simp only[az]
 |[],_,_,_,_,_,_,he,_,_=>by simp at he
section
variable{C:Ctx}{S V:St}{a:Act}{w w':World}{R:Reach}{τ:Nat->Value}{o:Oper}{d:Nat}(h:fD C S a w R τ)(hV:Lt V S)
include h hV
theorem go_st'(hd:o.dst=none){x v:Operand}{t:TypeId}{inf:TypeInfo}{m q:Nat}{cs:List TV}{ts us:List (Nat×Nat)}{qs:List TV}(ho:o.op=.store t x v)(hi:C.P.info? t=some inf)(hx:gR C.E C.nt V 0 x=some (.pt,.ptr m q))(hm:S m=(.ag cs,.cl ts))(hL:dJ R w qs (a.eval v).cells.toList)(hn:qs.length=inf.size)(oh:q+inf.size<=cs.length)(hu:∀u∈us,u.2≠m/\((u∈ts/\(u.1<q\/q+inf.size<=u.1))\/(C.nt<=u.2/\(S u.2).2≠.no/\q<=u.1/\(a.eval v).cells.toList[u.1 -q]?=some (τ u.2)))):fx C o a w (cR S m (.ag (gX cs q qs),.cl us)):=by obtain⟨q1,_,q3⟩:=gV h hV hx;obtain⟨b',p1,hv⟩:∃b,τ m=.pointer (some ⟨b,0,none⟩)/\a.eval x=.pointer (some ⟨b,q,none⟩):=q1;obtain⟨b,ys,e,k1,k2,k3,k4,k5,k6,k7⟩:=qN h hV hm;rw[k1]at p1;cases p1;have hlen:=hL.length;have hlm:=k3.length;have O1:(a.eval v).cells.size=inf.size:=by{simp at hlen;omega};have HM:=run_storeCells_at (P:=C.P) b' q e (a.eval v).cells.toList 0 ⟨ys⟩ w k2 (by simp;omega) hL.one;simp only[Nat.add_zero]at HM;let new:List Value:=ys.take q++(a.eval v).cells.toList++ys.drop (q+(a.eval v).cells.toList.length);have mi:(execOp a.eval o).run C.P w=.ok .skip (w.setRow b' ⟨new⟩):=by{have:¬((a.eval v).cells.size≠inf.size):=by{omega};simp only[execOp,ho,hv,Instr.storeAt,Instr.sureAddr,Sem.run_bind,Sem.run_pure,Result.andThen_ok,storeVar,run_sizeOf hi,Sem.run_ite,this,if_false,HM];rfl};have dX:eZ R w R (w.setRow b' ⟨new⟩):=λb o hr=>⟨hr,cell_setRow_other w b' _ ⟨b,o,none⟩ (λe=>k5 o (by have:b=b':=e;rw[<-this];exact hr))⟩;have hle:(a.eval v).cells.toList.length=qs.length:=hlen.symm;have Ya:dJ R (w.setRow b' ⟨new⟩) (gX cs q qs) new:=by{show dJ R (w.setRow b' ⟨new⟩) _ (ys.take q++(a.eval v).cells.toList++ys.drop (q+(a.eval v).cells.toList.length));rw[hle];exact(((k3.take q).append hL).append (k3.drop (q+qs.length))).mono dX};refine(h.wr (k:=m) (b:=b') (cur:=⟨ys⟩) (cur':=⟨new⟩) (x:=.ag (gX cs q qs)) (g:=.cl us) (q3 m (by simp[Gh.dt])).1 k7 (by rw[hm];rfl) k2 k5 ⟨b',new,e,_,k1,setRow_heap w b' ⟨ys⟩ ⟨new⟩ e (0,0) k2,rfl,Ya,λu WU=>?_,k5⟩ ⟨rfl,by simp⟩ λj hj=>?_).Q2 hd mi;{rcases(hu u WU).2 with⟨h1,h2⟩|⟨_,_,h1,h2⟩;{have hc:=k4 u h1;have gr:=(aH.1 hc).1;simp only[new];rcases h2 with h2|h2;{rw[az,List.getElem?_append_left (by simp;omega),aZ,ar h2];exact hc};{rw[aY (by simp;omega)];simp only[ae,aF,hle,hn,List.getElem?_drop];rw[<-hc];congr 1;omega}};{have gr:=(aH.1 h2).1;simp only[new];rw[az,aY (by simp;omega),aF,Nat.min_eq_left (by omega),List.getElem?_append_left gr];exact h2}};{obtain⟨u,WU,rfl⟩:=bn.1 hj;obtain⟨h1,h2⟩:=hu u WU;refine⟨h1,?_⟩;rcases h2 with⟨h2,_⟩|⟨h2,h3,_⟩;{exact k6 u h2};{exact⟨h2,h3⟩}}
omit h hV in
theorem zt{o n:Nat}{ts:List (Nat×Nat)}{u:Nat×Nat}(hu:u∈FR o n ts):u∈ts/\(u.1<o\/o+n<=u.1):=by obtain⟨h1,h2⟩:=List.mem_filter.1 hu;simp only[Bool.or_eq_true]at h2;exact⟨h1,h2.imp (λh=>Nat.le_of_ble_eq_true h) (λh=>Nat.le_of_ble_eq_true h)⟩
theorem go_pst(hd:o.dst=none){x v:Operand}{t:TypeId}{inf:TypeInfo}{i s q k:Nat}{st:fF}{l:List st.El}{y e':TV}{z:st.El}(ho:o.op=.store t x v)(hi:C.P.info? t=some inf)(hx:gR C.E C.nt V 0 x=some (.el i s q,.pe k))(hk:S k=(.sl st l,.pv))(hv:Rep R w y (a.eval v))(hp:y.plain=true)(hn:y.cells.length=inf.size)(hs:s=st.size)(gr:i<l.length)(he:ED (st.tv (l.getD i st.fS)) q y=some e')(hz:st.el e'=some z):fx C o a w (cR S k (.sl st (l.set i z),.pv)):=by
 have hK:=h.core.key k;rw[hk]at hK;obtain⟨g,cap,cur,ce,fz,h1,h2,h3,h4,h5,h6,h7,h8,h9,iZ⟩:=O6 h hV hx hK hs gr;obtain⟨_,_,q3⟩:=gV h hV hx;have hL:=ot hv hp;have hlen:=hL.length;have O1:(a.eval v).cells.size=inf.size:=by{simp at hlen;omega};rw[ai,aw gr,Option.getD_some]at he;have Sb:=fF.nc st l[i];obtain⟨oh,kH⟩:q+y.cells.length<=st.size/\e'.cells=gX (st.tv l[i]).cells q y.cells:=by
  unfold ED at he;split at he
  ·rename_i cs ec;cases hb:Nat.ble (q+y.cells.length) cs.length with
   |false=>rw[hb]at he;cases he
   |true=>rw[hb]at he;cases he;rw[ec]at Sb⊢;have:=Nat.le_of_ble_eq_true hb;exact⟨by simp[TV.cells]at Sb;omega,rfl⟩
  ·rename_i mU;cases hb:(Nat.beq q 0&&!y.wq)with
   |false=>rw[hb]at he;cases he
   |true=>rw[hb]at he;cases he;simp only[af,Bool.not_eq_true']at hb;have hq:=aB hb.1;subst hq;have e1:(st.tv l[i]).cells=[st.tv l[i]]:=by{cases hq:st.tv l[i]<;>first|rfl|exact(mU _ hq).elim};have e2:y.cells=[y]:=by{cases y<;>first|rfl|(simp[TV.wq]at hb)};rw[e1]at Sb;rw[e1,e2];simp at Sb;exact⟨by simp;omega,by simp[gX]⟩
 have hle:(i+1)*st.size<=l.length*st.size:=ay _ gr;rw[Nat.succ_mul]at hle;have Xj:l.length*st.size<=cap*st.size:=ay _ h6;have HM:=lB (P:=C.P) g (i*st.size+q) ce fz (a.eval v).cells.toList 0 cur w h3 (by rw[h5,<-hlen];omega) h4 hL.one;simp only[Nat.add_zero]at HM;let new:Array Value:=(cur.toList.take (i*st.size+q)++(a.eval v).cells.toList++cur.toList.drop (i*st.size+q+(a.eval v).cells.toList.length)).toArray;have mi:(execOp a.eval o).run C.P w=.ok .skip (w.setRow g new):=by{have:¬((a.eval v).cells.size≠inf.size):=by{omega};simp only[execOp,ho,h2,Instr.storeAt,Instr.sureAddr,Sem.run_bind,Sem.run_pure,Result.andThen_ok,storeVar,run_sizeOf hi,Sem.run_ite,this,if_false,HM];rfl};have hR:∀o,¬R g o:=λo hr=>by{have:=(h9 o).1 hr;simp at this};have dX:eZ R w R (w.setRow g new):=λb o hr=>⟨hr,cell_setRow_other w g _ ⟨b,o,none⟩ (λe=>hR o (by have:b=g:=e;rw[<-this];exact hr))⟩;have C0:cur.toList.length=cap*st.size:=by{simp[h5]};have wM:new.size=cur.size:=by{simp only[new,List.size_toArray,ae,aF,aR,<-hlen,C0,<-Array.length_toList];omega};have T5:dJ R w (((l.set i z).map st.tv).flatMap TV.cells) (new.toList.take (l.length*st.size)):=by{have e1:((l.set i z).map st.tv).flatMap TV.cells=gX ((l.map st.tv).flatMap TV.cells) (i*st.size+q) y.cells:=by{rw[List.map_set,fF.O5 hz];exact vZ (λx hx=>by obtain⟨u,_,rfl⟩:=bn.1 hx;exact fF.nc st u) (by simp[gr]) kH oh};have e2:=BS cur.toList (a.eval v).cells.toList (a:=i*st.size+q) (N:=l.length*st.size) (by rw[<-hlen];omega) (by rw[C0];exact Xj);rw[e1];show dJ R w _ ((cur.toList.take (i*st.size+q)++(a.eval v).cells.toList++cur.toList.drop (i*st.size+q+(a.eval v).cells.toList.length)).take (l.length*st.size));rw[e2,<-hlen];exact((h8.take _).append hL).append (h8.drop _)};refine(h.wr (k:=k) (b:=g) (cur:=cur) (cur':=new) (x:=.sl st (l.set i z)) (g:=.pv) (q3 k (by simp[Gh.dt])).1 (ig (by rw[hk];rfl) (by rw[hk];rfl) (by rw[h1];rfl)) (by rw[hk];rfl) h3 hR ⟨st,l.set i z,rfl,.inr ⟨g,cap,new,ce,fz,by rw[List.length_set];exact h1,setRow_heap w g cur new ce fz h3,λo ho=>h4 o (by rw[<-wM];exact ho),by rw[wM];exact h5,by rw[List.length_set];exact h6,h7,by rw[List.length_set];exact T5.mono dX,λo=>⟨λhr=>(hR o hr).elim,λhr=>by simp at hr⟩⟩⟩ ⟨rfl,by simp⟩ (by simp[Gh.dt])).Q2 hd mi
end
theorem lO{A:Type}{f:TV->Option A}{g:A->TV}(hf:∀x y,f x=some y->x=g y):∀{xs:List TV}{l:List A},allM f xs=some l->xs=l.map g
 |[],l,h=>by cases h;rfl
 |x::r,l,h=>by simp only[allM]at h;split at h;{rename_i y hy;split at h;{rename_i m hm;cases h;rw[hf _ _ hy,lO hf hm];rfl};{cases h}};{cases h}
theorem Bn{cs:List TV}{n:Nat}{x:TV}(h:Im cs n=some x)(hn:n<cs.length):cs[n]?=some x:=by
 unfold Im at h;split at h;{split at h;{rename_i l hl;have:=lO (g:=.s) (λx y h=>by cases x<;>simp[TV.str?]at h;rw[h]) hl;cases h;rw[this]at hn⊢;have CY:n<l.length:=by{simpa using hn};simp[ai,aw CY]};{cases h}};{split at h;{rename_i l hl;have:=lO (g:=.i .i64) (λx y h=>by cases x<;>simp[TV.i64?]at h;rename_i k m;cases k<;>simp at h;rw[h]) hl;cases h;rw[this]at hn⊢;have CY:n<l.length:=by{simpa using hn};simp[ai,aw CY]};{cases h}};{split at h;{rename_i l hl;have:=lO (g:=.u8) (λx y h=>by cases x<;>simp[TV.u8?]at h;rw[h]) hl;cases h;rw[this]at hn⊢;have CY:n<l.length:=by{simpa using hn};simp[ai,aw CY]};{cases h}};{split at h;{rename_i l hl;have:=lO (g:=.u64) (λx y h=>by cases x<;>simp[TV.u64?]at h;rw[h]) hl;cases h;rw[this]at hn⊢;have CY:n<l.length:=by{simpa using hn};simp[ai,aw CY]};{cases h}};{split at h;{rename_i l hl;have:=lO (g:=.b) (λx y h=>by cases x<;>simp[TV.bool?]at h;rw[h]) hl;cases h;rw[this]at hn⊢;have CY:n<l.length:=by{simpa using hn};simp[ai,aw CY]};{cases h}};{exact h}
 ·split at h
  ·rename_i l hl;have:=lO (g:=λp=>.c (.complex .f64 p.1 p.2)) (λx y h=>by
    unfold TV.cx? at h;split at h;{cases h;rfl}
    ·cases h) hl
   cases h;rw[this]at hn⊢;have CY:n<l.length:=by{simpa using hn};simp[ai,aw CY]
  {cases h}
 {rename_i t _ _;split at h;{rename_i l hl;have:=lO (g:=.sl t) (λx y h=>by cases x<;>simp[TV.sl?]at h;obtain⟨rfl,h⟩:=h;subst h;rfl) hl;cases h;rw[this]at hn⊢;have CY:n<l.length:=by{simpa using hn};simp[ai,aw CY]};{cases h}};{cases h}
theorem Du{s m n:Nat}{cs:List TV}(hl:m*s=cs.length)(hn:n<m):∀(j:Nat){xs:List TV},j<=s->Dv s m n cs j=some xs->xs=(cs.drop (n*s+(s -j))).take j
 |0,xs,_,h=>by simp[Dv]at h;simp[h]
 |j+1,xs,hj,h=>by simp only[Dv]at h;split at h;{rename_i x hx;split at h;{rename_i ys hy;cases h;have h1:=Du hl hn j (by omega) hy;have h2:=Bn hx (by simpa[Ry]using hn);have gr:n*s+(s -(j+1))<cs.length:=by{have:(n+1)*s<=m*s:=ay _ hn;rw[Nat.succ_mul]at this;omega};have e:x=cs[n*s+(s -(j+1))]:=by{simp only[Ry,br,List.getElem?_range hn,Option.map_some,aM]at h2;rw[<-h2,ai,aw gr];rfl};rw[h1,List.drop_eq_getElem_cons gr,List.take_succ_cons,e,show n*s+(s -(j+1))+1=n*s+(s -j) by omega]};{cases h}};{cases h}
theorem F3{A:Type}{g:A->TV}:∀l:List A,Hy g l=l.map g
 |[]=>rfl
 |p::r=>by rw[Hy,F3 r];rfl
theorem LK{a b:Nat}(h:a≠b):Nat.beq a b=false:=by
 cases e:Nat.beq a b with
 |false=>rfl
 |true=>exact(h (aB e)).elim
theorem FJ{A:Type}:∀(l:List A)(j i:Nat)(q:A),AB j l (j+i) q=l.set i q
 |[],_,_,_=>rfl
 |p::r,j,0,q=>by
  rw[AB,Nat.add_zero,show Nat.beq j j=true from Nat.beq_refl j];simp only[au,List.set_cons_zero];congr 1;have:∀(l:List A)(k:Nat),j<k->AB k l j q=l:=by
   intro l;induction l with
   |nil=>intros;rfl
   |cons a r ih=>intro k hk;rw[AB,ih _ (by omega),LK (show k≠j by omega)];rfl
  exact this r _ (by omega)
 |p::r,j,i+1,q=>by rw[AB,LK (show j≠j+(i+1) by omega),show j+(i+1)=j+1+i by omega,FJ r (j+1) i q];rfl
theorem La{x:TV}{q:Cx}(h:x.cx?=some q):x=Yq q:=by unfold TV.cx? at h;split at h;{cases h;rfl};{cases h}
theorem Mr{x:TV}{q:UInt64}(h:x.u64?=some q):x=.u64 q:=by unfold TV.u64? at h;split at h;{cases h;rfl};{cases h}
theorem CA{A:Type}{g:A->TV}{l:List A}{i:Nat}{q:A}(hi:i<l.length):Hy g (AB 0 l i q)=gX (l.map g) i [g q]:=by have:=FJ l 0 i q;rw[Nat.zero_add]at this;rw[this,F3];simp only[gX,ak];rw[List.set_eq_take_append_cons_drop,ar hi];simp only[List.map_append,bc,List.map_take,List.map_drop,az,List.singleton_append]
theorem P4{cs ds:List TV}{i:Nat}{x:TV}(h:Vo cs i x=some ds)(hi:i<cs.length):x.plain=true/\x.cells=[x]/\ds=gX cs i [x]:=by unfold Vo at h;split at h;{split at h;{rename_i q l h2;cases h;have hc:=lO (g:=.u64) (λx y h=>Mr h) h2;subst hc;exact⟨rfl,rfl,CA (by simpa using hi)⟩};{cases h}};{split at h;{rename_i q l h1 h2;cases h;have hx:=La h1;have hc:=lO (g:=Yq) (λx y h=>La h) h2;subst hx;subst hc;exact⟨rfl,rfl,CA (by simpa using hi)⟩};{cases h}}
theorem K1{t:fF}:∀{xs:List TV}{l:List t.El},t.Uq xs=some l->l.map t.tv=xs
 |[],l,h=>by cases h;rfl
 |x::r,l,h=>by simp only[fF.Uq]at h;split at h;{rename_i y hy;split at h;{rename_i m hm;cases h;rw[bc,fF.O5 hy,K1 hm]};{cases h}};{cases h}
section
variable{C:Ctx}{S V:St}{a:Act}{w w':World}{R:Reach}{τ:Nat->Value}{o:Oper}{d:Nat}(h:fD C S a w R τ)(hV:Lt V S)
include h hV
theorem LQ{x:Operand}{t:TypeId}{i s q m:Nat}{xs:List TV}{ts:List (Nat×Nat)}(hx:gR C.E C.nt V t x=some (.el i s q,.pe m))(hm:S m=(.ag xs,.cl ts)):∃b,τ m=.pointer (some ⟨b,0,none⟩)/\a.eval x=.pointer (some ⟨b,i*s+q,none⟩):=by obtain⟨q1,_,_⟩:=gV h hV hx;obtain⟨b,i',s',q',p1,p2,hv⟩:∃b i' s' q',Value.ij (τ m)=some b/\TV.el i s q=.el i' s' q'/\a.eval x=.pointer (some ⟨b,i'*s'+q',none⟩):=q1;cases p2;obtain⟨b',_,_,k1,_⟩:=qN h hV hm;rw[k1]at p1;cases p1;exact⟨_,k1,hv⟩
theorem go_pla(hd:o.dst=some d)(hl:d<C.nt){x:Operand}{t:TypeId}{i m:Nat}{cs:List TV}{ts:List (Nat×Nat)}{y:TV}(ho:o.op=.load t x)(hs:kF C.P t=some (1,false))(hx:gR C.E C.nt V 0 x=some (.el i 1 0,.pe m))(hm:S m=(.ag cs,.cl ts))(hi:i<cs.length)(hp:Im cs i=some y):fx C o a w (cR S d (y,.no)):=by
 obtain⟨b0,p1,hv⟩:=LQ h hV hx hm;obtain⟨b,ys,e,k1,k2,k3,_⟩:=qN h hV hm;obtain rfl:b=b0:=by{rw[k1]at p1;cases p1;rfl};obtain⟨inf,za,hn,ha⟩:=gS hs;obtain⟨v,HL,_,HK⟩:=k3.get i y (Bn hp hi);refine h.iL hd hl (v:=v) ?_ HK;have:=kj (P:=C.P) za ha (.inr hn) (w:=w) (b:=b) (off:=i*1+0) (ys:=[v]) (by simp[hn]) (λj y hj=>by
  cases j with
  |zero=>cases hj;simp only[World.cell?,k2];simpa using HL
  |succ j=>simp at hj)
 simp only[execOp,ho,hv,Instr.loadAt,Instr.sureAddr,Sem.run_bind,Sem.run_pure,Result.andThen_ok,this];rfl
theorem go_ls(hd:o.dst=none){x v:Operand}{t:TypeId}{inf:TypeInfo}{i m:Nat}{cs ds:List TV}{y:TV}(ho:o.op=.store t x v)(za:C.P.info? t=some inf)(hn:inf.size=1)(hx:gR C.E C.nt V 0 x=some (.el i 1 0,.pe m))(hm:S m=(.ag cs,.cl []))(hi:i<cs.length)(hv:Rep R w y (a.eval v))(hp:Vo cs i y=some ds):fx C o a w (cR S m (.ag ds,.cl [])):=by obtain⟨e1,e2,e3⟩:=P4 hp hi;obtain⟨b0,p1,zR⟩:=LQ h hV hx hm;obtain⟨b,ys,e,k1,k2,k3,k4,k5,k6,k7⟩:=qN h hV hm;obtain rfl:b=b0:=by{rw[k1]at p1;cases p1;rfl};obtain⟨_,_,q3⟩:=gV h hV hx;have hL:=ot hv e1;rw[e2]at hL;have hlen:=hL.length;have hlm:=k3.length;have O1:(a.eval v).cells.size=1:=by{simpa using hlen.symm};have HM:=run_storeCells_at (P:=C.P) b (i*1+0) e (a.eval v).cells.toList 0 ⟨ys⟩ w k2 (by simp;omega) hL.one;simp only[Nat.add_zero,Nat.mul_one]at HM zR;let new:List Value:=ys.take i++(a.eval v).cells.toList++ys.drop (i+(a.eval v).cells.toList.length);have mi:(execOp a.eval o).run C.P w=.ok .skip (w.setRow b ⟨new⟩):=by{have:¬((a.eval v).cells.size≠inf.size):=by{omega};simp only[execOp,ho,zR,Instr.storeAt,Instr.sureAddr,Sem.run_bind,Sem.run_pure,Result.andThen_ok,storeVar,run_sizeOf za,Sem.run_ite,this,if_false,HM];rfl};have dX:eZ R w R (w.setRow b ⟨new⟩):=λb1 o hr=>⟨hr,cell_setRow_other w b _ ⟨b1,o,none⟩ (λe=>k5 o (by have:b1=b:=e;rw[<-this];exact hr))⟩;have Ya:dJ R (w.setRow b ⟨new⟩) ds new:=by{rw[e3];show dJ R (w.setRow b ⟨new⟩) _ (ys.take i++(a.eval v).cells.toList++ys.drop (i+(a.eval v).cells.toList.length));rw[<-hlen];exact(((k3.take i).append hL).append (k3.drop _)).mono dX};exact(h.wr (k:=m) (b:=b) (cur:=⟨ys⟩) (cur':=⟨new⟩) (x:=.ag ds) (g:=.cl []) (q3 m (by simp[Gh.dt])).1 k7 (by rw[hm];rfl) k2 k5 ⟨b,new,e,_,k1,setRow_heap w b ⟨ys⟩ ⟨new⟩ e (0,0) k2,rfl,Ya,by simp,k5⟩ ⟨rfl,by simp⟩ (by simp[Gh.dt])).Q2 hd mi
theorem tI:∀{ts:List TypeId}{os:List Operand}{cs:List Cell},sj C.E C.nt V ts os=some cs->Cells R w τ C.nt cs (os.map a.eval)/\os.length=ts.length/\∀c∈cs,c.2.slot=true/\∀m∈c.2.dt,C.nt<=m/\(S m).2≠.no
 |[],[],_,he=>by cases he;exact⟨.nil,rfl,by simp⟩
 |t::ts,x::os,_,he=>by
  simp only[sj]at he;split at he
  ·rename_i c e1;split at he
   ·rename_i cs e2;cases he;obtain⟨h1,h2,h3⟩:=gV h hV e1;obtain⟨k1,k2,k3⟩:=tI e2;exact⟨.cons h1 (λm hm=>(h3 m hm).1) k1,by simp[k2],λc' hc=>by
     rcases aP.1 hc with rfl|hc;{exact⟨h2,h3⟩}
     ·exact k3 c' hc⟩
   {cases he}
  {cases he}
 |[],_::_,_,he=>by simp[sj]at he
 |_::_,[],_,he=>by simp[sj]at he
theorem fD.frs{ts:List TypeId}{os:List Operand}{cs:List Cell}{xs:List TV}{ws:List (Nat×Cell)}(ho:sj C.E C.nt V ts os=some cs)(he:Mi V cs=some (xs,ws)):∃R',fD C (fU S ws) a w R' τ/\jf R' w xs (os.map a.eval)/\Lq V (fU S ws):=by obtain⟨h1,_,_⟩:=tI h hV ho;obtain⟨R',k1,k2,k3,k4⟩:=E4 h.core hV.q h1 he;exact⟨R',h.fz k1 k2,k3,k4⟩
theorem go_bl(hd:o.dst=some d)(hl:d<C.nt)(hE:kB C.P C.E){t e:TypeId}{n sa k:Nat}{parts:Array (Nat×Operand)}{st:fF}{cs:List Cell}{xs:List TV}{ws:List (Nat×Cell)}{l:List st.El}(ho:o.op=.buildSlice t n parts)(ht:C.E.ty t=some (st,sa))(hx:sj C.E C.nt V (parts.toList.map λ_=>e) (parts.toList.map (·.2))=some cs)(hf:Mi V cs=some (xs,ws))(he:st.Uq xs=some l)(hn:n=parts.size)(hn24:n*st.size<=16777216)(hpr:parts.toList.map (·.1)=List.range n)(hk:vc C.nt V k=true):fx C o a w (cR (cR (fU S ws) k (.sl st l,.pv)) d (.pt,.fo k)):=by obtain⟨R',h',hT,hq⟩:=h.frs hV hx hf;obtain⟨e',i,zv,h1,h2,h3,h4,h5,h6,h7⟩:=hE.ty _ _ _ ht;have OI:=K1 he;have BA:∀x∈xs,x.plain=true/\x.cells.length=st.size:=λx hx=>by{rw[<-OI]at hx;obtain⟨u,_,rfl⟩:=bn.1 hx;exact⟨fF.IQ st u,fF.nc st u⟩};obtain⟨hL,wM⟩:=zo hT BA;have hlen:parts.toList.length=n:=by{simp[hn]};have VA:l.length=n:=by{have:=hT.length;rw[<-OI]at this;simp at this;omega};have hp:(parts.map λp=>(p.1,a.eval p.2)).toList=((((parts.toList.map (·.2)).map a.eval).zipIdx 0).map λp=>(p.2,p.1)):=by{have e:=zr ((parts.map λp=>(p.1,a.eval p.2)).toList) 0 (by simp only[Array.toList_map,bA,bm,hlen];rw[<-List.range_eq_range',<-hpr];rfl);rw[e];simp[Function.comp_def]};let zc:Array Value:=if n*st.size=0 then#[]else zv.cells;let c0:Array Value:=(Array.range (n*st.size)).map (zc[· % zc.size]!);obtain⟨eK,Kv,QR⟩:=zY st.size ((parts.toList.map (·.2)).map a.eval) 0 c0 wM (by simp[c0,hlen,hn]);simp only[Nat.zero_mul,List.take_zero,bh]at QR;have mi:(Instr.buildSlice t n (parts.map λp=>(p.1,a.eval p.2))).run C.P w=.ok (.slice (some ⟨w.heap.size,0,none⟩) n n) {w with heap:=w.heap.push (.cells eK e')}:=by{have QX:¬(n*st.size>2^24):=by{omega};rw[<-hp]at Kv;simp only[c0,zc]at Kv;simp only[Instr.buildSlice,Sem.run_bind,run_underlying h1,Result.andThen_ok,run_sizeOf h2,h3,QX,if_false,Sem.run_pure];by_cases h0:n*st.size=0;{rw[ar h0]at Kv⊢;simp only[Sem.run_bind,Sem.run_pure,Result.andThen_ok];rw[Kv];simp[Go.newRow]};{rw[ao h0]at Kv⊢;simp only[Sem.run_bind,Sem.run_pure,Result.andThen_ok,tx h2 h5];rw[Kv];simp[Go.newRow]}};rw[<-OI]at hL;have yo:eK.size=n*st.size:=by{rw[<-Array.length_toList,QR,<-hL.length,oA,VA]};have pH:=st.size_pos;have Vz:n<=maxLen:=by{have:n*1<=n*st.size:=Nat.mul_le_mul_left _ pH;simp only[maxLen];omega};refine h'.Q3 hd hl (st:=st) (l:=l) (cap:=n) (cur:=eK) (e:=e') (fz:=(0,0)) (ys:=((parts.toList.map (·.2)).map a.eval).flatMap λv=>v.cells.toList) (w':={w with heap:=w.heap.push (.cells eK e')}) (jl hq hk) rfl rfl rfl rfl (λo _=>by simp) yo (by omega) Vz hL (λj y hj=>by rw[<-QR]at hj;simpa using hj) ?_;simp only[execOp,ho,Sem.run_bind,VA];have hm:(parts.map λx=>(x.1,a.eval x.2))=parts.map λp=>(p.1,a.eval p.2):=rfl;simp[mi]
end
end Go.Eng
