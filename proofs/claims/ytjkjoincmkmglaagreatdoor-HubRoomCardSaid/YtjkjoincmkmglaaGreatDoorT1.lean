/- Texts of my own, one behind the other: EngFl, XA, XB, XC, XE, XD, XF, XG, XH, XO, XI, XJ, XK, XL, XM, XN, XP, XQ, XR, XS, XU, XV. -/
import Derived.Laws.FloatArith
import Derived.WalkKit
import Derived.Calls
import Derived.Below
import Derived.Laws.OwnMore
import Derived.Lib.Bytealg
import Derived.Orders
import Derived.KernelRfl
import Derived.Laws.IdiomStrings
import Derived.Laws.Entries
import Derived.Laws.BytesString
import Derived.Laws.Strings
import Derived.ChangeKeysEq
import Derived.Laws.StructEq
import Derived.Laws.BytesArg
import Derived.Laws.Cover2
import Derived.Lib.Strings
import Derived.Laws.MakeOwn
import Derived.Laws.CopyRow
import Derived.Sort.Grow
set_option linter.defProp false
set_option linter.unusedVariables false
set_option linter.unusedSimpArgs false
open Decidable renaming decide→nP
open Option renaming some→Bm
open Option renaming none→Kk
open Bool renaming true→Qf
open Bool renaming false→Qg
namespace Go.Eng
abbrev aa:=@decide_eq_true
abbrev ab:=@decide_eq_false
abbrev ae:=@cond_false
abbrev af:=@List.length_append
abbrev ah:=@Bool.and_eq_true
abbrev ai:=@List.getD_eq_getElem?_getD
abbrev aj:=@cond_true
abbrev ak:=@if_neg
abbrev ao:=@of_decide_eq_true
abbrev aq:=@Int.toNat_natCast
abbrev ar:=@if_pos
abbrev au:=@List.getElem?_eq_getElem
abbrev av:=@List.length_cons
abbrev aw:=@List.length_singleton
abbrev ay:=@List.length_nil
abbrev az:=@Nat.eq_of_beq_eq_true
abbrev aA:=@Nat.mul_le_mul_right
abbrev aB:=@List.append_assoc
abbrev aC:=@decide_eq_true_eq
abbrev aD:=@List.drop_of_length_le
abbrev aE:=@Bool.and_eq_true_iff
abbrev aF:=@Bool.not_true
abbrev aG:=@List.getElem?_eq_some_iff
abbrev aH:=@Bool.not_false
abbrev aI:=@List.all_eq_true
abbrev aJ:=@List.length_take
abbrev aK:=@UInt64.le_iff_toNat_le
abbrev aL:=@Bool.not_or_self
abbrev aM:=@Bool.and_self
abbrev aN:=@Option.some.injEq
abbrev aO:=@Option.map_eq_some_iff
abbrev aP:=@List.mem_of_getElem?
abbrev aQ:=@Option.bind_eq_some_iff
abbrev aR:=@List.append_nil
abbrev aS:=@List.mem_cons
abbrev aT:=@UInt64.lt_iff_toNat_lt
abbrev aU:=@decide_eq_decide
abbrev aV:=@Int.emod_eq_of_lt
abbrev aW:=@List.getElem?_append_right
abbrev aX:=@List.drop_zero
abbrev aY:=@UInt64.toNat_inj
abbrev aZ:=@List.length_drop
abbrev bc:=@List.map_cons
abbrev bf:=@Bool.eq_iff_iff
abbrev bg:=@List.getElem?_take
abbrev bh:=@List.nil_append
abbrev bj:=@List.length_map
abbrev bm:=@List.eq_nil_of_length_eq_zero
abbrev bn:=@Bool.or_not_self
abbrev bo:=@List.mem_map
abbrev bp:=@Option.ite_none_right_eq_some
abbrev bq:=@List.getElem?_map
abbrev br:=@Bool.false_eq_true
abbrev bt:=@List.map_nil
abbrev bw:=@List.cons.injEq
abbrev bx:=@List.map_map
end Go.Eng
noncomputable section
namespace Go.Eng
namespace Fl
def add(a b:Nat):Nat:=(Ieee.double.add a b).getD 0
def og(a b:Nat):Bool:=(Ieee.double.add a b).isSome
def sub(a b:Nat):Nat:=(Ieee.double.sub a b).getD 0
def wD(a b:Nat):Bool:=(Ieee.double.sub a b).isSome
def mul(a b:Nat):Nat:=(Ieee.double.mul a b).getD 0
def rR(a b:Nat):Bool:=(Ieee.double.mul a b).isSome
def eq(a b:Nat):Bool:=Ieee.double.order a b==Bm .eq
def lt(a b:Nat):Bool:=Ieee.double.order a b==Bm .lt
def gt(a b:Nat):Bool:=Ieee.double.order a b==Bm .gt
def neg(a:Nat):Nat:=a^^^9223372036854775808
def wi(a b c d:Nat):Nat:=sub (mul a c) (mul b d)
def wk(a b c d:Nat):Nat:=add (mul a d) (mul b c)
def sk(a b c d:Nat):Bool:=rR a c&&rR b d&&wD (mul a c) (mul b d)&&(rR a d&&rR b c&&og (mul a d) (mul b c))
def ofInt(n:Int):Nat:=FloatKind.f64.nearest n
def nD(a:Nat):Nat:=FloatKind.f64.encode ((FloatKind.f64.decode a).integral .zero)
def num(a:Nat):Bool:=!(FloatKind.f64.decode a).isNaN
def toInt(a:Nat):Int:=(floatToIntVal .f64 a .i64).getD 0
def qy(a:Nat):Bool:=(floatToIntVal .f64 a .i64).isSome
def Di{a b:Nat}(h:og a b=Qf):Ieee.double.add a b=Bm (add a b):=by unfold og at h;obtain⟨x,hx⟩:=Option.isSome_iff_exists.1 h;unfold add;rw[hx];rfl
def Df{a b:Nat}(h:wD a b=Qf):Ieee.double.sub a b=Bm (sub a b):=by unfold wD at h;obtain⟨x,hx⟩:=Option.isSome_iff_exists.1 h;unfold sub;rw[hx];rfl
def Dg{a b:Nat}(h:rR a b=Qf):Ieee.double.mul a b=Bm (mul a b):=by unfold rR at h;obtain⟨x,hx⟩:=Option.isSome_iff_exists.1 h;unfold mul;rw[hx];rfl
end Fl
def Er:BinOp->Value->Value->Option Value
 |.add,.float .f64 a,.float .f64 b=>if Fl.og a b then Bm (.float .f64 (Fl.add a b))else Kk
 |.sub,.float .f64 a,.float .f64 b=>if Fl.wD a b then Bm (.float .f64 (Fl.sub a b))else Kk
 |.mul,.float .f64 a,.float .f64 b=>if Fl.rR a b then Bm (.float .f64 (Fl.mul a b))else Kk
 |.eql,.float .f64 a,.float .f64 b=>Bm (.bool (Fl.eq a b))
 |.neq,.float .f64 a,.float .f64 b=>Bm (.bool (!Fl.eq a b))
 |.lss,.float .f64 a,.float .f64 b=>Bm (.bool (Fl.lt a b))
 |.leq,.float .f64 a,.float .f64 b=>Bm (.bool (Fl.lt a b||Fl.eq a b))
 |.gtr,.float .f64 a,.float .f64 b=>Bm (.bool (Fl.gt a b))
 |.geq,.float .f64 a,.float .f64 b=>Bm (.bool (Fl.gt a b||Fl.eq a b))
 |.add,.complex .f64 a b,.complex .f64 c d=>if Fl.og a c&&Fl.og b d then Bm (.complex .f64 (Fl.add a c) (Fl.add b d))else Kk
 |.mul,.complex .f64 a b,.complex .f64 c d=>if Fl.sk a b c d then Bm (.complex .f64 (Fl.wi a b c d) (Fl.wk a b c d))else Kk
 |.lss,.string a,.string b=>Bm (.bool (Op.bytesLess a.toList b.toList))
 |.leq,.string a,.string b=>Bm (.bool (Op.bytesLess a.toList b.toList||a.toList==b.toList))
 |.gtr,.string a,.string b=>Bm (.bool (!(Op.bytesLess a.toList b.toList||a.toList==b.toList)))
 |.geq,.string a,.string b=>Bm (.bool (!Op.bytesLess a.toList b.toList))
 |_,_,_=>Kk
section
variable{P:Program}{w:World}
theorem pP{a b:Nat}(h:Fl.og a b=Qf):(Op.Complex.arith .add .f64 a b).run P w=.ok (Fl.add a b) w:=by have e:FloatKind.f64.format.add a b=Bm (Fl.add a b):=Fl.Di h;simp[Op.Complex.arith,Op.floatArith,e]
theorem zN{a b:Nat}(h:Fl.wD a b=Qf):(Op.Complex.arith .sub .f64 a b).run P w=.ok (Fl.sub a b) w:=by have e:FloatKind.f64.format.sub a b=Bm (Fl.sub a b):=Fl.Df h;simp[Op.Complex.arith,Op.floatArith,e]
theorem nx{a b:Nat}(h:Fl.rR a b=Qf):(Op.Complex.arith .mul .f64 a b).run P w=.ok (Fl.mul a b) w:=by have e:FloatKind.f64.format.mul a b=Bm (Fl.mul a b):=Fl.Dg h;simp[Op.Complex.arith,Op.floatArith,e]
theorem Mm{op:BinOp}{t:TypeId}{x y z:Value}(h:Er op x y=Bm z):(binOp op t x y).run P w=.ok z w:=by unfold Er at h;split at h;{rw[bp]at h;obtain⟨h1,h⟩:=h;cases h;have e:FloatKind.f64.format.add _ _=Bm (Fl.add _ _):=Fl.Di h1;simp[binOp,Op.floatArith,e]};{rw[bp]at h;obtain⟨h1,h⟩:=h;cases h;have e:FloatKind.f64.format.sub _ _=Bm (Fl.sub _ _):=Fl.Df h1;simp[binOp,Op.floatArith,e]};{rw[bp]at h;obtain⟨h1,h⟩:=h;cases h;have e:FloatKind.f64.format.mul _ _=Bm (Fl.mul _ _):=Fl.Dg h1;simp[binOp,Op.floatArith,e]};{cases h;rfl};{cases h;rfl};{cases h;rfl};{cases h;rfl};{cases h;rfl};{cases h;rfl};{rw[bp,ah]at h;obtain⟨⟨h1,h2⟩,h⟩:=h;cases h;simp[binOp,Op.complexOp,pP h1,pP h2]};{rw[bp]at h;obtain⟨h1,h⟩:=h;cases h;unfold Fl.sk at h1;simp only[ah]at h1;obtain⟨⟨⟨a1,a2⟩,a3⟩,⟨a4,a5⟩,a6⟩:=h1;simp[binOp,Op.complexOp,Op.Complex.conv,Op.Complex.product,Op.Complex.mul,Op.Complex.sub,Op.Complex.add,nx a1,nx a2,zN a3,nx a4,nx a5,pP a6,Fl.wi,Fl.wk]};{cases h;rfl};{cases h;rfl};{cases h;rfl};{cases h;rfl};{cases h}
theorem Gv{op:BinOp}{t:TypeId}{x y:Operand}{u v z:Value}(h:Er op u v=Bm z):eqGuard op t x y u v=pure ():=by unfold Er at h;split at h<;>first|rfl|cases h
theorem zM{a:Nat}:(Op.unary .neg (.float .f64 a)).run P w=.ok (.float .f64 (Fl.neg a)) w:=rfl
end
end Go.Eng
namespace Go.Eng
abbrev bE:=List UInt8
inductive bB where
 |mk (name:bE) (kind:Int) (bits high low:UInt64) (text more:bE) (sub:Int) (bytes:bE) (kids:List bB)
 deriving Inhabited
structure Val where
 kind:Int
 bits:UInt64
 high:UInt64
 low:UInt64
 text:bE
 more:bE
 sub:Int
 bytes:bE
 kids:List bB
 deriving Inhabited
namespace bB
def name:bB->bE|.mk x _ _ _ _ _ _ _ _ _=>x
def kind:bB->Int|.mk _ x _ _ _ _ _ _ _ _=>x
def bits:bB->UInt64|.mk _ _ x _ _ _ _ _ _ _=>x
def high:bB->UInt64|.mk _ _ _ x _ _ _ _ _ _=>x
def low:bB->UInt64|.mk _ _ _ _ x _ _ _ _ _=>x
def text:bB->bE|.mk _ _ _ _ _ x _ _ _ _=>x
def more:bB->bE|.mk _ _ _ _ _ _ x _ _ _=>x
def sub:bB->Int|.mk _ _ _ _ _ _ _ x _ _=>x
def bytes:bB->bE|.mk _ _ _ _ _ _ _ _ x _=>x
def kids:bB->List bB|.mk _ _ _ _ _ _ _ _ _ x=>x
def val(f:bB):Val:=⟨f.kind,f.bits,f.high,f.low,f.text,f.more,f.sub,f.bytes,f.kids⟩
def of(n:bE)(v:Val):bB:=.mk n v.kind v.bits v.high v.low v.text v.more v.sub v.bytes v.kids
end bB
inductive Mem where
 |mk (name:bE) (kind:Int) (text:bE) (kids:List Mem)
 deriving Inhabited
structure eV where
 kind:Int
 text:bE
 kids:List Mem
 deriving Inhabited
namespace Mem
def name:Mem->bE|.mk x _ _ _=>x
def kind:Mem->Int|.mk _ x _ _=>x
def text:Mem->bE|.mk _ _ x _=>x
def kids:Mem->List Mem|.mk _ _ _ x=>x
def val(f:Mem):eV:=⟨f.kind,f.text,f.kids⟩
def of(n:bE)(v:eV):Mem:=.mk n v.kind v.text v.kids
end Mem
inductive bI where
 |mk (kind:Int) (n:UInt64) (bytes text:bE) (kids:List bI)
 deriving Inhabited
namespace bI
def kind:bI->Int|.mk x _ _ _ _=>x
def n:bI->UInt64|.mk _ x _ _ _=>x
def bytes:bI->bE|.mk _ _ x _ _=>x
def text:bI->bE|.mk _ _ _ x _=>x
def kids:bI->List bI|.mk _ _ _ _ x=>x
end bI
structure cm where
 kind:Int
 n:UInt64
 bytes:bE
 text:bE
 kids:List bI
 deriving Inhabited
namespace bI
def val(f:bI):cm:=⟨f.kind,f.n,f.bytes,f.text,f.kids⟩
def of(v:cm):bI:=.mk v.kind v.n v.bytes v.text v.kids
theorem cq(f:bI):of (val f)=f:=by cases f;rfl
end bI
structure wS where
 at_:Int
 end_:Int
 deriving Inhabited
structure Out where
 at_:Int
 bytes:bE
 Zd:List (List Int)
 err:Int
 fat:Int
 path:List Int
 deriving Inhabited
structure Bk where
 b:bE
 deriving Inhabited
structure ph where
 err:Int
 at_:Int
 path:List Int
 deriving Inhabited
structure nB where
 depth:Int
 size:Int
 out:Int
 deriving Inhabited
structure iD where
 high:UInt64
 low:UInt64
 deriving Inhabited,DecidableEq
abbrev Cx:=Nat×Nat
structure Qd where
 c0:Cx
 c1:Cx
 c2:Cx
 c3:Cx
 deriving Inhabited
def Qd.set(x:Qd)(i:Nat)(y:Cx):Qd:=⟨cond (Nat.beq 0 i) y x.c0,cond (Nat.beq 1 i) y x.c1,cond (Nat.beq 2 i) y x.c2,cond (Nat.beq 3 i) y x.c3⟩
def Qd.get(x:Qd)(i:Nat):Cx:=List.getD [x.c0,x.c1,x.c2,x.c3] i (0,0)
inductive eu where
 |bs|is|ws|ss|pD|fl|ml|il|sp|ou|us|qd|UE|vl
 deriving DecidableEq,Inhabited
abbrev eu.El:eu->Type
 |.bs=>UInt8
 |.is=>Int
 |.ws=>UInt16
 |.ss=>bE
 |.pD=>List Int
 |.fl=>bB
 |.ml=>Mem
 |.il=>bI
 |.sp=>wS
 |.ou=>Out
 |.us=>UInt64
 |.qd=>Qd
 |.UE=>bE
 |.vl=>Val
def eu.size:eu->Nat
 |.fl=>10
 |.ml=>4
 |.il=>5
 |.sp=>2
 |.ou=>6
 |.qd=>4
 |.vl=>9
 |_=>1
def eu.dH:(t:eu)->t.El
 |.bs=>0
 |.is=>0
 |.ws=>0
 |.ss=>[]
 |.pD=>[]
 |.fl=>.mk [] 0 0 0 0 [] [] 0 [] []
 |.ml=>.mk [] 0 [] []
 |.il=>.mk 0 0 [] [] []
 |.sp=>⟨0,0⟩
 |.ou=>⟨0,[],[],0,0,[]⟩
 |.us=>0
 |.qd=>⟨(0,0),(0,0),(0,0),(0,0)⟩
 |.UE=>[]
 |.vl=>⟨0,0,0,0,[],[],0,[],[]⟩
inductive TV where
 |u8 (n:UInt8)
 |u16 (n:UInt16)
 |u32 (n:UInt32)
 |u64 (n:UInt64)
 |i (k:IntKind) (n:Int)
 |b (x:Bool)
 |s (l:bE)
 |sl (t:eu) (l:List t.El)
 |ag (l:List TV)
 |tu (l:List TV)
 |ro (x:TV)
 |gd (c:Bool) (x:TV)
 |c (x:Value)
 |pt
 |dead
 |el (p z q:Nat)
 |nl (t:eu)
 |ub (e:Bool)
 deriving Inhabited
def Val.cells(v:Val):List TV:=[.i .i64 v.kind,.u64 v.bits,.u64 v.high,.u64 v.low,.s v.text,.s v.more,.i .i64 v.sub,.sl .bs v.bytes,.sl .fl v.kids]
def bB.cells(f:bB):List TV:=[.s f.name,.i .i64 f.kind,.u64 f.bits,.u64 f.high,.u64 f.low,.s f.text,.s f.more,.i .i64 f.sub,.sl .bs f.bytes,.sl .fl f.kids]
def eV.cells(v:eV):List TV:=[.i .i64 v.kind,.s v.text,.sl .ml v.kids]
def Mem.cells(f:Mem):List TV:=[.s f.name,.i .i64 f.kind,.s f.text,.sl .ml f.kids]
def bI.cells(f:bI):List TV:=[.i .i64 f.kind,.u64 f.n,.sl .bs f.bytes,.s f.text,.sl .il f.kids]
def cm.cells(f:cm):List TV:=[.i .i64 f.kind,.u64 f.n,.sl .bs f.bytes,.s f.text,.sl .il f.kids]
def wS.cells(f:wS):List TV:=[.i .i64 f.at_,.i .i64 f.end_]
def Out.cells(f:Out):List TV:=[.i .i64 f.at_,.sl .bs f.bytes,.sl .pD f.Zd,.i .i64 f.err,.i .i64 f.fat,.sl .is f.path]
def Bk.cells(f:Bk):List TV:=[.sl .bs f.b]
def ph.cells(f:ph):List TV:=[.i .i64 f.err,.i .i64 f.at_,.sl .is f.path]
def nB.cells(f:nB):List TV:=[.i .i64 f.depth,.i .i64 f.size,.i .i64 f.out]
def iD.cells(f:iD):List TV:=[.u64 f.high,.u64 f.low]
def Qd.cells(x:Qd):List TV:=[.c (.complex .f64 x.c0.1 x.c0.2),.c (.complex .f64 x.c1.1 x.c1.2),.c (.complex .f64 x.c2.1 x.c2.2),.c (.complex .f64 x.c3.1 x.c3.2)]
def eu.tv:(t:eu)->t.El->TV
 |.bs,x=>.u8 x
 |.is,x=>.i .i64 x
 |.ws,x=>.u16 x
 |.ss,x=>.s x
 |.pD,x=>.sl .is x
 |.fl,x=>.ag (bB.cells x)
 |.ml,x=>.ag (Mem.cells x)
 |.il,x=>.ag (bI.cells x)
 |.sp,x=>.ag (wS.cells x)
 |.ou,x=>.ag (Out.cells x)
 |.us,x=>.u64 x
 |.qd,x=>.ag (Qd.cells x)
 |.UE,x=>.sl .bs x
 |.vl,x=>.ag (Val.cells x)
def eu.el:(t:eu)->TV->Option t.El
 |.bs,.u8 x=>Bm x
 |.is,.i .i64 x=>Bm x
 |.ws,.u16 x=>Bm x
 |.ss,.s x=>Bm x
 |.pD,.sl .is x=>Bm x
 |.fl,.ag [.s n,.i .i64 k,.u64 b,.u64 h,.u64 l,.s t,.s m,.i .i64 s,.sl .bs y,.sl .fl ks]=>Bm (.mk n k b h l t m s y ks)
 |.ml,.ag [.s n,.i .i64 k,.s t,.sl .ml ks]=>Bm (.mk n k t ks)
 |.il,.ag [.i .i64 k,.u64 n,.sl .bs b,.s t,.sl .il ks]=>Bm (.mk k n b t ks)
 |.sp,.ag [.i .i64 a,.i .i64 e]=>Bm ⟨a,e⟩
 |.us,.u64 x=>Bm x
 |.qd,.ag [.c (.complex .f64 a b),.c (.complex .f64 c d),.c (.complex .f64 e f),.c (.complex .f64 g h)]=>Bm ⟨(a,b),(c,d),(e,f),(g,h)⟩
 |.ou,.ag [.i .i64 a,.sl .bs b,.sl .pD l,.i .i64 e,.i .i64 f,.sl .is p]=>Bm ⟨a,b,l,e,f,p⟩
 |.UE,.sl .bs x=>Bm x
 |.vl,.ag [.i .i64 k,.u64 b,.u64 h,.u64 l,.s t,.s m,.i .i64 s,.sl .bs y,.sl .fl ks]=>Bm ⟨k,b,h,l,t,m,s,y,ks⟩
 |_,_=>Kk
def eu.QX{t:eu}{x:TV}{y:t.El}(h:t.el x=Bm y):t.tv y=x:=by unfold eu.el at h;split at h<;>cases h<;>rfl
end Go.Eng
namespace Go.Eng
abbrev OT:=Option (List TV)
end Go.Eng
namespace Go.Eng
def da(o:BinOp)(k:IntKind)(x y:Int):Int:=
 let a:=BitVec.ofInt k.bits x
 let b:=BitVec.ofInt k.bits y
 match o with
 |.and=>k.wrap (a&&&b).toNat
 |.or=>k.wrap (a|||b).toNat
 |.xor=>k.wrap (a^^^b).toNat
 |_=>k.wrap (a&&&~~~b).toNat
inductive qw where
 |ok (ws:List TV)
 |dG (p:Bool) (ws:List TV)
 |err
abbrev ck{R:Type}(p:Bool)(x:Option R):Option R:=cond p x Kk
theorem bK{R:Type}(x:Option R):ck Qf x=x:=rfl
def HG(k:IntKind)(n:Int):TV:=
 match k with
 |.u8=>.u8 (UInt8.ofInt n)
 |.u16=>.u16 (UInt16.ofInt n)
 |.u32=>.u32 (UInt32.ofInt n)
 |.u64=>.u64 (UInt64.ofInt n)
 |k=>.i k (k.wrap n)
def TV.int?:TV->Option (IntKind×Int)
 |.u8 n=>Bm (.u8,n.toNat)
 |.u16 n=>Bm (.u16,n.toNat)
 |.u32 n=>Bm (.u32,n.toNat)
 |.u64 n=>Bm (.u64,n.toNat)
 |.i k n=>Bm (k,n)
 |_=>Kk
def TQ(o:BinOp)(a b:UInt8):qw:=
 match o with
 |.add=>.ok [.u8 (a+b)]
 |.sub=>.ok [.u8 (a -b)]
 |.mul=>.ok [.u8 (a*b)]
 |.quo=>.dG (!decide (b=0)) [.u8 (a/b)]
 |.rem=>.dG (!decide (b=0)) [.u8 (a% b)]
 |.and=>.ok [.u8 (a&&&b)]
 |.or=>.ok [.u8 (a|||b)]
 |.xor=>.ok [.u8 (a^^^b)]
 |.andNot=>.ok [.u8 (a&&&~~~b)]
 |.eql=>.ok [.b (nP (a=b))]
 |.neq=>.ok [.b (!decide (a=b))]
 |.lss=>.ok [.b (nP (a<b))]
 |.leq=>.ok [.b (nP (a<=b))]
 |.gtr=>.ok [.b (nP (b<a))]
 |.geq=>.ok [.b (nP (b<=a))]
 |_=>.err
def pj(a:UInt8)(n:Nat):UInt8:=UInt8.ofNat (a.toNat*2^n)
def oF(a:UInt8)(n:Nat):UInt8:=UInt8.ofNat (a.toNat/2^n)
def Ni(o:BinOp)(a b:UInt16):qw:=
 match o with
 |.add=>.ok [.u16 (a+b)]
 |.sub=>.ok [.u16 (a -b)]
 |.mul=>.ok [.u16 (a*b)]
 |.quo=>.dG (!decide (b=0)) [.u16 (a/b)]
 |.rem=>.dG (!decide (b=0)) [.u16 (a% b)]
 |.and=>.ok [.u16 (a&&&b)]
 |.or=>.ok [.u16 (a|||b)]
 |.xor=>.ok [.u16 (a^^^b)]
 |.andNot=>.ok [.u16 (a&&&~~~b)]
 |.eql=>.ok [.b (nP (a=b))]
 |.neq=>.ok [.b (!decide (a=b))]
 |.lss=>.ok [.b (nP (a<b))]
 |.leq=>.ok [.b (nP (a<=b))]
 |.gtr=>.ok [.b (nP (b<a))]
 |.geq=>.ok [.b (nP (b<=a))]
 |_=>.err
def KR(a:UInt16)(n:Nat):UInt16:=UInt16.ofNat (a.toNat*2^n)
def uo(a:UInt16)(n:Nat):UInt16:=UInt16.ofNat (a.toNat/2^n)
def Ng(o:BinOp)(a b:UInt32):qw:=
 match o with
 |.add=>.ok [.u32 (a+b)]
 |.sub=>.ok [.u32 (a -b)]
 |.mul=>.ok [.u32 (a*b)]
 |.quo=>.dG (!decide (b=0)) [.u32 (a/b)]
 |.rem=>.dG (!decide (b=0)) [.u32 (a% b)]
 |.and=>.ok [.u32 (a&&&b)]
 |.or=>.ok [.u32 (a|||b)]
 |.xor=>.ok [.u32 (a^^^b)]
 |.andNot=>.ok [.u32 (a&&&~~~b)]
 |.eql=>.ok [.b (nP (a=b))]
 |.neq=>.ok [.b (!decide (a=b))]
 |.lss=>.ok [.b (nP (a<b))]
 |.leq=>.ok [.b (nP (a<=b))]
 |.gtr=>.ok [.b (nP (b<a))]
 |.geq=>.ok [.b (nP (b<=a))]
 |_=>.err
def uq(a:UInt32)(n:Nat):UInt32:=UInt32.ofNat (a.toNat*2^n)
def xW(a:UInt32)(n:Nat):UInt32:=UInt32.ofNat (a.toNat/2^n)
def Nd(o:BinOp)(a b:UInt64):qw:=
 match o with
 |.add=>.ok [.u64 (a+b)]
 |.sub=>.ok [.u64 (a -b)]
 |.mul=>.ok [.u64 (a*b)]
 |.quo=>.dG (!decide (b=0)) [.u64 (a/b)]
 |.rem=>.dG (!decide (b=0)) [.u64 (a% b)]
 |.and=>.ok [.u64 (a&&&b)]
 |.or=>.ok [.u64 (a|||b)]
 |.xor=>.ok [.u64 (a^^^b)]
 |.andNot=>.ok [.u64 (a&&&~~~b)]
 |.eql=>.ok [.b (nP (a=b))]
 |.neq=>.ok [.b (!decide (a=b))]
 |.lss=>.ok [.b (nP (a<b))]
 |.leq=>.ok [.b (nP (a<=b))]
 |.gtr=>.ok [.b (nP (b<a))]
 |.geq=>.ok [.b (nP (b<=a))]
 |_=>.err
def kZ(a:UInt64)(n:Nat):UInt64:=UInt64.ofNat (a.toNat*2^n)
def dc(a:UInt64)(n:Nat):UInt64:=UInt64.ofNat (a.toNat/2^n)
def qw.holds:qw->List TV->Prop
 |.ok ws,r=>r=ws
 |.dG p ws,r=>p=Qf/\r=ws
 |.err,_=>False
def TP(o:BinOp)(k:IntKind)(a b:Int):qw:=
 match o with
 |.add=>.ok [.i k (k.wrap (a+b))]
 |.sub=>.ok [.i k (k.wrap (a -b))]
 |.mul=>.ok [.i k (k.wrap (a*b))]
 |.quo=>.dG (!decide (b=0)) [.i k (k.wrap (a.tdiv b))]
 |.rem=>.dG (!decide (b=0)) [.i k (a.tmod b)]
 |.and=>.ok [.i k (da .and k a b)]
 |.or=>.ok [.i k (da .or k a b)]
 |.xor=>.ok [.i k (da .xor k a b)]
 |.andNot=>.ok [.i k (da .andNot k a b)]
 |.eql=>.ok [.b (nP (a=b))]
 |.neq=>.ok [.b (!decide (a=b))]
 |.lss=>.ok [.b (nP (a<b))]
 |.leq=>.ok [.b (nP (a<=b))]
 |.gtr=>.ok [.b (nP (b<a))]
 |.geq=>.ok [.b (nP (b<=a))]
 |_=>.err
def TN(o:BinOp)(a b:bE):qw:=
 match o with
 |.add=>.dG (nP (a.length+b.length<=9223372036854775807)) [.s (a++b)]
 |.eql=>.ok [.b (nP (a=b))]
 |.neq=>.ok [.b (!decide (a=b))]
 |.lss=>.ok [.b (Op.bytesLess a b)]
 |.leq=>.ok [.b (Op.bytesLess a b||nP (a=b))]
 |.gtr=>.ok [.b (!(Op.bytesLess a b||nP (a=b)))]
 |.geq=>.ok [.b (!Op.bytesLess a b)]
 |_=>.err
def TV.count:TV->Option (Option Bool×Nat)
 |.u8 n=>Bm (Kk,n.toNat)
 |.u16 n=>Bm (Kk,n.toNat)
 |.u32 n=>Bm (Kk,n.toNat)
 |.u64 n=>Bm (Kk,n.toNat)
 |.i _ n=>Bm (Bm (nP (0<=n)),n.toNat)
 |_=>Kk
def qw.under(p:Option Bool)(ws:List TV):qw:=
 match p with
 |none=>.ok ws
 |some p=>.dG p ws
def RQ(x y:TV):qw:=
 match y.count with
 |some (p,n)=>match x with|.u8 a=>.under p [.u8 (pj a n)]|.u16 a=>.under p [.u16 (KR a n)]|.u32 a=>.under p [.u32 (uq a n)]|.u64 a=>.under p [.u64 (kZ a n)]|.i k a=>.under p [.i k (k.wrap (a*2^(min n k.bits)))]|_=>.err
 |none=>.err
def RP(x y:TV):qw:=
 match y.count with
 |some (p,n)=>match x with|.u8 a=>.under p [.u8 (oF a n)]|.u16 a=>.under p [.u16 (uo a n)]|.u32 a=>.under p [.u32 (xW a n)]|.u64 a=>.under p [.u64 (dc a n)]|.i k a=>.under p [.i k (a.fdiv (2^(min n k.bits)))]|_=>.err
 |none=>.err
def xo:BinOp->Option Bool
 |.shl=>Bm Qf
 |.shr=>Bm Qg
 |_=>Kk
def Th(o:BinOp)(x y:Value):qw:=
 match o,x,y with
 |.add,.float .f64 a,.float .f64 b=>.dG (Fl.og a b) [.c (.float .f64 (Fl.add a b))]
 |.sub,.float .f64 a,.float .f64 b=>.dG (Fl.wD a b) [.c (.float .f64 (Fl.sub a b))]
 |.mul,.float .f64 a,.float .f64 b=>.dG (Fl.rR a b) [.c (.float .f64 (Fl.mul a b))]
 |.eql,.float .f64 a,.float .f64 b=>.ok [.b (Fl.eq a b)]
 |.neq,.float .f64 a,.float .f64 b=>.ok [.b (!Fl.eq a b)]
 |.lss,.float .f64 a,.float .f64 b=>.ok [.b (Fl.lt a b)]
 |.leq,.float .f64 a,.float .f64 b=>.ok [.b (Fl.lt a b||Fl.eq a b)]
 |.gtr,.float .f64 a,.float .f64 b=>.ok [.b (Fl.gt a b)]
 |.geq,.float .f64 a,.float .f64 b=>.ok [.b (Fl.gt a b||Fl.eq a b)]
 |.add,.complex .f64 a b,.complex .f64 c d=>.dG (Fl.og a c&&Fl.og b d) [.c (.complex .f64 (Fl.add a c) (Fl.add b d))]
 |.mul,.complex .f64 a b,.complex .f64 c d=>.dG (Fl.sk a b c d) [.c (.complex .f64 (Fl.wi a b c d) (Fl.wk a b c d))]
 |_,_,_=>.err
def P0(o:BinOp)(x y:TV):qw:=
 match xo o with
 |some Qf=>RQ x y
 |some Qg=>RP x y
 |none=>match x,y with|.u8 a,.u8 b=>TQ o a b|.u16 a,.u16 b=>Ni o a b|.u32 a,.u32 b=>Ng o a b|.u64 a,.u64 b=>Nd o a b|.i k a,.i k' b=>if k=k' then TP o k a b else .err|.s a,.s b=>TN o a b|.c a,.c b=>Th o a b|_,_=>.err
def WO(o:UnOp)(x:TV):qw:=
 match o,x with
 |.neg,.u8 a=>.ok [.u8 (0 -a)]
 |.neg,.u16 a=>.ok [.u16 (0 -a)]
 |.neg,.u32 a=>.ok [.u32 (0 -a)]
 |.neg,.u64 a=>.ok [.u64 (0 -a)]
 |.neg,.i k a=>.ok [.i k (k.wrap (0 -a))]
 |.xor,.u8 a=>.ok [.u8 (~~~a)]
 |.xor,.u16 a=>.ok [.u16 (~~~a)]
 |.xor,.u32 a=>.ok [.u32 (~~~a)]
 |.xor,.u64 a=>.ok [.u64 (~~~a)]
 |.xor,.i k a=>.ok [.i k (da .xor k (if k.signed then -1 else k.max) a)]
 |.not,.b a=>.ok [.b !a]
 |.neg,.c (.float .f64 a)=>.ok [.c (.float .f64 (Fl.neg a))]
 |_,_=>.err
def TV.wV:TV->Bool
 |.ag _=>Qf
 |_=>Qg
def TV.cells:TV->List TV
 |.ag cs=>cs
 |x=>[x]
def TV.plain:TV->Bool
 |.u8 _=>Qf
 |.u16 _=>Qf
 |.u32 _=>Qf
 |.u64 _=>Qf
 |.i _ _=>Qf
 |.b _=>Qf
 |.s _=>Qf
 |.sl _ _=>Qf
 |.nl _=>Qf
 |.ag _=>Qf
 |.ro _=>Qf
 |.c x=>x.oneCell'
 |_=>Qg
def py(cs:List TV)(o n:Nat)(agg:Bool):Option TV:=
 match agg with
 |true=>cond (Nat.ble (o+n) cs.length) (Bm (.ag ((cs.drop o).take n))) Kk
 |false=>cs[o]?
def iu(cs:List TV)(o:Nat)(xs:List TV):List TV:=cs.take o++xs++cs.drop (o+xs.length)
def TV.kW:TV->Bool
 |.pt=>Qf
 |x=>x.plain
def sf(z:List TV):List (Nat×Nat)->List TV->OT
 |[],[]=>Bm z
 |(o,n)::pl,x::xs=>cond (x.kW&&Nat.beq x.cells.length n&&Nat.ble (o+n) z.length) (sf (iu z o x.cells) pl xs) Kk
 |_,_=>Kk
def BK(e:TV)(o n:Nat)(agg:Bool):Option TV:=
 match e with
 |.ag cs=>py cs o n agg
 |x=>cond (Nat.beq o 0&&Nat.beq n 1&&!agg) (Bm x) Kk
def FV(e:TV)(o:Nat)(x:TV):Option TV:=
 match e with
 |.ag cs=>cond (Nat.ble (o+x.cells.length) cs.length) (Bm (.ag (iu cs o x.cells))) Kk
 |_=>cond (Nat.beq o 0&&!x.wV) (Bm x) Kk
def eu.app:(t:eu)->List t.El->(t':eu)->List t'.El->Option (List t.El)
 |.bs,l,.bs,m=>Bm (l++m)
 |.is,l,.is,m=>Bm (l++m)
 |.ws,l,.ws,m=>Bm (l++m)
 |.ss,l,.ss,m=>Bm (l++m)
 |.pD,l,.pD,m=>Bm (l++m)
 |.fl,l,.fl,m=>Bm (l++m)
 |.ml,l,.ml,m=>Bm (l++m)
 |.il,l,.il,m=>Bm (l++m)
 |.sp,l,.sp,m=>Bm (l++m)
 |.ou,l,.ou,m=>Bm (l++m)
 |.us,l,.us,m=>Bm (l++m)
 |.qd,l,.qd,m=>Bm (l++m)
 |.UE,l,.UE,m=>Bm (l++m)
 |.vl,l,.vl,m=>Bm (l++m)
 |_,_,_,_=>Kk
def eu.Wd(t:eu):List TV->Option (List t.El)
 |[]=>Bm []
 |x::r=>match t.el x with
  |some y=>match t.Wd r with|some l=>Bm (y::l)|none=>Kk
  |none=>Kk
def allM{A:Type}(f:TV->Option A):List TV->Option (List A)
 |[]=>Bm []
 |x::r=>match f x with
  |some y=>match allM f r with|some l=>Bm (y::l)|none=>Kk
  |none=>Kk
def TV.str?:TV->Option bE|.s l=>Bm l|_=>Kk
def TV.i64?:TV->Option Int|.i .i64 l=>Bm l|_=>Kk
def TV.u8?:TV->Option UInt8|.u8 l=>Bm l|_=>Kk
def TV.u64?:TV->Option UInt64|.u64 l=>Bm l|_=>Kk
def TV.bool?:TV->Option Bool|.b l=>Bm l|_=>Kk
def TV.cx?:TV->Option Cx|.c (.complex .f64 x y)=>Bm (x,y)|_=>Kk
def TV.sl?(t:eu):TV->Option (List t.El)
 |.sl t' l=>if h:t'=t then Bm (h▸l)else Kk
 |_=>Kk
def J1(cs:List TV)(n:Nat):Option TV:=
 match cs with
 |.s _::_=>match allM TV.str? cs with|some l=>Bm (.s (l.getD n []))|none=>Kk
 |.i _ _::_=>match allM TV.i64? cs with|some l=>Bm (.i .i64 (l.getD n 0))|none=>Kk
 |.u8 _::_=>match allM TV.u8? cs with|some l=>Bm (.u8 (l.getD n 0))|none=>Kk
 |.u64 _::_=>match allM TV.u64? cs with|some l=>Bm (.u64 (l.getD n 0))|none=>Kk
 |.b _::_=>match allM TV.bool? cs with|some l=>Bm (.b (l.getD n Qg))|none=>Kk
 |.c (.func _ _ _)::_=>cs[n]?
 |.c _::_=>match allM TV.cx? cs with|some l=>Bm (.c (.complex .f64 (List.getD l n (0,0)).1 (List.getD l n (0,0)).2))|none=>Kk
 |.sl t _::_=>match allM (TV.sl? t) cs with|some l=>Bm (.sl t (l.getD n []))|none=>Kk
 |_=>Kk
def TG(s m j:Nat)(cs:List TV):List TV:=(List.range m).map λq=>cs.getD (q*s+j) .dead
def EL(s m n:Nat)(cs:List TV):Nat->OT
 |0=>Bm []
 |j+1=>match J1 (TG s m (s -(j+1)) cs) n with
  |some x=>match EL s m n cs j with|some xs=>Bm (x::xs)|none=>Kk
  |none=>Kk
def mZ(n:Nat):Bool:=nP (n<=maxLen)
def bH(n:Int)(l:Nat):Bool:=nP (0<=n)&&nP (n<l)
def iF(a b:Int)(l:Nat):Bool:=nP (0<=a)&&nP (a<=b)&&nP (b<=l)
def dU(n sK:Nat):Bool:=nP (n<=maxLen)&&nP (n*sK<=140737488355328)
def tJ(l c:Int)(sK:Nat):Bool:=nP (0<=l)&&nP (l<=c)&&nP (c*sK<=140737488355328)&&nP (c<=maxLen)
def TV.bare:TV->TV
 |.gd _ x=>x
 |x=>x
def TV.M1:TV->Option Bool
 |.gd q _=>Bm q
 |_=>Kk
def K8(t:Bool)(x y:TV):Option TV:=
 match x,y with
 |.b a,.b b=>Bm (.b (cond t a b))
 |.i k a,.i k' b=>if k=k' then Bm (.i k (cond t a b))else Kk
 |.u8 a,.u8 b=>Bm (.u8 (cond t a b))
 |.u16 a,.u16 b=>Bm (.u16 (cond t a b))
 |.u32 a,.u32 b=>Bm (.u32 (cond t a b))
 |.u64 a,.u64 b=>Bm (.u64 (cond t a b))
 |.s a,.s b=>Bm (.s (cond t a b))
 |_,_=>Kk
def Hm(t:Bool)(x y:TV):qw:=
 match K8 t x.bare y.bare with
 |some z=>match x.M1,y.M1 with|none,Kk=>.ok [z]|some p,Kk=>.dG (!t||p) [z]|none,Bm q=>.dG (t||q) [z]|some p,Bm q=>.dG (cond t p q) [z]
 |none=>.err
def BA{A:Type}:Nat->List A->Nat->A->List A
 |_,[],_,_=>[]
 |j,p::r,i,q=>cond (Nat.beq j i) q p::BA (j+1) r i q
def cxT(p:Cx):TV:=.c (.complex .f64 p.1 p.2)
def I6{A:Type}(g:A->TV):List A->List TV
 |[]=>[]
 |p::r=>g p::I6 g r
def WZ(cs:List TV)(i:Nat)(x:TV):OT:=
 match x with
 |.u64 q=>match allM TV.u64? cs with|some l=>Bm (I6 .u64 (BA 0 l i q))|none=>Kk
 |x=>match x.cx?,allM TV.cx? cs with|some q,Bm l=>Bm (I6 cxT (BA 0 l i q))|_,_=>Kk
inductive Gh where
 |no|hid|zz|ptr (m o:Nat)|dB (k:Nat)|pe (k:Nat)|J5 (l:List (Nat×Nat))|ow (ts:List (Nat×Nat))|cl (ts:List (Nat×Nat))|pv|lv|us|pw (d:Nat)|pc (r:Nat)
 deriving DecidableEq,Inhabited
abbrev Cell:=TV×Gh
abbrev St:=Nat->Cell
inductive Md where
 |pl|rf|sl|sm|gv
 deriving DecidableEq,Inhabited
inductive FK where
 |pl|wr (i c:Nat) (e:Bool)|nw (c:Option Nat)
 deriving Inhabited
structure fU where
 md:List Md:=[]
 b9:Nat:=1
 own:List Nat:=[]
 kd:FK:=.pl
 raw:Bool:=Qg
abbrev cX:=List TV->qw
structure cz where
 fs:Nat->cX×fU
 ty:Nat->Option (eu×Nat)
 z:Nat->OT
 ld:List Nat:=[]
def nrm:TV->TV
 |.nl t=>.sl t []
 |x=>x
def Vk:TV->TV
 |.nl t=>.sl t []
 |.ag cs=>.ag (cs.map nrm)
 |x=>x
def Sq(k:IntKind)(n:Int):Option TV:=
 match k with
 |.u8=>cond (nP (0<=n)&&nP (n<256)) (Bm (.u8 (UInt8.ofNat n.toNat))) Kk
 |.u16=>cond (nP (0<=n)&&nP (n<65536)) (Bm (.u16 (UInt16.ofNat n.toNat))) Kk
 |.u32=>cond (nP (0<=n)&&nP (n<4294967296)) (Bm (.u32 (UInt32.ofNat n.toNat))) Kk
 |.u64=>cond (nP (0<=n)&&nP (n<18446744073709551616)) (Bm (.u64 (UInt64.ofNat n.toNat))) Kk
 |k=>Bm (.i k n)
def YY:Value->Option TV
 |.bool b=>Bm (.b b)
 |.int k n=>Sq k n
 |.string s=>Bm (.s s.data.toList)
 |.float k b=>Bm (.c (.float k b))
 |.complex k a b=>Bm (.c (.complex k a b))
 |.pointer Kk=>Bm (.c (.pointer Kk))
 |.nilFunc=>Bm (.c .nilFunc)
 |.nilIface=>Bm (.c .nilIface)
 |_=>Kk
def GZ:Value->TV->Bool
 |.slice Kk 0 0,.nl _=>Qf
 |.bool b,.b c=>b==c
 |.int .u8 n,.u8 m=>n==m.toNat
 |.int .u16 n,.u16 m=>n==m.toNat
 |.int .u32 n,.u32 m=>n==m.toNat
 |.int .u64 n,.u64 m=>n==m.toNat
 |.int j n,.i k m=>j==k&&n==m
 |.string s,.s l=>s.data.toList==l
 |.float j n,.c (.float k m)=>j==k&&n==m
 |.complex j n n',.c (.complex k m m')=>j==k&&n==m&&n'==m'
 |.pointer Kk,.c (.pointer Kk)=>Qf
 |.nilFunc,.c .nilFunc=>Qf
 |.nilIface,.c .nilIface=>Qf
 |_,_=>Qg
def rp:List Value->List TV->Bool
 |[],[]=>Qf
 |x::xs,y::ys=>GZ x y&&rp xs ys
 |_,_=>Qg
structure gT where
 p:Option Bool
 x:Cell
 ws:List (Nat×Cell):=[]
def gT.ok(x:TV)(g:Gh:=.no)(ws:List (Nat×Cell):=[]):Option gT:=Bm ⟨Kk,(x,g),ws⟩
def gT.dG(p:Bool)(x:TV)(g:Gh:=.no)(ws:List (Nat×Cell):=[]):Option gT:=Bm ⟨Bm p,(x,g),ws⟩
def qw.QZ(r:qw):Option gT:=
 match r with
 |.ok [x]=>gT.ok x
 |.dG p [x]=>gT.dG p x
 |_=>Kk
def rP(nt:Nat)(V:St)(k:Nat):Bool:=nP ((V k).2=.no)&&Nat.blt k 1000000&&Nat.ble nt k
def O1(a b:Int):Int:=if b<a then b else a
def pQ(a b:Int):Int:=if a<b then b else a
abbrev dK{A:Type}(p:Bool)(x:Option A):Option A:=cond p x Kk
section
variable(P:Program)(E:cz)(nt:Nat)(own:Nat->Nat)(V:St)
def ky(t:TypeId):Option (Nat×Bool):=(P.info? t).bind λi=>(P.underlying t).map λd=>(i.size,match d with|.struct _=>Qf|.array _ _=>Qf|_=>Qg)
def vW(t:TypeId)(f:Nat):Option Field:=(P.underlying t).bind λd=>match d with|.struct fs=>fs[f]? |_=>Kk
def MZ(t:TypeId)(v:Value):Option TV:=
 match v with
 |.slice Kk 0 0=>(E.ty t).map λp=>.nl p.1
 |.agg cs=>(E.z t).bind λz=>dK (rp cs.toList z) (Bm (.ag z))
 |v=>YY v
def gU(t:TypeId)(o:Operand):Option Cell:=
 match o with
 |.tmp i=>dK (Nat.blt i nt) (match V i with
  |(_,.hid)=>Kk
  |c=>Bm c)
 |.const v=>(MZ E t v).map λx=>(x,.no)
 |.func f=>Bm (.c (.func (.func f) #[] #[]),.no)
 |.global _=>Kk
def zE(c:Cell):Option TV:=
 match c with
 |(.pt,.dB k)=>match V k with|(y,.pv)=>Bm y|(y,.lv)=>Bm y|(y,.us)=>Bm y|(y,.pw _)=>Bm y|(y,.pc _)=>Bm y|_=>Kk
 |(x,.no)=>Bm (Vk x)
 |_=>Kk
def HV(c:Cell):Option (TV×List (Nat×Cell)):=
 match c with
 |(.pt,.dB k)=>match V k with|(y,.pv)=>Bm (y,[(k,(y,.lv))])|(y,.lv)=>Bm (y,[])|(y,.us)=>dK y.plain (Bm (y,[]))|_=>Kk
 |(x,.no)=>Bm (Vk x,[])
 |_=>Kk
def pH(o n:Nat):List (Nat×Nat)->List TV->Option (List TV×List (Nat×Cell))
 |[],cs=>Bm (cs,[])
 |(c,k)::r,cs=>match pH o n r cs with
  |some (cs,ws)=>cond (Nat.ble o c&&Nat.blt c (o+n)) (match HV V (.pt,.dB k)with
   |some (x,us)=>Bm (cs.set c x,us++ws)
   |none=>Kk) (Bm (cs,ws))
  |none=>Kk
def Cl(c:Cell):Option (TV×List (Nat×Cell)):=
 match c with
 |(.ag cs,.ow ts)=>match pH V 0 cs.length ts cs with|some (cs,ws)=>Bm (.ag (cs.map nrm),ws)|none=>Kk
 |c=>HV V c
def Kh:List Cell->Option (List TV×List (Nat×Cell))
 |[]=>Bm ([],[])
 |c::r=>match Cl V c with
  |some (x,ws)=>match Kh r with|some (xs,us)=>Bm (x::xs,ws++us)|none=>Kk
  |none=>Kk
def qP:List Cell->Option (List Cell×Nat)
 |[]=>Kk
 |[(.pt,.dB k)]=>Bm ([],k)
 |[_]=>Kk
 |c::d::r=>match qP (d::r)with|some (cs,k)=>Bm (c::cs,k)|none=>Kk
def rh(ts:List TypeId)(os:List Operand):Option (List Cell):=
 match ts,os with
 |[],[]=>Bm []
 |t::ts,o::os=>match gU E nt V t o with
  |some c=>match rh ts os with|some cs=>Bm (c::cs)|none=>Kk
  |none=>Kk
 |_,_=>Kk
def Hi(o n:Nat)(ts:List (Nat×Nat)):List (Nat×Nat):=ts.filter λt=>Nat.blt t.1 o||Nat.ble (o+n) t.1
def nL(c:Nat):List (Nat×Nat)->Option Nat
 |[]=>Kk
 |(d,k)::r=>cond (Nat.beq d c) (Bm k) (nL c r)
def Vc:Cell->Option (TV×List (Nat×Cell))
 |(.ag xs,.no)=>Bm (.ag xs,[])
 |c=>Cl V c
def TW (rw:Bool) (m:Md) (c:Cell):Option (TV × List (Nat × Cell)) :=
 match m,c with
 | .pl,c=>cond rw (Vc V c) (Cl V c)
 | .rf,(.pt,.ptr k 0)=>match V k with
  | (.ag cs,.cl ts)=>match pH V 0 cs.length ts cs with
   | some (cs,ws)=>Bm (.ag (cs.map nrm),ws)
   | none=>Kk
  | _=>Kk
 | .rf,_=>Kk
 | m,(.pt,.dB k)=>match m,V k with
  | _,(y,.pv)=>Bm (y,[])
  | .sm,(y,.pc _)=>Bm (y,[])
  | _,_=>Kk
 | .sm,(.nl t,.no)=>Bm (.sl t [],[])
 | .gv,(.nl t,.no)=>Bm (.sl t [],[])
 | _,_=>Kk
def E4 (rw:Bool) (ms:List Md):List Cell→Option (List TV × List (Nat × Cell))
 | []=>Bm ([],[])
 | c :: r=>match TW V rw (ms.headD .pl) c with
  | some (x,ws)=>match E4 rw ms.tail r with
   | some (xs,us)=>Bm (x :: xs,ws++us)
   | none=>Kk
  | none=>Kk
def ng:List Md->List TV->List TV->OT
 |[],_,outs=>dK outs.isEmpty (Bm [])
 |.rf::ms,_::ins,x::outs=>(ng ms ins outs).map (x::·)
 |.sl::ms,_::ins,x::outs=>(ng ms ins outs).map (x::·)
 |.pl::ms,y::ins,outs=>(ng ms ins outs).map (y::·)
 |.sm::ms,y::ins,outs=>(ng ms ins outs).map (y::·)
 |.gv::ms,y::ins,outs=>(ng ms ins outs).map (y::·)
 |_::_,_,_=>Kk
def oe(m:Md)(c:Cell)(y:TV):Option (Nat×Cell):=
 match m,c.2 with
 |.rf,.ptr k _=>Bm (k,(y,.cl []))
 |.sl,.dB k=>Bm (k,(y,.pv))
 |.sm,.dB k=>Bm (k,(y,(V k).2))
 |.gv,.dB k=>Bm (k,(.dead,.zz))
 |_,_=>Kk
def iV:List Md->List Cell->List TV->List (Nat×Cell)
 |m::ms,c::cs,y::ys=>match oe V m c y with|some p=>p::iV ms cs ys|none=>iV ms cs ys
 |_,_,_=>[]
def Cy:List (Nat×Cell)->Bool
 |[]=>Qf
 |(k,_)::r=>(r.all λp=>!Nat.beq p.1 k)&&Cy r
def sS(outs:List TV)(i:Nat):Option TV:=cond (Nat.blt i 1000) (outs[i]?) (match outs[0]? with|some (TV.ag cs)=>cs[i -1000]? |_=>Kk)
def OX:List Nat->Nat->List TV->Option (List (Nat×Cell))
 |[],_,_=>Bm []
 |i::r,j,outs=>match sS outs i with|some x=>dK (rP nt V (own j)) ((OX r (j+1) outs).map ((own j,(x,.pv))::·))|none=>Kk
def WU(l:List Nat):TV->TV
 |.ag cs=>.ag (cs.mapIdx λc y=>cond (l.contains (1000+c)) .pt y)
 |x=>x
def nj(l:List Nat):Bool:=l.all λi=>Nat.blt i 1000
def tE(l:List Nat)(outs:List TV):List TV:=cond (nj l) (outs.mapIdx λi x=>cond (l.contains i) .pt x) (outs.map (WU l))
def okO(sg:fU):Bool:=nj sg.own||(Nat.beq sg.b9 1&&Nat.beq sg.own.length 1)
def IK(sg:fU)(outs:List TV):Cell:=
 cond (Nat.beq sg.b9 1) (match sg.own with
  |[]=>(outs.headD .dead,.no)
  |i::_=>cond (Nat.blt i 1000) (.pt,.dB (own 0)) ((tE sg.own outs).headD .dead,.ow [(i -1000,own 0)]))
  (.tu (tE sg.own outs),cond sg.own.isEmpty .no (.J5 (sg.own.mapIdx λj i=>(i,own j))))
def ES(sg:fU)(cs:List Cell)(xs:List TV)(ws:List (Nat×Cell))(p:Option Bool)(outs:List TV):Option gT:=
 dK (Nat.ble sg.b9 outs.length&&Nat.blt 0 nt&&okO sg) (match OX nt own V sg.own 0 (outs.take sg.b9),ng sg.md xs (outs.drop sg.b9)with
  |some ns,Bm ys=>dK (Cy (iV V sg.md cs ys)&&(ws.all λq=>(iV V sg.md cs ys).all λp=>!Nat.beq p.1 q.1)) (Bm ⟨p,IK own sg (outs.take sg.b9),iV V sg.md cs ys++(ns++ws)⟩)
  |_,_=>Kk)
def Qk(us:List (Nat×Nat))(ds:List TV)(c:Nat):Option (TV×List (Nat×Cell)):=
 match nL c us with
 |some j=>match V j with|(y,.pv)=>Bm (y,[(j,(.dead,.zz))])|_=>Kk
 |none=>match ds[c]? with|some (.nl t)=>Bm (.sl t [],[])|_=>Kk
def IJ(n:Nat)(rs:List TV):Cell:=cond (Nat.beq n 1) (rs.headD .dead,.no) (.tu rs,.no)
def UN(n m c:Nat)(ws:List (Nat×Cell))(p:Option Bool)(outs:List TV):Option gT:=
 match outs.drop n with
 |[.ag ds,y]=>dK (rP nt V (own 0)) (Bm ⟨p,IJ n (outs.take n),(m,(.ag (ds.set c .pt),.cl [(c,own 0)]))::(own 0,(y,.pv))::ws⟩)
 |_=>Kk
def Yn(n:Nat)(f:cX)(i c:Nat)(e:Bool)(cs:List Cell):Option gT:=
 match cs[i]? with
 |some (.pt,.ptr m 0)=>match V m with
  |(.ag ds,.cl us)=>match Kh V (cs.set i (.dead,.no)),pH V 0 ds.length (cond e (us.filter λt=>!Nat.beq t.1 c) us) ds,cond e (Qk V us ds c) (Bm (.dead,[]))with
   |some (xs,ws),Bm (ds,Fa),Bm (y,wj)=>dK (Nat.blt c ds.length&&Nat.blt 0 nt&&(Fa++ws).all λp=>!Nat.beq p.1 m&&wj.all λq=>!Nat.beq p.1 q.1) (match f (xs.set i (.ag ((ds.map nrm).set c .pt))++[y])with
    |.ok outs=>UN nt own V n m c (wj++(Fa++ws)) Kk outs
    |.dG p outs=>UN nt own V n m c (wj++(Fa++ws)) (Bm p) outs
    |.err=>Kk)
   |_,_,_=>Kk
  |_=>Kk
 |_=>Kk
def Vj(n:Nat)(oc:Option Nat)(ws:List (Nat×Cell))(p:Option Bool)(outs:List TV):Option gT:=
 match outs.take n,oc,outs.drop n with
 |.ag ds::rs,Kk,[]=>dK (rP nt V (own 0)&&Nat.blt 0 nt) (Bm ⟨p,cond (Nat.beq n 1) (.pt,.ptr (own 0) 0) (.tu (.pt::rs),.J5 [(0,own 0)]),(own 0,(.ag ds,.cl []))::ws⟩)
 |.ag ds::rs,Bm c,[y]=>dK (rP nt V (own 0)&&rP nt V (own 1)&&Nat.blt 0 nt) (Bm ⟨p,cond (Nat.beq n 1) (.pt,.ptr (own 0) 0) (.tu (.pt::rs),.J5 [(0,own 0)]),(own 0,(.ag (ds.set c .pt),.cl [(c,own 1)]))::(own 1,(y,.pv))::ws⟩)
 |_,_,_=>Kk
def Y8(n:Nat)(f:cX)(oc:Option Nat)(cs:List Cell):Option gT:=
 match Kh V cs with
 |some (xs,ws)=>match f xs with|.ok outs=>Vj nt own V n oc ws Kk outs|.dG p outs=>Vj nt own V n oc ws (Bm p) outs|.err=>Kk
 |none=>Kk
def H9 (f:Nat) (ts:List TypeId) (args:List Operand):Option gT :=
 match rh E nt V ts args with
 | some cs=>match (E.fs f).2.kd with
  | .pl=>match E4 V (E.fs f).2.raw (E.fs f).2.md cs with
   | some (xs,ws)=>match (E.fs f).1 xs with
    | .ok outs=>ES nt own V (E.fs f).2 cs xs ws Kk outs
    | .dG p outs=>ES nt own V (E.fs f).2 cs xs ws (Bm p) outs
    | .err=>Kk
   | none=>Kk
  | .wr i c e=>Yn nt own V (E.fs f).2.b9 (E.fs f).1 i c e cs
  | .nw oc=>Y8 nt own V (E.fs f).2.b9 (E.fs f).1 oc cs
 | none=>Kk
def OW(x:TV)(p:Option Bool)(ws:List (Nat×Cell)):Option gT:=dK (rP nt V (own 0)) (Bm ⟨p,(.pt,.dB (own 0)),(own 0,(x,.pv))::ws⟩)
def Hx(sK:Nat)(k:Nat)(t:eu)(l:List t.El)(st':eu)(m:List st'.El)(ws:List (Nat×Cell)):Option gT:=
 match t.app l st' m with
 |some n=>dK (rP nt V (own 0)) (Bm ⟨Bm (dU (l.length+m.length) sK),(.pt,.dB (own 0)),[(own 0,(.sl t n,.pc k)),(k,(.sl t l,.pw (own 0)))]++ws⟩)
 |none=>Kk
def P9(st:eu)(sK:Nat)(c:Cell)(st':eu)(m:List st'.El):Option gT:=
 match c with
 |(.pt,.dB k)=>match V k with
  |(.sl t l,.pv)=>match E.ld.contains (own 0)with|true=>dK (nP (t=st)) (Hx nt own V sK k t l st' m [])|false=>match t.app l st' m with|some n=>dK (nP (t=st)&&rP nt V (own 0)) (Bm ⟨Bm (dU (l.length+m.length) sK),(.pt,.dB (own 0)),[(own 0,(.sl t n,.pv)),(k,(.dead,.zz))]⟩)|none=>Kk
  |(.sl t l,.pw d)=>dK (nP (t=st)) (Hx nt own V sK k t l st' m [(d,(.dead,.zz))])
  |(.sl t l,.lv)=>match t.app l st' m with|some n=>dK (nP (t=st)&&rP nt V (own 0)) (Bm ⟨Bm (dU (l.length+m.length) sK),(.pt,.dB (own 0)),[(own 0,(.sl t n,.lv)),(k,(.sl t l,.us))]⟩)|none=>Kk
  |_=>Kk
 |(.nl t,.no)=>dK (nP (t=st')&&nP (t=st)) (OW nt own V (.sl st' m) (Bm (dU m.length sK)) [])
 |_=>Kk
def zm(b:Builtin)(ts:List TypeId)(args:List Operand):Option gT:=
 match b,ts,args with
 |.len,[t],[x]=>match P.underlying t,(gU E nt V t x).bind (zE V)with|some (.slice _),Bm (.sl _ l)=>gT.ok (.i .i64 l.length)|some .string,Bm (.s l)=>gT.ok (.i .i64 l.length)|_,_=>Kk
 |.append,[t,u],[x,y]=>match E.ty t,gU E nt V t x,P.underlying u,(gU E nt V u y).bind (zE V)with|some (st,sK),Bm c,Bm (.slice _),Bm (.sl st' m)=>P9 E nt own V st sK c st' m|some (st,sK),Bm c,Bm .string,Bm (.s m)=>P9 E nt own V st sK c .bs m|_,_,_,_=>Kk
 |.min,_,[x,y]=>match gU E nt V 0 x,gU E nt V 0 y with|some (.i k a,.no),Bm (.i k' b,.no)=>dK (nP (k=k')) (gT.ok (.i k (O1 a b)))|_,_=>Kk
 |.max,_,[x,y]=>match gU E nt V 0 x,gU E nt V 0 y with|some (.i k a,.no),Bm (.i k' b,.no)=>dK (nP (k=k')) (gT.ok (.i k (pQ a b)))|_,_=>Kk
 |.real,_,[x]=>match gU E nt V 0 x with|some (.c (.complex k a _),.no)=>gT.ok (.c (.float k a))|_=>Kk
 |.imag,_,[x]=>match gU E nt V 0 x with|some (.c (.complex k _ b),.no)=>gT.ok (.c (.float k b))|_=>Kk
 |.complex,_,[x,y]=>match gU E nt V 0 x,gU E nt V 0 y with|some (.c (.float .f64 a),.no),Bm (.c (.float .f64 b),.no)=>gT.ok (.c (.complex .f64 a b))|_,_=>Kk
 |_,_,_=>Kk
def MY(s d:TypeId)(x:TV):Option gT:=
 match P.underlying s,P.underlying d with
 |some (.int _),Bm (.int k)=>match x.int? with|some (_,n)=>gT.ok (HG k n)|none=>Kk
 |some (.int _),Bm (.float .f64)=>match x with|.i _ n=>gT.ok (.c (.float .f64 (Fl.ofInt n)))|_=>Kk
 |some (.float .f64),Bm (.int .i64)=>match x with|.c (.float .f64 b)=>gT.dG (Fl.qy b) (.i .i64 (Fl.toInt b))|_=>Kk
 |some .string,Bm .string=>match x with|.s l=>gT.ok (.s l)|_=>Kk
 |some .string,Bm (.slice e)=>match P.underlying e,x with|some (.int .u8),.s l=>OW nt own V (.sl .bs l) (Bm (mZ l.length)) []|_,_=>Kk
 |some (.slice e),Bm .string=>match P.underlying e,x with|some (.int .u8),.sl .bs l=>gT.ok (.s l)|_,_=>Kk
 |_,_=>Kk
def TE(t:eu)(l:List t.El)(lo hi:Option Int):Option gT:=
 match lo,hi with
 |some a,Bm b=>gT.dG (iF a b l.length) (.sl t ((l.take b.toNat).drop a.toNat))
 |some a,Kk=>gT.dG (iF a l.length l.length) (.sl t (l.drop a.toNat))
 |none,Bm b=>gT.dG (iF 0 b l.length) (.sl t (l.take b.toNat))
 |none,Kk=>gT.ok (.sl t l)
def TD(l:bE)(lo hi:Option Int):Option gT:=
 match lo,hi with
 |some a,Bm b=>gT.dG (iF a b l.length) (.s ((l.take b.toNat).drop a.toNat))
 |some a,Kk=>gT.dG (iF a l.length l.length) (.s (l.drop a.toNat))
 |none,Bm b=>gT.dG (iF 0 b l.length) (.s (l.take b.toNat))
 |none,Kk=>gT.ok (.s l)
def tP(o:Operand):Option Int:=
 match gU E nt V 0 o with
 |some (x,.no)=>(x.int?).map (·.2)
 |_=>Kk
def pF(o:Option Operand):Option (Option Int):=
 match o with
 |none=>Bm Kk
 |some o=>(tP E nt V o).map Bm
def wT(x:TypeId)(st:eu):Bool:=match E.ty x with|some (st',_)=>Nat.beq st'.size st.size|none=>Qg
def MS(t:TypeId)(c:Cell)(lo hi:Option Int):Option gT:=
 match Cl V c with
 |some (.sl st l,ws)=>dK (wT E t st) ((TE st l lo hi).map λe=>{e with ws:=ws})
 |_=>Kk
def Ly(t:TypeId)(c:Cell):Option gT:=
 match ky P t with
 |some (n,agg)=>dK (agg||Nat.beq n 1) (match c with
  |(.pt,.ptr m o)=>match V m with
   |(.ag cs,.cl ts)=>match agg,nL o ts with
    |false,Bm k=>gT.ok .pt (.dB k)
    |_,_=>match E.ld.contains (own 0)with
     |true=>dK (agg&&Nat.beq o 0&&Nat.beq n cs.length) (gT.ok (.ag cs) (.ow ts))
     |false=>match pH V o n ts cs with
      |some (cs,ws)=>match py cs o n agg with|some x=>gT.ok x .no ws|none=>Kk
      |none=>Kk
   |_=>Kk
  |(.el i s o,.pe k)=>match V k with
   |(.sl t l,g)=>match BK (t.tv (l.getD i t.dH)) o n agg with|some x=>dK ((nP (g=.pv)||nP (g=.lv))&&Nat.beq s t.size) (gT.dG (nP (i<l.length)) x)|none=>Kk
   |(.ag cs,.cl [])=>match J1 cs i with|some x=>dK (Nat.beq s 1&&Nat.beq o 0&&Nat.beq n 1&&!agg) (gT.dG (nP (i<cs.length)) x)|none=>Kk
   |_=>Kk
  |(.ro x,.no)=>dK (x.plain&&(x.wV==agg)&&Nat.beq x.cells.length n) (gT.ok x)
  |_=>Kk)
 |none=>Kk
def FE(t:TypeId)(c v:Cell):Option gT:=
 match ky P t with
 |some (n,_)=>match c with
  |(.pt,.ptr m o)=>match V m with
   |(.ag cs,.cl ts)=>match v with
    |(.pt,.dB k)=>dK (Nat.beq n 1&&Nat.blt o cs.length&&(!Nat.beq k m&&ts.all λt=>!Nat.beq t.2 m)) (Bm ⟨Kk,(.dead,.no),[(m,(.ag (iu cs o [.pt]),.cl ((o,k)::Hi o n ts)))]⟩)
    |(.ag xs,.ow us)=>dK (Nat.beq o 0&&Nat.beq xs.length n&&Nat.beq n cs.length&&us.all λt=>!Nat.beq t.2 m) (Bm ⟨Kk,(.dead,.no),[(m,(.ag xs,.cl us))]⟩)
    |(x,.no)=>dK (x.plain&&Nat.beq x.cells.length n&&Nat.ble (o+n) cs.length&&ts.all λt=>!Nat.beq t.2 m) (Bm ⟨Kk,(.dead,.no),[(m,(.ag (iu cs o x.cells),.cl (Hi o n ts)))]⟩)
    |_=>Kk
   |_=>Kk
  |(.el i s o,.pe k)=>match Cl V v with
   |some (x,ws)=>match V k with
    |(.sl t l,.pv)=>match FV (t.tv (l.getD i t.dH)) o x with
     |some y=>match t.el y with
      |some z=>dK (x.plain&&Nat.beq s t.size&&Nat.beq x.cells.length n&&ws.all λp=>!Nat.beq p.1 k) (Bm ⟨Bm (nP (i<l.length)),(.dead,.no),(k,(.sl t (l.set i z),.pv))::ws⟩)
      |none=>Kk
     |none=>Kk
    |(.ag cs,.cl [])=>match WZ cs i x with
     |some ds=>dK (Nat.beq s 1&&Nat.beq o 0&&Nat.beq n 1&&ws.all λp=>!Nat.beq p.1 k) (Bm ⟨Bm (nP (i<cs.length)),(.dead,.no),(k,(.ag ds,.cl []))::ws⟩)
     |none=>Kk
    |_=>Kk
   |none=>Kk
  |_=>Kk
 |none=>Kk
def rL(t:TypeId)(j:Nat):Option (Nat×(Nat×TypeId)):=
 match P.underlying t with
 |some (.struct fs)=>(fs[j]?).bind λf=>(P.info? f.type).map λi=>(f.offset,i.size,f.type)
 |some (.array _ e)=>(P.info? e).map λi=>(j*i.size,i.size,e)
 |_=>Kk
def qF(t:TypeId):List (Nat×Operand)->Option (List (Nat×(Nat×TypeId)))
 |[]=>Bm []
 |(j,_)::r=>match rL P t j,qF t r with|some q,Bm l=>Bm (q::l)|_,_=>Kk
def Zi(x:TypeId)(c:Cell)(n:Int):Option gT:=
 match P.underlying x,c with
 |some (.slice _),(.pt,.dB k)=>match V k with|(.sl t l,.pv)=>dK (wT E x t) (gT.dG (bH n l.length) (.el n.toNat t.size 0) (.pe k))|(.sl t l,.lv)=>dK (wT E x t) (gT.dG (bH n l.length) (.ro (t.tv (l.getD n.toNat t.dH))))|(.sl t l,.us)=>dK (wT E x t) (gT.dG (bH n l.length) (.ro (t.tv (l.getD n.toNat t.dH))))|_=>Kk
 |some (.slice _),(.sl t l,.no)=>dK (wT E x t) (gT.dG (bH n l.length) (.ro (t.tv (l.getD n.toNat t.dH))))
 |some (.array m e),(.pt,.ptr k 0)=>match V k with
  |(.ag _,.cl _)=>(P.info? e).bind λi=>gT.dG (bH n m) (.el n.toNat i.size 0) (.pe k)
  |_=>Kk
 |_,_=>Kk
def Sw:String:=((Extern.BytealgIndexByte.rows[1]?).map Prod.fst).getD ""
def isName:String:=((Extern.BytealgIndexByte.rows[0]?).map Prod.fst).getD ""
def Kz:String:= "math.archTrunc"
def T0:String:=((Extern.MathBitsCarry.rows[0]?).map Prod.fst).getD ""
def ql(f:Nat)(nm:String):Bool:=(P.funcs[f]?).any λfn=>fn.name==nm&&fn.body.isNone&&(fn.origin== "" ||fn.origin==nm)
def Tn(f:Nat)(cs:Option (List Cell)):Option gT:=match cs with|some [(.c (.float .f64 b),.no)]=>dK (ql P f Kz) (gT.dG (Fl.num b) (.c (.float .f64 (Fl.nD b))))|some [(.s l,.no),(.u8 c,.no)]=>dK (ql P f Sw) (gT.ok (.i .i64 (Lib.indexByte l c)))|some [(.sl .bs l,.no),(.u8 c,.no)]=>dK (ql P f isName) (gT.ok (.i .i64 (Lib.indexByte l c)))|some [(.u64 x,.no),(.u64 y,.no),(.u64 c,.no)]=>dK (ql P f T0) (gT.dG (nP (c.toNat<=1)) (.tu [.u64 (UInt64.ofNat (x.toNat+y.toNat+c.toNat)),.u64 (UInt64.ofNat ((x.toNat+y.toNat+c.toNat)/18446744073709551616))]))|_=>Kk
def HR(f:Nat):Bool:=match P.funcs[f]? with|some fn=>fn.body.isSome|none=>Qf
def HE(f:Field)(o:Nat):Bool:=f.name != "_" &&Nat.beq f.offset o&&match P.underlying f.type with|some (.int .u64)=>Qf|_=>Qg
def UB(t:TypeId)(fs:Array Field)(x y:TV):Option Bool:=
 match fs.toList,x,y with
 |[f,g],.ag [.u64 a,.u64 b],.ag [.u64 c,.u64 d]=>dK (HE P f 0&&HE P g 1&&!P.stoodInHeld t&&!P.eqGuardType P.depth t) (Bm (nP (a=c)&&nP (b=d)))
 |_,_,_=>Kk
def MV(s d:TypeId)(c:Cell):Option gT:=
 match c with
 |(.pt,.dB k)=>match V k,P.underlying s with
  |(.sl .bs l,.pv),Bm (.slice e)=>match P.underlying e with|some (.int .u8)=>dK (Nat.beq s d) (Bm ⟨Bm (!l.isEmpty),(.sl .bs l,.no),[(k,(.dead,.zz))]⟩)|_=>Kk
  |_,_=>Kk
 |_=>Kk
def Dd(ty:TypeId)(op:Op):Option gT:=
 match op with
 |.move x=>(gU E nt V ty x).map λc=>⟨Kk,c,[]⟩
 |.assign x=>(gU E nt V ty x).map λc=>⟨Kk,c,[]⟩
 |.pick c a b=>match gU E nt V 0 c,gU E nt V ty a,gU E nt V ty b with|some (.b t,.no),Bm (x,.no),Bm (y,.no)=>(Hm t x y).QZ|_,_,_=>Kk
 |.binOp o t x y u=>match gU E nt V t x,gU E nt V u y with
  |some c,Bm d=>match P.underlying t with
   |some (.slice _)=>match o,zE V c,d with|.eql,Bm (.sl _ l),(.nl _,.no)=>gT.ok (.ub l.isEmpty)|_,_,_=>Kk
   |some .bool=>match o,c,d with|.eql,(.b a,.no),(.b b,.no)=>gT.ok (.b (a==b))|.neq,(.b a,.no),(.b b,.no)=>gT.ok (.b (!(a==b)))|_,_,_=>Kk
   |some (.struct fs)=>match o,c,d with
    |.eql,(a,.no),(b,.no)=>(UB P t fs a b).bind λr=>gT.ok (.b r)
    |.neq,(a,.no),(b,.no)=>(UB P t fs a b).bind λr=>gT.ok (.b !r)
    |_,_,_=>Kk
   |some (.pointer _)=>match o,c,d with|.eql,(.pt,.ptr _ _),(.c (.pointer Kk),.no)=>gT.ok (.b Qg)|.neq,(.pt,.ptr _ _),(.c (.pointer Kk),.no)=>gT.ok (.b Qf)|_,_,_=>Kk
   |_=>match c,d with|(a,.no),(b,.no)=>(P0 o a b).QZ|_,_=>Kk
  |_,_=>Kk
 |.unOp o t x=>match gU E nt V t x with|some (a,.no)=>(WO o a).QZ|_=>Kk
 |.convert s d x=>match gU E nt V s x with
  |some c=>match MV P V s d c with|some e=>Bm e|none=>match zE V c with|some a=>MY P nt own V s d a|none=>Kk
  |none=>Kk
 |.call {callee:=.builtin b,args,argTypes}=>zm P E nt own V b argTypes.toList args.toList
 |.call {callee:=.value (.func f),args,argTypes}=>cond (HR P f) (H9 E nt own V f argTypes.toList args.toList) (Tn P f (rh E nt V argTypes.toList args.toList))
 |.call {callee:=.value (.tmp i),args,argTypes}=>match gU E nt V 0 (.tmp i)with|some (.c (.func (.func f) ⟨[]⟩ ⟨[]⟩),.no)=>H9 E nt own V f argTypes.toList args.toList|_=>Kk
 |.indexAddr t x i=>match gU E nt V t x,tP E nt V i with|some c,Bm n=>Zi P E V t c n|_,_=>Kk
 |.index t x i=>match gU E nt V t x,tP E nt V i with
  |some (.s l,.no),Bm n=>match P.underlying t with|some .string=>gT.dG (bH n l.length) (.u8 (l.getD n.toNat 0))|_=>Kk
  |some (.ag cs,.no),Bm n=>match P.underlying t with
   |some (.array m e)=>match ky P e with
    |some (1,Qg)=>match J1 cs n.toNat with|some x=>dK (Nat.beq m cs.length) (gT.dG (bH n m) x)|none=>Kk
    |some (s,Qf)=>match EL s m n.toNat cs s with|some xs=>dK (Nat.beq (m*s) cs.length) (gT.dG (bH n m) (.ag xs))|none=>Kk
    |_=>Kk
   |_=>Kk
  |_,_=>Kk
 |.field t x f=>match gU E nt V t x,vW P t f with
  |some (.ag cs,.no),Bm fl=>match ky P fl.type with
   |some (n,agg)=>match py cs fl.offset n agg with|some x=>dK (agg||Nat.beq n 1) (gT.ok x)|none=>Kk
   |none=>Kk
  |_,_=>Kk
 |.fieldAddr t x f=>match gU E nt V 0 x,vW P t f with
  |some c,Bm fl=>match ky P fl.type with
   |some (n,agg)=>dK (Nat.blt 0 n) (match c with
    |(.pt,.ptr m o)=>gT.ok .pt (.ptr m (o+fl.offset))
    |(.el i s o,.pe k)=>gT.ok (.el i s (o+fl.offset)) (.pe k)
    |(.ro (.ag cs),.no)=>match py cs fl.offset n agg with|some x=>gT.ok (.ro x)|none=>Kk
    |_=>Kk)
   |none=>Kk
  |_,_=>Kk
 |.nilCheck x=>match gU E nt V 0 x with|some (.pt,.ptr m o)=>gT.ok .pt (.ptr m o)|some (.ro x,.no)=>gT.ok (.ro x)|_=>Kk
 |.extract x i=>match gU E nt V 0 x with
  |some (.tu vs,.no)=>(vs[i]?).bind gT.ok
  |some (.tu vs,.J5 l)=>match nL i l with
   |some k=>match V k with|(_,.pv)=>gT.ok .pt (.dB k)|(.ag _,.cl _)=>gT.ok .pt (.ptr k 0)|_=>Kk
   |none=>(vs[i]?).bind gT.ok
  |_=>Kk
 |.load t x=>match gU E nt V 0 x with|some c=>Ly P E own V t c|none=>Kk
 |.store t x v=>match gU E nt V 0 x,gU E nt V t v with|some c,Bm d=>FE P V t c d|_,_=>Kk
 |.slice t x lo hi Kk=>match P.underlying t,gU E nt V t x,pF E nt V lo,pF E nt V hi with
  |some .string,Bm (.s l,.no),Bm a,Bm b=>TD l a b
  |some (.slice _),Bm c,Bm a,Bm b=>match c,a,b with
   |(.pt,.dB k),Kk,Bm n=>match V k with|(.sl st l,.pv)=>dK (wT E t st&&rP nt V (own 0)) (Bm ⟨Bm (iF 0 n l.length),(.pt,.dB (own 0)),[(own 0,(.sl st (l.take n.toNat),.pv)),(k,(.dead,.zz))]⟩)|_=>MS E V t c a b
   |_,_,_=>MS E V t c a b
  |_,_,_,_=>Kk
 |.buildSlice t n parts=>match E.ty t,P.underlying t with
  |some (st,_),Bm (.slice e)=>match rh E nt V (parts.toList.map λ_=>e) (parts.toList.map (·.2))with
   |some cs=>match Kh V cs with
    |some (xs,ws)=>match st.Wd xs with|some l=>dK (Nat.beq n parts.size&&Nat.ble (n*st.size) 16777216&&nP (parts.toList.map (·.1)=List.range n)) (OW nt own V (.sl st l) Kk ws)|none=>Kk
    |none=>Kk
   |none=>Kk
  |_,_=>Kk
 |.build t parts=>match E.z t,qF P t parts.toList with
  |some z,Bm pl=>match rh E nt V (pl.map (·.2.2)) (parts.toList.map (·.2))with
   |some cs=>match E.ld.contains (own 0),qP cs with
    |true,Bm (Cz,k)=>match Kh V Cz with
     |some (xs,ws)=>match sf z (pl.map λq=>(q.1,q.2.1)) (xs++[.pt]),pl.getLast? with
      |some ds,Bm q=>dK (xs.all TV.plain&&(Nat.beq q.2.1 1&&ws.all λp=>!Nat.beq p.1 k)) (gT.ok (.ag ds) (.ow [(q.1,k)]) ws)
      |_,_=>Kk
     |none=>Kk
    |_,_=>match Kh V cs with
     |some (xs,ws)=>match sf z (pl.map λq=>(q.1,q.2.1)) xs with|some ds=>dK (xs.all TV.plain) (gT.ok (.ag ds) .no ws)|none=>Kk
     |none=>Kk
   |none=>Kk
  |_,_=>Kk
 |.alloc t=>(E.z t).bind λz=>dK (rP nt V (own 0)) (gT.ok .pt (.ptr (own 0) 0) [(own 0,(.ag z,.cl []))])
 |.box t v=>match gU E nt V t v with|some (x,.no)=>dK (x.plain&&rP nt V (own 0)) (gT.ok .pt (.ptr (own 0) 0) [(own 0,(.ag x.cells,.cl []))])|_=>Kk
 |.makeSlice t l c=>match E.ty t,tP E nt V l,tP E nt V c with|some (st,sK),Bm a,Bm b=>OW nt own V (.sl st (List.replicate a.toNat st.dH)) (Bm (tJ a b sK)) []|_,_,_=>Kk
 |_=>Kk
end
open Go.RowKit
def TV.val:TV->Option Value
 |.u8 n=>Bm (.int .u8 n.toNat)
 |.u16 n=>Bm (.int .u16 n.toNat)
 |.u32 n=>Bm (.int .u32 n.toNat)
 |.u64 n=>Bm (.int .u64 n.toNat)
 |.i k n=>Bm (.int k n)
 |.b x=>Bm (.bool x)
 |.s l=>Bm (.string ⟨⟨l⟩⟩)
 |.c v=>Bm v
 |_=>Kk
abbrev Reach:=Nat->Nat->Prop
mutual
inductive Rep (R:Reach) (w:World):TV->Value->Prop
 |sc {x:TV} {v:Value}:x.val=Bm v->Rep R w x v
 |ag {cs:List TV} {ys:List Value}:dn R w cs ys->Rep R w (.ag cs) (.agg ⟨ys⟩)
 |tu {vs:List TV} {ys:List Value}:hO R w vs ys->Rep R w (.tu vs) (.tuple ⟨ys⟩)
 |nl (t:eu):Rep R w (.nl t) (.slice Kk 0 0)
 |ub {e b:Bool}:(b=Qf->e=Qf)->Rep R w (.ub e) (.bool b)
 |sn (t:eu):Rep R w (.sl t []) (.slice Kk 0 0)
 |sl {t:eu} {l:List t.El} {b off n cap:Nat}:n=l.length->n<=cap->cap<=maxLen->mh R w t.size (l.map t.tv) b off->Rep R w (.sl t l) (.slice (Bm ⟨b,off,Kk⟩) n cap)
 |em {a:Addr} {cap:Nat} (t:eu):cap<=maxLen->Rep R w (.sl t []) (.slice (Bm a) 0 cap)
 |ro {x:TV} {b off s:Nat}:oh R w s x b off->Rep R w (.ro x) (.pointer (Bm ⟨b,off,Kk⟩))
 |pt (y:Value):Rep R w .pt y
 |dead (y:Value):Rep R w .dead y
 |Uz {x:TV} {y:Value}:Rep R w x y->Rep R w (.gd Qf x) y
 |V9 (x:TV):Rep R w (.gd Qg x) undef
inductive dn (R:Reach) (w:World):List TV->List Value->Prop
 |nil:dn R w [] []
 |cons {x:TV} {y:Value} {xs:List TV} {ys:List Value}:y.oneCell'=Qf->Rep R w x y->dn R w xs ys->dn R w (x::xs) (y::ys)
inductive hO (R:Reach) (w:World):List TV->List Value->Prop
 |nil:hO R w [] []
 |cons {x:TV} {y:Value} {xs:List TV} {ys:List Value}:Rep R w x y->hO R w xs ys->hO R w (x::xs) (y::ys)
inductive oq (R:Reach) (w:World):List TV->Nat->Nat->Prop
 |nil (b off:Nat):oq R w [] b off
 |cons {x:TV} {y:Value} {xs:List TV} {b off:Nat}:R b off->w.cell? ⟨b,off,Kk⟩=Bm y->y.oneCell'=Qf->Rep R w x y->oq R w xs b (off+1)->oq R w (x::xs) b off
inductive oh (R:Reach) (w:World):Nat->TV->Nat->Nat->Prop
 |ag {cs:List TV} {b off s:Nat}:s=cs.length->oq R w cs b off->oh R w s (.ag cs) b off
 |one {x:TV} {y:Value} {b off:Nat}:x.wV=Qg->R b off->w.cell? ⟨b,off,Kk⟩=Bm y->y.oneCell'=Qf->Rep R w x y->oh R w 1 x b off
inductive mh (R:Reach) (w:World):Nat->List TV->Nat->Nat->Prop
 |nil (s b off:Nat):mh R w s [] b off
 |cons {s:Nat} {x:TV} {xs:List TV} {b off:Nat}:oh R w s x b off->mh R w s xs b (off+s)->mh R w s (x::xs) b off
end
def eH(R:Reach)(w:World)(R':Reach)(w':World):Prop:=∀b o,R b o->R' b o/\w'.cell? ⟨b,o,Kk⟩=w.cell? ⟨b,o,Kk⟩
def eH.refl(R:Reach)(w:World):eH R w R w:=λ_ _ h=>⟨h,rfl⟩
def eH.trans{R R' WA:Reach}{w w' w'':World}(h:eH R w R' w')(k:eH R' w' WA w''):eH R w WA w'':=λb o hr=>⟨(k b o (h b o hr).1).1,(k b o (h b o hr).1).2.trans (h b o hr).2⟩
section
variable{R R':Reach}{w w':World}
mutual
theorem Rep.mono(k:eH R w R' w'):∀{x:TV}{y:Value},Rep R w x y->Rep R' w' x y
 |_,_,.sc h=>.sc h
 |_,_,.ag h=>.ag (dn.mono k h)
 |_,_,.tu h=>.tu (hO.mono k h)
 |_,_,.nl t=>.nl t
 |_,_,.ub h=>.ub h
 |_,_,.sn t=>.sn t
 |_,_,.sl a b c h=>.sl a b c (mh.mono k h)
 |_,_,.em t h=>.em t h
 |_,_,.ro h=>.ro (oh.mono k h)
 |_,_,.pt y=>.pt y
 |_,_,.dead y=>.dead y
 |_,_,.Uz h=>.Uz (Rep.mono k h)
 |_,_,.V9 x=>.V9 x
theorem dn.mono(k:eH R w R' w'):∀{x:List TV}{y:List Value},dn R w x y->dn R' w' x y
 |_,_,.nil=>.nil
 |_,_,.cons a h t=>.cons a (Rep.mono k h) (dn.mono k t)
theorem hO.mono(k:eH R w R' w'):∀{x:List TV}{y:List Value},hO R w x y->hO R' w' x y
 |_,_,.nil=>.nil
 |_,_,.cons h t=>.cons (Rep.mono k h) (hO.mono k t)
theorem oq.mono(k:eH R w R' w'):∀{x:List TV}{b o:Nat},oq R w x b o->oq R' w' x b o
 |_,_,_,.nil b o=>.nil b o
 |_,_,_,.cons r c a h t=>.cons (k _ _ r).1 ((k _ _ r).2.trans c) a (Rep.mono k h) (oq.mono k t)
theorem oh.mono(k:eH R w R' w'):∀{s:Nat}{x:TV}{b o:Nat},oh R w s x b o->oh R' w' s x b o
 |_,_,_,_,.ag e h=>.ag e (oq.mono k h)
 |_,_,_,_,.one n r c a h=>.one n (k _ _ r).1 ((k _ _ r).2.trans c) a (Rep.mono k h)
theorem mh.mono(k:eH R w R' w'):∀{s:Nat}{x:List TV}{b o:Nat},mh R w s x b o->mh R' w' s x b o
 |_,_,_,_,.nil s b o=>.nil s b o
 |_,_,_,_,.cons h t=>.cons (oh.mono k h) (mh.mono k t)
end
end
section
variable{R:Reach}{w:World}
theorem dn.length:∀{xs:List TV}{ys:List Value},dn R w xs ys->xs.length=ys.length
 |_,_,.nil=>rfl
 |_,_,.cons _ _ t=>by simp[dn.length t]
theorem hO.length:∀{xs:List TV}{ys:List Value},hO R w xs ys->xs.length=ys.length
 |_,_,.nil=>rfl
 |_,_,.cons _ t=>by simp[hO.length t]
theorem dn.get:∀{xs:List TV}{ys:List Value}(_:dn R w xs ys)(i:Nat)(x:TV),xs[i]?=Bm x->∃y,ys[i]?=Bm y/\y.oneCell'=Qf/\Rep R w x y
 |_,_,.cons a h _,0,x,e=>by simp at e;subst e;exact⟨_,rfl,a,h⟩
 |_,_,.cons _ _ t,i+1,x,e=>by simpa using dn.get t i x (by simpa using e)
theorem hO.get:∀{xs:List TV}{ys:List Value}(_:hO R w xs ys)(i:Nat)(x:TV),xs[i]?=Bm x->∃y,ys[i]?=Bm y/\Rep R w x y
 |_,_,.cons h _,0,x,e=>by simp at e;subst e;exact⟨_,rfl,h⟩
 |_,_,.cons _ t,i+1,x,e=>by simpa using hO.get t i x (by simpa using e)
theorem dn.one:∀{xs:List TV}{ys:List Value},dn R w xs ys->∀y∈ys,y.oneCell'=Qf
 |_,_,.cons a _ t,y,hy=>by rcases aS.1 hy with rfl|h;{exact a};{exact dn.one t y h}
theorem dn.append:∀{xs:List TV}{ys:List Value}{NB:List TV}{Bo:List Value},dn R w xs ys->dn R w NB Bo->dn R w (xs++NB) (ys++Bo)
 |_,_,_,_,.nil,h=>h
 |_,_,_,_,.cons a h t,k=>.cons a h (dn.append t k)
theorem dn.take:∀{xs:List TV}{ys:List Value}(n:Nat),dn R w xs ys->dn R w (xs.take n) (ys.take n)
 |_,_,0,_=>by simp;exact .nil
 |_,_,n+1,.nil=>by simp;exact .nil
 |_,_,n+1,.cons a h t=>by simp;exact .cons a h (dn.take n t)
theorem dn.drop:∀{xs:List TV}{ys:List Value}(n:Nat),dn R w xs ys->dn R w (xs.drop n) (ys.drop n)
 |_,_,0,h=>by simpa using h
 |_,_,n+1,.nil=>by simp;exact .nil
 |_,_,n+1,.cons a h t=>by simp;exact dn.drop n t
theorem oq.read:∀{xs:List TV}{b o:Nat},oq R w xs b o->∃ys,dn R w xs ys/\∀j y,ys[j]?=Bm y->w.cell? ⟨b,o+j,Kk⟩=Bm y
 |_,_,_,.nil _ _=>⟨[],.nil,by simp⟩
 |_,b,o,.cons (y:=y) r c a h t=>by
  obtain⟨ys,hl,hc⟩:=oq.read t;refine⟨y::ys,.cons a h hl,λj z hz=>?_⟩;cases j with
  |zero=>simp at hz;subst hz;exact c
  |succ j=>have:=hc j z (by simpa using hz);rw[show o+(j+1)=o+1+j by omega];exact this
theorem oq.write:∀{xs:List TV} {ys:List Value} {b o:Nat},dn R w xs ys→(∀j,j<ys.length→R b (o+j))→(∀j y,ys[j]?=Bm y→w.cell? ⟨b,o+j,Kk⟩=Bm y)→oq R w xs b o
 | _,_,b,o,.nil,_,_ => .nil b o
 | _,_,b,o,.cons a h t,hr,hc => .cons (hr 0 (by simp)) (hc 0 _ rfl) a h
   (oq.write t (fun j hj=>by have:=hr (j+1) (by simp;omega);rwa [show o+(j+1)=o+1+j by omega] at this)
    (fun j y hy=>by have:=hc (j+1) y (by simpa using hy);rwa [show o+(j+1)=o+1+j by omega] at this))
theorem oq.drop:∀{xs:List TV}{b o:Nat}(n:Nat),oq R w xs b o->oq R w (xs.drop n) b (o+n)
 |_,b,o,0,h=>by simpa using h
 |_,b,o,n+1,.nil _ _=>by simp;exact .nil _ _
 |_,b,o,n+1,.cons r c a h t=>by simp;have:=oq.drop n t;rwa[show o+1+n=o+(n+1) by omega]at this
theorem oq.take:∀{xs:List TV}{b o:Nat}(n:Nat),oq R w xs b o->oq R w (xs.take n) b o
 |_,b,o,0,h=>by simp;exact .nil _ _
 |_,b,o,n+1,.nil _ _=>by simp;exact .nil _ _
 |_,b,o,n+1,.cons r c a h t=>by simp;exact .cons r c a h (oq.take n t)
theorem mh.get:∀{s:Nat}{es:List TV}{b o:Nat}(_:mh R w s es b o)(i:Nat)(x:TV),es[i]?=Bm x->oh R w s x b (o+i*s)
 |s,_,b,o,.cons h _,0,x,e=>by simp at e;subst e;simpa using h
 |s,_,b,o,.cons _ t,i+1,x,e=>by have:=mh.get t i x (by simpa using e);rwa[show o+s+i*s=o+(i+1)*s by rw[Nat.succ_mul];omega]at this
theorem mh.drop:∀{s:Nat}{es:List TV}{b o:Nat}(n:Nat),mh R w s es b o->mh R w s (es.drop n) b (o+n*s)
 |s,_,b,o,0,h=>by simpa using h
 |s,_,b,o,n+1,.nil _ _ _=>by simp;exact .nil _ _ _
 |s,_,b,o,n+1,.cons h t=>by simp;have:=mh.drop n t;rwa[show o+s+n*s=o+(n+1)*s by rw[Nat.succ_mul];omega]at this
theorem mh.take:∀{s:Nat}{es:List TV}{b o:Nat}(n:Nat),mh R w s es b o->mh R w s (es.take n) b o
 |s,_,b,o,0,h=>by simp;exact .nil _ _ _
 |s,_,b,o,n+1,.nil _ _ _=>by simp;exact .nil _ _ _
 |s,_,b,o,n+1,.cons h t=>by simp;exact .cons h (mh.take n t)
theorem oh.read{s:Nat}{x:TV}{b o:Nat}(h:oh R w s x b o):∃ys:List Value,ys.length=s/\(∀j y,ys[j]?=Bm y->w.cell? ⟨b,o+j,Kk⟩=Bm y)/\dn R w x.cells ys:=by
 cases h with
 |ag e h=>obtain⟨ys,hl,hc⟩:=h.read;exact⟨ys,by rw[e,hl.length],hc,hl⟩
 |one n r c a h=>
  rename_i y;refine⟨[y],rfl,?_,?_⟩
  ·intro j z hz;cases j with
   |zero=>simp at hz;subst hz;exact c
   |succ j=>simp at hz
  {cases x<;>simp[TV.cells,TV.wV]at n⊢<;>exact .cons a h .nil}
theorem oh.write{s:Nat}{x:TV}{ys:List Value}{b o:Nat}(hs:x.cells.length=s)(h:dn R w x.cells ys)(hr:∀j,j<s->R b (o+j))(hc:∀j y,ys[j]?=Bm y->w.cell? ⟨b,o+j,Kk⟩=Bm y):oh R w s x b o:=by
 have hl:=h.length;cases x with
 |ag cs=>exact .ag hs.symm (oq.write h (λj hj=>hr j (by omega)) hc)
 |_=>
  simp only[TV.cells,aw]at hs h hl;subst hs;cases h with
  |cons a h t=>exact .one rfl (hr 0 (by omega)) (hc 0 _ rfl) a h
theorem mh.cells:∀{s:Nat}{es:List TV}{b o:Nat},mh R w s es b o->∃ys:List Value,ys.length=es.length*s/\(∀j y,ys[j]?=Bm y->w.cell? ⟨b,o+j,Kk⟩=Bm y)/\dn R w (es.flatMap TV.cells) ys/\∀e∈es,e.cells.length=s
 |s,_,b,o,.nil _ _ _=>⟨[],by simp,by simp,.nil,by simp⟩
 |s,_,b,o,.cons (x:=x) (xs:=xs) h t=>by obtain⟨ys,hl,hc,hr⟩:=h.read;obtain⟨zs,kl,kc,kr,ke⟩:=mh.cells t;have hx:x.cells.length=s:=by{rw[hr.length,hl]};refine⟨ys++zs,by simp[hl,kl,Nat.succ_mul];omega,?_,?_,?_⟩;{intro j y hy;by_cases hj:j<ys.length;{exact hc j y (by rwa[List.getElem?_append_left hj]at hy)};{rw[aW (by omega)]at hy;have:=kc _ y hy;rwa[show o+s+(j -ys.length)=o+j by omega]at this}};{simpa using hr.append kr};{intro e he;rcases aS.1 he with rfl|h';{exact hx};{exact ke e h'}}
theorem mh.write:∀{s:Nat}{es:List TV}{ys:List Value}{b o:Nat},(∀e∈es,e.cells.length=s)->dn R w (es.flatMap TV.cells) ys->(∀j,j<es.length*s->R b (o+j))->
  (∀j y,ys[j]?=Bm y->w.cell? ⟨b,o+j,Kk⟩=Bm y)->mh R w s es b o
 |s,[],ys,b,o,_,_,_,_=>.nil _ _ _
 |s,e::es,ys,b,o,he,h,hr,hc=>by
  have hs:=he e (by simp);have hl:=h.length;simp only[List.flatMap_cons,af]at hl;have h1:dn R w e.cells (ys.take s):=by{simpa[hs]using h.take s};have h2:dn R w (es.flatMap TV.cells) (ys.drop s):=by{have:=h.drop s;simpa[List.drop_append,hs,aD]using this};refine .cons (.write hs h1 (λj hj=>hr j (by simp[Nat.succ_mul];omega)) (λj y hy=>hc j y ?_))
   (mh.write (λe' h'=>he e' (by simp[h'])) h2 (λj hj=>?_) (λj y hy=>?_))
  {rw[bg]at hy;split at hy;{exact hy};{cases hy}};{have:=hr (s+j) (by simp[Nat.succ_mul];omega);rwa[<-Nat.add_assoc]at this};{have:=hc (s+j) y (by simpa using hy);rwa[<-Nat.add_assoc]at this}
end
theorem eu.nv(t:eu)(x:t.El):(t.tv x).cells.length=t.size:=by cases t<;>rfl
def eu.Kt(t:eu)(x:t.El):(t.tv x).plain=Qf:=by cases t<;>rfl
end Go.Eng
namespace Go.Eng
abbrev GL:=List (Nat×Gh)
inductive Hint where
 |o|s (a b:Hint)|j (G:GL) (a b:Hint)|c (a b:Hint)|b (a:Hint)|l (G:GL) (a:Hint)|sc (ls:List (Nat×GL)) (a:Hint)
def Hint.s1:Hint->Hint|.s a _=>a|.j _ a _=>a|.c a _=>a|.b a=>a|.l _ a=>a|.sc _ a=>a|.o=>.o
def Hint.s2:Hint->Hint|.s _ a=>a|.j _ _ a=>a|.c _ a=>a|_=>.o
def cH(S:St)(d:Nat)(x:Cell):St:=λk=>cond (Nat.beq k d) x (S k)
def eY(S:St):List (Nat×Cell)->St
 |[]=>S
 |(k,x)::r=>cH (eY S r) k x
def mg(nt:Nat)(ts:List Nat)(S:St):St:=λk=>cond (Nat.blt k nt&&ts.contains k) ((S k).1.bare,(S k).2) (S k)
def Cf(x:TV)(b:Bool):Option Bool:=
 match x with
 |.b x=>Bm (cond b x (!x))
 |.gd q (.b x)=>Bm (q&&cond b x (!x))
 |_=>Kk
def wZ:List TV->Option Bool
 |[]=>Kk
 |x::r=>match x.M1,wZ r with|none,q=>q|some p,Kk=>Bm p|some p,Bm q=>Bm (p&&q)
def Qj(op:Op):List Nat:=op.operands.toList.filterMap λx=>match x with|.tmp t=>Bm t|_=>Kk
def TV.LQ:TV->Bool
 |.gd _ _=>Qf
 |_=>Qg
def okM(nt:Nat)(V:St)(k:Nat):Bool:=Nat.ble nt k&&match(V k).2 with|.no=>Qg|.hid=>Qg|_=>Qf
def Gh.slot:Gh->Bool
 |.no|.ptr _ _|.dB _|.pe _|.J5 _|.ow _=>Qf
 |_=>Qg
def Gh.cQ:Gh->List Nat
 |.ptr m _=>[m]
 |.dB k=>[k]
 |.pe k=>[k]
 |.J5 l=>l.map (·.2)
 |.ow l=>l.map (·.2)
 |.cl ts=>ts.map (·.2)
 |.pw d=>[d]
 |.pc r=>[r]
 |_=>[]
def Kq(nt:Nat)(V:St)(c:Bool)(q:Option Bool)(e:gT):Option gT:=
 dK (e.ws.isEmpty&&(e.x.2.slot&&!e.x.1.LQ)&&e.x.2.cQ.all (okM nt V)) (Bm ⟨match e.p,q with
  |none,Kk=>Kk
  |none,Bm q=>Bm (!c||q)
  |some p,Kk=>Bm (!c||p)
  |some p,Bm q=>Bm (!c||(q&&p)),(.gd c e.x.1,e.x.2),[]⟩)
def Ml(nt:Nat)(c:Bool)(q:Option Bool)(e:gT):Option gT:=
 dK (e.ws.all λp=>Nat.ble nt p.1) (Bm ⟨Bm (match e.p,q with
  |none,Kk=>c
  |none,Bm q=>c&&q
  |some p,Kk=>c&&p
  |some p,Bm q=>c&&(q&&p)),e.x,e.ws⟩)
def wO(nt:Nat)(o:Oper):Bool:=
 match o.op,o.dst with
 |.store _ _ _,Kk=>Qf
 |.store _ _ _,Bm _=>Qg
 |.call {callee:=.value _,args:=_,argTypes:=_},Kk=>Qf
 |_,Bm d=>Nat.blt d nt
 |_,Kk=>Qg
def watch(op:Op):List Nat:=
 match op with
 |.pick _ _ _=>(Qj op).take 1
 |_=>Qj op
section
variable(P:Program)(E:cz)(nt:Nat)
def zO(d:Option Nat)(j:Nat):Nat:=(j+1)*nt+d.getD 0
def po(ops:Array Oper)(o:Oper)(V:St):Option gT:=
 dK (wO nt o) (match o.guard with
 |none=>Dd P E nt (zO nt o.dst) V o.type o.op
 |some (j,b)=>match(ops[j]?).bind (·.dst)with
  |some t=>match V t with
   |(x,.no)=>match Cf x b,Dd P E nt (zO nt o.dst) (mg nt (watch o.op) V) o.type o.op with
    |some c,Bm e=>dK (Nat.blt t nt&&(o.dst.isSome&&(watch o.op).all λt=>!(V t).1.bare.LQ)) (cond (E.ld.contains (zO nt o.dst 1)&&!e.ws.isEmpty) (Ml nt c (wZ ((watch o.op).map λt=>(V t).1)) e) (Kq nt V c (wZ ((watch o.op).map λt=>(V t).1)) e))
    |_,_=>Kk
   |_=>Kk
  |none=>Kk)
def iU(S:St)(d:Option Nat)(e:gT):St:=
 match d with
 |some d=>cH (eY S e.ws) d e.x
 |none=>eY S e.ws
variable{R:Type}
abbrev NR(p:Option Bool)(x:Option R):Option R:=match p with|none=>x|some p=>ck p x
def vu(ops:Array Oper)(o:Oper)(V:St):Option Bool:=cond (E.ld.contains (zO nt o.dst 2)) (match o.guard with
 |some (j,b)=>match(ops[j]?).bind (·.dst)with
  |some t=>match V t with|(x,.no)=>dK (Nat.blt t nt) (Cf x b)|_=>Kk
  |none=>Kk
 |none=>Kk) Kk
def UM(k:Nat):List (Nat×Cell)->TV
 |[]=>.pt
 |(j,c)::r=>cond (Nat.beq j k) c.1 (UM k r)
def gdX(e:gT):TV:=match e.x with|(.pt,.dB k)=>UM k e.ws|(x,_)=>x
abbrev CZ(c:Option Bool)(d:Option Nat)(e:gT)(S:St)(F:St->Option R):Option R:=
 match c with
 |none=>NR e.p (F (iU S d e))
 |some c=>cond e.ws.isEmpty (NR e.p (F (iU S d e))) (cond c (NR e.p (F (iU S d e))) (match d with|some d=>F (cH S d (.gd Qg (gdX e),.no))|none=>Kk))
abbrev FP (ops:Array Oper) (l:List Oper) (S:St) (K:St→Option R):Option R :=
 List.rec (motive:=fun _=>St→(St→Option R)→Option R) (fun S K=>K S)
  (fun o _ ih S K=>match po P E nt ops o S with
   | some e=>CZ (vu E nt ops o S) o.dst e S fun S=>ih S K
   | none=>Kk) l S K
theorem ID(ops:Array Oper)(o:Oper)(r:List Oper)(S:St)(K:St->Option R):FP P E nt ops (o::r) S K=match po P E nt ops o S with
 |some e=>CZ (vu E nt ops o S) o.dst e S λS=>FP P E nt ops r S K
 |none=>Kk:=rfl
def mO(d:Option Nat)(e:gT):List Nat:=d.toList++e.ws.map (·.1)
def tm(ds:List Nat)(S:St):St:=λk=>cond (ds.contains k) (.dead,.hid) (S k)
def wu(o:Oper):List Nat:=(o.after.toList.filter (Region.binds .any)).map (·.on)
def pK(ops:List Oper):List (List Nat):=ops.foldl (λacc o=>acc++[(wu o).flatMap λe=>e::(acc.getD e [])]) []
def xx(ops:List Oper):Bool:=ops.zipIdx.all λ(o,i)=>(wu o).all λe=>nP (e<i)
def LJ(ops:Array Oper):List Oper->St->Option (List (List Nat))
 |[],_=>Bm []
 |o::r,S=>match po P E nt ops o S with
  |some e=>match LJ ops r (iU S o.dst e)with|some l=>Bm (mO o.dst e::l)|none=>Kk
  |none=>Kk
def vH(W B:List (List Nat))(i:Nat):List Nat:=(W.zipIdx.filter λ(_,j)=>!(Nat.beq j i)&&!((B.getD i []).contains j)&&!((B.getD j []).contains i)).flatMap (·.1)
abbrev IG (ops:Array Oper) (W B:List (List Nat)) (i:Nat) (l:List Oper) (S:St) (K:St→Option R):Option R :=
 List.rec (motive:=fun _=>Nat→St→(St→Option R)→Option R) (fun _ S K=>K S)
  (fun o _ ih i S K=>match po P E nt ops o (tm (vH W B i) S) with
   | some e=>dK (nP (mO o.dst e=W.getD i [])&&(vH W B i).all fun k=>!((W.getD i []).contains k)) (NR e.p (ih (i+1) (iU S o.dst e) K))
   | none=>Kk) l i S K
theorem IF(ops:Array Oper)(W B:List (List Nat))(i:Nat)(o:Oper)(r:List Oper)(S:St)(K:St->Option R):IG P E nt ops W B i (o::r) S K=match po P E nt ops o (tm (vH W B i) S)with
 |some e=>dK (nP (mO o.dst e=W.getD i [])&&(vH W B i).all λk=>!((W.getD i []).contains k)) (NR e.p (IG P E nt ops W B (i+1) r (iU S o.dst e) K))
 |none=>Kk:=rfl
abbrev BD(ops:Array Oper)(draw:Bool)(S:St)(K:St->Option R):Option R:=
 match draw with
 |false=>FP P E nt ops ops.toList S K
 |true=>dK (xx ops.toList) (match LJ P E nt ops ops.toList S with
  |some W=>IG P E nt ops W (pK ops.toList) 0 ops.toList S K
  |none=>Kk)
inductive MX where
 |normal
 |exit (id:Nat)
 |goto (l:Nat)
 |ret
abbrev fH(R:Type):=MX->St->Option R
def rJ(S:St):GL->List (Nat×Option Nat)
 |[]=>[]
 |(k,.dB i)::r=>(match S k with|(_,.dB j)=>[(i,Bm j)]|(.nl _,.no)=>[(i,Kk)]|_=>[])++rJ S r
 |(m,.cl ts)::r=>(match S m with
  |(.ag cs,.cl us)=>ts.filterMap λt=>match nL t.1 us,cs[t.1]? with|some j,_=>Bm (t.2,Bm j)|none,Bm (.nl _)=>Bm (t.2,Kk)|_,_=>Kk
  |_=>[])++rJ S r
 |_::r=>rJ S r
def rU(k:Nat):List (Nat×Option Nat)->Option (Option Nat)
 |[]=>Kk
 |(i,j)::r=>cond (Nat.beq i k) (Bm j) (rU k r)
def Au(S:St)(i:Nat):GL->Option eu
 |[]=>Kk
 |(k,.dB i')::r=>match Nat.beq i' i,S k with|true,(.nl t,_)=>Bm t|_,_=>Au S i r
 |(m,.cl ts)::r=>match S m,ts.find? (λt=>Nat.beq t.2 i)with
  |(.ag cs,_),Bm t=>match cs[t.1]? with|some (.nl t)=>Bm t|_=>Au S i r
  |_,_=>Au S i r
 |_::r=>Au S i r
def Ao(ts:List (Nat×Nat))(cs:List TV):List TV:=ts.foldl (λcs t=>cs.set t.1 .pt) cs
def lh(ρ:List (Nat×Option Nat))(k:Nat):Option Nat:=(rU k ρ).getD (Bm k)
def Vq:Option TV->Bool
 |some (.nl _)=>Qf
 |_=>Qg
def C3(S:St)(G:GL)(ρ:List (Nat×Option Nat))(p:Nat×Gh):Option (TV×List (Nat×Cell)):=
 match p.2 with
 |.no=>dK (Nat.blt p.1 nt) (Cl S (S p.1))
 |.dB _=>dK (Nat.blt p.1 nt) (match S p.1 with
  |(.pt,.dB _)=>Bm (.pt,[])
  |(.nl _,.no)=>Bm (.pt,[])
  |_=>Kk)
 |.ptr m o=>dK (Nat.blt p.1 nt) (match S p.1 with
  |(.pt,.ptr m' o')=>dK (Nat.beq m' m&&Nat.beq o' o) (Bm (.pt,[]))
  |_=>Kk)
 |.cl ts=>dK (Nat.ble nt p.1) (match S p.1 with
  |(.ag cs,.cl us)=>dK (ts.all λt=>(nL t.1 us).isSome||Vq cs[t.1]?) (match pH S 0 cs.length (us.filter λu=>(nL u.1 ts).isNone) cs with
   |some (cs,ws)=>Bm (.ag (Ao ts (cs.map nrm)),ws)
   |none=>Kk)
  |_=>Kk)
 |.pv=>dK (Nat.ble nt p.1) (match lh ρ p.1 with
  |some j=>match S j with|(y,.pv)=>Bm (y,[])|_=>Kk
  |none=>(Au S p.1 G).map λt=>(.sl t [],[]))
 |.lv=>dK (Nat.ble nt p.1) (match lh ρ p.1 with
  |some j=>match S j with|(y,.pv)=>Bm (y,[(j,(y,.lv))])|(y,.lv)=>Bm (y,[])|_=>Kk
  |none=>(Au S p.1 G).map λt=>(.sl t [],[]))
 |_=>Kk
def wz(S:St)(G:GL)(ρ:List (Nat×Option Nat)):GL->Option (List TV×List (Nat×Cell))
 |[]=>Bm ([],[])
 |p::r=>match C3 nt S G ρ p with
  |some (x,ws)=>match wz S G ρ r with|some (xs,us)=>Bm (x::xs,ws++us)|none=>Kk
  |none=>Kk
def Gh.own:Gh->Bool
 |.cl _|.pv|.lv|.pw _|.pc _=>Qf
 |_=>Qg
def o8:List Nat->Bool
 |[]=>Qf
 |k::r=>(r.all λj=>!Nat.beq j k)&&o8 r
def WV(G:GL)(ρ:List (Nat×Option Nat))(ws:List (Nat×Cell)):Bool:=
 o8 (G.map (·.1))&&(ρ.all λp=>nP (rU p.1 ρ=Bm p.2)&&(Nat.blt p.1 1000000||nP (p.2=Bm p.1))&&Nat.ble nt p.1)&&
 o8 (G.filterMap λp=>cond p.2.own (lh ρ p.1) Kk)&&(G.all λp=>p.2.cQ.all λi=>G.any λq=>Nat.beq q.1 i&&q.2.own)&&
 G.all λp=>match p.2 with
  |.cl _=>(rU p.1 ρ).isNone
  |.ptr m _=>(rU m ρ).isNone
  |.pv=>match lh ρ p.1 with
   |some j=>ws.all λq=>!Nat.beq q.1 j
   |none=>Qf
  |_=>Qf
def fE:GL->List TV->St
 |(k,g)::G,x::xs=>λj=>cond (Nat.beq j k) (x,g) (fE G xs j)
 |_,_=>λ_=>(.dead,.no)
def Dv:List Nat->St->St
 |[],S=>S
 |k::r,S=>match S k with|(x,.pw d)=>Dv r (cH (cH S k (x,.pv)) d (.dead,.zz))|_=>Dv r S
def Y4(G:GL)(ρ:List (Nat×Option Nat)):List Nat:=G.filterMap λp=>match p.2 with|.pv=>lh ρ p.1|_=>Kk
def vB(G:GL)(S:St):OT:=
 match wz nt S G (rJ S G) G with
 |some (xs,ws)=>dK (WV nt G (rJ S G) ws) (Bm xs)
 |none=>Kk
def j0(G:GL)(S:St):OT:=vB nt G (Dv (Y4 G (rJ S G)) S)
abbrev IB(f:St->fH R->Option R)(K:fH R):fH R:=λe S=>
 match e with
 |.normal=>f S K
 |e=>K e S
abbrev wI(f:St->fH R->Option R)(G:GL)(K:fH R):fH R:=λe S=>
 match e with
 |.normal=>match j0 nt G S with|some xs=>f (fE G xs) K|none=>Kk
 |e=>K e S
abbrev nW(id:Nat)(K:fH R):fH R:=λe S=>
 match e with
 |.exit j=>match Nat.beq j id with|true=>K .normal S|false=>K (.exit j) S
 |e=>K e S
def oX{ι:Type}(f:ι->fH R->Option R)(tr:MX->St->Option (Option ι)):Nat->ι->fH R->Option R
 |0,_,_=>Kk
 |n+1,i,K=>f i λe S=>
  match tr e S with
  |none=>K e S
  |some Kk=>Kk
  |some (Bm j)=>oX f tr n j K
open Classical in
def Ze(g:Nat->Option R):Option R:=if h:∃n r,g n=Bm r then g h.choose else Kk
def Jz{ι:Type}(f:ι->fH R->Option R)(tr:MX->St->Option (Option ι))(i:ι)(K:fH R):Option R:=Ze λn=>oX f tr n i K
abbrev yW{ι:Type}(f:ι->fH R->Option R)(tr:MX->St->Option (Option ι))(K:fH R):fH R:=λe S=>
 match tr e S with
 |none=>K e S
 |some Kk=>Kk
 |some (Bm j)=>Jz f tr j K
def Rz(G:GL):MX->St->Option (OT)
 |.normal,S=>Bm (j0 nt G S)
 |_,_=>Kk
def TU(f:St->fH R->Option R)(G:GL)(xs:List TV):fH R->Option R:=f (fE G xs)
def Hv(f:St->fH R->Option R)(G:GL)(xs:List TV)(K:fH R):Option R:=Jz (TU f G) (Rz nt G) xs K
abbrev yr(f:St->fH R->Option R)(G:GL)(S:St)(K:fH R):Option R:=
 match j0 nt G S with
 |some xs=>Hv nt f G xs K
 |none=>Kk
abbrev zw(f:St->fH R->Option R)(G:GL)(K:fH R):fH R:=yW (TU f G) (Rz nt G) K
abbrev Ev(R:Type):=Hint->St->fH R->Option R
def yt(l:Nat):List (Nat×GL)->Option GL
 |[]=>Kk
 |(k,G)::r=>cond (Nat.beq k l) (Bm G) (yt l r)
def Ip(ls:List (Nat×GL)):MX->St->Option (Option (Nat×List TV))
 |.goto l,S=>Bm (match yt l ls with
  |some G=>(j0 nt G S).map λxs=>(l,xs)
  |none=>Kk)
 |_,_=>Kk
def J0(f:Nat->Option (Ev R))(ls:List (Nat×GL))(a:Hint)(i:Nat×List TV)(K:fH R):Option R:=
 match f i.1,yt i.1 ls with
 |some g,Bm G=>g a (fE G i.2) K
 |_,_=>Kk
def FJ(f:Nat->Option (Ev R))(ls:List (Nat×GL))(a:Hint)(i:Nat×List TV)(K:fH R):Option R:=Jz (J0 f ls a) (Ip nt ls) i K
abbrev nk(f:Nat->Option (Ev R))(ls:List (Nat×GL))(a:Hint)(K:fH R):fH R:=yW (J0 f ls a) (Ip nt ls) K
abbrev zX(R:Type):=Ev R×(Nat->Option (Ev R))
abbrev fI(f:Ev R):zX R:=(f,λ_=>Kk)
abbrev KV(g b o:Ev R):Ev R:=λh S K=>match h with|.j G a c=>g a S (wI nt (o c) G K)|h=>g h.s1 S (IB (b h.s2) K)
abbrev zL(fa fb:Nat->Option (Ev R))(b o:Ev R)(l:Nat):Option (Ev R):=match fa l with
 |some g=>Bm (KV nt g b o)
 |none=>match fb l with
  |some g=>Bm λh=>g h.s2
  |none=>Kk
abbrev KU(fa fb:zX R)(o:Ev R):zX R:=(KV nt fa.1 fb.1 o,zL nt fa.2 fb.2 fb.1 o)
open Classical in
def both(x y:Option R):Option R:=if x=y then x else Kk
abbrev H7(x:Operand)(fa fb:zX R):zX R:=fI λh S K=>match gU E nt S 0 x with|some (.b t,.no)=>cond t (fa.1 h.s1 S K) (fb.1 h.s2 S K)|some (.ub e,.no)=>cond e (both (fa.1 h.s1 S K) (fb.1 h.s2 S K)) (fb.1 h.s2 S K)|_=>Kk
abbrev Qw(o:Ev R):zX R:=fI λh S K=>match h with|.l G a=>yr nt (o a) G S K|_=>Kk
abbrev BB(f:zX R)(o:Nat->Option (Ev R)):zX R:=fI λh S K=>match h with|.sc ls a=>f.1 a S (nk nt o ls a K)|_=>Kk
abbrev pR(l l':Nat):Option (Ev R):=cond (Nat.beq l l') (Bm λ_ S K=>K .normal S) Kk
abbrev Gb(l:Nat):zX R:=(λ_ S K=>K .normal S,pR l)
def Ki(c:Code):zX R:=Code.rec (motive:=λ_=>zX R) (fI λ_ S K=>K .normal S) (λ_ ops draw=>fI λ_ S K=>BD P E nt ops draw S (K .normal)) (λ_ _ fa fb=>KU nt fa fb fb.1) (λx _ _ fa fb=>H7 E nt x fa fb) (λid _ f=>fI λh S K=>f.1 h.s1 S (nW id K)) (λ_ f=>Qw nt f.1) (λ_ _ _ _ _ _=>fI λ_ _ _=>Kk) (λid=>fI λ_ S K=>K (.exit id) S) (λ_ f=>BB nt f f.2) Gb (λl=>fI λ_ S K=>K (.goto l) S) (fI λ_ S K=>K .ret S) (λ_=>fI λ_ _ _=>Kk) c
def o0(c:Code):Ev R:=(Ki P E nt c).1
def wY(c:Code):Nat->Option (Ev R):=(Ki P E nt c).2
def My(c:Code):zX R:=Code.rec (motive:=λ_=>zX R) (fI λ_ S K=>K .normal S) (λ_ ops draw=>fI λ_ S K=>BD P E nt ops draw S (K .normal)) (λ_ d fa fb=>KU nt fa fb (o0 P E nt d)) (λx _ _ fa fb=>H7 E nt x fa fb) (λid _ f=>fI λh S K=>f.1 h.s1 S (nW id K)) (λd _=>Qw nt (o0 P E nt d)) (λ_ _ _ _ _ _=>fI λ_ _ _=>Kk) (λid=>fI λ_ S K=>K (.exit id) S) (λd f=>BB nt f (wY P E nt d)) Gb (λl=>fI λ_ S K=>K (.goto l) S) (fI λ_ S K=>K .ret S) (λ_=>fI λ_ _ _=>Kk) c
def ev(c:Code):Ev R:=(My P E nt c).1
def LR (n:Nat) (ms:List Md) (pV:List TV):St:=fun k =>
 cond (Nat.blt k n) (match ms.getD k .pl with
  | .pl=>(pV.getD k .dead,.no)
  | .rf=>(.pt,.ptr (1000000+k) 0)
  | _=>(.pt,.dB (1000000+k)))
 (cond (Nat.ble 1000000 k&&Nat.blt k (1000000+n)) (match ms.getD (k - 1000000) .pl with
  | .pl=>(.dead,.no)
  | .rf=>(pV.getD (k - 1000000) .dead,.cl [])
  | _=>(pV.getD (k - 1000000) .dead,.pv)) (.dead,.no))
def J6(n i c:Nat)(e:Bool)(pV:List TV):St:=λk=>cond (Nat.blt k n) (cond (Nat.beq k i) (.pt,.ptr 1000000 0) (pV.getD k .dead,.no)) (cond (Nat.beq k 1000000) (pV.getD i .dead,.cl (cond e [(c,1000001)] [])) (cond (e&&Nat.beq k 1000001) (pV.getD n .dead,.pv) (.dead,.no)))
def Uj(n:Nat)(sg:fU)(pV:List TV):St:=match sg.kd with|.pl=>LR n sg.md pV|.wr i c e=>J6 n i c e pV|.nw _=>LR n [] pV
def so(own:List Nat):Nat->List ResultVar->St->Option (List TV×St)
 |_,[],S=>Bm ([],S)
 |i,.tmp _::rs,S=>match so own (i+1) rs S with|some (xs,S)=>Bm (.dead::xs,S)|none=>Kk
 |i,.cell a t::rs,S=>dK (Nat.blt a nt&&!own.contains i) (match S a,ky P t with
  |(.pt,.ptr m o),Bm (n,agg)=>dK (agg||Nat.beq n 1) (match S m with
   |(.ag cs,.cl ts)=>match pH S o n ts cs with
    |some (cs,ws)=>match py cs o n agg with
     |some x=>match so own (i+1) rs (eY S ws)with|some (xs,S)=>Bm (Vk x::xs,S)|none=>Kk
     |none=>Kk
    |none=>Kk
   |_=>Kk)
  |_,_=>Kk)
def pZ(own:List Nat):Nat->List ResultVar->GL
 |_,[]=>[]
 |i,.tmp t::rs=>cond (own.contains i) [(t,.dB (900000+i)),(900000+i,.pv)] [(t,.no)]++pZ own (i+1) rs
 |i,.cell _ _::rs=>pZ own (i+1) rs
def re:Nat->List Md->GL
 |_,[]=>[]
 |k,.rf::ms=>(1000000+k,.cl [])::re (k+1) ms
 |k,.sl::ms=>(1000000+k,.pv)::re (k+1) ms
 |k,.sm::ms=>(1000000+k,.pv)::re (k+1) ms
 |k,_::ms=>re (k+1) ms
def qC(own:List Nat)(H:St):Nat->List ResultVar->List TV->List TV
 |i,.tmp t::rs,_::xs=>cond (own.contains i) (H (900000+i)).1 (H t).1::qC own H (i+1) rs xs
 |i,.cell _ _::rs,x::xs=>x::qC own H (i+1) rs xs
 |_,_,_=>[]
def vc(H:St):Nat->List Md->List TV
 |_,[]=>[]
 |k,.rf::ms=>(H (1000000+k)).1::vc H (k+1) ms
 |k,.sl::ms=>(H (1000000+k)).1::vc H (k+1) ms
 |k,_::ms=>vc H (k+1) ms
def rV(H:St):Nat->List Md->List TV
 |_,[]=>[]
 |k,.sm::ms=>(H (1000000+k)).1::rV H (k+1) ms
 |k,_::ms=>rV H (k+1) ms
def MC(fn:Func)(sg:fU):GL:=pZ sg.own 0 fn.results.toList++re 0 sg.md
def IQ(fn:Func)(sg:fU):Option ((Nat×TypeId)×Nat):=
 match fn.results.toList,sg.own with
 |[.cell a t],[j]=>cond (Nat.blt j 1000) Kk (Bm ((a,t),j -1000))
 |_,_=>Kk
def JG(a m c:Nat)(sg:fU):GL:=(a,.ptr m 0)::(m,.cl [(c,900000)])::(900000,.pv)::re 0 sg.md
def Wb(a:Nat)(t:TypeId)(c:Nat)(sg:fU)(S:St):OT:=
 match S a,ky P t with
 |(.pt,.ptr m 0),Bm (n,Qf)=>match j0 nt (JG a m c sg) S with
  |some ys=>match fE (JG a m c sg) ys m with|(.ag cs,_)=>dK (Nat.beq n cs.length&&Nat.blt a nt) (Bm (.ag (cs.set c (fE (JG a m c sg) ys 900000).1)::(vc (fE (JG a m c sg) ys) 0 sg.md++rV (fE (JG a m c sg) ys) 0 sg.md)))|_=>Kk
  |none=>Kk
 |_,_=>Kk
def JF(fn:Func)(sg:fU)(S:St):OT:=
 match IQ fn sg with
 |some ((a,t),c)=>Wb P nt a t c sg S
 |none=>match so P nt sg.own 0 fn.results.toList S with
  |some (xs,S)=>match j0 nt (MC fn sg) S with|some ys=>Bm (qC sg.own (fE (MC fn sg) ys) 0 fn.results.toList xs++vc (fE (MC fn sg) ys) 0 sg.md++rV (fE (MC fn sg) ys) 0 sg.md)|none=>Kk
  |none=>Kk
def Tk(fn:Func)(c:Nat)(S:St):OT:=
 match so P nt [] 0 fn.results.toList S with
 |some (xs,S)=>match j0 nt ((1000000,.cl [(c,910000)])::(910000,.pv)::pZ [] 0 fn.results.toList) S with|some ys=>Bm (qC [] (fE ((1000000,.cl [(c,910000)])::(910000,.pv)::pZ [] 0 fn.results.toList) ys) 0 fn.results.toList xs++[(fE ((1000000,.cl [(c,910000)])::(910000,.pv)::pZ [] 0 fn.results.toList) ys 1000000).1,(fE ((1000000,.cl [(c,910000)])::(910000,.pv)::pZ [] 0 fn.results.toList) ys 910000).1])|none=>Kk
 |none=>Kk
def gN(t m:Nat):Option Nat->GL
 |none=>[(t,.ptr m 0),(m,.cl [])]
 |some c=>[(t,.ptr m 0),(m,.cl [(c,910000)]),(910000,.pv)]
def Tl(fn:Func)(oc:Option Nat)(S:St):OT:=
 match fn.results.toList with
 |.tmp t::rs=>match S t with
  |(.pt,.ptr m 0)=>match so P nt [] 1 rs S with
   |some (xs,S)=>match j0 nt (gN t m oc++pZ [] 1 rs) S with
    |some ys=>Bm ((fE (gN t m oc++pZ [] 1 rs) ys m).1::(qC [] (fE (gN t m oc++pZ [] 1 rs) ys) 1 rs xs++(match oc with|none=>[]|some _=>[(fE (gN t m oc++pZ [] 1 rs) ys 910000).1])))
    |none=>Kk
   |none=>Kk
  |_=>Kk
 |_=>Kk
def Ex(fn:Func)(sg:fU)(S:St):OT:=match sg.kd with|.pl=>JF P nt fn sg S|.wr _ c _=>Tk P nt fn c S|.nw oc=>Tl P nt fn oc S
def GC(fn:Func)(sg:fU):fH (List TV):=λe S=>
 match e with
 |.ret=>Ex P nt fn sg S
 |.normal=>Ex P nt fn sg S
 |_=>Kk
def Co(fn:Func)(sg:fU):Bool:=Nat.blt fn.ntmps 900000&&Nat.ble fn.params.size fn.ntmps&&Nat.ble sg.md.length fn.params.size&&Nat.beq sg.b9 fn.results.size&&Nat.blt fn.results.size 1000&&((IQ fn sg).isSome||sg.own.all λi=>Nat.blt i sg.b9)&&o8 sg.own&&!(fn.name== "runtime.NumGoroutine")
def JE(fn:Func)(sg:fU)(ins:List TV):Bool:=match sg.kd with|.pl=>Nat.beq ins.length fn.params.size|.wr _ _ _=>sg.md.isEmpty&&Nat.beq ins.length (fn.params.size+1)|.nw _=>sg.md.isEmpty&&Nat.beq ins.length fn.params.size
def mN:List Md->List TV->List TV
 |.sm::ms,x::xs=>x::mN ms xs
 |_::ms,_::xs=>mN ms xs
 |_,_=>[]
def bT(f:Nat)(sg:fU)(h:Hint)(ins:List TV):OT:=
 match P.funcs[f]? with
 |some fn=>match fn.body with|some c=>dK (Co fn sg&&JE fn sg ins) (ev P E fn.ntmps c h (Uj fn.params.size sg ins) (GC P fn.ntmps fn sg))|none=>Kk
 |none=>Kk
end
open Go.RowKit
def Value.fP:Value->Option Nat
 |.pointer (Bm a)=>Bm a.block
 |.slice (Bm a) _ _=>Bm a.block
 |_=>Kk
def Gh.HF:Gh->Bool
 |.pw _|.pc _=>Qf
 |_=>Qg
def Gh.HE:Gh->Bool
 |.pw _=>Qf
 |_=>Qg
def gb(τ:Nat->Value)(g:Gh)(v:Value):Option Nat:=match g with|.pw d=>if Value.fP v=Value.fP (τ d)then Kk else Value.fP v|g=>if g.own then Value.fP v else Kk
def fP(τ:Nat->Value)(S:St)(k:Nat):Option Nat:=gb τ (S k).2 (τ k)
def Te{τ:Nat->Value}{g:Gh}{v:Value}{b:Nat}(h:gb τ g v=Bm b):g.own=Qf/\Value.fP v=Bm b:=by unfold gb at h;split at h;{split at h;{cases h};{exact⟨rfl,h⟩}};{split at h;{exact⟨‹_›,h⟩};{cases h}}
def Mh{τ:Nat->Value}{g:Gh}{v:Value}{b:Nat}(ho:g.own=Qf)(hw:g.HE=Qg)(h:Value.fP v=Bm b):gb τ g v=Bm b:=by unfold gb;split;{cases hw};{rw[ar ho,h]}
def Mg{τ τ':Nat->Value}{g:Gh}{v:Value}(h:∀m∈g.cQ,τ' m=τ m):gb τ' g v=gb τ g v:=by unfold gb;split;{rw[h _ (List.mem_singleton.2 rfl)]};{rfl}
def fi(R:Reach)(w:World)(p:Bool)(v:Value)(x:TV):Prop:=∃t l,x=.sl t l/\((l=[]/\v=.slice Kk 0 0)\/∃g cap cur e fz,v=.slice (Bm ⟨g,0,Kk⟩) l.length cap/\w.heap[g]?=Bm (.cells cur e fz)/\(∀o,o<cur.size->¬(fz.1<=o/\o<fz.2))/\cur.size=cap*t.size/\l.length<=cap/\cap<=maxLen/\dn R w ((l.map t.tv).flatMap TV.cells) (cur.toList.take (l.length*t.size))/\∀o,R g o↔(p=Qf/\o<l.length*t.size))
def T8(R:Reach)(w:World)(v:Value)(x:TV)(u:Value):Prop:=(fi R w Qg v x/\(Value.fP v=Kk\/Value.fP v≠Value.fP u))\/∃t l g cap n,x=.sl t l/\v=.slice (Bm ⟨g,0,Kk⟩) l.length cap/\u=.slice (Bm ⟨g,0,Kk⟩) n cap
def Bl(R:Reach)(w:World)(τ:Nat->Value)(v:Value)(x:TV)(ts:List (Nat×Nat)):Prop:=∃b cs e xs,v=.pointer (Bm ⟨b,0,Kk⟩)/\w.heap[b]?=Bm (.cells ⟨cs⟩ e (0,0))/\x=.ag xs/\dn R w xs cs/\(∀t∈ts,cs[t.1]?=Bm (τ t.2))/\∀o,¬R b o
def jH(R:Reach)(w:World)(τ:Nat->Value)(x:TV)(g:Gh)(v:Value):Prop:=
 match g with
 |.ptr m o=>∃b,τ m=.pointer (Bm ⟨b,0,Kk⟩)/\v=.pointer (Bm ⟨b,o,Kk⟩)
 |.dB k=>v=τ k/\v.oneCell'=Qf
 |.pe k=>∃b i s o,Value.fP (τ k)=Bm b/\x=.el i s o/\v=.pointer (Bm ⟨b,i*s+o,Kk⟩)
 |.J5 l=>∃ys vs,v=.tuple ⟨ys⟩/\x=.tu vs/\hO R w vs ys/\∀p∈l,ys[p.1]?=Bm (τ p.2)
 |.ow l=>∃ys vs,v=.agg ⟨ys⟩/\x=.ag vs/\dn R w vs ys/\∀p∈l,ys[p.1]?=Bm (τ p.2)
 |_=>Rep R w x v
def dP(R:Reach)(w:World)(τ:Nat->Value)(x:TV)(g:Gh)(v:Value):Prop:=
 match x with
 |.gd Qg _=>v=undef
 |.gd Qf x=>jH R w τ x g v
 |x=>jH R w τ x g v
def kt(R:Reach)(w:World)(τ:Nat->Value)(x:TV)(g:Gh)(v:Value):Prop:=
 match g with
 |.cl ts=>Bl R w τ v x ts
 |.pv=>fi R w Qg v x
 |.pw d=>T8 R w v x (τ d)
 |.pc _=>fi R w Qg v x
 |.lv=>fi R w Qf v x
 |.us=>Rep R w x v
 |.zz=>True
 |.hid=>True
 |g=>dP R w τ x g v
structure Core (nt:Nat) (R:Reach) (w:World) (dz:Nat->Prop) (τ:Nat->Value) (S:St):Prop where
 key:∀k,kt R w τ (S k).1 (S k).2 (τ k)
 sep:∀k k' g,fP τ S k=Bm g->fP τ S k'=Bm g->k=k'
 dz:∀k g,fP τ S k=Bm g->dz g
 inv:∀j,∀k∈(S j).2.cQ,nt<=k/\(S k).2≠.no
 th:∀b o,R b o->b<w.heap.size
 slt:∀k,k<nt->(S k).2.slot=Qf
 par:∀k d,(S k).2=.pw d->(S d).2=.pc k/\∃t l m,(S k).1=.sl t l/\(S d).1=.sl t (l++m)
def ft{τ:Nat->Value}{S:St}{k g:Nat}(h:fP τ S k=Bm g):(S k).2.own=Qf/\Value.fP (τ k)=Bm g:=Te h
def fi.lt{R:Reach}{w:World}{p:Bool}{v:Value}{x:TV}{g:Nat}(h:fi R w p v x)(hb:Value.fP v=Bm g):g<w.heap.size:=by obtain⟨t,l,rfl,⟨_,rfl⟩|⟨g',cap,cur,e,fz,rfl,h,_⟩⟩:=h;{cases hb};{cases hb;exact(Array.getElem?_eq_some_iff.1 h).1}
def Bl.lt{R:Reach}{w:World}{τ:Nat->Value}{v:Value}{x:TV}{ts:List (Nat×Nat)}{g:Nat}(h:Bl R w τ v x ts)(hb:Value.fP v=Bm g):g<w.heap.size:=by obtain⟨b,cs,e,xs,rfl,h,_⟩:=h;cases hb;exact(Array.getElem?_eq_some_iff.1 h).1
def ur(S:St)(d:Nat)(x:Cell):St:=λk=>if k=d then x else S k
theorem xg(S:St)(d:Nat)(x:Cell):ur S d x=cH S d x:=by
 funext k;unfold ur cH;by_cases h:k=d;{simp[h]}
 ·rw[ak h];cases hb:Nat.beq k d with
  |true=>exact(h (az hb)).elim
  |false=>rfl
section
variable{nt:Nat}{R R':Reach}{w w':World}{dz Hs:Nat->Prop}{τ τ':Nat->Value}{S S':St}
theorem Core.lt(h:Core nt R w dz τ S){k g:Nat}(hb:fP τ S k=Bm g):g<w.heap.size:=by have tp:=hb;obtain⟨ho,hb⟩:=ft hb;have hk:=h.key k;(cases hg:(S k).2<;>rw[hg]at ho hk<;>first|(cases ho;done)|exact Bl.lt hk hb|exact fi.lt hk hb|skip);unfold fP at tp;rw[hg]at tp;rcases hk with⟨hk,_⟩|⟨t,l,g',cap,n,_,e1,e2⟩;{exact fi.lt hk hb};{simp only[gb,e1,e2,Value.fP,if_true]at tp;cases tp}
theorem fi.dr{p:Bool}{v:Value}{x:TV}(h:fi R w p v x)(k:eH R w R' w')(hh:∀g,Value.fP v=Bm g->w'.heap[g]?=w.heap[g]?/\∀o,R' g o->R g o):fi R' w' p v x:=by obtain⟨t,l,rfl,h|⟨g,cap,cur,e,fz,rfl,h1,h2,h3,h4,h5,h6,h7⟩⟩:=h;{exact⟨t,l,rfl,.inl h⟩};{obtain⟨e1,e2⟩:=hh g rfl;exact⟨t,l,rfl,.inr ⟨g,cap,cur,e,fz,rfl,e1.trans h1,h2,h3,h4,h5,h6.mono k,λo=>⟨λhr=>(h7 o).1 (e2 o hr),λhr=>(k g o ((h7 o).2 hr)).1⟩⟩⟩}
theorem jH.dr{x:TV}{g:Gh}{v:Value}(h:jH R w τ x g v)(k:eH R w R' w')(ht:∀m∈g.cQ,τ' m=τ m):jH R' w' τ' x g v:=by
 (cases g<;>simp only[jH,Gh.cQ,List.mem_singleton,forall_eq,bo,forall_exists_index,and_imp,forall_apply_eq_imp_iff₂]at*<;>first|exact h.mono k|(rw[ht];exact h)|skip);all_goals
  obtain⟨ys,vs,h1,h2,h3,h4⟩:=h
  exact⟨ys,vs,h1,h2,h3.mono k,λp hp=>by rw[ht p hp];exact h4 p hp⟩
theorem kt.dr{x:TV}{g:Gh}{v:Value}(h:kt R w τ x g v)(k:eH R w R' w')(ht:∀m∈g.cQ,τ' m=τ m)(hh:∀b,gb τ g v=Bm b->w'.heap[b]?=w.heap[b]?/\∀o,R' b o->R b o):kt R' w' τ' x g v:=by
 have slot:dP R w τ x g v->dP R' w' τ' x g v:=λh=>by{unfold dP at h⊢;split at h<;>first|exact h|exact jH.dr h k ht};(cases g<;>simp only[kt]at h⊢<;>first|exact slot h|exact h.dr k hh|exact h.mono k|trivial|skip);case pw d=>
  rw[ht d (List.mem_singleton.2 rfl)]
  rcases h with⟨h1,h2⟩|h
  {refine .inl ⟨h1.dr k λb hb=>hh b ?_,h2⟩;rcases h2 with h2|h2;{rw[h2]at hb;cases hb};{simp only[gb,ak h2];exact hb}}
  {exact .inr h}
 rename_i ts;obtain⟨b,cs,e,xs,rfl,h1,rfl,h2,h3,h4⟩:=h;obtain⟨e1,e2⟩:=hh b rfl;exact⟨b,cs,e,xs,rfl,e1.trans h1,rfl,h2.mono k,λt htm=>by rw[ht _ (List.mem_map_of_mem (f:=(·.2)) htm)];exact h3 t htm,λo hr=>h4 o (e2 o hr)⟩
theorem Core.step(h:Core nt R w dz τ S)(U:Nat->Prop)(dr:eH R w R' w')(out:∀k,¬U k->S' k=S k/\τ' k=τ k)(JX:∀k g,¬U k->fP τ S k=Bm g->w'.heap[g]?=w.heap[g]?/\∀o,R' g o->R g o)(new:∀k,U k->kt R' w' τ' (S' k).1 (S' k).2 (τ' k))(Yx:∀k,U k->τ' k=τ k\/k<nt\/(S k).2=.no)(no:∀k,U k->k<nt\/(S' k).2≠.no)(WX:∀k,U k->((S k).2.HF=Qg/\(S' k).2.HF=Qg)\/((S k).2.HE=Qg/\S' k=S k))(_grow:∀k,U k->(S' k).2.own=Qf->(S k).2.own=Qf\/(S k).2=.no)(own:∀k g,U k->fP τ' S' k=Bm g->Hs g/\(∀k',U k'->k'≠k->fP τ' S' k'≠Bm g)/\(w.heap.size<=g\/∃k0,U k0/\fP τ S k0=Bm g))(min:∀g,dz g->Hs g)(inv:∀k,U k->∀j∈(S' k).2.cQ,nt<=j/\(S' j).2≠.no)(th:∀b o,R' b o->b<w'.heap.size)(slt:∀k,U k->k<nt->(S' k).2.slot=Qf):Core nt R' w' Hs τ' S':=by have ht:∀j,∀m∈(S j).2.cQ,τ' m=τ m:=λj m hm=>by{obtain⟨h1,h2⟩:=h.inv j m hm;by_cases hu:U m;{rcases Yx m hu with e|e|e;{exact e};{omega};{exact(h2 e).elim}};{exact(out m hu).2}};have hb:∀k,¬U k->fP τ' S' k=fP τ S k:=λk hk=>by{unfold fP;rw[(out k hk).1,(out k hk).2,Mg (ht k)]};have hn:∀j,(S j).2≠.no->nt<=j->(S' j).2≠.no:=λj hj hl=>by{by_cases hu:U j;{rcases no j hu with e|e;{omega};{exact e}};{rw[(out j hu).1];exact hj}};refine⟨λk=>?_,λk k' g h1 h2=>?_,λk g hk=>?_,λj k hk=>?_,th,λk hk=>?_,λk d hk=>?_⟩;{by_cases hu:U k;{exact new k hu};{obtain⟨e1,e2⟩:=out k hu;rw[e1,e2];exact(h.key k).dr dr (ht k) λb lu=>JX k b hu lu}};{by_cases e:k=k';{exact e};{have one:∀k k' g,U k->¬U k'->fP τ' S' k=Bm g->fP τ' S' k'=Bm g->False:=λk k' g u u' h1 h2=>by{obtain⟨_,_,h3|⟨k0,u0,h3⟩⟩:=own k g u h1;{rw[hb k' u']at h2;have:=h.lt h2;omega};{rw[hb k' u']at h2;exact u' (h.sep k0 k' g h3 h2▸u0)}};by_cases u:U k<;>by_cases u':U k';{exact((own k g u h1).2.1 k' u' (Ne.symm e) h2).elim};{exact(one k k' g u u' h1 h2).elim};{exact(one k' k g u' u h2 h1).elim};{rw[hb k u]at h1;rw[hb k' u']at h2;exact h.sep k k' g h1 h2}}};{by_cases hu:U k;{exact(own k g hu hk).1};{rw[hb k hu]at hk;exact min g (h.dz k g hk)}};{by_cases hu:U j;{exact inv j hu k hk};{rw[(out j hu).1]at hk;obtain⟨h1,h2⟩:=h.inv j k hk;exact⟨h1,hn k h2 h1⟩}};{by_cases hu:U k;{exact slt k hu hk};{rw[(out k hu).1];exact h.slt k hk}};{have e1:S' k=S k:=by{by_cases hu:U k;{rcases WX k hu with e|e;{have:=e.2;rw[hk]at this;cases this};{exact e.2}};{exact(out k hu).1}};rw[e1]at hk;obtain⟨p,q⟩:=h.par k d hk;have e2:S' d=S d:=by{by_cases hu:U d;{rcases WX d hu with e|e;{have:=e.1;rw[p]at this;cases this};{exact e.2}};{exact(out d hu).1}};rw[e1,e2];exact⟨p,q⟩}
theorem Core.waits(h:Core nt R w dz τ S){k d:Nat}{x:TV}(hk:S k=(x,.pw d)):fi R w Qg (τ k) x:=by
 have h1:=h.key k;rw[hk]at h1;rcases h1 with⟨h1,_⟩|⟨t,l,g,cap,n,rfl,e1,e2⟩;{exact h1}
 ·obtain⟨p1,t',l',m,q1,q2⟩:=h.par k d (by rw[hk]);rw[hk]at q1;cases q1;have h2:=h.key d;rw[p1,q2]at h2;obtain⟨t2,l2,e3,⟨_,e4⟩|⟨g',cap',cur,e,fz,e4,k1,k2,k3,k4,k5,k6,k7⟩⟩:=h2;{rw[e2]at e4;cases e4}
  ·cases e3;rw[e2]at e4;cases e4;refine⟨t,l,rfl,.inr ⟨g,cap,cur,e,fz,e1,k1,k2,k3,by rw[af]at k4;omega,k5,?_,λo=>⟨λhr=>by simpa using(k7 o).1 hr,λhr=>by simp at hr⟩⟩⟩;have hl:l.length*t.size<=(l++m).length*t.size:=aA _ (by rw[af];omega);have:=k6.take (l.length*t.size);rw[List.take_take,Nat.min_eq_left hl]at this;rw[List.map_append,List.flatMap_append]at this;have e5:((l.map t.tv).flatMap TV.cells).length=l.length*t.size:=by
    have:∀l:List t.El,((l.map t.tv).flatMap TV.cells).length=l.length*t.size:=λl=>by
     induction l with
     |nil=>simp
     |cons a r ih=>simp only[bc,List.flatMap_cons,af,ih,eu.nv,av,Nat.succ_mul];omega
    exact this l
   rw[List.take_append_of_le_length (by omega),List.take_of_length_le (by omega)]at this;exact this
theorem Core.recover (h : Core nt R w dz τ S) {k d : Nat} {x : TV} (hk : S k = (x, .pw d)) : Core nt R w dz τ (ur (ur S k (x, .pv)) d (.dead, .zz)) := by
  obtain ⟨p1, _⟩ := h.par k d (by rw [hk])
  have nc : d ≠ k := by rintro rfl; rw [hk] at p1; cases p1
  have NH : nt ≤ d := (h.inv k d (by rw [hk]; exact List.mem_singleton.2 rfl)).1
  have hkt : nt ≤ k := by rcases Nat.lt_or_ge k nt with e | e; · have := h.slt k e; rw [hk] at this; cases this
                          · exact e
  have e1 : ∀ j, ur (ur S k (x, .pv)) d (.dead, .zz) j = if j = d then (.dead, .zz) else if j = k then (x, .pv) else S j := fun j => rfl
  generalize ur (ur S k (x, .pv)) d (.dead, .zz) = S' at e1
  have s1 : S' d = (.dead, .zz) := by rw [e1, ar rfl]
  have s2 : S' k = (x, .pv) := by rw [e1, ak (Ne.symm nc), ar rfl]
  have s3 : ∀ j, j ≠ d → j ≠ k → S' j = S j := fun j a b => by rw [e1, ak a, ak b]
  have bl : ∀ j g, fP τ S' j = Bm g → fP τ S j = Bm g ∨ (j = k ∧ fP τ S d = Bm g) := fun j g hj => by
    by_cases a : j = d
    · rw [a] at hj; have := (ft hj).1; rw [s1] at this; cases this
    · by_cases b : j = k
      · subst b
        have hv := (ft hj).2
        by_cases c : Value.fP (τ j) = Value.fP (τ d)
        · right; exact ⟨rfl, by unfold fP; rw [p1]; exact Mh rfl rfl (by rw [← c]; exact hv)⟩
        · left; unfold fP; rw [hk]; simp only [gb, ak c]; exact hv
      · left; unfold fP at hj ⊢; rw [s3 j a b] at hj; exact hj
  refine ⟨fun j => ?_, fun j j' g h1 h2 => ?_, fun j g hj => ?_, fun j m hm => ?_, h.th, fun j hj => ?_, fun j c hj => ?_⟩
  · by_cases a : j = d
    · rw [a, s1]; trivial
    · by_cases b : j = k
      · rw [b, s2]; exact h.waits hk
      · rw [s3 j a b]; exact h.key j
  · rcases bl j g h1 with q | ⟨q, q'⟩ <;> rcases bl j' g h2 with r | ⟨r, r'⟩
    · exact h.sep _ _ _ q r
    · have := h.sep _ _ _ q r'
      rw [this] at h1; have := (ft h1).1; rw [s1] at this; cases this
    · have := h.sep _ _ _ r q'
      rw [this] at h2; have := (ft h2).1; rw [s1] at this; cases this
    · rw [q, r]
  · rcases bl j g hj with q | ⟨_, q⟩
    · exact h.dz _ _ q
    · exact h.dz _ _ q
  · have Jq : m ∈ (S j).2.cQ := by
      by_cases a : j = d
      · rw [a, s1] at hm; simp [Gh.cQ] at hm
      · by_cases b : j = k
        · rw [b, s2] at hm; simp [Gh.cQ] at hm
        · rw [s3 j a b] at hm; exact hm
    obtain ⟨h1, h2⟩ := h.inv j m Jq
    refine ⟨h1, ?_⟩
    by_cases a : m = d
    · rw [a, s1]; simp
    · by_cases b : m = k
      · rw [b, s2]; simp
      · rw [s3 m a b]; exact h2
  · rw [s3 j (by omega) (by omega)]; exact h.slt j hj
  · have a : j ≠ d := by rintro rfl; rw [s1] at hj; cases hj
    have b : j ≠ k := by rintro rfl; rw [s2] at hj; cases hj
    rw [s3 j a b] at hj
    obtain ⟨q1, q2⟩ := h.par j c hj
    have c1 : c ≠ d := by rintro rfl; rw [p1] at q1; cases q1; exact b rfl
    have c2 : c ≠ k := by rintro rfl; rw [hk] at q1; cases q1
    rw [s3 j a b, s3 c c1 c2]
    exact ⟨q1, q2⟩
theorem Core.Wu(h:Core nt R w dz τ S){k d:Nat}{t:eu}{l m:List t.El}{y:TV}(hkt:nt<=k)(hdt:nt<=d)(hk:S k=(y,.zz))(hd:S d=(.sl t (l++m),.pv))(hp:T8 R w (τ k) (.sl t l) (τ d))(hm:∀b,gb τ (.pw d) (τ k)=Bm b->dz b/\∀j,fP τ S j≠Bm b):Core nt R w dz τ (ur (ur S k (.sl t l,.pw d)) d (.sl t (l++m),.pc k)):=by have nc:d≠k:=by{rintro rfl;rw[hk]at hd;cases hd};have e1:∀j,ur (ur S k (.sl t l,.pw d)) d (.sl t (l++m),.pc k) j=if j=d then(.sl t (l++m),.pc k)else if j=k then(.sl t l,.pw d)else S j:=λj=>rfl;generalize ur (ur S k (.sl t l,.pw d)) d (.sl t (l++m),.pc k)=S' at e1;have s1:S' d=(.sl t (l++m),.pc k):=by{rw[e1,ar rfl]};have s2:S' k=(.sl t l,.pw d):=by{rw[e1,ak (Ne.symm nc),ar rfl]};have s3:∀j,j≠d->j≠k->S' j=S j:=λj a b=>by{rw[e1,ak a,ak b]};have bl:∀j g,fP τ S' j=Bm g->(fP τ S j=Bm g/\j≠k)\/(j=k/\gb τ (.pw d) (τ k)=Bm g):=λj g hj=>by{by_cases a:j=d;{subst a;left;refine⟨?_,nc⟩;have:=(ft hj).2;unfold fP;rw[hd];exact Mh rfl rfl this};{by_cases b:j=k;{subst b;right;unfold fP at hj;rw[s2]at hj;exact⟨rfl,hj⟩};{left;unfold fP at hj⊢;rw[s3 j a b]at hj;exact⟨hj,b⟩}}};refine⟨λj=>?_,λj j' g h1 h2=>?_,λj g hj=>?_,λj q hq=>?_,h.th,λj hj=>?_,λj c hj=>?_⟩;{by_cases a:j=d;{rw[a,s1];have:=h.key d;rw[hd]at this;exact this};{by_cases b:j=k;{rw[b,s2];exact hp};{rw[s3 j a b];exact h.key j}}};{rcases bl j g h1 with⟨q,_⟩|⟨q,q'⟩<;>rcases bl j' g h2 with⟨r,_⟩|⟨r,r'⟩;{exact h.sep _ _ _ q r};{exact((hm g r').2 j q).elim};{exact((hm g q').2 j' r).elim};{rw[q,r]}};{rcases bl j g hj with⟨q,_⟩|⟨_,q⟩;{exact h.dz _ _ q};{exact(hm g q).1}};{by_cases a:j=d;{rw[a,s1]at hq;simp only[Gh.cQ,List.mem_singleton]at hq;subst hq;exact⟨hkt,by rw[s2];simp⟩};{by_cases b:j=k;{rw[b,s2]at hq;simp only[Gh.cQ,List.mem_singleton]at hq;subst hq;exact⟨hdt,by rw[s1];simp⟩};{rw[s3 j a b]at hq;obtain⟨h1,h2⟩:=h.inv j q hq;refine⟨h1,?_⟩;by_cases a:q=d;{rw[a,s1];simp};{by_cases b:q=k;{rw[b,s2];simp};{rw[s3 q a b];exact h2}}}}};{rw[s3 j (by omega) (by omega)];exact h.slt j hj};{have a:j≠d:=by{rintro rfl;rw[s1]at hj;cases hj};by_cases b:j=k;{rw[b,s2]at hj;cases hj;rw[b,s1,s2];exact⟨rfl,t,l,m,rfl,rfl⟩};{rw[s3 j a b]at hj;obtain⟨q1,q2⟩:=h.par j c hj;have c1:c≠d:=by{rintro rfl;rw[hd]at q1;cases q1};have c2:c≠k:=by{rintro rfl;rw[hk]at q1;cases q1};rw[s3 j a b,s3 c c1 c2];exact⟨q1,q2⟩}}
end
def ta{X:Type}(σ:Nat->X)(t:Nat)(x:X):Nat->X:=λk=>if k=t then x else σ k
theorem fw{X:Type}(σ:Nat->X)(t:Nat)(x:X):ta σ t x t=x:=by simp[ta]
def fN{X:Type}(σ:Nat->X){t k:Nat}(x:X)(h:k≠t):ta σ t x k=σ k:=by simp[ta,h]
theorem bR(S:St)(d:Nat)(x:Cell):cH S d x d=x:=by simp[cH]
def cO(S:St){d k:Nat}(x:Cell)(h:k≠d):cH S d x k=S k:=by
 unfold cH;cases e:Nat.beq k d with
 |true=>exact(h (az e)).elim
 |false=>rfl
def bG{A:Type}{p:Bool}{x:Option A}{y:A}:dK p x=Bm y↔p=Qf/\x=Bm y:=by cases p<;>simp[dK]
def Fz(dz:Nat->Prop)(R:Reach)(w:World)(R':Reach):Prop:=eH R w R' w/\∀b o,R' b o->R b o\/dz b
def Fz.refl(dz:Nat->Prop)(R:Reach)(w:World):Fz dz R w R:=⟨eH.refl _ _,λ_ _=>.inl⟩
def Fz.trans{dz:Nat->Prop}{R R' WA:Reach}{w:World}(h:Fz dz R w R')(k:Fz dz R' w WA):Fz dz R w WA:=⟨h.1.trans k.1,λb o hr=>(k.2 b o hr).elim (h.2 b o) .inr⟩
def eH.reach{R:Reach}{w:World}{R':Reach}(h:∀b o,R b o->R' b o):eH R w R' w:=λb o hr=>⟨h b o hr,rfl⟩
def kt.slot{R:Reach}{w:World}{τ:Nat->Value}{x:TV}{g:Gh}{v:Value}(hg:g.slot=Qf):kt R w τ x g v=dP R w τ x g v:=by cases g<;>first|rfl|cases hg
def dP.dr{R R':Reach}{w w':World}{τ τ':Nat->Value}{x:TV}{g:Gh}{v:Value}(h:dP R w τ x g v)(k:eH R w R' w')(ht:∀m∈g.cQ,τ' m=τ m):dP R' w' τ' x g v:=by unfold dP at h⊢;split at h<;>first|exact h|exact jH.dr h k ht
section
variable{nt:Nat}{R R':Reach}{w w':World}{dz Hs:Nat->Prop}{τ τ':Nat->Value}{S S':St}
theorem Core.put(h:Core nt R w dz τ S){d:Nat}{v:Value}{x:TV}{g:Gh}(hd:d<nt)(hs:dP R w τ x g v)(hg:g.slot=Qf)(hm:∀k∈g.cQ,nt<=k/\(S k).2≠.no):Core nt R w dz (ta τ d v) (cH S d (x,g)):=by have hP:(S d).2.HF=Qg:=by{have:=h.slt d hd;cases hh:(S d).2<;>rw[hh]at this<;>first|rfl|cases this};have ho:g.own=Qg:=by{cases g<;>first|rfl|cases hg};refine h.step (λk=>k=d) (eH.refl _ _) (λk hk=>⟨cO _ _ hk,fN _ _ hk⟩) (λ_ _ _ _=>⟨rfl,λ_=>id⟩) ?_ (λk hk=>.inr (.inl (hk▸hd))) (λk hk=>.inl (hk▸hd)) ?_ ?_ ?_ (λ_=>id) ?_ h.th (λk hk _=>by rw[hk,bR];exact hg);{rintro k rfl;rw[bR,fw,kt.slot hg];exact hs.dr (eH.refl _ _) λm Jq=>fN _ _ (by have:=(hm m Jq).1;omega)};{rintro k rfl;rw[bR];exact .inl ⟨hP,by cases g<;>first|rfl|cases hg⟩};{rintro k rfl e;rw[bR,ho]at e;cases e};{rintro k b rfl hb;have:=(ft hb).1;rw[bR,ho]at this;cases this};{rintro k rfl j hj;rw[bR]at hj;obtain⟨h1,h2⟩:=hm j hj;exact⟨h1,by rw[cO _ _ (by omega)];exact h2⟩}
theorem Core.jN(h:Core nt R w dz τ S){k:Nat}{v:Value}{x:TV}{g:Gh}(hk:nt<=k)(dr:eH R w R' w')(JX:∀j b,j≠k->fP τ S j=Bm b->w'.heap[b]?=w.heap[b]?/\∀o,R' b o->R b o)(new:kt R' w' τ x g v)(Yx:v=τ k\/(S k).2=.no)(WX:(S k).2.HF=Qg/\g.HF=Qg)(no:g≠.no)(grow:g.own=Qf->(S k).2.own=Qf\/(S k).2=.no)(bl:∀b,g.own=Qf->Value.fP v=Bm b->dz b/\(w.heap.size<=b\/fP τ S k=Bm b))(inv:∀j∈g.cQ,j≠k/\nt<=j/\(S j).2≠.no)(th:∀b o,R' b o->b<w'.heap.size):Core nt R' w' dz (ta τ k v) (cH S k (x,g)):=by refine h.step (λj=>j=k) dr (λj hj=>⟨cO _ _ hj,fN _ _ hj⟩) (λj b hj=>JX j b hj) ?_ ?_ ?_ ?_ ?_ ?_ (λ_=>id) ?_ th (λj hj hl=>by omega);{rintro j rfl;rw[bR,fw];exact new.dr (eH.refl _ _) (λm hm=>fN _ _ (inv m hm).1) λ_ _=>⟨rfl,λ_=>id⟩};{rintro j rfl;rw[fw];exact Yx.imp id .inr};{rintro j rfl;rw[bR];exact .inr no};{rintro j rfl;rw[bR];exact .inl WX};{rintro j rfl;rw[bR];exact grow};{rintro j b rfl hb;obtain⟨h1,h2⟩:=ft hb;rw[bR]at h1;rw[fw]at h2;obtain⟨h3,h4⟩:=bl b h1 h2;exact⟨h3,λk' e ne=>(ne e).elim,h4.imp id λh=>⟨j,rfl,h⟩⟩};{rintro j rfl m hm;rw[bR]at hm;obtain⟨h1,h2,h3⟩:=inv m hm;exact⟨h2,by rw[cO _ _ h1];exact h3⟩}
theorem Core.sR(h:Core nt R w dz τ S){k k' g:Nat}(h1:fP τ S k=Bm g)(h2:fP τ S k'=Bm g):k=k':=h.sep k k' g h1 h2
theorem gC{k g:Nat}(ho:(S k).2.own=Qf)(hw:(S k).2.HE=Qg)(hb:Value.fP (τ k)=Bm g):fP τ S k=Bm g:=Mh ho hw hb
theorem B2{g:Gh}(h:g.HF=Qg):g.HE=Qg:=by cases g<;>first|rfl|cases h
theorem Core.freeze(h:Core nt R w dz τ S){k:Nat}{x:TV}(hk:nt<=k)(hS:S k=(x,.pv)):∃R',Core nt R' w dz τ (cH S k (x,.lv))/\Fz dz R w R'/\Rep R' w x (τ k)/\(τ k).oneCell'=Qf:=by
 have h0:=h.key k;rw[hS]at h0;obtain⟨t,l,rfl,⟨rfl,hv⟩|⟨g,cap,cur,e,fz,hv,h1,h2,h3,h4,h5,h6,h7⟩⟩:=h0
 ·refine⟨R,?_,Fz.refl _ _ _,by rw[hv];exact .sn t,by rw[hv];rfl⟩;have:=h.jN (g:=.lv) (x:=.sl t []) (v:=τ k) hk (eH.refl _ _) (λ_ _ _ _=>⟨rfl,λ_=>id⟩) ⟨t,[],rfl,.inl ⟨rfl,hv⟩⟩ (.inl rfl) (by rw[hS];exact⟨rfl,rfl⟩) (by simp) (λ_=>.inl (by rw[hS];rfl))
   (λb _ hb=>by rw[hv]at hb;cases hb) (by simp[Gh.cQ]) h.th
  rwa[show ta τ k (τ k)=τ by funext j;simp only[ta];split<;>simp_all]at this
 {have hb:fP τ S k=Bm g:=gC (by rw[hS];rfl) (by rw[hS];rfl) (by rw[hv];rfl);let R':Reach:=λb o=>R b o\/(b=g/\o<l.length*t.size);have dr:eH R w R' w:=eH.reach λb o=>.inl;have rk:(l.map t.tv).flatMap TV.cells=(l.map t.tv).flatMap TV.cells:=rfl;have hex:∀o,R g o->False:=λo hr=>by{have:=(h7 o).1 hr;simp at this};refine⟨R',?_,⟨dr,λb o(hr:R b o\/(b=g/\o<l.length*t.size))=>hr.imp id λ⟨e,_⟩=>e▸h.dz k g hb⟩,?_,by rw[hv];rfl⟩;{have:=h.jN (R':=R') (w':=w) (g:=.lv) (x:=.sl t l) (v:=τ k) hk dr (λj b hj lu=>⟨rfl,λo hr=>hr.elim id λ⟨e,_⟩=>(hj (h.sR hb (e▸lu)).symm).elim⟩) ⟨t,l,rfl,.inr ⟨g,cap,cur,e,fz,hv,h1,h2,h3,h4,h5,h6.mono dr,λo=>⟨λhr=>hr.elim (λhr=>(hex o hr).elim) λhr=>⟨rfl,hr.2⟩,λhr=>.inr ⟨rfl,hr.2⟩⟩⟩⟩ (.inl rfl) (by rw[hS];exact⟨rfl,rfl⟩) (by simp) (λ_=>.inl (by rw[hS];rfl)) (λb _ lu=>⟨h.dz k b (gC (by rw[hS];rfl) (by rw[hS];rfl) lu),.inr (gC (by rw[hS];rfl) (by rw[hS];rfl) lu)⟩) (by simp[Gh.cQ]) (λb o hr=>hr.elim (h.th b o) λ⟨e,_⟩=>e▸(Array.getElem?_eq_some_iff.1 h1).1);rwa[show ta τ k (τ k)=τ by funext j;simp only[ta];split<;>simp_all]at this};{rw[hv];refine .sl rfl h4 h5 (mh.write (ys:=cur.toList.take (l.length*t.size)) ?_ (h6.mono dr) (λj hj=>.inr ⟨rfl,by rwa[bj,Nat.zero_add]at*⟩) (λj y hy=>?_));{intro x hx;obtain⟨y,_,rfl⟩:=bo.1 hx;exact eu.nv t y};{rw[bg]at hy;split at hy;{simp only[World.cell?,h1,Nat.zero_add];simpa using hy};{cases hy}}}}
end
def Lt(V S:St):Prop:=∀k,V k=S k\/(V k).2=.hid
def Lq(V S:St):Prop:=∀k,V k=S k\/(V k).2=.hid\/((V k).2=.pv/\S k=((V k).1,.lv))
def Lt.refl(S:St):Lt S S:=λ_=>.inl rfl
theorem Lt.q{V S:St}(h:Lt V S):Lq V S:=λk=>(h k).imp id .inl
theorem Lt.of{V S:St}(h:Lt V S){k:Nat}{x:TV}{g:Gh}(hk:V k=(x,g))(hg:g≠.hid:=by simp):S k=(x,g):=by rcases h k with e|e;{rw[<-e,hk]};{rw[hk]at e;exact(hg e).elim}
section
variable{nt:Nat}{R R':Reach}{w w':World}{dz:Nat->Prop}{τ:Nat->Value}{S V:St}
theorem IA{k:Nat}{c:Cell}(h:S k=c):cH S k c=S:=by funext j;by_cases e:j=k;{subst e;rw[bR,h]};{exact cO _ _ e}
theorem iY(S:St):∀l m:List (Nat×Cell),eY S (l++m)=eY (eY S m) l
 |[],_=>rfl
 |(k,x)::l,m=>by simp only[List.cons_append,eY,iY S l m]
theorem fi.rep{v:Value}{x:TV}(h:fi R w Qf v x):Rep R w x v/\v.oneCell'=Qf:=by obtain⟨t,l,rfl,⟨rfl,rfl⟩|⟨g,cap,cur,e,fz,rfl,h1,h2,h3,h4,h5,h6,h7⟩⟩:=h;{exact⟨.sn t,rfl⟩};{refine⟨.sl rfl h4 h5 (mh.write (ys:=cur.toList.take (l.length*t.size)) ?_ h6 (λj hj=>(h7 _).2 ⟨rfl,by rwa[bj,Nat.zero_add]at*⟩) (λj y hy=>?_)),rfl⟩;{intro x hx;obtain⟨y,_,rfl⟩:=bo.1 hx;exact eu.nv t y};{rw[bg]at hy;split at hy;{simp only[World.cell?,h1,Nat.zero_add];simpa using hy};{cases hy}}}
theorem OS{x:TV}{v:Value}(h:Rep R w x v):Rep R w (nrm x) v:=by
 unfold nrm;split
 ·cases h with
  |sc h=>cases h
  |nl=>exact .sn _
 {exact h}
theorem qa:∀{xs:List TV}{ys:List Value},dn R w xs ys->dn R w (xs.map nrm) ys
 |_,_,.nil=>.nil
 |_,_,.cons a h t=>.cons a (OS h) (qa t)
theorem BN{x:TV}{v:Value}(h:Rep R w x v):Rep R w (Vk x) v:=by
 unfold Vk;split
 ·cases h with
  |sc h=>cases h
  |nl=>exact .sn _
 ·cases h with
  |sc h=>cases h
  |ag h=>exact .ag (qa h)
 {exact h}
theorem jH.rep{x:TV}{v:Value}(h:dP R w τ x .no v):Rep R w x v:=by unfold dP at h;split at h;{rw[h];exact .V9 _};{exact .Uz h};{exact h}
theorem Gt(h:Core nt R w dz τ S)(hV:Lq V S){k:Nat}{x:TV}{ws:List (Nat×Cell)}(hk:nt<=k)(he:HV V (.pt,.dB k)=Bm (x,ws)):∃R',Core nt R' w dz τ (eY S ws)/\Fz dz R w R'/\Rep R' w x (τ k)/\Lq V (eY S ws)/\(∀p∈ws,p.1=k)/\x.plain=Qf:=by have plain:∀{R p v x},fi R w p v x->x.plain=Qf:=λh=>by{obtain⟨_,_,rfl,_⟩:=h;rfl};have base:∀{y:TV}{g:Gh},S k=(y,g)->g=.lv->(∃R',Core nt R' w dz τ S/\Fz dz R w R'/\Rep R' w y (τ k))/\y.plain=Qf:=λ{y g}e hg=>by{have:=h.key k;subst hg;rw[e]at this;exact⟨⟨R,h,Fz.refl _ _ _,(fi.rep this).1⟩,plain this⟩};simp only[HV]at he;split at he;{rename_i y e;cases he;have hq:Lq V (cH S k (x,.lv)):=λj=>by{by_cases ej:j=k;{subst ej;rw[bR,e];exact .inr (.inr ⟨rfl,rfl⟩)};{rw[cO _ _ ej];exact hV j}};rcases hV k with e1|e1|⟨_,e1⟩;{rw[e]at e1;have hp:=h.key k;rw[<-e1]at hp;obtain⟨R',h1,h2,h3,_⟩:=h.freeze hk e1.symm;exact⟨R',h1,h2,h3,hq,by simp,plain hp⟩};{rw[e]at e1;cases e1};{rw[e]at e1;obtain⟨⟨R',h1,h2,h3⟩,h4⟩:=base e1 rfl;refine⟨R',?_,h2,h3,hq,by simp,h4⟩;show Core nt R' w dz τ (cH S k _);rwa[IA e1]}};{rename_i y e;cases he;have e1:S k=(x,.lv):=by{rcases hV k with e1|e1|⟨e1,_⟩;{rw[e]at e1;exact e1.symm};{rw[e]at e1;cases e1};{rw[e]at e1;cases e1}};obtain⟨⟨R',h1,h2,h3⟩,h4⟩:=base e1 rfl;exact⟨R',h1,h2,h3,hV,by simp,h4⟩};{rename_i y e;obtain⟨zF,he⟩:=bG.1 he;cases he;have e1:S k=(x,.us):=by{rcases hV k with e1|e1|⟨e1,_⟩;{rw[e]at e1;exact e1.symm};{rw[e]at e1;cases e1};{rw[e]at e1;cases e1}};have:=h.key k;rw[e1]at this;exact⟨R,h,Fz.refl _ _ _,this,hV,by simp,zF⟩};{cases he}
theorem dn.set:∀{xs:List TV}{ys:List Value}{i:Nat}{x:TV},dn R w xs ys->(∀y,ys[i]?=Bm y->Rep R w x y)->dn R w (xs.set i x) ys
 |_,_,_,_,.nil,_=>by simpa using .nil
 |_,_,0,_,.cons a h t,hx=>.cons a (hx _ rfl) t
 |_,_,i+1,_,.cons a h t,hx=>.cons a h (t.set λy hy=>hx y (by simpa using hy))
theorem oY{o n:Nat}:∀{ts:List (Nat×Nat)}{R:Reach}{S:St}{cs ds:List TV}{ys:List Value}{ws:List (Nat×Cell)},Core nt R w dz τ S->Lq V S->dn R w cs ys->(∀t∈ts,nt<=t.2/\ys[t.1]?=Bm (τ t.2))->
  pH V o n ts cs=Bm (ds,ws)->∃R',Core nt R' w dz τ (eY S ws)/\Fz dz R w R'/\dn R' w ds ys/\Lq V (eY S ws)/\(∀p∈ws,p.1∈ts.map (·.2))/\ds.length=cs.length
 |[],R,S,_,_,_,_,h,hV,hL,_,he=>by cases he;exact⟨R,h,Fz.refl _ _ _,hL,hV,by simp,rfl⟩
 |(c,k)::ts,R,S,_,_,_,_,h,hV,hL,ht,he=>by
  simp only[pH]at he;split at he
  ·rename_i cs ws e1;obtain⟨R1,h1,k1,r1,q1,p1,l1⟩:=oY h hV hL (λt h=>ht t (List.mem_cons_of_mem _ h)) e1;have p1':∀p∈ws,p.1∈(((c,k)::ts).map (·.2)):=λp hp=>List.mem_cons_of_mem _ (p1 p hp);cases hb:(Nat.ble o c&&Nat.blt c (o+n))with
   |true=>rw[hb,aj]at he;split at he;{rename_i x us e2;cases he;obtain⟨h3,h4⟩:=ht (c,k) (List.mem_cons_self ..);obtain⟨R2,h2,k2,r2,q2,p2,_⟩:=Gt h1 q1 h3 e2;rw[iY];refine⟨R2,h2,k1.trans k2,(r1.mono k2.1).set λy hy=>?_,q2,λp hp=>?_,by rw[List.length_set,l1]⟩;{rw[h4]at hy;cases hy;exact r2};{rcases List.mem_append.1 hp with hp|hp;{rw[p2 p hp];exact List.mem_cons_self ..};{exact p1' p hp}}};{cases he}
   |false=>rw[hb,ae]at he;cases he;exact⟨R1,h1,k1,r1,q1,p1',l1⟩
  {cases he}
theorem Ck(h:Core nt R w dz τ S)(hV:Lq V S){c:Cell}{v:Value}{x:TV}{ws:List (Nat×Cell)}(hs:dP R w τ c.1 c.2 v)(hc:∀m∈c.2.cQ,nt<=m)(he:Cl V c=Bm (x,ws)):∃R',Core nt R' w dz τ (eY S ws)/\Fz dz R w R'/\Rep R' w x v/\Lq V (eY S ws):=by
 obtain⟨y,g⟩:=c;cases g with
 |dB k=>(cases y<;>try(simp only[Cl,HV]at he;cases he));obtain⟨R',h1,h2,h3,h4,_⟩:=Gt h hV (hc k (by simp[Gh.cQ])) he;have:v=τ k:=hs.1;exact⟨R',h1,h2,this▸h3,h4⟩
 |no=>simp only[Cl,HV,aN,Prod.mk.injEq]at he;obtain⟨rfl,rfl⟩:=he;exact⟨R,h,Fz.refl _ _ _,BN (jH.rep hs),hV⟩
 |ow l=>(cases y<;>try(simp only[Cl,HV]at he;cases he));simp only[Cl]at he;split at he;{rename_i hf;cases he;obtain⟨ys,vs,hv,hx,h3,h4⟩:∃ys vs,v=.agg ⟨ys⟩/\_=TV.ag vs/\dn R w vs ys/\∀p∈l,ys[p.1]?=Bm (τ p.2):=hs;cases hx;obtain⟨R',k1,k2,k3,k4,_⟩:=oY h hV h3 (λt ht=>⟨hc t.2 (bo.2 ⟨t,ht,rfl⟩),h4 t ht⟩) hf;exact⟨R',k1,k2,by rw[hv];exact .ag (qa k3),k4⟩};{cases he}
 |_=>simp only[Cl,HV]at he;cases he
inductive Cells (R:Reach) (w:World) (τ:Nat->Value) (nt:Nat):List Cell->List Value->Prop
 |nil:Cells R w τ nt [] []
 |cons {c:Cell} {v:Value} {cs:List Cell} {vs:List Value}:dP R w τ c.1 c.2 v->(∀m∈c.2.cQ,nt<=m)->Cells R w τ nt cs vs->Cells R w τ nt (c::cs) (v::vs)
theorem yX:∀{cs:List Cell}{R:Reach}{S:St}{vs:List Value}{xs:List TV}{ws:List (Nat×Cell)},Core nt R w dz τ S->Lq V S->Cells R w τ nt cs vs->Kh V cs=Bm (xs,ws)->
  ∃R',Core nt R' w dz τ (eY S ws)/\Fz dz R w R'/\hO R' w xs vs/\Lq V (eY S ws)
 |[],R,S,_,_,_,h,hV,.nil,he=>by cases he;exact⟨R,h,Fz.refl _ _ _,.nil,hV⟩
 |c::cs,R,S,_,_,_,h,hV,.cons a b t,he=>by simp only[Kh]at he;split at he;{rename_i x ws e1;split at he;{rename_i xs us e2;cases he;obtain⟨R1,h1,k1,r1,q1⟩:=yX h hV t e2;obtain⟨R2,h2,k2,r2,q2⟩:=Ck h1 q1 (a.dr k1.1 λ_ _=>rfl) b e1;rw[iY];exact⟨R2,h2,k1.trans k2,.cons r2 (r1.mono k2.1),q2⟩};{cases he}};{cases he}
end
structure Ext (w0:World) (R0:Reach) (io:Nat->Prop) (w:World) (R:Reach):Prop where
 os:w.os=w0.os
 tape:w.tape=w0.tape
 output:w.output=w0.output
 size:w0.heap.size<=w.heap.size
 heap:∀b,b<w0.heap.size->¬io b->w.heap[b]?=w0.heap[b]?
 dr:eH R0 w0 R w
 BE:∀b o,R b o->R0 b o\/w0.heap.size<=b\/io b
def Ext.refl(w:World)(R:Reach)(io:Nat->Prop):Ext w R io w R:=⟨rfl,rfl,rfl,Nat.le_refl _,λ_ _ _=>rfl,eH.refl _ _,λ_ _ h=>.inl h⟩
def Ext.trans{w0 w1 w2:World}{R0 R1 R2:Reach}{io io':Nat->Prop}(h:Ext w0 R0 io w1 R1)(k:Ext w1 R1 io' w2 R2)(hi:∀b,io' b->io b\/w0.heap.size<=b):Ext w0 R0 io w2 R2 where
 os:=k.os.trans h.os
 tape:=k.tape.trans h.tape
 output:=k.output.trans h.output
 size:=Nat.le_trans h.size k.size
 heap b hb hn:=(k.heap b (Nat.lt_of_lt_of_le hb h.size) (λc=>by rcases hi b c with c|c<;>first|exact hn c|omega)).trans (h.heap b hb hn)
 dr:=h.dr.trans k.dr
 BE b o hr:=by
  rcases k.BE b o hr with r|r|r
  ·exact h.BE b o r
  ·exact .inr (.inl (Nat.le_trans h.size r))
  ·rcases hi b r with r|r
   ·exact .inr (.inr r)
   ·exact .inr (.inl r)
structure Ctx where
 P:Program
 E:cz
 nt:Nat
 w0:World
 R0:Reach
 io:Nat->Prop
 Ug:Nat->Value
 gl:Nat->Option (List Value)
def Ctx.dz(C:Ctx)(b:Nat):Prop:=C.io b\/C.w0.heap.size<=b
def GlOK(gl:Nat->Option (List Value))(R:Reach)(w:World):Prop:=∀n zs,gl n=Bm zs->∀o,R n o/\w.cell? ⟨n,o,Kk⟩=zs[o]?
def GlOK.dr{gl:Nat->Option (List Value)}{R R':Reach}{w w':World}(h:GlOK gl R w)(k:eH R w R' w'):GlOK gl R' w':=λn zs hn o=>⟨(k _ _ (h n zs hn o).1).1,(k _ _ (h n zs hn o).1).2.trans (h n zs hn o).2⟩
structure eI (C:Ctx) (S:St) (a:Act) (w:World) (R:Reach) (τ:Nat->Value):Prop where
 size:a.tmps.size=C.nt
 defers:a.defers=[]
 core:Core C.nt R w C.dz τ S
 tmps:∀t,t<C.nt->a.tmps.getD t undef=τ t
 io:C.nt<=1000000/\∀k,1000000<=k->τ k=C.Ug k
 ext:Ext C.w0 C.R0 C.io w R
 gl:GlOK C.gl R w
def wx(C:Ctx)(S:St)(a:Act)(w:World):Prop:=∃R τ,eI C S a w R τ
section
variable{C:Ctx}{S V:St}{a:Act}{w:World}{R:Reach}{τ:Nat->Value}{o:Oper}{d:Nat}{K:Act->World->Prop}{Q:Exit->Act->World->Prop}
theorem Ext.reach{w0 w:World}{R0 R R':Reach}{io:Nat->Prop}(h:Ext w0 R0 io w R)(k:eH R w R' w)(hn:∀b o,R' b o->R b o\/io b\/w0.heap.size<=b):Ext w0 R0 io w R':={h with dr:=h.dr.trans k,BE:=λb o hr=>by rcases hn b o hr with r|r|r;exact h.BE b o r;exact .inr (.inr r);exact .inr (.inl r)}
end
def nN:BinOp->Value->Value->Option Value
 |.shl,.int k a,.int _ b=>if b<0 then Kk else Bm (.int k (k.wrap (a*2^(min b.toNat k.bits))))
 |.shr,.int k a,.int _ b=>if b<0 then Kk else Bm (.int k (a.fdiv (2^(min b.toNat k.bits))))
 |.add,.int k a,.int k' b=>if k=k' then Bm (.int k (k.wrap (a+b)))else Kk
 |.sub,.int k a,.int k' b=>if k=k' then Bm (.int k (k.wrap (a -b)))else Kk
 |.mul,.int k a,.int k' b=>if k=k' then Bm (.int k (k.wrap (a*b)))else Kk
 |.quo,.int k a,.int k' b=>if k=k' then(if b=0 then Kk else Bm (.int k (k.wrap (a.tdiv b))))else Kk
 |.rem,.int k a,.int k' b=>if k=k' then(if b=0 then Kk else Bm (.int k (a.tmod b)))else Kk
 |.and,.int k a,.int k' b=>if k=k' then Bm (.int k (da .and k a b))else Kk
 |.or,.int k a,.int k' b=>if k=k' then Bm (.int k (da .or k a b))else Kk
 |.xor,.int k a,.int k' b=>if k=k' then Bm (.int k (da .xor k a b))else Kk
 |.andNot,.int k a,.int k' b=>if k=k' then Bm (.int k (da .andNot k a b))else Kk
 |.eql,.int k a,.int k' b=>if k=k' then Bm (.bool (a==b))else Kk
 |.neq,.int k a,.int k' b=>if k=k' then Bm (.bool (a !=b))else Kk
 |.lss,.int k a,.int k' b=>if k=k' then Bm (.bool (nP (a<b)))else Kk
 |.leq,.int k a,.int k' b=>if k=k' then Bm (.bool (nP (a<=b)))else Kk
 |.gtr,.int k a,.int k' b=>if k=k' then Bm (.bool (nP (a>b)))else Kk
 |.geq,.int k a,.int k' b=>if k=k' then Bm (.bool (nP (a>=b)))else Kk
 |.add,.string a,.string b=>if((a.size+b.size:Nat):Int)>IntKind.i64.max then Kk else Bm (.string (a++b))
 |.eql,.string a,.string b=>Bm (.bool (a.toList==b.toList))
 |.neq,.string a,.string b=>Bm (.bool (!(a.toList==b.toList)))
 |o,x,y=>Er o x y
def Yt:UnOp->Value->Option Value
 |.neg,.int k n=>Bm (.int k (k.wrap (0 -n)))
 |.xor,.int k n=>Bm (.int k (da .xor k (if k.signed then -1 else k.max) n))
 |.not,.bool b=>Bm (.bool !b)
 |.neg,.float .f64 a=>Bm (.float .f64 (Fl.neg a))
 |_,_=>Kk
def TV.D9{x:TV}{k:IntKind}{n:Int}(h:x.int?=Bm (k,n)):x.val=Bm (.int k n):=by cases x<;>simp[TV.int?]at h<;>obtain⟨rfl,rfl⟩:=h<;>rfl
def qU(n:Int)(m:Nat)(h:0<m):(((n%(m:Int)).toNat% m:Nat):Int)=n% m:=by have h1:0<=n%(m:Int):=Int.emod_nonneg _ (by omega);have h2:n%(m:Int)<m:=Int.emod_lt_of_pos _ (by omega);rw[Nat.mod_eq_of_lt (by omega)];omega
theorem ug(n:Int):((UInt8.ofInt n).toNat:Int)=IntKind.u8.wrap n:=by have:IntKind.u8.wrap n=n%(256:Nat):=by{simp[IntKind.wrap,IntKind.bits,IntKind.signed]};rw[this,UInt8.ofInt,UInt8.toNat_ofNat'];exact qU n 256 (by decide)
def vp(n:Int):((UInt16.ofInt n).toNat:Int)=IntKind.u16.wrap n:=by have:IntKind.u16.wrap n=n%(65536:Nat):=by{simp[IntKind.wrap,IntKind.bits,IntKind.signed]};rw[this,UInt16.ofInt,UInt16.toNat_ofNat'];exact qU n 65536 (by decide)
def z8(n:Int):((UInt32.ofInt n).toNat:Int)=IntKind.u32.wrap n:=by have:IntKind.u32.wrap n=n%(4294967296:Nat):=by{simp[IntKind.wrap,IntKind.bits,IntKind.signed]};rw[this,UInt32.ofInt,UInt32.toNat_ofNat'];exact qU n 4294967296 (by decide)
theorem mj(n:Int):((UInt64.ofInt n).toNat:Int)=IntKind.u64.wrap n:=by have:IntKind.u64.wrap n=n%(18446744073709551616:Nat):=by{simp[IntKind.wrap,IntKind.bits,IntKind.signed]};rw[this,UInt64.ofInt,UInt64.toNat_ofNat'];exact qU n 18446744073709551616 (by decide)
def Jf(k:IntKind)(n:Int):(HG k n).val=Bm (.int k (k.wrap n)):=by cases k<;>simp only[HG,TV.val,aN,Value.int.injEq,true_and];{exact ug n};{exact vp n};{exact z8 n};{exact mj n}
theorem Ud(n:Int):IntKind.u8.wrap n=n%256:=by simp[IntKind.wrap,IntKind.bits,IntKind.signed]
theorem aaI(a:UInt8):BitVec.ofInt 8 (a.toNat:Int)=a.toBitVec:=by apply BitVec.eq_of_toNat_eq;rw[BitVec.toNat_ofInt];have:=a.toNat_lt;simp only[UInt8.toNat]at this⊢;omega
theorem ln(n:Int):IntKind.u16.wrap n=n%65536:=by simp[IntKind.wrap,IntKind.bits,IntKind.signed]
theorem aal(a:UInt16):BitVec.ofInt 16 (a.toNat:Int)=a.toBitVec:=by apply BitVec.eq_of_toNat_eq;rw[BitVec.toNat_ofInt];have:=a.toNat_lt;simp only[UInt16.toNat]at this⊢;omega
theorem Ue(n:Int):IntKind.u32.wrap n=n%4294967296:=by simp[IntKind.wrap,IntKind.bits,IntKind.signed]
theorem aak(a:UInt32):BitVec.ofInt 32 (a.toNat:Int)=a.toBitVec:=by apply BitVec.eq_of_toNat_eq;rw[BitVec.toNat_ofInt];have:=a.toNat_lt;simp only[UInt32.toNat]at this⊢;omega
theorem jY(n:Int):IntKind.u64.wrap n=n%18446744073709551616:=by simp[IntKind.wrap,IntKind.bits,IntKind.signed]
theorem aaj(a:UInt64):BitVec.ofInt 64 (a.toNat:Int)=a.toBitVec:=by apply BitVec.eq_of_toNat_eq;rw[BitVec.toNat_ofInt];have:=a.toNat_lt;simp only[UInt64.toNat]at this⊢;omega
def P3 {o : BinOp} {a b : UInt8} {ws : List TV} (h : (TQ o a b).holds ws) : ∃ x : TV, ws = [x] ∧ ∃ v, x.val = Bm v ∧ nN o (.int .u8 a.toNat) (.int .u8 b.toNat) = Bm v := by
  have ha := a.toNat_lt
  have hb := b.toNat_lt
  cases o <;> simp only [TQ, qw.holds] at h <;> first | exact h.elim | skip
  all_goals first
    | (obtain ⟨hp, rfl⟩ := h; refine ⟨_, rfl, _, rfl, ?_⟩; simp only [Bool.not_eq_true', decide_eq_false_iff_not] at hp
       have tp : (b.toNat : Int) ≠ 0 := fun e => hp (UInt8.toNat_inj.1 (by simpa using e))
       simp only [nN, if_true, tp, if_false, aN, Value.int.injEq, true_and, UInt8.toNat_div, UInt8.toNat_mod, Ud, Int.tdiv_eq_ediv_of_nonneg (Int.natCast_nonneg a.toNat), Int.tmod_eq_emod_of_nonneg (Int.natCast_nonneg a.toNat)]
       first | (rw [← Int.natCast_ediv]; have := Nat.div_le_self a.toNat b.toNat; generalize a.toNat / b.toNat = q at this ⊢; omega) | omega)
    | (subst h; refine ⟨_, rfl, _, rfl, ?_⟩
       simp only [nN, if_true, aN, Value.int.injEq, Value.bool.injEq, true_and, Ud, da, IntKind.bits, aaI, UInt8.toNat_add, UInt8.toNat_sub, UInt8.toNat_mul]
       first | omega | (rw [aV (by omega) (by have := (a &&& b).toNat_lt; simp only [UInt8.toNat] at this ⊢; simp only [UInt8.toBitVec_and] at this; omega)]; rfl)
             | (rw [aV (by omega) (by have := (a ||| b).toNat_lt; simp only [UInt8.toNat] at this ⊢; simp only [UInt8.toBitVec_or] at this; omega)]; rfl)
             | (rw [aV (by omega) (by have := (a ^^^ b).toNat_lt; simp only [UInt8.toNat] at this ⊢; simp only [UInt8.toBitVec_xor] at this; omega)]; rfl)
             | (rw [aV (by omega) (by have := (a &&& ~~~b).toNat_lt; simp only [UInt8.toNat] at this ⊢; simp only [UInt8.toBitVec_and, UInt8.toBitVec_not] at this; omega)]; rfl)
             | (rw [bf]; simp [UInt8.lt_iff_toNat_lt, UInt8.le_iff_toNat_le, ← UInt8.toNat_inj]; omega)
             | (rw [bf]; simp [UInt8.lt_iff_toNat_lt, UInt8.le_iff_toNat_le, ← UInt8.toNat_inj]))
def Nh {o : BinOp} {a b : UInt16} {ws : List TV} (h : (Ni o a b).holds ws) : ∃ x : TV, ws = [x] ∧ ∃ v, x.val = Bm v ∧ nN o (.int .u16 a.toNat) (.int .u16 b.toNat) = Bm v := by
  have ha := a.toNat_lt
  have hb := b.toNat_lt
  cases o <;> simp only [Ni, qw.holds] at h <;> first | exact h.elim | skip
  all_goals first
    | (obtain ⟨hp, rfl⟩ := h; refine ⟨_, rfl, _, rfl, ?_⟩; simp only [Bool.not_eq_true', decide_eq_false_iff_not] at hp
       have tp : (b.toNat : Int) ≠ 0 := fun e => hp (UInt16.toNat_inj.1 (by simpa using e))
       simp only [nN, if_true, tp, if_false, aN, Value.int.injEq, true_and, UInt16.toNat_div, UInt16.toNat_mod, ln, Int.tdiv_eq_ediv_of_nonneg (Int.natCast_nonneg a.toNat), Int.tmod_eq_emod_of_nonneg (Int.natCast_nonneg a.toNat)]
       first | (rw [← Int.natCast_ediv]; have := Nat.div_le_self a.toNat b.toNat; generalize a.toNat / b.toNat = q at this ⊢; omega) | omega)
    | (subst h; refine ⟨_, rfl, _, rfl, ?_⟩
       simp only [nN, if_true, aN, Value.int.injEq, Value.bool.injEq, true_and, ln, da, IntKind.bits, aal, UInt16.toNat_add, UInt16.toNat_sub, UInt16.toNat_mul]
       first | omega | (rw [aV (by omega) (by have := (a &&& b).toNat_lt; simp only [UInt16.toNat] at this ⊢; simp only [UInt16.toBitVec_and] at this; omega)]; rfl)
             | (rw [aV (by omega) (by have := (a ||| b).toNat_lt; simp only [UInt16.toNat] at this ⊢; simp only [UInt16.toBitVec_or] at this; omega)]; rfl)
             | (rw [aV (by omega) (by have := (a ^^^ b).toNat_lt; simp only [UInt16.toNat] at this ⊢; simp only [UInt16.toBitVec_xor] at this; omega)]; rfl)
             | (rw [aV (by omega) (by have := (a &&& ~~~b).toNat_lt; simp only [UInt16.toNat] at this ⊢; simp only [UInt16.toBitVec_and, UInt16.toBitVec_not] at this; omega)]; rfl)
             | (rw [bf]; simp [UInt16.lt_iff_toNat_lt, UInt16.le_iff_toNat_le, ← UInt16.toNat_inj]; omega)
             | (rw [bf]; simp [UInt16.lt_iff_toNat_lt, UInt16.le_iff_toNat_le, ← UInt16.toNat_inj]))
def Nf {o : BinOp} {a b : UInt32} {ws : List TV} (h : (Ng o a b).holds ws) : ∃ x : TV, ws = [x] ∧ ∃ v, x.val = Bm v ∧ nN o (.int .u32 a.toNat) (.int .u32 b.toNat) = Bm v := by
  have ha := a.toNat_lt
  have hb := b.toNat_lt
  cases o <;> simp only [Ng, qw.holds] at h <;> first | exact h.elim | skip
  all_goals first
    | (obtain ⟨hp, rfl⟩ := h; refine ⟨_, rfl, _, rfl, ?_⟩; simp only [Bool.not_eq_true', decide_eq_false_iff_not] at hp
       have tp : (b.toNat : Int) ≠ 0 := fun e => hp (UInt32.toNat_inj.1 (by simpa using e))
       simp only [nN, if_true, tp, if_false, aN, Value.int.injEq, true_and, UInt32.toNat_div, UInt32.toNat_mod, Ue, Int.tdiv_eq_ediv_of_nonneg (Int.natCast_nonneg a.toNat), Int.tmod_eq_emod_of_nonneg (Int.natCast_nonneg a.toNat)]
       first | (rw [← Int.natCast_ediv]; have := Nat.div_le_self a.toNat b.toNat; generalize a.toNat / b.toNat = q at this ⊢; omega) | omega)
    | (subst h; refine ⟨_, rfl, _, rfl, ?_⟩
       simp only [nN, if_true, aN, Value.int.injEq, Value.bool.injEq, true_and, Ue, da, IntKind.bits, aak, UInt32.toNat_add, UInt32.toNat_sub, UInt32.toNat_mul]
       first | omega | (rw [aV (by omega) (by have := (a &&& b).toNat_lt; simp only [UInt32.toNat] at this ⊢; simp only [UInt32.toBitVec_and] at this; omega)]; rfl)
             | (rw [aV (by omega) (by have := (a ||| b).toNat_lt; simp only [UInt32.toNat] at this ⊢; simp only [UInt32.toBitVec_or] at this; omega)]; rfl)
             | (rw [aV (by omega) (by have := (a ^^^ b).toNat_lt; simp only [UInt32.toNat] at this ⊢; simp only [UInt32.toBitVec_xor] at this; omega)]; rfl)
             | (rw [aV (by omega) (by have := (a &&& ~~~b).toNat_lt; simp only [UInt32.toNat] at this ⊢; simp only [UInt32.toBitVec_and, UInt32.toBitVec_not] at this; omega)]; rfl)
             | (rw [bf]; simp [UInt32.lt_iff_toNat_lt, UInt32.le_iff_toNat_le, ← UInt32.toNat_inj]; omega)
             | (rw [bf]; simp [UInt32.lt_iff_toNat_lt, UInt32.le_iff_toNat_le, ← UInt32.toNat_inj]))
def Nc {o : BinOp} {a b : UInt64} {ws : List TV} (h : (Nd o a b).holds ws) : ∃ x : TV, ws = [x] ∧ ∃ v, x.val = Bm v ∧ nN o (.int .u64 a.toNat) (.int .u64 b.toNat) = Bm v := by
  have ha := a.toNat_lt
  have hb := b.toNat_lt
  cases o <;> simp only [Nd, qw.holds] at h <;> first | exact h.elim | skip
  all_goals first
    | (obtain ⟨hp, rfl⟩ := h; refine ⟨_, rfl, _, rfl, ?_⟩; simp only [Bool.not_eq_true', decide_eq_false_iff_not] at hp
       have tp : (b.toNat : Int) ≠ 0 := fun e => hp (aY.1 (by simpa using e))
       simp only [nN, if_true, tp, if_false, aN, Value.int.injEq, true_and, UInt64.toNat_div, UInt64.toNat_mod, jY, Int.tdiv_eq_ediv_of_nonneg (Int.natCast_nonneg a.toNat), Int.tmod_eq_emod_of_nonneg (Int.natCast_nonneg a.toNat)]
       first | (rw [← Int.natCast_ediv]; have := Nat.div_le_self a.toNat b.toNat; generalize a.toNat / b.toNat = q at this ⊢; omega) | omega)
    | (subst h; refine ⟨_, rfl, _, rfl, ?_⟩
       simp only [nN, if_true, aN, Value.int.injEq, Value.bool.injEq, true_and, jY, da, IntKind.bits, aaj, UInt64.toNat_add, UInt64.toNat_sub, UInt64.toNat_mul]
       first | omega | (rw [aV (by omega) (by have := (a &&& b).toNat_lt; simp only [UInt64.toNat] at this ⊢; simp only [UInt64.toBitVec_and] at this; omega)]; rfl)
             | (rw [aV (by omega) (by have := (a ||| b).toNat_lt; simp only [UInt64.toNat] at this ⊢; simp only [UInt64.toBitVec_or] at this; omega)]; rfl)
             | (rw [aV (by omega) (by have := (a ^^^ b).toNat_lt; simp only [UInt64.toNat] at this ⊢; simp only [UInt64.toBitVec_xor] at this; omega)]; rfl)
             | (rw [aV (by omega) (by have := (a &&& ~~~b).toNat_lt; simp only [UInt64.toNat] at this ⊢; simp only [UInt64.toBitVec_and, UInt64.toBitVec_not] at this; omega)]; rfl)
             | (rw [bf]; simp [aT, aK, ← aY]; omega)
             | (rw [bf]; simp [aT, aK, ← aY]))
def xf{a n b m:Nat}(hm:m=2^b):(a*2^(min n b))% m=(a*2^n)% m:=by subst hm;by_cases h:n<=b;{rw[Nat.min_eq_left h]};{rw[Nat.min_eq_right (by omega),show n=b+(n -b) by omega,Nat.pow_add,<-Nat.mul_assoc,Nat.mul_mod_left,Nat.mul_right_comm,Nat.mul_mod_left]}
def xd{a n b m:Nat}(hm:m=2^b)(ha:a<m):a/2^(min n b)=(a/2^n)% m:=by subst hm;rw[Nat.mod_eq_of_lt (Nat.lt_of_le_of_lt (Nat.div_le_self _ _) ha)];by_cases h:n<=b;{rw[Nat.min_eq_left h]};{rw[Nat.min_eq_right (by omega),Nat.div_eq_of_lt ha,Nat.div_eq_of_lt (Nat.lt_of_lt_of_le ha (Nat.pow_le_pow_right (by omega) (by omega)))]}
def ov(l:bE):ByteArray.toList ⟨⟨l⟩⟩=l:=by rw[ByteArray.toList_eq]
def qw.HT(r:qw)(P:TV->Prop):Prop:=∀ws,r.holds ws->∃x:TV,ws=[x]/\P x
def Nz(o:BinOp)(x y:TV)(z:TV):Prop:=∃a b v,x.val=Bm a/\y.val=Bm b/\nN o a b=Bm v/\z.val=Bm v
def wA{p:Option Bool}{ws r:List TV}(h:(qw.under p ws).holds r):r=ws/\∀b,p=Bm b->b=Qf:=by
 cases p with
 |none=>exact⟨h,λ_ e=>by cases e⟩
 |some p=>exact⟨h.2,λ_ e=>by cases e;exact h.1⟩
def Bc{y:TV}{p:Option Bool}{n:Nat}(h:y.count=Bm (p,n))(hp:∀b,p=Bm b->b=Qf):∃k m,y.val=Bm (.int k m)/\0<=m/\m.toNat=n:=by cases y<;>simp[TV.count]at h<;>obtain⟨rfl,rfl⟩:=h;{exact⟨_,_,rfl,by omega,by omega⟩};{exact⟨_,_,rfl,by omega,by omega⟩};{exact⟨_,_,rfl,by omega,by omega⟩};{exact⟨_,_,rfl,by omega,by omega⟩};{rename_i k m;have:=hp _ rfl;exact⟨_,_,rfl,by simpa using this,rfl⟩}
theorem Ou(a:UInt8)(n:Nat):IntKind.u8.wrap ((a.toNat:Int)*2^(min n 8))=((pj a n).toNat:Int):=by rw[Ud,pj,UInt8.toNat_ofNat',show((a.toNat:Int)*2^(min n 8))=((a.toNat*2^(min n 8):Nat):Int) by simp];have:=xf (a:=a.toNat) (n:=n) (b:=8) (m:=256) (by decide);rw[show(2^8:Nat)=256 by decide];omega
theorem Oq(a:UInt8)(n:Nat):IntKind.u8.wrap ((a.toNat:Int).fdiv (2^(min n 8)))=((oF a n).toNat:Int):=by rw[Ud,oF,UInt8.toNat_ofNat',Int.fdiv_eq_ediv_of_nonneg _ (Int.le_of_lt (Int.pow_pos (by decide))),show((a.toNat:Int)/2^(min n 8))=((a.toNat/2^(min n 8):Nat):Int) by simp];have:=xd (a:=a.toNat) (n:=n) (b:=8) (m:=256) (by decide) (by have:=a.toNat_lt;simpa using this);rw[show(2^8:Nat)=256 by decide];omega
theorem KQ(a:UInt16)(n:Nat):IntKind.u16.wrap ((a.toNat:Int)*2^(min n 16))=((KR a n).toNat:Int):=by rw[ln,KR,UInt16.toNat_ofNat',show((a.toNat:Int)*2^(min n 16))=((a.toNat*2^(min n 16):Nat):Int) by simp];have:=xf (a:=a.toNat) (n:=n) (b:=16) (m:=65536) (by decide);rw[show(2^16:Nat)=65536 by decide];omega
theorem KM(a:UInt16)(n:Nat):IntKind.u16.wrap ((a.toNat:Int).fdiv (2^(min n 16)))=((uo a n).toNat:Int):=by rw[ln,uo,UInt16.toNat_ofNat',Int.fdiv_eq_ediv_of_nonneg _ (Int.le_of_lt (Int.pow_pos (by decide))),show((a.toNat:Int)/2^(min n 16))=((a.toNat/2^(min n 16):Nat):Int) by simp];have:=xd (a:=a.toNat) (n:=n) (b:=16) (m:=65536) (by decide) (by have:=a.toNat_lt;simpa using this);rw[show(2^16:Nat)=65536 by decide];omega
theorem KP(a:UInt32)(n:Nat):IntKind.u32.wrap ((a.toNat:Int)*2^(min n 32))=((uq a n).toNat:Int):=by rw[Ue,uq,UInt32.toNat_ofNat',show((a.toNat:Int)*2^(min n 32))=((a.toNat*2^(min n 32):Nat):Int) by simp];have:=xf (a:=a.toNat) (n:=n) (b:=32) (m:=4294967296) (by decide);rw[show(2^32:Nat)=4294967296 by decide];omega
theorem KL(a:UInt32)(n:Nat):IntKind.u32.wrap ((a.toNat:Int).fdiv (2^(min n 32)))=((xW a n).toNat:Int):=by rw[Ue,xW,UInt32.toNat_ofNat',Int.fdiv_eq_ediv_of_nonneg _ (Int.le_of_lt (Int.pow_pos (by decide))),show((a.toNat:Int)/2^(min n 32))=((a.toNat/2^(min n 32):Nat):Int) by simp];have:=xd (a:=a.toNat) (n:=n) (b:=32) (m:=4294967296) (by decide) (by have:=a.toNat_lt;simpa using this);rw[show(2^32:Nat)=4294967296 by decide];omega
theorem KN(a:UInt64)(n:Nat):IntKind.u64.wrap ((a.toNat:Int)*2^(min n 64))=((kZ a n).toNat:Int):=by rw[jY,kZ,UInt64.toNat_ofNat',show((a.toNat:Int)*2^(min n 64))=((a.toNat*2^(min n 64):Nat):Int) by simp];have:=xf (a:=a.toNat) (n:=n) (b:=64) (m:=18446744073709551616) (by decide);rw[show(2^64:Nat)=18446744073709551616 by decide];omega
theorem KK(a:UInt64)(n:Nat):IntKind.u64.wrap ((a.toNat:Int).fdiv (2^(min n 64)))=((dc a n).toNat:Int):=by rw[jY,dc,UInt64.toNat_ofNat',Int.fdiv_eq_ediv_of_nonneg _ (Int.le_of_lt (Int.pow_pos (by decide))),show((a.toNat:Int)/2^(min n 64))=((a.toNat/2^(min n 64):Nat):Int) by simp];have:=xd (a:=a.toNat) (n:=n) (b:=64) (m:=18446744073709551616) (by decide) (by have:=a.toNat_lt;simpa using this);rw[show(2^64:Nat)=18446744073709551616 by decide];omega
def xe{w:Nat}{m:Int}(a:Nat)(k:Nat)(h:(a:Int)<m):0<=(a:Int).fdiv (2^k)/\(a:Int).fdiv (2^k)<m:=by rw[Int.fdiv_eq_ediv_of_nonneg _ (Int.le_of_lt (Int.pow_pos (by decide)))];refine⟨Int.ediv_nonneg (by omega) (Int.le_of_lt (Int.pow_pos (by decide))),?_⟩;rw[show((a:Int)/2^k)=((a/2^k:Nat):Int) by simp];have:=Nat.div_le_self a (2^k);omega
def Ot(x y:TV):(RQ x y).HT (Nz .shl x y):=by intro ws h;unfold RQ at h;split at h;{rename_i p n hc;have key:∀{r:TV}{u:IntKind}{a:Int},(qw.under p [r]).holds ws->x.val=Bm (.int u a)->r.val=Bm (.int u (u.wrap (a*2^(min n u.bits))))->∃z:TV,ws=[z]/\Nz .shl x y z:=by{intro r u a h hx hr;obtain⟨rfl,hp⟩:=wA h;obtain⟨k,m,h1,h2,rfl⟩:=Bc hc hp;refine⟨_,rfl,_,_,_,hx,h1,?_,hr⟩;simp only[nN,Int.not_lt.2 h2,if_false]};split at h;{exact key h rfl (by rw[show IntKind.u8.bits=8 from rfl,Ou];rfl)};{exact key h rfl (by rw[show IntKind.u16.bits=16 from rfl,KQ];rfl)};{exact key h rfl (by rw[show IntKind.u32.bits=32 from rfl,KP];rfl)};{exact key h rfl (by rw[show IntKind.u64.bits=64 from rfl,KN];rfl)};{exact key h rfl rfl};{exact h.elim}};{exact h.elim}
def Oo(x y:TV):(RP x y).HT (Nz .shr x y):=by intro ws h;unfold RP at h;split at h;{rename_i p n hc;have key:∀{r:TV}{u:IntKind}{a:Int},(qw.under p [r]).holds ws->x.val=Bm (.int u a)->r.val=Bm (.int u (a.fdiv (2^(min n u.bits))))->∃z:TV,ws=[z]/\Nz .shr x y z:=by{intro r u a h hx hr;obtain⟨rfl,hp⟩:=wA h;obtain⟨k,m,h1,h2,rfl⟩:=Bc hc hp;refine⟨_,rfl,_,_,_,hx,h1,?_,hr⟩;simp only[nN,Int.not_lt.2 h2,if_false]};split at h;{rename_i a;have q:=xe (w:=0) a.toNat (min n 8) (m:=256) (by have:=a.toNat_lt;simp at this;omega);exact key h rfl (by rw[show IntKind.u8.bits=8 from rfl];simp only[TV.val];rw[<-Oq,Ud,aV q.1 q.2])};{rename_i a;have q:=xe (w:=0) a.toNat (min n 16) (m:=65536) (by have:=a.toNat_lt;simp at this;omega);exact key h rfl (by rw[show IntKind.u16.bits=16 from rfl];simp only[TV.val];rw[<-KM,ln,aV q.1 q.2])};{rename_i a;have q:=xe (w:=0) a.toNat (min n 32) (m:=4294967296) (by have:=a.toNat_lt;simp at this;omega);exact key h rfl (by rw[show IntKind.u32.bits=32 from rfl];simp only[TV.val];rw[<-KL,Ue,aV q.1 q.2])};{rename_i a;have q:=xe (w:=0) a.toNat (min n 64) (m:=18446744073709551616) (by have:=a.toNat_lt;simp at this;omega);exact key h rfl (by rw[show IntKind.u64.bits=64 from rfl];simp only[TV.val];rw[<-KK,jY,aV q.1 q.2])};{exact key h rfl rfl};{exact h.elim}};{exact h.elim}
def P2{o:BinOp}{k:IntKind}{a b:Int}{ws:List TV}(h:(TP o k a b).holds ws):∃x:TV,ws=[x]/\∃v,x.val=Bm v/\nN o (.int k a) (.int k b)=Bm v:=by
 (cases o<;>simp only[TP,qw.holds]at h<;>first|exact h.elim|skip);all_goals first
  |(obtain⟨hp,rfl⟩:=h;refine⟨_,rfl,_,rfl,?_⟩;simp only[Bool.not_eq_true',decide_eq_false_iff_not]at hp;simp only[nN,if_true,hp,if_false])
  |(subst h;refine⟨_,rfl,_,rfl,?_⟩;simp only[nN,if_true,aN,Value.bool.injEq];first|done|(rw[bf];simp))
def P1{o:BinOp}{a b:bE}{ws:List TV}(h:(TN o a b).holds ws):∃x:TV,ws=[x]/\∃v,x.val=Bm v/\nN o (.string ⟨⟨a⟩⟩) (.string ⟨⟨b⟩⟩)=Bm v:=by(cases o<;>simp only[TN,qw.holds]at h<;>first|exact h.elim|skip);{obtain⟨hp,rfl⟩:=h;refine⟨_,rfl,_,rfl,?_⟩;simp only[nN];have hp:a.length+b.length<=9223372036854775807:=by{simpa using hp};rw[ak];{simp only[aN,Value.string.injEq];apply ByteArray.ext;apply Array.ext';simp};{have:IntKind.i64.max=9223372036854775807:=by{decide};rw[this];simp only[ByteArray.size,Array.size];omega}};{subst h;refine⟨_,rfl,_,rfl,?_⟩;simp only[nN,ov,aN,Value.bool.injEq];rw[bf];simp};{subst h;refine⟨_,rfl,_,rfl,?_⟩;simp only[nN,ov,aN,Value.bool.injEq];rw[bf];simp};{subst h;refine⟨_,rfl,_,rfl,?_⟩;show Bm (Value.bool _)=_;simp only[ov]};{subst h;refine⟨_,rfl,_,rfl,?_⟩;show Bm (Value.bool _)=_;have e:(a==b)=nP (a=b):=by{rw[bf];simp};simp only[ov,e]};{subst h;refine⟨_,rfl,_,rfl,?_⟩;show Bm (Value.bool _)=_;have e:(a==b)=nP (a=b):=by{rw[bf];simp};simp only[ov,e]};{subst h;refine⟨_,rfl,_,rfl,?_⟩;show Bm (Value.bool _)=_;simp only[ov]}
def PF{o:BinOp}{a b:Value}{ws:List TV}(h:(Th o a b).holds ws):∃x:TV,ws=[x]/\∃v,Er o a b=Bm v/\x.val=Bm v:=by unfold Th at h;split at h;{obtain⟨h1,rfl⟩:=h;exact⟨_,rfl,_,ar h1,rfl⟩};{obtain⟨h1,rfl⟩:=h;exact⟨_,rfl,_,ar h1,rfl⟩};{obtain⟨h1,rfl⟩:=h;exact⟨_,rfl,_,ar h1,rfl⟩};{cases h;exact⟨_,rfl,_,rfl,rfl⟩};{cases h;exact⟨_,rfl,_,rfl,rfl⟩};{cases h;exact⟨_,rfl,_,rfl,rfl⟩};{cases h;exact⟨_,rfl,_,rfl,rfl⟩};{cases h;exact⟨_,rfl,_,rfl,rfl⟩};{cases h;exact⟨_,rfl,_,rfl,rfl⟩};{obtain⟨h1,rfl⟩:=h;exact⟨_,rfl,_,ar h1,rfl⟩};{obtain⟨h1,rfl⟩:=h;exact⟨_,rfl,_,ar h1,rfl⟩};{exact h.elim}
def JA{o:BinOp}{a b v:Value}(h:Er o a b=Bm v)(h1:xo o=Kk):nN o a b=Bm v:=by unfold Er at h;split at h<;>first|(cases h;done)|exact h
def PZ(o:BinOp)(x y:TV):(P0 o x y).HT (Nz o x y):=by intro ws h;unfold P0 at h;split at h;{rename_i e;have:o=.shl:=by{cases o<;>simp[xo]at e⊢};subst this;exact Ot x y ws h};{rename_i e;have:o=.shr:=by{cases o<;>simp[xo]at e⊢};subst this;exact Oo x y ws h};{split at h;{obtain⟨x,h1,v,h2,h3⟩:=P3 h;exact⟨x,h1,_,_,v,rfl,rfl,h3,h2⟩};{obtain⟨x,h1,v,h2,h3⟩:=Nh h;exact⟨x,h1,_,_,v,rfl,rfl,h3,h2⟩};{obtain⟨x,h1,v,h2,h3⟩:=Nf h;exact⟨x,h1,_,_,v,rfl,rfl,h3,h2⟩};{obtain⟨x,h1,v,h2,h3⟩:=Nc h;exact⟨x,h1,_,_,v,rfl,rfl,h3,h2⟩};{split at h;{rename_i e;subst e;obtain⟨x,h1,v,h2,h3⟩:=P2 h;exact⟨x,h1,_,_,v,rfl,rfl,h3,h2⟩};{exact h.elim}};{obtain⟨x,h1,v,h2,h3⟩:=P1 h;exact⟨x,h1,_,_,v,rfl,rfl,h3,h2⟩};{rename_i e _ _ _ _;obtain⟨x,h1,v,h2,h3⟩:=PF h;exact⟨x,h1,_,_,v,rfl,rfl,JA h2 (by assumption),h3⟩};{exact h.elim}}
def OV(a:UInt8):da .xor .u8 (if IntKind.u8.signed then -1 else IntKind.u8.max) a.toNat=((~~~a).toNat:Int):=by have em:(if IntKind.u8.signed then(-1:Int)else IntKind.u8.max)=255:=by{decide};have e:BitVec.ofInt 8 255=BitVec.allOnes 8:=by{decide};rw[em];simp only[da,IntKind.bits];rw[e,aaI,Ud];show(((BitVec.allOnes 8^^^a.toBitVec:BitVec 8).toNat:Int))%256=_;rw[BitVec.allOnes_xor];have:=(~~~a).toNat_lt;simp only[UInt8.toNat,UInt8.toBitVec_not]at this⊢;omega
def Lg(a:UInt16):da .xor .u16 (if IntKind.u16.signed then -1 else IntKind.u16.max) a.toNat=((~~~a).toNat:Int):=by have em:(if IntKind.u16.signed then(-1:Int)else IntKind.u16.max)=65535:=by{decide};have e:BitVec.ofInt 16 65535=BitVec.allOnes 16:=by{decide};rw[em];simp only[da,IntKind.bits];rw[e,aal,ln];show(((BitVec.allOnes 16^^^a.toBitVec:BitVec 16).toNat:Int))%65536=_;rw[BitVec.allOnes_xor];have:=(~~~a).toNat_lt;simp only[UInt16.toNat,UInt16.toBitVec_not]at this⊢;omega
def Lf(a:UInt32):da .xor .u32 (if IntKind.u32.signed then -1 else IntKind.u32.max) a.toNat=((~~~a).toNat:Int):=by have em:(if IntKind.u32.signed then(-1:Int)else IntKind.u32.max)=4294967295:=by{decide};have e:BitVec.ofInt 32 4294967295=BitVec.allOnes 32:=by{decide};rw[em];simp only[da,IntKind.bits];rw[e,aak,Ue];show(((BitVec.allOnes 32^^^a.toBitVec:BitVec 32).toNat:Int))%4294967296=_;rw[BitVec.allOnes_xor];have:=(~~~a).toNat_lt;simp only[UInt32.toNat,UInt32.toBitVec_not]at this⊢;omega
def Ld(a:UInt64):da .xor .u64 (if IntKind.u64.signed then -1 else IntKind.u64.max) a.toNat=((~~~a).toNat:Int):=by have em:(if IntKind.u64.signed then(-1:Int)else IntKind.u64.max)=18446744073709551615:=by{decide};have e:BitVec.ofInt 64 18446744073709551615=BitVec.allOnes 64:=by{decide};rw[em];simp only[da,IntKind.bits];rw[e,aaj,jY];show(((BitVec.allOnes 64^^^a.toBitVec:BitVec 64).toNat:Int))%18446744073709551616=_;rw[BitVec.allOnes_xor];have:=(~~~a).toNat_lt;simp only[UInt64.toNat,UInt64.toBitVec_not]at this⊢;omega
def Rv (o : UnOp) (x : TV) : (WO o x).HT (fun z => ∃ a v, x.val = Bm a ∧ Yt o a = Bm v ∧ z.val = Bm v) := by
  intro ws h
  unfold WO at h
  split at h <;> first
    | exact h.elim
    | (cases h; exact ⟨_, rfl, _, _, rfl, rfl, rfl⟩)
    | (cases h; refine ⟨_, rfl, _, _, rfl, rfl, ?_⟩
       rename_i a
       have := a.toNat_lt
       simp only [TV.val, aN, Value.int.injEq, true_and]
       first
         | (rw [Ud, UInt8.toNat_sub]; simp; omega)
         | (rw [ln, UInt16.toNat_sub]; simp; omega)
         | (rw [Ue, UInt32.toNat_sub]; simp; omega)
         | (rw [jY, UInt64.toNat_sub]; simp; omega)
         | exact (OV a).symm | exact (Lg a).symm | exact (Lf a).symm | exact (Ld a).symm)
def si(P:Program)(t:TypeId):Bool:=match P.underlying t with
 |some (.struct fs)=>fs.toList.all λf=>(P.info? f.type).isSome
 |some (.array _ e)=>(P.info? e).isSome
 |_=>Qg
structure ku (P:Program) (E:cz):Prop where
 mixed:P.follows .mixedOrders=Qf
 ty:∀t st b,E.ty t=Bm (st,b)->∃e i z,P.underlying t=Bm (.slice e)/\P.info? e=Bm i/\i.size=st.size/\i.bytes=b/\i.zero=Bm z/\z.cells.size=st.size/\∀R w,dn R w (st.tv st.dH).cells z.cells.toList
 z:∀t l,E.z t=Bm l->si P t=Qf/\∃v,(P.info? t).bind (·.zero)=Bm v/\rp v.cells.toList l=Qf
section
variable{R:Reach}{w:World}
theorem Pe {k : IntKind} {n : Int} {x : TV} (h : Sq k n = Bm x) : x.val = Bm (.int k n) := by
  unfold Sq at h
  split at h <;> first
    | (obtain ⟨h1, h2⟩ := bG.1 h
       cases h2
       simp only [ah, aC] at h1
       simp [TV.val]
       omega)
    | (cases h; rfl)
theorem Ol(s:ByteArray):(⟨⟨s.data.toList⟩⟩:ByteArray)=s:=rfl
theorem RU{v:Value}{x:TV}(h:YY v=Bm x):x.val=Bm v:=by unfold YY at h;split at h<;>first|exact Pe h|(cases h;done)|(cases h;rfl)
theorem xF{v:Value}{x:TV}(h:GZ v x=Qf):Rep R w x v/\v.oneCell'=Qf:=by unfold GZ at h;(split at h<;>first|(cases h;done)|skip);{exact⟨.nl _,rfl⟩};(all_goals simp only[beq_iff_eq,ah]at h);{subst h;exact⟨.sc rfl,rfl⟩};{subst h;exact⟨.sc rfl,rfl⟩};{subst h;exact⟨.sc rfl,rfl⟩};{subst h;exact⟨.sc rfl,rfl⟩};{subst h;exact⟨.sc rfl,rfl⟩};{obtain⟨rfl,rfl⟩:=h;exact⟨.sc rfl,rfl⟩};{subst h;exact⟨.sc (by simp only[TV.val,Ol]),rfl⟩};{obtain⟨rfl,rfl⟩:=h;exact⟨.sc rfl,rfl⟩};{obtain⟨⟨rfl,rfl⟩,rfl⟩:=h;exact⟨.sc rfl,rfl⟩};{exact⟨.sc rfl,rfl⟩};{exact⟨.sc rfl,rfl⟩};{exact⟨.sc rfl,rfl⟩}
theorem sr:∀{vs:List Value}{xs:List TV},rp vs xs=Qf->dn R w xs vs
 |[],[],_=>.nil
 |v::vs,x::xs,h=>by simp only[rp,ah]at h;exact .cons (xF (R:=R) (w:=w) h.1).2 (xF h.1).1 (sr h.2)
 |[],_::_,h=>by simp[rp]at h
 |_::_,[],h=>by simp[rp]at h
theorem Rep.cq{x:TV}{u v:Value}(h:Rep R w x v)(hx:x.val=Bm u):v=u:=by cases h<;>first|(simp[TV.val]at hx;done)|(rename_i h;rw[h]at hx;exact Option.some.inj hx)
end
section
variable{P:Program}
theorem ig{t:TypeId}{n:Nat}{agg:Bool}(h:ky P t=Bm (n,agg)):∃i,P.info? t=Bm i/\i.size=n/\∀w,(isAgg t).run P w=.ok agg w:=by unfold ky at h;rw[aQ]at h;obtain⟨i,h1,h2⟩:=h;rw[aO]at h2;obtain⟨d,hd,h2⟩:=h2;simp only[Prod.mk.injEq]at h2;refine⟨i,h1,h2.1,λw=>?_⟩;unfold isAgg;simp only[Sem.run_bind,run_underlying hd,Result.andThen_ok];rw[<-h2.2];cases d<;>rfl
theorem wN{t:TypeId}{f:Nat}{fl:Field}(h:vW P t f=Bm fl):∃fs,P.underlying t=Bm (.struct fs)/\fs[f]?=Bm fl:=by
 unfold vW at h;cases hu:P.underlying t with
 |none=>simp[hu]at h
 |some d=>simp only[hu,Option.bind_some]at h;split at h<;>simp_all
theorem Ub{t:TypeId}{i:TypeInfo}(h:P.info? t=Bm i)(w:World):(sizeOf t).run P w=.ok i.size w:=by simp[sizeOf,typeInfo,h]
theorem j9{t:TypeId}{i:TypeInfo}{agg:Bool}(hi:P.info? t=Bm i)(ha:∀w,(isAgg t).run P w=.ok agg w)(h1:agg=Qf\/i.size=1){w:World}{b off:Nat}{ys:List Value}(hl:ys.length=i.size)(hc:∀j y,ys[j]?=Bm y->w.cell? ⟨b,off+j,Kk⟩=Bm y):(loadVar t ⟨b,off,Kk⟩).run P w=.ok (if agg then .agg ⟨ys⟩else ys.headD undef) w:=by
 unfold loadVar;simp only[Sem.run_bind,ha,Result.andThen_ok];cases agg with
 |true=>
  have:=run_loadCells_list (P:=P) w ⟨b,off,Kk⟩ ys (λj v hj=>by
   have h:=hc j v hj;unfold Addr.add;split;{rename_i e;subst e;exact h}
   ·exact h)
  simp[Ub hi,<-hl,this]
 |false=>
  have hs:i.size=1:=by{simpa using h1};match ys,hl with
  |[y],_=>have:=hc 0 y rfl;simp at this;simp[this]
  |[],hl=>simp[hs]at hl
  |_::_::_,hl=>simp[hs]at hl
end
def KD{α:Type}{l:List α}{i:Nat}(h:i<l.length):(l.drop i).take 1=[l[i]]:=by rw[List.drop_eq_getElem_cons h,List.take_succ_cons,List.take_zero]
theorem ak3(b:ByteArray):b.data.toList.length=b.size:=by rw[Array.length_toList];rfl
theorem Uc(b off n:Nat):(⟨b,off,Kk⟩:Addr).add n=⟨b,off+n,Kk⟩:=by unfold Addr.add;split;{rename_i e;subst e;rfl};{rfl}
section
variable{R:Reach}{w:World}
theorem Rep.FH{t:eu}{l:List t.El}{y:Value}(h:Rep R w (.sl t l) y):(l=[]/\y=.slice Kk 0 0)\/(∃b off cap,y=.slice (Bm ⟨b,off,Kk⟩) l.length cap/\l.length<=cap/\cap<=maxLen/\mh R w t.size (l.map t.tv) b off)\/(l=[]/\∃ad cap,y=.slice (Bm ad) 0 cap/\cap<=maxLen):=by
 cases h with
 |sc h=>cases h
 |sn=>exact .inl ⟨rfl,rfl⟩
 |sl h1 h2 h3 h4=>subst h1;exact .inr (.inl ⟨_,_,_,rfl,h2,h3,h4⟩)
 |em _ h=>exact .inr (.inr ⟨rfl,_,_,rfl,h⟩)
theorem Rep.FR{x:TV}{y:Value}(h:Rep R w (.ro x) y):∃b off s,y=.pointer (Bm ⟨b,off,Kk⟩)/\oh R w s x b off:=by
 cases h with
 |sc h=>cases h
 |ro h=>exact⟨_,_,_,rfl,h⟩
theorem Rep.Nu{cs:List TV}{y:Value}(h:Rep R w (.ag cs) y):∃ys,y=.agg ⟨ys⟩/\dn R w cs ys:=by
 cases h with
 |sc h=>cases h
 |ag h=>exact⟨_,rfl,h⟩
theorem Rep.Ry{cs:List TV}{y:Value}(h:Rep R w (.tu cs) y):∃ys,y=.tuple ⟨ys⟩/\hO R w cs ys:=by
 cases h with
 |sc h=>cases h
 |tu h=>exact⟨_,rfl,h⟩
theorem Va{x:TV}{ys:List Value}(h:dn R w x.cells ys):Rep R w x (if x.wV then .agg ⟨ys⟩else ys.headD undef):=by
 cases x with
 |ag cs=>exact .ag h
 |_=>
  simp only[TV.cells,TV.wV]at h⊢;cases h with
  |cons _ h1 h2=>cases h2;simpa using h1
theorem rM{cs:List TV}{ys:List Value}{o n:Nat}{agg:Bool}{x:TV}(h:dn R w cs ys)(hp:py cs o n agg=Bm x)(h1:agg=Qf\/n=1):((ys.drop o).take n).length=n/\Rep R w x (if agg then .agg ⟨(ys.drop o).take n⟩else((ys.drop o).take n).headD undef):=by
 have hlen:=h.length;unfold py at hp;cases agg with
 |true=>
  cases hb:Nat.ble (o+n) cs.length with
  |true=>rw[hb]at hp;cases hp;have:=Nat.le_of_ble_eq_true hb;exact⟨by simp;omega,.ag ((h.drop o).take n)⟩
  |false=>rw[hb]at hp;cases hp
 |false=>simp at h1;subst h1;simp at hp;obtain⟨y,Ji,_,Jh⟩:=h.get o x hp;have gS:=(aG.1 Ji).1;refine⟨by simp;omega,?_⟩;have:(ys.drop o).take 1=[y]:=by{rw[KD gS,(aG.1 Ji).2]};simpa[this]using Jh
end
section
variable{C:Ctx}{S V:St}{a:Act}{w:World}{R:Reach}{τ:Nat->Value}{o:Oper}{d:Nat}
theorem dP.no{x:TV}{v:Value}(h:Rep R w x v):dP R w τ x .no v:=by
 cases x with
 |gd q x=>cases q with
  |false=>cases h with
   |sc h=>cases h
   |V9=>rfl
  |true=>cases h with
   |sc h=>cases h
   |Uz h=>exact h
 |_=>exact h
def eW(C:Ctx)(o:Oper)(a:Act)(w:World)(S:St):Prop:=∀(K:Act->World->Prop)(Q:Exit->Act->World->Prop),(∀a' w',wx C S a' w'->K a' w')->o.wp C.P a w K Q
theorem eI.fz(h:eI C S a w R τ){S':St}{R':Reach}(hc:Core C.nt R' w C.dz τ S')(k:Fz C.dz R w R'):eI C S' a w R' τ:={h with core:=hc,ext:=h.ext.reach k.1 k.2,gl:=h.gl.dr k.1}
theorem eI.val(h:eI C S a w R τ)(hd:o.dst=Bm d)(hl:d<C.nt){v:Value}{x:TV}{g:Gh}(hr:(execOp a.eval o).run C.P w=.ok (.value v) w)(hs:dP R w τ x g v)(hg:g.slot=Qf)(hm:∀k∈g.cQ,C.nt<=k/\(S k).2≠.no):eW C o a w (cH S d (x,g)):=λK Q hK=>by unfold Oper.wp;rw[hr,Oper.upon_value,hd];refine hK _ _ ⟨R,_,by simp[Act.put,h.size],h.defers,h.core.put hl hs hg hm,λt ht=>?_,⟨h.io.1,λk hk=>?_⟩,h.ext,h.gl⟩;{by_cases e:t=d;{subst e;rw[fw];simp[Act.put,Array.getD,h.size,ht]};{rw[fN _ _ e,<-h.tmps t ht];simp only[Act.put,Array.getD_eq_getD_getElem?];rw[Array.getElem?_setIfInBounds_ne (Ne.symm e)]}};{have:=h.io.1;rw[fN _ _ (by omega)];exact h.io.2 k hk}
theorem eI.iH(h:eI C S a w R τ)(hd:o.dst=Bm d)(hl:d<C.nt){v:Value}{x:TV}(hr:(execOp a.eval o).run C.P w=.ok (.value v) w)(hs:Rep R w x v):eW C o a w (cH S d (x,.no)):=h.val hd hl hr (.no hs) rfl (by simp[Gh.cQ])
theorem dP.at{x:TV}{g:Gh}{v:Value}(h:dP R w τ x g v)(hx:∀q y,x≠.gd q y):jH R w τ x g v:=by unfold dP at h;split at h;{exact(hx _ _ rfl).elim};{exact(hx _ _ rfl).elim};{exact h}
variable(h:eI C S a w R τ)(hV:Lt V S)
include h hV
theorem gR{t:TypeId}{x:Operand}{c:Cell}(he:gU C.E C.nt V t x=Bm c):dP R w τ c.1 c.2 (a.eval x)/\c.2.slot=Qf/\∀m∈c.2.cQ,C.nt<=m/\(S m).2≠.no:=by unfold gU at he;split at he;{rename_i i;obtain⟨h1,h2⟩:=bG.1 he;have hi:i<C.nt:=Nat.le_of_ble_eq_true h1;split at h2;{cases h2};{rename_i hn;cases h2;have e:V i=S i:=(hV i).resolve_right λe=>hn (V i).1 (by rw[<-e]);have hk:=h.core.key i;have hs:=h.core.slt i hi;rw[kt.slot hs]at hk;rw[e];exact⟨by simp only[Act.eval];rw[h.tmps i hi];exact hk,hs,h.core.inv i⟩}};{rename_i v;simp only[aO]at he;obtain⟨y,h1,rfl⟩:=he;refine⟨?_,rfl,by simp[Gh.cQ]⟩;have hr:Rep R w y v:=by{unfold MZ at h1;split at h1;{simp only[aO]at h1;obtain⟨p,_,rfl⟩:=h1;exact .nl _};{rename_i cs;rw[aQ]at h1;obtain⟨z,_,h1⟩:=h1;obtain⟨h2,h3⟩:=bG.1 h1;cases h3;clear h1;cases cs;exact .ag (sr h2)};{exact .sc (RU h1)}};exact .no hr};{cases he;exact⟨Rep.sc rfl,rfl,by simp[Gh.cQ]⟩};{cases he}
theorem fe{t:TypeId}{x:Operand}{y:TV}(he:gU C.E C.nt V t x=Bm (y,.no)):Rep R w y (a.eval x):=jH.rep (gR h hV he).1
theorem pE{x:Operand}{n:Int}(he:tP C.E C.nt V x=Bm n):∃k,a.eval x=.int k n:=by unfold tP at he;split at he;{rename_i y e;simp only[aO]at he;obtain⟨⟨k,m⟩,h1,rfl⟩:=he;exact⟨k,(fe h hV e).cq (TV.D9 h1)⟩};{cases he}
theorem BG{t:TypeId}{x:Operand}{c:Cell}{y:TV}(he:gU C.E C.nt V t x=Bm c)(hr:zE V c=Bm y):(∃t l,y=.sl t l/\∃k,c=(.pt,.dB k)/\a.eval x=τ k/\∃p,fi R w p (a.eval x) y)\/Rep R w y (a.eval x):=by
 obtain⟨h1,_,_⟩:=gR h hV he;obtain⟨z,g⟩:=c;cases g with
 |no=>simp only[zE,aN]at hr;subst hr;exact .inr (BN (jH.rep h1))
 |dB k=>(cases z<;>try(simp only[zE]at hr;cases hr));have h1:a.eval x=τ k:=h1.1;simp only[zE]at hr;have hk:=h.core.key k;have WQ:∀{p y},fi R w p (τ k) y->∃t l,y=.sl t l/\∃q,(.pt,Gh.dB k)=(TV.pt,Gh.dB q)/\a.eval x=τ q/\∃p,fi R w p (a.eval x) y:=λ{p y}hs=>by{obtain⟨t,l,e,_⟩:=id hs;exact⟨t,l,e,k,rfl,h1,_,by rw[h1];exact hs⟩};(split at hr<;>first|(cases hr;done)|(rename_i e;cases hr;have e:=hV.of e));{left;rw[e]at hk;exact WQ hk};{left;rw[e]at hk;exact WQ hk};{right;rw[e]at hk;rw[h1];exact hk};{left;exact WQ (h.core.waits e)};{left;rw[e]at hk;exact WQ hk}
 |_=>simp only[zE]at hr;cases hr
end
def qw.GF{r:qw}{e:gT}(h:r.QZ=Bm e)(hp:∀p,e.p=Bm p->p=Qf):∃x,r.holds [x]/\e.x=(x,.no)/\e.ws=[]:=by unfold qw.QZ at h;split at h<;>cases h;{exact⟨_,rfl,rfl,rfl⟩};{exact⟨_,⟨hp _ rfl,rfl⟩,rfl,rfl⟩}
def uV{S:St}{e:gT}{x:Cell}{d:Nat}{o:Oper}(hd:o.dst=Bm d)(h1:e.x=x)(h2:e.ws=[]):iU S o.dst e=cH S d x:=by rw[hd];unfold iU;rw[h1,h2];rfl
def Nb{P:Program}{w:World}{op:BinOp}{t:TypeId}{x y z:Value}(h:nN op x y=Bm z):(binOp op t x y).run P w=.ok z w:=by
 unfold nN at h;split at h;(all_goals repeat' split at h);all_goals first
  |(cases h;done)
  |(cases h;simp only[binOp,Op.shift,Sem.run_ite];rw[ak (by assumption)];rfl)
  |(cases h;simp_all[binOp,Op.shift,Op.intArith,Op.intDiv,Op.intBits,Op.intCmp,Op.stringOp,da];done)
  |exact Mm h
  |skip
def Oa{P:Program}{w:World}{op:UnOp}{x z:Value}(h:Yt op x=Bm z):(Op.unary op x).run P w=.ok z w:=by unfold Yt at h;split at h<;>cases h<;>first|exact zM|simp[Op.unary,Op.intArith,Op.intBits,da]
def K7{t:Bool}{x y z:TV}(h:K8 t x y=Bm z):z=if t then x else y:=by unfold K8 at h;(split at h<;>first|(cases h<;>cases t<;>rfl)|skip);split at h;{rename_i e;subst e;cases h;cases t<;>rfl};{cases h}
def TV.EZ{R:Reach}{w:World}{x:TV}{v:Value}(h:Rep R w x v)(hq:∀q,x.M1=Bm q->q=Qf):Rep R w x.bare v:=by
 cases x with
 |gd q x=>
  have:=hq q rfl;subst this;cases h with
  |sc h=>cases h
  |Uz h=>exact h
 |_=>exact h
def IP{R:Reach}{w:World}{t:Bool}{x y z:TV}{v:Value}(h:(Hm t x y).holds [z])(hr:Rep R w (if t then x else y) v):Rep R w z v:=by
 unfold Hm at h;split at h
 ·rename_i u hu;have hu:=K7 hu;have key:((t=Qf->∀q,x.M1=Bm q->q=Qf)/\(t=Qg->∀q,y.M1=Bm q->q=Qf))/\z=u:=by{split at h<;>rename_i c1 c2<;>rw[c1,c2];{cases h;exact⟨⟨by simp,by simp⟩,rfl⟩};{obtain⟨h,e⟩:=h;cases e;exact⟨⟨by rintro rfl q e;cases e;simpa using h,by simp⟩,rfl⟩};{obtain⟨h,e⟩:=h;cases e;exact⟨⟨by simp,by rintro rfl q e;cases e;simpa using h⟩,rfl⟩};{obtain⟨h,e⟩:=h;cases e;exact⟨⟨by rintro rfl q e;cases e;simpa using h,by rintro rfl q e;cases e;simpa using h⟩,rfl⟩}};obtain⟨⟨k1,k2⟩,rfl⟩:=key;rw[hu];cases t with
  |true=>exact TV.EZ hr (k1 rfl)
  |false=>exact TV.EZ hr (k2 rfl)
 {exact h.elim}
def D7{P:Program}{f:Field}{k:Nat}(h:HE P f k=Qf):f.name≠ "_" /\f.offset=k/\P.underlying f.type=Bm (.int .u64):=by unfold HE at h;simp only[ah,bne_iff_ne]at h;obtain⟨⟨h1,h2⟩,h3⟩:=h;refine⟨h1,az h2,?_⟩;split at h3;{assumption};{cases h3}
def G1(a b:UInt64):((a.toNat:Int)==(b.toNat:Int))=nP (a=b):=by by_cases e:a=b;{simp[e]};{have:¬(a.toNat:Int)=(b.toNat:Int):=λh=>e (aY.1 (by omega));simp[e,this]}
def PN{P:Program}{w:World}{t:TypeId}{fs:Array Field}{a b c d:UInt64}{r:Bool}(ht:P.underlying t=Bm (.struct fs))(he:UB P t fs (.ag [.u64 a,.u64 b]) (.ag [.u64 c,.u64 d])=Bm r):(Op.equalIn 10000 t (.agg ⟨[.int .u64 a.toNat,.int .u64 b.toNat]⟩) (.agg ⟨[.int .u64 c.toNat,.int .u64 d.toNat]⟩)).run P w=.ok r w/\P.eqGuardType P.depth t=Qg:=by
 unfold UB at he;split at he
 ·rename_i f g a' b' c' d' hf hx hy;obtain⟨h1,h2⟩:=bG.1 he;cases hx;cases hy;cases h2;simp only[ah,Bool.not_eq_true']at h1;obtain⟨⟨⟨h1,h2⟩,h3⟩,h4⟩:=h1;obtain⟨n1,o1,u1⟩:=D7 h1;obtain⟨n2,o2,u2⟩:=D7 h2;have ef:P.fieldsOf t=fs:=by{simp[Program.fieldsOf,ht]};have p1:P.plainKey f.type=Qf:=by{simp[Program.plainKey,u1]};have p2:P.plainKey g.type=Qf:=by{simp[Program.plainKey,u2]};refine⟨?_,h4⟩;rw[show(10000:Nat)=9999+1 from rfl,run_equalIn_struct w 9999 t _ _ (by rw[ef];exact ht) h3,ef,hf];simp only[Op.eqFields,n1,n2,ne_eq,not_false_eq_true,if_true,Sem.run_bind,o1,o2];rw[run_part_plain w p1 (v:=.int .u64 a.toNat) rfl];simp only[Result.andThen_ok];rw[run_part_plain w p1 (v:=.int .u64 c.toNat) rfl];simp only[Result.andThen_ok];rw[show(9999:Nat)=9998+1 from rfl,run_equalIn_int w 9998 f.type .u64 .u64 _ _ u1];simp only[Result.andThen_ok,G1];cases nP (a=c)with
  |false=>simp
  |true=>simp only[aF,br,if_false,Bool.true_and,Sem.run_bind];rw[run_part_plain w p2 (v:=.int .u64 b.toNat) rfl];simp only[Result.andThen_ok];rw[run_part_plain w p2 (v:=.int .u64 d.toNat) rfl];simp only[Result.andThen_ok];rw[run_equalIn_int w 9998 g.type .u64 .u64 _ _ u2];simp only[Result.andThen_ok,G1];cases nP (b=d)<;>simp
 {cases he}
section
variable{C:Ctx}{S V:St}{a:Act}{w:World}{R:Reach}{τ:Nat->Value}{o:Oper}{d:Nat}(h:eI C S a w R τ)(hV:Lt V S)(hd:o.dst=Bm d)(hl:d<C.nt)
include h hV hd hl
theorem go_move{x:Operand}{t:TypeId}{c:Cell}(ho:o.op=.move x\/o.op=.assign x)(he:gU C.E C.nt V t x=Bm c):eW C o a w (cH S d c):=by obtain⟨h1,h2,h3⟩:=gR h hV he;exact h.val hd hl (v:=a.eval x) (by rcases ho with e|e<;>simp[execOp,e]) h1 h2 h3
theorem go_pick{c x y:Operand}{t:TypeId}{b:Bool}{u v z:TV}(ho:o.op=.pick c x y)(hc:gU C.E C.nt V 0 c=Bm (.b b,.no))(hx:gU C.E C.nt V t x=Bm (u,.no))(hy:gU C.E C.nt V t y=Bm (v,.no))(hz:(Hm b u v).holds [z]):eW C o a w (cH S d (z,.no)):=by
 have hb:=(fe h hV hc).cq rfl;refine h.iH hd hl (v:=if b then a.eval x else a.eval y) (by cases b<;>simp[execOp,ho,hb,asBool]) (IP hz ?_);cases b with
 |true=>exact fe h hV hx
 |false=>exact fe h hV hy
theorem go_bin{b:BinOp}{t u:TypeId}{x y:Operand}{p q:TV}{z:TV}(ho:o.op=.binOp b t x y u)(hx:gU C.E C.nt V t x=Bm (p,.no))(hy:gU C.E C.nt V u y=Bm (q,.no))(hz:(P0 b p q).holds [z]):eW C o a w (cH S d (z,.no)):=by obtain⟨z',e,p',q',v,e1,e2,e3,e4⟩:=PZ _ _ _ _ hz;cases e;have hp:=(fe h hV hx).cq e1;have hq:=(fe h hV hy).cq e2;have hg:eqGuard b t x y p' q'=pure ():=by{unfold nN at e3;split at e3<;>first|(cases e3;done)|exact Gv e3|(unfold eqGuard;split<;>simp_all)};exact h.iH hd hl (v:=v) (by simp only[execOp,ho,hp,hq,hg,Sem.run_bind,Sem.run_pure,Result.andThen_ok,Nb e3]) (.sc e4)
theorem go_be{neg:Bool}{b:BinOp}{t u:TypeId}{x y:Operand}{p q:Bool}(ho:o.op=.binOp b t x y u)(hb:b=if neg then .neq else .eql)(ht:C.P.underlying t=Bm .bool)(hx:gU C.E C.nt V t x=Bm (.b p,.no))(hy:gU C.E C.nt V u y=Bm (.b q,.no)):eW C o a w (cH S d (.b (if neg then !(p==q)else p==q),.no)):=by have hp:=(fe h hV hx).cq rfl;have hq:=(fe h hV hy).cq rfl;have hg:eqGuard b t x y (.bool p) (.bool q)=pure ():=by{unfold eqGuard;cases neg<;>simp[hb]};have he:(Op.equal t (.bool p) (.bool q)).run C.P w=.ok (p==q) w:=by{unfold Op.equal Op.maxDepth;rw[show(10000:Nat)=9999+1 from rfl,Op.equalIn];simp[run_underlying ht]};refine h.iH hd hl (v:=.bool (if neg then !(p==q)else p==q)) ?_ (.sc rfl);simp only[execOp,ho,hp,hq,hg,Sem.run_bind,Sem.run_pure,Result.andThen_ok];cases neg<;>simp[hb,binOp,he]
theorem go_es{b:BinOp}{t u:TypeId}{x y:Operand}{p q:TV}{fs:Array Field}{r:Bool}(neg:Bool)(ho:o.op=.binOp b t x y u)(hb:b=if neg then .neq else .eql)(ht:C.P.underlying t=Bm (.struct fs))(hx:gU C.E C.nt V t x=Bm (p,.no))(hy:gU C.E C.nt V u y=Bm (q,.no))(he:UB C.P t fs p q=Bm r):eW C o a w (cH S d (.b (if neg then !r else r),.no)):=by
 have hp:=fe h hV hx;have hq:=fe h hV hy;have uP:=he;unfold UB at uP;split at uP
 ·rename_i f g a1 b1 c1 d1 hf;have two:∀{a b:UInt64}{v:Value},Rep R w (.ag [.u64 a,.u64 b]) v->v=.agg ⟨[.int .u64 a.toNat,.int .u64 b.toNat]⟩:=λhv=>by
   cases hv with
   |sc e=>cases e
   |ag l=>cases l with|cons _ h1 l=>cases l with|cons _ h2 l=>cases l;rw[h1.cq rfl,h2.cq rfl]
  obtain⟨e1,e2⟩:=PN (w:=w) ht he;refine h.iH hd hl (v:=.bool (if neg then !r else r)) ?_ (.sc rfl);simp only[execOp,ho,two hp,two hq,Sem.run_bind,run_eqGuard_agg w b t x y _ _ e2,Result.andThen_ok];cases neg with
  |false=>simp only[hb,br,if_false,run_eql_struct,e1,Result.andThen_ok];rfl
  |true=>simp only[hb,if_true,run_neq_struct,e1,Result.andThen_ok];rfl
 {cases uP}
theorem go_nl{t u e:TypeId}{x y:Operand}{c:Cell}{st st':eu}{l:List st.El}(ho:o.op=.binOp .eql t x y u)(ht:C.P.underlying t=Bm (.slice e))(hx:gU C.E C.nt V t x=Bm c)(hr:zE V c=Bm (.sl st l))(hy:gU C.E C.nt V u y=Bm (.nl st',.no)):eW C o a w (cH S d (.ub l.isEmpty,.no)):=by
 have hp:=BG h hV hx hr;have hq:a.eval y=.slice Kk 0 0:=by
  have:=fe h hV hy;generalize a.eval y=v at this;cases this with
  |sc h=>cases h
  |nl=>rfl
 have run:∀{q:Option Addr}{n k:Nat},(binOp .eql t (.slice q n k) (.slice Kk 0 0)).run C.P w=.ok (.bool q.isNone) w:=λ{q n k}=>by{have he:(Op.equal t (.slice q n k) (.slice Kk 0 0)).run C.P w=.ok q.isNone w:=by{unfold Op.equal Op.maxDepth;rw[show(10000:Nat)=9999+1 from rfl,Op.equalIn];cases q<;>simp[run_underlying ht]};simp[binOp,he]};have gd:∀{v:Value},eqGuard .eql t x y v (.slice Kk 0 0)=pure ():=λ{v}=>by{unfold eqGuard;split<;>simp_all};have fin:∀{q:Option Addr}{n k:Nat},a.eval x=.slice q n k->(q=Kk->l=[])->eW C o a w (cH S d (.ub l.isEmpty,.no)):=λ{q n k}e1 e2=>by{refine h.iH hd hl (v:=.bool q.isNone) ?_ (.ub λe=>by cases q with|none=>rw[e2 rfl];rfl|some _=>cases e);simp only[execOp,ho,e1,hq,gd,Sem.run_bind,Sem.run_pure,Result.andThen_ok,run]};rcases hp with⟨t',l',e,k,_,_,p,hs⟩|hp;{obtain⟨t2,l2,e2,hs⟩:=hs;cases e;cases e2;rcases hs with⟨e,hv⟩|⟨g,cap,cur,e,fz,hv,_⟩;{exact fin hv λ_=>e};{exact fin hv λe=>by cases e}}
 ·generalize hv:a.eval x=v at hp;cases hp with
  |sc h=>cases h
  |sn=>exact fin hv λ_=>rfl
  |sl=>exact fin hv λe=>by cases e
  |em=>exact fin hv λe=>by cases e
theorem go_un{b:UnOp}{t:TypeId}{x:Operand}{p z:TV}(ho:o.op=.unOp b t x)(hx:gU C.E C.nt V t x=Bm (p,.no))(hz:(WO b p).holds [z]):eW C o a w (cH S d (z,.no)):=by obtain⟨z',e,p',v,e1,e2,e3⟩:=Rv _ _ _ hz;cases e;have hp:=(fe h hV hx).cq e1;exact h.iH hd hl (v:=v) (by simp only[execOp,ho,hp,Sem.run_bind,Sem.run_pure,Result.andThen_ok,Oa e2]) (.sc e3)
end
def Holds (R:Reach) (w:World) (t:eu) (l:List t.El) (v:Value):Prop :=
 (l=[]∧(v = .slice Kk 0 0∨∃ad cap,v = .slice (Bm ad) 0 cap))∨∃b off cap ys,v = .slice (Bm ⟨b,off,Kk⟩) l.length cap∧ys.length=l.length * t.size ∧
  (∀j y,ys[j]?=Bm y→w.cell? ⟨b,off+j,Kk⟩=Bm y)∧dn R w ((l.map t.tv).flatMap TV.cells) ys
theorem nu{c k:Nat}:∀{l:List (Nat×Nat)},nL c l=Bm k->(c,k)∈l
 |(d,j)::r,h=>by
  simp only[nL]at h;cases hb:Nat.beq d c with
  |true=>rw[hb]at h;cases h;rw[az hb];exact List.mem_cons_self ..
  |false=>rw[hb]at h;exact List.mem_cons_of_mem _ (nu h)
theorem xA:∀l:bE,(l.map (eu.tv .bs)).flatMap TV.cells=l.map TV.u8
 |[]=>rfl
 |x::l=>by rw[bc,List.flatMap_cons,xA l];rfl
theorem oA(t:eu)(l:List t.El):((l.map t.tv).flatMap TV.cells).length=l.length*t.size:=by
 induction l with
 |nil=>simp
 |cons x l ih=>rw[bc,List.flatMap_cons,af,ih,eu.nv,av,Nat.succ_mul,Nat.add_comm]
def Rep.holds{R:Reach}{w:World}{t:eu}{l:List t.El}{v:Value}(h:Rep R w (.sl t l) v):Holds R w t l v:=by rcases h.FH with⟨h1,h2⟩|⟨b,off,cap,h1,h2,h3,h4⟩|⟨h1,ad,cap,h2,_⟩;{exact .inl ⟨h1,.inl h2⟩};{obtain⟨ys,k1,k2,k3,_⟩:=h4.cells;exact .inr ⟨b,off,cap,ys,h1,by rw[k1,bj],k2,k3⟩};{exact .inl ⟨h1,.inr ⟨ad,cap,h2⟩⟩}
def fi.cells{R:Reach}{w:World}{p:Bool}{t:eu}{l:List t.El}{v:Value}(h:fi R w p v (.sl t l)):(l=[]/\v=.slice Kk 0 0)\/∃g cap cur e fz,v=.slice (Bm ⟨g,0,Kk⟩) l.length cap/\w.heap[g]?=Bm (.cells cur e fz)/\(∀o,o<cur.size->¬(fz.1<=o/\o<fz.2))/\cur.size=cap*t.size/\l.length<=cap/\cap<=maxLen/\dn R w ((l.map t.tv).flatMap TV.cells) (cur.toList.take (l.length*t.size))/\∀o,R g o↔(p=Qf/\o<l.length*t.size):=by obtain⟨t',l',e,h⟩:=h;cases e;exact h
def fi.holds{R:Reach}{w:World}{p:Bool}{t:eu}{l:List t.El}{v:Value}(h:fi R w p v (.sl t l)):Holds R w t l v:=by rcases h.cells with⟨h1,h2⟩|⟨g,cap,cur,e,fz,h1,h2,_,_,_,_,h3,_⟩;{exact .inl ⟨h1,.inl h2⟩};{refine .inr ⟨g,0,cap,_,h1,by rw[<-h3.length,oA],λj y hy=>?_,h3⟩;rw[bg]at hy;split at hy;{simp only[World.cell?,h2,Nat.zero_add];simpa using hy};{cases hy}}
section
variable{C:Ctx}{S V:St}{a:Act}{w:World}{R:Reach}{τ:Nat->Value}{o:Oper}{d:Nat}(h:eI C S a w R τ)(hV:Lt V S)
include h hV
theorem yd{t:TypeId}{x:Operand}{st:eu}{l:List st.El}(he:(gU C.E C.nt V t x).bind (zE V)=Bm (.sl st l)):Holds R w st l (a.eval x):=by rw[aQ]at he;obtain⟨c,h1,h2⟩:=he;rcases BG h hV h1 h2 with⟨_,_,_,_,_,_,p,hp⟩|hr;{exact hp.holds};{exact hr.holds}
theorem K3{t:TypeId}{x:Operand}{l:bE}(he:(gU C.E C.nt V t x).bind (zE V)=Bm (.s l)):a.eval x=.string ⟨⟨l⟩⟩:=by rw[aQ]at he;obtain⟨c,h1,h2⟩:=he;rcases BG h hV h1 h2 with⟨_,_,e,_⟩|hr;{cases e};{exact hr.cq rfl}
theorem Yj{t:TypeId}{x:Operand}{c:Cell}{y:TV}{v:Value}(h1:gU C.E C.nt V t x=Bm c)(h2:zE V c=Bm y)(hy:y.val=Bm v):a.eval x=v:=by rcases BG h hV h1 h2 with⟨_,_,e,_⟩|hr;{rw[e]at hy;cases hy};{exact hr.cq hy}
variable(hd:o.dst=Bm d)(hl:d<C.nt)
include hd hl
theorem go_len{x:Operand}{t e:TypeId}{st:eu}{l:List st.El}(ho:o.op=.call {callee:=.builtin .len,args:=#[x],argTypes:=#[t]})(ht:C.P.underlying t=Bm (.slice e))(hx:(gU C.E C.nt V t x).bind (zE V)=Bm (.sl st l)):eW C o a w (cH S d (.i .i64 l.length,.no)):=by have:∃q cap,a.eval x=.slice q l.length cap:=by{rcases yd h hV hx with⟨rfl,e|⟨ad,cap,e⟩⟩|⟨b,off,cap,ys,e,_⟩<;>exact⟨_,_,e⟩};obtain⟨q,cap,hq⟩:=this;exact h.iH hd hl (v:=.int .i64 l.length) (by simp[execOp,ho,hq,resolve,invoke,builtin,Builtin.len_,run_underlying ht,goInt]) (.sc rfl)
theorem go_lens{x:Operand}{t:TypeId}{l:bE}(ho:o.op=.call {callee:=.builtin .len,args:=#[x],argTypes:=#[t]})(ht:C.P.underlying t=Bm .string)(hx:(gU C.E C.nt V t x).bind (zE V)=Bm (.s l)):eW C o a w (cH S d (.i .i64 l.length,.no)):=by have hq:=K3 h hV hx;have hs:ByteArray.size ⟨⟨l⟩⟩=l.length:=rfl;exact h.iH hd hl (v:=.int .i64 l.length) (by simp[execOp,ho,hq,resolve,invoke,builtin,Builtin.len_,run_underlying ht,goInt,hs]) (.sc rfl)
theorem go_minmax{x y:Operand}{k:IntKind}{u v:Int}{mx:Bool}{ts:Array TypeId}(ho:o.op=.call {callee:=.builtin (if mx then .max else .min),args:=#[x,y],argTypes:=ts})(hx:gU C.E C.nt V 0 x=Bm (.i k u,.no))(hy:gU C.E C.nt V 0 y=Bm (.i k v,.no)):eW C o a w (cH S d (.i k (if mx then pQ u v else O1 u v),.no)):=by have e1:=(fe h hV hx).cq rfl;have e2:=(fe h hV hy).cq rfl;exact h.iH hd hl (v:=.int k (if mx then pQ u v else O1 u v)) (by cases mx<;>simp[execOp,ho,e1,e2,resolve,invoke,builtin,Builtin.min_,Builtin.max_,Builtin.min2,Builtin.max2,O1,pQ]) (.sc rfl)
theorem go_real{x:Operand}{k:FloatKind}{p q:Nat}{im:Bool}{ts:Array TypeId}(ho:o.op=.call {callee:=.builtin (if im then .imag else .real),args:=#[x],argTypes:=ts})(hx:gU C.E C.nt V 0 x=Bm (.c (.complex k p q),.no)):eW C o a w (cH S d (.c (.float k (if im then q else p)),.no)):=by have e1:=(fe h hV hx).cq rfl;have r1:∀(a:Array TypeId)(b:TypeId),Builtin.real_ a b #[.complex k p q]=pure (.float k p):=λ_ _=>rfl;have r2:∀(a:Array TypeId)(b:TypeId),Builtin.imag_ a b #[.complex k p q]=pure (.float k q):=λ_ _=>rfl;exact h.iH hd hl (v:=.float k (if im then q else p)) (by cases im<;>simp[execOp,ho,e1,resolve,invoke,builtin,r1,r2]) (.sc rfl)
theorem go_cx{x y:Operand}{p q:Nat}{ts:Array TypeId}(ho:o.op=.call {callee:=.builtin .complex,args:=#[x,y],argTypes:=ts})(hx:gU C.E C.nt V 0 x=Bm (.c (.float .f64 p),.no))(hy:gU C.E C.nt V 0 y=Bm (.c (.float .f64 q),.no)):eW C o a w (cH S d (.c (.complex .f64 p q),.no)):=by have e1:=(fe h hV hx).cq rfl;have e2:=(fe h hV hy).cq rfl;have r1:∀(a:Array TypeId)(b:TypeId),Builtin.complex_ a b #[.float .f64 p,.float .f64 q]=pure (.complex .f64 p q):=λ_ _=>rfl;exact h.iH hd hl (v:=.complex .f64 p q) (by simp[execOp,ho,e1,e2,resolve,invoke,builtin,r1]) (.sc rfl)
section
variable{x:Operand}{s t:TypeId}{c:Cell}(ho:o.op=.convert s t x)(hx:gU C.E C.nt V s x=Bm c)
include ho hx
theorem go_ci{y:TV}{k k':IntKind}{n:Int}{du:TypeDesc}(hy:zE V c=Bm y)(hn:y.int?=Bm (k',n))(hs:C.P.underlying s=Bm du)(ht:C.P.underlying t=Bm (.int k)):eW C o a w (cH S d (HG k n,.no)):=by have e1:=Yj h hV hx hy (TV.D9 hn);exact h.iH hd hl (v:=.int k (k.wrap n)) (by simp only[execOp,ho,e1,convert,Sem.run_bind,run_underlying hs,run_underlying ht,Result.andThen_ok,Conv.intToInt,Sem.run_pure]) (.sc (Jf k n))
theorem go_cf{k:IntKind}{n:Int}(hy:zE V c=Bm (.i k n))(hs:(C.P.underlying s).isSome=Qf)(ht:C.P.underlying t=Bm (.float .f64)):eW C o a w (cH S d (.c (.float .f64 (Fl.ofInt n)),.no)):=by have e1:=Yj h hV hx hy rfl;exact h.iH hd hl (v:=.float .f64 (Fl.ofInt n)) (by simp only[execOp,ho,e1,Sem.run_bind,run_convert_int_float w s t k .f64 n hs ht,Result.andThen_ok,Sem.run_pure];rfl) (.sc rfl)
theorem go_fc{b:Nat}(hy:zE V c=Bm (.c (.float .f64 b)))(hb:Fl.qy b=Qf)(hs:(C.P.underlying s).isSome=Qf)(ht:C.P.underlying t=Bm (.int .i64)):eW C o a w (cH S d (.i .i64 (Fl.toInt b),.no)):=by have e1:=Yj h hV hx hy rfl;have hn:floatToIntVal .f64 b .i64=Bm (Fl.toInt b):=by{unfold Fl.qy at hb;obtain⟨x,hx⟩:=Option.isSome_iff_exists.1 hb;unfold Fl.toInt;rw[hx];rfl};exact h.iH hd hl (v:=.int .i64 (Fl.toInt b)) (by simp only[execOp,ho,e1,Sem.run_bind,run_convert_float_int w s t .f64 .i64 b _ hs ht hn,Result.andThen_ok,Sem.run_pure]) (.sc rfl)
theorem go_cs{l:bE}(hy:zE V c=Bm (.s l))(hs:C.P.underlying s=Bm .string)(ht:C.P.underlying t=Bm .string):eW C o a w (cH S d (.s l,.no)):=by have e1:=Yj h hV hx hy rfl;exact h.iH hd hl (v:=.string ⟨⟨l⟩⟩) (by simp[execOp,ho,e1,convert,run_underlying hs,run_underlying ht]) (.sc rfl)
theorem go_bs{l:bE}{e:TypeId}(hy:zE V c=Bm (.sl .bs l))(hs:C.P.underlying s=Bm (.slice e))(he:C.P.underlying e=Bm (.int .u8))(ht:C.P.underlying t=Bm .string):eW C o a w (cH S d (.s l,.no)):=by have hH:=yd h hV (t:=s) (x:=x) (st:=.bs) (l:=l) (by rw[hx];exact hy);refine h.iH hd hl (v:=.string ⟨⟨l⟩⟩) ?_ (.sc rfl);rcases hH with⟨rfl,hv|⟨ad,cap,hv⟩⟩|⟨b,off,cap,ys,hv,h1,h2,h3⟩;{simp only[execOp,ho,hv,Sem.run_bind,run_convert_bytes_nil w s e hs he 0 0 t ht,Result.andThen_ok,Sem.run_pure];rfl};{have hc:=run_convert_bytes_back (P:=C.P) w s t e ad cap [] hs he ht (λj hj=>by simp at hj);simp only[ay]at hc;simp only[execOp,ho,hv,Sem.run_bind,hc,Result.andThen_ok,Sem.run_pure]};{have hc:=run_convert_bytes_back (P:=C.P) w s t e ⟨b,off,Kk⟩ cap l hs he ht (λj hj=>by rw[Uc];obtain⟨y,Ji,_,Jh⟩:=h3.get j (.u8 l[j]) (by rw[xA];simp[hj]);rw[h2 j y Ji,Jh.cq rfl]);simp only[execOp,ho,hv,Sem.run_bind,hc,Result.andThen_ok,Sem.run_pure]}
end
theorem go_si{x i:Operand}{t:TypeId}{l:bE}{n:Int}(ho:o.op=.index t x i)(hx:gU C.E C.nt V t x=Bm (.s l,.no))(hi:tP C.E C.nt V i=Bm n)(hn:bH n l.length=Qf)(ht:C.P.underlying t=Bm .string):eW C o a w (cH S d (.u8 (l.getD n.toNat 0),.no)):=by have e1:=(fe h hV hx).cq rfl;obtain⟨k,e2⟩:=pE h hV hi;simp only[bH,ah,aC]at hn;have gS:n.toNat<l.length:=by{omega};have hb:(⟨⟨l⟩⟩:ByteArray)[n.toNat]?=Bm (l.getD n.toNat 0):=by{rw[getElem?_pos (⟨⟨l⟩⟩:ByteArray) n.toNat gS,ai,au gS];rfl};exact h.iH hd hl (v:=.int .u8 (l.getD n.toNat 0).toNat) (by simp[execOp,ho,e1,e2,Instr.index,asIntOf,run_underlying ht,hn.1,hb]) (.sc rfl)
theorem go_fe{x:Operand}{t:TypeId}{f n:Nat}{agg:Bool}{fl:Field}{cs:List TV}{y:TV}(ho:o.op=.field t x f)(hx:gU C.E C.nt V t x=Bm (.ag cs,.no))(hf:vW C.P t f=Bm fl)(hs:ky C.P fl.type=Bm (n,agg))(hp:py cs fl.offset n agg=Bm y)(h1:agg=Qf\/n=1):eW C o a w (cH S d (y,.no)):=by
 obtain⟨ys,hy,hL⟩:=(fe h hV hx).Nu;obtain⟨fs,ht,hf⟩:=wN hf;obtain⟨inf,hi,rfl,ha⟩:=ig hs;obtain⟨hlen,j7⟩:=rM hL hp h1;refine h.iH hd hl (v:=if agg then .agg ⟨(ys.drop fl.offset).take inf.size⟩else((ys.drop fl.offset).take inf.size).headD undef) ?_ j7;simp only[execOp,ho,hy,Instr.field,Sem.run_bind,run_underlying ht,Result.andThen_ok,hf,asAgg,Sem.run_pure,part,ha];cases agg with
 |true=>simp[Ub hi,List.extract_eq_take_drop]
 |false=>have hn:inf.size=1:=by{simpa using h1};rw[hn]at hlen⊢;have gS:fl.offset<ys.length:=by{simp at hlen;omega};rw[KD gS];simp[au gS]
theorem go_ai{x i:Operand}{t e:TypeId}{m s:Nat}{agg:Bool}{cs:List TV}{n:Int}{y:TV}(ho:o.op=.index t x i)(hx:gU C.E C.nt V t x=Bm (.ag cs,.no))(hi:tP C.E C.nt V i=Bm n)(ht:C.P.underlying t=Bm (.array m e))(hs:ky C.P e=Bm (s,agg))(h1:agg=Qf\/s=1)(hn:bH n m=Qf)(hp:py cs (n.toNat*s) s agg=Bm y):eW C o a w (cH S d (y,.no)):=by
 obtain⟨ys,Fe,hL⟩:=(fe h hV hx).Nu;obtain⟨k,e2⟩:=pE h hV hi;obtain⟨inf,zT,rfl,ha⟩:=ig hs;obtain⟨hlen,j7⟩:=rM hL hp h1;simp only[bH,ah,aC]at hn;refine h.iH hd hl (v:=if agg then .agg ⟨(ys.drop (n.toNat*inf.size)).take inf.size⟩else((ys.drop (n.toNat*inf.size)).take inf.size).headD undef) ?_ j7;simp only[execOp,ho,Fe,e2,Instr.index,asIntOf,Sem.run_bind,run_underlying ht,Result.andThen_ok,Sem.run_pure,hn.1,hn.2,and_self,if_true,Ub zT,part,ha];cases agg with
 |true=>simp[Ub zT,List.extract_eq_take_drop]
 |false=>have hn:inf.size=1:=by{simpa using h1};rw[hn,Nat.mul_one]at hlen⊢;have gS:n.toNat<ys.length:=by{simp at hlen;omega};rw[KD gS];simp[au gS]
theorem go_ex{x:Operand}{i:Nat}{vs:List TV}{y:TV}{l:List (Nat×Nat)}(ho:o.op=.extract x i)(hx:gU C.E C.nt V 0 x=Bm (.tu vs,.no)\/gU C.E C.nt V 0 x=Bm (.tu vs,.J5 l))(hy:vs[i]?=Bm y):eW C o a w (cH S d (y,.no)):=by have:∃ys,a.eval x=.tuple ⟨ys⟩/\hO R w vs ys:=by{rcases hx with hx|hx;{exact(fe h hV hx).Ry};{obtain⟨ys,Fb,e1,e2,e3,_⟩:=((gR h hV hx).1.at (by simp):jH R w τ (.tu vs) (.J5 l) (a.eval x));cases e2;exact⟨ys,e1,e3⟩}};obtain⟨ys,hv,hT⟩:=this;obtain⟨v,Ji,Jh⟩:=hT.get i y hy;exact h.iH hd hl (v:=v) (by simp[execOp,ho,hv,Instr.extract,Ji]) Jh
end
def sx{P:Program}{E:cz}(hE:ku P E){x:TypeId}{st:eu}(h:wT E x st=Qf):∃e i,P.underlying x=Bm (.slice e)/\P.info? e=Bm i/\i.size=st.size:=by unfold wT at h;split at h;{rename_i e1;obtain⟨e,i,_,h1,h2,h3,_⟩:=hE.ty _ _ _ e1;exact⟨e,i,h1,h2,h3.trans (az h)⟩};{cases h}
def eu.size_pos(t:eu):0<t.size:=by cases t<;>simp[eu.size]
section
variable{C:Ctx}{S V:St}{a:Act}{w:World}{R:Reach}{τ:Nat->Value}{o:Oper}{d:Nat}(h:eI C S a w R τ)(hV:Lt V S)
include h hV
theorem eI.fr{t:TypeId}{x:Operand}{c:Cell}{y:TV}{ws:List (Nat×Cell)}(hx:gU C.E C.nt V t x=Bm c)(he:Cl V c=Bm (y,ws)):∃R',eI C (eY S ws) a w R' τ/\Rep R' w y (a.eval x)/\eH R w R' w:=by obtain⟨h1,_,h3⟩:=gR h hV hx;obtain⟨R',k1,k2,k3,_⟩:=Ck h.core hV.q h1 (λm hm=>(h3 m hm).1) he;exact⟨R',h.fz k1 k2,k3,k2.1⟩
theorem yK{x:Option Operand}{n:Option Int}(he:pF C.E C.nt V x=Bm n):(x=Kk/\n=Kk)\/∃y m k,x=Bm y/\n=Bm m/\a.eval y=.int k m:=by unfold pF at he;split at he;{cases he;exact .inl ⟨rfl,rfl⟩};{simp only[aO]at he;obtain⟨m,h1,rfl⟩:=he;obtain⟨k,h2⟩:=pE h hV h1;exact .inr ⟨_,m,k,rfl,rfl,h2⟩}
theorem Qx{lo:Option Operand}{p:Option Int}{n:Nat}(h1:pF C.E C.nt V lo=Bm p)(h0:0<=p.getD n):(lo=Kk/\(p.getD n).toNat=n)\/∃y k,lo=Bm y/\a.eval y=.int k (((p.getD n).toNat:Nat):Int):=by rcases yK h hV h1 with⟨rfl,rfl⟩|⟨y,m,k,rfl,rfl,hy⟩;{exact .inl ⟨rfl,by simp⟩};{exact .inr ⟨y,k,rfl,by simp only[Option.getD_some]at h0⊢;rw[hy];congr 1;omega⟩}
theorem bounds{lo hi:Option Operand}{p q:Option Int}(h1:pF C.E C.nt V lo=Bm p)(h2:pF C.E C.nt V hi=Bm q){n:Nat}(hc:iF (p.getD 0) (q.getD n) n=Qf)(b:Bool){cap:Nat}(yT:n<=cap)(hb:b=Qg->cap=n):(Instr.sliceBounds b n cap (lo.map a.eval) (hi.map a.eval) Kk).run C.P w=.ok ((p.getD 0).toNat,(q.getD n).toNat,cap) w/\(p.getD 0).toNat<=(q.getD n).toNat/\(q.getD n).toNat<=n:=by simp only[iF,ah,aC]at hc;have e1:=Qx h hV (n:=0) h1 hc.1.1;have e2:=Qx h hV (n:=n) h2 (by omega);generalize hu:(q.getD n).toNat=u at*;generalize hl:(p.getD 0:Int).toNat=l at*;have k1:l<=u:=by{omega};have k2:u<=n:=by{omega};refine⟨?_,k1,k2⟩;have k3:u<=cap:=by{omega};unfold Instr.sliceBounds;rcases e1 with⟨rfl,rfl⟩|⟨y,k,rfl,hy⟩<;>rcases e2 with⟨rfl,rfl⟩|⟨y',k',rfl,Fe⟩<;>simp[Instr.sliceBound,asIntOf, *]
variable(hd:o.dst=Bm d)(hl:d<C.nt)
include hd hl
theorem go_ss{x:Operand}{t:TypeId}{lo hi:Option Operand}{p q:Option Int}{l:bE}(ho:o.op=.slice t x lo hi Kk)(ht:C.P.underlying t=Bm .string)(hx:gU C.E C.nt V t x=Bm (.s l,.no))(h1:pF C.E C.nt V lo=Bm p)(h2:pF C.E C.nt V hi=Bm q)(hc:iF (p.getD 0) (q.getD l.length) l.length=Qf):eW C o a w (cH S d (.s ((l.take (q.getD l.length).toNat).drop (p.getD 0).toNat),.no)):=by have e1:=(fe h hV hx).cq rfl;obtain⟨hb,k1,k2⟩:=bounds h hV h1 h2 hc Qg (Nat.le_refl _) (λ_=>rfl);have hs:ByteArray.size ⟨⟨l⟩⟩=l.length:=rfl;have he:(⟨⟨l⟩⟩:ByteArray).extract (p.getD 0).toNat (q.getD l.length).toNat=⟨⟨(l.take (q.getD l.length).toNat).drop (p.getD 0).toNat⟩⟩:=by{have:∀{s:ByteArray}{m:List UInt8},s.data.toList=m->s=⟨⟨m⟩⟩:=λh=>by{subst h;rfl};exact this (by rw[Lib.extract_data,List.drop_take])};refine h.iH hd hl (v:=.string ((⟨⟨l⟩⟩:ByteArray).extract (p.getD 0).toNat (q.getD l.length).toNat)) ?_ (.sc (by rw[he];rfl));simp only[execOp,ho,e1,Instr.sliceAt,Instr.slice,Sem.run_bind,run_underlying ht,Result.andThen_ok,Option.map_none,hs,hb,Sem.run_pure];simp[hb]
theorem go_sc{x:Operand}{t:TypeId}{lo hi:Option Operand}{p q:Option Int}{c:Cell}{st:eu}{l:List st.El}{ws:List (Nat×Cell)}(hE:ku C.P C.E)(ho:o.op=.slice t x lo hi Kk)(ht:wT C.E t st=Qf)(hx:gU C.E C.nt V t x=Bm c)(hf:Cl V c=Bm (.sl st l,ws))(h1:pF C.E C.nt V lo=Bm p)(h2:pF C.E C.nt V hi=Bm q)(hc:iF (p.getD 0) (q.getD l.length) l.length=Qf):eW C o a w (cH (eY S ws) d (.sl st ((l.take (q.getD l.length).toNat).drop (p.getD 0).toNat),.no)):=by obtain⟨R',h',e1,_⟩:=h.fr hV hx hf;obtain⟨e,inf,ht,pG,hz⟩:=sx hE ht;have hb:=λcap yT=>bounds h hV h1 h2 hc Qf (cap:=cap) yT (λe=>by cases e);obtain⟨_,k1,k2⟩:=hb l.length (Nat.le_refl _);generalize hu:(q.getD l.length).toNat=u at*;generalize VI:(p.getD 0).toNat=lw at*;rcases e1.FH with⟨rfl,hv⟩|⟨b,off,cap,hv,yT,Pz,hE'⟩|⟨rfl,ad,cap,hv,Pz⟩;{obtain⟨rfl,rfl⟩:lw=0/\u=0:=by{simp at k2;omega};have tp:=(hb 0 (by simp)).1;refine h'.iH hd hl (v:=.slice Kk 0 0) ?_ (by simp only[List.take_nil,List.drop_nil];exact .sn st);simp only[ay]at tp;simp only[execOp,ho,hv,Instr.sliceAt,Instr.slice,Sem.run_bind,run_underlying ht,Result.andThen_ok,Option.map_none,tp,Ub pG,Sem.run_pure];simp};{refine h'.iH hd hl (v:=.slice (Bm ⟨b,if cap=lw then off else off+lw*st.size,Kk⟩) (u -lw) (cap -lw)) ?_ ?_;{simp only[execOp,ho,hv,Instr.sliceAt,Instr.slice,Sem.run_bind,run_underlying ht,Result.andThen_ok,Option.map_none,(hb cap yT).1,Ub pG,Sem.run_pure,hz];split<;>simp[*,Uc]};{have hlen:((l.take u).drop lw).length=u -lw:=by{simp;omega};rw[<-hlen];refine .sl rfl (by rw[hlen];omega) (by omega) ?_;by_cases S2:cap=lw;{have:(l.take u).drop lw=[]:=bm (by rw[hlen];omega);rw[this];exact .nil _ _ _};{rw[ak S2,List.map_drop,List.map_take];exact(hE'.take u).drop lw}}};{obtain⟨rfl,rfl⟩:lw=0/\u=0:=by{simp at k2;omega};have tp:=(hb cap (by simp)).1;refine h'.iH hd hl (v:=.slice (Bm ad) 0 cap) ?_ (by simp only[List.take_nil,List.drop_nil];exact .em st Pz);simp only[ay]at tp;simp only[execOp,ho,hv,Instr.sliceAt,Instr.slice,Sem.run_bind,run_underlying ht,Result.andThen_ok,Option.map_none,tp,Ub pG,Sem.run_pure];simp[Addr.add]}
theorem go_ix{x i:Operand}{t:TypeId}{st:eu}{l:List st.El}{n:Int}(hE:ku C.P C.E)(ho:o.op=.indexAddr t x i)(ht:wT C.E t st=Qf)(hx:Rep R w (.sl st l) (a.eval x))(hi:tP C.E C.nt V i=Bm n)(hn:bH n l.length=Qf):eW C o a w (cH S d (.ro (st.tv (l.getD n.toNat st.dH)),.no)):=by obtain⟨e,inf,ht,pG,hz⟩:=sx hE ht;obtain⟨k,e2⟩:=pE h hV hi;simp only[bH,ah,aC]at hn;have gS:n.toNat<l.length:=by{omega};rcases hx.FH with⟨rfl,hv⟩|⟨b,off,cap,hv,yT,Pz,hE'⟩|⟨rfl,ad,cap,hv,Pz⟩;{simp at gS};{refine h.iH hd hl (v:=.pointer (Bm ⟨b,off+n.toNat*st.size,Kk⟩)) ?_ (.ro (hE'.get n.toNat _ ?_));{simp[execOp,ho,hv,e2,Instr.indexAt,asIntOf,run_underlying ht,Ub pG,hz,hn.1,Uc];omega};{simp[ai,au gS]}};{simp at gS}
theorem go_pix{x i:Operand}{t:TypeId}{st:eu}{l:List st.El}{n:Int}{k:Nat}(hE:ku C.P C.E)(ho:o.op=.indexAddr t x i)(ht:wT C.E t st=Qf)(hx:gU C.E C.nt V t x=Bm (.pt,.dB k))(hk:S k=(.sl st l,.pv))(hi:tP C.E C.nt V i=Bm n)(hn:bH n l.length=Qf):eW C o a w (cH S d (.el n.toNat st.size 0,.pe k)):=by obtain⟨e,inf,ht,pG,hz⟩:=sx hE ht;obtain⟨kk,e2⟩:=pE h hV hi;obtain⟨q1,_,q3⟩:=gR h hV hx;have hv:a.eval x=τ k:=q1.1;simp only[bH,ah,aC]at hn;have gS:n.toNat<l.length:=by{omega};have hs:=h.core.key k;rw[hk]at hs;rcases fi.cells hs with⟨rfl,_⟩|⟨g,cap,cur,ce,fz,e1,_⟩;{simp at gS};{rw[e1]at hv;refine h.val hd hl (v:=.pointer (Bm ⟨g,n.toNat*st.size,Kk⟩)) (g:=.pe k) ?_ ⟨g,_,_,_,by rw[e1];rfl,rfl,rfl⟩ rfl q3;simp[execOp,ho,hv,e2,Instr.indexAt,asIntOf,run_underlying ht,Ub pG,hz,hn.1,Uc];omega}
theorem go_la{x i:Operand}{t e:TypeId}{m k:Nat}{n:Int}{inf:TypeInfo}{cs:List TV}{ts:List (Nat×Nat)}(ho:o.op=.indexAddr t x i)(ht:C.P.underlying t=Bm (.array m e))(zT:C.P.info? e=Bm inf)(hx:gU C.E C.nt V t x=Bm (.pt,.ptr k 0))(hk:S k=(.ag cs,.cl ts))(hi:tP C.E C.nt V i=Bm n)(hn:bH n m=Qf):eW C o a w (cH S d (.el n.toNat inf.size 0,.pe k)):=by obtain⟨kk,e2⟩:=pE h hV hi;obtain⟨q1,_,q3⟩:=gR h hV hx;obtain⟨b,p1,hv⟩:∃b,τ k=.pointer (Bm ⟨b,0,Kk⟩)/\a.eval x=.pointer (Bm ⟨b,0,Kk⟩):=q1;simp only[bH,ah,aC]at hn;refine h.val hd hl (v:=.pointer (Bm ⟨b,n.toNat*inf.size,Kk⟩)) (g:=.pe k) ?_ ⟨b,_,_,_,by rw[p1];rfl,rfl,rfl⟩ rfl q3;simp[execOp,ho,hv,e2,Instr.indexAt,Instr.sureAddr,asIntOf,run_underlying ht,Ub zT,hn.1,hn.2,Uc]
section
variable{x:Operand}{t:TypeId}{f n:Nat}{agg:Bool}{fl:Field}(ho:o.op=.fieldAddr t x f)(hf:vW C.P t f=Bm fl)(hs:ky C.P fl.type=Bm (n,agg))(hn:0<n)
include ho hf hs hn
omit h hV hd hl in
theorem FO{b off:Nat}(hv:a.eval x=.pointer (Bm ⟨b,off,Kk⟩)):(execOp a.eval o).run C.P w=.ok (.value (.pointer (Bm ⟨b,off+fl.offset,Kk⟩))) w:=by obtain⟨fs,ht,hf⟩:=wN hf;obtain⟨inf,hi,rfl,ha⟩:=ig hs;have nc:inf.size≠0:=by{omega};simp[execOp,ho,hv,Instr.fieldAt,Instr.sureAddr,run_underlying ht,hf,fieldPlace,Ub hi,nc,Uc]
theorem go_fa{m q:Nat}(hx:gU C.E C.nt V 0 x=Bm (.pt,.ptr m q)):eW C o a w (cH S d (.pt,.ptr m (q+fl.offset))):=by obtain⟨q1,_,q3⟩:=gR h hV hx;obtain⟨b,p1,hv⟩:∃b,τ m=.pointer (Bm ⟨b,0,Kk⟩)/\a.eval x=.pointer (Bm ⟨b,q,Kk⟩):=q1;exact h.val hd hl (FO ho hf hs hn hv) (g:=.ptr m (q+fl.offset)) ⟨b,p1,rfl⟩ rfl q3
theorem go_pfa{i s q k:Nat}(hx:gU C.E C.nt V 0 x=Bm (.el i s q,.pe k)):eW C o a w (cH S d (.el i s (q+fl.offset),.pe k)):=by obtain⟨q1,_,q3⟩:=gR h hV hx;obtain⟨b,i',s',q',p1,p2,hv⟩:∃b i' s' q',Value.fP (τ k)=Bm b/\TV.el i s q=.el i' s' q'/\a.eval x=.pointer (Bm ⟨b,i'*s'+q',Kk⟩):=q1;cases p2;exact h.val hd hl (FO ho hf hs hn hv) (g:=.pe k) ⟨b,_,_,_,p1,rfl,by rw[Nat.add_assoc]⟩ rfl q3
theorem go_fr{cs:List TV}{y:TV}(hx:gU C.E C.nt V 0 x=Bm (.ro (.ag cs),.no))(hp:py cs fl.offset n agg=Bm y):eW C o a w (cH S d (.ro y,.no)):=by
 obtain⟨b,off,s',hv,hA⟩:=(fe h hV hx).FR;refine h.iH hd hl (FO ho hf hs hn hv) ?_;cases hA with
 |one n _ _ _ _=>simp[TV.wV]at n
 |ag _ hC=>
  unfold py at hp;cases agg with
  |true=>
   simp only at hp;cases hb:Nat.ble (fl.offset+n) cs.length with
   |true=>rw[hb]at hp;cases hp;exact .ro (.ag rfl ((hC.drop fl.offset).take n))
   |false=>rw[hb]at hp;cases hp
  |false=>
   simp at hp;have gS:=(aG.1 hp).1;have hD:=hC.drop fl.offset;rw[List.drop_eq_getElem_cons gS]at hD;have hs:cs[fl.offset]=y:=(aG.1 hp).2;rw[hs]at hD;cases hD with
   |cons r c a J9 _=>
    refine .ro (.one ?_ r c a J9);cases y with
    |ag _=>cases J9 with
     |sc h=>cases h
     |ag=>simp[Value.oneCell']at a
    |_=>rfl
end
theorem go_nc{x:Operand}{m q:Nat}(ho:o.op=.nilCheck x)(hx:gU C.E C.nt V 0 x=Bm (.pt,.ptr m q)):eW C o a w (cH S d (.pt,.ptr m q)):=by obtain⟨q1,q2,q3⟩:=gR h hV hx;obtain⟨b,p1,hv⟩:∃b,τ m=.pointer (Bm ⟨b,0,Kk⟩)/\a.eval x=.pointer (Bm ⟨b,q,Kk⟩):=q1;exact h.val hd hl (v:=.pointer (Bm ⟨b,q,Kk⟩)) (by simp[execOp,ho,hv]) (g:=.ptr m q) ⟨b,p1,rfl⟩ rfl q3
theorem go_ncr{x:Operand}{y:TV}(ho:o.op=.nilCheck x)(hx:gU C.E C.nt V 0 x=Bm (.ro y,.no)):eW C o a w (cH S d (.ro y,.no)):=by obtain⟨b,off,s',hv,hA⟩:=(fe h hV hx).FR;exact h.iH hd hl (v:=.pointer (Bm ⟨b,off,Kk⟩)) (by simp[execOp,ho,hv]) (.ro hA)
theorem go_ext{x:Operand}{i k:Nat}{vs:List TV}{l:List (Nat×Nat)}(ho:o.op=.extract x i)(hx:gU C.E C.nt V 0 x=Bm (.tu vs,.J5 l))(hk:nL i l=Bm k)(B6:(τ k).oneCell'=Qf):eW C o a w (cH S d (.pt,.dB k)):=by obtain⟨q1,_,q3⟩:=gR h hV hx;obtain⟨ys,Fb,e1,e2,e3,e4⟩:∃ys Fb,a.eval x=.tuple ⟨ys⟩/\TV.tu vs=.tu Fb/\hO R w Fb ys/\∀p∈l,ys[p.1]?=Bm (τ p.2):=q1;have hm:=nu hk;refine h.val hd hl (v:=τ k) (by simp[execOp,ho,e1,Instr.extract,e4 _ hm]) (g:=.dB k) ⟨rfl,B6⟩ rfl λj hj=>?_;simp only[Gh.cQ,List.mem_singleton]at hj;subst hj;exact q3 _ (List.mem_map_of_mem (f:=(·.2)) hm)
end
def ib{nt k:Nat}{V S:St}(hV:Lq V S)(h:rP nt V k=Qf):(S k).2=.no/\k<1000000/\nt<=k:=by simp only[rP,ah,aC]at h;obtain⟨⟨h1,h2⟩,h3⟩:=h;refine⟨?_,Nat.le_of_ble_eq_true h2,Nat.le_of_ble_eq_true h3⟩;rcases hV k with e|e|⟨e,_⟩;{rw[<-e];exact h1};{rw[h1]at e;cases e};{rw[h1]at e;cases e}
def ox{R:Reach}{w:World}{x:TV}{v:Value}(h:Rep R w x v)(hp:x.plain=Qf):dn R w x.cells v.cells.toList:=by
 cases h with
 |sc hv=>have key:∀{x:TV}{v:Value},x.val=Bm v->v.oneCell'=Qf->x.wV=Qg->x.plain=Qf->dn R w x.cells v.cells.toList:=λ{x v}h1 h2 h3 h4=>by{have e1:x.cells=[x]:=by{cases x<;>first|rfl|(simp[TV.wV]at h3)};have e2:v.cells.toList=[v]:=by{cases v<;>first|rfl|(simp[Value.oneCell']at h2)};rw[e1,e2];exact .cons h2 (.sc h1) .nil};refine key hv ?_ (by cases x<;>first|rfl|cases hv) hp;(cases x<;>first|(cases hv;done)|(cases hv;rfl)|skip);cases hv;cases v<;>first|rfl|(cases hp)
 |ag h=>exact h
 |nl t=>exact .cons rfl (.nl t) .nil
 |ub _=>simp[TV.plain]at hp
 |sn t=>exact .cons rfl (.sn t) .nil
 |sl a b c d=>exact .cons rfl (.sl a b c d) .nil
 |em s h=>exact .cons rfl (.em s h) .nil
 |ro h=>exact .cons rfl (.ro h) .nil
 |tu=>simp[TV.plain]at hp
 |pt=>simp[TV.plain]at hp
 |dead=>simp[TV.plain]at hp
 |Uz=>simp[TV.plain]at hp
 |V9=>simp[TV.plain]at hp
def uv{P:Program}{t:TypeId}{i:TypeInfo}{v:Value}(hi:P.info? t=Bm i)(hz:i.zero=Bm v)(w:World):(zeroValue t).run P w=.ok v w:=by simp[zeroValue,typeInfo,hi,hz]
theorem wL{α:Type}{zs:List α}(hz:0<zs.length):∀(l j:Nat)(y:α),(List.replicate l zs).flatten[j]?=Bm y->zs[j% zs.length]?=Bm y
 |0,j,y,h=>by simp at h
 |l+1,j,y,h=>by simp only[List.replicate_succ,List.flatten_cons]at h;by_cases hj:j<zs.length;{rw[List.getElem?_append_left hj]at h;rwa[Nat.mod_eq_of_lt hj]};{rw[aW (by omega)]at h;have:=wL hz l _ y h;rwa[Nat.mod_eq_sub_mod (by omega)]}
theorem rI{R:Reach}{w:World}{xs:List TV}{ys:List Value}(h:dn R w xs ys):∀n,dn R w (List.replicate n xs).flatten (List.replicate n ys).flatten
 |0=>.nil
 |n+1=>by simp only[List.replicate_succ,List.flatten_cons];exact h.append (rI h n)
section
variable{C:Ctx}{S V:St}{a:Act}{w w':World}{R:Reach}{τ:Nat->Value}{o:Oper}{d:Nat}
theorem eI.new(h:eI C S a w R τ){cur:Array Value}{e:TypeId}{fz:Nat×Nat}{k:Nat}{v:Value}{x:TV}{g:Gh}(hk:(S k).2=.no/\k<1000000/\C.nt<=k)(os:w'.os=w.os)(tape:w'.tape=w.tape)(out:w'.output=w.output)(hh:w'.heap=w.heap.push (.cells cur e fz))(new:kt R w' τ x g v)(hb:Value.fP v=Kk\/Value.fP v=Bm w.heap.size)(hg:g=.pv\/g=.lv\/g=.cl []):eI C (cH S k (x,g)) a w' R (ta τ k v):=by
 have rk:w'.heap.size=w.heap.size+1:=by{rw[hh];simp};have hold:∀b,b<w.heap.size->w'.heap[b]?=w.heap[b]?:=λb hb=>by{rw[hh,Array.getElem?_push,ak (by omega)]};have dr:eH R w R w':=λb o hr=>⟨hr,World.cell?_of_block (w:=w) (hold b (h.core.th b o hr))⟩;have hm:g.cQ=[]:=by{rcases hg with rfl|rfl|rfl<;>rfl};refine⟨h.size,h.defers,h.core.jN hk.2.2 dr (λj b _ hb=>⟨hold b (h.core.lt hb),λ_=>id⟩) new (.inr hk.1) ⟨by rw[hk.1];rfl,by rcases hg with rfl|rfl|rfl<;>rfl⟩ (by rcases hg with rfl|rfl|rfl<;>simp)
  (λ_=>.inr hk.1) (λb _ lu=>?_) (by rw[hm];simp) (λb o hr=>by have:=h.core.th b o hr;omega),λt ht=>?_,⟨h.io.1,λj hj=>?_⟩,
  h.ext.trans (io':=C.io) ⟨os,tape,out,by omega,λb hb _=>hold b hb,dr,λb o hr=>.inl hr⟩ λb hb=>.inl hb,h.gl.dr dr⟩
 {rcases hb with hb|hb<;>rw[hb]at lu<;>cases lu;exact⟨.inr h.ext.size,.inl (Nat.le_refl _)⟩};{rw[fN _ _ (by omega)];exact h.tmps t ht};{rw[fN _ _ (by omega)];exact h.io.2 j hj}
theorem eI.yV(h:eI C S a w' R τ)(hd:o.dst=Bm d)(hl:d<C.nt){v:Value}{x:TV}{g:Gh}(hr:(execOp a.eval o).run C.P w=.ok (.value v) w')(hs:dP R w' τ x g v)(hg:g.slot=Qf)(hm:∀k∈g.cQ,C.nt<=k/\(S k).2≠.no):eW C o a w (cH S d (x,g)):=λK Q hK=>by unfold Oper.wp;rw[hr,Oper.upon_value,hd];refine hK _ _ ⟨R,_,by simp[Act.put,h.size],h.defers,h.core.put hl hs hg hm,λt ht=>?_,⟨h.io.1,λk hk=>?_⟩,h.ext,h.gl⟩;{by_cases e:t=d;{subst e;rw[fw];simp[Act.put,Array.getD,h.size,ht]};{rw[fN _ _ e,<-h.tmps t ht];simp only[Act.put,Array.getD_eq_getD_getElem?];rw[Array.getElem?_setIfInBounds_ne (Ne.symm e)]}};{have:=h.io.1;rw[fN _ _ (by omega)];exact h.io.2 k hk}
theorem eI.Tb(h:eI C S a w R τ)(hd:o.dst=Bm d)(hl:d<C.nt){cur:Array Value}{e:TypeId}{fz:Nat×Nat}{k cap:Nat}{st:eu}{l:List st.El}{ys:List Value}(hk:(S k).2=.no/\k<1000000/\C.nt<=k)(os:w'.os=w.os)(tape:w'.tape=w.tape)(out:w'.output=w.output)(hh:w'.heap=w.heap.push (.cells cur e fz))(hf:∀o,o<cur.size->¬(fz.1<=o/\o<fz.2))(rk:cur.size=cap*st.size)(h1:l.length<=cap)(h2:cap<=maxLen)(hL:dn R w ((l.map st.tv).flatMap TV.cells) ys)(SZ:∀(j:Nat)(y:Value),ys[j]?=Bm y->cur[j]?=Bm y)(hr:(execOp a.eval o).run C.P w=.ok (.value (.slice (Bm ⟨w.heap.size,0,Kk⟩) l.length cap)) w'):eW C o a w (cH (cH S k (.sl st l,.pv)) d (.pt,.dB k)):=by have SN:w'.heap[w.heap.size]?=Bm (.cells cur e fz):=by{rw[hh];simp};have hold:∀b,b<w.heap.size->w'.heap[b]?=w.heap[b]?:=λb hb=>by{rw[hh,Array.getElem?_push,ak (by omega)]};have dr:eH R w R w':=λb o hr=>⟨hr,World.cell?_of_block (w:=w) (hold b (h.core.th b o hr))⟩;have hlen:=hL.length;rw[oA]at hlen;have Sy:cur.toList.take (l.length*st.size)=ys:=by{apply List.ext_getElem?;intro j;rw[bg];split;{have e:=au (l:=ys) (i:=j) (by omega);have:=SZ j _ e;rw[e];simpa using this};{exact(List.getElem?_eq_none (by omega)).symm}};have hn:=h.new (x:=.sl st l) (g:=.pv) (v:=.slice (Bm ⟨w.heap.size,0,Kk⟩) l.length cap) hk os tape out hh ⟨st,l,rfl,.inr ⟨_,cap,cur,e,fz,rfl,SN,hf,rk,h1,h2,by rw[Sy];exact hL.mono dr,λo=>⟨λhr=>by have:=h.core.th _ _ hr;omega,λhr=>by simp at hr⟩⟩⟩ (.inr rfl) (.inl rfl);refine hn.yV hd hl hr (g:=.dB k) ⟨(fw _ _ _).symm,rfl⟩ rfl λj hj=>?_;simp only[Gh.cQ,List.mem_singleton]at hj;subst hj;exact⟨hk.2.2,by rw[bR];simp⟩
theorem eI.goVar(h:eI C S a w R τ)(hd:o.dst=Bm d)(hl:d<C.nt){ys:List Value}{e:TypeId}{k:Nat}{xs:List TV}(hk:(S k).2=.no/\k<1000000/\C.nt<=k)(os:w'.os=w.os)(tape:w'.tape=w.tape)(out:w'.output=w.output)(hh:w'.heap=w.heap.push (.cells ⟨ys⟩ e (0,0)))(hL:dn R w xs ys)(hr:(execOp a.eval o).run C.P w=.ok (.value (.pointer (Bm ⟨w.heap.size,0,Kk⟩))) w'):eW C o a w (cH (cH S k (.ag xs,.cl [])) d (.pt,.ptr k 0)):=by have SN:w'.heap[w.heap.size]?=Bm (.cells ⟨ys⟩ e (0,0)):=by{rw[hh];simp};have hold:∀b,b<w.heap.size->w'.heap[b]?=w.heap[b]?:=λb hb=>by{rw[hh,Array.getElem?_push,ak (by omega)]};have dr:eH R w R w':=λb o hr=>⟨hr,World.cell?_of_block (w:=w) (hold b (h.core.th b o hr))⟩;have hn:=h.new (x:=.ag xs) (g:=.cl []) (v:=.pointer (Bm ⟨w.heap.size,0,Kk⟩)) hk os tape out hh ⟨_,ys,e,xs,rfl,SN,rfl,hL.mono dr,by simp,λo hr=>by have:=h.core.th _ _ hr;omega⟩ (.inr rfl) (.inr (.inr rfl));refine hn.yV hd hl hr (g:=.ptr k 0) ⟨_,fw _ _ _,rfl⟩ rfl λj hj=>?_;simp only[Gh.cQ,List.mem_singleton]at hj;subst hj;exact⟨hk.2.2,by rw[bR];simp⟩
variable(h:eI C S a w R τ)(hd:o.dst=Bm d)(hl:d<C.nt)
include h hd hl
theorem go_al{t:TypeId}{k:Nat}{z:List TV}(hE:ku C.P C.E)(ho:o.op=.alloc t)(hz:C.E.z t=Bm z)(hk:(S k).2=.no/\k<1000000/\C.nt<=k):eW C o a w (cH (cH S k (.ag z,.cl [])) d (.pt,.ptr k 0)):=by obtain⟨_,v,h1,h2⟩:=hE.z _ _ hz;rw[aQ]at h1;obtain⟨i,hi,W8⟩:=h1;exact h.goVar hd hl (w':={w with heap:=w.heap.push (.cells ⟨v.cells.toList⟩ t)}) hk rfl rfl rfl rfl (sr h2) (by simp[execOp,ho,Instr.alloc,uv hi W8,newVar,newRow])
theorem go_bx{t:TypeId}{k:Nat}{x:Operand}{y:TV}(hV:Lt V S)(ho:o.op=.box t x)(hx:gU C.E C.nt V t x=Bm (y,.no))(hp:y.plain=Qf)(hk:(S k).2=.no/\k<1000000/\C.nt<=k):eW C o a w (cH (cH S k (.ag y.cells,.cl [])) d (.pt,.ptr k 0)):=h.goVar hd hl (w':={w with heap:=w.heap.push (.cells ⟨(a.eval x).cells.toList⟩ t)}) hk rfl rfl rfl rfl (ox (fe h hV hx) hp) (by simp[execOp,ho,Instr.box,newVar,newRow])
theorem go_sb{x:Operand}{s t e:TypeId}{c:Cell}{l:bE}{k:Nat}(hV:Lt V S)(ho:o.op=.convert s t x)(hx:gU C.E C.nt V s x=Bm c)(hy:zE V c=Bm (.s l))(hs:C.P.underlying s=Bm .string)(ht:C.P.underlying t=Bm (.slice e))(he:C.P.underlying e=Bm (.int .u8))(hm:mZ l.length=Qf)(hk:(S k).2=.no/\k<1000000/\C.nt<=k):eW C o a w (cH (cH S k (.sl .bs l,.pv)) d (.pt,.dB k)):=by
 have e1:=Yj h hV hx hy rfl;have hlen:ByteArray.size ⟨⟨l⟩⟩=l.length:=rfl;have hm:l.length<=maxLen:=by{simpa[mZ]using hm};have lr:=run_bytes_of_string (P:=C.P) w s t e ⟨⟨l⟩⟩ hs ht he;rw[hlen]at lr;have L7:=grownCap_ge w l.length 0 e;have hle:=grownCap_le_maxLen w l.length 0 e hm;have rk:(bytesRow ⟨⟨l⟩⟩ (grownCap w l.length 0 e)).size=grownCap w l.length 0 e:=by{simp only[bytesRow,Array.size_append,Array.size_map,Array.size_replicate,List.size_toArray];omega};refine h.Tb hd hl (st:=.bs) (l:=l) (ys:=l.map λx=>.int .u8 x.toNat) (cur:=bytesRow ⟨⟨l⟩⟩ (grownCap w l.length 0 e)) (e:=e) (fz:=((bytesRow ⟨⟨l⟩⟩ (grownCap w l.length 0 e)).size,(bytesRow ⟨⟨l⟩⟩ (grownCap w l.length 0 e)).size+1)) hk ?_ ?_ ?_ ?_ ?_ ?_ L7 hle ?_ ?_ (w':=w.drew.alloc (.cells (bytesRow ⟨⟨l⟩⟩ (grownCap w l.length 0 e)) e ((bytesRow ⟨⟨l⟩⟩ (grownCap w l.length 0 e)).size,(bytesRow ⟨⟨l⟩⟩ (grownCap w l.length 0 e)).size+1))) (by simp only[execOp,ho,e1,Sem.run_bind,lr,Result.andThen_ok,Sem.run_pure]);{rfl};{rfl};{rfl};{rfl};{simp only;intro o ho;omega};{simpa[eu.size]using rk}
 ·rw[xA];have:∀m:bE,dn R w (m.map TV.u8) (m.map λx=>.int .u8 x.toNat):=λm=>by
   induction m with
   |nil=>exact .nil
   |cons b m ih=>exact .cons rfl (.sc rfl) ih
  exact this l
 {intro j y hj;have gS:=(aG.1 hj).1;unfold bytesRow;rw[Array.getElem?_append_left (by simp at gS⊢;exact gS)];simpa using hj}
theorem go_cc{x:Operand}{t e:TypeId}{l:bE}{k:Nat}(hV:Lt V S)(ho:o.op=.convert t t x)(hx:gU C.E C.nt V t x=Bm (.pt,.dB k))(hk:V k=(.sl .bs l,.pv))(ht:C.P.underlying t=Bm (.slice e))(he:C.P.underlying e=Bm (.int .u8))(nc:l≠[]):eW C o a w (cH (cH S k (.dead,.zz)) d (.sl .bs l,.no)):=by obtain⟨q1,_,q3⟩:=gR h hV hx;obtain⟨hv,_⟩:a.eval x=τ k/\_:=q1;have NK:=(q3 k (by simp[Gh.cQ])).1;have hS:=hV.of hk;have h0:=h.core.key k;rw[hS]at h0;obtain⟨st,l',VI,⟨rfl,_⟩|⟨g,cap,cur,ce,fz,Zp,h1,h2,h3,h4,h5,h6,h7⟩⟩:=h0;{cases VI;exact(nc rfl).elim};cases VI;have hb:fP τ S k=Bm g:=gC (by rw[hS];rfl) (by rw[hS];rfl) (by rw[Zp];rfl);obtain⟨R',hc,hz,hr,_⟩:=h.core.freeze NK hS;have NG:=h.fz hc hz;have CQ:g<w.heap.size:=(Array.getElem?_eq_some_iff.1 h1).1;generalize Zo:w.freeze ⟨g,cur.size,Kk⟩ 1=w2;have hh:w2.heap=w.heap.modify g fun|.cells c el (lo,hi)=>.cells c el (if lo==hi then(cur.size,cur.size+1)else(min lo cur.size,max hi (cur.size+1)))|o=>o:=by{rw[<-Zo];unfold World.freeze;rw[ak (by decide)];rfl};have rk:w2.heap.size=w.heap.size:=by{rw[hh,Array.size_modify]};have ZD:∀b,b≠g->w2.heap[b]?=w.heap[b]?:=λb hb=>by{rw[hh,Array.getElem?_modify,ak (λe=>hb e.symm)]};have yS:∀b o,w2.cell? ⟨b,o,Kk⟩=w.cell? ⟨b,o,Kk⟩:=λb o=>by{by_cases e:b=g;{subst e;have:w2.heap[b]?=Bm (.cells cur ce (if fz.1==fz.2 then(cur.size,cur.size+1)else(min fz.1 cur.size,max fz.2 (cur.size+1)))):=by{rw[hh,Array.getElem?_modify,ar rfl,h1];rfl};simp only[World.cell?,this,h1]};{simp only[World.cell?,ZD b e]}};have dr:eH R' w R' w2:=λb o hr=>⟨hr,yS b o⟩;have Z8:cH S k (.sl .bs l,.lv) k=(.sl .bs l,.lv):=bR _ _ _;have wX:fP τ (cH S k (.sl .bs l,.lv)) k=Bm g:=gC (by rw[Z8];rfl) (by rw[Z8];rfl) (by rw[Zp];rfl);have Gp:=hc.jN (k:=k) (v:=τ k) (x:=.dead) (g:=.zz) (w':=w2) (R':=R') NK dr (λj b hj Ef=>⟨ZD b λe=>hj (hc.sR (e▸Ef) wX),λ_=>id⟩) trivial (.inl rfl) (by rw[Z8];exact⟨rfl,rfl⟩) (by simp) (λh=>by cases h) (λ_ h=>by cases h) (λ_ h=>by cases h) (λb o hr=>by rw[rk];exact hc.th b o hr);rw[show ta τ k (τ k)=τ by funext j;simp only[ta];split<;>simp_all,show cH (cH S k (.sl .bs l,.lv)) k (.dead,.zz)=cH S k (.dead,.zz) by funext j;by_cases e:j=k;rw[e,bR,bR];rw[cO _ _ e,cO _ _ e,cO _ _ e]]at Gp;have ZE:w2.os=w.os/\w2.tape=w.tape/\w2.output=w.output:=by{rw[<-Zo];unfold World.freeze;rw[ak (by decide)];exact⟨rfl,rfl,rfl⟩};have Xc:eI C (cH S k (.dead,.zz)) a w2 R' τ:=⟨h.size,h.defers,Gp,h.tmps,h.io,NG.ext.trans (io':=(·=g)) ⟨ZE.1,ZE.2.1,ZE.2.2,by rw[rk];exact Nat.le_refl _,λc _ hc=>ZD c hc,dr,λc o hr=>.inl hr⟩ λc hc=>hc▸h.core.dz k g hb,NG.gl.dr dr⟩;have SE:w.shape? g=Bm (ce,cur.size):=by{unfold World.shape?;rw[h1]};refine Xc.yV hd hl (v:=τ k) (x:=.sl .bs l) (g:=.no) ?_ (Rep.mono dr hr) rfl (by simp[Gh.cQ]);rw[Zp]at hv⊢;simp[execOp,ho,hv,convert,run_underlying ht,run_underlying he,markStringish,SE];exact Zo
theorem go_mk{t:TypeId}{x y:Operand}{k sK:Nat}{m n:Int}{st:eu}(hE:ku C.P C.E)(hV:Lt V S)(ho:o.op=.makeSlice t x y)(ht:C.E.ty t=Bm (st,sK))(hx:tP C.E C.nt V x=Bm m)(hy:tP C.E C.nt V y=Bm n)(hm:tJ m n sK=Qf)(hk:(S k).2=.no/\k<1000000/\C.nt<=k):eW C o a w (cH (cH S k (.sl st (List.replicate m.toNat st.dH),.pv)) d (.pt,.dB k)):=by
 obtain⟨e,i,zv,h1,h2,h3,h4,h5,h6,h7⟩:=hE.ty _ _ _ ht;obtain⟨k1,e1⟩:=pE h hV hx;obtain⟨k2,e2⟩:=pE h hV hy;simp only[tJ,ah,aC]at hm;obtain⟨⟨⟨m0,mn⟩,mb⟩,mm⟩:=hm;have hmk:=run_make (P:=C.P) w t e i zv h1 h2 h5 k1 k2 m n m0 mn (by rw[Int.mul_comm,h4];omega) (by simp only[maxLen]at mm;omega);have tQ:=st.size_pos;have hfm:((List.replicate m.toNat st.dH).map st.tv).flatMap TV.cells=(List.replicate m.toNat (st.tv st.dH).cells).flatten:=by{rw[List.map_replicate,List.flatMap_def,List.map_replicate]};refine h.Tb hd hl (st:=st) (l:=List.replicate m.toNat st.dH) (cap:=n.toNat) (cur:=madeCells zv.cells (n.toNat*i.size)) (e:=e) (fz:=(0,0)) (ys:=(List.replicate m.toNat zv.cells.toList).flatten) (w':=w.alloc (.cells (madeCells zv.cells (n.toNat*i.size)) e)) hk rfl rfl rfl rfl (λo _=>by simp) (by rw[size_madeCells,h3]) (by rw[List.length_replicate];omega) (by omega)
  (by rw[hfm];exact rI (h7 R w) _) (λj y hj=>?_) ?_
 {have q1:=wL (by simp;omega) _ _ _ hj;have gS:=(aG.1 hj).1;have VP:(List.replicate m.toNat zv.cells.toList).flatten.length=m.toNat*st.size:=by{simp[h6]};rw[VP]at gS;have hle:m.toNat*st.size<=n.toNat*st.size:=aA _ (by omega);have hm:j<n.toNat*i.size:=by{rw[h3];omega};simp only[madeCells,Array.getElem?_map,Array.getElem?_range,hm,if_true,Option.map_some];simp only[Array.length_toList,Array.getElem?_toList]at q1;rw[getElem!_def,q1]};{simp only[execOp,ho,e1,e2,Sem.run_bind,hmk,Result.andThen_ok,Sem.run_pure,List.length_replicate]}
end
theorem lE{P:Program}(g o:Nat)(t:TypeId)(fz:Nat×Nat):∀(vs:List Value)(i:Nat)(cur:Array Value)(w:World),w.heap[g]?=Bm (.cells cur t fz)->o+i+vs.length<=cur.size->
  (∀j,j<cur.size->¬(fz.1<=j/\j<fz.2))->(∀v∈vs,v.oneCell'=Qf)->
  (storeCells ⟨g,o,Kk⟩ vs i).run P w=.ok () (w.setRow g (cur.toList.take (o+i)++vs++cur.toList.drop (o+i+vs.length)).toArray)
 |[],i,cur,w,hg,_,_,_=>by simp only[storeCells,aR,ay,Nat.add_zero,List.take_append_drop,Array.toArray_toList];rw[setRow_self w g cur t fz hg];rfl
 |v::rest,i,cur,w,hg,hl,hf,h1=>by have hi:o+i<cur.size:=by{simp at hl;omega};have Z2:(⟨g,o,Kk⟩:Addr).add i=⟨g,o+i,Kk⟩:=Uc g o i;have yS:w.cell? ⟨g,o+i,Kk⟩=Bm cur[o+i]:=by{simp[World.cell?,hg,hi]};have ZU:w.frozen? ⟨g,o+i,Kk⟩=Qg:=by{obtain⟨f1,f2⟩:=fz;have:=hf (o+i) hi;simp only[World.frozen?,hg];simp only[Bool.and_eq_false_iff,decide_eq_false_iff_not];simp only at this;omega};have Jk:(store ((⟨g,o,Kk⟩:Addr).add i) v).run P w=.ok () (w.setRow g (cur.setIfInBounds (o+i) v)):=by{rw[Z2,run_store P w _ v _ (h1 v (by simp)),yS];simp[ZU,setCell_eq_setRow w g (o+i) cur t fz v hg]};have ih:=lE (P:=P) g o t fz rest (i+1) (cur.setIfInBounds (o+i) v) (w.setRow g (cur.setIfInBounds (o+i) v)) (setRow_heap w g cur _ t _ hg) (by simp at hl⊢;omega) (by simpa using hf) (λx hx=>h1 x (by simp[hx]));simp only[storeCells,Sem.run_bind,Jk,Result.andThen_ok,ih,setRow_setRow];congr 3;have e:=list_seg_step cur.toList (o+i) v rest (by simp at hl⊢;omega);simpa[Array.toList_setIfInBounds,Nat.add_assoc]using e
section
variable{P:Program}{w:World}
def Source(P:Program)(w:World)(s:Nat)(x:Value)(m:Nat)(news:List Value):Prop:=(∀w',(Builtin.lenOf x).run P w'=.ok m w')/\(∀w':World,w'.heap=w.heap->(Builtin.firstCells s m x).run P w'=.ok ⟨news⟩ w')/\news.length=m*s/\∀v∈news,v.oneCell'=Qf
theorem vy {t u ty e:TypeId} {i:TypeInfo} {du:TypeDesc} (ht:P.underlying t=Bm (.slice e)) (hi:P.info? e=Bm i) (hu:P.underlying u=Bm du) (Ca:∀k,du ≠ .int k)
  {g n cap m:Nat} {cur:Array Value} {ce:TypeId} {fz:Nat × Nat} {x:Value} {news:List Value} (hg:w.heap[g]?=Bm (.cells cur ce fz)) (hf:∀j,j<cur.size→¬(fz.1≤j∧j<fz.2))
  (hx:Source P w i.size x m news) (AR:n+m≤cap) (nq:cur.size=cap * i.size) :
  (Builtin.append_ #[t,u] ty #[.slice (Bm ⟨g,0,Kk⟩) n cap,x]).run P w =
   .ok (.slice (Bm ⟨g,0,Kk⟩) (n+m) cap) (w.setRow g (cur.toList.take (n * i.size)++news++cur.toList.drop (n * i.size+news.length)).toArray):=by
 obtain ⟨h1,h2,h3,h4⟩:=hx
 have hle:n * i.size+news.length≤cur.size:=by rw [h3,nq,←Nat.add_mul];exact aA _ AR
 have Jk:=lE (P:=P) g (n * i.size) ce fz news 0 cur w hg (by simpa using hle) hf h4
 simp only [Nat.add_zero] at Jk
 have hz:(match du with | .int _=>Qf | _=>Qg)=Qg:=by cases du <;> first | rfl | exact (Ca _ rfl).elim
 simp only [Builtin.append_,List.getElem?_toArray,List.getElem?_cons_zero,List.getElem?_cons_succ,Sem.run_bind,run_underlying ht,run_underlying hu,Result.andThen_ok,Ub hi,Sem.run_pure,hz,br,if_false,h1,AR,if_true,aH,h2 w rfl]
 simp [Uc,Jk]
theorem vz {t u ty e:TypeId} {i:TypeInfo} {z:Value} {du:TypeDesc} (ht:P.underlying t=Bm (.slice e)) (hi:P.info? e=Bm i) (hz:i.zero=Bm z) (hu:P.underlying u=Bm du) (Ca:∀k,du ≠ .int k)
  {q:Option Addr} {n cap m:Nat} {x:Value} {yk news:List Value} (ho:∀w':World,w'.heap=w.heap→(Builtin.firstCells i.size n (.slice q n cap)).run P w' = .ok ⟨yk⟩ w')
  (hx:Source P w i.size x m news) (hg:cap<n+m) (Xy:n+m≤maxLen) (hb:(n+m) * i.bytes≤140737488355328) :
  (Builtin.append_ #[t,u] ty #[.slice q n cap,x]).run P w =
   .ok (.slice (Bm ⟨w.heap.size,0,Kk⟩) (n+m) (grownCap w (n+m) cap e))
    (w.drew.alloc (.cells ((⟨yk⟩:Array Value)++⟨news⟩++Builtin.zeroCells z.cells (grownCap w (n+m) cap e - (n+m))) e)):=by
 obtain ⟨h1,h2,h3,h4⟩:=hx
 have hn:¬(n+m≤cap):=by omega
 have h63':¬(9223372036854775807<((n:Int)+(m:Int))):=by simp only [maxLen] at Xy;omega
 have h48':¬(281474976710656<Builtin.nextslicecap (n+m) cap * i.bytes):=by
  have:=growslice_fits hg hb;omega
 have ZW:(match du with | .int _=>Qf | _=>Qg)=Qg:=by cases du <;> first | rfl | exact (Ca _ rfl).elim
 simp [Builtin.append_,run_underlying ht,run_underlying hu,ZW,sizeOf,typeInfo,zeroValue,hi,hz,h1,hn,h63',h48',Question.forced,ho w.drew rfl,h2 w.drew rfl,newRow,grownCap]
 congr 2
 apply Array.ext'
 simp [aB]
end
section
variable{w:World}
theorem Source.of_string{P:Program}(b:ByteArray):Source P w 1 (.string b) b.data.toList.length (b.data.toList.map λb=>.int .u8 b.toNat):=by refine⟨λ_=>?_,λw' _=>?_,by simp,by simp;exact λ_ _=>rfl⟩;{rw[ak3];rfl};{have:b.extract 0 b.size=b:=by{simp};simp only[Builtin.firstCells,ak3,this,Sem.run_pure];congr 1;apply Array.ext';simp}
theorem Source.of{P:Program}{R:Reach}{t:eu}{l:List t.El}{x:Value}(h:Holds R w t l x):∃news,Source P w t.size x l.length news/\dn R w ((l.map t.tv).flatMap TV.cells) news:=by rcases h with⟨rfl,rfl|⟨ad,cap,rfl⟩⟩|⟨b,off,cap,ys,rfl,h1,h2,h3⟩;{exact⟨[],⟨λ_=>rfl,λ_ _=>rfl,by simp,by simp⟩,.nil⟩};{exact⟨[],⟨λ_=>rfl,λw' _=>run_firstCells_some (P:=P) w' t.size 0 ad 0 cap [] (by simp) (λj v hj=>by simp at hj),by simp,by simp⟩,.nil⟩};{refine⟨ys,⟨λ_=>rfl,λw' hw=>?_,h1,h3.one⟩,h3⟩;exact run_firstCells_some (P:=P) w' t.size l.length ⟨b,off,Kk⟩ l.length cap ys h1 (λj v hj=>by rw[Uc];rw[World.cell?_of_block (w:=w) (by rw[hw])];exact h2 j v hj)}
theorem Source.R5{P:Program}{R:Reach}(l:bE):Source P w 1 (.string ⟨⟨l⟩⟩) l.length (l.map λb=>.int .u8 b.toNat)/\dn R w ((l.map (eu.tv .bs)).flatMap TV.cells) (l.map λb=>.int .u8 b.toNat):=by
 refine⟨Source.of_string (P:=P) (w:=w) ⟨⟨l⟩⟩,?_⟩;rw[xA];induction l with
 |nil=>exact .nil
 |cons b m ih=>exact .cons rfl (.sc rfl) ih
end
theorem Et{s:Nat}:∀{es:List TV}{i:Nat}{e:TV},(∀x∈es,x.cells.length=s)->es[i]?=Bm e->((es.flatMap TV.cells).drop (i*s)).take s=e.cells
 |x::es,0,e,h,he=>by simp at he;subst he;have:=h x (by simp);simp[<-this]
 |x::es,i+1,e,h,he=>by have hx:=h x (by simp);have ih:=Et (es:=es) (i:=i) (e:=e) (λy hy=>h y (by simp[hy])) (by simpa using he);simp only[List.flatMap_cons];rw[show(i+1)*s=x.cells.length+i*s by rw[hx,Nat.succ_mul];omega,<-List.drop_drop,List.drop_left];exact ih
 |[],_,_,_,he=>by simp at he
section
variable{C:Ctx}{S V:St}{a:Act}{w w':World}{R:Reach}{τ:Nat->Value}{o:Oper}{d:Nat}
theorem eI.wr(h:eI C S a w R τ){k b:Nat}{cur cur':Array Value}{e:TypeId}{fz:Nat×Nat}{x:TV}{g:Gh}(hk:C.nt<=k)(hb:fP τ S k=Bm b)(hP:(S k).2.HF=Qg)(hh:w.heap[b]?=Bm (.cells cur e fz))(hR:∀o,¬R b o)(new:kt R (w.setRow b cur') τ x g (τ k))(hg:g.HF=Qg/\g≠.no)(hm:∀j∈g.cQ,j≠k/\C.nt<=j/\(S j).2≠.no):eI C (cH S k (x,g)) a (w.setRow b cur') R τ:=by have dr:eH R w R (w.setRow b cur'):=λc o hr=>⟨hr,cell_setRow_other w b _ ⟨c,o,Kk⟩ (λe=>hR o (by have:c=b:=e;rw[<-this];exact hr))⟩;have Ma:=(ft hb).1;have hc:=h.core.jN (k:=k) (v:=τ k) (x:=x) (g:=g) (w':=w.setRow b cur') (R':=R) hk dr (λj c hj hc=>⟨setRow_other w b c cur' (λe=>hj (h.core.sR hb (e▸hc)).symm),λ_=>id⟩) new (.inl rfl) ⟨hP,hg.1⟩ hg.2 (λ_=>.inl Ma) (λc Kd Gp=>by have:fP τ S k=Bm c:=gC Ma (B2 hP) Gp;exact⟨h.core.dz k c this,.inr this⟩) hm (λc o hr=>by rw[setRow_size];exact h.core.th c o hr);rw[show ta τ k (τ k)=τ by funext j;simp only[ta];split<;>simp_all]at hc;exact⟨h.size,h.defers,hc,h.tmps,h.io,h.ext.trans (io':=(·=b)) ⟨rfl,rfl,rfl,by rw[setRow_size];exact Nat.le_refl _,λc _ hc=>setRow_other w b c cur' hc,dr,λc o hr=>.inl hr⟩ λc hc=>hc▸h.core.dz k b hb,h.gl.dr dr⟩
theorem eI.Ta(h:eI C S a w' R τ)(hd:o.dst=Kk)(hr:(execOp a.eval o).run C.P w=.ok .skip w'):eW C o a w S:=λK Q hK=>by unfold Oper.wp;rw[hr,Oper.upon_skip,hd];exact hK _ _ ⟨R,τ,h⟩
variable(h:eI C S a w R τ)(hV:Lt V S)
include h hV
theorem oB{m:Nat}{xs:List TV}{ts:List (Nat×Nat)}(hm:S m=(.ag xs,.cl ts)):∃b cs e,τ m=.pointer (Bm ⟨b,0,Kk⟩)/\w.heap[b]?=Bm (.cells ⟨cs⟩ e (0,0))/\dn R w xs cs/\(∀t∈ts,cs[t.1]?=Bm (τ t.2))/\(∀o,¬R b o)/\(∀t∈ts,C.nt<=t.2/\(S t.2).2≠.no)/\fP τ S m=Bm b:=by have _:=hV;have hk:=h.core.key m;rw[hm]at hk;obtain⟨b,cs,e,NB,h1,h2,h3,h4,h5,h6⟩:=hk;cases h3;refine⟨b,cs,e,h1,h2,h4,h5,h6,λt ht=>?_,gC (by rw[hm];rfl) (by rw[hm];rfl) (by rw[h1];rfl)⟩;have:=h.core.inv m t.2;rw[hm]at this;exact this (List.mem_map_of_mem (f:=(·.2)) ht)
section
variable(hd:o.dst=Bm d)(hl:d<C.nt)
include hd hl
theorem go_lr{x:Operand}{t:TypeId}{n:Nat}{agg:Bool}{y:TV}(ho:o.op=.load t x)(hs:ky C.P t=Bm (n,agg))(h1:agg=Qf\/n=1)(hx:gU C.E C.nt V 0 x=Bm (.ro y,.no))(h2:y.wV=agg)(h3:y.cells.length=n):eW C o a w (cH S d (y,.no)):=by obtain⟨b,off,s',hv,hA⟩:=(fe h hV hx).FR;obtain⟨inf,hi,rfl,ha⟩:=ig hs;obtain⟨ys,NI,hc,hL⟩:=hA.read;have Sy:ys.length=inf.size:=by{rw[<-hL.length,h3]};refine h.iH hd hl (v:=if agg then .agg ⟨ys⟩else ys.headD undef) ?_ (by rw[<-h2];exact Va hL);simp only[execOp,ho,hv,Instr.loadAt,Instr.sureAddr,Sem.run_bind,Sem.run_pure,Result.andThen_ok,j9 hi ha h1 Sy hc]
theorem go_ld{x:Operand}{t:TypeId}{m q n:Nat}{agg:Bool}{cs Cz:List TV}{ts:List (Nat×Nat)}{y:TV}{ws:List (Nat×Cell)}(ho:o.op=.load t x)(hs:ky C.P t=Bm (n,agg))(h1:agg=Qf\/n=1)(hx:gU C.E C.nt V 0 x=Bm (.pt,.ptr m q))(hm:S m=(.ag cs,.cl ts))(hf:pH V q n ts cs=Bm (Cz,ws))(hp:py Cz q n agg=Bm y):eW C o a w (cH (eY S ws) d (y,.no)):=by obtain⟨q1,_,q3⟩:=gR h hV hx;obtain⟨b',p1,hv⟩:∃b,τ m=.pointer (Bm ⟨b,0,Kk⟩)/\a.eval x=.pointer (Bm ⟨b,q,Kk⟩):=q1;obtain⟨b,ys,e,k1,k2,k3,k4,k5,k6,_⟩:=oB h hV hm;rw[k1]at p1;cases p1;obtain⟨inf,hi,rfl,ha⟩:=ig hs;obtain⟨R',f1,f2,f3,_⟩:=oY h.core hV.q k3 (λt ht=>⟨(k6 t ht).1,k4 t ht⟩) hf;have h':=h.fz f1 f2;obtain⟨hlen,j7⟩:=rM f3 hp h1;refine h'.iH hd hl (v:=if agg then .agg ⟨(ys.drop q).take inf.size⟩else((ys.drop q).take inf.size).headD undef) ?_ j7;have hc:∀j y,((ys.drop q).take inf.size)[j]?=Bm y->w.cell? ⟨b',q+j,Kk⟩=Bm y:=λj y hj=>by{rw[bg]at hj;split at hj;{rw[List.getElem?_drop]at hj;simp only[World.cell?,k2];simpa using hj};{cases hj}};simp only[execOp,ho,hv,Instr.loadAt,Instr.sureAddr,Sem.run_bind,Sem.run_pure,Result.andThen_ok,j9 hi ha h1 hlen hc]
theorem go_ldt{x:Operand}{t:TypeId}{m q k:Nat}{cs:List TV}{ts:List (Nat×Nat)}(ho:o.op=.load t x)(hs:ky C.P t=Bm (1,Qg))(hx:gU C.E C.nt V 0 x=Bm (.pt,.ptr m q))(hm:S m=(.ag cs,.cl ts))(hf:nL q ts=Bm k):eW C o a w (cH S d (.pt,.dB k)):=by
 obtain⟨q1,_,q3⟩:=gR h hV hx;obtain⟨b',p1,hv⟩:∃b,τ m=.pointer (Bm ⟨b,0,Kk⟩)/\a.eval x=.pointer (Bm ⟨b,q,Kk⟩):=q1;obtain⟨b,ys,e,k1,k2,k3,k4,k5,k6,_⟩:=oB h hV hm;rw[k1]at p1;cases p1;obtain⟨inf,hi,hn,ha⟩:=ig hs;have qS:=nu hf;have hy:=k4 _ qS;refine h.val hd hl (v:=τ k) ?_ (g:=.dB k) ⟨rfl,k3.one _ (aP hy)⟩ rfl λj hj=>?_
 ·have:=j9 (P:=C.P) hi ha (.inr hn) (w:=w) (b:=b') (off:=q) (ys:=[τ k]) (by simp[hn]) (λj y hj=>by
   cases j with
   |zero=>cases hj;simp only[World.cell?,k2];simpa using hy
   |succ j=>simp at hj)
  simp only[execOp,ho,hv,Instr.loadAt,Instr.sureAddr,Sem.run_bind,Sem.run_pure,Result.andThen_ok,this];rfl
 {simp only[Gh.cQ,List.mem_singleton]at hj;subst hj;exact k6 _ qS}
theorem go_ldo{x:Operand}{t:TypeId}{m:Nat}{cs:List TV}{ts:List (Nat×Nat)}(ho:o.op=.load t x)(hs:ky C.P t=Bm (cs.length,Qf))(hx:gU C.E C.nt V 0 x=Bm (.pt,.ptr m 0))(hm:S m=(.ag cs,.cl ts)):eW C o a w (cH S d (.ag cs,.ow ts)):=by obtain⟨q1,_,q3⟩:=gR h hV hx;obtain⟨b',p1,hv⟩:∃b,τ m=.pointer (Bm ⟨b,0,Kk⟩)/\a.eval x=.pointer (Bm ⟨b,0,Kk⟩):=q1;obtain⟨b,ys,e,k1,k2,k3,k4,k5,k6,_⟩:=oB h hV hm;rw[k1]at p1;cases p1;obtain⟨inf,hi,hn,ha⟩:=ig hs;have hle:=k3.length;refine h.val hd hl (v:=.agg ⟨ys⟩) ?_ (g:=.ow ts) ⟨_,_,rfl,rfl,k3,k4⟩ rfl λj hj=>?_;{have:=j9 (P:=C.P) hi ha (.inl rfl) (w:=w) (b:=b') (off:=0) (ys:=ys) (by omega) (λj y hj=>by simp only[World.cell?,k2];simpa using hj);simp only[execOp,ho,hv,Instr.loadAt,Instr.sureAddr,Sem.run_bind,Sem.run_pure,Result.andThen_ok,this];rfl};{obtain⟨t,ht,rfl⟩:=bo.1 hj;exact k6 t ht}
omit hd hl in
theorem QY{x:Operand}{t:TypeId}{i s q k:Nat}{st:eu}{l:List st.El}{p:Bool}(hx:gU C.E C.nt V t x=Bm (.el i s q,.pe k))(hk:fi R w p (τ k) (.sl st l))(hs:s=st.size)(hi:i<l.length):∃g cap cur e fz,τ k=.slice (Bm ⟨g,0,Kk⟩) l.length cap/\a.eval x=.pointer (Bm ⟨g,i*st.size+q,Kk⟩)/\w.heap[g]?=Bm (.cells cur e fz)/\(∀o,o<cur.size->¬(fz.1<=o/\o<fz.2))/\cur.size=cap*st.size/\l.length<=cap/\cap<=maxLen/\dn R w ((l.map st.tv).flatMap TV.cells) (cur.toList.take (l.length*st.size))/\(∀o,R g o↔(p=Qf/\o<l.length*st.size))/\dn R w (st.tv l[i]).cells (((cur.toList.take (l.length*st.size)).drop (i*st.size)).take st.size):=by subst hs;obtain⟨q1,_,_⟩:=gR h hV hx;obtain⟨b,i',s',q',p1,p2,hv⟩:∃b i' s' q',Value.fP (τ k)=Bm b/\TV.el i st.size q=.el i' s' q'/\a.eval x=.pointer (Bm ⟨b,i'*s'+q',Kk⟩):=q1;cases p2;rcases hk.cells with⟨rfl,_⟩|⟨g,cap,cur,e,fz,e1,e2,e3,e4,e5,e6,e7,e8⟩;{simp at hi};{rw[e1]at p1;cases p1;have:=(e7.drop (i*st.size)).take st.size;rw[Et (e:=st.tv l[i]) (λy hy=>by obtain⟨z,_,rfl⟩:=bo.1 hy;exact eu.nv st z) (by simp[hi])]at this;exact⟨g,cap,cur,e,fz,e1,hv,e2,e3,e4,e5,e6,e7,e8,this⟩}
theorem go_pld{x:Operand}{t:TypeId}{i s q k n:Nat}{agg p:Bool}{st:eu}{l:List st.El}{y:TV}(ho:o.op=.load t x)(hs:ky C.P t=Bm (n,agg))(h1:agg=Qf\/n=1)(hx:gU C.E C.nt V 0 x=Bm (.el i s q,.pe k))(hk:fi R w p (τ k) (.sl st l))(h2:s=st.size)(hi:i<l.length)(hp:BK (st.tv (l.getD i st.dH)) q n agg=Bm y):eW C o a w (cH S d (y,.no)):=by
 obtain⟨g,cap,cur,e,fz,_,hv,hh,_,rk,hle,_,_,_,hLe⟩:=QY h hV hx hk h2 hi;obtain⟨inf,zT,rfl,ha⟩:=ig hs;rw[ai,au hi,Option.getD_some]at hp;have SL:py (st.tv l[i]).cells q inf.size agg=Bm y:=by
  unfold BK at hp;split at hp;{rename_i cs e;rw[e];exact hp}
  ·rename_i nc;cases hb:(Nat.beq q 0&&Nat.beq inf.size 1&&!agg)with
   |false=>rw[hb]at hp;cases hp
   |true=>rw[hb]at hp;cases hp;simp only[ah,Bool.not_eq_true']at hb;obtain⟨⟨b1,b2⟩,rfl⟩:=hb;have b1:=az b1;subst b1;have:(st.tv l[i]).cells=[st.tv l[i]]:=by{cases hq:st.tv l[i]<;>first|rfl|exact(nc _ hq).elim};rw[this];rfl
 obtain⟨hlen,j7⟩:=rM hLe SL h1;refine h.iH hd hl (v:=if agg then .agg ⟨(((((cur.toList.take (l.length*st.size)).drop (i*st.size)).take st.size).drop q).take inf.size)⟩else(((((cur.toList.take (l.length*st.size)).drop (i*st.size)).take st.size).drop q).take inf.size).headD undef) ?_ j7;have hc:∀j y,(((((cur.toList.take (l.length*st.size)).drop (i*st.size)).take st.size).drop q).take inf.size)[j]?=Bm y->w.cell? ⟨g,i*st.size+q+j,Kk⟩=Bm y:=by{intro j y hj;simp only[World.cell?,hh];rw[bg]at hj;split at hj;{rw[List.getElem?_drop,bg]at hj;split at hj;{rw[List.getElem?_drop,bg]at hj;split at hj;{rw[show i*st.size+q+j=i*st.size+(q+j) by omega];simpa using hj};{cases hj}};{cases hj}};{cases hj}};simp only[execOp,ho,hv,Instr.loadAt,Instr.sureAddr,Sem.run_bind,Sem.run_pure,Result.andThen_ok,j9 zT ha h1 hlen hc]
end
end
section
variable{R:Reach}{w:World}
theorem AZ(l:List Value):∀(off k:Nat)(cells:Array Value),off+k+l.length<=cells.size->((l.zipIdx k).foldl (λcs p=>cs.setIfInBounds (off+p.2) p.1) cells).toList=cells.toList.take (off+k)++l++cells.toList.drop (off+k+l.length):=by
 induction l with
 |nil=>intro off k cells _;simp
 |cons v l ih=>intro off k cells hl;simp only[List.zipIdx_cons,List.foldl_cons];rw[ih off (k+1) (cells.setIfInBounds (off+k) v) (by simp at hl⊢;omega)];have e:=list_seg_step cells.toList (off+k) v l (by simp at hl⊢;omega);simpa[Array.toList_setIfInBounds,Nat.add_assoc]using e
theorem LB{R:Reach}{w:World}{x:TV}{v:Value}(h:Rep R w x v)(hp:x.kW=Qf)(h1:x=.pt->v.oneCell'=Qf):dn R w x.cells v.cells.toList:=by
 cases x with
 |pt=>have e2:v.cells.toList=[v]:=by{have:=h1 rfl;cases v<;>first|rfl|(simp[Value.oneCell']at this)};rw[e2];exact .cons (h1 rfl) h .nil
 |_=>exact ox h hp
theorem Ey(place:Nat->Option (Nat×Nat)):∀(parts:List (Nat×Value))(pl:List (Nat×Nat))(xs:List TV)(z cs:List TV)(cells:Array Value),dn R w z cells.toList->parts.length=pl.length->
  (∀(j:Nat)(p:Nat×Value)(q:Nat×Nat),parts[j]?=Bm p->pl[j]?=Bm q->place p.1=Bm q)->(∀(j:Nat)(p:Nat×Value)(x:TV),parts[j]?=Bm p->xs[j]?=Bm x->Rep R w x p.2/\(x=.pt->p.2.oneCell'=Qf))->sf z pl xs=Bm cs->
  ∃eG,Instr.fill place cells parts=Bm eG/\dn R w cs eG.toList
 |[],pl,xs,z,cs,cells,hz,hl,_,_,hf=>by
  have:pl=[]:=bm hl.symm;subst this;cases xs with
  |nil=>simp[sf]at hf;subst hf;exact⟨cells,rfl,hz⟩
  |cons=>simp[sf]at hf
 |(i,v)::parts,pl,xs,z,cs,cells,hz,hl,hp,hr,hf=>by
  cases pl with
  |nil=>simp at hl
  |cons q pl=>
   obtain⟨off,n⟩:=q;cases xs with
   |nil=>simp[sf]at hf
   |cons x xs=>simp only[sf]at hf;obtain⟨hc,hf⟩:=bG.1 hf;{simp only[ah]at hc;obtain⟨⟨Kd,Gp⟩,hc3⟩:=hc;have Gp:=az Gp;have hc3:=Nat.le_of_ble_eq_true hc3;have hx:=LB (hr 0 _ _ rfl rfl).1 Kd (hr 0 _ _ rfl rfl).2;have Pj:=hx.length;have HK:=hz.length;simp only[Array.length_toList]at Pj HK;have zF:=hp 0 _ _ rfl rfl;simp only at zF;have hs:v.cells.size=n:=by{omega};have nq:¬(v.cells.size≠n\/off+v.cells.size>cells.size):=by{omega};have iQ:=AZ v.cells.toList off 0 cells (by simp;omega);have hz':dn R w (iu z off x.cells) (v.cells.zipIdx.foldl (λcs p=>cs.setIfInBounds (off+p.2) p.1) cells).toList:=by{have e:(v.cells.zipIdx.foldl (λcs p=>cs.setIfInBounds (off+p.2) p.1) cells)=(v.cells.toList.zipIdx 0).foldl (λcs p=>cs.setIfInBounds (off+p.2) p.1) cells:=by{rw[<-Array.foldl_toList];simp};rw[e,iQ];have hle:v.cells.toList.length=x.cells.length:=by{simp;omega};simp only[iu,Nat.add_zero,hle];exact((hz.take off).append hx).append (hz.drop _)};obtain⟨eG,h1,h2⟩:=Ey place parts pl xs _ cs _ hz' (by simpa using hl) (λj p q h1 h2=>hp (j+1) p q (by simpa using h1) (by simpa using h2)) (λj p y h1 h2=>hr (j+1) p y (by simpa using h1) (by simpa using h2)) hf;refine⟨eG,?_,h2⟩;simp only[Instr.fill,zF];rw[ak (by simpa using nq)];exact h1}
end
theorem A3(s:Nat):∀(vs:List Value)(k:Nat)(cells:Array Value),(∀v∈vs,v.cells.size=s)->(k+vs.length)*s=cells.size->
  ∃eG,Instr.fill (λi=>Bm (i*s,s)) cells ((vs.zipIdx k).map λp=>(p.2,p.1))=Bm eG/\eG.toList=cells.toList.take (k*s)++vs.flatMap λv=>v.cells.toList
 |[],k,cells,_,hl=>by refine⟨cells,rfl,?_⟩;simp at hl;simp[List.take_of_length_le,hl]
 |v::vs,k,cells,hv,hl=>by have h0:=hv v (by simp);simp only[av]at hl;have hm:(k+(vs.length+1))*s=k*s+s+vs.length*s:=by{rw[Nat.add_mul,Nat.succ_mul];omega};have nq:¬(v.cells.size≠s\/k*s+v.cells.size>cells.size):=by{omega};have iQ:=AZ v.cells.toList (k*s) 0 cells (by simp;omega);have e:(v.cells.zipIdx.foldl (λcs p=>cs.setIfInBounds (k*s+p.2) p.1) cells)=(v.cells.toList.zipIdx 0).foldl (λcs p=>cs.setIfInBounds (k*s+p.2) p.1) cells:=by{rw[<-Array.foldl_toList];simp};have rk:(v.cells.zipIdx.foldl (λcs p=>cs.setIfInBounds (k*s+p.2) p.1) cells).size=cells.size:=by{rw[e,<-Array.length_toList,iQ];simp;omega};obtain⟨eG,h1,h2⟩:=A3 s vs (k+1) (v.cells.zipIdx.foldl (λcs p=>cs.setIfInBounds (k*s+p.2) p.1) cells) (λu hu=>hv u (by simp[hu])) (by rw[rk,<-hl];congr 1;omega);refine⟨eG,?_,?_⟩;{simp only[List.zipIdx_cons,bc,Instr.fill];rw[ak (by simpa using nq)];exact h1};{rw[h2,e,iQ];have Jr:(k+1)*s=k*s+s:=Nat.succ_mul k s;have hL:(cells.toList.take (k*s+0)++v.cells.toList).length=(k+1)*s:=by{simp;omega};rw[aB,<-aB (cells.toList.take (k*s+0)),List.take_left' hL];simp}
theorem Al{α:Type}:∀(l:List (Nat×α))(k:Nat),l.map (·.1)=List.range' k l.length->l=((l.map (·.2)).zipIdx k).map λp=>(p.2,p.1)
 |[],_,_=>rfl
 |(i,x)::l,k,h=>by simp only[bc,av,List.range'_succ,bw]at h;simp only[bc,List.zipIdx_cons];rw[<-Al l (k+1) h.2,h.1]
theorem Ai{R:Reach}{w:World}{s:Nat}:∀{xs:List TV}{vs:List Value},hO R w xs vs->(∀x∈xs,x.plain=Qf/\x.cells.length=s)->dn R w (xs.flatMap TV.cells) (vs.flatMap λv=>v.cells.toList)/\∀v∈vs,v.cells.size=s
 |_,_,.nil,_=>⟨.nil,by simp⟩
 |_,_,.cons (x:=x) h t,hx=>by obtain⟨h1,h2⟩:=Ai t (λx B5=>hx x (by simp[B5]));obtain⟨p1,p2⟩:=hx x (by simp);have hL:=ox h p1;refine⟨by simpa using hL.append h1,λv hv=>?_⟩;rcases aS.1 hv with rfl|hv;{have:=hL.length;simp at this;omega};{exact h2 v hv}
def As{v:Value}(h:v.oneCell'=Qf):v.cells.toList=[v]:=by cases v<;>first|rfl|(simp[Value.oneCell']at h)
def C7{α:Type}(l v:List α){a N:Nat}(h:a+v.length<=N)(hl:N<=l.length):(l.take a++v++l.drop (a+v.length)).take N=(l.take N).take a++v++(l.take N).drop (a+v.length):=by have e:(l.take a++v).length=a+v.length:=by{simp;omega};rw[List.take_append,List.take_of_length_le (by omega),e,List.take_take,Nat.min_eq_left (by omega),List.drop_take]
theorem wM{s:Nat}:∀{es:List TV}{i q:Nat}{e e':TV}{ys:List TV},(∀x∈es,x.cells.length=s)->es[i]?=Bm e->e'.cells=iu e.cells q ys->q+ys.length<=s->(es.set i e').flatMap TV.cells=iu (es.flatMap TV.cells) (i*s+q) ys
 |x::es,0,q,e,e',ys,h,he,hc,hq=>by simp at he;subst he;have hx:=h x (by simp);simp only[List.set_cons_zero,List.flatMap_cons,Nat.zero_mul,Nat.zero_add,hc,iu];rw[List.take_append_of_le_length (by omega),List.drop_append_of_le_length (by omega)];simp only[aB]
 |x::es,i+1,q,e,e',ys,h,he,hc,hq=>by have hx:=h x (by simp);have ih:=wM (es:=es) (i:=i) (q:=q) (e:=e) (e':=e') (ys:=ys) (λy hy=>h y (by simp[hy])) (by simpa using he) hc hq;simp only[List.set_cons_succ,List.flatMap_cons,ih,iu];rw[show(i+1)*s+q=x.cells.length+(i*s+q) by rw[hx,Nat.succ_mul];omega,List.take_length_add_append,show x.cells.length+(i*s+q)+ys.length=x.cells.length+(i*s+q+ys.length) by omega,List.drop_length_add_append];simp only[aB]
 |[],_,_,_,_,_,_,he,_,_=>by simp at he
section
variable{C:Ctx}{S V:St}{a:Act}{w w':World}{R:Reach}{τ:Nat->Value}{o:Oper}{d:Nat}(h:eI C S a w R τ)(hV:Lt V S)
include h hV
theorem go_st'(hd:o.dst=Kk){x v:Operand}{t:TypeId}{inf:TypeInfo}{m q:Nat}{cs:List TV}{ts us:List (Nat×Nat)}{qs:List TV}(ho:o.op=.store t x v)(hi:C.P.info? t=Bm inf)(hx:gU C.E C.nt V 0 x=Bm (.pt,.ptr m q))(hm:S m=(.ag cs,.cl ts))(hL:dn R w qs (a.eval v).cells.toList)(hn:qs.length=inf.size)(nq:q+inf.size<=cs.length)(hu:∀u∈us,u.2≠m/\((u∈ts/\(u.1<q\/q+inf.size<=u.1))\/(C.nt<=u.2/\(S u.2).2≠.no/\q<=u.1/\(a.eval v).cells.toList[u.1 -q]?=Bm (τ u.2)))):eW C o a w (cH S m (.ag (iu cs q qs),.cl us)):=by obtain⟨q1,_,q3⟩:=gR h hV hx;obtain⟨b',p1,hv⟩:∃b,τ m=.pointer (Bm ⟨b,0,Kk⟩)/\a.eval x=.pointer (Bm ⟨b,q,Kk⟩):=q1;obtain⟨b,ys,e,k1,k2,k3,k4,k5,k6,k7⟩:=oB h hV hm;rw[k1]at p1;cases p1;have hlen:=hL.length;have hlm:=k3.length;have QT:(a.eval v).cells.size=inf.size:=by{simp at hlen;omega};have Jk:=run_storeCells_at (P:=C.P) b' q e (a.eval v).cells.toList 0 ⟨ys⟩ w k2 (by simp;omega) hL.one;simp only[Nat.add_zero]at Jk;let new:List Value:=ys.take q++(a.eval v).cells.toList++ys.drop (q+(a.eval v).cells.toList.length);have lr:(execOp a.eval o).run C.P w=.ok .skip (w.setRow b' ⟨new⟩):=by{have:¬((a.eval v).cells.size≠inf.size):=by{omega};simp only[execOp,ho,hv,Instr.storeAt,Instr.sureAddr,Sem.run_bind,Sem.run_pure,Result.andThen_ok,storeVar,Ub hi,Sem.run_ite,this,if_false,Jk];rfl};have dr:eH R w R (w.setRow b' ⟨new⟩):=λb o hr=>⟨hr,cell_setRow_other w b' _ ⟨b,o,Kk⟩ (λe=>k5 o (by have:b=b':=e;rw[<-this];exact hr))⟩;have hle:(a.eval v).cells.toList.length=qs.length:=hlen.symm;have hLn:dn R (w.setRow b' ⟨new⟩) (iu cs q qs) new:=by{show dn R (w.setRow b' ⟨new⟩) _ (ys.take q++(a.eval v).cells.toList++ys.drop (q+(a.eval v).cells.toList.length));rw[hle];exact(((k3.take q).append hL).append (k3.drop (q+qs.length))).mono dr};refine(h.wr (k:=m) (b:=b') (cur:=⟨ys⟩) (cur':=⟨new⟩) (x:=.ag (iu cs q qs)) (g:=.cl us) (q3 m (by simp[Gh.cQ])).1 k7 (by rw[hm];rfl) k2 k5 ⟨b',new,e,_,k1,setRow_heap w b' ⟨ys⟩ ⟨new⟩ e (0,0) k2,rfl,hLn,λu Vv=>?_,k5⟩ ⟨rfl,by simp⟩ λj hj=>?_).Ta hd lr;{rcases(hu u Vv).2 with⟨h1,h2⟩|⟨_,_,h1,h2⟩;{have hc:=k4 u h1;have gS:=(aG.1 hc).1;simp only[new];rcases h2 with h2|h2;{rw[aB,List.getElem?_append_left (by simp;omega),bg,ar h2];exact hc};{rw[aW (by simp;omega)];simp only[af,aJ,hle,hn,List.getElem?_drop];rw[<-hc];congr 1;omega}};{have gS:=(aG.1 h2).1;simp only[new];rw[aB,aW (by simp;omega),aJ,Nat.min_eq_left (by omega),List.getElem?_append_left gS];exact h2}};{obtain⟨u,Vv,rfl⟩:=bo.1 hj;obtain⟨h1,h2⟩:=hu u Vv;refine⟨h1,?_⟩;rcases h2 with⟨h2,_⟩|⟨h2,h3,_⟩;{exact k6 u h2};{exact⟨h2,h3⟩}}
omit h hV in
theorem Am{o n:Nat}{ts:List (Nat×Nat)}{u:Nat×Nat}(hu:u∈Hi o n ts):u∈ts/\(u.1<o\/o+n<=u.1):=by obtain⟨h1,h2⟩:=List.mem_filter.1 hu;simp only[Bool.or_eq_true]at h2;exact⟨h1,h2.imp (λh=>Nat.le_of_ble_eq_true h) (λh=>Nat.le_of_ble_eq_true h)⟩
theorem go_pst(hd:o.dst=Kk){x v:Operand}{t:TypeId}{inf:TypeInfo}{i s q k:Nat}{st:eu}{l:List st.El}{y e':TV}{z:st.El}(ho:o.op=.store t x v)(hi:C.P.info? t=Bm inf)(hx:gU C.E C.nt V 0 x=Bm (.el i s q,.pe k))(hk:S k=(.sl st l,.pv))(hv:Rep R w y (a.eval v))(hp:y.plain=Qf)(hn:y.cells.length=inf.size)(hs:s=st.size)(gS:i<l.length)(he:FV (st.tv (l.getD i st.dH)) q y=Bm e')(hz:st.el e'=Bm z):eW C o a w (cH S k (.sl st (l.set i z),.pv)):=by
 have hK:=h.core.key k;rw[hk]at hK;obtain⟨g,cap,cur,ce,fz,h1,h2,h3,h4,h5,h6,h7,h8,h9,kv⟩:=QY h hV hx hK hs gS;obtain⟨_,_,q3⟩:=gR h hV hx;have hL:=ox hv hp;have hlen:=hL.length;have QT:(a.eval v).cells.size=inf.size:=by{simp at hlen;omega};rw[ai,au gS,Option.getD_some]at he;have Um:=eu.nv st l[i];obtain⟨nq,iQ⟩:q+y.cells.length<=st.size/\e'.cells=iu (st.tv l[i]).cells q y.cells:=by
  unfold FV at he;split at he
  ·rename_i cs ec;cases hb:Nat.ble (q+y.cells.length) cs.length with
   |false=>rw[hb]at he;cases he
   |true=>rw[hb]at he;cases he;rw[ec]at Um⊢;have:=Nat.le_of_ble_eq_true hb;exact⟨by simp[TV.cells]at Um;omega,rfl⟩
  ·rename_i nc;cases hb:(Nat.beq q 0&&!y.wV)with
   |false=>rw[hb]at he;cases he
   |true=>rw[hb]at he;cases he;simp only[ah,Bool.not_eq_true']at hb;have hq:=az hb.1;subst hq;have e1:(st.tv l[i]).cells=[st.tv l[i]]:=by{cases hq:st.tv l[i]<;>first|rfl|exact(nc _ hq).elim};have e2:y.cells=[y]:=by{cases y<;>first|rfl|(simp[TV.wV]at hb)};rw[e1]at Um;rw[e1,e2];simp at Um;exact⟨by simp;omega,by simp[iu]⟩
 have hle:(i+1)*st.size<=l.length*st.size:=aA _ gS;rw[Nat.succ_mul]at hle;have ZO:l.length*st.size<=cap*st.size:=aA _ h6;have Jk:=lE (P:=C.P) g (i*st.size+q) ce fz (a.eval v).cells.toList 0 cur w h3 (by rw[h5,<-hlen];omega) h4 hL.one;simp only[Nat.add_zero]at Jk;let new:Array Value:=(cur.toList.take (i*st.size+q)++(a.eval v).cells.toList++cur.toList.drop (i*st.size+q+(a.eval v).cells.toList.length)).toArray;have lr:(execOp a.eval o).run C.P w=.ok .skip (w.setRow g new):=by{have:¬((a.eval v).cells.size≠inf.size):=by{omega};simp only[execOp,ho,h2,Instr.storeAt,Instr.sureAddr,Sem.run_bind,Sem.run_pure,Result.andThen_ok,storeVar,Ub hi,Sem.run_ite,this,if_false,Jk];rfl};have hR:∀o,¬R g o:=λo hr=>by{have:=(h9 o).1 hr;simp at this};have dr:eH R w R (w.setRow g new):=λb o hr=>⟨hr,cell_setRow_other w g _ ⟨b,o,Kk⟩ (λe=>hR o (by have:b=g:=e;rw[<-this];exact hr))⟩;have Fh:cur.toList.length=cap*st.size:=by{simp[h5]};have rk:new.size=cur.size:=by{simp only[new,List.size_toArray,af,aJ,aZ,<-hlen,Fh,<-Array.length_toList];omega};have VQ:dn R w (((l.set i z).map st.tv).flatMap TV.cells) (new.toList.take (l.length*st.size)):=by{have e1:((l.set i z).map st.tv).flatMap TV.cells=iu ((l.map st.tv).flatMap TV.cells) (i*st.size+q) y.cells:=by{rw[List.map_set,eu.QX hz];exact wM (λx hx=>by obtain⟨u,_,rfl⟩:=bo.1 hx;exact eu.nv st u) (by simp[gS]) iQ nq};have e2:=C7 cur.toList (a.eval v).cells.toList (a:=i*st.size+q) (N:=l.length*st.size) (by rw[<-hlen];omega) (by rw[Fh];exact ZO);rw[e1];show dn R w _ ((cur.toList.take (i*st.size+q)++(a.eval v).cells.toList++cur.toList.drop (i*st.size+q+(a.eval v).cells.toList.length)).take (l.length*st.size));rw[e2,<-hlen];exact((h8.take _).append hL).append (h8.drop _)};refine(h.wr (k:=k) (b:=g) (cur:=cur) (cur':=new) (x:=.sl st (l.set i z)) (g:=.pv) (q3 k (by simp[Gh.cQ])).1 (gC (by rw[hk];rfl) (by rw[hk];rfl) (by rw[h1];rfl)) (by rw[hk];rfl) h3 hR ⟨st,l.set i z,rfl,.inr ⟨g,cap,new,ce,fz,by rw[List.length_set];exact h1,setRow_heap w g cur new ce fz h3,λo ho=>h4 o (by rw[<-rk];exact ho),by rw[rk];exact h5,by rw[List.length_set];exact h6,h7,by rw[List.length_set];exact VQ.mono dr,λo=>⟨λhr=>(hR o hr).elim,λhr=>by simp at hr⟩⟩⟩ ⟨rfl,by simp⟩ (by simp[Gh.cQ])).Ta hd lr
end
theorem lS{A:Type}{f:TV->Option A}{g:A->TV}(hf:∀x y,f x=Bm y->x=g y):∀{xs:List TV}{l:List A},allM f xs=Bm l->xs=l.map g
 |[],l,h=>by cases h;rfl
 |x::r,l,h=>by simp only[allM]at h;split at h;{rename_i y hy;split at h;{rename_i m hm;cases h;rw[hf _ _ hy,lS hf hm];rfl};{cases h}};{cases h}
def CD{cs:List TV}{n:Nat}{x:TV}(h:J1 cs n=Bm x)(hn:n<cs.length):cs[n]?=Bm x:=by
 unfold J1 at h;split at h;{split at h;{rename_i l hl;have:=lS (g:=.s) (λx y h=>by cases x<;>simp[TV.str?]at h;rw[h]) hl;cases h;rw[this]at hn⊢;have Ee:n<l.length:=by{simpa using hn};simp[ai,au Ee]};{cases h}};{split at h;{rename_i l hl;have:=lS (g:=.i .i64) (λx y h=>by cases x<;>simp[TV.i64?]at h;rename_i k m;cases k<;>simp at h;rw[h]) hl;cases h;rw[this]at hn⊢;have Ee:n<l.length:=by{simpa using hn};simp[ai,au Ee]};{cases h}};{split at h;{rename_i l hl;have:=lS (g:=.u8) (λx y h=>by cases x<;>simp[TV.u8?]at h;rw[h]) hl;cases h;rw[this]at hn⊢;have Ee:n<l.length:=by{simpa using hn};simp[ai,au Ee]};{cases h}};{split at h;{rename_i l hl;have:=lS (g:=.u64) (λx y h=>by cases x<;>simp[TV.u64?]at h;rw[h]) hl;cases h;rw[this]at hn⊢;have Ee:n<l.length:=by{simpa using hn};simp[ai,au Ee]};{cases h}};{split at h;{rename_i l hl;have:=lS (g:=.b) (λx y h=>by cases x<;>simp[TV.bool?]at h;rw[h]) hl;cases h;rw[this]at hn⊢;have Ee:n<l.length:=by{simpa using hn};simp[ai,au Ee]};{cases h}};{exact h}
 ·split at h
  ·rename_i l hl;have:=lS (g:=λp=>.c (.complex .f64 p.1 p.2)) (λx y h=>by
    unfold TV.cx? at h;split at h;{cases h;rfl}
    ·cases h) hl
   cases h;rw[this]at hn⊢;have Ee:n<l.length:=by{simpa using hn};simp[ai,au Ee]
  {cases h}
 {rename_i t _ _;split at h;{rename_i l hl;have:=lS (g:=.sl t) (λx y h=>by cases x<;>simp[TV.sl?]at h;obtain⟨rfl,h⟩:=h;subst h;rfl) hl;cases h;rw[this]at hn⊢;have Ee:n<l.length:=by{simpa using hn};simp[ai,au Ee]};{cases h}};{cases h}
theorem EK{s m n:Nat}{cs:List TV}(hl:m*s=cs.length)(hn:n<m):∀(j:Nat){xs:List TV},j<=s->EL s m n cs j=Bm xs->xs=(cs.drop (n*s+(s -j))).take j
 |0,xs,_,h=>by simp[EL]at h;simp[h]
 |j+1,xs,hj,h=>by simp only[EL]at h;split at h;{rename_i x hx;split at h;{rename_i ys hy;cases h;have h1:=EK hl hn j (by omega) hy;have h2:=CD hx (by simpa[TG]using hn);have gS:n*s+(s -(j+1))<cs.length:=by{have:(n+1)*s<=m*s:=aA _ hn;rw[Nat.succ_mul]at this;omega};have e:x=cs[n*s+(s -(j+1))]:=by{simp only[TG,bq,List.getElem?_range hn,Option.map_some,aN]at h2;rw[<-h2,ai,au gS];rfl};rw[h1,List.drop_eq_getElem_cons gS,List.take_succ_cons,e,show n*s+(s -(j+1))+1=n*s+(s -j) by omega]};{cases h}};{cases h}
theorem Hu{A:Type}{g:A->TV}:∀l:List A,I6 g l=l.map g
 |[]=>rfl
 |p::r=>by rw[I6,Hu r];rfl
def Nj{a b:Nat}(h:a≠b):Nat.beq a b=Qg:=by
 cases e:Nat.beq a b with
 |false=>rfl
 |true=>exact(h (az e)).elim
theorem G8{A:Type}:∀(l:List A)(j i:Nat)(q:A),BA j l (j+i) q=l.set i q
 |[],_,_,_=>rfl
 |p::r,j,0,q=>by
  rw[BA,Nat.add_zero,show Nat.beq j j=Qf from Nat.beq_refl j];simp only[aj,List.set_cons_zero];congr 1;have:∀(l:List A)(k:Nat),j<k->BA k l j q=l:=by
   intro l;induction l with
   |nil=>intros;rfl
   |cons a r ih=>intro k hk;rw[BA,ih _ (by omega),Nj (show k≠j by omega)];rfl
  exact this r _ (by omega)
 |p::r,j,i+1,q=>by rw[BA,Nj (show j≠j+(i+1) by omega),show j+(i+1)=j+1+i by omega,G8 r (j+1) i q];rfl
def MQ{x:TV}{q:Cx}(h:x.cx?=Bm q):x=cxT q:=by unfold TV.cx? at h;split at h;{cases h;rfl};{cases h}
def Oc{x:TV}{q:UInt64}(h:x.u64?=Bm q):x=.u64 q:=by unfold TV.u64? at h;split at h;{cases h;rfl};{cases h}
def DL{A:Type}{g:A->TV}{l:List A}{i:Nat}{q:A}(hi:i<l.length):I6 g (BA 0 l i q)=iu (l.map g) i [g q]:=by have:=G8 l 0 i q;rw[Nat.zero_add]at this;rw[this,Hu];simp only[iu,aw];rw[List.set_eq_take_append_cons_drop,ar hi];simp only[List.map_append,bc,List.map_take,List.map_drop,aB,List.singleton_append]
def Se{cs ds:List TV}{i:Nat}{x:TV}(h:WZ cs i x=Bm ds)(hi:i<cs.length):x.plain=Qf/\x.cells=[x]/\ds=iu cs i [x]:=by unfold WZ at h;split at h;{split at h;{rename_i q l h2;cases h;have hc:=lS (g:=.u64) (λx y h=>Oc h) h2;subst hc;exact⟨rfl,rfl,DL (by simpa using hi)⟩};{cases h}};{split at h;{rename_i q l h1 h2;cases h;have hx:=MQ h1;have hc:=lS (g:=cxT) (λx y h=>MQ h) h2;subst hx;subst hc;exact⟨rfl,rfl,DL (by simpa using hi)⟩};{cases h}}
theorem MF{t:eu}:∀{xs:List TV}{l:List t.El},t.Wd xs=Bm l->l.map t.tv=xs
 |[],l,h=>by cases h;rfl
 |x::r,l,h=>by simp only[eu.Wd]at h;split at h;{rename_i y hy;split at h;{rename_i m hm;cases h;rw[bc,eu.QX hy,MF hm]};{cases h}};{cases h}
section
variable{C:Ctx}{S V:St}{a:Act}{w w':World}{R:Reach}{τ:Nat->Value}{o:Oper}{d:Nat}(h:eI C S a w R τ)(hV:Lt V S)
include h hV
theorem No{x:Operand}{t:TypeId}{i s q m:Nat}{xs:List TV}{ts:List (Nat×Nat)}(hx:gU C.E C.nt V t x=Bm (.el i s q,.pe m))(hm:S m=(.ag xs,.cl ts)):∃b,τ m=.pointer (Bm ⟨b,0,Kk⟩)/\a.eval x=.pointer (Bm ⟨b,i*s+q,Kk⟩):=by obtain⟨q1,_,_⟩:=gR h hV hx;obtain⟨b,i',s',q',p1,p2,hv⟩:∃b i' s' q',Value.fP (τ m)=Bm b/\TV.el i s q=.el i' s' q'/\a.eval x=.pointer (Bm ⟨b,i'*s'+q',Kk⟩):=q1;cases p2;obtain⟨b',_,_,k1,_⟩:=oB h hV hm;rw[k1]at p1;cases p1;exact⟨_,k1,hv⟩
theorem go_pla(hd:o.dst=Bm d)(hl:d<C.nt){x:Operand}{t:TypeId}{i m:Nat}{cs:List TV}{ts:List (Nat×Nat)}{y:TV}(ho:o.op=.load t x)(hs:ky C.P t=Bm (1,Qg))(hx:gU C.E C.nt V 0 x=Bm (.el i 1 0,.pe m))(hm:S m=(.ag cs,.cl ts))(hi:i<cs.length)(hp:J1 cs i=Bm y):eW C o a w (cH S d (y,.no)):=by
 obtain⟨b0,p1,hv⟩:=No h hV hx hm;obtain⟨b,ys,e,k1,k2,k3,_⟩:=oB h hV hm;obtain rfl:b=b0:=by{rw[k1]at p1;cases p1;rfl};obtain⟨inf,zT,hn,ha⟩:=ig hs;obtain⟨v,Ji,_,Jh⟩:=k3.get i y (CD hp hi);refine h.iH hd hl (v:=v) ?_ Jh;have:=j9 (P:=C.P) zT ha (.inr hn) (w:=w) (b:=b) (off:=i*1+0) (ys:=[v]) (by simp[hn]) (λj y hj=>by
  cases j with
  |zero=>cases hj;simp only[World.cell?,k2];simpa using Ji
  |succ j=>simp at hj)
 simp only[execOp,ho,hv,Instr.loadAt,Instr.sureAddr,Sem.run_bind,Sem.run_pure,Result.andThen_ok,this];rfl
theorem go_ls(hd:o.dst=Kk){x v:Operand}{t:TypeId}{inf:TypeInfo}{i m:Nat}{cs ds:List TV}{y:TV}(ho:o.op=.store t x v)(zT:C.P.info? t=Bm inf)(hn:inf.size=1)(hx:gU C.E C.nt V 0 x=Bm (.el i 1 0,.pe m))(hm:S m=(.ag cs,.cl []))(hi:i<cs.length)(hv:Rep R w y (a.eval v))(hp:WZ cs i y=Bm ds):eW C o a w (cH S m (.ag ds,.cl [])):=by obtain⟨e1,e2,e3⟩:=Se hp hi;obtain⟨b0,p1,AP⟩:=No h hV hx hm;obtain⟨b,ys,e,k1,k2,k3,k4,k5,k6,k7⟩:=oB h hV hm;obtain rfl:b=b0:=by{rw[k1]at p1;cases p1;rfl};obtain⟨_,_,q3⟩:=gR h hV hx;have hL:=ox hv e1;rw[e2]at hL;have hlen:=hL.length;have hlm:=k3.length;have QT:(a.eval v).cells.size=1:=by{simpa using hlen.symm};have Jk:=run_storeCells_at (P:=C.P) b (i*1+0) e (a.eval v).cells.toList 0 ⟨ys⟩ w k2 (by simp;omega) hL.one;simp only[Nat.add_zero,Nat.mul_one]at Jk AP;let new:List Value:=ys.take i++(a.eval v).cells.toList++ys.drop (i+(a.eval v).cells.toList.length);have lr:(execOp a.eval o).run C.P w=.ok .skip (w.setRow b ⟨new⟩):=by{have:¬((a.eval v).cells.size≠inf.size):=by{omega};simp only[execOp,ho,AP,Instr.storeAt,Instr.sureAddr,Sem.run_bind,Sem.run_pure,Result.andThen_ok,storeVar,Ub zT,Sem.run_ite,this,if_false,Jk];rfl};have dr:eH R w R (w.setRow b ⟨new⟩):=λb1 o hr=>⟨hr,cell_setRow_other w b _ ⟨b1,o,Kk⟩ (λe=>k5 o (by have:b1=b:=e;rw[<-this];exact hr))⟩;have hLn:dn R (w.setRow b ⟨new⟩) ds new:=by{rw[e3];show dn R (w.setRow b ⟨new⟩) _ (ys.take i++(a.eval v).cells.toList++ys.drop (i+(a.eval v).cells.toList.length));rw[<-hlen];exact(((k3.take i).append hL).append (k3.drop _)).mono dr};exact(h.wr (k:=m) (b:=b) (cur:=⟨ys⟩) (cur':=⟨new⟩) (x:=.ag ds) (g:=.cl []) (q3 m (by simp[Gh.cQ])).1 k7 (by rw[hm];rfl) k2 k5 ⟨b,new,e,_,k1,setRow_heap w b ⟨ys⟩ ⟨new⟩ e (0,0) k2,rfl,hLn,by simp,k5⟩ ⟨rfl,by simp⟩ (by simp[Gh.cQ])).Ta hd lr
theorem qJ:∀{ts:List TypeId}{os:List Operand}{cs:List Cell},rh C.E C.nt V ts os=Bm cs->Cells R w τ C.nt cs (os.map a.eval)/\os.length=ts.length/\∀c∈cs,c.2.slot=Qf/\∀m∈c.2.cQ,C.nt<=m/\(S m).2≠.no
 |[],[],_,he=>by cases he;exact⟨.nil,rfl,by simp⟩
 |t::ts,x::os,_,he=>by
  simp only[rh]at he;split at he
  ·rename_i c e1;split at he
   ·rename_i cs e2;cases he;obtain⟨h1,h2,h3⟩:=gR h hV e1;obtain⟨k1,k2,k3⟩:=qJ e2;exact⟨.cons h1 (λm hm=>(h3 m hm).1) k1,by simp[k2],λc' hc=>by
     rcases aS.1 hc with rfl|hc;{exact⟨h2,h3⟩}
     ·exact k3 c' hc⟩
   {cases he}
  {cases he}
 |[],_::_,_,he=>by simp[rh]at he
 |_::_,[],_,he=>by simp[rh]at he
theorem eI.frs{ts:List TypeId}{os:List Operand}{cs:List Cell}{xs:List TV}{ws:List (Nat×Cell)}(ho:rh C.E C.nt V ts os=Bm cs)(he:Kh V cs=Bm (xs,ws)):∃R',eI C (eY S ws) a w R' τ/\hO R' w xs (os.map a.eval)/\Lq V (eY S ws):=by obtain⟨h1,_,_⟩:=qJ h hV ho;obtain⟨R',k1,k2,k3,k4⟩:=yX h.core hV.q h1 he;exact⟨R',h.fz k1 k2,k3,k4⟩
theorem go_bl(hd:o.dst=Bm d)(hl:d<C.nt)(hE:ku C.P C.E){t e:TypeId}{n sK k:Nat}{parts:Array (Nat×Operand)}{st:eu}{cs:List Cell}{xs:List TV}{ws:List (Nat×Cell)}{l:List st.El}(ho:o.op=.buildSlice t n parts)(ht:C.E.ty t=Bm (st,sK))(hx:rh C.E C.nt V (parts.toList.map λ_=>e) (parts.toList.map (·.2))=Bm cs)(hf:Kh V cs=Bm (xs,ws))(he:st.Wd xs=Bm l)(hn:n=parts.size)(hn24:n*st.size<=16777216)(hpr:parts.toList.map (·.1)=List.range n)(hk:rP C.nt V k=Qf):eW C o a w (cH (cH (eY S ws) k (.sl st l,.pv)) d (.pt,.dB k)):=by obtain⟨R',h',hT,hq⟩:=h.frs hV hx hf;obtain⟨e',i,zv,h1,h2,h3,h4,h5,h6,h7⟩:=hE.ty _ _ _ ht;have QF:=MF he;have zF:∀x∈xs,x.plain=Qf/\x.cells.length=st.size:=λx hx=>by{rw[<-QF]at hx;obtain⟨u,_,rfl⟩:=bo.1 hx;exact⟨eu.Kt st u,eu.nv st u⟩};obtain⟨hL,rk⟩:=Ai hT zF;have hlen:parts.toList.length=n:=by{simp[hn]};have VG:l.length=n:=by{have:=hT.length;rw[<-QF]at this;simp at this;omega};have hp:(parts.map λp=>(p.1,a.eval p.2)).toList=((((parts.toList.map (·.2)).map a.eval).zipIdx 0).map λp=>(p.2,p.1)):=by{have e:=Al ((parts.map λp=>(p.1,a.eval p.2)).toList) 0 (by simp only[Array.toList_map,bx,bj,hlen];rw[<-List.range_eq_range',<-hpr];rfl);rw[e];simp[Function.comp_def]};let zc:Array Value:=if n*st.size=0 then#[]else zv.cells;let c0:Array Value:=(Array.range (n*st.size)).map (zc[· % zc.size]!);obtain⟨eG,L8,S2⟩:=A3 st.size ((parts.toList.map (·.2)).map a.eval) 0 c0 rk (by simp[c0,hlen,hn]);simp only[Nat.zero_mul,List.take_zero,bh]at S2;have lr:(Instr.buildSlice t n (parts.map λp=>(p.1,a.eval p.2))).run C.P w=.ok (.slice (Bm ⟨w.heap.size,0,Kk⟩) n n) {w with heap:=w.heap.push (.cells eG e')}:=by{have h24:¬(n*st.size>2^24):=by{omega};rw[<-hp]at L8;simp only[c0,zc]at L8;simp only[Instr.buildSlice,Sem.run_bind,run_underlying h1,Result.andThen_ok,Ub h2,h3,h24,if_false,Sem.run_pure];by_cases h0:n*st.size=0;{rw[ar h0]at L8⊢;simp only[Sem.run_bind,Sem.run_pure,Result.andThen_ok];rw[L8];simp[Go.newRow]};{rw[ak h0]at L8⊢;simp only[Sem.run_bind,Sem.run_pure,Result.andThen_ok,uv h2 h5];rw[L8];simp[Go.newRow]}};rw[<-QF]at hL;have sV:eG.size=n*st.size:=by{rw[<-Array.length_toList,S2,<-hL.length,oA,VG]};have tQ:=st.size_pos;have ZG:n<=maxLen:=by{have:n*1<=n*st.size:=Nat.mul_le_mul_left _ tQ;simp only[maxLen];omega};refine h'.Tb hd hl (st:=st) (l:=l) (cap:=n) (cur:=eG) (e:=e') (fz:=(0,0)) (ys:=((parts.toList.map (·.2)).map a.eval).flatMap λv=>v.cells.toList) (w':={w with heap:=w.heap.push (.cells eG e')}) (ib hq hk) rfl rfl rfl rfl (λo _=>by simp) sV (by omega) ZG hL (λj y hj=>by rw[<-S2]at hj;simpa using hj) ?_;simp only[execOp,ho,Sem.run_bind,VG];have hm:(parts.map λx=>(x.1,a.eval x.2))=parts.map λp=>(p.1,a.eval p.2):=rfl;simp[lr]
end
def RN(P:Program)(t:TypeId):Option Nat:=(P.info? t).map (·.size)
theorem rF{P:Program}{w:World}:∀(fs:List Field),(∀f∈fs,(sizeOf f.type).run P w=.ok ((RN P f.type).getD 0) w)->
  ((fs.mapM λ(f:Field)=>do pure (f.offset,<-sizeOf f.type)):Sem (List (Nat×Nat))).run P w=.ok (fs.map λf=>(f.offset,(RN P f.type).getD 0)) w
 |[],_=>rfl
 |f::fs,hs=>by simp only[List.mapM_cons,Sem.run_bind,hs f (by simp),Result.andThen_ok,Sem.run_pure,rF fs (λg hg=>hs g (by simp[hg])),bc]
theorem tF{P:Program}{t:TypeId}:∀{l:List (Nat×Operand)}{pl:List (Nat×(Nat×TypeId))},qF P t l=Bm pl->pl.length=l.length/\∀(j:Nat)(p:Nat×Operand)(q:Nat×(Nat×TypeId)),l[j]?=Bm p->pl[j]?=Bm q->rL P t p.1=Bm q
 |[],pl,h=>by cases h;exact⟨rfl,by simp⟩
 |(i,o)::r,pl,h=>by
  simp only[qF]at h;split at h
  ·rename_i q l e1 e2;cases h;obtain⟨h1,h2⟩:=tF e2;refine⟨by simp[h1],λj p q' hp hq=>?_⟩;cases j with
   |zero=>cases hp;cases hq;exact e1
   |succ j=>exact h2 j p q' (by simpa using hp) (by simpa using hq)
  {cases h}
theorem ix:∀{l:List (Nat×Cell)}{S:St}{k:Nat},(∀p∈l,p.1≠k)->eY S l k=S k
 |[],_,_,_=>rfl
 |(j,x)::l,S,k,h=>by simp only[eY];rw[cO _ _ (Ne.symm (h (j,x) (List.mem_cons_self ..)))];exact ix λp hp=>h p (List.mem_cons_of_mem _ hp)
theorem yD:∀{cs Cz:List Cell}{k:Nat},qP cs=Bm (Cz,k)->cs=Cz++[(.pt,.dB k)]
 |[],_,_,h=>by simp[qP]at h
 |[c],Cz,k,h=>by obtain⟨x,g⟩:=c;cases x<;>cases g<;>simp[qP]at h;obtain⟨rfl,rfl⟩:=h;rfl
 |c::d::r,Cz,k,h=>by simp only[qP]at h;split at h;{rename_i c1 k1 e;cases h;rw[yD e];rfl};{cases h}
def Cells.snoc{R:Reach}{w:World}{τ:Nat->Value}{nt:Nat}:∀{cs:List Cell}{c:Cell}{vs:List Value},Cells R w τ nt (cs++[c]) vs->∃Fb v,vs=Fb++[v]/\Cells R w τ nt cs Fb/\dP R w τ c.1 c.2 v
 |[],_,_,.cons a b .nil=>⟨[],_,rfl,.nil,a⟩
 |_::_,_,_,.cons a b t=>by obtain⟨Fb,v,rfl,h1,h2⟩:=Cells.snoc t;exact⟨_::Fb,v,rfl,.cons a b h1,h2⟩
def hO.snoc{R:Reach}{w:World}:∀{xs:List TV}{vs:List Value}{x:TV}{v:Value},hO R w xs vs->Rep R w x v->hO R w (xs++[x]) (vs++[v])
 |_,_,_,_,.nil,h=>.cons h .nil
 |_,_,_,_,.cons a t,h=>.cons a (hO.snoc t h)
theorem A2(place:Nat->Option (Nat×Nat)):∀(ps:List (Nat×Value))(i:Nat)(v:Value)(off:Nat)(cells eG:Array Value),place i=Bm (off,1)->v.cells.toList=[v]->Instr.fill place cells (ps++[(i,v)])=Bm eG->eG[off]?=Bm v
 |[],i,v,off,cells,eG,hp,hv,h=>by have AP:v.cells=#[v]:=Array.toList_inj.1 hv;simp only[bh,Instr.fill,hp,AP]at h;split at h;{cases h};{rename_i hc;cases h;have:off<cells.size:=by{simp at hc;omega};simp[Array.getElem?_setIfInBounds,this]}
 |p::ps,i,v,off,cells,eG,hp,hv,h=>by simp only[List.cons_append,Instr.fill]at h;split at h;{cases h};{split at h;{cases h};{exact A2 place ps i v off _ _ hp hv h}}
section
variable{C:Ctx}{S V:St}{a:Act}{w w':World}{R:Reach}{τ:Nat->Value}{o:Oper}{d:Nat}(h:eI C S a w R τ)(hV:Lt V S)
include h hV
omit hV in
theorem Ic(hE:ku C.P C.E){R':Reach}{t:TypeId}{parts:Array (Nat×Operand)}{z ds xs:List TV}{pl:List (Nat×(Nat×TypeId))}(ho:o.op=.build t parts)(hz:C.E.z t=Bm z)(zF:qF C.P t parts.toList=Bm pl)(hT:hO R' w xs ((parts.toList.map (·.2)).map a.eval))(h1:∀(j:Nat)(v:Value),xs[j]?=Bm .pt->(parts.toList.map λp=>a.eval p.2)[j]?=Bm v->v.oneCell'=Qf)(Eg:sf z (pl.map λq=>(q.1,q.2.1)) xs=Bm ds):∃(place:Nat->Option (Nat×Nat))(cells eG:Array Value),(∀(j:Nat)(q:Nat×(Nat×TypeId)),rL C.P t j=Bm q->place j=Bm (q.1,q.2.1))/\Instr.fill place cells (parts.toList.map λp=>(p.1,a.eval p.2))=Bm eG/\dn R' w ds eG.toList/\(execOp a.eval o).run C.P w=.ok (.value (.agg eG)) w:=by
 have _:=h;obtain⟨SV,zv,hi,hzc⟩:=hE.z _ _ hz;rw[aQ]at hi;obtain⟨i,hi,W8⟩:=hi;have hL:dn R' w z zv.cells.toList:=sr hzc;obtain⟨hlen,Pp⟩:=tF zF;have Vs:∀(j:Nat)(p:Nat×Value)(x:TV),((parts.map λp=>(p.1,a.eval p.2)).toList)[j]?=Bm p->xs[j]?=Bm x->Rep R' w x p.2/\(x=.pt->p.2.oneCell'=Qf):=λj p x hp hxj=>by
  obtain⟨y,Ji,Jh⟩:=hT.get j x hxj;simp only[Array.toList_map,bq,bx]at hp Ji;cases hq:parts.toList[j]? with
  |none=>simp[hq]at hp
  |some q=>simp[hq]at hp Ji;subst hp;rw[Ji];exact⟨Jh,λe=>h1 j _ (e▸hxj) (by simp[hq,Ji])⟩
 have SJ:∀place:Nat->Option (Nat×Nat),(∀(j:Nat)(q:Nat×(Nat×TypeId)),rL C.P t j=Bm q->place j=Bm (q.1,q.2.1))->
   ∃eG,Instr.fill place zv.cells (parts.map λp=>(p.1,a.eval p.2)).toList=Bm eG/\dn R' w ds eG.toList:=λplace AU=>
  Ey place _ (pl.map λq=>(q.1,q.2.1)) _ z ds zv.cells hL (by simp[hlen]) (λj p q hp hq=>by
   simp only[Array.toList_map,bq]at hp hq;cases ZB:parts.toList[j]? with
   |none=>simp[ZB]at hp
   |some q'=>
    simp[ZB]at hp;subst hp;cases QM:pl[j]? with
    |none=>simp[QM]at hq
    |some q2=>simp[QM]at hq;subst hq;exact AU _ _ (Pp j q' q2 ZB QM)) Vs Eg
 have fin:∀place:Nat->Option (Nat×Nat),(∀(j:Nat)(q:Nat×(Nat×TypeId)),rL C.P t j=Bm q->place j=Bm (q.1,q.2.1))->
   (∀eG,Instr.fill place zv.cells (parts.map λp=>(p.1,a.eval p.2)).toList=Bm eG->(execOp a.eval o).run C.P w=.ok (.value (.agg eG)) w)->∃(place:Nat->Option (Nat×Nat))(cells eG:Array Value),(∀(j:Nat)(q:Nat×(Nat×TypeId)),rL C.P t j=Bm q->place j=Bm (q.1,q.2.1))/\Instr.fill place cells (parts.toList.map λp=>(p.1,a.eval p.2))=Bm eG/\dn R' w ds eG.toList/\(execOp a.eval o).run C.P w=.ok (.value (.agg eG)) w:=λplace AU Zw=>by
  obtain⟨eG,CR,hR⟩:=SJ place AU
  exact⟨place,zv.cells,eG,AU,by rw[<-Array.toList_map];exact CR,hR,Zw eG CR⟩
 unfold si at SV;cases hu:C.P.underlying t with
 |none=>simp[hu]at SV
 |some dd=>
  cases dd with
  |struct fs=>simp only[hu]at SV;have rk:∀f∈fs.toList,(sizeOf f.type).run C.P w=.ok ((RN C.P f.type).getD 0) w:=λf hf=>by{have:=aI.1 SV f hf;obtain⟨n,hn⟩:=Option.isSome_iff_exists.1 this;rw[Ub hn];simp[RN,hn]};refine fin (λi=>(fs.map λf=>(f.offset,(RN C.P f.type).getD 0))[i]?) (λj q hq=>?_) (λeG hc=>?_);{unfold rL at hq;rw[hu]at hq;simp only[aQ,aO]at hq;obtain⟨f,h1,i',h2,rfl⟩:=hq;simp[h1,RN,h2]};{have hm:=rF fs.toList rk;have Jo:((fs.mapM λ(f:Field)=>do pure (f.offset,<-sizeOf f.type)):Sem (Array (Nat×Nat))).run C.P w=.ok (fs.map λf=>(f.offset,(RN C.P f.type).getD 0)) w:=by{rw[Array.mapM_eq_mapM_toList,Sem.run_map,hm];simp only[Result.andThen_ok];congr 1;apply Array.ext';simp};simp only[execOp,ho,Instr.build,Sem.run_bind,uv hi W8,run_underlying hu,Result.andThen_ok,Jo];rw[hc];simp}
  |array n e=>simp only[hu]at SV;obtain⟨i',h1⟩:=Option.isSome_iff_exists.1 SV;refine fin (λi=>Bm (i*i'.size,i'.size)) (λj q hq=>?_) (λeG hc=>?_);{unfold rL at hq;rw[hu]at hq;simp only[h1,Option.map_some,aN]at hq;subst hq;rfl};{simp only[execOp,ho,Instr.build,Sem.run_bind,uv hi W8,run_underlying hu,Result.andThen_ok,Ub h1];rw[hc];simp}
  |_=>simp[hu]at SV
theorem go_bd(hd:o.dst=Bm d)(hl:d<C.nt)(hE:ku C.P C.E){t:TypeId}{parts:Array (Nat×Operand)}{z ds xs:List TV}{pl:List (Nat×(Nat×TypeId))}{cs:List Cell}{ws:List (Nat×Cell)}(ho:o.op=.build t parts)(hz:C.E.z t=Bm z)(zF:qF C.P t parts.toList=Bm pl)(hx:rh C.E C.nt V (pl.map (·.2.2)) (parts.toList.map (·.2))=Bm cs)(hf:Kh V cs=Bm (xs,ws))(Eg:sf z (pl.map λq=>(q.1,q.2.1)) xs=Bm ds)(SK:xs.all TV.plain=Qf):eW C o a w (cH (eY S ws) d (.ag ds,.no)):=by obtain⟨R',h',hT,hq⟩:=h.frs hV hx hf;obtain⟨_,_,eG,_,_,hR,lr⟩:=Ic h hE ho hz zF hT (λj v hj _=>by have:=aI.1 SK _ (aP hj);cases this) Eg;exact h'.iH hd hl (v:=.agg eG) lr (by cases eG with|mk l=>exact .ag hR)
theorem go_bo(hd:o.dst=Bm d)(hl:d<C.nt)(hE:ku C.P C.E){t:TypeId}{parts:Array (Nat×Operand)}{z ds xs:List TV}{pl:List (Nat×(Nat×TypeId))}{cs Cz:List Cell}{ws:List (Nat×Cell)}{k:Nat}{q:Nat×(Nat×TypeId)}(ho:o.op=.build t parts)(hz:C.E.z t=Bm z)(zF:qF C.P t parts.toList=Bm pl)(hx:rh C.E C.nt V (pl.map (·.2.2)) (parts.toList.map (·.2))=Bm cs)(VH:qP cs=Bm (Cz,k))(hf:Kh V Cz=Bm (xs,ws))(Eg:sf z (pl.map λq=>(q.1,q.2.1)) (xs++[.pt])=Bm ds)(zS:pl.getLast?=Bm q)(hq:q.2.1=1)(hk:∀p∈ws,p.1≠k)(SK:xs.all TV.plain=Qf):eW C o a w (cH (eY S ws) d (.ag ds,.ow [(q.1,k)])):=by
 obtain⟨hlen,Pp⟩:=tF zF;have sV:=yD VH;obtain⟨h1,_,h3⟩:=qJ h hV hx;have Kb:=(h3 (.pt,.dB k) (by rw[sV];simp)).2 k (by simp[Gh.cQ]);rw[sV]at h1;obtain⟨Fb,v,Gk,S2,hv⟩:=Cells.snoc h1;obtain⟨R',k1,k2,k3,_⟩:=yX h.core hV.q S2 hf;have h':=h.fz k1 k2;obtain⟨e1,e2⟩:v=τ k/\v.oneCell'=Qf:=hv;have hT:hO R' w (xs++[.pt]) ((parts.toList.map (·.2)).map a.eval):=by{rw[Gk];exact hO.snoc k3 (.pt v)};obtain⟨place,cells,eG,AU,L8,hR,lr⟩:=Ic h hE ho hz zF hT (λj v' hj wK=>by
  rw[show(parts.toList.map λp=>a.eval p.2)=Fb++[v] by rw[<-Gk];simp]at wK;have hl:=k3.length;by_cases VL:j<xs.length;{rw[List.getElem?_append_left VL]at hj;have:=aI.1 SK _ (aP hj);cases this}
  ·rw[aW (by omega)]at hj wK;have e:j -Fb.length=0:=by
    cases hh:j -xs.length with
    |zero=>omega
    |succ n=>rw[hh]at hj;simp at hj
   rw[e]at wK;cases wK;exact e2) Eg
 obtain⟨ps,p0,hps⟩:∃ps p0,parts.toList=ps++[p0]:=by{rcases List.eq_nil_or_concat parts.toList with e|⟨ps,p0,e⟩;{rw[e]at Gk;simp at Gk};{exact⟨ps,p0,by rw[e,List.concat_eq_append]⟩}};rw[hps]at L8 Gk hlen Pp;simp only[List.map_append,bc,bt]at L8 Gk;have hv0:=(List.append_inj' Gk rfl).2;simp only[bw,and_true]at hv0;have hq0:pl[ps.length]?=Bm q:=by{rw[List.getLast?_eq_getElem?]at zS;simp only[af,aw]at hlen;rw[hlen]at zS;simpa using zS};have Vy:=AU _ _ (Pp ps.length p0 q (by simp) hq0);rw[hq]at Vy;have SQ:=A2 place _ p0.1 (a.eval p0.2) q.1 cells eG Vy (by rw[hv0];exact As e2) L8;refine h'.val hd hl (v:=.agg eG) lr (x:=.ag ds) (g:=.ow [(q.1,k)]) ?_ rfl λj hj=>?_
 ·cases eG with
  |mk l=>exact⟨l,ds,rfl,rfl,hR,λp hp=>by rw[List.mem_singleton]at hp;subst hp;rw[<-e1,<-hv0];simpa using SQ⟩
 {simp only[Gh.cQ,bc,bt,List.mem_singleton]at hj;subst hj;exact⟨Kb.1,by rw[ix hk];exact Kb.2⟩}
end
def eu.CE{t t':eu}{l n:List t.El}{m:List t'.El}(h:t.app l t' m=Bm n):∃e:t'=t,n=l++(e▸m):=by unfold eu.app at h;split at h<;>cases h<;>exact⟨rfl,rfl⟩
section
variable{C:Ctx}{S V:St}{a:Act}{w w':World}{R:Reach}{τ:Nat->Value}{o:Oper}{d:Nat}
def WN(P:Program)(R:Reach)(w:World)(p:Bool)(x0:Value)(st:eu)(n:List st.El)(r:World->Result Value):Prop:=∃v w' R',r w=.ok v w'/\fi R' w' p v (.sl st n)/\eH R w R' w'/\(∀b o,R' b o->R b o\/Value.fP v=Bm b)/\w'.os=w.os/\w'.tape=w.tape/\w'.output=w.output/\w.heap.size<=w'.heap.size/\(∀b,Value.fP v≠Bm b->b<w.heap.size->w'.heap[b]?=w.heap[b]?)/\(∀b,Value.fP v=Bm b->(w.heap.size<=b\/Value.fP x0=Bm b)/\b<w'.heap.size)/\∀b,Value.fP v=Bm b->Value.fP x0=Bm b->∃g cap m,x0=.slice (Bm ⟨g,0,Kk⟩) m cap/\v=.slice (Bm ⟨g,0,Kk⟩) n.length cap
theorem TX{P:Program}{t u ty e:TypeId}{i:TypeInfo}{z:Value}{du:TypeDesc}(gS:∀b o,R b o->b<w.heap.size)(ht:P.underlying t=Bm (.slice e))(hi:P.info? e=Bm i)(hz:i.zero=Bm z)(hzs:z.cells.size=i.size)(hu:P.underlying u=Bm du)(Ca:∀k,du≠.int k){p:Bool}{x0 x:Value}{st:eu}{l m:List st.El}{news:List Value}(hs:i.size=st.size)(h0:fi R w p x0 (.sl st l))(hx:Source P w st.size x m.length news)(hL:dn R w ((m.map st.tv).flatMap TV.cells) news)(Xy:l.length+m.length<=maxLen)(hb:(l.length+m.length)*i.bytes<=140737488355328):WN P R w p x0 st (l++m) λw=>(Builtin.append_ #[t,u] ty #[x0,x]).run P w:=by
 rw[<-hs]at hx;have Ed:=hx.2.2.1;have VY:((l++m).map st.tv).flatMap TV.cells=(l.map st.tv).flatMap TV.cells++(m.map st.tv).flatMap TV.cells:=by{simp};have grow:∀(q:Option Addr)(cap:Nat)(yk:List Value),x0=.slice q l.length cap->cap<l.length+m.length->(∀w':World,w'.heap=w.heap->(Builtin.firstCells i.size l.length (.slice q l.length cap)).run P w'=.ok ⟨yk⟩ w')->
   dn R w ((l.map st.tv).flatMap TV.cells) yk->WN P R w p x0 st (l++m) λw=>(Builtin.append_ #[t,u] ty #[x0,x]).run P w:=by
  rintro q cap yk rfl SO ho Uy
  have lr:=vz (ty:=ty) ht hi hz hu Ca ho hx SO Xy hb
  have L7:=grownCap_ge w (l.length+m.length) cap e
  have hle:=grownCap_le_maxLen w (l.length+m.length) cap e Xy
  generalize hG:grownCap w (l.length+m.length) cap e=G at lr L7 hle
  have Fg:yk.length=l.length*i.size:=by rw[<-Uy.length,oA,hs]
  let cur:Array Value:=(⟨yk⟩:Array Value)++⟨news⟩++Builtin.zeroCells z.cells (G -(l.length+m.length))
  let R':Reach:=λb o=>R b o\/(p=Qf/\b=w.heap.size/\o<(l.length+m.length)*st.size)
  have hold:∀b,b<w.heap.size->(w.drew.alloc (.cells cur e)).heap[b]?=w.heap[b]?:=λb hb=>by show(w.heap.push _)[b]?=_;rw[Array.getElem?_push,ak (by omega)]
  have dr:eH R w R' (w.drew.alloc (.cells cur e)):=λb o hr=>⟨.inl hr,World.cell?_of_block (w:=w) (hold b (gS b o hr))⟩
  have SZ:cur.toList.take ((l++m).length*st.size)=yk++news:=by have e1:cur.toList=(yk++news)++(Builtin.zeroCells z.cells (G -(l.length+m.length))).toList:=by{simp[cur]};have e2:(yk++news).length=(l++m).length*st.size:=by{rw[af,af,Fg,Ed,hs,Nat.add_mul]};rw[e1,<-e2,List.take_left]
  refine⟨_,_,R',lr,⟨st,l++m,rfl,.inr ⟨w.heap.size,G,cur,e,(0,0),by rw[af],?_,λo _=>by simp,?_,by rw[af];exact L7,hle,?_,λo=>⟨λhr=>?_,λhr=>.inr ⟨hr.1,rfl,by have:=hr.2;rwa[af]at this⟩⟩⟩⟩,dr,λb o hr=>hr.imp id λe=>by rw[e.2.1];rfl,rfl,rfl,rfl,?_,λb _ hb=>hold b hb,λb hb=>?_,λb hb lu=>?_⟩
  {show(w.heap.push _)[w.heap.size]?=Bm _;rw[Array.getElem?_push,ar rfl]}
  {simp only[cur,Array.size_append,List.size_toArray,size_zeroCells,hzs,Fg,Ed,<-Nat.add_mul,<-hs];congr 1;omega}
  {rw[SZ,VY];exact(Uy.append hL).mono dr}
  {rcases hr with hr|⟨h1,_,h2⟩;{have:=gS _ _ hr;omega};{exact⟨h1,by rwa[af]⟩}}
  {show w.heap.size<=(w.heap.push _).size;simp}
  {cases hb;exact⟨.inl (Nat.le_refl _),by show w.heap.size<(w.heap.push _).size;simp⟩}
  {cases hb;exact absurd (h0.lt lu) (Nat.lt_irrefl _)}
 rcases h0.cells with⟨rfl,rfl⟩|⟨g,cap,cur,ce,fz,rfl,hg,hfz,sV,hnc,Pz,Uy,hR⟩;{by_cases hm:m.length=0;{have ZN:m=[]:=bm hm;subst ZN;refine⟨.slice Kk 0 0,w,R,?_,h0,eH.refl _ _,λb o=>.inl,rfl,rfl,rfl,Nat.le_refl _,λ_ _ _=>rfl,λb hb=>(by cases hb),λb hb=>by cases hb⟩;obtain⟨h1,h2,h3,h4⟩:=hx;have ZW:(match du with|.int _=>Qf|_=>Qg)=Qg:=by{cases du<;>first|rfl|exact(Ca _ rfl).elim};have sY:=h2 w rfl;simp only[ay]at h1 sY;simp[Builtin.append_,run_underlying ht,run_underlying hu,ZW,sizeOf,typeInfo,hi,h1,sY]};{exact grow Kk 0 [] rfl (by simp;omega) (λ_ _=>rfl) .nil}}
 ·have Fg:(cur.toList.take (l.length*st.size)).length=l.length*i.size:=by{rw[<-Uy.length,oA,hs]};by_cases AR:l.length+m.length<=cap
  ·have lr:=vy (ty:=ty) ht hi hu Ca hg hfz hx AR (by rw[hs];exact sV);have hle:(l.length+m.length)*st.size<=cap*st.size:=aA _ AR;rw[Nat.add_mul]at hle;rw[hs]at lr Ed Fg;have Fh:cur.toList.length=cap*st.size:=by{simp[sV]};let cur':Array Value:=(cur.toList.take (l.length*st.size)++news++cur.toList.drop (l.length*st.size+news.length)).toArray;have VV:∀j,j<l.length*st.size->cur'[j]?=cur[j]?:=λj hj=>by{simp only[cur',List.getElem?_toArray,aB];rw[List.getElem?_append_left (by rw[Fg];exact hj),bg,ar hj];simp};have yS:∀j,(w.setRow g cur').cell? ⟨g,j,Kk⟩=cur'[j]?:=λj=>cell_setRow_same w g j cur cur' ce fz hg;let R':Reach:=λb o=>R b o\/(p=Qf/\b=g/\o<(l.length+m.length)*st.size);have dr:eH R w R' (w.setRow g cur'):=λc o J9=>⟨.inl J9,by
    by_cases hcb:c=g;{subst hcb;rw[yS,VV o ((hR o).1 J9).2];simp[World.cell?,hg]}
    ·exact cell_setRow_other w g cur' ⟨c,o,Kk⟩ hcb⟩
   have CQ:g<w.heap.size:=(Array.getElem?_eq_some_iff.1 hg).1;have SD:cur'.toList.take ((l++m).length*st.size)=cur.toList.take (l.length*st.size)++news:=by{have e2:(cur.toList.take (l.length*st.size)++news).length=(l++m).length*st.size:=by{rw[af,af,Fg,Ed,Nat.add_mul]};show(cur.toList.take (l.length*st.size)++news++_).take _=_;rw[<-e2,List.take_left]};have rk:cur'.size=cur.size:=by{simp only[cur',List.size_toArray,af,Fg,aZ,Fh,Ed,<-Array.length_toList];omega};refine⟨_,_,R',lr,⟨st,l++m,rfl,.inr ⟨g,cap,cur',ce,fz,by rw[af],setRow_heap w g cur cur' ce fz hg,λo ho=>hfz o (by rw[<-rk];exact ho),by rw[rk];exact sV,by rw[af];exact AR,Pz,?_,λo=>⟨λhr=>?_,λhr=>.inr ⟨hr.1,rfl,by have:=hr.2;rwa[af]at this⟩⟩⟩⟩,
    dr,λb o hr=>hr.imp id λe=>by rw[e.2.1];rfl,rfl,rfl,rfl,by rw[setRow_size];exact Nat.le_refl _,λb hb _=>setRow_other w g b cur' (λe=>hb (by rw[e];rfl)),λb hb=>?_,λb _ _=>⟨g,cap,l.length,rfl,by rw[af]⟩⟩
   {rw[SD,VY];exact(Uy.append hL).mono dr};{rcases hr with hr|⟨h1,_,h2⟩;{have:=(hR o).1 hr;refine⟨this.1,?_⟩;rw[af,Nat.add_mul];omega};{exact⟨h1,by rwa[af]⟩}};{cases hb;exact⟨.inr rfl,by rw[setRow_size];exact CQ⟩}
  ·refine grow (Bm ⟨g,0,Kk⟩) cap _ rfl (by omega) (λw' hw=>?_) Uy;rw[hs];exact run_firstCells_some (P:=P) w' st.size l.length ⟨g,0,Kk⟩ l.length cap _ (by rw[Fg,hs]) (λj v hj=>by
    rw[Uc,Nat.zero_add,World.cell?_of_block (w:=w) (by rw[hw])];rw[bg]at hj;split at hj;{simp only[World.cell?,hg];simpa using hj}
    ·cases hj)
theorem eI.Td(h:eI C S a w R τ){k k2:Nat}{v:Value}{x:TV}{g c:Gh}{y:TV}{R':Reach}(hk:C.nt<=k/\(S k).2.own=Qf/\(S k).2.HF=Qg)(ri:(S k2).2=.no/\k2<1000000/\C.nt<=k2)(dr:eH R w R' w')(hn:∀b o,R' b o->R b o\/Value.fP v=Bm b)(os:w'.os=w.os)(tape:w'.tape=w.tape)(out:w'.output=w.output)(size:w.heap.size<=w'.heap.size)(heap:∀b,Value.fP v≠Bm b->b<w.heap.size->w'.heap[b]?=w.heap[b]?)(hb:∀b,Value.fP v=Bm b->(w.heap.size<=b\/Value.fP (τ k)=Bm b)/\b<w'.heap.size)(hg:g=.pv\/g=.lv)(new:kt R' w' τ x g v)(hc:c=.zz\/c=.us)(hy:kt R' w' τ y c (τ k)):eI C (cH (cH S k (y,c)) k2 (x,g)) a w' R' (ta τ k2 v):=by have nc:k≠k2:=by{rintro rfl;rw[ri.1]at hk;cases hk.2.1};have NM:g.own=Qf:=by{rcases hg with rfl|rfl<;>rfl};have hgm:g.cQ=[]:=by{rcases hg with rfl|rfl<;>rfl};have Pz:c.cQ=[]:=by{rcases hc with rfl|rfl<;>rfl};have NG:cH (cH S k (y,c)) k2 (x,g) k=(y,c):=by{rw[cO _ _ nc,bR]};have oth:∀j,j≠k->fP τ S j≠Kk->∀b,fP τ S j=Bm b->Value.fP v≠Bm b:=λj hj _ b Ef hv=>by{rcases(hb b hv).1 with e|e;{have:=h.core.lt Ef;omega};{exact hj (h.core.sR (gC hk.2.1 (B2 hk.2.2) e) Ef).symm}};have dz:∀b,Value.fP v=Bm b->C.dz b:=λb hv=>by{rcases(hb b hv).1 with e|e;{exact .inr (Nat.le_trans h.ext.size e)};{exact h.core.dz k b (gC hk.2.1 (B2 hk.2.2) e)}};have uQ:Core C.nt R' w' C.dz (ta τ k2 v) (cH (cH S k (y,c)) k2 (x,g)):=by{refine h.core.step (λj=>j=k\/j=k2) dr (λj hj=>?_) (λj b hj Ef=>?_) ?_ ?_ ?_ ?_ ?_ ?_ (λ_=>id) ?_ ?_ ?_;{have h1:j≠k:=λe=>hj (.inl e);have h2:j≠k2:=λe=>hj (.inr e);exact⟨by rw[cO _ _ h2,cO _ _ h1],fN _ _ h2⟩};{have h1:j≠k:=λe=>hj (.inl e);have:=oth j h1 (by rw[Ef];simp) b Ef;exact⟨heap b this (h.core.lt Ef),λo hr=>(hn b o hr).resolve_right this⟩};{rintro j (rfl|rfl);{rw[NG,fN _ _ nc];exact hy.dr (eH.refl _ _) (by rw[Pz];simp) λb e=>by rcases hc with rfl|rfl<;>cases e};{rw[bR,fw];exact new.dr (eH.refl _ _) (by rw[hgm];simp) λ_ _=>⟨rfl,λ_=>id⟩}};{rintro j (rfl|rfl);{exact .inl (fN _ _ nc)};{exact .inr (.inr ri.1)}};{rintro j (rfl|rfl);{rw[NG];right;rcases hc with rfl|rfl<;>simp};{rw[bR];right;rcases hg with rfl|rfl<;>simp}};{rintro j (rfl|rfl);{rw[NG];exact .inl ⟨hk.2.2,by rcases hc with rfl|rfl<;>rfl⟩};{rw[bR,ri.1];exact .inl ⟨rfl,by rcases hg with rfl|rfl<;>rfl⟩}};{rintro j (rfl|rfl) _;{exact .inl hk.2.1};{exact .inr ri.1}};{rintro j b (rfl|rfl) Ef;{have:=(ft Ef).1;rw[NG]at this;rcases hc with rfl|rfl<;>cases this};{have hv:=(ft Ef).2;rw[fw]at hv;refine⟨dz b hv,?_,(hb b hv).1.imp id λe=>⟨k,.inl rfl,gC hk.2.1 (B2 hk.2.2) e⟩⟩;rintro q (rfl|rfl) hq hqb;{have:=(ft hqb).1;rw[NG]at this;rcases hc with rfl|rfl<;>cases this};{exact hq rfl}}};{rintro j (rfl|rfl) q hq;{rw[NG,Pz]at hq;cases hq};{rw[bR,hgm]at hq;cases hq}};{intro b o hr;rcases hn b o hr with hr|hr;{have:=h.core.th b o hr;omega};{exact(hb b hr).2}};{rintro j (rfl|rfl) hj<;>omega}};refine⟨h.size,h.defers,uQ,λt ht=>by rw[fN _ _ (by omega)];exact h.tmps t ht,⟨h.io.1,λj hj=>by rw[fN _ _ (by omega)];exact h.io.2 j hj⟩,h.ext.trans (io':=λb=>Value.fP v=Bm b) ⟨os,tape,out,size,λb lu hv=>heap b hv lu,dr,λb o hr=>(hn b o hr).imp id .inr⟩ (λb hv=>dz b hv),h.gl.dr dr⟩
end
end Go.Eng
