/- Texts of my own, one behind the other: CnC, CnG0, CnG1, CnG2, CnG3, CnG4. -/
import Derived.Test.YtokfjcnbmpabkaaGreatDoorT2
import Derived.Test.YtokfjcnbmpabkaaGreatDoorProg
set_option linter.unusedVariables false
set_option linter.unusedSimpArgs false
set_option maxRecDepth 100000
namespace Go.Eng
noncomputable abbrev PG:=Go.Proofs.Tryz.prog
open Go.Proofs
def sc (l:List Nat):GL:=l.map fun k=>(k,.no)
@[reducible] def fQ:ML:=[(23,.bs,1),(24,.fl,136),(29,.ml,64),(33,.is,8),(103,.ss,16),(148,.ws,2),(160,.us,8),(248,.qd,64)]
@[reducible] def zs:Zs:=[(26,[(.i .i64 (0:Int)),(.u64 (0:UInt64)),(.u64 (0:UInt64)),(.u64 (0:UInt64)),(.s ([]:bz)),(.s ([]:bz)),(.i .i64 (0:Int)),(.nl .bs),(.nl .fl)]),(31,[(.i .i64 (0:Int)),(.s ([]:bz)),(.nl .ml)]),(35,[(.i .i64 (0:Int)),(.i .i64 (0:Int)),(.nl .is)]),(49,[(.s ([]:bz)),(.i .i64 (0:Int)),(.u64 (0:UInt64)),(.u64 (0:UInt64)),(.u64 (0:UInt64)),(.s ([]:bz)),(.s ([]:bz)),(.i .i64 (0:Int)),(.nl .bs),(.nl .fl)]),(51,[(.s ([]:bz)),(.i .i64 (0:Int)),(.s ([]:bz)),(.nl .ml)]),(63,[(.i .i64 (0:Int)),(.i .i64 (0:Int)),(.i .i64 (0:Int)),(.s ([]:bz))]),(65,[(.s ([]:bz)),(.i .i64 (0:Int)),(.i .i64 (0:Int)),(.i .i64 (0:Int)),(.i .i64 (0:Int)),(.s ([]:bz)),(.i .i64 (0:Int)),(.i .i64 (0:Int)),(.nl .is)]),(106,[(.s ([]:bz)),(.s ([]:bz)),(.s ([]:bz)),(.s ([]:bz)),(.s ([]:bz)),(.s ([]:bz)),(.s ([]:bz)),(.s ([]:bz)),(.s ([]:bz)),(.s ([]:bz)),(.s ([]:bz)),(.s ([]:bz)),(.s ([]:bz)),(.s ([]:bz)),(.s ([]:bz)),(.s ([]:bz)),(.s ([]:bz)),(.s ([]:bz)),(.s ([]:bz)),(.s ([]:bz))]),(129,[(.u64 (0:UInt64)),(.u64 (0:UInt64))]),(251,[(.c (.complex .f64 ((0,0):Cx).1 ((0,0):Cx).2)),(.c (.complex .f64 ((0,0):Cx).1 ((0,0):Cx).2)),(.c (.complex .f64 ((0,0):Cx).1 ((0,0):Cx).2)),(.c (.complex .f64 ((0,0):Cx).1 ((0,0):Cx).2))])]
theorem bG:PG.follows .mixedOrders=true∧CA PG fQ=true∧Ih PG zs=true:=⟨by kernel_rfl,by kernel_rfl,by kernel_rfl⟩
noncomputable def cnGl:Nat→Option (List Value):=KT [(5,tD .u8 (Lib.deBruijn64tab.map Int.ofNat)),(1,tD .u64 Lib.pow10Tab)]
noncomputable section
def VB.sg:bW:={}
def VB.c:eS:=fun l=>match l with
 | [.u8 c] => .ok [(.i .i64 (lE.digit c))]
 | _ => .err
def cd.sg:bW:={}
def cd.c:eS:=fun l=>match l with
 | [.sl .bs b] => .eT (decide (b.length≤1099511627776)) [(.s (lE.text b))]
 | _ => .err
def Vk.sg:bW:={ fo:=2 }
def Vk.c:eS:=fun l=>match l with
 | [.s s] => .eT (decide (s.length≤1099511627776)) [(.sl .bs ((lE.bytes s).getD [])),(.b ((lE.bytes s).isSome))]
 | _ => .err
def gX.sg:bW:={}
def gX.c:eS:=fun l=>match l with
 | [.i .i64 r] => .ok [(.b (fy.mA r))]
 | _ => .err
def bH.sg:bW:={ fo:=2 }
def bH.c:eS:=fun l=>match l with
 | [.sl .bs b,.i .i64 at_] => .eT (decide (b.length≤1099511627776)) [(.i .i64 ((fy.mi b at_).1)),(.i .i64 ((fy.mi b at_).2))]
 | _ => .err
def cj.sg:bW:={ fo:=2 }
def cj.c:eS:=fun l=>match l with
 | [.sl .bs b] => .eT (decide (b.length≤1099511627776)) [(.i .i64 (((fy.look b).1:Int))),(.i .i64 (((fy.look b).2:Int)))]
 | _ => .err
def dJ.sg:bW:={ fo:=2 }
def dJ.c:eS:=fun l=>match l with
 | [.sl .bs b] => .eT (decide (b.length≤1099511627776)) [(.i .i64 (((fy.look b).1:Int))),(.b (fy.whole b))]
 | _ => .err
def Vg.sg:bW:={ fo:=2 }
def Vg.c:eS:=fun l=>match l with
 | [.sl .bs b,.i .i64 at_] => .eT (decide (b.length≤1099511627776)) [(.i .i64 ((fy.mi b at_).1)),(.i .i64 ((fy.mi b at_).2))]
 | _ => .err
def Vn.sg:bW:={ fo:=2 }
def Vn.c:eS:=fun l=>match l with
 | [.sl .bs b] => .eT (decide (b.length≤1099511627776)) [(.i .i64 (((fy.look b).1:Int))),(.b (fy.whole b))]
 | _ => .err
def Vv.sg:bW:={}
def Vv.c:eS:=fun l=>match l with
 | [.s s] => .eT (decide (s.length≤1099511627776)) [(.b (fy.whole s))]
 | _ => .err
def Vp.sg:bW:={}
def Vp.c:eS:=fun l=>match l with
 | [.s s] => .eT (decide (s.length≤1099511627776)) [(.b (fy.zero s))]
 | _ => .err
def cH.sg:bW:={}
def cH.c:eS:=fun l=>match l with
 | [.s s,.u8 c] => .ok [(.i .i64 (Lib.indexByte s c))]
 | _ => .err
def fi.sg:bW:={}
def fi.c:eS:=fun l=>match l with
 | [.s s,.s t] => .eT (decide (t.length=1)) [(.i .i64 (Lib.indexByte s (t.getD 0 0)))]
 | _ => .err
def fh.sg:bW:={}
def fh.c:eS:=fun l=>match l with
 | [.s s,.s t] => .eT (decide (t.length=1)) [(.i .i64 (Lib.indexByte s (t.getD 0 0)))]
 | _ => .err
def dv.sg:bW:={}
def dv.c:eS:=fun l=>match l with
 | [.s s,.s t] => .eT (decide (t.length=1)) [(.b (decide (0≤Lib.indexByte s (t.getD 0 0))))]
 | _ => .err
def fx.sg:bW:={ md:=[.sm] }
def fx.c:eS:=fun l=>match l with
 | [.sl .is l] => .eT (fC (l).length 8) [(.sl .is (l))]
 | _ => .err
def dY.sg:bW:={}
def dY.c:eS:=fun l=>match l with
 | [.i .i64 k] => .ok [(.s (Tree.name k))]
 | _ => .err
def bx.sg:bW:={}
def bx.c:eS:=fun l=>match l with
 | [.ag [.i .i64 lK,.u64 lN,.u64 lL,.u64 lJ,.s lG,.s lI,.i .i64 lH,.sl .bs lF,.sl .fl lM]] => .ok [(.b (Tree.j7 (Val.mk lK lN lL lJ lG lI lH lF lM)))]
 | _ => .err
def dG.sg:bW:={}
def dG.c:eS:=fun l=>match l with
 | [.s s,.b plain] => .eT (decide (s.length≤1099511627776)) [(.b (Tree.gH s plain))]
 | _ => .err
def bR.sg:bW:={ md:=[.pl,.pl,.sm],fo:=2 }
def bR.c:eS:=fun l=>match l with
 | [.ag [.i .i64 lK,.u64 lN,.u64 lL,.u64 lJ,.s lG,.s lI,.i .i64 lH,.sl .bs lF,.sl .fl lM],.s name,.sl .is path] => .eT (decide (bJ.bO (bJ.of name (Val.mk lK lN lL lJ lG lI lH lF lM))+path.length≤1099511627776)) [(.sl .is ((Tree.iT (bJ.of name (Val.mk lK lN lL lJ lG lI lH lF lM)) path).1)),(.i .i64 ((Tree.iT (bJ.of name (Val.mk lK lN lL lJ lG lI lH lF lM)) path).2))]
 | _ => .err
def bR.cn (n:Nat):eS:=fun l=>match l with
 | [.ag [.i .i64 lK,.u64 lN,.u64 lL,.u64 lJ,.s lG,.s lI,.i .i64 lH,.sl .bs lF,.sl .fl lM],.s name,.sl .is path] => .eT ((decide (bJ.bO (bJ.of name (Val.mk lK lN lL lJ lG lI lH lF lM))+path.length≤1099511627776))&&decide ((bJ.bO (bJ.of name (Val.mk lK lN lL lJ lG lI lH lF lM)))<n)) [(.sl .is ((Tree.iT (bJ.of name (Val.mk lK lN lL lJ lG lI lH lF lM)) path).1)),(.i .i64 ((Tree.iT (bJ.of name (Val.mk lK lN lL lJ lG lI lH lF lM)) path).2))]
 | _ => .err
def dH.sg:bW:={ fo:=2 }
def dH.c:eS:=fun l=>match l with
 | [.ag [.i .i64 lK,.u64 lN,.u64 lL,.u64 lJ,.s lG,.s lI,.i .i64 lH,.sl .bs lF,.sl .fl lM]] => .eT (decide (bJ.bO (bJ.of [] (Val.mk lK lN lL lJ lG lI lH lF lM))≤1099511627776)) [(.sl .is ((Tree.iT (bJ.of [] (Val.mk lK lN lL lJ lG lI lH lF lM)) []).1)),(.i .i64 ((Tree.iT (bJ.of [] (Val.mk lK lN lL lJ lG lI lH lF lM)) []).2))]
 | _ => .err
def Vz.sg:bW:={}
def Vz.c:eS:=fun l=>match l with
 | [] => .ok [(.sl .is (Tree.kinds))]
 | _ => .err
def Vo.sg:bW:={}
def Vo.c:eS:=fun l=>match l with
 | [.i .i64 k] => .ok [(.s (Tree.name k))]
 | _ => .err
def pd.sg:bW:={ fo:=7 }
def pd.c:eS:=fun l=>match l with
 | [.i .i64 k] => .ok [(.b (Tree.xH 0 k)),(.b (Tree.xH 1 k)),(.b (Tree.xH 2 k)),(.b (Tree.xH 3 k)),(.b (Tree.xH 4 k)),(.b (Tree.xH 5 k)),(.b (Tree.xH 6 k))]
 | _ => .err
def VE.sg:bW:={}
def VE.c:eS:=fun l=>match l with
 | [.ag [.i .i64 lK,.u64 lN,.u64 lL,.u64 lJ,.s lG,.s lI,.i .i64 lH,.sl .bs lF,.sl .fl lM]] => .eT (decide (bJ.bO (bJ.of [] (Val.mk lK lN lL lJ lG lI lH lF lM))≤1099511627776)) [(.i .i64 (Tree.own (Val.mk lK lN lL lJ lG lI lH lF lM)))]
 | _ => .err
def VA.sg:bW:={}
def VA.c:eS:=fun l=>match l with
 | [.s s] => .eT (decide (s.length≤1099511627776)) [(.b (Tree.gH s true))]
 | _ => .err
def Vx.sg:bW:={}
def Vx.c:eS:=fun l=>match l with
 | [.sl .is p,.i .i64 k] => .eT (decide (p.length≤1099511627776)) [(.sl .is ((p++[k])))]
 | _ => .err
def zn.sg:bW:={ fo:=2 }
def zn.cn (n:Nat):eS:=fun l=>match l with
 | [.ag [.i .i64 lK,.u64 lN,.u64 lL,.u64 lJ,.s lG,.s lI,.i .i64 lH,.sl .bs lF,.sl .fl lM],.s name,.sl .is p] => .eT ((decide (bJ.bO (bJ.of name (Val.mk lK lN lL lJ lG lI lH lF lM))+p.length≤1099511627776))&&decide ((bJ.bO (bJ.of name (Val.mk lK lN lL lJ lG lI lH lF lM)))<n)) [(.sl .is ((Tree.iT (bJ.of name (Val.mk lK lN lL lJ lG lI lH lF lM)) p).1)),(.i .i64 ((Tree.iT (bJ.of name (Val.mk lK lN lL lJ lG lI lH lF lM)) p).2))]
 | _ => .err
def s4.sg:bW:={}
def s4.c:eS:=fun l=>match l with
 | [.ag [.i .i64 ia,.s hO,.sl .ml ib]] => .eT (decide (bM.bO (bM.mk ia hO ib)≤1099511627776)) [(.i .i64 (Cn.mE (bM.mk ia hO ib)))]
 | _ => .err
def s4.cn (n:Nat):eS:=fun l=>match l with
 | [.ag [.i .i64 ia,.s hO,.sl .ml ib]] => .eT ((decide (bM.bO (bM.mk ia hO ib)≤1099511627776))&&decide ((bM.bO (bM.mk ia hO ib))<n)) [(.i .i64 (Cn.mE (bM.mk ia hO ib)))]
 | _ => .err
def Y5.c:eS:=fun l=>match l with
 | [.sl .is a,.sl .is b] => .eT (decide (a.length≤1099511627776)) [(.b (decide (a=b)))]
 | _ => .err
def cL.sg:bW:={}
def cL.c:eS:=fun l=>match l with
 | [.i .i64 left,.sl .is iF] => .eT (decide (left≤1200∧iF.length≤10)&&iF.all (fun s=>decide (0≤s))) [(.i .i64 (eU.room left iF))]
 | _ => .err
def bS.sg:bW:={}
def bS.c:eS:=fun l=>match l with
 | [.i .i64 left,.ag [.i .i64 lK,.u64 lN,.u64 lL,.u64 lJ,.s lG,.s lI,.i .i64 lH,.sl .bs lF,.sl .fl lM]] => .eT (decide (left≤1200)) [(.i .i64 (eU.value left (bJ.of [] (Val.mk lK lN lL lJ lG lI lH lF lM))))]
 | _ => .err
def bS.cn (n:Nat):eS:=fun l=>match l with
 | [.i .i64 left,.ag [.i .i64 lK,.u64 lN,.u64 lL,.u64 lJ,.s lG,.s lI,.i .i64 lH,.sl .bs lF,.sl .fl lM]] => .eT ((decide (left≤1200))&&decide ((bJ.bO (bJ.of [] (Val.mk lK lN lL lJ lG lI lH lF lM)))<n)) [(.i .i64 (eU.value left (bJ.of [] (Val.mk lK lN lL lJ lG lI lH lF lM))))]
 | _ => .err
def dI.sg:bW:={}
def dI.c:eS:=fun l=>match l with
 | [.ag [.i .i64 lK,.u64 lN,.u64 lL,.u64 lJ,.s lG,.s lI,.i .i64 lH,.sl .bs lF,.sl .fl lM]] => .ok [(.b (decide (0≤eU.value 1200 (bJ.of [] (Val.mk lK lN lL lJ lG lI lH lF lM)))))]
 | _ => .err
def iG.sg:bW:={}
def iG.c:eS:=fun l=>match l with
 | [.i .i64 v] => .eT (Nr.i64 v) [(.s (Nr.itoa v))]
 | _ => .err
def ZK.c:eS:=fun l=>match l with
 | [.u64 v] => .ok [(.s (Nr.dec (v).toNat))]
 | _ => .err
def VC.sg:bW:={}
def VC.c:eS:=fun l=>match l with
 | [.i .i64 k] => .ok [(.b (decide (k=3∨k=4∨k=15)))]
 | _ => .err
def Ve.sg:bW:={}
def Ve.c:eS:=fun l=>match l with
 | [.ag [.i .i64 lK,.u64 lN,.u64 lL,.u64 lJ,.s lG,.s lI,.i .i64 lH,.sl .bs lF,.sl .fl lM]] => .eT (decide (bJ.bO (bJ.of [] (Val.mk lK lN lL lJ lG lI lH lF lM))≤1099511627776)) [(.i .i64 ((Tree.depth (bJ.of [] (Val.mk lK lN lL lJ lG lI lH lF lM)):Int)))]
 | _ => .err
def Ve.cn (n:Nat):eS:=fun l=>match l with
 | [.ag [.i .i64 lK,.u64 lN,.u64 lL,.u64 lJ,.s lG,.s lI,.i .i64 lH,.sl .bs lF,.sl .fl lM]] => .eT ((decide (bJ.bO (bJ.of [] (Val.mk lK lN lL lJ lG lI lH lF lM))≤1099511627776))&&decide ((bJ.bO (bJ.of [] (Val.mk lK lN lL lJ lG lI lH lF lM)))<n)) [(.i .i64 ((Tree.depth (bJ.of [] (Val.mk lK lN lL lJ lG lI lH lF lM)):Int)))]
 | _ => .err
def bN.sg:bW:={}
def bN.c:eS:=fun l=>match l with
 | [.sl .fl l] => .eT (decide (l.length≤1099511627776)) [(.b (Tree.regular l))]
 | _ => .err
def bX.sg:bW:={}
def bX.c:eS:=fun l=>match l with
 | [.u16 x] => .ok [(.i .i64 ((Nt.bits (x).toNat:Int)))]
 | _ => .err
def bits_Len64.sg:bW:={}
def bits_Len64.c:eS:=fun l=>match l with
 | [.u64 x] => .ok [(.i .i64 ((Nt.bits (x).toNat:Int)))]
 | _ => .err
def lx.sg:bW:={}
def lx.c:eS:=fun l=>match l with
 | [.u64 x] => .ok [(.i .i64 ((Lib.ctz 64 (x).toNat:Int)))]
 | _ => .err
def kZ.sg:bW:={}
def kZ.c:eS:=fun l=>match l with
 | [.s s,.s c] => .eT (decide ((s).length≤1099511627776∧(c).length≤100)&&(c).all (fun b=>decide (b.toNat<128))) [(.s (Lib.trimS s c))]
 | _ => .err
def gq.sg:bW:={}
def gq.c:eS:=fun l=>match l with
 | [.s s,.s c] => .eT (decide ((s).length≤1099511627776∧(c).length≤100)&&(c).all (fun b=>decide (b.toNat<128))) [(.s (Lib.trimLeftS s c))]
 | _ => .err
def fK.sg:bW:={}
def fK.c:eS:=fun l=>match l with
 | [.s s,.s c] => .eT (decide ((s).length≤1099511627776∧(c).length≤100)&&(c).all (fun b=>decide (b.toNat<128))) [(.s (Lib.trimRightS s c))]
 | _ => .err
def eI.sg:bW:={ own:=[0] }
def eI.c:eS:=fun l=>match l with
 | [.sl .ws a] => .eT (fC (a).length 2) [(.sl .ws (a))]
 | _ => .err
def dt.sg:bW:={}
def dt.c:eS:=fun l=>match l with
 | [.c (.float .f64 x)] => .eT (Fl.num x) [(.c (.float .f64 (Fl.jW x)))]
 | _ => .err
def gT.sg:bW:={}
def gT.c:eS:=fun l=>match l with
 | [.c (.complex .f64 yJ yI),.c (.float .f64 m)] => .eT (Gz.I7 ((yJ,yI):Cx) m) [(.b (true))]
 | _ => .err
def fu.sg:bW:={}
def fu.c:eS:=fun l=>match l with
 | [.c (.complex .f64 yJ yI)] => .eT (Gz.tK ((yJ,yI):Cx) 33554432) [(.b (true))]
 | _ => .err
def jh.sg:bW:={}
def jh.c:eS:=fun l=>match l with
 | [.i .i64 x,.i .i64 y] => .eT (decide (-33554432≤x∧x≤33554432∧-33554432≤y∧y≤33554432)) [(.c (.complex .f64 (((Fl.ofInt x,Fl.ofInt y):Cx)).1 (((Fl.ofInt x,Fl.ofInt y):Cx)).2))]
 | _ => .err
def eG.sg:bW:={ fo:=3 }
def eG.c:eS:=fun l=>match l with
 | [.c (.complex .f64 yJ yI)] => .eT (Gz.tK ((yJ,yI):Cx) 4503599627370496) [(.i .i64 (Fl.toInt (((yJ,yI):Cx)).1)),(.i .i64 (Fl.toInt (((yJ,yI):Cx)).2)),(.b (true))]
 | _ => .err
def gj.sg:bW:={}
def gj.c:eS:=fun l=>match l with
 | [.c (.complex .f64 yJ yI),.i .i64 k] => .eT (Gz.tK ((yJ,yI):Cx) 1125899906842624&&decide (-100≤k∧k≤100)) [(.c (.complex .f64 (Gz.nU ((yJ,yI):Cx) k).1 (Gz.nU ((yJ,yI):Cx) k).2))]
 | _ => .err
def fv.sg:bW:={}
def fv.c:eS:=fun l=>match l with
 | [.c (.complex .f64 yJ yI),.c (.complex .f64 N0 NZ)] => .eT (Gz.tK ((yJ,yI):Cx) 33554432&&Gz.tK ((N0,NZ):Cx) 33554432) [(.c (.complex .f64 (Gz.mul ((yJ,yI):Cx) ((N0,NZ):Cx)).1 (Gz.mul ((yJ,yI):Cx) ((N0,NZ):Cx)).2))]
 | _ => .err
def gf.sg:bW:={}
def gf.c:eS:=fun l=>match l with
 | [.c (.float .f64 x)] => .eT (Gz.HD x) [(.b (true))]
 | _ => .err
def wv_fit.sg:bW:={}
def wv_fit.c:eS:=fun l=>match l with
 | [.ag [.c (.complex .f64 kP kO),.c (.complex .f64 kN kM),.c (.complex .f64 kL kK),.c (.complex .f64 kJ kI)]] => .eT (Gz.wg (Qd.mk ((kP,kO):Cx) ((kN,kM):Cx) ((kL,kK):Cx) ((kJ,kI):Cx)) 1125899906842624) [(.b (true))]
 | _ => .err
def cF.sg:bW:={}
def cF.c:eS:=fun l=>match l with
 | [.ag [.c (.complex .f64 kP kO),.c (.complex .f64 kN kM),.c (.complex .f64 kL kK),.c (.complex .f64 kJ kI)],.i .i64 w] => .eT (Gz.wg (Qd.mk ((kP,kO):Cx) ((kN,kM):Cx) ((kL,kK):Cx) ((kJ,kI):Cx)) 1125899906842624&&decide (w=1∨w=-1)) [(.ag (Qd.cells (Gz.mh (Qd.mk ((kP,kO):Cx) ((kN,kM):Cx) ((kL,kK):Cx) ((kJ,kI):Cx)) w)))]
 | _ => .err
def gg.sg:bW:={}
def gg.c:eS:=fun l=>match l with
 | [.ag [.c (.complex .f64 kP kO),.c (.complex .f64 kN kM),.c (.complex .f64 kL kK),.c (.complex .f64 kJ kI)]] => .eT (Gz.wg (Qd.mk ((kP,kO):Cx) ((kN,kM):Cx) ((kL,kK):Cx) ((kJ,kI):Cx)) 1125899906842624) [(.ag (Qd.cells (Gz.mh (Qd.mk ((kP,kO):Cx) ((kN,kM):Cx) ((kL,kK):Cx) ((kJ,kI):Cx)) 1)))]
 | _ => .err
def dN.sg:bW:={ fo:=2 }
def dN.c:eS:=fun l=>match l with
 | [.ag [.c (.complex .f64 kP kO),.c (.complex .f64 kN kM),.c (.complex .f64 kL kK),.c (.complex .f64 kJ kI)]] => .eT (Gz.wg (Qd.mk ((kP,kO):Cx) ((kN,kM):Cx) ((kL,kK):Cx) ((kJ,kI):Cx)) 1125899906842624&&Gz.I8 (Qd.mk ((kP,kO):Cx) ((kN,kM):Cx) ((kL,kK):Cx) ((kJ,kI):Cx))) [(.ag (Qd.cells (Gz.back (Qd.mk ((kP,kO):Cx) ((kN,kM):Cx) ((kL,kK):Cx) ((kJ,kI):Cx))))),(.b (true))]
 | _ => .err
def cJ.sg:bW:={}
def cJ.c:eS:=fun l=>match l with
 | [.sl .is l] => .eT (decide ((l).length≤256)&&Gz.ie l) [(.b (true))]
 | _ => .err
def cw.sg:bW:={}
def cw.c:eS:=fun l=>match l with
 | [.sl .is l] => .eT (decide ((l).length≤256)&&Gz.ie l) [(.sl .qd (Gz.gS l))]
 | _ => .err
def bL.sg:bW:={ fo:=2 }
def bL.c:eS:=fun l=>match l with
 | [.sl .is a,.sl .is b] => .eT (decide ((a).length≤256∧(b).length≤256)&&(Gz.ie a&&Gz.ie b)) [(.sl .is (Gz.conv a b)),(.b (true))]
 | _ => .err
def da.sg:bW:={}
def da.c:eS:=fun l=>match l with
 | [.sl .ws a] => .eT (decide ((a).length≤1099511627776)) [(.sl .ws (Nt.of (Nt.val a)))]
 | _ => .err
def bg_Is.sg:bW:={}
def bg_Is.c:eS:=fun l=>match l with
 | [.sl .ws a] => .eT (decide ((a).length≤1099511627776)) [(.b (Nt.is a))]
 | _ => .err
def eW.sg:bW:={}
def eW.c:eS:=fun l=>match l with
 | [.u64 v] => .ok [(.sl .ws (Nt.of (v).toNat))]
 | _ => .err
def dj.sg:bW:={ fo:=2 }
def dj.c:eS:=fun l=>match l with
 | [.sl .ws a] => .eT (decide (Nt.is a=true∧(a).length≤4)) [(.u64 (UInt64.ofNat (Nt.val a))),(.b (true))]
 | _ => .err
def fH.sg:bW:={}
def fH.c:eS:=fun l=>match l with
 | [.sl .ws a] => .eT (Nt.is a) [(.i .i64 ((Nt.bits (Nt.val a):Int)))]
 | _ => .err
def eC.sg:bW:={}
def eC.c:eS:=fun l=>match l with
 | [.sl .ws a,.sl .ws b] => .eT (decide ((a).length≤1099511627776∧(b).length≤1099511627776)&&(Nt.norm a&&Nt.norm b)) [(.i .i64 (Nt.cmp (Nt.val a) (Nt.val b)))]
 | _ => .err
def fW.sg:bW:={}
def fW.c:eS:=fun l=>match l with
 | [.sl .ws a,.sl .ws b] => .eT (Nt.is a&&Nt.is b) [(.i .i64 (Nt.cmp (Nt.val a) (Nt.val b)))]
 | _ => .err
def cq.sg:bW:={}
def cq.c:eS:=fun l=>match l with
 | [.sl .ws a] => .eT (decide ((a).length≤256)) [(.sl .is ((a).map fun d=>(d.toNat:Int)))]
 | _ => .err
def dp.sg:bW:={}
def dp.c:eS:=fun l=>match l with
 | [.sl .ws a,.sl .ws b] => .eT (Nt.is a&&Nt.is b) [(.sl .ws (Nt.of (Nt.val a * Nt.val b)))]
 | _ => .err
def ez.sg:bW:={ fo:=2 }
def ez.c:eS:=fun l=>match l with
 | [.sl .ws a,.u16 d] => .eT (decide ((a).length≤1000000∧d≠0)) [(.sl .ws (Nt.of (Nt.val a / (d).toNat))),(.u16 (UInt16.ofNat (Nt.val a % (d).toNat)))]
 | _ => .err
def eO.sg:bW:={ own:=[0] }
def eO.c:eS:=fun l=>match l with
 | [.sl .ws a,.i .i64 n] => .eT (decide ((a).length≤1000000∧0≤n∧n<16)&&Nt.norm a) [(.sl .ws (Nt.of (Nt.val a * 2 ^ (n).toNat)))]
 | _ => .err
def cV.sg:bW:={}
def cV.c:eS:=fun l=>match l with
 | [.sl .ws a,.i .i64 n] => .eT (decide ((a).length≤1000000∧0≤n∧n<16)) [(.sl .ws (Nt.of (Nt.val a / 2 ^ (n).toNat)))]
 | _ => .err
def bE.sg:bW:={ md:=[.gv],fo:=2 }
def bE.c:eS:=fun l=>match l with
 | [.sl .ws u,.sl .ws v] => .eT (decide ((u).length≤1000000∧2≤(v).length∧(v).length≤(u).length∧32768≤((v).getLast?.getD 0).toNat)) [(.sl .ws (Nt.fix ((u).length+1 - (v).length) (Nt.val u / Nt.val v))),(.sl .ws (Nt.fix (v).length (Nt.val u % Nt.val v)))]
 | _ => .err
def gK.sg:bW:={ fo:=3 }
def gK.c:eS:=fun l=>match l with
 | [.sl .ws a,.sl .ws b] => .eT (Nt.is a&&Nt.is b&&decide (b≠[])) [(.sl .ws (Nt.of (Nt.val a / Nt.val b))),(.sl .ws (Nt.of (Nt.val a % Nt.val b))),(.b (true))]
 | _ => .err
def ir.sg:bW:={}
def ir.c:eS:=fun l=>match l with
 | [.sl .ws a,.i .i64 n] => .eT (decide (0≤n∧n≤4096)&&Nt.is a) [(.sl .ws (Nt.of (Nt.val a * 2 ^ (n).toNat)))]
 | _ => .err
def cP.sg:bW:={}
def cP.c:eS:=fun l=>match l with
 | [.sl .ws a,.i .i64 b,.i .i64 c] => .eT (decide ((a).length≤1000000∧1≤b∧b≤65535∧0≤c∧c≤65535)&&Nt.norm a) [(.sl .ws (Nt.of (Nt.val a * (b).toNat+(c).toNat)))]
 | _ => .err
def cU.sg:bW:={ fo:=2 }
def cU.c:eS:=fun l=>match l with
 | [.i .i64 b,.i .i64 e] => .eT (decide (2≤b∧b≤65535∧0≤e∧e≤1000∧(b).toNat ^ (e).toNat<2 ^ 4096)) [(.sl .ws (Nt.of ((b).toNat ^ (e).toNat))),(.b (true))]
 | _ => .err
def dm.sg:bW:={ fo:=2 }
def dm.c:eS:=fun l=>match l with
 | [.s s] => .eT (decide (1≤(s).length∧(s).length≤300∧(s).getD 0 0≠48)&&(s).all Nr.dV) [(.sl .ws (Nt.of (Nr.num s))),(.b (true))]
 | _ => .err
def dM.sg:bW:={ fo:=2 }
def dM.c:eS:=fun l=>match l with
 | [.b n,.u64 m,.i .i64 e] => .eT (decide (-1100≤e∧e≤2000)) [(.u64 (Nr.pat (Nr.join n (m).toNat e))),(.b ((Nr.join n (m).toNat e).isSome))]
 | _ => .err
def nr_rounded.sg:bW:={ fo:=2 }
def nr_rounded.c:eS:=fun l=>match l with
 | [.sl .ws a,.sl .ws b,.i .i64 e] => .eT (Nt.is a&&Nt.is b&&decide (-4096≤e∧e≤4096∧0<Nt.val b∧Nr.jb (Nt.val a) e<2 ^ 4090∧Nr.iU (Nt.val b) e<2 ^ 4090∧Nr.jb (Nt.val a) e<2 ^ 60 * Nr.iU (Nt.val b) e)) [(.u64 (UInt64.ofNat (Nr.tp (Nr.jb (Nt.val a) e) (Nr.iU (Nt.val b) e)))),(.b (Nr.lg (Nr.jb (Nt.val a) e) (Nr.iU (Nt.val b) e)))]
 | _ => .err
def de.sg:bW:={ fo:=2 }
def de.c:eS:=fun l=>match l with
 | [.sl .ws a,.sl .ws b] => .eT (Nt.is a&&Nt.is b&&decide (0<Nt.val a∧0<Nt.val b∧Nt.val a<2 ^ 1100∧Nt.val b<2 ^ 2200)) [(.u64 (Nr.pat (Nr.gZ (Nt.val a) (Nt.val b)))),(.b ((Nr.gZ (Nt.val a) (Nt.val b)).isSome))]
 | _ => .err
def dL.sg:bW:={ fo:=2 }
def dL.c:eS:=fun l=>match l with
 | [.s d,.i .i64 x] => .ok [(.u64 (Nr.pat (Nr.read d x))),(.b ((Nr.read d x).isSome))]
 | _ => .err
def ja.sg:bW:={}
def ja.c:eS:=fun l=>match l with
 | [.s s,.i .i64 at_,.u8 c,.u8 d] => .eT (decide ((s).length≤1099511627776)&&decide (0≤at_)) [(.b ((decide (at_<(s).length)&&(decide ((s).getD (at_).toNat 0=c) || decide ((s).getD (at_).toNat 0=d)))))]
 | _ => .err
def cK.sg:bW:={}
def cK.c:eS:=fun l=>match l with
 | [.s s,.i .i64 at_] => .eT (decide ((s).length≤1099511627776)&&decide (0≤at_∧at_≤1099511627776)) [(.i .i64 ((at_+(Nr.run ((s).drop (at_).toNat):Int))))]
 | _ => .err
def bD.sg:bW:={}
def bD.c:eS:=fun l=>match l with
 | [.s s] => .eT (decide ((s).length≤1099511627776)) [(.i .i64 (Nr.iX s))]
 | _ => .err
def VJ.sg:bW:={}
def VJ.c:eS:=fun l=>match l with
 | [.s s] => .eT (decide ((s).length≤1099511627776)) [(.i .i64 ((Nr.run s:Int)))]
 | _ => .err
def eF.sg:bW:={}
def eF.c:eS:=fun l=>match l with
 | [.s s] => .eT (decide ((s).length≤1099511627776)) [(.i .i64 (Nr.iX s))]
 | _ => .err
def ZR.c:eS:=fun l=>match l with
 | [.u64 m,.i .i64 e] => .eT (decide (1≤(m).toNat∧(m).toNat<2 ^ 55∧-1075≤e∧e≤971)) [(.s (Nr.exD (m).toNat e)),(.i .i64 (Nr.Tr (m).toNat e))]
 | _ => .err
def eH.sg:bW:={ fo:=4 }
def eH.c:eS:=fun l=>match l with
 | [.u64 b] => .ok [(.i .i64 ((Nr.split b).1)),(.b ((Nr.split b).2.1)),(.u64 ((Nr.split b).2.2.1)),(.i .i64 ((Nr.split b).2.2.2))]
 | _ => .err
def bg_Add.sg:bW:={}
def bg_Add.c:eS:=fun l=>match l with
 | [.sl .ws a,.sl .ws b] => .eT (Nt.is a&&Nt.is b) [(.sl .ws (Nt.of (Nt.val a+Nt.val b)))]
 | _ => .err
def cS.sg:bW:={}
def cS.c:eS:=fun l=>match l with
 | [.sl .ws a] => .eT (Nt.is a) [(.s (Sh.pM (Nt.val a)))]
 | _ => .err
def fB.sg:bW:={}
def fB.c:eS:=fun l=>match l with
 | [.s s,.i .i64 n] => .eT (decide (s=[48]∧0≤n∧n≤100)) [(.s (Sh.dU n))]
 | _ => .err
def st_Join.sg:bW:={}
def st_Join.c:eS:=fun l=>match l with
 | [.sl .ss l,.s s] => .eT (decide (s=[]∧(l).length≤100000∧(l).flatten.length≤100000)) [(.s ((l).flatten))]
 | _ => .err
def gR.sg:bW:={}
def gR.c:eS:=fun l=>match l with
 | [.i .i64 v,.i .i64 b] => .eT (Nr.i64 v&&decide (b=10)) [(.s (Nr.itoa v))]
 | _ => .err
def sl_Reverse.sg:bW:={ md:=[.sl],fo:=0 }
def sl_Reverse.c:eS:=fun l=>match l with
 | [.sl .ss l] => .eT (decide ((l).length≤100000)) [(.sl .ss ((l).reverse))]
 | _ => .err
def eY.sg:bW:={}
def eY.c:eS:=fun l=>match l with
 | [.i .i64 v] => .eT (Nr.i64 v) [(.s (Nr.itoa v))]
 | _ => .err
def fD.sg:bW:={ fo:=2 }
def fD.c:eS:=fun l=>match l with
 | [.sl .ws a,.sl .ws b,.i .i64 k] => .eT (Nt.is a&&Nt.is b&&decide (-400≤k∧k≤400∧Nt.val a<2 ^ 1100∧Nt.val b<2 ^ 1100)) [(.sl .ws (Nt.of (Sh.tA (Nt.val a) k))),(.sl .ws (Nt.of (Sh.tB (Nt.val b) k)))]
 | _ => .err
def fk.sg:bW:={}
def fk.c:eS:=fun l=>match l with
 | [.sl .ws a,.sl .ws b,.i .i64 x] => .eT (Nt.is a&&Nt.is b&&decide (-400≤x∧x≤400∧Nt.val a<2 ^ 1100∧Nt.val b<2 ^ 1100)) [(.b (decide (Sh.tB (Nt.val b) (-x)≤Sh.tA (Nt.val a) (-x))))]
 | _ => .err
def fj.sg:bW:={ fo:=3 }
def fj.c:eS:=fun l=>match l with
 | [.u64 b,.sl .ws a,.i .i64 p] => .eT (Nt.is a&&decide (-1000≤p∧p≤1000∧0<Nt.val a∧Nt.val a<10 ^ 200)) [(.s (((Sh.jM (b).toNat (Nt.val a) p).getD ([],0)).1)),(.i .i64 (((Sh.jM (b).toNat (Nt.val a) p).getD ([],0)).2)),(.b ((Sh.jM (b).toNat (Nt.val a) p).isSome))]
 | _ => .err
def gi.sg:bW:={ fo:=3 }
def gi.c:eS:=fun l=>match l with
 | [.u64 b,.sl .ws p,.sl .ws q,.i .i64 x,.i .i64 n] => .eT (Nt.is p&&Nt.is q&&Sh.nJ (Nt.val p) (Nt.val q) x n) [(.s (((Sh.ob (b).toNat (Nt.val p) (Nt.val q) x n).getD ([],0)).1)),(.i .i64 (((Sh.ob (b).toNat (Nt.val p) (Nt.val q) x n).getD ([],0)).2)),(.b ((Sh.ob (b).toNat (Nt.val p) (Nt.val q) x n).isSome))]
 | _ => .err
def bI.sg:bW:={ fo:=3 }
def bI.c:eS:=fun l=>match l with
 | [.u64 b] => .ok [(.s ((Sh.dg b).1)),(.i .i64 ((Sh.dg b).2.1)),(.b ((Sh.dg b).2.2))]
 | _ => .err
def dK.sg:bW:={}
def dK.c:eS:=fun l=>match l with
 | [.s d,.i .i64 x] => .eT (decide (1≤(d).length∧(d).length≤17∧-900≤x∧x≤900)) [(.s (Sh.AA d x))]
 | _ => .err
def dC.sg:bW:={}
def dC.c:eS:=fun l=>match l with
 | [.u64 b] => .ok [(.s (Sh.text b))]
 | _ => .err
def lf.sg:bW:={}
def lf.c:eS:=fun l=>match l with
 | [.u64 v,.i .i64 b] => .eT (decide (b=10)) [(.s (Nr.dec (v).toNat))]
 | _ => .err
def cN.sg:bW:={}
def cN.c:eS:=fun l=>match l with
 | [.u64 v,.i .i64 b] => .eT (decide (b=10)) [(.s (Nr.dec (v).toNat))]
 | _ => .err
def cZ.sg:bW:={}
def cZ.c:eS:=fun l=>match l with
 | [.s s,.s t] => .ok [(.b (List.isPrefixOf t s))]
 | _ => .err
def cY.sg:bW:={}
def cY.c:eS:=fun l=>match l with
 | [.s s,.s t] => .ok [(.b (List.isPrefixOf t s))]
 | _ => .err
def cX.sg:bW:={}
def cX.c:eS:=fun l=>match l with
 | [.s s,.u8 c] => .ok [(.i .i64 (Lib.indexByte s c))]
 | _ => .err
def fq.sg:bW:={ fo:=2 }
def fq.c:eS:=fun l=>match l with
 | [.u64 a,.u64 b] => .ok [(.u64 (UInt64.ofNat ((a).toNat * (b).toNat / 18446744073709551616))),(.u64 (UInt64.ofNat ((a).toNat * (b).toNat)))]
 | _ => .err
def dZ.sg:bW:={}
def dZ.c:eS:=fun l=>match l with
 | [.u64 v] => .eT (decide (9223372036854775808≤(v).toNat)) [(.i .i64 (0))]
 | _ => .err
def bF.sg:bW:={ fo:=2 }
def bF.c:eS:=fun l=>match l with
 | [.u64 a,.u64 b,.u64 y] => .eT (decide (9223372036854775808≤(y).toNat∧(a).toNat<(y).toNat)) [(.u64 (UInt64.ofNat (((a).toNat * 18446744073709551616+(b).toNat) / (y).toNat))),(.u64 (UInt64.ofNat (((a).toNat * 18446744073709551616+(b).toNat) % (y).toNat)))]
 | _ => .err
def gI.sg:bW:={}
def gI.c:eS:=fun l=>match l with
 | [.ag [.u64 Kq,.u64 Kp],.ag [.u64 Q8,.u64 Q7]] => .ok [(.i .i64 (cond (decide (dy.val (dy.mk Kq Kp)=dy.val (dy.mk Q8 Q7))) 0 (cond (decide (dy.val (dy.mk Kq Kp)<dy.val (dy.mk Q8 Q7))) (-1) 1)))]
 | _ => .err
def gU.sg:bW:={}
def gU.c:eS:=fun l=>match l with
 | [.u64 a,.u64 b] => .ok [(.ag (dy.cells (dy.of ((a).toNat * (b).toNat))))]
 | _ => .err
def gV.sg:bW:={ fo:=3 }
def gV.c:eS:=fun l=>match l with
 | [.ag [.u64 Kq,.u64 Kp],.u64 b] => .eT (decide (9223372036854775808≤(b).toNat)) [(.ag (dy.cells (dy.of (dy.val (dy.mk Kq Kp) / (b).toNat)))),(.u64 (UInt64.ofNat (dy.val (dy.mk Kq Kp) % (b).toNat))),(.b (true))]
 | _ => .err
def cO.sg:bW:={}
def cO.c:eS:=fun l=>match l with
 | [.ag [.u64 Kq,.u64 Kp]] => .ok [(.s (Nr.dec (dy.val (dy.mk Kq Kp))))]
 | _ => .err
def fE.sg:bW:={}
def fE.c:eS:=fun l=>match l with
 | [] => .ok [(.ag (dy.cells (Cn.sB)))]
 | _ => .err
def dh.sg:bW:={ fo:=4 }
def dh.c:eS:=fun l=>match l with
 | [.u64 h,.u64 l] => .ok [(.i .i64 ((Cn.split h l).1)),(.b ((Cn.split h l).2.1)),(.ag (dy.cells ((Cn.split h l).2.2.1))),(.i .i64 ((Cn.split h l).2.2.2))]
 | _ => .err
def dS.sg:bW:={ fo:=3 }
def dS.c:eS:=fun l=>match l with
 | [.b n,.ag [.u64 zP,.u64 ER],.i .i64 x] => .eT (Nr.i64 x) [(.u64 ((Cn.join n (dy.mk zP ER) x).1)),(.u64 ((Cn.join n (dy.mk zP ER) x).2.1)),(.b ((Cn.join n (dy.mk zP ER) x).2.2))]
 | _ => .err
def fw.sg:bW:={}
def fw.c:eS:=fun l=>match l with
 | [.u64 h,.u64 l] => .ok [(.b (Cn.pX h l))]
 | _ => .err
def df.sg:bW:={}
def df.c:eS:=fun l=>match l with
 | [.s d,.i .i64 x] => .eT (decide (1≤(d).length∧(d).length≤40∧-10000≤x∧x≤100000)) [(.s (Cn.laid d x))]
 | _ => .err
def dR.sg:bW:={}
def dR.c:eS:=fun l=>match l with
 | [.u64 h,.u64 l] => .ok [(.s (Cn.sW h l))]
 | _ => .err
def cQ.sg:bW:={}
def cQ.c:eS:=fun l=>match l with
 | [.sl .bs b] => .eT (decide ((b).length≤1099511627776)) [(.s (Cn.base b))]
 | _ => .err
def fU.sg:bW:={}
def fU.c:eS:=fun l=>match l with
 | [.s s] => .ok [(.ag (bM.cells (Cn.str s)))]
 | _ => .err
def gJ.sg:bW:={}
def gJ.c:eS:=fun l=>match l with
 | [.i .i64 v] => .eT (Nr.i64 v) [(.ag (bM.cells (Cn.num v)))]
 | _ => .err
def fV.sg:bW:={}
def fV.c:eS:=fun l=>match l with
 | [.s s,.ag [.i .i64 ia,.s hO,.sl .ml ib]] => .ok [(.ag (bM.cells (Cn.one s (bM.mk ia hO ib))))]
 | _ => .err
def fT.sg:bW:={}
def fT.c:eS:=fun l=>match l with
 | [.s s,.ag [.i .i64 ia,.s hO,.sl .ml ib],.s t,.ag [.i .i64 I0,.s IZ,.sl .ml I1]] => .ok [(.ag (bM.cells (Cn.two s (bM.mk ia hO ib) t (bM.mk I0 IZ I1))))]
 | _ => .err
def dE.sg:bW:={}
def dE.c:eS:=fun l=>match l with
 | [.u64 v] => .ok [(.s (Cn.high v))]
 | _ => .err
def eh.sg:bW:={ fo:=2 }
def eh.c:eS:=fun l=>match l with
 | [.ag [.i .i64 lK,.u64 lN,.u64 lL,.u64 lJ,.s lG,.s lI,.i .i64 lH,.sl .bs lF,.sl .fl lM]] => .ok [(.ag (bM.cells ((Cn.nW (Val.mk lK lN lL lJ lG lI lH lF lM)).1))),(.b ((Cn.nW (Val.mk lK lN lL lJ lG lI lH lF lM)).2))]
 | _ => .err
def gm.sg:bW:={}
def gm.c:eS:=fun l=>match l with
 | [.ag [.i .i64 lK,.u64 lN,.u64 lL,.u64 lJ,.s lG,.s lI,.i .i64 lH,.sl .bs lF,.sl .fl lM]] => .eT (decide (bJ.bO (bJ.of [] (Val.mk lK lN lL lJ lG lI lH lF lM))≤1099511627776)) [(.ag (bM.cells (Cn.qM (Val.mk lK lN lL lJ lG lI lH lF lM))))]
 | _ => .err
def cD.sg:bW:={ own:=[1002] }
def cD.c:eS:=fun l=>match l with
 | [.sl .fl l] => .eT (decide (bJ.cM l≤1099511627776)) [(.ag (bM.cells (Cn.oA l)))]
 | _ => .err
def cD.cn (n:Nat):eS:=fun l=>match l with
 | [.sl .fl l] => .eT ((decide (bJ.cM l≤1099511627776))&&decide ((2 * bJ.cM l+1)<n)) [(.ag (bM.cells (Cn.oA l)))]
 | _ => .err
def di.sg:bW:={}
def di.cn (n:Nat):eS:=fun l=>match l with
 | [.ag [.i .i64 lK,.u64 lN,.u64 lL,.u64 lJ,.s lG,.s lI,.i .i64 lH,.sl .bs lF,.sl .fl lM]] => .eT ((decide (bJ.bO (bJ.of [] (Val.mk lK lN lL lJ lG lI lH lF lM))≤1099511627776))&&decide ((2 * bJ.bO (bJ.of [] (Val.mk lK lN lL lJ lG lI lH lF lM)))<n)) [(.ag (bM.cells (Cn.wv (Val.mk lK lN lL lJ lG lI lH lF lM))))]
 | _ => .err
def fF.sg:bW:={ fo:=2 }
def fF.c:eS:=fun l=>match l with
 | [.ag [.i .i64 lK,.u64 lN,.u64 lL,.u64 lJ,.s lG,.s lI,.i .i64 lH,.sl .bs lF,.sl .fl lM]] => .eT (decide (bJ.bO (bJ.of [] (Val.mk lK lN lL lJ lG lI lH lF lM))≤1099511627776)) [(.ag (bM.cells (Cn.jf (Val.mk lK lN lL lJ lG lI lH lF lM)))),(.ag [(.i .i64 (Cn.jv (Val.mk lK lN lL lJ lG lI lH lF lM)).2),(.i .i64 0),(.sl .is (Cn.jv (Val.mk lK lN lL lJ lG lI lH lF lM)).1)])]
 | _ => .err
def iH.sg:bW:={}
def iH.c:eS:=fun l=>match l with
 | [.s s] => .eT (decide ((s).length≤1099511627776)) [(.b (fy.whole s))]
 | _ => .err
def bP.sg:bW:={}
def bP.c:eS:=fun l=>match l with
 | [.ag [.i .i64 ia,.s hO,.sl .ml ib]] => .eT (decide (bM.bO (bM.mk ia hO ib)≤1099511627776)) [(.i .i64 (Cn.mE (bM.mk ia hO ib)))]
 | _ => .err
def bP.cn (n:Nat):eS:=fun l=>match l with
 | [.ag [.i .i64 ia,.s hO,.sl .ml ib]] => .eT ((decide (bM.bO (bM.mk ia hO ib)≤1099511627776))&&decide ((bM.bO (bM.mk ia hO ib))<n)) [(.i .i64 (Cn.mE (bM.mk ia hO ib)))]
 | _ => .err
def cm.sg:bW:={ fo:=2 }
def cm.c:eS:=fun l=>match l with
 | [.s s] => .eT (decide ((s).length≤1000000000000)) [(.s (Cn.jx s)),(.b (fy.whole s))]
 | _ => .err
def jo_quoted.sg:bW:={ md:=[.gv],own:=[0] }
def jo_quoted.c:eS:=fun l=>match l with
 | [.sl .bs b,.s s] => .eT (decide ((b).length+6 * (s).length≤5000000000000)) [(.sl .bs ((b++Cn.jx s)))]
 | _ => .err
def bY.sg:bW:={ md:=[.gv],own:=[0] }
def bY.c:eS:=fun l=>match l with
 | [.sl .bs b,.ag [.i .i64 ia,.s hO,.sl .ml ib]] => .eT (decide ((b).length+12 * bM.bO (bM.mk ia hO ib)≤4000000000000)) [(.sl .bs ((b++Cn.tJ (bM.mk ia hO ib))))]
 | _ => .err
def bY.cn (n:Nat):eS:=fun l=>match l with
 | [.sl .bs b,.ag [.i .i64 ia,.s hO,.sl .ml ib]] => .eT ((decide ((b).length+12 * bM.bO (bM.mk ia hO ib)≤4000000000000))&&decide ((bM.bO (bM.mk ia hO ib))<n)) [(.sl .bs ((b++Cn.tJ (bM.mk ia hO ib))))]
 | _ => .err
def ft.sg:bW:={ fo:=2 }
def ft.c:eS:=fun l=>match l with
 | [.ag [.i .i64 ia,.s hO,.sl .ml ib]] => .eT (decide (12 * bM.bO (bM.mk ia hO ib)≤1000000000000)) [(.s (Cn.pW (bM.mk ia hO ib))),(.i .i64 (Cn.mE (bM.mk ia hO ib)))]
 | _ => .err
def gn.sg:bW:={ fo:=2 }
def gn.c:eS:=fun l=>match l with
 | [.ag [.i .i64 lK,.u64 lN,.u64 lL,.u64 lJ,.s lG,.s lI,.i .i64 lH,.sl .bs lF,.sl .fl lM]] => .eT (decide (bJ.bO (bJ.of [] (Val.mk lK lN lL lJ lG lI lH lF lM))≤100000)) [(.s (Cn.tV (Val.mk lK lN lL lJ lG lI lH lF lM))),(.ag [(.i .i64 (Cn.oG (Val.mk lK lN lL lJ lG lI lH lF lM)).2),(.i .i64 0),(.sl .is (Cn.oG (Val.mk lK lN lL lJ lG lI lH lF lM)).1)])]
 | _ => .err
def r22_Same.sg:bW:={}
def r22_Same.c:eS:=fun l=>match l with
 | [.ag [.i .i64 K1,.s K0,.sl .ml K2],.ag [.i .i64 PI,.s PH,.sl .ml PJ]] => .eT (decide (bM.bO (bM.mk K1 K0 K2)≤1099511627776)) [(.b (Cn.mW (bM.mk K1 K0 K2) (bM.mk PI PH PJ)))]
 | _ => .err
def r22_Same.cn (n:Nat):eS:=fun l=>match l with
 | [.ag [.i .i64 K1,.s K0,.sl .ml K2],.ag [.i .i64 PI,.s PH,.sl .ml PJ]] => .eT ((decide (bM.bO (bM.mk K1 K0 K2)≤1099511627776))&&decide ((bM.bO (bM.mk K1 K0 K2))<n)) [(.b (Cn.mW (bM.mk K1 K0 K2) (bM.mk PI PH PJ)))]
 | _ => .err
def VF.sg:bW:={}
def VF.c:eS:=fun l=>match l with
 | [.u8 c] => .ok [(.b (Jp.blank c))]
 | _ => .err
def VD.sg:bW:={}
def VD.c:eS:=fun l=>match l with
 | [.u8 c] => .ok [(.b (Jp.VX c))]
 | _ => .err
def Vl.sg:bW:={}
def Vl.c:eS:=fun l=>match l with
 | [.u8 c] => .ok [(.i .i64 (Jp.Xj c))]
 | _ => .err
def Vy.sg:bW:={}
def Vy.c:eS:=fun l=>match l with
 | [.s s,.i .i64 a] => .eT (decide ((s).length≤1000000000000∧0≤a∧a≤2000000000000)) [(.i .i64 (Jp.four 4 0 (List.drop (a).toNat s)))]
 | _ => .err
def VM.sg:bW:={}
def VM.c:eS:=fun l=>match l with
 | [.i .i64 r] => .ok [(.b (fy.mA r))]
 | _ => .err
def VK.sg:bW:={ fo:=2 }
def VK.c:eS:=fun l=>match l with
 | [.i .i64 r] => .ok [(.sl .bs (cond (fy.mA r) (Jp.put r) [])),(.b (fy.mA r))]
 | _ => .err
def Vr.sg:bW:={ fo:=2 }
def Vr.c:eS:=fun l=>match l with
 | [.s s,.i .i64 a] => .eT (decide ((s).length≤1000000000000∧0≤a∧a<(s).length)) [(.ag (Tok.cells ((Jp.W5 s a).1))),(.ag [(.i .i64 (Jp.W5 s a).2.1),(.i .i64 (Jp.W5 s a).2.2),(.sl .is ([]:List Int))])]
 | _ => .err
def nk.sg:bW:={ fo:=2 }
def nk.c:eS:=fun l=>match l with
 | [.s s,.i .i64 a] => .eT (decide ((s).length≤1000000000000)) [(.ag (Tok.cells ((Jp.next s a).1))),(.ag [(.i .i64 (Jp.next s a).2.1),(.i .i64 (Jp.next s a).2.2),(.sl .is ([]:List Int))])]
 | _ => .err
def VI.sg:bW:={ md:=[.rf],fo:=0 }
def VI.c:eS:=fun l=>match l with
 | [.ag [.s VT,.i .i64 Vf,.i .i64 Vj,.i .i64 VH,.i .i64 Vu,.s Vh,.i .i64 Vt,.i .i64 Vs,.sl .is Vi]] => .eT (decide (((Rj.mk VT Vf Vj VH Vu Vh Vt Vs Vi)).s.length≤1000000000000∧((Rj.mk VT Vf Vj VH Vu Vh Vt Vs Vi)).path=[])) [(.ag (Rj.cells ((Rj.put (Rj.mk VT Vf Vj VH Vu Vh Vt Vs Vi) (Jp.step ((Rj.mk VT Vf Vj VH Vu Vh Vt Vs Vi)).s (Rj.st (Rj.mk VT Vf Vj VH Vu Vh Vt Vs Vi)))))))]
 | _ => .err
def VG.sg:bW:={ md:=[.rf],fo:=0 }
def VG.c:eS:=fun l=>match l with
 | [.ag [.s VT,.i .i64 Vf,.i .i64 Vj,.i .i64 VH,.i .i64 Vu,.s Vh,.i .i64 Vt,.i .i64 Vs,.sl .is Vi],.i .i64 e] => .eT (decide (((Rj.mk VT Vf Vj VH Vu Vh Vt Vs Vi)).path=[])) [(.ag (Rj.cells ((Rj.put (Rj.mk VT Vf Vj VH Vu Vh Vt Vs Vi) (Jp.V5 e (Rj.st (Rj.mk VT Vf Vj VH Vu Vh Vt Vs Vi)))))))]
 | _ => .err
def Vq.sg:bW:={ md:=[.rf] }
def Vq.c:eS:=fun l=>match l with
 | [.ag [.s VT,.i .i64 Vf,.i .i64 Vj,.i .i64 VH,.i .i64 Vu,.s Vh,.i .i64 Vt,.i .i64 Vs,.sl .is Vi],.i .i64 w] => .eT (decide (((Rj.mk VT Vf Vj VH Vu Vh Vt Vs Vi)).s.length≤1000000000000∧((Rj.mk VT Vf Vj VH Vu Vh Vt Vs Vi)).path=[]∧((Rj.mk VT Vf Vj VH Vu Vh Vt Vs Vi)).err=0∧((Rj.mk VT Vf Vj VH Vu Vh Vt Vs Vi)).Pw=0∧((Rj.mk VT Vf Vj VH Vu Vh Vt Vs Vi)).depth≤1000∧0≤w∧w≤1000)&&Jp.Wf ((Rj.mk VT Vf Vj VH Vu Vh Vt Vs Vi)).s (Rj.st (Rj.mk VT Vf Vj VH Vu Vh Vt Vs Vi)).1) [(.ag (bM.cells ((Jp.rv ((Rj.mk VT Vf Vj VH Vu Vh Vt Vs Vi)).s ((Rj.mk VT Vf Vj VH Vu Vh Vt Vs Vi)).depth (Rj.st (Rj.mk VT Vf Vj VH Vu Vh Vt Vs Vi)) w).1))),(.ag (Rj.cells ((Rj.put (Rj.mk VT Vf Vj VH Vu Vh Vt Vs Vi) (Jp.rv ((Rj.mk VT Vf Vj VH Vu Vh Vt Vs Vi)).s ((Rj.mk VT Vf Vj VH Vu Vh Vt Vs Vi)).depth (Rj.st (Rj.mk VT Vf Vj VH Vu Vh Vt Vs Vi)) w).2))))]
 | _ => .err
def Vq.cn (n:Nat):eS:=fun l=>match l with
 | [.ag [.s VT,.i .i64 Vf,.i .i64 Vj,.i .i64 VH,.i .i64 Vu,.s Vh,.i .i64 Vt,.i .i64 Vs,.sl .is Vi],.i .i64 w] => .eT ((decide (((Rj.mk VT Vf Vj VH Vu Vh Vt Vs Vi)).s.length≤1000000000000∧((Rj.mk VT Vf Vj VH Vu Vh Vt Vs Vi)).path=[]∧((Rj.mk VT Vf Vj VH Vu Vh Vt Vs Vi)).err=0∧((Rj.mk VT Vf Vj VH Vu Vh Vt Vs Vi)).Pw=0∧((Rj.mk VT Vf Vj VH Vu Vh Vt Vs Vi)).depth≤1000∧0≤w∧w≤1000)&&Jp.Wf ((Rj.mk VT Vf Vj VH Vu Vh Vt Vs Vi)).s (Rj.st (Rj.mk VT Vf Vj VH Vu Vh Vt Vs Vi)).1)&&decide ((2 * (((Rj.mk VT Vf Vj VH Vu Vh Vt Vs Vi)).s.length - (((Rj.mk VT Vf Vj VH Vu Vh Vt Vs Vi)).at_).toNat)+2)<n)) [(.ag (bM.cells ((Jp.rv ((Rj.mk VT Vf Vj VH Vu Vh Vt Vs Vi)).s ((Rj.mk VT Vf Vj VH Vu Vh Vt Vs Vi)).depth (Rj.st (Rj.mk VT Vf Vj VH Vu Vh Vt Vs Vi)) w).1))),(.ag (Rj.cells ((Rj.put (Rj.mk VT Vf Vj VH Vu Vh Vt Vs Vi) (Jp.rv ((Rj.mk VT Vf Vj VH Vu Vh Vt Vs Vi)).s ((Rj.mk VT Vf Vj VH Vu Vh Vt Vs Vi)).depth (Rj.st (Rj.mk VT Vf Vj VH Vu Vh Vt Vs Vi)) w).2))))]
 | _ => .err
def Vm.sg:bW:={ md:=[.rf] }
def Vm.c:eS:=fun l=>match l with
 | [.ag [.s VT,.i .i64 Vf,.i .i64 Vj,.i .i64 VH,.i .i64 Vu,.s Vh,.i .i64 Vt,.i .i64 Vs,.sl .is Vi],.i .i64 k,.i .i64 w] => .eT (decide (((Rj.mk VT Vf Vj VH Vu Vh Vt Vs Vi)).s.length≤1000000000000∧((Rj.mk VT Vf Vj VH Vu Vh Vt Vs Vi)).path=[]∧((Rj.mk VT Vf Vj VH Vu Vh Vt Vs Vi)).err=0∧((Rj.mk VT Vf Vj VH Vu Vh Vt Vs Vi)).Pw=0∧((Rj.mk VT Vf Vj VH Vu Vh Vt Vs Vi)).depth≤1000∧0≤w∧w<1000∧(k=2∨k=4)∧((Rj.mk VT Vf Vj VH Vu Vh Vt Vs Vi)).kind=k)&&Jp.Wf ((Rj.mk VT Vf Vj VH Vu Vh Vt Vs Vi)).s (Rj.st (Rj.mk VT Vf Vj VH Vu Vh Vt Vs Vi)).1) [(.ag (bM.cells ((Jp.rr ((Rj.mk VT Vf Vj VH Vu Vh Vt Vs Vi)).s ((Rj.mk VT Vf Vj VH Vu Vh Vt Vs Vi)).depth k (Rj.st (Rj.mk VT Vf Vj VH Vu Vh Vt Vs Vi)) w).1))),(.ag (Rj.cells ((Rj.put (Rj.mk VT Vf Vj VH Vu Vh Vt Vs Vi) (Jp.rr ((Rj.mk VT Vf Vj VH Vu Vh Vt Vs Vi)).s ((Rj.mk VT Vf Vj VH Vu Vh Vt Vs Vi)).depth k (Rj.st (Rj.mk VT Vf Vj VH Vu Vh Vt Vs Vi)) w).2))))]
 | _ => .err
def Vm.cn (n:Nat):eS:=fun l=>match l with
 | [.ag [.s VT,.i .i64 Vf,.i .i64 Vj,.i .i64 VH,.i .i64 Vu,.s Vh,.i .i64 Vt,.i .i64 Vs,.sl .is Vi],.i .i64 k,.i .i64 w] => .eT ((decide (((Rj.mk VT Vf Vj VH Vu Vh Vt Vs Vi)).s.length≤1000000000000∧((Rj.mk VT Vf Vj VH Vu Vh Vt Vs Vi)).path=[]∧((Rj.mk VT Vf Vj VH Vu Vh Vt Vs Vi)).err=0∧((Rj.mk VT Vf Vj VH Vu Vh Vt Vs Vi)).Pw=0∧((Rj.mk VT Vf Vj VH Vu Vh Vt Vs Vi)).depth≤1000∧0≤w∧w<1000∧(k=2∨k=4)∧((Rj.mk VT Vf Vj VH Vu Vh Vt Vs Vi)).kind=k)&&Jp.Wf ((Rj.mk VT Vf Vj VH Vu Vh Vt Vs Vi)).s (Rj.st (Rj.mk VT Vf Vj VH Vu Vh Vt Vs Vi)).1)&&decide ((2 * (((Rj.mk VT Vf Vj VH Vu Vh Vt Vs Vi)).s.length - (((Rj.mk VT Vf Vj VH Vu Vh Vt Vs Vi)).at_).toNat)+1)<n)) [(.ag (bM.cells ((Jp.rr ((Rj.mk VT Vf Vj VH Vu Vh Vt Vs Vi)).s ((Rj.mk VT Vf Vj VH Vu Vh Vt Vs Vi)).depth k (Rj.st (Rj.mk VT Vf Vj VH Vu Vh Vt Vs Vi)) w).1))),(.ag (Rj.cells ((Rj.put (Rj.mk VT Vf Vj VH Vu Vh Vt Vs Vi) (Jp.rr ((Rj.mk VT Vf Vj VH Vu Vh Vt Vs Vi)).s ((Rj.mk VT Vf Vj VH Vu Vh Vt Vs Vi)).depth k (Rj.st (Rj.mk VT Vf Vj VH Vu Vh Vt Vs Vi)) w).2))))]
 | _ => .err
def Vw.sg:bW:={ fo:=2 }
def Vw.c:eS:=fun l=>match l with
 | [.s s,.i .i64 d] => .eT (decide ((s).length≤1000000000000)) [(.ag (bM.cells ((Jp.parse s d).1))),(.ag [(.i .i64 (Jp.parse s d).2.1),(.i .i64 (Jp.parse s d).2.2),(.sl .is ([]:List Int))])]
 | _ => .err
end
end Go.Eng
set_option maxRecDepth 100000
namespace Go.Eng
open Go.Proofs
noncomputable section
def VB.E:cC:=cT fQ zs []
def VB.h:Hint := .o
def VB.F (c:UInt8):OT:=cR PG VB.E 157 VB.sg VB.h [(.u8 c)]
theorem VB.bZ (c:UInt8) {ρ:OT} (K:∀(v1:Bool) (h1:v1=(cond (decide ((48:UInt8)≤c)) (decide (c≤(57:UInt8))) false)) (v2:Int) (h2:v2=(IntKind.i64.wrap (((c - (48:UInt8))).toNat:Int))) (v3:Bool) (h3:v3=(cond (decide ((97:UInt8)≤c)) (decide (c≤(102:UInt8))) false)) (v4:Int) (h4:v4=(IntKind.i64.wrap (((c - (97:UInt8))).toNat:Int))) (v5:Int) (h5:v5=(IntKind.i64.wrap (v4+(10:Int)))) (v6:Bool) (h6:v6=(cond (decide ((65:UInt8)≤c)) (decide (c≤(70:UInt8))) false)) (v7:Int) (h7:v7=(IntKind.i64.wrap (((c - (65:UInt8))).toNat:Int))) (v8:Int) (h8:v8=(IntKind.i64.wrap (v7+(10:Int)))),ck (!(decide ((48:UInt8)≤c)) || (decide ((48:UInt8)≤c))) (ck (!(decide ((48:UInt8)≤c)) || (decide ((48:UInt8)≤c))) (cond v1
  (some [(.i .i64 v2)])
  (ck (!(decide ((97:UInt8)≤c)) || (decide ((97:UInt8)≤c))) (ck (!(decide ((97:UInt8)≤c)) || (decide ((97:UInt8)≤c))) (cond v3
  (some [(.i .i64 v5)])
  (ck (!(decide ((65:UInt8)≤c)) || (decide ((65:UInt8)≤c))) (ck (!(decide ((65:UInt8)≤c)) || (decide ((65:UInt8)≤c))) (cond v6
  (some [(.i .i64 v8)])
  (some [(.i .i64 (-1))])))))))))=ρ):VB.F c=ρ:=Eq.trans (by kernel_rfl) (K _ rfl _ rfl _ rfl _ rfl _ rfl _ rfl _ rfl _ rfl)
def cd.E:cC:=cT fQ zs []
def cd.h:Hint := .s .o (.s .o (.s (.s .o (.b (.l [(3,.fA 800000),(10,.no),(11,.no),(12,.no),(800000,.pv)] .o))) .o))
def cd.F (b:List UInt8):OT:=cR PG cd.E 91 cd.sg cd.h [(.sl .bs b)]
def cd.l1 (x0:List UInt8) (x1:Int) (x2:Int) (x3:List UInt8):OT:=dQ PG cd.E 91 cd.sg cd.h 43 [.pt,(.sl .bs x0),(.i .i64 x1),(.i .i64 x2),(.sl .bs x3)]
theorem cd.bV (x0:List UInt8) (x1:Int) (x2:Int) (x3:List UInt8) {ρ:OT} (K:∀(v1:UInt8) (h1:v1=(List.getD x0 (x2).toNat (0:UInt8))) (v2:UInt8) (h2:v2=(kX v1 (((4:UInt64)).toNat))) (v3:UInt8) (h3:v3=(List.getD ([48,49,50,51,52,53,54,55,56,57,97,98,99,100,101,102]:bz) (((v2).toNat:Int)).toNat (0:UInt8))) (v4:UInt8) (h4:v4=(List.getD ([48,49,50,51,52,53,54,55,56,57,97,98,99,100,101,102]:bz) ((((v1 &&& (15:UInt8))).toNat:Int)).toNat (0:UInt8))) (v5:List UInt8) (h5:v5=(x3++([v3,v4]:List UInt8))) (v6:Int) (h6:v6=(IntKind.i64.wrap (x2+(1:Int)))),cond (decide (x2<x1))
  (ck (bB x2 (x0).length) (ck (bB ((v2).toNat:Int) (([48,49,50,51,52,53,54,55,56,57,97,98,99,100,101,102]:bz)).length) (ck (bB (((v1 &&& (15:UInt8))).toNat:Int) (([48,49,50,51,52,53,54,55,56,57,97,98,99,100,101,102]:bz)).length) (ck (fC ((x3).length+(([v3,v4]:List UInt8)).length) 1) (cd.l1 x0 x1 v6 v5)))))
  (some [(.s x3)])=ρ):cd.l1 x0 x1 x2 x3=ρ:=((bU _ _ _ _ _ _ _).trans (by kernel_rfl)).trans (K _ rfl _ rfl _ rfl _ rfl _ rfl _ rfl)
theorem cd.bZ (b:List UInt8) {ρ:OT} (K:∀(v1:Int) (h1:v1=(IntKind.i64.wrap ((2:Int) * ((b).length:Int)))) (v2:List UInt8) (h2:v2=(List.replicate ((0:Int)).toNat (0:UInt8))),ck (oq (0:Int) v1 1) (cd.l1 b ((b).length:Int) (0:Int) v2)=ρ):cd.F b=ρ:=Eq.trans (by kernel_rfl) (K _ rfl _ rfl)
def Vk.E:cC:=cT fQ zs [(157,(VB.c,VB.sg))]
def Vk.h:Hint := .s .o (.s .o (.s .o (.s (.s .o (.b (.l [(0,.no),(4,.fA 800000),(5,.no),(800000,.pv)] .o))) .o)))
def Vk.F (s:bz):OT:=cR PG Vk.E 135 Vk.sg Vk.h [(.s s)]
def Vk.l1 (x0:bz) (x1:Int) (x2:List UInt8):OT:=dQ PG Vk.E 135 Vk.sg Vk.h 87 [(.s x0),.pt,(.i .i64 x1),(.sl .bs x2)]
theorem Vk.bV (x0:bz) (x1:Int) (x2:List UInt8) {ρ:OT} (K:∀(v1:UInt8) (h1:v1=(List.getD x0 (x1).toNat (0:UInt8))) (v2:Int) (h2:v2=(IntKind.i64.wrap (x1+(1:Int)))) (v3:UInt8) (h3:v3=(List.getD x0 (v2).toNat (0:UInt8))) (v4:Bool) (h4:v4=(cond (decide ((lE.digit v1)<(0:Int))) true (decide ((lE.digit v3)<(0:Int))))) (v5:Int) (h5:v5=(IntKind.i64.wrap ((lE.digit v1) * (16:Int)))) (v6:Int) (h6:v6=(IntKind.i64.wrap (v5+(lE.digit v3)))) (v7:List UInt8) (h7:v7=([(UInt8.ofInt v6)]:List UInt8)) (v8:Int) (h8:v8=(IntKind.i64.wrap (x1+(2:Int)))),cond (decide (x1<((x0).length:Int)))
  (ck (bB x1 (x0).length) (ck (bB v2 (x0).length) (ck (!(!(decide ((lE.digit v1)<(0:Int)))) || (!(decide ((lE.digit v1)<(0:Int))))) (ck ((decide ((lE.digit v1)<(0:Int))) || (!(decide ((lE.digit v1)<(0:Int))))) (cond v4
  (some [(.sl .bs ([]:List UInt8)),(.b false)])
  (ck (fC ((x2).length+(v7).length) 1) (Vk.l1 x0 v8 (x2++v7))))))))
  (some [(.sl .bs x2),(.b true)])=ρ):Vk.l1 x0 x1 x2=ρ:=((bU _ _ _ _ _ _ _).trans (by kernel_rfl)).trans (K _ rfl _ rfl _ rfl _ rfl _ rfl _ rfl _ rfl _ rfl)
theorem Vk.bZ (s:bz) {ρ:OT} (K:∀(v1:Int) (h1:v1=(Int.tmod ((s).length:Int) (2:Int))),ck (!decide ((2:Int)=0)) (cond (!decide (v1=(0:Int)))
  (some [(.sl .bs ([]:List UInt8)),(.b false)])
  (Vk.l1 s (0:Int) ([]:List UInt8)))=ρ):Vk.F s=ρ:=Eq.trans (by kernel_rfl) (K _ rfl)
def gX.E:cC:=cT fQ zs []
def gX.h:Hint := .o
def gX.F (r:Int):OT:=cR PG gX.E 158 gX.sg gX.h [(.i .i64 r)]
theorem gX.bZ (r:Int) {ρ:OT} (K:∀(v1:Bool) (h1:v1=(cond (decide ((0:Int)≤r)) (decide (r≤(1114111:Int))) false)) (v2:Bool) (h2:v2=(v1&&(!(decide (r<(55296:Int)))))) (v3:Bool) (h3:v3=(cond (decide (r<(55296:Int))) true (decide ((57343:Int)<r)))),ck (!(decide ((0:Int)≤r)) || (decide ((0:Int)≤r))) (ck (!(decide ((0:Int)≤r)) || (decide ((0:Int)≤r))) (ck (!v1 || v1) (ck (!v1 || v1) (ck (!v2 || v2) (ck (!v1 || (v1&&((decide (r<(55296:Int))) || v2))) (ck (!v1 || v1) (some [(.b (cond v1 v3 false))])))))))=ρ):gX.F r=ρ:=Eq.trans (by kernel_rfl) (K _ rfl _ rfl _ rfl)
def bH.E:cC:=cT fQ zs [(158,(gX.c,gX.sg))]
def bH.h:Hint := .s .o (.sc [(0,(sc [])),(1,(sc [0,1,4,7,8,9]))] (.s .o (.s .o (.s .o (.j (sc [0,1,4,7,8]) .o .o)))))
def bH.F (b:List UInt8) (at_:Int):OT:=cR PG bH.E 137 bH.sg bH.h [(.sl .bs b),(.i .i64 at_)]
def bH.g1:OT:=vx PG bH.E 137 bH.sg bH.h 3 0 []
def bH.j2 (x0:List UInt8) (x1:Int) (x2:Int) (x3:Int) (x4:Int):OT:=eD PG bH.E 137 bH.sg bH.h 61 [(.sl .bs x0),(.i .i64 x1),(.i .i64 x2),(.i .i64 x3),(.i .i64 x4)]
def bH.g3 (x0:List UInt8) (x1:Int) (x2:Int) (x3:Int) (x4:Int) (x5:Int):OT:=vx PG bH.E 137 bH.sg bH.h 3 1 [(.sl .bs x0),(.i .i64 x1),(.i .i64 x2),(.i .i64 x3),(.i .i64 x4),(.i .i64 x5)]
theorem bH.uF:bH.g1=some [(.i .i64 (0:Int)),(.i .i64 (0:Int))]:=((uw _ _ _ _ _ _ _ _).trans (by kernel_rfl))
theorem bH.jg (x0:List UInt8) (x1:Int) (x2:Int) (x3:Int) (x4:Int) {ρ:OT} (K:∀(v1:Int) (h1:v1=(IntKind.i64.wrap (((x0).length:Int) - x1))) (v2:Int) (h2:v2=(IntKind.i64.wrap (v1 - (1:Int)))) (v3:Int) (h3:v3=(IntKind.i64.wrap (x1+(1:Int)))) (v4:UInt8) (h4:v4=(List.getD x0 (v3).toNat (0:UInt8))) (v5:Bool) (h5:v5=(!decide ((v4 &&& (192:UInt8))=(128:UInt8)))) (v6:Int) (h6:v6=(IntKind.i64.wrap (x2 * 2 ^ (min (((6:UInt64)).toNat) (IntKind.i64.bits))))) (v7:Int) (h7:v7=(IntKind.i64.wrap (((v4 &&& (63:UInt8))).toNat:Int))) (v8:Int) (h8:v8=(IntKind.i64.wrap ((1:Int)+(1:Int)))) (v9:Bool) (h9:v9=(cond (decide (x2<x4)) true (!(fy.mA x2)))) (v10:Int) (iA:v10=(IntKind.i64.wrap (x3+(1:Int)))),cond (decide (v2<x3))
  (bH.g1)
  (cond (decide ((1:Int)≤x3))
  (ck (bB v3 (x0).length) (cond v5
  (bH.g1)
  (ck (bB v3 (x0).length) (bH.g3 x0 x1 (cI .or .i64 v6 v7) x3 x4 v8))))
  (ck (!(!(decide (x2<x4))) || (!(decide (x2<x4)))) (ck (!(!(decide (x2<x4))) || (!(decide (x2<x4)))) (ck ((decide (x2<x4)) || (!(decide (x2<x4)))) (cond v9
  (bH.g1)
  (some [(.i .i64 x2),(.i .i64 v10)]))))))=ρ):bH.j2 x0 x1 x2 x3 x4=ρ:=((b9 _ _ _ _ _ _ _).trans (by kernel_rfl)).trans (K _ rfl _ rfl _ rfl _ rfl _ rfl _ rfl _ rfl _ rfl _ rfl _ rfl)
theorem bH.D9 (x0:List UInt8) (x1:Int) (x2:Int) (x3:Int) (x4:Int) (x5:Int) {ρ:OT} (K:∀(v1:UInt8) (h1:v1=(List.getD x0 ((IntKind.i64.wrap (x1+x5))).toNat (0:UInt8))) (v2:Bool) (h2:v2=(!decide ((v1 &&& (192:UInt8))=(128:UInt8)))) (v3:Int) (h3:v3=(IntKind.i64.wrap (x2 * 2 ^ (min (((6:UInt64)).toNat) (IntKind.i64.bits))))) (v4:Int) (h4:v4=(IntKind.i64.wrap (((v1 &&& (63:UInt8))).toNat:Int))) (v5:Int) (h5:v5=(IntKind.i64.wrap (x5+(1:Int)))) (v6:Bool) (h6:v6=(cond (decide (x2<x4)) true (!(fy.mA x2)))) (v7:Int) (h7:v7=(IntKind.i64.wrap (x3+(1:Int)))),cond (decide (x5≤x3))
  (ck (bB (IntKind.i64.wrap (x1+x5)) (x0).length) (cond v2
  (bH.g1)
  (ck (bB (IntKind.i64.wrap (x1+x5)) (x0).length) (bH.g3 x0 x1 (cI .or .i64 v3 v4) x3 x4 v5))))
  (ck (!(!(decide (x2<x4))) || (!(decide (x2<x4)))) (ck (!(!(decide (x2<x4))) || (!(decide (x2<x4)))) (ck ((decide (x2<x4)) || (!(decide (x2<x4)))) (cond v6
  (bH.g1)
  (some [(.i .i64 x2),(.i .i64 v7)])))))=ρ):bH.g3 x0 x1 x2 x3 x4 x5=ρ:=((uw _ _ _ _ _ _ _ _).trans (by kernel_rfl)).trans (K _ rfl _ rfl _ rfl _ rfl _ rfl _ rfl _ rfl)
theorem bH.bZ (b:List UInt8) (at_:Int) {ρ:OT} (K:∀(v1:Bool) (h1:v1=(cond (decide (at_<(0:Int))) true (decide (((b).length:Int)≤at_)))) (v2:UInt8) (h2:v2=(List.getD b (at_).toNat (0:UInt8))) (v3:Int) (h3:v3=(IntKind.i64.wrap ((v2).toNat:Int))) (v4:Bool) (h4:v4=(cond (decide ((192:Int)≤v3)) (decide (v3<(224:Int))) false)) (v5:Int) (h5:v5=(cI .and .i64 v3 (31:Int))) (v6:Bool) (h6:v6=(cond (decide ((224:Int)≤v3)) (decide (v3<(240:Int))) false)) (v7:Int) (h7:v7=(cI .and .i64 v3 (15:Int))) (v8:Bool) (h8:v8=(cond (decide ((240:Int)≤v3)) (decide (v3<(248:Int))) false)) (v9:Int) (h9:v9=(cI .and .i64 v3 (7:Int))),ck (!(!(decide (at_<(0:Int)))) || (!(decide (at_<(0:Int))))) (ck (!(!(decide (at_<(0:Int)))) || ((!(decide (at_<(0:Int))))&&(!(decide (at_<(0:Int)))))) (ck ((decide (at_<(0:Int))) || (!(decide (at_<(0:Int))))) (cond v1
  (bH.g1)
  (ck (bB at_ (b).length) (cond (decide (v3<(128:Int)))
  (some [(.i .i64 v3),(.i .i64 1)])
  (ck (!(decide ((192:Int)≤v3)) || (decide ((192:Int)≤v3))) (ck (!(decide ((192:Int)≤v3)) || (decide ((192:Int)≤v3))) (cond v4
  (bH.j2 b at_ v5 (1:Int) (128:Int))
  (ck (!(decide ((224:Int)≤v3)) || (decide ((224:Int)≤v3))) (ck (!(decide ((224:Int)≤v3)) || (decide ((224:Int)≤v3))) (cond v6
  (bH.j2 b at_ v7 (2:Int) (2048:Int))
  (ck (!(decide ((240:Int)≤v3)) || (decide ((240:Int)≤v3))) (ck (!(decide ((240:Int)≤v3)) || (decide ((240:Int)≤v3))) (cond v8
  (bH.j2 b at_ v9 (3:Int) (65536:Int))
  (bH.g1)))))))))))))))=ρ):bH.F b at_=ρ:=Eq.trans (by kernel_rfl) (K _ rfl _ rfl _ rfl _ rfl _ rfl _ rfl _ rfl _ rfl _ rfl)
def cj.E:cC:=cT fQ zs [(137,(bH.c,bH.sg))]
def cj.h:Hint := .s .o (.j (sc [2,3]) (.b (.l (sc [0,2,3]) .o)) .o)
def cj.F (b:List UInt8):OT:=cR PG cj.E 110 cj.sg cj.h [(.sl .bs b)]
def cj.l1 (x0:List UInt8) (x1:Int) (x2:Int):OT:=dQ PG cj.E 110 cj.sg cj.h 9 [(.sl .bs x0),(.i .i64 x1),(.i .i64 x2)]
def cj.j2 (x0:Int) (x1:Int):OT:=eD PG cj.E 110 cj.sg cj.h 3 [(.i .i64 x0),(.i .i64 x1)]
theorem cj.bV (x0:List UInt8) (x1:Int) (x2:Int) {ρ:OT} (K:∀(v1:Int) (h1:v1=(IntKind.i64.wrap (x1+((fy.mi x0 x1).2)))) (v2:Int) (h2:v2=(IntKind.i64.wrap (x2+(1:Int)))),cond (decide (x1<((x0).length:Int)))
  (ck (decide (x0.length≤1099511627776)) (cond (decide (((fy.mi x0 x1).2)=(0:Int)))
  (cj.j2 x1 x2)
  (cj.l1 x0 v1 v2)))
  (cj.j2 x1 x2)=ρ):cj.l1 x0 x1 x2=ρ:=((bU _ _ _ _ _ _ _).trans (by kernel_rfl)).trans (K _ rfl _ rfl)
theorem cj.jZ (x0:Int) (x1:Int):cj.j2 x0 x1=some [(.i .i64 x0),(.i .i64 x1)]:=((b9 _ _ _ _ _ _ _).trans (by kernel_rfl))
theorem cj.eJ (b:List UInt8):cj.F b=cj.l1 b (0:Int) (0:Int):=by kernel_rfl
def dJ.E:cC:=cT fQ zs [(110,(cj.c,cj.sg))]
def dJ.h:Hint := .o
def dJ.F (b:List UInt8):OT:=cR PG dJ.E 81 dJ.sg dJ.h [(.sl .bs b)]
theorem dJ.eJ (b:List UInt8):dJ.F b=ck (decide (b.length≤1099511627776)) (some [(.i .i64 (((fy.look b).1:Int))),(.b (decide ((((fy.look b).1:Int))=((b).length:Int))))]):=by kernel_rfl
def Vg.E:cC:=cT fQ zs []
def Vg.h:Hint := .s .o (.s .o (.s .o (.s .o (.j (sc [0,1,7,8,9]) .o (.s .o (.s (.s .o (.b (.l (sc [0,1,7,8,9,10]) .o))) .o))))))
def Vg.F (b:List UInt8) (at_:Int):OT:=cR PG Vg.E 80 Vg.sg Vg.h [(.sl .bs b),(.i .i64 at_)]
def Vg.j1 (x0:List UInt8) (x1:Int) (x2:Int) (x3:Int) (x4:Int):OT:=eD PG Vg.E 80 Vg.sg Vg.h 31 [(.sl .bs x0),(.i .i64 x1),(.i .i64 x2),(.i .i64 x3),(.i .i64 x4)]
def Vg.l2 (x0:List UInt8) (x1:Int) (x2:Int) (x3:Int) (x4:Int) (x5:Int):OT:=dQ PG Vg.E 80 Vg.sg Vg.h 703 [(.sl .bs x0),(.i .i64 x1),(.i .i64 x2),(.i .i64 x3),(.i .i64 x4),(.i .i64 x5)]
theorem Vg.iI (x0:List UInt8) (x1:Int) (x2:Int) (x3:Int) (x4:Int) {ρ:OT} (K:∀(v1:Int) (h1:v1=(IntKind.i64.wrap (((x0).length:Int) - x1))),cond (decide (v1<x2))
  (some [(.i .i64 0),(.i .i64 0)])
  (Vg.l2 x0 x1 x2 x3 x4 (1:Int))=ρ):Vg.j1 x0 x1 x2 x3 x4=ρ:=((b9 _ _ _ _ _ _ _).trans (by kernel_rfl)).trans (K _ rfl)
theorem Vg.iw (x0:List UInt8) (x1:Int) (x2:Int) (x3:Int) (x4:Int) (x5:Int) {ρ:OT} (K:∀(v1:UInt8) (h1:v1=(List.getD x0 ((IntKind.i64.wrap (x1+x5))).toNat (0:UInt8))) (v2:Int) (h2:v2=(IntKind.i64.wrap ((v1).toNat:Int))) (v3:Bool) (h3:v3=(cond (decide (v2<(128:Int))) true (decide ((192:Int)≤v2)))) (v4:Int) (h4:v4=(IntKind.i64.wrap (x3 * (64:Int)))) (v5:Int) (h5:v5=(IntKind.i64.wrap ((IntKind.i64.wrap (v4+v2)) - (128:Int)))) (v6:Int) (h6:v6=(IntKind.i64.wrap (x5+(1:Int)))) (v7:Bool) (h7:v7=(cond (decide (x3<x4)) true (decide ((1114111:Int)<x3)))) (v8:Bool) (h8:v8=((!v7)&&(decide ((55296:Int)≤x3)))) (v9:Bool) (h9:v9=(cond (decide ((55296:Int)≤x3)) (decide (x3≤(57343:Int))) false)),cond (decide (x5<x2))
  (ck (bB (IntKind.i64.wrap (x1+x5)) (x0).length) (ck (!(!(decide (v2<(128:Int)))) || (!(decide (v2<(128:Int))))) (ck ((decide (v2<(128:Int))) || (!(decide (v2<(128:Int))))) (cond v3
  (some [(.i .i64 0),(.i .i64 0)])
  (Vg.l2 x0 x1 x2 v5 x4 v6)))))
  (ck (!(!(decide (x3<x4))) || (!(decide (x3<x4)))) (ck ((decide (x3<x4)) || (!(decide (x3<x4)))) (ck (!(!v7) || (!v7)) (ck (!(!v7) || (!v7)) (ck (!v8 || v8) (ck (!(!v7) || ((!v7)&&(!(decide ((55296:Int)≤x3)) || v8))) (ck (v7 || (!v7)) (cond (cond v7 true v9)
  (some [(.i .i64 0),(.i .i64 0)])
  (some [(.i .i64 x3),(.i .i64 x2)])))))))))=ρ):Vg.l2 x0 x1 x2 x3 x4 x5=ρ:=((bU _ _ _ _ _ _ _).trans (by kernel_rfl)).trans (K _ rfl _ rfl _ rfl _ rfl _ rfl _ rfl _ rfl _ rfl _ rfl)
theorem Vg.bZ (b:List UInt8) (at_:Int) {ρ:OT} (K:∀(v1:Bool) (h1:v1=(cond (decide (at_<(0:Int))) true (decide (((b).length:Int)≤at_)))) (v2:UInt8) (h2:v2=(List.getD b (at_).toNat (0:UInt8))) (v3:Int) (h3:v3=(IntKind.i64.wrap ((v2).toNat:Int))) (v4:Bool) (h4:v4=(cond (decide ((192:Int)≤v3)) (decide (v3<(224:Int))) false)) (v5:Int) (h5:v5=(IntKind.i64.wrap (v3 - (192:Int)))) (v6:Bool) (h6:v6=(cond (decide ((224:Int)≤v3)) (decide (v3<(240:Int))) false)) (v7:Int) (h7:v7=(IntKind.i64.wrap (v3 - (224:Int)))) (v8:Bool) (h8:v8=(cond (decide ((240:Int)≤v3)) (decide (v3<(248:Int))) false)) (v9:Int) (h9:v9=(IntKind.i64.wrap (v3 - (240:Int)))),ck (!(!(decide (at_<(0:Int)))) || (!(decide (at_<(0:Int))))) (ck (!(!(decide (at_<(0:Int)))) || ((!(decide (at_<(0:Int))))&&(!(decide (at_<(0:Int)))))) (ck ((decide (at_<(0:Int))) || (!(decide (at_<(0:Int))))) (cond v1
  (some [(.i .i64 0),(.i .i64 0)])
  (ck (bB at_ (b).length) (cond (decide (v3<(128:Int)))
  (some [(.i .i64 v3),(.i .i64 1)])
  (ck (!(decide ((192:Int)≤v3)) || (decide ((192:Int)≤v3))) (ck (!(decide ((192:Int)≤v3)) || (decide ((192:Int)≤v3))) (cond v4
  (Vg.j1 b at_ (2:Int) v5 (128:Int))
  (ck (!(decide ((224:Int)≤v3)) || (decide ((224:Int)≤v3))) (ck (!(decide ((224:Int)≤v3)) || (decide ((224:Int)≤v3))) (cond v6
  (Vg.j1 b at_ (3:Int) v7 (2048:Int))
  (ck (!(decide ((240:Int)≤v3)) || (decide ((240:Int)≤v3))) (ck (!(decide ((240:Int)≤v3)) || (decide ((240:Int)≤v3))) (cond v8
  (Vg.j1 b at_ (4:Int) v9 (65536:Int))
  (some [(.i .i64 0),(.i .i64 0)])))))))))))))))=ρ):Vg.F b at_=ρ:=Eq.trans (by kernel_rfl) (K _ rfl _ rfl _ rfl _ rfl _ rfl _ rfl _ rfl _ rfl _ rfl)
def Vn.E:cC:=cT fQ zs [(80,(Vg.c,Vg.sg))]
def Vn.h:Hint := .s .o (.s (.s .o (.b (.l (sc [0,4]) .o))) .o)
def Vn.F (b:List UInt8):OT:=cR PG Vn.E 45 Vn.sg Vn.h [(.sl .bs b)]
def Vn.l1 (x0:List UInt8) (x1:Int):OT:=dQ PG Vn.E 45 Vn.sg Vn.h 21 [(.sl .bs x0),(.i .i64 x1)]
theorem Vn.bV (x0:List UInt8) (x1:Int) {ρ:OT} (K:∀(v1:Int) (h1:v1=(IntKind.i64.wrap (x1+((fy.mi x0 x1).2)))),cond (decide (x1<((x0).length:Int)))
  (ck (decide (x0.length≤1099511627776)) (cond (decide (((fy.mi x0 x1).2)=(0:Int)))
  (some [(.i .i64 x1),(.b false)])
  (Vn.l1 x0 v1)))
  (some [(.i .i64 ((x0).length:Int)),(.b true)])=ρ):Vn.l1 x0 x1=ρ:=((bU _ _ _ _ _ _ _).trans (by kernel_rfl)).trans (K _ rfl)
theorem Vn.eJ (b:List UInt8):Vn.F b=Vn.l1 b (0:Int):=by kernel_rfl
def Vv.E:cC:=cT fQ zs [(45,(Vn.c,Vn.sg))]
def Vv.h:Hint := .o
def Vv.F (s:bz):OT:=cR PG Vv.E 33 Vv.sg Vv.h [(.s s)]
theorem Vv.eJ (s:bz):Vv.F s=ck (qT (s).length) (ck (decide (s.length≤1099511627776)) (some [(.b (fy.whole s))])):=by kernel_rfl
def Vp.E:cC:=cT fQ zs []
def Vp.h:Hint := .s .o (.s (.s .o (.b (.l (sc [0,3]) .o))) .o)
def Vp.F (s:bz):OT:=cR PG Vp.E 94 Vp.sg Vp.h [(.s s)]
def Vp.l1 (x0:bz) (x1:Int):OT:=dQ PG Vp.E 94 Vp.sg Vp.h 21 [(.s x0),(.i .i64 x1)]
theorem Vp.bV (x0:bz) (x1:Int) {ρ:OT} (K:∀(v1:UInt8) (h1:v1=(List.getD x0 (x1).toNat (0:UInt8))) (v2:Int) (h2:v2=(IntKind.i64.wrap (x1+(1:Int)))),cond (decide (x1<((x0).length:Int)))
  (ck (bB x1 (x0).length) (cond (decide (v1=(0:UInt8)))
  (some [(.b true)])
  (Vp.l1 x0 v2)))
  (some [(.b false)])=ρ):Vp.l1 x0 x1=ρ:=((bU _ _ _ _ _ _ _).trans (by kernel_rfl)).trans (K _ rfl _ rfl)
theorem Vp.eJ (s:bz):Vp.F s=Vp.l1 s (0:Int):=by kernel_rfl
def cH.E:cC:=cT fQ zs []
def cH.h:Hint := .o
def cH.F (s:bz) (c:UInt8):OT:=cR PG cH.E 156 cH.sg cH.h [(.s s),(.u8 c)]
theorem cH.eJ (s:bz) (c:UInt8):cH.F s c=some [(.i .i64 (Lib.indexByte s c))]:=by kernel_rfl
def fi.E:cC:=cT fQ zs [(156,(cH.c,cH.sg))]
def fi.h:Hint := .o
def fi.F (s:bz) (t:bz):OT:=cR PG fi.E 138 fi.sg fi.h [(.s s),(.s t)]
theorem fi.bZ (s:bz) (t:bz) {ρ:OT} (K:∀(v1:Bool) (h1:v1=(cond (decide (((t).length:Int)=(0:Int))) true (decide (t=s)))) (v2:UInt8) (h2:v2=(List.getD t ((0:Int)).toNat (0:UInt8))),ck (!(!(decide (((t).length:Int)=(0:Int)))) || ((!(decide (((t).length:Int)=(0:Int))))&&(!(decide (((t).length:Int)=(0:Int)))))) (ck ((decide (((t).length:Int)=(0:Int))) || (!(decide (((t).length:Int)=(0:Int))))) (cond v1
  (some [(.i .i64 0)])
  (cond (decide (((t).length:Int)=(1:Int)))
  (ck (bB (0:Int) (t).length) (some [(.i .i64 (Lib.indexByte s v2))]))
  (cond (decide (((s).length:Int)≤((t).length:Int)))
  (some [(.i .i64 (-1))])
  (none)))))=ρ):fi.F s t=ρ:=Eq.trans (by kernel_rfl) (K _ rfl _ rfl)
def fh.E:cC:=cT fQ zs [(138,(fi.c,fi.sg))]
def fh.h:Hint := .o
def fh.F (s:bz) (t:bz):OT:=cR PG fh.E 111 fh.sg fh.h [(.s s),(.s t)]
theorem fh.bZ (s:bz) (t:bz) {ρ:OT} (K:∀(v1:Int) (h1:v1=(Lib.indexByte s (t.getD 0 0))),ck (decide (t.length=1)) (some [(.i .i64 v1)])=ρ):fh.F s t=ρ:=Eq.trans (by kernel_rfl) (K _ rfl)
def dv.E:cC:=cT fQ zs [(111,(fh.c,fh.sg))]
def dv.h:Hint := .o
def dv.F (s:bz) (t:bz):OT:=cR PG dv.E 82 dv.sg dv.h [(.s s),(.s t)]
theorem dv.bZ (s:bz) (t:bz) {ρ:OT} (K:∀(v1:Int) (h1:v1=(Lib.indexByte s (t.getD 0 0))),ck (decide (t.length=1)) (some [(.b (decide ((0:Int)≤v1)))])=ρ):dv.F s t=ρ:=Eq.trans (by kernel_rfl) (K _ rfl)
def fx.E:cC:=cT fQ zs []
def fx.h:Hint := .o
def fx.F (l:List Int):OT:=cR PG fx.E 47 fx.sg fx.h [(.sl .is l)]
theorem fx.eJ (l:List Int):fx.F l=cond (List.isEmpty l)
  (both (some [(.sl .is ([]:List Int)),(.sl .is l)]) (ck (fC ((([]:List Int)).length+(l).length) 8) (some [(.sl .is (([]:List Int)++l)),(.sl .is l)])))
  (ck (fC ((([]:List Int)).length+(l).length) 8) (some [(.sl .is (([]:List Int)++l)),(.sl .is l)])):=by kernel_rfl
def dY.E:cC:=cT fQ zs []
def dY.h:Hint := .o
def dY.F (k:Int):OT:=cR PG dY.E 46 dY.sg dY.h [(.i .i64 k)]
theorem dY.bZ (k:Int) {ρ:OT} (K:∀(v1:Bool) (h1:v1=(cond (decide (k<(0:Int))) true (decide ((20:Int)≤k)))) (v2:bz) (h2:v2=(List.getD [([]:bz),([100,111,117,98,108,101]:bz),([115,116,114,105,110,103]:bz),([100,111,99,117,109,101,110,116]:bz),([97,114,114,97,121]:bz),([98,105,110,97,114,121]:bz),([117,110,100,101,102,105,110,101,100]:bz),([111,98,106,101,99,116,105,100]:bz),([98,111,111,108]:bz),([100,97,116,101]:bz),([110,117,108,108]:bz),([114,101,103,101,120]:bz),([112,111,105,110,116,101,114]:bz),([99,111,100,101]:bz),([115,121,109,98,111,108]:bz),([115,99,111,112,101,100]:bz),([105,110,116,51,50]:bz),([116,105,109,101,115,116,97,109,112]:bz),([105,110,116,54,52]:bz),([100,101,99,105,109,97,108]:bz)] ((k).toNat) ([]:bz))),cond (decide (k=(127:Int)))
  (some [(.s ([109,97,120,107,101,121]:bz))])
  (cond (decide (k=(255:Int)))
  (some [(.s ([109,105,110,107,101,121]:bz))])
  (ck (!(!(decide (k<(0:Int)))) || (!(decide (k<(0:Int))))) (ck ((decide (k<(0:Int))) || (!(decide (k<(0:Int))))) (cond v1
  (some [(.s [])])
  (ck (bB k 20) (ck (decide ((k).toNat<20)) (some [(.s v2)])))))))=ρ):dY.F k=ρ:=Eq.trans (by kernel_rfl) (K _ rfl _ rfl)
def bx.E:cC:=cT fQ zs []
def bx.h:Hint := .s .o (.s .o (.j [(1,.ptr 116 0),(3,.no),(116,.cl [])] (.s .o (.b (.j [(1,.ptr 116 0),(3,.no),(5,.no),(6,.no),(116,.cl [])] .o (.s .o (.s .o (.s .o (.s .o (.s .o (.s .o (.s .o (.j [(1,.ptr 116 0),(3,.no),(5,.no),(28,.no),(116,.cl [])] .o (.s .o (.s .o (.s .o (.s .o (.s .o (.s .o (.s .o (.s .o (.s .o (.j [(1,.ptr 116 0),(3,.no),(5,.no),(64,.no),(116,.cl [])] .o .o))))))))))))))))))))) .o))
def bx.F (v:Val):OT:=cR PG bx.E 48 bx.sg bx.h [(.ag (Val.cells v))]
def bx.j1 (x0:Bool) (x1:Int) (x2:Bool) (x3:Val):OT:=eD PG bx.E 48 bx.sg bx.h 43 [.pt,(.b x0),(.i .i64 x1),(.b x2),(.ag (Val.cells x3))]
def bx.j2 (x0:Bool) (x1:Val):OT:=eD PG bx.E 48 bx.sg bx.h 7 [.pt,(.b x0),(.ag (Val.cells x1))]
def bx.j3 (x0:Bool) (x1:Int) (x2:Bool) (x3:Val):OT:=eD PG bx.E 48 bx.sg bx.h 16363 [.pt,(.b x0),(.i .i64 x1),(.b x2),(.ag (Val.cells x3))]
def bx.j4 (x0:Bool) (x1:Int) (x2:Bool) (x3:Val):OT:=eD PG bx.E 48 bx.sg bx.h 16777195 [.pt,(.b x0),(.i .i64 x1),(.b x2),(.ag (Val.cells x3))]
theorem bx.lp (x0:Bool) (x1:Int) (x2:Bool) (x3:Val):bx.j1 x0 x1 x2 x3=cond x2
  (bx.j2 x0 (Val.mk (Val.kind x3) 0 (Val.high x3) (Val.low x3) (Val.text x3) (Val.more x3) (Val.sub x3) (Val.bytes x3) (Val.kids x3)))
  (cond (decide (x1=(16:Int)))
  (bx.j2 (decide ((Val.bits x3)<(4294967296:UInt64))) (Val.mk (Val.kind x3) 0 (Val.high x3) (Val.low x3) (Val.text x3) (Val.more x3) (Val.sub x3) (Val.bytes x3) (Val.kids x3)))
  (cond (decide (x1=(8:Int)))
  (bx.j2 (decide ((Val.bits x3)<(2:UInt64))) (Val.mk (Val.kind x3) 0 (Val.high x3) (Val.low x3) (Val.text x3) (Val.more x3) (Val.sub x3) (Val.bytes x3) (Val.kids x3)))
  (cond (decide (x1=(19:Int)))
  (bx.j2 x0 (Val.mk (Val.kind x3) (Val.bits x3) 0 0 (Val.text x3) (Val.more x3) (Val.sub x3) (Val.bytes x3) (Val.kids x3)))
  (cond (decide (x1=(2:Int)))
  (bx.j3 x0 x1 (decide (x1=(2:Int))) x3)
  (cond (decide (x1=(13:Int)))
  (bx.j3 x0 x1 (decide (x1=(13:Int))) x3)
  (bx.j3 x0 x1 (decide (x1=(14:Int))) x3)))))):=((b9 _ _ _ _ _ _ _).trans (by kernel_rfl))
theorem bx.jg (x0:Bool) (x1:Val) {ρ:OT} (K:∀(v1:Bool) (h1:v1=(cond x0 (decide ((Val.bits x1)=(0:UInt64))) false)) (v2:Bool) (h2:v2=(cond v1 (decide ((Val.high x1)=(0:UInt64))) false)) (v3:Bool) (h3:v3=(cond v2 (decide ((Val.low x1)=(0:UInt64))) false)) (v4:Bool) (h4:v4=(cond v3 (decide ((Val.text x1)=([]:bz))) false)) (v5:Bool) (h5:v5=(cond v4 (decide ((Val.more x1)=([]:bz))) false)) (v6:Bool) (h6:v6=(cond v5 (decide ((Val.sub x1)=(0:Int))) false)) (v7:Int) (h7:v7=(((Val.bytes x1)).length:Int)) (v8:Bool) (h8:v8=(cond v6 (decide (v7=(0:Int))) false)) (v9:Int) (h9:v9=(((Val.kids x1)).length:Int)) (v10:Bool) (iA:v10=(cond v8 (decide (v9=(0:Int))) false)),ck (!x0 || x0) (ck (!x0 || x0) (ck (!x0 || x0) (ck (!v1 || v1) (ck (!v1 || v1) (ck (!v1 || v1) (ck (!v2 || v2) (ck (!v2 || v2) (ck (!v2 || v2) (ck (!v3 || v3) (ck (!v3 || v3) (ck (!v3 || v3) (ck (!v4 || v4) (ck (!v4 || v4) (ck (!v4 || v4) (ck (!v5 || v5) (ck (!v5 || v5) (ck (!v5 || v5) (ck (!v6 || v6) (ck (!v6 || v6) (ck (!v6 || v6) (ck (!v6 || v6) (ck (!v8 || v8) (ck (!v8 || v8) (ck (!v8 || v8) (ck (!v8 || v8) (some [(.b v10)]))))))))))))))))))))))))))=ρ):bx.j2 x0 x1=ρ:=((b9 _ _ _ _ _ _ _).trans (by kernel_rfl)).trans (K _ rfl _ rfl _ rfl _ rfl _ rfl _ rfl _ rfl _ rfl _ rfl _ rfl)
theorem bx.oY (x0:Bool) (x1:Int) (x2:Bool) (x3:Val) {ρ:OT} (K:∀(v1:Bool) (h1:v1=(cond (decide ((0:Int)≤(Val.sub x3))) (decide ((Val.sub x3)≤(255:Int))) false)) (v2:Int) (h2:v2=(((Val.bytes x3)).length:Int)),cond x2
  (bx.j2 x0 (Val.mk (Val.kind x3) (Val.bits x3) (Val.high x3) (Val.low x3) [] (Val.more x3) (Val.sub x3) (Val.bytes x3) (Val.kids x3)))
  (cond (decide (x1=(11:Int)))
  (bx.j2 x0 (Val.mk (Val.kind x3) (Val.bits x3) (Val.high x3) (Val.low x3) [] [] (Val.sub x3) (Val.bytes x3) (Val.kids x3)))
  (cond (decide (x1=(5:Int)))
  (ck (!(decide ((0:Int)≤(Val.sub x3))) || (decide ((0:Int)≤(Val.sub x3)))) (ck (!(decide ((0:Int)≤(Val.sub x3))) || (decide ((0:Int)≤(Val.sub x3)))) (ck (!(decide ((0:Int)≤(Val.sub x3))) || (decide ((0:Int)≤(Val.sub x3)))) (bx.j2 v1 (Val.mk (Val.kind x3) (Val.bits x3) (Val.high x3) (Val.low x3) (Val.text x3) (Val.more x3) 0 [] (Val.kids x3))))))
  (cond (decide (x1=(7:Int)))
  (bx.j2 (decide (v2=(12:Int))) (Val.mk (Val.kind x3) (Val.bits x3) (Val.high x3) (Val.low x3) (Val.text x3) (Val.more x3) (Val.sub x3) [] (Val.kids x3)))
  (cond (decide (x1=(12:Int)))
  (bx.j2 (decide (v2=(12:Int))) (Val.mk (Val.kind x3) (Val.bits x3) (Val.high x3) (Val.low x3) [] (Val.more x3) (Val.sub x3) [] (Val.kids x3)))
  (cond (decide (x1=(3:Int)))
  (bx.j4 x0 x1 (decide (x1=(3:Int))) x3)
  (bx.j4 x0 x1 (decide (x1=(4:Int))) x3))))))=ρ):bx.j3 x0 x1 x2 x3=ρ:=((b9 _ _ _ _ _ _ _).trans (by kernel_rfl)).trans (K _ rfl _ rfl)
theorem bx.uy (x0:Bool) (x1:Int) (x2:Bool) (x3:Val):bx.j4 x0 x1 x2 x3=cond x2
  (bx.j2 x0 (Val.mk (Val.kind x3) (Val.bits x3) (Val.high x3) (Val.low x3) (Val.text x3) (Val.more x3) (Val.sub x3) (Val.bytes x3) []))
  (cond (decide (x1=(15:Int)))
  (bx.j2 x0 (Val.mk (Val.kind x3) (Val.bits x3) (Val.high x3) (Val.low x3) [] (Val.more x3) (Val.sub x3) (Val.bytes x3) []))
  (bx.j2 x0 x3)):=((b9 _ _ _ _ _ _ _).trans (by kernel_rfl))
theorem bx.eJ (v:Val):bx.F v=cond (decide ((Val.kind v)=(1:Int)))
  (bx.j1 true (Val.kind v) (decide ((Val.kind v)=(1:Int))) v)
  (cond (decide ((Val.kind v)=(9:Int)))
  (bx.j1 true (Val.kind v) (decide ((Val.kind v)=(9:Int))) v)
  (cond (decide ((Val.kind v)=(17:Int)))
  (bx.j1 true (Val.kind v) (decide ((Val.kind v)=(17:Int))) v)
  (bx.j1 true (Val.kind v) (decide ((Val.kind v)=(18:Int))) v))):=by kernel_rfl
def dG.E:cC:=cT fQ zs [(81,(dJ.c,dJ.sg)),(82,(dv.c,dv.sg))]
def dG.h:Hint := .o
def dG.F (s:bz) (plain:Bool):OT:=cR PG dG.E 49 dG.sg dG.h [(.s s),(.b plain)]
theorem dG.bZ (s:bz) (plain:Bool) {ρ:OT} (K:∀(v1:Bool) (h1:v1=(cond plain (decide (0≤Lib.indexByte s ((([0]:bz)).getD 0 0))) false)) (v2:Bool) (h2:v2=(cond (fy.whole s) (!v1) false)),ck (qT (s).length) (ck (decide (s.length≤1099511627776)) (ck (!(fy.whole s) || (fy.whole s)) (ck (!((fy.whole s)&&plain) || (((fy.whole s)&&plain)&&(decide ((([0]:bz)).length=1)))) (ck (!(fy.whole s) || ((fy.whole s)&&(!plain || ((fy.whole s)&&plain)))) (ck (!(fy.whole s) || (fy.whole s)) (ck (!(fy.whole s) || (fy.whole s)) (some [(.b v2)])))))))=ρ):dG.F s plain=ρ:=Eq.trans (by kernel_rfl) (K _ rfl _ rfl)
def bR.E (n:Nat):cC:=cT fQ zs [(35,(bR.cn n,bR.sg)),(46,(dY.c,dY.sg)),(47,(fx.c,fx.sg)),(48,(bx.c,bx.sg)),(49,(dG.c,dG.sg))] [139]
def bR.h:Hint := .s .o (.s .o (.s .o (.s (.s .o (.b (.l [(2,.fA 1000002),(50,.no),(51,.no),(52,.no),(1000002,.pv)] .o))) .o)))
def bR.F (n:Nat) (v:Val) (name:bz) (path:List Int):OT:=cR PG (bR.E n) 35 bR.sg bR.h [(.ag (Val.cells v)),(.s name),(.sl .is path)]
def bR.l1 (n:Nat) (x0:List bJ) (x1:Int) (x2:Int) (x3:List Int):OT:=dQ PG (bR.E n) 35 bR.sg bR.h 87 [.pt,(.sl .fl x0),(.i .i64 x1),(.i .i64 x2),(.sl .is x3)]
theorem bR.bV (n:Nat) (x0:List bJ) (x1:Int) (x2:Int) (x3:List Int) {ρ:OT} (K:∀(v1:bJ) (h1:v1=(List.getD x0 (x2).toNat (fe.gk .fl))) (v2:List Int) (h2:v2=((Tree.iT (bJ.of ((bJ.name v1)) (bJ.val v1)) ((x3++([x2]:List Int)))).1)) (v3:Int) (h3:v3=((Tree.iT (bJ.of ((bJ.name v1)) (bJ.val v1)) ((x3++([x2]:List Int)))).2)) (v4:Int) (h4:v4=(IntKind.i64.wrap (x2+(1:Int)))),cond (decide (x2<x1))
  (ck (bB x2 (x0).length) (ck (fC ((x3).length+(([x2]:List Int)).length) 8) (ck ((decide (bJ.bO (bJ.of ((bJ.name v1)) (bJ.val v1))+((x3++([x2]:List Int))).length≤1099511627776))&&decide ((bJ.bO (bJ.of ((bJ.name v1)) (bJ.val v1)))<n)) (cond (!decide (v3=(0:Int)))
  (some [(.sl .is v2),(.i .i64 v3),(.sl .is x3)])
  (bR.l1 n x0 x1 v4 x3)))))
  (some [(.sl .is ([]:List Int)),(.i .i64 0),(.sl .is x3)])=ρ):bR.l1 n x0 x1 x2 x3=ρ:=((bU _ _ _ _ _ _ _).trans (by kernel_rfl)).trans (K _ rfl _ rfl _ rfl _ rfl)
theorem bR.bZ (n:Nat) (v:Val) (name:bz) (path:List Int) {ρ:OT} (K:∀(v1:Bool) (h1:v1=(Tree.gH ((Val.text v)) ((decide ((Val.kind v)=(11:Int)))))) (v2:Bool) (h2:v2=(Tree.gH ((Val.more v)) ((decide ((Val.kind v)=(11:Int)))))) (v3:Bool) (h3:v3=(cond (cond (!v1) true (!v2)) true (!(Tree.gH name true)))) (v4:Int) (h4:v4=(((Val.kids v)).length:Int)),cond (decide ((Tree.name ((Val.kind v)))=([]:bz)))
  (ck (fC (path).length 8) (some [(.sl .is (path)),(.i .i64 5),(.sl .is path)]))
  (cond (!(Tree.j7 v))
  (ck (fC (path).length 8) (some [(.sl .is (path)),(.i .i64 1),(.sl .is path)]))
  (ck (decide (((Val.text v)).length≤1099511627776)) (ck (!(!(!v1)) || (!(!v1))) (ck (!(!(!v1)) || (((!(!v1))&&(!(!v1)))&&(decide (((Val.more v)).length≤1099511627776)))) (ck (!(!(!v1)) || (!(!v1))) (ck ((!v1) || (!(!v1))) (ck (!(!(cond (!v1) true (!v2))) || ((!(cond (!v1) true (!v2)))&&(decide (name.length≤1099511627776)))) (ck (!(!(cond (!v1) true (!v2))) || (!(cond (!v1) true (!v2)))) (ck ((cond (!v1) true (!v2)) || (!(cond (!v1) true (!v2)))) (cond v3
  (ck (fC (path).length 8) (some [(.sl .is (path)),(.i .i64 4),(.sl .is path)]))
  (bR.l1 n (Val.kids v) v4 (0:Int) path)))))))))))=ρ):bR.F n v name path=ρ:=Eq.trans (by kernel_rfl) (K _ rfl _ rfl _ rfl _ rfl)
def dH.E:cC:=cT fQ zs [(35,(bR.c,bR.sg))]
def dH.h:Hint := .o
def dH.F (v:Val):OT:=cR PG dH.E 20 dH.sg dH.h [(.ag (Val.cells v))]
theorem dH.bZ (v:Val) {ρ:OT} (K:∀(v1:List Int) (h1:v1=((Tree.iT (bJ.of (([]:bz)) v) (([]:List Int))).1)) (v2:Int) (h2:v2=((Tree.iT (bJ.of (([]:bz)) v) (([]:List Int))).2)),ck (decide (bJ.bO (bJ.of (([]:bz)) v)+(([]:List Int)).length≤1099511627776)) (some [(.sl .is v1),(.i .i64 v2)])=ρ):dH.F v=ρ:=Eq.trans (by kernel_rfl) (K _ rfl _ rfl)
def Vz.E:cC:=cT fQ zs []
def Vz.h:Hint := .o
def Vz.F  : OT:=cR PG Vz.E 121 Vz.sg Vz.h []
theorem Vz.bZ  {ρ:OT} (K:∀(v1:List Int) (h1:v1=([(1:Int),(2:Int),(3:Int),(4:Int),(5:Int),(6:Int),(7:Int),(8:Int),(9:Int),(10:Int),(11:Int),(12:Int),(13:Int),(14:Int),(15:Int),(16:Int),(17:Int),(18:Int),(19:Int),(127:Int),(255:Int)]:List Int)),some [(.sl .is v1)]=ρ):Vz.F  = ρ:=Eq.trans (by kernel_rfl) (K _ rfl)
def Vo.E:cC:=cT fQ zs [(121,(Vz.c,Vz.sg))]
def Vo.h:Hint := .s .o (.s .o (.s .o (.s (.s .o (.b (.l [(0,.no),(3,.fA 800000),(800000,.pv),(4,.no),(5,.no)] .o))) .o)))
def Vo.F (k:Int):OT:=cR PG Vo.E 92 Vo.sg Vo.h [(.i .i64 k)]
def Vo.l1 (x0:Int) (x1:List bz) (x2:List Int) (x3:Int):OT:=dQ PG Vo.E 92 Vo.sg Vo.h 87 [(.i .i64 x0),.pt,(.sl .ss x1),(.sl .is x2),(.i .i64 x3)]
theorem Vo.bV (x0:Int) (x1:List bz) (x2:List Int) (x3:Int) {ρ:OT} (K:∀(v1:Int) (h1:v1=(List.getD x2 (x3).toNat (0:Int))) (v2:bz) (h2:v2=(List.getD x1 ((x3).toNat) ([]:bz))) (v3:Int) (h3:v3=(IntKind.i64.wrap (x3+(1:Int)))),cond (decide (x3<((x2).length:Int)))
  (ck (bB x3 (x2).length) (cond (decide (v1=x0))
  (ck (bB x3 (x1).length) (ck (decide ((x3).toNat<(x1).length)) (some [(.s v2)])))
  (Vo.l1 x0 x1 x2 v3)))
  (some [(.s [])])=ρ):Vo.l1 x0 x1 x2 x3=ρ:=((bU _ _ _ _ _ _ _).trans (by kernel_rfl)).trans (K _ rfl _ rfl _ rfl)
theorem Vo.bZ (k:Int) {ρ:OT} (K:∀(v1:List bz) (h1:v1=([([100,111,117,98,108,101]:bz),([115,116,114,105,110,103]:bz),([100,111,99,117,109,101,110,116]:bz),([97,114,114,97,121]:bz),([98,105,110,97,114,121]:bz),([117,110,100,101,102,105,110,101,100]:bz),([111,98,106,101,99,116,105,100]:bz),([98,111,111,108]:bz),([100,97,116,101]:bz),([110,117,108,108]:bz),([114,101,103,101,120]:bz),([112,111,105,110,116,101,114]:bz),([99,111,100,101]:bz),([115,121,109,98,111,108]:bz),([115,99,111,112,101,100]:bz),([105,110,116,51,50]:bz),([116,105,109,101,115,116,97,109,112]:bz),([105,110,116,54,52]:bz),([100,101,99,105,109,97,108]:bz),([109,97,120,107,101,121]:bz),([109,105,110,107,101,121]:bz)]:List bz)),Vo.l1 k v1 (Tree.kinds) (0:Int)=ρ):Vo.F k=ρ:=Eq.trans (by kernel_rfl) (K _ rfl)
def pd.E:cC:=cT fQ zs []
def pd.h:Hint := .s .o (.j (sc [2,3,4,5,6,7,8]) (.s .o (.b (.j (sc [2,3,4,5,6,7,8,9,10]) .o (.s .o (.s .o (.s .o (.j (sc [2,3,4,5,6,7,8,9,19]) .o (.s .o (.s .o (.s .o (.s .o (.s .o (.s .o (.s .o (.s .o (.s .o (.j (sc [2,3,4,5,6,7,8,9,31]) .o .o))))))))))))))))) .o)
def pd.F (k:Int):OT:=cR PG pd.E 93 pd.sg pd.h [(.i .i64 k)]
def pd.j1 (x0:Bool) (x1:Bool) (x2:Bool) (x3:Bool) (x4:Bool) (x5:Bool) (x6:Bool) (x7:Int) (x8:Bool):OT:=eD PG pd.E 93 pd.sg pd.h 21 [(.b x0),(.b x1),(.b x2),(.b x3),(.b x4),(.b x5),(.b x6),(.i .i64 x7),(.b x8)]
def pd.j2 (x0:Bool) (x1:Bool) (x2:Bool) (x3:Bool) (x4:Bool) (x5:Bool) (x6:Bool):OT:=eD PG pd.E 93 pd.sg pd.h 3 [(.b x0),(.b x1),(.b x2),(.b x3),(.b x4),(.b x5),(.b x6)]
def pd.j3 (x0:Bool) (x1:Bool) (x2:Bool) (x3:Bool) (x4:Bool) (x5:Bool) (x6:Bool) (x7:Int) (x8:Bool):OT:=eD PG pd.E 93 pd.sg pd.h 501 [(.b x0),(.b x1),(.b x2),(.b x3),(.b x4),(.b x5),(.b x6),(.i .i64 x7),(.b x8)]
def pd.j4 (x0:Bool) (x1:Bool) (x2:Bool) (x3:Bool) (x4:Bool) (x5:Bool) (x6:Bool) (x7:Int) (x8:Bool):OT:=eD PG pd.E 93 pd.sg pd.h 524277 [(.b x0),(.b x1),(.b x2),(.b x3),(.b x4),(.b x5),(.b x6),(.i .i64 x7),(.b x8)]
theorem pd.lp (x0:Bool) (x1:Bool) (x2:Bool) (x3:Bool) (x4:Bool) (x5:Bool) (x6:Bool) (x7:Int) (x8:Bool):pd.j1 x0 x1 x2 x3 x4 x5 x6 x7 x8=cond x8
  (pd.j2 true x1 x2 x3 x4 x5 x6)
  (cond (decide (x7=(19:Int)))
  (pd.j2 x0 true x2 x3 x4 x5 x6)
  (cond (decide (x7=(2:Int)))
  (pd.j3 x0 x1 x2 x3 x4 x5 x6 x7 (decide (x7=(2:Int))))
  (cond (decide (x7=(13:Int)))
  (pd.j3 x0 x1 x2 x3 x4 x5 x6 x7 (decide (x7=(13:Int))))
  (pd.j3 x0 x1 x2 x3 x4 x5 x6 x7 (decide (x7=(14:Int))))))):=((b9 _ _ _ _ _ _ _).trans (by kernel_rfl))
theorem pd.jZ (x0:Bool) (x1:Bool) (x2:Bool) (x3:Bool) (x4:Bool) (x5:Bool) (x6:Bool):pd.j2 x0 x1 x2 x3 x4 x5 x6=some [(.b x0),(.b x1),(.b x2),(.b x3),(.b x4),(.b x5),(.b x6)]:=((b9 _ _ _ _ _ _ _).trans (by kernel_rfl))
theorem pd.LC (x0:Bool) (x1:Bool) (x2:Bool) (x3:Bool) (x4:Bool) (x5:Bool) (x6:Bool) (x7:Int) (x8:Bool):pd.j3 x0 x1 x2 x3 x4 x5 x6 x7 x8=cond x8
  (pd.j2 x0 x1 true x3 x4 x5 x6)
  (cond (decide (x7=(11:Int)))
  (pd.j2 x0 x1 true true x4 x5 x6)
  (cond (decide (x7=(5:Int)))
  (pd.j2 x0 x1 x2 x3 true true x6)
  (cond (decide (x7=(7:Int)))
  (pd.j2 x0 x1 x2 x3 x4 true x6)
  (cond (decide (x7=(12:Int)))
  (pd.j2 x0 x1 true x3 x4 true x6)
  (cond (decide (x7=(3:Int)))
  (pd.j4 x0 x1 x2 x3 x4 x5 x6 x7 (decide (x7=(3:Int))))
  (pd.j4 x0 x1 x2 x3 x4 x5 x6 x7 (decide (x7=(4:Int))))))))):=((b9 _ _ _ _ _ _ _).trans (by kernel_rfl))
theorem pd.uy (x0:Bool) (x1:Bool) (x2:Bool) (x3:Bool) (x4:Bool) (x5:Bool) (x6:Bool) (x7:Int) (x8:Bool):pd.j4 x0 x1 x2 x3 x4 x5 x6 x7 x8=cond x8
  (pd.j2 x0 x1 x2 x3 x4 x5 true)
  (cond (decide (x7=(15:Int)))
  (pd.j2 x0 x1 true x3 x4 x5 true)
  (pd.j2 x0 x1 x2 x3 x4 x5 x6)):=((b9 _ _ _ _ _ _ _).trans (by kernel_rfl))
theorem pd.eJ (k:Int):pd.F k=cond (decide (k=(1:Int)))
  (pd.j1 false false false false false false false k (decide (k=(1:Int))))
  (cond (decide (k=(9:Int)))
  (pd.j1 false false false false false false false k (decide (k=(9:Int))))
  (cond (decide (k=(17:Int)))
  (pd.j1 false false false false false false false k (decide (k=(17:Int))))
  (cond (decide (k=(18:Int)))
  (pd.j1 false false false false false false false k (decide (k=(18:Int))))
  (cond (decide (k=(16:Int)))
  (pd.j1 false false false false false false false k (decide (k=(16:Int))))
  (pd.j1 false false false false false false false k (decide (k=(8:Int)))))))):=by kernel_rfl
def VE.E:cC:=cT fQ zs [(33,(Vv.c,Vv.sg)),(92,(Vo.c,Vo.sg)),(93,(pd.c,pd.sg)),(94,(Vp.c,Vp.sg))]
def VE.h:Hint := .o
def VE.F (v:Val):OT:=cR PG VE.E 58 VE.sg VE.h [(.ag (Val.cells v))]
theorem VE.bZ (v:Val) {ρ:OT} (K:∀(v1:Bool) (h1:v1=(!(Tree.xH 0 ((Val.kind v))))) (v2:Bool) (h2:v2=(cond v1 (!decide ((Val.bits v)=(0:UInt64))) false)) (v3:Bool) (h3:v3=(!(Tree.xH 1 ((Val.kind v))))) (v4:Bool) (h4:v4=(((!v2)&&v3)&&(!(!decide ((Val.high v)=(0:UInt64)))))) (v5:Bool) (h5:v5=(cond (!decide ((Val.high v)=(0:UInt64))) true (!decide ((Val.low v)=(0:UInt64))))) (v6:Bool) (h6:v6=(cond v2 true (cond v3 v5 false))) (v7:Bool) (h7:v7=(!(Tree.xH 2 ((Val.kind v))))) (v8:Bool) (h8:v8=(cond v7 (!decide ((Val.text v)=([]:bz))) false)) (v9:Bool) (h9:v9=(!(Tree.xH 3 ((Val.kind v))))) (v10:Bool) (iA:v10=(cond v9 (!decide ((Val.more v)=([]:bz))) false)) (v11:Bool) (ki:v11=(cond (cond v6 true v8) true v10)) (v12:Bool) (jE:v12=(!(Tree.xH 4 ((Val.kind v))))) (kW:Bool) (nY:kW=(cond v12 (!decide ((Val.sub v)=(0:Int))) false)) (jP:Bool) (pA:jP=(!(Tree.xH 5 ((Val.kind v))))) (iD:Bool) (o8:iD=((!(cond v11 true kW))&&jP)) (mS:Int) (tO:mS=(((Val.bytes v)).length:Int)) (nT:Bool) (xI:nT=(cond jP (decide ((0:Int)<mS)) false)) (lO:Bool) (wi:lO=(cond (cond v11 true kW) true nT)) (qJ:Bool) (BU:qJ=(!(Tree.xH 6 ((Val.kind v))))) (v20:Int) (zF:v20=(((Val.kids v)).length:Int)) (v21:Bool) (KS:v21=(cond qJ (decide ((0:Int)<v20)) false)) (v22:Bool) (KR:v22=(cond (decide ((Val.kind v)=(16:Int))) (decide ((4294967296:UInt64)≤(Val.bits v))) false)) (Yg:Bool) (ZP:Yg=((!v22)&&(decide ((Val.kind v)=(8:Int))))) (v24:Bool) (Tq:v24=(cond (decide ((Val.kind v)=(8:Int))) (decide ((1:UInt64)<(Val.bits v))) false)) (v25:Bool) (ZO:v25=(cond (cond v22 true v24) true (decide ((Val.sub v)<(0:Int))))) (Wq:Bool) (ZN:Wq=(cond v25 true (decide ((255:Int)<(Val.sub v))))) (v27:Bool) (ZS:v27=((!Wq)&&(!(decide ((Val.kind v)=(7:Int)))))) (v28:Bool) (ZM:v28=(cond (decide ((Val.kind v)=(7:Int))) true (decide ((Val.kind v)=(12:Int))))) (Yx:Bool) (ZC:Yx=(cond v28 (!decide (mS=(12:Int))) false)) (v30:Bool) (h30:v30=(!(fy.whole ((Val.text v))))) (v31:Bool) (h31:v31=(!(fy.whole ((Val.more v))))) (Yv:Bool) (h32:Yv=((!(cond v30 true v31))&&(decide ((Val.kind v)=(11:Int))))) (v33:Bool) (h33:v33=(Yv&&(!(fy.zero ((Val.text v)))))) (Z2:Bool) (h34:Z2=(cond (fy.zero ((Val.text v))) true (fy.zero ((Val.more v))))) (v35:Bool) (h35:v35=(cond (decide ((Val.kind v)=(11:Int))) Z2 false)) (v36:Bool) (h36:v36=(cond (cond v30 true v31) true v35)),cond (decide ((Tree.name ((Val.kind v)))=([]:bz)))
  (some [(.i .i64 5)])
  (ck (!v1 || v1) (ck (!v1 || v1) (ck (!v1 || v1) (ck (!(!v2) || (!v2)) (ck (!(!v2) || (!v2)) (ck (!((!v2)&&v3) || ((!v2)&&v3)) (ck (!((!v2)&&v3) || ((!v2)&&v3)) (ck (!((!v2)&&v3) || ((!v2)&&v3)) (ck (!v4 || v4) (ck (!v4 || v4) (ck (!((!v2)&&v3) || (((!v2)&&v3)&&((!decide ((Val.high v)=(0:UInt64))) || v4))) (ck (!(!v2) || ((!v2)&&(!v3 || ((!v2)&&v3)))) (ck (v2 || (!v2)) (ck (!(!v6) || (!v6)) (ck (!(!v6) || (!v6)) (ck (!((!v6)&&v7) || ((!v6)&&v7)) (ck (!((!v6)&&v7) || ((!v6)&&v7)) (ck (!(!v6) || ((!v6)&&(!v7 || ((!v6)&&v7)))) (ck (v6 || (!v6)) (ck (!(!(cond v6 true v8)) || (!(cond v6 true v8))) (ck (!(!(cond v6 true v8)) || (!(cond v6 true v8))) (ck (!((!(cond v6 true v8))&&v9) || ((!(cond v6 true v8))&&v9)) (ck (!((!(cond v6 true v8))&&v9) || ((!(cond v6 true v8))&&v9)) (ck (!(!(cond v6 true v8)) || ((!(cond v6 true v8))&&(!v9 || ((!(cond v6 true v8))&&v9)))) (ck ((cond v6 true v8) || (!(cond v6 true v8))) (ck (!(!v11) || (!v11)) (ck (!(!v11) || (!v11)) (ck (!((!v11)&&v12) || ((!v11)&&v12)) (ck (!((!v11)&&v12) || ((!v11)&&v12)) (ck (!(!v11) || ((!v11)&&(!v12 || ((!v11)&&v12)))) (ck (v11 || (!v11)) (ck (!(!(cond v11 true kW)) || (!(cond v11 true kW))) (ck (!(!(cond v11 true kW)) || (!(cond v11 true kW))) (ck (!iD || iD) (ck (!iD || iD) (ck (!iD || iD) (ck (!(!(cond v11 true kW)) || ((!(cond v11 true kW))&&(!jP || iD))) (ck ((cond v11 true kW) || (!(cond v11 true kW))) (ck (!(!lO) || (!lO)) (ck (!(!lO) || (!lO)) (ck (!((!lO)&&qJ) || ((!lO)&&qJ)) (ck (!((!lO)&&qJ) || ((!lO)&&qJ)) (ck (!((!lO)&&qJ) || ((!lO)&&qJ)) (ck (!(!lO) || ((!lO)&&(!qJ || ((!lO)&&qJ)))) (ck (lO || (!lO)) (cond (cond lO true v21)
  (some [(.i .i64 1)])
  (ck (!(decide ((Val.kind v)=(16:Int))) || (decide ((Val.kind v)=(16:Int)))) (ck (!(decide ((Val.kind v)=(16:Int))) || (decide ((Val.kind v)=(16:Int)))) (ck (!(decide ((Val.kind v)=(16:Int))) || (decide ((Val.kind v)=(16:Int)))) (ck (!(!v22) || (!v22)) (ck (!(!v22) || (!v22)) (ck (!(!v22) || (!v22)) (ck (!Yg || Yg) (ck (!Yg || Yg) (ck (!(!v22) || ((!v22)&&(!(decide ((Val.kind v)=(8:Int))) || Yg))) (ck (v22 || (!v22)) (ck (!(!(cond v22 true v24)) || (!(cond v22 true v24))) (ck (!(!(cond v22 true v24)) || (!(cond v22 true v24))) (ck ((cond v22 true v24) || (!(cond v22 true v24))) (ck (!(!v25) || (!v25)) (ck (!(!v25) || (!v25)) (ck (v25 || (!v25)) (ck (!(!Wq) || (!Wq)) (ck (!(!Wq) || (!Wq)) (ck (!(!Wq) || (!Wq)) (ck (!v27 || v27) (ck (!v27 || v27) (ck (!(!Wq) || ((!Wq)&&((decide ((Val.kind v)=(7:Int))) || v27))) (ck (!(!Wq) || (!Wq)) (ck (!((!Wq)&&v28) || ((!Wq)&&v28)) (ck (!((!Wq)&&v28) || ((!Wq)&&v28)) (ck (!((!Wq)&&v28) || ((!Wq)&&v28)) (ck (!(!Wq) || ((!Wq)&&(!v28 || ((!Wq)&&v28)))) (ck (Wq || (!Wq)) (cond (cond Wq true Yx)
  (some [(.i .i64 1)])
  (ck (decide (((Val.text v)).length≤1099511627776)) (ck (!(!v30) || (!v30)) (ck (!(!v30) || ((!v30)&&(decide (((Val.more v)).length≤1099511627776)))) (ck (!(!v30) || (!v30)) (ck (v30 || (!v30)) (ck (!(!(cond v30 true v31)) || (!(cond v30 true v31))) (ck (!(!(cond v30 true v31)) || (!(cond v30 true v31))) (ck (!(!(cond v30 true v31)) || (!(cond v30 true v31))) (ck (!Yv || Yv) (ck (!Yv || (Yv&&(decide (((Val.text v)).length≤1099511627776)))) (ck (!Yv || Yv) (ck (!v33 || v33) (ck (!v33 || (v33&&(decide (((Val.more v)).length≤1099511627776)))) (ck (!Yv || (Yv&&((fy.zero ((Val.text v))) || v33))) (ck (!(!(cond v30 true v31)) || ((!(cond v30 true v31))&&(!(decide ((Val.kind v)=(11:Int))) || Yv))) (ck ((cond v30 true v31) || (!(cond v30 true v31))) (cond v36
  (some [(.i .i64 4)])
  (some [(.i .i64 0)])))))))))))))))))))))))))))))))))))))))))))))))))))))))))))))))))))))))))))))))))))))))))))))=ρ):VE.F v=ρ:=Eq.trans (by kernel_rfl) (K _ rfl _ rfl _ rfl _ rfl _ rfl _ rfl _ rfl _ rfl _ rfl _ rfl _ rfl _ rfl _ rfl _ rfl _ rfl _ rfl _ rfl _ rfl _ rfl _ rfl _ rfl _ rfl _ rfl _ rfl _ rfl _ rfl _ rfl _ rfl _ rfl _ rfl _ rfl _ rfl _ rfl _ rfl _ rfl _ rfl)
def VA.E:cC:=cT fQ zs [(33,(Vv.c,Vv.sg)),(94,(Vp.c,Vp.sg))]
def VA.h:Hint := .o
def VA.F (s:bz):OT:=cR PG VA.E 59 VA.sg VA.h [(.s s)]
theorem VA.bZ (s:bz) {ρ:OT} (K:∀(v1:Bool) (h1:v1=(cond (fy.whole s) (!(fy.zero s)) false)),ck (decide (s.length≤1099511627776)) (ck (!(fy.whole s) || ((fy.whole s)&&(decide (s.length≤1099511627776)))) (ck (!(fy.whole s) || (fy.whole s)) (ck (!(fy.whole s) || (fy.whole s)) (some [(.b v1)]))))=ρ):VA.F s=ρ:=Eq.trans (by kernel_rfl) (K _ rfl)
def Vx.E:cC:=cT fQ zs []
def Vx.h:Hint := .o
def Vx.F (p:List Int) (k:Int):OT:=cR PG Vx.E 60 Vx.sg Vx.h [(.sl .is p),(.i .i64 k)]
theorem Vx.bZ (p:List Int) (k:Int) {ρ:OT} (K:∀(v1:List Int) (h1:v1=((([]:List Int)++p)++([k]:List Int))),ck (fC ((([]:List Int)).length+(p).length) 8) (ck (fC (((([]:List Int)++p)).length+(([k]:List Int)).length) 8) (some [(.sl .is v1)]))=ρ):Vx.F p k=ρ:=Eq.trans (by kernel_rfl) (K _ rfl)
end
end Go.Eng
set_option maxRecDepth 100000
namespace Go.Eng
open Go.Proofs
noncomputable section
def zn.E (n:Nat):cC:=cT fQ zs [(37,(zn.cn n,zn.sg)),(58,(VE.c,VE.sg)),(59,(VA.c,VA.sg)),(60,(Vx.c,Vx.sg))]
def zn.h:Hint := .s .o (.s .o (.j [(2,.no),(3,.ptr 58 0),(8,.no),(58,.cl [])] .o (.s .o (.s (.s .o (.b (.l [(2,.no),(3,.ptr 58 0),(9,.no),(58,.cl [])] .o))) .o))))
def zn.F (n:Nat) (v:Val) (name:bz) (p:List Int):OT:=cR PG (zn.E n) 37 zn.sg zn.h [(.ag (Val.cells v)),(.s name),(.sl .is p)]
def zn.j1 (n:Nat) (x0:List Int) (x1:Int) (x2:Val):OT:=eD PG (zn.E n) 37 zn.sg zn.h 7 [(.sl .is x0),.pt,(.i .i64 x1),(.ag (Val.cells x2))]
def zn.l2 (n:Nat) (x0:List Int) (x1:Int) (x2:Val):OT:=dQ PG (zn.E n) 37 zn.sg zn.h 175 [(.sl .is x0),.pt,(.i .i64 x1),(.ag (Val.cells x2))]
theorem zn.lp (n:Nat) (x0:List Int) (x1:Int) (x2:Val):zn.j1 n x0 x1 x2=cond (!decide (x1=(0:Int)))
  (some [(.sl .is x0),(.i .i64 x1)])
  (zn.l2 n x0 (0:Int) x2):=((b9 _ _ _ _ _ _ _).trans (by kernel_rfl))
theorem zn.iw (n:Nat) (x0:List Int) (x1:Int) (x2:Val) {ρ:OT} (K:∀(v1:Int) (h1:v1=(((Val.kids x2)).length:Int)) (v2:bJ) (h2:v2=(List.getD (Val.kids x2) (x1).toNat (fe.gk .fl))) (v3:List Int) (h3:v3=((Tree.iT (bJ.of ((bJ.name v2)) (bJ.val v2)) (((x0++[x1])))).1)) (v4:Int) (h4:v4=((Tree.iT (bJ.of ((bJ.name v2)) (bJ.val v2)) (((x0++[x1])))).2)) (v5:Int) (h5:v5=(IntKind.i64.wrap (x1+(1:Int)))),cond (decide (x1<v1))
  (ck (bB x1 ((Val.kids x2)).length) (ck (bB x1 ((Val.kids x2)).length) (ck (decide (x0.length≤1099511627776)) (ck ((decide (bJ.bO (bJ.of ((bJ.name v2)) (bJ.val v2))+(((x0++[x1]))).length≤1099511627776))&&decide ((bJ.bO (bJ.of ((bJ.name v2)) (bJ.val v2)))<n)) (cond (!decide (v4=(0:Int)))
  (some [(.sl .is v3),(.i .i64 v4)])
  (zn.l2 n x0 v5 x2))))))
  (some [(.sl .is ([]:List Int)),(.i .i64 0)])=ρ):zn.l2 n x0 x1 x2=ρ:=((bU _ _ _ _ _ _ _).trans (by kernel_rfl)).trans (K _ rfl _ rfl _ rfl _ rfl _ rfl)
theorem zn.bZ (n:Nat) (v:Val) (name:bz) (p:List Int) {ρ:OT} (K:∀(v1:Bool) (h1:v1=(cond (decide ((Tree.own v)=(0:Int))) (!(Tree.gH name true)) false)),ck (decide (bJ.bO (bJ.of [] v)≤1099511627776)) (ck (!(decide ((Tree.own v)=(0:Int))) || ((decide ((Tree.own v)=(0:Int)))&&(decide (name.length≤1099511627776)))) (ck (!(decide ((Tree.own v)=(0:Int))) || (decide ((Tree.own v)=(0:Int)))) (ck (!(decide ((Tree.own v)=(0:Int))) || (decide ((Tree.own v)=(0:Int)))) (cond v1
  (zn.j1 n p (4:Int) v)
  (zn.j1 n p (Tree.own v) v)))))=ρ):zn.F n v name p=ρ:=Eq.trans (by kernel_rfl) (K _ rfl)
def cL.E:cC:=cT fQ zs []
def cL.h:Hint := .s .o (.s (.s .o (.b (.l (sc [0,1,5]) .o))) .o)
def cL.F (left:Int) (iF:List Int):OT:=cR PG cL.E 34 cL.sg cL.h [(.i .i64 left),(.sl .is iF)]
def cL.l1 (x0:Int) (x1:List Int) (x2:Int):OT:=dQ PG cL.E 34 cL.sg cL.h 21 [(.i .i64 x0),(.sl .is x1),(.i .i64 x2)]
theorem cL.bV (x0:Int) (x1:List Int) (x2:Int) {ρ:OT} (K:∀(v1:Int) (h1:v1=(List.getD x1 (x2).toNat (0:Int))) (v2:Bool) (h2:v2=(cond (decide (x0<(0:Int))) true (decide (x0<v1)))) (v3:Int) (h3:v3=(IntKind.i64.wrap (x2+(1:Int)))),cond (decide (x2<((x1).length:Int)))
  (ck (!(!(decide (x0<(0:Int)))) || (((!(decide (x0<(0:Int))))&&(!(decide (x0<(0:Int)))))&&(bB x2 (x1).length))) (ck (!(!(decide (x0<(0:Int)))) || (!(decide (x0<(0:Int))))) (ck (!(!(decide (x0<(0:Int)))) || ((!(decide (x0<(0:Int))))&&(!(decide (x0<(0:Int)))))) (ck ((decide (x0<(0:Int))) || (!(decide (x0<(0:Int))))) (cond v2
  (some [(.i .i64 (-1))])
  (ck (bB x2 (x1).length) (cL.l1 (IntKind.i64.wrap (x0 - v1)) x1 v3)))))))
  (some [(.i .i64 x0)])=ρ):cL.l1 x0 x1 x2=ρ:=((bU _ _ _ _ _ _ _).trans (by kernel_rfl)).trans (K _ rfl _ rfl _ rfl)
theorem cL.eJ (left:Int) (iF:List Int):cL.F left iF=cL.l1 left iF (0:Int):=by kernel_rfl
def bS.E (n:Nat):cC:=cT fQ zs [(19,(bS.cn n,bS.sg)),(34,(cL.c,cL.sg))]
def bS.h:Hint := .s .o (.s .o (.s (.s .o (.b (.l [(0,.no),(3,.ptr 50 0),(5,.no),(50,.cl [])] .o))) .o))
def bS.F (n:Nat) (left:Int) (v:Val):OT:=cR PG (bS.E n) 19 bS.sg bS.h [(.i .i64 left),(.ag (Val.cells v))]
def bS.l1 (n:Nat) (x0:Int) (x1:Int) (x2:Val):OT:=dQ PG (bS.E n) 19 bS.sg bS.h 43 [(.i .i64 x0),.pt,(.i .i64 x1),(.ag (Val.cells x2))]
theorem bS.bV (n:Nat) (x0:Int) (x1:Int) (x2:Val) {ρ:OT} (K:∀(v1:Int) (h1:v1=(((Val.kids x2)).length:Int)) (v2:Bool) (h2:v2=(cond (decide (x1<v1)) (decide ((0:Int)≤x0)) false)) (v3:bJ) (h3:v3=(List.getD (Val.kids x2) (x1).toNat (fe.gk .fl))) (v4:Int) (h4:v4=(((bJ.name v3)).length:Int)) (v5:Int) (h5:v5=(eU.room x0 (([v4]:List Int)))) (v6:Int) (h6:v6=(eU.value v5 (bJ.of [] (bJ.val v3)))) (v7:Int) (h7:v7=(IntKind.i64.wrap (x1+(1:Int)))),ck (!(decide (x1<v1)) || (decide (x1<v1))) (ck (!(decide (x1<v1)) || (decide (x1<v1))) (cond v2
  (ck (bB x1 ((Val.kids x2)).length) (ck (decide (x0≤1200∧(([v4]:List Int)).length≤10)&&(([v4]:List Int)).all (fun s=>decide (0≤s))) (ck (bB x1 ((Val.kids x2)).length) (ck ((decide (v5≤1200))&&decide ((bJ.bO (bJ.of [] (bJ.val v3)))<n)) (bS.l1 n v6 v7 x2)))))
  (some [(.i .i64 x0)])))=ρ):bS.l1 n x0 x1 x2=ρ:=((bU _ _ _ _ _ _ _).trans (by kernel_rfl)).trans (K _ rfl _ rfl _ rfl _ rfl _ rfl _ rfl _ rfl)
theorem bS.bZ (n:Nat) (left:Int) (v:Val) {ρ:OT} (K:∀(v1:Int) (h1:v1=(((Val.text v)).length:Int)) (v2:Int) (h2:v2=(((Val.more v)).length:Int)) (v3:Int) (h3:v3=(((Val.bytes v)).length:Int)) (v4:List Int) (h4:v4=([(2:Int),v1,v2,v3]:List Int)),ck (decide (left≤1200∧v4.length≤10)&&v4.all (fun s=>decide (0≤s))) (bS.l1 n (eU.room left v4) (0:Int) v)=ρ):bS.F n left v=ρ:=Eq.trans (by kernel_rfl) (K _ rfl _ rfl _ rfl _ rfl)
def dI.E:cC:=cT fQ zs [(19,(bS.c,bS.sg))]
def dI.h:Hint := .o
def dI.F (v:Val):OT:=cR PG dI.E 8 dI.sg dI.h [(.ag (Val.cells v))]
theorem dI.bZ (v:Val) {ρ:OT} (K:∀(v1:Int) (h1:v1=(eU.value ((1200:Int)) (bJ.of [] v))),ck (decide (((1200:Int))≤1200)) (some [(.b (decide ((0:Int)≤v1)))])=ρ):dI.F v=ρ:=Eq.trans (by kernel_rfl) (K _ rfl)
def VC.E:cC:=cT fQ zs []
def VC.h:Hint := .o
def VC.F (k:Int):OT:=cR PG VC.E 28 VC.sg VC.h [(.i .i64 k)]
theorem VC.bZ (k:Int) {ρ:OT} (K:∀(v1:Bool) (h1:v1=(cond (decide (k=(3:Int))) true (decide (k=(4:Int))))) (v2:Bool) (h2:v2=(cond v1 true (decide (k=(15:Int))))),ck (!(!(decide (k=(3:Int)))) || (!(decide (k=(3:Int))))) (ck ((decide (k=(3:Int))) || (!(decide (k=(3:Int))))) (ck (!(!v1) || (!v1)) (ck (v1 || (!v1)) (some [(.b v2)]))))=ρ):VC.F k=ρ:=Eq.trans (by kernel_rfl) (K _ rfl _ rfl)
def Ve.E (n:Nat):cC:=cT fQ zs [(16,(Ve.cn n,Ve.sg)),(28,(VC.c,VC.sg))]
def Ve.h:Hint := .s .o (.s .o (.s .o (.s (.s .o (.b (.l [(1,.ptr 28 0),(3,.no),(4,.no),(28,.cl [])] .o))) .o)))
def Ve.F (n:Nat) (v:Val):OT:=cR PG (Ve.E n) 16 Ve.sg Ve.h [(.ag (Val.cells v))]
def Ve.l1 (n:Nat) (x0:Int) (x1:Int) (x2:Val):OT:=dQ PG (Ve.E n) 16 Ve.sg Ve.h 87 [.pt,(.i .i64 x0),(.i .i64 x1),(.ag (Val.cells x2))]
theorem Ve.bV (n:Nat) (x0:Int) (x1:Int) (x2:Val) {ρ:OT} (K:∀(v1:Int) (h1:v1=(((Val.kids x2)).length:Int)) (v2:bJ) (h2:v2=(List.getD (Val.kids x2) (x1).toNat (fe.gk .fl))) (v3:Int) (h3:v3=((Tree.depth (bJ.of [] (bJ.val v2)):Int))) (v4:Int) (h4:v4=(IntKind.i64.wrap (x1+(1:Int)))) (v5:Int) (h5:v5=(IntKind.i64.wrap (x0+(1:Int)))),cond (decide (x1<v1))
  (ck (bB x1 ((Val.kids x2)).length) (ck ((decide (bJ.bO (bJ.of [] (bJ.val v2))≤1099511627776))&&decide ((bJ.bO (bJ.of [] (bJ.val v2)))<n)) (Ve.l1 n (mL x0 v3) v4 x2)))
  (some [(.i .i64 v5)])=ρ):Ve.l1 n x0 x1 x2=ρ:=((bU _ _ _ _ _ _ _).trans (by kernel_rfl)).trans (K _ rfl _ rfl _ rfl _ rfl _ rfl)
theorem Ve.eJ (n:Nat) (v:Val):Ve.F n v=cond (!(decide (((Val.kind v))=3∨((Val.kind v))=4∨((Val.kind v))=15)))
  (some [(.i .i64 0)])
  (Ve.l1 n (0:Int) (0:Int) v):=by kernel_rfl
def bN.E:cC:=cT fQ zs [(84,(iG.c,iG.sg))]
def bN.h:Hint := .s .o (.s (.s .o (.b (.l (sc [5,6,7]) .o))) .o)
def bN.F (l:List bJ):OT:=cR PG bN.E 52 bN.sg bN.h [(.sl .fl l)]
def bN.l1 (x0:List bJ) (x1:Int) (x2:Int):OT:=dQ PG bN.E 52 bN.sg bN.h 21 [(.sl .fl x0),(.i .i64 x1),(.i .i64 x2)]
theorem bN.bV (x0:List bJ) (x1:Int) (x2:Int) {ρ:OT} (K:∀(v1:bJ) (h1:v1=(List.getD x0 (x2).toNat (fe.gk .fl))) (v2:Int) (h2:v2=(IntKind.i64.wrap (x2+(1:Int)))),cond (decide (x2<x1))
  (ck (bB x2 (x0).length) (ck (Nr.i64 x2) (cond (!decide ((bJ.name v1)=(Nr.itoa x2)))
  (some [(.b false)])
  (bN.l1 x0 x1 v2))))
  (some [(.b true)])=ρ):bN.l1 x0 x1 x2=ρ:=((bU _ _ _ _ _ _ _).trans (by kernel_rfl)).trans (K _ rfl _ rfl)
theorem bN.eJ (l:List bJ):bN.F l=bN.l1 l ((l).length:Int) (0:Int):=by kernel_rfl
def bX.E:cC:=cT fQ zs []
def bX.h:Hint := .s .o (.j (sc [0,2]) .o .o)
def bX.F (x:UInt16):OT:=cR PG bX.E 168 bX.sg bX.h [(.u16 x)]
def bX.j1 (x0:UInt16) (x1:Int):OT:=eD PG bX.E 168 bX.sg bX.h 3 [(.u16 x0),(.i .i64 x1)]
theorem bX.iI (x0:UInt16) (x1:Int) {ρ:OT} (K:∀(v1:UInt8) (h1:v1=(UInt8.ofInt ((x0).toNat:Int))) (v2:UInt8) (h2:v2=(List.getD ([0,1,2,2,3,3,3,3,4,4,4,4,4,4,4,4,5,5,5,5,5,5,5,5,5,5,5,5,5,5,5,5,6,6,6,6,6,6,6,6,6,6,6,6,6,6,6,6,6,6,6,6,6,6,6,6,6,6,6,6,6,6,6,6,7,7,7,7,7,7,7,7,7,7,7,7,7,7,7,7,7,7,7,7,7,7,7,7,7,7,7,7,7,7,7,7,7,7,7,7,7,7,7,7,7,7,7,7,7,7,7,7,7,7,7,7,7,7,7,7,7,7,7,7,7,7,7,7,8,8,8,8,8,8,8,8,8,8,8,8,8,8,8,8,8,8,8,8,8,8,8,8,8,8,8,8,8,8,8,8,8,8,8,8,8,8,8,8,8,8,8,8,8,8,8,8,8,8,8,8,8,8,8,8,8,8,8,8,8,8,8,8,8,8,8,8,8,8,8,8,8,8,8,8,8,8,8,8,8,8,8,8,8,8,8,8,8,8,8,8,8,8,8,8,8,8,8,8,8,8,8,8,8,8,8,8,8,8,8,8,8,8,8,8,8,8,8,8,8,8,8,8,8,8,8,8]:bz) (((v1).toNat:Int)).toNat (0:UInt8))) (v3:Int) (h3:v3=(IntKind.i64.wrap ((v2).toNat:Int))),ck (bB ((v1).toNat:Int) (([0,1,2,2,3,3,3,3,4,4,4,4,4,4,4,4,5,5,5,5,5,5,5,5,5,5,5,5,5,5,5,5,6,6,6,6,6,6,6,6,6,6,6,6,6,6,6,6,6,6,6,6,6,6,6,6,6,6,6,6,6,6,6,6,7,7,7,7,7,7,7,7,7,7,7,7,7,7,7,7,7,7,7,7,7,7,7,7,7,7,7,7,7,7,7,7,7,7,7,7,7,7,7,7,7,7,7,7,7,7,7,7,7,7,7,7,7,7,7,7,7,7,7,7,7,7,7,7,8,8,8,8,8,8,8,8,8,8,8,8,8,8,8,8,8,8,8,8,8,8,8,8,8,8,8,8,8,8,8,8,8,8,8,8,8,8,8,8,8,8,8,8,8,8,8,8,8,8,8,8,8,8,8,8,8,8,8,8,8,8,8,8,8,8,8,8,8,8,8,8,8,8,8,8,8,8,8,8,8,8,8,8,8,8,8,8,8,8,8,8,8,8,8,8,8,8,8,8,8,8,8,8,8,8,8,8,8,8,8,8,8,8,8,8,8,8,8,8,8,8,8,8,8,8,8,8]:bz)).length) (some [(.i .i64 (IntKind.i64.wrap (x1+v3)))])=ρ):bX.j1 x0 x1=ρ:=((b9 _ _ _ _ _ _ _).trans (by kernel_rfl)).trans (K _ rfl _ rfl _ rfl)
theorem bX.bZ (x:UInt16) {ρ:OT} (K:∀(v1:UInt16) (h1:v1=(oH x (((8:UInt64)).toNat))),cond (decide ((256:UInt16)≤x))
  (bX.j1 v1 (8:Int))
  (bX.j1 x (0:Int))=ρ):bX.F x=ρ:=Eq.trans (by kernel_rfl) (K _ rfl)
def bits_Len64.E:cC:=cT fQ zs []
def bits_Len64.h:Hint := .s .o (.j (sc [0,2]) .o (.j (sc [0,2]) .o (.j (sc [0,2]) .o .o)))
def bits_Len64.F (x:UInt64):OT:=cR PG bits_Len64.E 191 bits_Len64.sg bits_Len64.h [(.u64 x)]
def bits_Len64.j1 (x0:UInt64) (x1:Int):OT:=eD PG bits_Len64.E 191 bits_Len64.sg bits_Len64.h 3 [(.u64 x0),(.i .i64 x1)]
def bits_Len64.j2 (x0:UInt64) (x1:Int):OT:=eD PG bits_Len64.E 191 bits_Len64.sg bits_Len64.h 7 [(.u64 x0),(.i .i64 x1)]
def bits_Len64.j3 (x0:UInt64) (x1:Int):OT:=eD PG bits_Len64.E 191 bits_Len64.sg bits_Len64.h 15 [(.u64 x0),(.i .i64 x1)]
theorem bits_Len64.iI (x0:UInt64) (x1:Int) {ρ:OT} (K:∀(v1:UInt64) (h1:v1=(dD x0 (((16:UInt64)).toNat))) (v2:Int) (h2:v2=(IntKind.i64.wrap (x1+(16:Int)))),cond (decide ((65536:UInt64)≤x0))
  (bits_Len64.j2 v1 v2)
  (bits_Len64.j2 x0 x1)=ρ):bits_Len64.j1 x0 x1=ρ:=((b9 _ _ _ _ _ _ _).trans (by kernel_rfl)).trans (K _ rfl _ rfl)
theorem bits_Len64.jg (x0:UInt64) (x1:Int) {ρ:OT} (K:∀(v1:UInt64) (h1:v1=(dD x0 (((8:UInt64)).toNat))) (v2:Int) (h2:v2=(IntKind.i64.wrap (x1+(8:Int)))),cond (decide ((256:UInt64)≤x0))
  (bits_Len64.j3 v1 v2)
  (bits_Len64.j3 x0 x1)=ρ):bits_Len64.j2 x0 x1=ρ:=((b9 _ _ _ _ _ _ _).trans (by kernel_rfl)).trans (K _ rfl _ rfl)
theorem bits_Len64.oY (x0:UInt64) (x1:Int) {ρ:OT} (K:∀(v1:UInt8) (h1:v1=(UInt8.ofInt ((x0).toNat:Int))) (v2:UInt8) (h2:v2=(List.getD ([0,1,2,2,3,3,3,3,4,4,4,4,4,4,4,4,5,5,5,5,5,5,5,5,5,5,5,5,5,5,5,5,6,6,6,6,6,6,6,6,6,6,6,6,6,6,6,6,6,6,6,6,6,6,6,6,6,6,6,6,6,6,6,6,7,7,7,7,7,7,7,7,7,7,7,7,7,7,7,7,7,7,7,7,7,7,7,7,7,7,7,7,7,7,7,7,7,7,7,7,7,7,7,7,7,7,7,7,7,7,7,7,7,7,7,7,7,7,7,7,7,7,7,7,7,7,7,7,8,8,8,8,8,8,8,8,8,8,8,8,8,8,8,8,8,8,8,8,8,8,8,8,8,8,8,8,8,8,8,8,8,8,8,8,8,8,8,8,8,8,8,8,8,8,8,8,8,8,8,8,8,8,8,8,8,8,8,8,8,8,8,8,8,8,8,8,8,8,8,8,8,8,8,8,8,8,8,8,8,8,8,8,8,8,8,8,8,8,8,8,8,8,8,8,8,8,8,8,8,8,8,8,8,8,8,8,8,8,8,8,8,8,8,8,8,8,8,8,8,8,8,8,8,8,8,8]:bz) (((v1).toNat:Int)).toNat (0:UInt8))) (v3:Int) (h3:v3=(IntKind.i64.wrap ((v2).toNat:Int))),ck (bB ((v1).toNat:Int) (([0,1,2,2,3,3,3,3,4,4,4,4,4,4,4,4,5,5,5,5,5,5,5,5,5,5,5,5,5,5,5,5,6,6,6,6,6,6,6,6,6,6,6,6,6,6,6,6,6,6,6,6,6,6,6,6,6,6,6,6,6,6,6,6,7,7,7,7,7,7,7,7,7,7,7,7,7,7,7,7,7,7,7,7,7,7,7,7,7,7,7,7,7,7,7,7,7,7,7,7,7,7,7,7,7,7,7,7,7,7,7,7,7,7,7,7,7,7,7,7,7,7,7,7,7,7,7,7,8,8,8,8,8,8,8,8,8,8,8,8,8,8,8,8,8,8,8,8,8,8,8,8,8,8,8,8,8,8,8,8,8,8,8,8,8,8,8,8,8,8,8,8,8,8,8,8,8,8,8,8,8,8,8,8,8,8,8,8,8,8,8,8,8,8,8,8,8,8,8,8,8,8,8,8,8,8,8,8,8,8,8,8,8,8,8,8,8,8,8,8,8,8,8,8,8,8,8,8,8,8,8,8,8,8,8,8,8,8,8,8,8,8,8,8,8,8,8,8,8,8,8,8,8,8,8,8]:bz)).length) (some [(.i .i64 (IntKind.i64.wrap (x1+v3)))])=ρ):bits_Len64.j3 x0 x1=ρ:=((b9 _ _ _ _ _ _ _).trans (by kernel_rfl)).trans (K _ rfl _ rfl _ rfl)
theorem bits_Len64.bZ (x:UInt64) {ρ:OT} (K:∀(v1:UInt64) (h1:v1=(dD x (((32:UInt64)).toNat))),cond (decide ((4294967296:UInt64)≤x))
  (bits_Len64.j1 v1 (32:Int))
  (bits_Len64.j1 x (0:Int))=ρ):bits_Len64.F x=ρ:=Eq.trans (by kernel_rfl) (K _ rfl)
def eI.E:cC:=cT fQ zs []
def eI.h:Hint := .o
def eI.F (a:List UInt16):OT:=cR PG eI.E 198 eI.sg eI.h [(.sl .ws a)]
theorem eI.eJ (a:List UInt16):eI.F a=cond (List.isEmpty a)
  (both (some [(.sl .ws ([]:List UInt16))]) (ck (fC ((([]:List UInt16)).length+(a).length) 2) (some [(.sl .ws (([]:List UInt16)++a))])))
  (ck (fC ((([]:List UInt16)).length+(a).length) 2) (some [(.sl .ws (([]:List UInt16)++a))])):=by kernel_rfl
def dt.E:cC:=cT fQ zs []
def dt.h:Hint := .o
def dt.F (x:Nat):OT:=cR PG dt.E 253 dt.sg dt.h [(.c (.float .f64 x))]
theorem dt.eJ (x:Nat):dt.F x=cond true
  (ck (Fl.num x) (some [(.c (.float .f64 (Fl.jW x)))]))
  (none):=by kernel_rfl
def fu.E:cC:=cT fQ zs [(249,(gT.c,gT.sg))]
def fu.h:Hint := .o
def fu.F (z:Cx):OT:=cR PG fu.E 246 fu.sg fu.h [(.c (.complex .f64 z.1 z.2))]
theorem fu.eJ (z:Cx):fu.F z=ck (Gz.I7 z ((4719772409484279808:Nat))) (some [(.b (true))]):=by kernel_rfl
def jh.E:cC:=cT fQ zs []
def jh.h:Hint := .o
def jh.F (x:Int) (y:Int):OT:=cR PG jh.E 244 jh.sg jh.h [(.i .i64 x),(.i .i64 y)]
theorem jh.bZ (x:Int) (y:Int) {ρ:OT} (K:∀(v1:Bool) (h1:v1=(cond (decide (x<(-33554432:Int))) true (decide ((33554432:Int)<x)))) (v2:Bool) (h2:v2=(cond v1 true (decide (y<(-33554432:Int))))) (v3:Bool) (h3:v3=(cond v2 true (decide ((33554432:Int)<y)))) (v4:Cx) (h4:v4=(((Fl.ofInt x),(Fl.ofInt y)):Cx)),ck (!(!(decide (x<(-33554432:Int)))) || (!(decide (x<(-33554432:Int))))) (ck ((decide (x<(-33554432:Int))) || (!(decide (x<(-33554432:Int))))) (ck (!(!v1) || (!v1)) (ck (v1 || (!v1)) (ck (!(!v2) || (!v2)) (ck (v2 || (!v2)) (cond v3
  (some [(.c (.complex .f64 ((0,0):Cx).1 ((0,0):Cx).2))])
  (some [(.c (.complex .f64 v4.1 v4.2))])))))))=ρ):jh.F x y=ρ:=Eq.trans (by kernel_rfl) (K _ rfl _ rfl _ rfl _ rfl)
def eG.E:cC:=cT fQ zs [(249,(gT.c,gT.sg))]
def eG.h:Hint := .o
def eG.F (z:Cx):OT:=cR PG eG.E 239 eG.sg eG.h [(.c (.complex .f64 z.1 z.2))]
theorem eG.eJ (z:Cx):eG.F z=ck (Gz.I7 z ((4841369599423283200:Nat))) (cond (!(true))
  (some [(.i .i64 0),(.i .i64 0),(.b false)])
  (ck (Fl.mg z.1) (ck (Fl.mg z.2) (some [(.i .i64 (Fl.toInt z.1)),(.i .i64 (Fl.toInt z.2)),(.b true)])))):=by kernel_rfl
def gj.E:cC:=cT fQ zs [(249,(gT.c,gT.sg))]
def gj.h:Hint := .o
def gj.F (z:Cx) (k:Int):OT:=cR PG gj.E 254 gj.sg gj.h [(.c (.complex .f64 z.1 z.2)),(.i .i64 k)]
theorem gj.bZ (z:Cx) (k:Int) {ρ:OT} (K:∀(v1:Cx) (h1:v1=((4607182418800017408,0):Cx)) (v2:Cx) (h2:v2=((0,4607182418800017408):Cx)) (v3:Cx) (h3:v3=((13830554455654793216,0):Cx)) (v4:Cx) (h4:v4=((0,13830554455654793216):Cx)) (v5:Int) (h5:v5=(cI .and .i64 k (3:Int))) (v6:Cx) (h6:v6=(List.getD ([v1,v2,v3,v4]:List Cx) ((v5).toNat) (0,0))) (v7:Cx) (h7:v7=((Fl.qz z.1 z.2 v6.1 v6.2,Fl.qA z.1 z.2 v6.1 v6.2):Cx)),ck (Gz.I7 z ((4841369599423283200:Nat))) (cond (!(true))
  (some [(.c (.complex .f64 ((0,0):Cx).1 ((0,0):Cx).2))])
  (ck (bB v5 4) (ck (decide ((v5).toNat<4)) (ck (Fl.nD z.1 z.2 v6.1 v6.2) (some [(.c (.complex .f64 v7.1 v7.2))])))))=ρ):gj.F z k=ρ:=Eq.trans (by kernel_rfl) (K _ rfl _ rfl _ rfl _ rfl _ rfl _ rfl _ rfl)
def fv.E:cC:=cT fQ zs [(246,(fu.c,fu.sg))]
def fv.h:Hint := .o
def fv.F (z:Cx) (w:Cx):OT:=cR PG fv.E 237 fv.sg fv.h [(.c (.complex .f64 z.1 z.2)),(.c (.complex .f64 w.1 w.2))]
theorem fv.bZ (z:Cx) (w:Cx) {ρ:OT} (K:∀(v1:Bool) (h1:v1=(cond (!(true)) true (!(true)))) (v2:Cx) (h2:v2=((Fl.qz z.1 z.2 w.1 w.2,Fl.qA z.1 z.2 w.1 w.2):Cx)),ck (Gz.tK z 33554432) (ck (!(!(!(true))) || ((!(!(true)))&&(Gz.tK w 33554432))) (ck (!(!(!(true))) || (!(!(true)))) (ck ((!(true)) || (!(!(true)))) (cond v1
  (some [(.c (.complex .f64 ((0,0):Cx).1 ((0,0):Cx).2))])
  (ck (Fl.nD z.1 z.2 w.1 w.2) (some [(.c (.complex .f64 v2.1 v2.2))]))))))=ρ):fv.F z w=ρ:=Eq.trans (by kernel_rfl) (K _ rfl _ rfl)
def gf.E:cC:=cT fQ zs [(253,(dt.c,dt.sg))]
def gf.h:Hint := .o
def gf.F (x:Nat):OT:=cR PG gf.E 252 gf.sg gf.h [(.c (.float .f64 x))]
theorem gf.bZ (x:Nat) {ρ:OT} (K:∀(v1:Bool) (h1:v1=(Fl.gt x (14055734437023318016:Nat) || Fl.eq x (14055734437023318016:Nat))) (v2:Bool) (h2:v2=(Fl.lt x (4832362400168542208:Nat) || Fl.eq x (4832362400168542208:Nat))) (v3:Bool) (h3:v3=(cond (cond v1 v2 false) (Fl.eq x (Fl.jW x)) false)),ck (!v1 || v1) (ck (!v1 || v1) (ck (!(cond v1 v2 false) || ((cond v1 v2 false)&&(Fl.num x))) (ck (!(cond v1 v2 false) || ((cond v1 v2 false)&&(cond v1 v2 false))) (ck (!(cond v1 v2 false) || (cond v1 v2 false)) (some [(.b v3)])))))=ρ):gf.F x=ρ:=Eq.trans (by kernel_rfl) (K _ rfl _ rfl _ rfl)
def wv_fit.E:cC:=cT fQ zs [(252,(gf.c,gf.sg))]
def wv_fit.h:Hint := .s .o (.s .o (.s (.s .o (.b (.l (sc [3,6,7]) .o))) .o))
def wv_fit.F (l:Qd):OT:=cR PG wv_fit.E 247 wv_fit.sg wv_fit.h [(.ag (Qd.cells l))]
def wv_fit.l1 (x0:Qd) (x1:Int):OT:=dQ PG wv_fit.E 247 wv_fit.sg wv_fit.h 43 [(.c (.func (.func 252) #[] #[])),(.ag (Qd.cells x0)),(.i .i64 x1)]
theorem wv_fit.bV (x0:Qd) (x1:Int) {ρ:OT} (K:∀(v1:Bool) (h1:v1=(cond (!(true)) true (!(true)))) (v2:Int) (h2:v2=(IntKind.i64.wrap (x1+(1:Int)))),cond (decide (x1<(4:Int)))
  (ck (bB x1 4) (ck (Gz.HD ((Qd.get x0 ((x1).toNat)).1)) (ck (!(!(!(true))) || (!(!(true)))) (ck (!(!(!(true))) || (((!(!(true)))&&(!(!(true))))&&(Gz.HD ((Qd.get x0 ((x1).toNat)).2)))) (ck (!(!(!(true))) || (!(!(true)))) (ck ((!(true)) || (!(!(true)))) (cond v1
  (some [(.b false)])
  (wv_fit.l1 x0 v2))))))))
  (some [(.b true)])=ρ):wv_fit.l1 x0 x1=ρ:=((bU _ _ _ _ _ _ _).trans (by kernel_rfl)).trans (K _ rfl _ rfl)
theorem wv_fit.eJ (l:Qd):wv_fit.F l=wv_fit.l1 l (0:Int):=by kernel_rfl
def cF.E:cC:=cT fQ zs [(254,(gj.c,gj.sg))]
def cF.h:Hint := .s .o (.s .o (.s (.s .o (.b (.l [(1,.no),(2,.ptr 34 0),(4,.ptr 36 0),(5,.ptr 37 0),(9,.no),(34,.cl []),(36,.cl []),(37,.cl [])] (.s .o (.s .o (.s (.b (.s .o (.s .o (.b (.l [(1,.no),(2,.ptr 34 0),(4,.ptr 36 0),(5,.ptr 37 0),(6,.no),(9,.no),(12,.no),(13,.no),(34,.cl []),(36,.cl []),(37,.cl [])] .o))))) .o)))))) .o))
def cF.F (l:Qd) (w:Int):OT:=cR PG cF.E 248 cF.sg cF.h [(.ag (Qd.cells l)),(.i .i64 w)]
def cF.l1 (x0:Int) (x1:Int) (x2:Qd) (x3:Qd) (x4:Qd):OT:=dQ PG cF.E 248 cF.sg cF.h 43 [(.i .i64 x0),.pt,.pt,.pt,(.i .i64 x1),(.ag (Qd.cells x2)),(.ag (Qd.cells x3)),(.ag (Qd.cells x4))]
def cF.l2 (x0:Int) (x1:Int) (x2:Int) (x3:Qd) (x4:Int) (x5:Qd) (x6:Qd) (x7:Qd):OT:=dQ PG cF.E 248 cF.sg cF.h 11467 [(.i .i64 x0),.pt,.pt,.pt,(.i .i64 x1),(.i .i64 x2),(.ag (Qd.cells x3)),(.i .i64 x4),(.ag (Qd.cells x5)),(.ag (Qd.cells x6)),(.ag (Qd.cells x7))]
theorem cF.Hw (x0:Int) (x1:Int) (x2:Qd) (x3:Qd) (x4:Qd):cF.l1 x0 x1 x2 x3 x4=cond (decide (x1<(4:Int)))
  (cF.l2 x0 x1 x1 x2 (0:Int) x2 x3 x4)
  (some [(.ag (Qd.cells x4))]):=((bU _ _ _ _ _ _ _).trans (by kernel_rfl))
theorem cF.iw (x0:Int) (x1:Int) (x2:Int) (x3:Qd) (x4:Int) (x5:Qd) (x6:Qd) (x7:Qd) {ρ:OT} (K:∀(v1:Int) (h1:v1=(IntKind.i64.wrap ((IntKind.i64.wrap (x4 * x1)) * x0))) (v2:Cx) (h2:v2=(Gz.nU ((Qd.get x3 ((x4).toNat))) v1)) (v3:Cx) (h3:v3=((Fl.add (Qd.get x7 ((x1).toNat)).1 v2.1,Fl.add (Qd.get x7 ((x1).toNat)).2 v2.2):Cx)) (v4:Int) (h4:v4=(IntKind.i64.wrap (x4+(1:Int)))) (v5:Int) (h5:v5=(IntKind.i64.wrap (x2+(1:Int)))),cond (decide (x4<(4:Int)))
  (ck (bB x4 4) (ck (bB x1 4) (ck (decide ((x1).toNat<4)) (ck (Gz.tK ((Qd.get x3 ((x4).toNat))) 1125899906842624&&decide (-100≤v1∧v1≤100)) (ck (Fl.kn (Qd.get x7 ((x1).toNat)).1 v2.1&&Fl.kn (Qd.get x7 ((x1).toNat)).2 v2.2) (ck (bB x1 4) (ck (decide ((x1).toNat<4)) (cF.l2 x0 x1 x2 x3 v4 x5 x6 (Qd.set x7 ((x1).toNat) v3)))))))))
  (cF.l1 x0 v5 x5 x6 x7)=ρ):cF.l2 x0 x1 x2 x3 x4 x5 x6 x7=ρ:=((bU _ _ _ _ _ _ _).trans (by kernel_rfl)).trans (K _ rfl _ rfl _ rfl _ rfl _ rfl)
theorem cF.eJ (l:Qd) (w:Int):cF.F l w=cF.l1 w (0:Int) l (Qd.mk ((0,0):Cx) ((0,0):Cx) ((0,0):Cx) ((0,0):Cx)) (Qd.mk ((0,0):Cx) ((0,0):Cx) ((0,0):Cx) ((0,0):Cx)):=by kernel_rfl
def gg.E:cC:=cT fQ zs [(247,(wv_fit.c,wv_fit.sg)),(248,(cF.c,cF.sg))]
def gg.h:Hint := .o
def gg.F (l:Qd):OT:=cR PG gg.E 245 gg.sg gg.h [(.ag (Qd.cells l))]
theorem gg.eJ (l:Qd):gg.F l=ck (Gz.wg l 1125899906842624) (cond (!(true))
  (some [(.ag [(.c (.complex .f64 ((0,0):Cx).1 ((0,0):Cx).2)),(.c (.complex .f64 ((0,0):Cx).1 ((0,0):Cx).2)),(.c (.complex .f64 ((0,0):Cx).1 ((0,0):Cx).2)),(.c (.complex .f64 ((0,0):Cx).1 ((0,0):Cx).2))])])
  (ck (Gz.wg l 1125899906842624&&decide (((1:Int))=1∨((1:Int))=-1)) (some [(.ag (Qd.cells (Gz.mh l ((1:Int)))))]))):=by kernel_rfl
def dN.E:cC:=cT fQ zs [(239,(eG.c,eG.sg)),(247,(wv_fit.c,wv_fit.sg)),(248,(cF.c,cF.sg))]
def dN.h:Hint := .s .o (.s .o (.s .o (.s (.s .o (.b (.l [(2,.ptr 53 0),(4,.ptr 55 0),(16,.no),(17,.no),(53,.cl []),(55,.cl [])] .o))) .o)))
def dN.F (l:Qd):OT:=cR PG dN.E 238 dN.sg dN.h [(.ag (Qd.cells l))]
def dN.l1 (x0:Qd) (x1:Int) (x2:Qd) (x3:Qd):OT:=dQ PG dN.E 238 dN.sg dN.h 87 [.pt,.pt,(.ag (Qd.cells x0)),(.i .i64 x1),(.ag (Qd.cells x2)),(.ag (Qd.cells x3))]
theorem dN.bV (x0:Qd) (x1:Int) (x2:Qd) (x3:Qd) {ρ:OT} (K:∀(v1:Int) (h1:v1=(Fl.toInt (((Qd.get x0 ((x1).toNat)))).1)) (v2:Int) (h2:v2=(Fl.toInt (((Qd.get x0 ((x1).toNat)))).2)) (v3:Bool) (h3:v3=(cond (!(true)) true (!decide ((Int.tmod v1 (4:Int))=(0:Int))))) (v4:Bool) (h4:v4=(cond v3 true (!decide ((Int.tmod v2 (4:Int))=(0:Int))))) (v5:Int) (h5:v5=(IntKind.i64.wrap (Int.tdiv v1 (4:Int)))) (v6:Int) (h6:v6=(IntKind.i64.wrap (Int.tdiv v2 (4:Int)))) (v7:Cx) (h7:v7=(((Fl.ofInt v5),(Fl.ofInt v6)):Cx)) (v8:Int) (h8:v8=(IntKind.i64.wrap (x1+(1:Int)))),cond (decide (x1<(4:Int)))
  (ck (bB x1 4) (ck (Gz.tK ((Qd.get x0 ((x1).toNat))) 4503599627370496) (ck (!(!(!(true))) || ((!(!(true)))&&(!decide ((4:Int)=0)))) (ck (!(!(!(true))) || (!(!(true)))) (ck ((!(true)) || (!(!(true)))) (ck (!(!v3) || ((!v3)&&(!decide ((4:Int)=0)))) (ck (!(!v3) || (!v3)) (ck (v3 || (!v3)) (cond v4
  (some [(.ag [(.c (.complex .f64 ((0,0):Cx).1 ((0,0):Cx).2)),(.c (.complex .f64 ((0,0):Cx).1 ((0,0):Cx).2)),(.c (.complex .f64 ((0,0):Cx).1 ((0,0):Cx).2)),(.c (.complex .f64 ((0,0):Cx).1 ((0,0):Cx).2))]),(.b false)])
  (ck (!decide ((4:Int)=0)) (ck (!decide ((4:Int)=0)) (ck (bB x1 4) (ck (decide ((x1).toNat<4)) (dN.l1 x0 v8 x2 (Qd.set x3 ((x1).toNat) v7)))))))))))))))
  (some [(.ag (Qd.cells x3)),(.b true)])=ρ):dN.l1 x0 x1 x2 x3=ρ:=((bU _ _ _ _ _ _ _).trans (by kernel_rfl)).trans (K _ rfl _ rfl _ rfl _ rfl _ rfl _ rfl _ rfl _ rfl)
theorem dN.eJ (l:Qd):dN.F l=ck (Gz.wg l 1125899906842624) (cond (!(true))
  (some [(.ag [(.c (.complex .f64 ((0,0):Cx).1 ((0,0):Cx).2)),(.c (.complex .f64 ((0,0):Cx).1 ((0,0):Cx).2)),(.c (.complex .f64 ((0,0):Cx).1 ((0,0):Cx).2)),(.c (.complex .f64 ((0,0):Cx).1 ((0,0):Cx).2))]),(.b false)])
  (ck (Gz.wg l 1125899906842624&&decide (((-1:Int))=1∨((-1:Int))=-1)) (dN.l1 (Gz.mh l ((-1:Int))) (0:Int) (Qd.mk ((0,0):Cx) ((0,0):Cx) ((0,0):Cx) ((0,0):Cx)) (Gz.mh l ((-1:Int)))))):=by kernel_rfl
def cJ.E:cC:=cT fQ zs []
def cJ.h:Hint := .s .o (.s (.s .o (.b (.l (sc [0,5,6,7]) .o))) .o)
def cJ.F (l:List Int):OT:=cR PG cJ.E 235 cJ.sg cJ.h [(.sl .is l)]
def cJ.l1 (x0:List Int) (x1:List Int) (x2:Int) (x3:Int):OT:=dQ PG cJ.E 235 cJ.sg cJ.h 21 [(.sl .is x0),(.sl .is x1),(.i .i64 x2),(.i .i64 x3)]
theorem cJ.bV (x0:List Int) (x1:List Int) (x2:Int) (x3:Int) {ρ:OT} (K:∀(v1:Int) (h1:v1=(List.getD x1 (x3).toNat (0:Int))) (v2:Bool) (h2:v2=(cond (decide (v1<(0:Int))) true (decide ((65535:Int)<v1)))) (v3:Int) (h3:v3=(IntKind.i64.wrap (x3+(1:Int)))),cond (decide (x3<x2))
  (ck (bB x3 (x1).length) (ck (!(!(decide (v1<(0:Int)))) || (!(decide (v1<(0:Int))))) (ck ((decide (v1<(0:Int))) || (!(decide (v1<(0:Int))))) (cond v2
  (some [(.b false)])
  (cJ.l1 x0 x1 x2 v3)))))
  (some [(.b (decide (((x0).length:Int)≤(256:Int))))])=ρ):cJ.l1 x0 x1 x2 x3=ρ:=((bU _ _ _ _ _ _ _).trans (by kernel_rfl)).trans (K _ rfl _ rfl _ rfl)
theorem cJ.eJ (l:List Int):cJ.F l=cJ.l1 l l ((l).length:Int) (0:Int):=by kernel_rfl
def cw.E:cC:=cT fQ zs [(244,(jh.c,jh.sg)),(245,(gg.c,gg.sg))]
def cw.h:Hint := .s .o (.s .o (.s (.s .o (.b (.l [(0,.no),(3,.fA 800000),(800000,.pv),(4,.no)] (.s .o (.s (.b (.s .o (.j [(0,.no),(3,.fA 800000),(800000,.pv),(4,.no),(5,.ptr 41 0),(41,.cl [])] .o .o))) .o))))) .o))
def cw.F (l:List Int):OT:=cR PG cw.E 236 cw.sg cw.h [(.sl .is l)]
def cw.l1 (x0:List Int) (x1:List Qd) (x2:Int):OT:=dQ PG cw.E 236 cw.sg cw.h 43 [(.sl .is x0),.pt,(.sl .qd x1),(.i .i64 x2)]
def cw.j2 (x0:List Int) (x1:List Qd) (x2:Int) (x3:Qd):OT:=eD PG cw.E 236 cw.sg cw.h 1611 [(.sl .is x0),.pt,(.sl .qd x1),(.i .i64 x2),.pt,(.ag (Qd.cells x3))]
theorem cw.bV (x0:List Int) (x1:List Qd) (x2:Int) {ρ:OT} (K:∀(v1:Int) (h1:v1=(List.getD x0 (x2).toNat (0:Int))) (v2:Cx) (h2:v2=(((Fl.ofInt v1,Fl.ofInt ((0:Int))):Cx))) (v3:Int) (h3:v3=(IntKind.i64.wrap (x2+(1:Int)))) (v4:Int) (h4:v4=(List.getD x0 (v3).toNat (0:Int))) (v5:Cx) (h5:v5=(((Fl.ofInt v4,Fl.ofInt ((0:Int))):Cx))) (v6:Qd) (h6:v6=(Qd.set (Qd.mk v2 ((0,0):Cx) ((0,0):Cx) ((0,0):Cx)) (((1:Int)).toNat) v5)),cond (decide (x2<((x0).length:Int)))
  (ck (bB x2 (x0).length) (ck (decide (-33554432≤v1∧v1≤33554432∧-33554432≤((0:Int))∧((0:Int))≤33554432)) (cond (decide (v3<((x0).length:Int)))
  (ck (bB v3 (x0).length) (ck (decide (-33554432≤v4∧v4≤33554432∧-33554432≤((0:Int))∧((0:Int))≤33554432)) (ck (bB (1:Int) 4) (ck (decide (((1:Int)).toNat<4)) (cw.j2 x0 x1 x2 v6)))))
  (cw.j2 x0 x1 x2 (Qd.mk v2 ((0,0):Cx) ((0,0):Cx) ((0,0):Cx))))))
  (some [(.sl .qd x1)])=ρ):cw.l1 x0 x1 x2=ρ:=((bU _ _ _ _ _ _ _).trans (by kernel_rfl)).trans (K _ rfl _ rfl _ rfl _ rfl _ rfl _ rfl)
theorem cw.jg (x0:List Int) (x1:List Qd) (x2:Int) (x3:Qd) {ρ:OT} (K:∀(v1:List Qd) (h1:v1=(x1++([(Gz.mh x3 1)]:List Qd))) (v2:Int) (h2:v2=(IntKind.i64.wrap (x2+(2:Int)))),ck (Gz.wg x3 1125899906842624) (ck (fC ((x1).length+(([(Gz.mh x3 1)]:List Qd)).length) 64) (cw.l1 x0 v1 v2))=ρ):cw.j2 x0 x1 x2 x3=ρ:=((b9 _ _ _ _ _ _ _).trans (by kernel_rfl)).trans (K _ rfl _ rfl)
theorem cw.eJ (l:List Int):cw.F l=cw.l1 l ([]:List Qd) (0:Int):=by kernel_rfl
def bL.E:cC:=cT fQ zs [(235,(cJ.c,cJ.sg)),(236,(cw.c,cw.sg)),(237,(fv.c,fv.sg)),(238,(dN.c,dN.sg)),(239,(eG.c,eG.sg))]
def bL.h:Hint := .s .o (.s .o (.s .o (.s .o (.s .o (.s (.s .o (.b (.l [(0,.no),(1,.no),(6,.fA 800000),(8,.no),(48,.no),(49,.no),(50,.no),(800000,.pv)] (.s .o (.s .o (.s (.b (.s .o (.s .o (.b (.l [(0,.no),(1,.no),(6,.fA 800000),(8,.no),(9,.no),(10,.ptr 126 0),(48,.no),(49,.no),(50,.no),(55,.no),(56,.no),(57,.no),(126,.cl []),(800000,.pv)] (.s .o (.s .o (.s (.b (.s .o (.s .o (.s (.s .o (.b (.l [(0,.no),(1,.no),(6,.fA 800000),(8,.no),(9,.no),(10,.ptr 126 0),(11,.no),(12,.ptr 128 0),(13,.ptr 129 0),(48,.no),(49,.no),(50,.no),(55,.no),(56,.no),(57,.no),(62,.no),(126,.cl []),(128,.cl []),(129,.cl []),(800000,.pv)] .o))) (.s .o (.s .o (.b (.l [(0,.no),(1,.no),(6,.fA 800000),(8,.no),(9,.no),(10,.ptr 126 0),(11,.no),(15,.ptr 131 0),(48,.no),(49,.no),(50,.no),(55,.no),(56,.no),(57,.no),(80,.no),(126,.cl []),(131,.cl []),(800000,.pv)] .o)))))))) .o)))))))) .o)))))) .o)))))
def bL.F (a:List Int) (b:List Int):OT:=cR PG bL.E 219 bL.sg bL.h [(.sl .is a),(.sl .is b)]
def bL.l1 (x0:List Int) (x1:List Int) (x2:List Qd) (x3:List Qd) (x4:Int) (x5:Int) (x6:List Int):OT:=dQ PG bL.E 219 bL.sg bL.h 351 [(.sl .is x0),(.sl .is x1),.pt,(.sl .qd x2),(.sl .qd x3),(.i .i64 x4),(.i .i64 x5),(.sl .is x6)]
def bL.l2 (x0:List Int) (x1:List Int) (x2:List Qd) (x3:Int) (x4:List Qd) (x5:Int) (x6:Int) (x7:List Qd) (x8:Int) (x9:Int) (tw:Qd) (nF:List Int):OT:=dQ PG bL.E 219 bL.sg bL.h 91743 [(.sl .is x0),(.sl .is x1),.pt,(.sl .qd x2),(.i .i64 x3),.pt,(.sl .qd x4),(.i .i64 x5),(.i .i64 x6),(.sl .qd x7),(.i .i64 x8),(.i .i64 x9),(.ag (Qd.cells tw)),(.sl .is nF)]
def bL.l3 (x0:List Int) (x1:List Int) (x2:List Qd) (x3:Int) (x4:Int) (x5:List Qd) (x6:Int) (x7:Int) (x8:List Qd) (x9:Int) (tw:Int) (nF:Int) (A4:Qd) (zY:Qd) (wb:Qd) (K9:List Int):OT:=dQ PG bL.E 219 bL.sg bL.h 90596959 [(.sl .is x0),(.sl .is x1),.pt,(.sl .qd x2),(.i .i64 x3),.pt,(.i .i64 x4),.pt,.pt,(.sl .qd x5),(.i .i64 x6),(.i .i64 x7),(.sl .qd x8),(.i .i64 x9),(.i .i64 tw),(.i .i64 nF),(.ag (Qd.cells A4)),(.ag (Qd.cells zY)),(.ag (Qd.cells wb)),(.sl .is K9)]
def bL.l4 (x0:List Int) (x1:List Int) (x2:List Qd) (x3:Int) (x4:Int) (x5:List Qd) (x6:Int) (x7:Int) (x8:List Qd) (x9:Int) (tw:Int) (nF:Int) (A4:Qd) (zY:Qd) (wb:List Int):OT:=dQ PG bL.E 219 bL.sg bL.h 199648863 [(.sl .is x0),(.sl .is x1),.pt,(.sl .qd x2),(.i .i64 x3),.pt,(.i .i64 x4),.pt,(.sl .qd x5),(.i .i64 x6),(.i .i64 x7),(.sl .qd x8),(.i .i64 x9),(.i .i64 tw),(.i .i64 nF),(.ag (Qd.cells A4)),(.ag (Qd.cells zY)),(.sl .is wb)]
theorem bL.bV (x0:List Int) (x1:List Int) (x2:List Qd) (x3:List Qd) (x4:Int) (x5:Int) (x6:List Int) {ρ:OT} (K:∀(v1:Qd) (h1:v1=(List.getD x3 (x5).toNat (fe.gk .qd))) (v2:Int) (h2:v2=(IntKind.i64.wrap (((x0).length:Int)+((x1).length:Int)))) (v3:Int) (h3:v3=(IntKind.i64.wrap (v2 - (1:Int)))),cond (decide (x5<x4))
  (ck (bB x5 (x3).length) (bL.l2 x0 x1 x2 x5 x3 x4 x5 x2 ((x2).length:Int) (0:Int) v1 x6))
  (ck (gA 0 v3 (x6).length) (ck (fC ((List.take (v3).toNat x6)).length 8) (some [(.sl .is (List.take (v3).toNat x6)),(.b true)])))=ρ):bL.l1 x0 x1 x2 x3 x4 x5 x6=ρ:=((bU _ _ _ _ _ _ _).trans (by kernel_rfl)).trans (K _ rfl _ rfl _ rfl)
theorem bL.iw (x0:List Int) (x1:List Int) (x2:List Qd) (x3:Int) (x4:List Qd) (x5:Int) (x6:Int) (x7:List Qd) (x8:Int) (x9:Int) (tw:Qd) (nF:List Int) {ρ:OT} (K:∀(v1:Qd) (h1:v1=(List.getD x7 (x9).toNat (fe.gk .qd))) (v2:Int) (h2:v2=(IntKind.i64.wrap (x6+(1:Int)))),cond (decide (x9<x8))
  (ck (bB x9 (x7).length) (bL.l3 x0 x1 x2 x3 x9 x4 x5 x6 x7 x8 x9 (0:Int) tw v1 (Qd.mk ((0,0):Cx) ((0,0):Cx) ((0,0):Cx) ((0,0):Cx)) nF))
  (bL.l1 x0 x1 x2 x4 x5 v2 nF)=ρ):bL.l2 x0 x1 x2 x3 x4 x5 x6 x7 x8 x9 tw nF=ρ:=((bU _ _ _ _ _ _ _).trans (by kernel_rfl)).trans (K _ rfl _ rfl)
theorem bL.sJ (x0:List Int) (x1:List Int) (x2:List Qd) (x3:Int) (x4:Int) (x5:List Qd) (x6:Int) (x7:Int) (x8:List Qd) (x9:Int) (tw:Int) (nF:Int) (A4:Qd) (zY:Qd) (wb:Qd) (K9:List Int) {ρ:OT} (K:∀(v1:Cx) (h1:v1=(Gz.mul ((Qd.get A4 ((nF).toNat))) ((Qd.get zY ((nF).toNat))))) (v2:Qd) (h2:v2=(Qd.set wb ((nF).toNat) v1)) (v3:Int) (h3:v3=(IntKind.i64.wrap (nF+(1:Int)))),cond (decide (nF<(4:Int)))
  (ck (bB nF 4) (ck (decide ((nF).toNat<4)) (ck (bB nF 4) (ck (decide ((nF).toNat<4)) (ck (Gz.tK ((Qd.get A4 ((nF).toNat))) 33554432&&Gz.tK ((Qd.get zY ((nF).toNat))) 33554432) (ck (bB nF 4) (ck (decide ((nF).toNat<4)) (bL.l3 x0 x1 x2 x3 x4 x5 x6 x7 x8 x9 tw v3 A4 zY v2 K9))))))))
  (ck (Gz.wg wb 1125899906842624&&Gz.I8 wb) (bL.l4 x0 x1 x2 x3 x4 x5 x6 x7 x8 x9 tw (0:Int) A4 (Gz.back wb) K9))=ρ):bL.l3 x0 x1 x2 x3 x4 x5 x6 x7 x8 x9 tw nF A4 zY wb K9=ρ:=((bU _ _ _ _ _ _ _).trans (by kernel_rfl)).trans (K _ rfl _ rfl _ rfl)
theorem bL.xv (x0:List Int) (x1:List Int) (x2:List Qd) (x3:Int) (x4:Int) (x5:List Qd) (x6:Int) (x7:Int) (x8:List Qd) (x9:Int) (tw:Int) (nF:Int) (A4:Qd) (zY:Qd) (wb:List Int) {ρ:OT} (K:∀(v1:Int) (h1:v1=(Fl.toInt (((Qd.get zY ((nF).toNat)))).1)) (v2:Int) (h2:v2=(Fl.toInt (((Qd.get zY ((nF).toNat)))).2)) (v3:Int) (h3:v3=(IntKind.i64.wrap ((2:Int) * x3))) (v4:Int) (h4:v4=(IntKind.i64.wrap ((2:Int) * x4))) (v5:Int) (h5:v5=(IntKind.i64.wrap ((IntKind.i64.wrap (v3+v4))+nF))) (v6:Int) (h6:v6=(List.getD wb ((v5).toNat) (0:Int))) (v7:List Int) (h7:v7=(List.set wb ((v5).toNat) (IntKind.i64.wrap (v6+v1)))) (v8:Int) (h8:v8=(IntKind.i64.wrap (nF+(1:Int)))) (v9:Int) (h9:v9=(IntKind.i64.wrap (tw+(1:Int)))),cond (decide (nF<(3:Int)))
  (ck (bB nF 4) (ck (decide ((nF).toNat<4)) (ck (Gz.tK ((Qd.get zY ((nF).toNat))) 4503599627370496) (ck (bB v5 (wb).length) (ck (decide ((v5).toNat<(wb).length)) (ck (bB v5 (wb).length) (ck (decide ((v5).toNat<(wb).length)) (bL.l4 x0 x1 x2 x3 x4 x5 x6 x7 x8 x9 tw v8 A4 zY v7))))))))
  (bL.l2 x0 x1 x2 x3 x5 x6 x7 x8 x9 v9 A4 wb)=ρ):bL.l4 x0 x1 x2 x3 x4 x5 x6 x7 x8 x9 tw nF A4 zY wb=ρ:=((bU _ _ _ _ _ _ _).trans (by kernel_rfl)).trans (K _ rfl _ rfl _ rfl _ rfl _ rfl _ rfl _ rfl _ rfl _ rfl)
theorem bL.bZ (a:List Int) (b:List Int) {ρ:OT} (K:∀(v1:Bool) (h1:v1=(cond (!(true)) true (!(true)))) (v2:Bool) (h2:v2=(cond (decide (((a).length:Int)=(0:Int))) true (decide (((b).length:Int)=(0:Int))))) (v3:Int) (h3:v3=(IntKind.i64.wrap (((a).length:Int)+((b).length:Int)))) (v4:Int) (h4:v4=(IntKind.i64.wrap (v3+(2:Int)))) (v5:List Int) (h5:v5=(List.replicate (v4).toNat (0:Int))) (v6:Int) (h6:v6=(((Gz.gS a)).length:Int)),ck (decide ((a).length≤256)&&Gz.ie a) (ck (!(!(!(true))) || ((!(!(true)))&&(decide ((b).length≤256)&&Gz.ie b))) (ck (!(!(!(true))) || (!(!(true)))) (ck ((!(true)) || (!(!(true)))) (cond v1
  (some [(.sl .is ([]:List Int)),(.b false)])
  (ck (!(!(decide (((a).length:Int)=(0:Int)))) || (!(decide (((a).length:Int)=(0:Int))))) (ck (!(!(decide (((a).length:Int)=(0:Int)))) || (!(decide (((a).length:Int)=(0:Int))))) (ck ((decide (((a).length:Int)=(0:Int))) || (!(decide (((a).length:Int)=(0:Int))))) (cond v2
  (some [(.sl .is ([]:List Int)),(.b true)])
  (ck (oq v4 v4 8) (ck (decide ((a).length≤256)&&Gz.ie a) (ck (decide ((b).length≤256)&&Gz.ie b) (bL.l1 a b (Gz.gS b) (Gz.gS a) v6 (0:Int) v5))))))))))))=ρ):bL.F a b=ρ:=Eq.trans (by kernel_rfl) (K _ rfl _ rfl _ rfl _ rfl _ rfl _ rfl)
def da.E:cC:=cT fQ zs []
def da.h:Hint := .s .o (.s (.b (.l (sc [0]) .o)) .o)
def da.F (a:List UInt16):OT:=cR PG da.E 201 da.sg da.h [(.sl .ws a)]
def da.l1 (x0:List UInt16):OT:=dQ PG da.E 201 da.sg da.h 9 [(.sl .ws x0)]
theorem da.bV (x0:List UInt16) {ρ:OT} (K:∀(v1:Int) (h1:v1=(IntKind.i64.wrap (((x0).length:Int) - (1:Int)))) (v2:UInt16) (h2:v2=(List.getD x0 (v1).toNat (0:UInt16))) (v3:Bool) (h3:v3=(cond (decide ((0:Int)<((x0).length:Int))) (decide (v2=(0:UInt16))) false)),ck (!(decide ((0:Int)<((x0).length:Int))) || (decide ((0:Int)<((x0).length:Int)))) (ck (!(decide ((0:Int)<((x0).length:Int))) || (decide ((0:Int)<((x0).length:Int)))) (ck (!(decide ((0:Int)<((x0).length:Int))) || (((decide ((0:Int)<((x0).length:Int)))&&(decide ((0:Int)<((x0).length:Int))))&&(bB v1 (x0).length))) (ck (!(decide ((0:Int)<((x0).length:Int))) || (decide ((0:Int)<((x0).length:Int)))) (ck (!(decide ((0:Int)<((x0).length:Int))) || (decide ((0:Int)<((x0).length:Int)))) (ck (!(decide ((0:Int)<((x0).length:Int))) || (decide ((0:Int)<((x0).length:Int)))) (cond v3
  (ck (gA 0 v1 (x0).length) (da.l1 (List.take (v1).toNat x0)))
  (some [(.sl .ws x0)])))))))=ρ):da.l1 x0=ρ:=((bU _ _ _ _ _ _ _).trans (by kernel_rfl)).trans (K _ rfl _ rfl _ rfl)
theorem da.eJ (a:List UInt16):da.F a=da.l1 a:=by kernel_rfl
def bg_Is.E:cC:=cT fQ zs []
def bg_Is.h:Hint := .o
def bg_Is.F (a:List UInt16):OT:=cR PG bg_Is.E 166 bg_Is.sg bg_Is.h [(.sl .ws a)]
theorem bg_Is.bZ (a:List UInt16) {ρ:OT} (K:∀(v1:Bool) (h1:v1=((decide (((a).length:Int)≤(256:Int)))&&(!(decide (((a).length:Int)=(0:Int)))))) (v2:Int) (h2:v2=(IntKind.i64.wrap (((a).length:Int) - (1:Int)))) (v3:UInt16) (h3:v3=(List.getD a (v2).toNat (0:UInt16))) (v4:Bool) (h4:v4=(cond (decide (((a).length:Int)=(0:Int))) true (!decide (v3=(0:UInt16))))) (v5:Bool) (h5:v5=(cond (decide (((a).length:Int)≤(256:Int))) v4 false)),ck (!(decide (((a).length:Int)≤(256:Int))) || (decide (((a).length:Int)≤(256:Int)))) (ck (!(decide (((a).length:Int)≤(256:Int))) || (decide (((a).length:Int)≤(256:Int)))) (ck (!(decide (((a).length:Int)≤(256:Int))) || (decide (((a).length:Int)≤(256:Int)))) (ck (!v1 || v1) (ck (!v1 || v1) (ck (!v1 || ((v1&&v1)&&(bB v2 (a).length))) (ck (!v1 || v1) (ck (!v1 || v1) (ck (!(decide (((a).length:Int)≤(256:Int))) || ((decide (((a).length:Int)≤(256:Int)))&&((decide (((a).length:Int)=(0:Int))) || v1))) (ck (!(decide (((a).length:Int)≤(256:Int))) || (decide (((a).length:Int)≤(256:Int)))) (some [(.b v5)]))))))))))=ρ):bg_Is.F a=ρ:=Eq.trans (by kernel_rfl) (K _ rfl _ rfl _ rfl _ rfl _ rfl)
def eW.E:cC:=cT fQ zs []
def eW.h:Hint := .s .o (.s .o (.s (.b (.l [(0,.no),(3,.fA 800000),(800000,.pv)] .o)) .o))
def eW.F (v:UInt64):OT:=cR PG eW.E 140 eW.sg eW.h [(.u64 v)]
def eW.l1 (x0:UInt64) (x1:List UInt16):OT:=dQ PG eW.E 140 eW.sg eW.h 19 [(.u64 x0),.pt,(.sl .ws x1)]
theorem eW.bV (x0:UInt64) (x1:List UInt16) {ρ:OT} (K:∀(v1:UInt16) (h1:v1=(UInt16.ofInt ((x0).toNat:Int))) (v2:UInt64) (h2:v2=(dD x0 (((16:UInt64)).toNat))),cond (decide ((0:UInt64)<x0))
  (ck (fC ((x1).length+(([v1]:List UInt16)).length) 2) (eW.l1 v2 (x1++([v1]:List UInt16))))
  (some [(.sl .ws x1)])=ρ):eW.l1 x0 x1=ρ:=((bU _ _ _ _ _ _ _).trans (by kernel_rfl)).trans (K _ rfl _ rfl)
theorem eW.eJ (v:UInt64):eW.F v=eW.l1 v ([]:List UInt16):=by kernel_rfl
end
end Go.Eng
set_option maxRecDepth 100000
namespace Go.Eng
open Go.Proofs
noncomputable section
def dj.E:cC:=cT fQ zs [(166,(bg_Is.c,bg_Is.sg))]
def dj.h:Hint := .s .o (.s .o (.s .o (.s (.s .o (.b (.l (sc [4,15,16,17]) .o))) .o)))
def dj.F (a:List UInt16):OT:=cR PG dj.E 251 dj.sg dj.h [(.sl .ws a)]
def dj.l1 (x0:UInt64) (x1:List UInt16) (x2:Int) (x3:Int):OT:=dQ PG dj.E 251 dj.sg dj.h 87 [(.u64 x0),(.sl .ws x1),(.i .i64 x2),(.i .i64 x3)]
theorem dj.bV (x0:UInt64) (x1:List UInt16) (x2:Int) (x3:Int) {ρ:OT} (K:∀(v1:UInt16) (h1:v1=(List.getD x1 (x3).toNat (0:UInt16))) (v2:UInt64) (h2:v2=(UInt64.ofInt ((v1).toNat:Int))) (v3:Int) (h3:v3=(IntKind.i64.wrap ((16:Int) * x3))) (v4:UInt64) (h4:v4=(x0 ||| (iK v2 ((v3).toNat)))) (v5:Int) (h5:v5=(IntKind.i64.wrap (x3+(1:Int)))),cond (decide (x3<x2))
  (ck (bB x3 (x1).length) (ck (decide (0≤v3)) (dj.l1 v4 x1 x2 v5)))
  (some [(.u64 x0),(.b true)])=ρ):dj.l1 x0 x1 x2 x3=ρ:=((bU _ _ _ _ _ _ _).trans (by kernel_rfl)).trans (K _ rfl _ rfl _ rfl _ rfl _ rfl)
theorem dj.bZ (a:List UInt16) {ρ:OT} (K:∀(v1:Bool) (h1:v1=(cond (!(Nt.is a)) true (decide ((4:Int)<((a).length:Int))))),ck (decide ((a).length≤1099511627776)) (ck (!(!(!(Nt.is a))) || (!(!(Nt.is a)))) (ck (!(!(!(Nt.is a))) || (!(!(Nt.is a)))) (ck ((!(Nt.is a)) || (!(!(Nt.is a)))) (cond v1
  (some [(.u64 0),(.b false)])
  (dj.l1 (0:UInt64) a ((a).length:Int) (0:Int))))))=ρ):dj.F a=ρ:=Eq.trans (by kernel_rfl) (K _ rfl)
def fH.E:cC:=cT fQ zs [(166,(bg_Is.c,bg_Is.sg)),(168,(bX.c,bX.sg))]
def fH.h:Hint := .o
def fH.F (a:List UInt16):OT:=cR PG fH.E 142 fH.sg fH.h [(.sl .ws a)]
theorem fH.bZ (a:List UInt16) {ρ:OT} (K:∀(v1:Bool) (h1:v1=(cond (!(Nt.is a)) true (decide (((a).length:Int)=(0:Int))))) (v2:Int) (h2:v2=(IntKind.i64.wrap (((a).length:Int) - (1:Int)))) (v3:Int) (h3:v3=(IntKind.i64.wrap ((16:Int) * v2))) (v4:UInt16) (h4:v4=(List.getD a (v2).toNat (0:UInt16))) (v5:Int) (h5:v5=(IntKind.i64.wrap (v3+((Nt.bits (v4).toNat:Int))))),ck (decide ((a).length≤1099511627776)) (ck (!(!(!(Nt.is a))) || (!(!(Nt.is a)))) (ck (!(!(!(Nt.is a))) || (!(!(Nt.is a)))) (ck ((!(Nt.is a)) || (!(!(Nt.is a)))) (cond v1
  (some [(.i .i64 0)])
  (ck (bB v2 (a).length) (some [(.i .i64 v5)]))))))=ρ):fH.F a=ρ:=Eq.trans (by kernel_rfl) (K _ rfl _ rfl _ rfl _ rfl _ rfl)
def eC.E:cC:=cT fQ zs []
def eC.h:Hint := .s .o (.s .o (.s (.s .o (.b (.l (sc [0,1,5]) .o))) .o))
def eC.F (a:List UInt16) (b:List UInt16):OT:=cR PG eC.E 197 eC.sg eC.h [(.sl .ws a),(.sl .ws b)]
def eC.l1 (x0:List UInt16) (x1:List UInt16) (x2:Int):OT:=dQ PG eC.E 197 eC.sg eC.h 43 [(.sl .ws x0),(.sl .ws x1),(.i .i64 x2)]
theorem eC.bV (x0:List UInt16) (x1:List UInt16) (x2:Int) {ρ:OT} (K:∀(v1:UInt16) (h1:v1=(List.getD x0 (x2).toNat (0:UInt16))) (v2:UInt16) (h2:v2=(List.getD x1 (x2).toNat (0:UInt16))) (v3:Int) (h3:v3=(IntKind.i64.wrap (x2 - (1:Int)))),cond (decide ((0:Int)≤x2))
  (ck (bB x2 (x0).length) (ck (bB x2 (x1).length) (cond (!decide (v1=v2))
  (ck (bB x2 (x0).length) (ck (bB x2 (x1).length) (cond (decide (v1<v2))
  (some [(.i .i64 (-1))])
  (some [(.i .i64 1)]))))
  (eC.l1 x0 x1 v3))))
  (some [(.i .i64 0)])=ρ):eC.l1 x0 x1 x2=ρ:=((bU _ _ _ _ _ _ _).trans (by kernel_rfl)).trans (K _ rfl _ rfl _ rfl)
theorem eC.bZ (a:List UInt16) (b:List UInt16) {ρ:OT} (K:∀(v1:Int) (h1:v1=(IntKind.i64.wrap (((a).length:Int) - (1:Int)))),cond (!decide (((a).length:Int)=((b).length:Int)))
  (cond (decide (((a).length:Int)<((b).length:Int)))
  (some [(.i .i64 (-1))])
  (some [(.i .i64 1)]))
  (eC.l1 a b v1)=ρ):eC.F a b=ρ:=Eq.trans (by kernel_rfl) (K _ rfl)
def fW.E:cC:=cT fQ zs [(166,(bg_Is.c,bg_Is.sg)),(197,(eC.c,eC.sg))]
def fW.h:Hint := .o
def fW.F (a:List UInt16) (b:List UInt16):OT:=cR PG fW.E 170 fW.sg fW.h [(.sl .ws a),(.sl .ws b)]
theorem fW.bZ (a:List UInt16) (b:List UInt16) {ρ:OT} (K:∀(v1:Bool) (h1:v1=(cond (!(Nt.is a)) true (!(Nt.is b)))) (v2:Int) (h2:v2=(Nt.cmp (Nt.val a) (Nt.val b))),ck (decide ((a).length≤1099511627776)) (ck (!(!(!(Nt.is a))) || ((!(!(Nt.is a)))&&(decide ((b).length≤1099511627776)))) (ck (!(!(!(Nt.is a))) || (!(!(Nt.is a)))) (ck ((!(Nt.is a)) || (!(!(Nt.is a)))) (cond v1
  (some [(.i .i64 0)])
  (ck (decide ((a).length≤1099511627776∧(b).length≤1099511627776)&&(Nt.norm a&&Nt.norm b)) (some [(.i .i64 v2)]))))))=ρ):fW.F a b=ρ:=Eq.trans (by kernel_rfl) (K _ rfl _ rfl)
def cq.E:cC:=cT fQ zs []
def cq.h:Hint := .s .o (.s .o (.s (.s .o (.b (.l [(3,.fA 800000),(9,.no),(10,.no),(11,.no),(800000,.pv)] .o))) .o))
def cq.F (a:List UInt16):OT:=cR PG cq.E 220 cq.sg cq.h [(.sl .ws a)]
def cq.l1 (x0:List UInt16) (x1:Int) (x2:Int) (x3:List Int):OT:=dQ PG cq.E 220 cq.sg cq.h 43 [.pt,(.sl .ws x0),(.i .i64 x1),(.i .i64 x2),(.sl .is x3)]
theorem cq.bV (x0:List UInt16) (x1:Int) (x2:Int) (x3:List Int) {ρ:OT} (K:∀(v1:UInt16) (h1:v1=(List.getD x0 (x2).toNat (0:UInt16))) (v2:Int) (h2:v2=(IntKind.i64.wrap ((v1).toNat:Int))) (v3:List Int) (h3:v3=(List.set x3 ((x2).toNat) v2)) (v4:Int) (h4:v4=(IntKind.i64.wrap (x2+(1:Int)))),cond (decide (x2<x1))
  (ck (bB x2 (x0).length) (ck (bB x2 (x3).length) (ck (decide ((x2).toNat<(x3).length)) (cq.l1 x0 x1 v4 v3))))
  (some [(.sl .is x3)])=ρ):cq.l1 x0 x1 x2 x3=ρ:=((bU _ _ _ _ _ _ _).trans (by kernel_rfl)).trans (K _ rfl _ rfl _ rfl _ rfl)
theorem cq.bZ (a:List UInt16) {ρ:OT} (K:∀(v1:List Int) (h1:v1=(List.replicate (((a).length:Int)).toNat (0:Int))),ck (oq ((a).length:Int) ((a).length:Int) 8) (cq.l1 a ((a).length:Int) (0:Int) v1)=ρ):cq.F a=ρ:=Eq.trans (by kernel_rfl) (K _ rfl)
def dp.E:cC:=cT fQ zs [(166,(bg_Is.c,bg_Is.sg)),(201,(da.c,da.sg)),(219,(bL.c,bL.sg)),(220,(cq.c,cq.sg))]
def dp.h:Hint := .s .o (.s .o (.s .o (.s .o (.s .o (.s (.s .o (.b (.l [(7,.fA 800000),(800000,.pv),(8,.no),(27,.no),(28,.no),(29,.no)] .o))) (.s (.b (.l [(7,.fA 800000),(800000,.pv),(8,.no)] .o)) .o))))))
def dp.F (a:List UInt16) (b:List UInt16):OT:=cR PG dp.E 196 dp.sg dp.h [(.sl .ws a),(.sl .ws b)]
def dp.l1 (x0:List UInt16) (x1:Int) (x2:List Int) (x3:Int) (x4:Int):OT:=dQ PG dp.E 196 dp.sg dp.h 351 [.pt,(.sl .ws x0),(.i .i64 x1),(.sl .is x2),(.i .i64 x3),(.i .i64 x4)]
def dp.l2 (x0:List UInt16) (x1:Int):OT:=dQ PG dp.E 196 dp.sg dp.h 319 [.pt,(.sl .ws x0),(.i .i64 x1)]
theorem dp.bV (x0:List UInt16) (x1:Int) (x2:List Int) (x3:Int) (x4:Int) {ρ:OT} (K:∀(v1:Int) (h1:v1=(List.getD x2 (x4).toNat (0:Int))) (v2:UInt16) (h2:v2=(UInt16.ofInt (IntKind.i64.wrap (x1+v1)))) (v3:Int) (h3:v3=(Int.fdiv (IntKind.i64.wrap (x1+v1)) (2 ^ (min (((16:UInt64)).toNat) (IntKind.i64.bits))))) (v4:Int) (h4:v4=(IntKind.i64.wrap (x4+(1:Int)))),cond (decide (x4<x3))
  (ck (bB x4 (x2).length) (ck (fC ((x0).length+(([v2]:List UInt16)).length) 2) (dp.l1 (x0++([v2]:List UInt16)) v3 x2 x3 v4)))
  (dp.l2 x0 x1)=ρ):dp.l1 x0 x1 x2 x3 x4=ρ:=((bU _ _ _ _ _ _ _).trans (by kernel_rfl)).trans (K _ rfl _ rfl _ rfl _ rfl)
theorem dp.iw (x0:List UInt16) (x1:Int) {ρ:OT} (K:∀(v1:List UInt16) (h1:v1=([(UInt16.ofInt x1)]:List UInt16)) (v2:Int) (h2:v2=(Int.fdiv x1 (2 ^ (min (((16:UInt64)).toNat) (IntKind.i64.bits))))),cond (decide ((0:Int)<x1))
  (ck (fC ((x0).length+(v1).length) 2) (dp.l2 (x0++v1) v2))
  (ck (decide ((x0).length≤1099511627776)) (some [(.sl .ws (Nt.of (Nt.val x0)))]))=ρ):dp.l2 x0 x1=ρ:=((bU _ _ _ _ _ _ _).trans (by kernel_rfl)).trans (K _ rfl _ rfl)
theorem dp.bZ (a:List UInt16) (b:List UInt16) {ρ:OT} (K:∀(v1:Bool) (h1:v1=(cond (!(Nt.is a)) true (!(Nt.is b)))) (v2:List Int) (h2:v2=((a).map fun d=>(d.toNat:Int))) (v3:List Int) (h3:v3=((b).map fun d=>(d.toNat:Int))) (v4:Int) (h4:v4=(((Gz.conv v2 v3)).length:Int)),ck (decide ((a).length≤1099511627776)) (ck (!(!(!(Nt.is a))) || ((!(!(Nt.is a)))&&(decide ((b).length≤1099511627776)))) (ck (!(!(!(Nt.is a))) || (!(!(Nt.is a)))) (ck ((!(Nt.is a)) || (!(!(Nt.is a)))) (cond v1
  (some [(.sl .ws ([]:List UInt16))])
  (ck (decide ((a).length≤256)) (ck (decide ((b).length≤256)) (ck (decide ((v2).length≤256∧(v3).length≤256)&&(Gz.ie v2&&Gz.ie v3)) (dp.l1 ([]:List UInt16) (0:Int) (Gz.conv v2 v3) v4 (0:Int)))))))))=ρ):dp.F a b=ρ:=Eq.trans (by kernel_rfl) (K _ rfl _ rfl _ rfl _ rfl)
def ez.E:cC:=cT fQ zs [(201,(da.c,da.sg))]
def ez.h:Hint := .s .o (.s .o (.s .o (.s (.s .o (.b (.l [(0,.no),(1,.no),(6,.fA 800000),(7,.no),(8,.no),(800000,.pv)] .o))) .o)))
def ez.F (a:List UInt16) (d:UInt16):OT:=cR PG ez.E 199 ez.sg ez.h [(.sl .ws a),(.u16 d)]
def ez.l1 (x0:List UInt16) (x1:UInt16) (x2:UInt32) (x3:Int) (x4:List UInt16):OT:=dQ PG ez.E 199 ez.sg ez.h 87 [(.sl .ws x0),(.u16 x1),.pt,(.u32 x2),(.i .i64 x3),(.sl .ws x4)]
theorem ez.bV (x0:List UInt16) (x1:UInt16) (x2:UInt32) (x3:Int) (x4:List UInt16) {ρ:OT} (K:∀(v1:UInt32) (h1:v1=(oI x2 (((16:UInt64)).toNat))) (v2:UInt16) (h2:v2=(List.getD x0 (x3).toNat (0:UInt16))) (v3:UInt32) (h3:v3=(UInt32.ofInt ((v2).toNat:Int))) (v4:UInt32) (h4:v4=(UInt32.ofInt ((x1).toNat:Int))) (v5:UInt16) (h5:v5=(UInt16.ofInt ((((v1 ||| v3) / v4)).toNat:Int))) (v6:List UInt16) (h6:v6=(List.set x4 ((x3).toNat) v5)) (v7:Int) (h7:v7=(IntKind.i64.wrap (x3 - (1:Int)))) (v8:UInt16) (h8:v8=(UInt16.ofInt ((x2).toNat:Int))),cond (decide ((0:Int)≤x3))
  (ck (bB x3 (x0).length) (ck (!decide (v4=0)) (ck (bB x3 (x4).length) (ck (decide ((x3).toNat<(x4).length)) (ck (!decide (v4=0)) (ez.l1 x0 x1 ((v1 ||| v3) % v4) v7 v6))))))
  (ck (decide ((x4).length≤1099511627776)) (some [(.sl .ws (Nt.of (Nt.val x4))),(.u16 v8)]))=ρ):ez.l1 x0 x1 x2 x3 x4=ρ:=((bU _ _ _ _ _ _ _).trans (by kernel_rfl)).trans (K _ rfl _ rfl _ rfl _ rfl _ rfl _ rfl _ rfl _ rfl)
theorem ez.bZ (a:List UInt16) (d:UInt16) {ρ:OT} (K:∀(v1:List UInt16) (h1:v1=(List.replicate (((a).length:Int)).toNat (0:UInt16))) (v2:Int) (h2:v2=(IntKind.i64.wrap (((a).length:Int) - (1:Int)))),ck (oq ((a).length:Int) ((a).length:Int) 2) (ez.l1 a d (0:UInt32) v2 v1)=ρ):ez.F a d=ρ:=Eq.trans (by kernel_rfl) (K _ rfl _ rfl)
def eO.E:cC:=cT fQ zs []
def eO.h:Hint := .s .o (.s .o (.s .o (.s (.s .o (.b (.l [(1,.no),(5,.fA 800000),(800000,.pv),(6,.no),(9,.no),(10,.no),(11,.no)] .o))) (.j [(5,.fA 800000),(800000,.pv)] .o .o))))
def eO.F (a:List UInt16) (n:Int):OT:=cR PG eO.E 167 eO.sg eO.h [(.sl .ws a),(.i .i64 n)]
def eO.l1 (x0:Int) (x1:List UInt16) (x2:UInt32) (x3:List UInt16) (x4:Int) (x5:Int):OT:=dQ PG eO.E 167 eO.sg eO.h 87 [(.i .i64 x0),.pt,(.sl .ws x1),(.u32 x2),(.sl .ws x3),(.i .i64 x4),(.i .i64 x5)]
def eO.j2 (x0:List UInt16):OT:=eD PG eO.E 167 eO.sg eO.h 31 [.pt,(.sl .ws x0)]
theorem eO.bV (x0:Int) (x1:List UInt16) (x2:UInt32) (x3:List UInt16) (x4:Int) (x5:Int) {ρ:OT} (K:∀(v1:UInt16) (h1:v1=(List.getD x3 (x5).toNat (0:UInt16))) (v2:UInt32) (h2:v2=(UInt32.ofInt ((v1).toNat:Int))) (v3:UInt32) (h3:v3=(x2 ||| (oI v2 ((x0).toNat)))) (v4:UInt16) (h4:v4=(UInt16.ofInt ((v3).toNat:Int))) (v5:UInt32) (h5:v5=(rW v3 (((16:UInt64)).toNat))) (v6:Int) (h6:v6=(IntKind.i64.wrap (x5+(1:Int)))) (v7:UInt16) (h7:v7=(UInt16.ofInt ((x2).toNat:Int))),cond (decide (x5<x4))
  (ck (bB x5 (x3).length) (ck (decide (0≤x0)) (ck (fC ((x1).length+(([v4]:List UInt16)).length) 2) (eO.l1 x0 (x1++([v4]:List UInt16)) v5 x3 x4 v6))))
  (cond (decide ((0:UInt32)<x2))
  (ck (fC ((x1).length+(([v7]:List UInt16)).length) 2) (eO.j2 (x1++([v7]:List UInt16))))
  (eO.j2 x1))=ρ):eO.l1 x0 x1 x2 x3 x4 x5=ρ:=((bU _ _ _ _ _ _ _).trans (by kernel_rfl)).trans (K _ rfl _ rfl _ rfl _ rfl _ rfl _ rfl _ rfl)
theorem eO.jZ (x0:List UInt16):eO.j2 x0=some [(.sl .ws x0)]:=((b9 _ _ _ _ _ _ _).trans (by kernel_rfl))
theorem eO.eJ (a:List UInt16) (n:Int):eO.F a n=eO.l1 n ([]:List UInt16) (0:UInt32) a ((a).length:Int) (0:Int):=by kernel_rfl
def cV.E:cC:=cT fQ zs [(201,(da.c,da.sg))]
def cV.h:Hint := .s .o (.s .o (.s (.s .o (.b (.l [(0,.no),(1,.no),(5,.fA 800000),(11,.no),(12,.no),(13,.no),(800000,.pv)] (.s .o (.s .o (.j [(0,.no),(1,.no),(5,.fA 800000),(11,.no),(12,.no),(13,.no),(800000,.pv)] .o .o)))))) .o))
def cV.F (a:List UInt16) (n:Int):OT:=cR PG cV.E 202 cV.sg cV.h [(.sl .ws a),(.i .i64 n)]
def cV.l1 (x0:List UInt16) (x1:Int) (x2:List UInt16) (x3:Int) (x4:Int) (x5:List UInt16):OT:=dQ PG cV.E 202 cV.sg cV.h 43 [(.sl .ws x0),(.i .i64 x1),.pt,(.sl .ws x2),(.i .i64 x3),(.i .i64 x4),(.sl .ws x5)]
def cV.j2 (x0:List UInt16) (x1:Int) (x2:List UInt16) (x3:Int) (x4:Int) (x5:List UInt16):OT:=eD PG cV.E 202 cV.sg cV.h 459 [(.sl .ws x0),(.i .i64 x1),.pt,(.sl .ws x2),(.i .i64 x3),(.i .i64 x4),(.sl .ws x5)]
theorem cV.bV (x0:List UInt16) (x1:Int) (x2:List UInt16) (x3:Int) (x4:Int) (x5:List UInt16) {ρ:OT} (K:∀(v1:UInt16) (h1:v1=(List.getD x2 (x4).toNat (0:UInt16))) (v2:List UInt16) (h2:v2=(List.set x5 ((x4).toNat) (oH v1 ((x1).toNat)))) (v3:Int) (h3:v3=(IntKind.i64.wrap (x4+(1:Int)))) (v4:UInt16) (h4:v4=(List.getD v2 ((x4).toNat) (0:UInt16))) (v5:UInt16) (h5:v5=(List.getD x0 (v3).toNat (0:UInt16))) (v6:UInt32) (h6:v6=(UInt32.ofInt ((v5).toNat:Int))) (v7:Int) (h7:v7=(IntKind.i64.wrap ((16:Int) - x1))) (v8:UInt16) (h8:v8=(UInt16.ofInt (((oI v6 ((v7).toNat))).toNat:Int))) (v9:List UInt16) (h9:v9=(List.set v2 ((x4).toNat) (v4 ||| v8))),cond (decide (x4<x3))
  (ck (bB x4 (x2).length) (ck (decide (0≤x1)) (ck (bB x4 (x5).length) (ck (decide ((x4).toNat<(x5).length)) (cond (decide (v3<((x0).length:Int)))
  (ck (bB x4 (v2).length) (ck (decide ((x4).toNat<(v2).length)) (ck (bB v3 (x0).length) (ck (decide (0≤v7)) (ck (bB x4 (v2).length) (ck (decide ((x4).toNat<(v2).length)) (cV.j2 x0 x1 x2 x3 x4 v9)))))))
  (cV.j2 x0 x1 x2 x3 x4 v2))))))
  (ck (decide ((x5).length≤1099511627776)) (some [(.sl .ws (Nt.of (Nt.val x5)))]))=ρ):cV.l1 x0 x1 x2 x3 x4 x5=ρ:=((bU _ _ _ _ _ _ _).trans (by kernel_rfl)).trans (K _ rfl _ rfl _ rfl _ rfl _ rfl _ rfl _ rfl _ rfl _ rfl)
theorem cV.jg (x0:List UInt16) (x1:Int) (x2:List UInt16) (x3:Int) (x4:Int) (x5:List UInt16) {ρ:OT} (K:∀(v1:Int) (h1:v1=(IntKind.i64.wrap (x4+(1:Int)))),cV.l1 x0 x1 x2 x3 v1 x5=ρ):cV.j2 x0 x1 x2 x3 x4 x5=ρ:=((b9 _ _ _ _ _ _ _).trans (by kernel_rfl)).trans (K _ rfl)
theorem cV.bZ (a:List UInt16) (n:Int) {ρ:OT} (K:∀(v1:List UInt16) (h1:v1=(List.replicate (((a).length:Int)).toNat (0:UInt16))),ck (oq ((a).length:Int) ((a).length:Int) 2) (cV.l1 a n a ((a).length:Int) (0:Int) v1)=ρ):cV.F a n=ρ:=Eq.trans (by kernel_rfl) (K _ rfl)
def bE.E:cC:=cT fQ zs []
def bE.h:Hint := .s .o (.s .o (.s .o (.s .o (.s (.s .o (.b (.l [(0,.fA 800000),(1,.no),(4,.fA 800001),(6,.no),(7,.no),(800000,.pv),(800001,.pv)] (.s .o (.s (.b (.s .o (.s .o (.j [(0,.fA 800000),(1,.no),(4,.fA 800001),(6,.no),(7,.no),(9,.no),(800000,.pv),(800001,.pv)] (.b (.l [(0,.fA 800000),(1,.no),(4,.fA 800001),(6,.no),(7,.no),(9,.no),(10,.no),(800000,.pv),(800001,.pv)] .o)) (.s .o (.s (.s .o (.b (.l [(0,.fA 800000),(1,.no),(4,.fA 800001),(6,.no),(7,.no),(9,.no),(11,.no),(12,.no),(107,.no),(108,.no),(800000,.pv),(800001,.pv)] .o))) (.s .o (.s .o (.j [(0,.fA 800000),(1,.no),(4,.fA 800001),(6,.no),(7,.no),(9,.no),(800000,.pv),(800001,.pv)] (.s .o (.s (.s .o (.s .o (.s (.s .o (.b (.l [(0,.fA 800000),(1,.no),(4,.fA 800001),(6,.no),(7,.no),(9,.no),(17,.no),(169,.no),(170,.no),(800000,.pv),(800001,.pv)] .o))) .o))) .o)) .o))))))))) .o))))) .o))))
def bE.F (u:List UInt16) (v:List UInt16):OT:=cR PG bE.E 200 bE.sg bE.h [(.sl .ws u),(.sl .ws v)]
def bE.l1 (x0:List UInt16) (x1:Int) (x2:Int) (x3:List UInt16) (x4:List UInt16):OT:=dQ PG bE.E 200 bE.sg bE.h 175 [.pt,(.sl .ws x0),.pt,(.i .i64 x1),(.i .i64 x2),(.sl .ws x3),(.sl .ws x4)]
def bE.l2 (x0:List UInt16) (x1:Int) (x2:Int) (x3:UInt64) (x4:UInt64) (x5:List UInt16) (x6:List UInt16):OT:=dQ PG bE.E 200 bE.sg bE.h 39215 [.pt,(.sl .ws x0),.pt,(.i .i64 x1),(.i .i64 x2),(.u64 x3),(.u64 x4),(.sl .ws x5),(.sl .ws x6)]
def bE.j3 (x0:List UInt16) (x1:Int) (x2:Int) (x3:UInt64) (x4:List UInt16) (x5:List UInt16):OT:=eD PG bE.E 200 bE.sg bE.h 14639 [.pt,(.sl .ws x0),.pt,(.i .i64 x1),(.i .i64 x2),(.u64 x3),(.sl .ws x4),(.sl .ws x5)]
def bE.l4 (x0:List UInt16) (x1:Int) (x2:Int) (x3:UInt64) (x4:Int) (x5:UInt64) (x6:Int) (x7:Int) (x8:List UInt16) (x9:List UInt16):OT:=dQ PG bE.E 200 bE.sg bE.h 358703 [.pt,(.sl .ws x0),.pt,(.i .i64 x1),(.i .i64 x2),(.u64 x3),(.i .i64 x4),(.u64 x5),(.i .i64 x6),(.i .i64 x7),(.sl .ws x8),(.sl .ws x9)]
def bE.l5 (x0:List UInt16) (x1:Int) (x2:Int) (x3:UInt64) (x4:UInt32) (x5:Int) (x6:Int) (x7:List UInt16) (x8:List UInt16):OT:=dQ PG bE.E 200 bE.sg bE.h 90962223 [.pt,(.sl .ws x0),.pt,(.i .i64 x1),(.i .i64 x2),(.u64 x3),(.u32 x4),(.i .i64 x5),(.i .i64 x6),(.sl .ws x7),(.sl .ws x8)]
def bE.j6 (x0:List UInt16) (x1:Int) (x2:Int) (x3:UInt64) (x4:List UInt16) (x5:List UInt16):OT:=eD PG bE.E 200 bE.sg bE.h 522543 [.pt,(.sl .ws x0),.pt,(.i .i64 x1),(.i .i64 x2),(.u64 x3),(.sl .ws x4),(.sl .ws x5)]
theorem bE.bV (x0:List UInt16) (x1:Int) (x2:Int) (x3:List UInt16) (x4:List UInt16) {ρ:OT} (K:∀(v1:Nat) (h1:v1=(((IntKind.i64.wrap (x2+x1))).toNat)) (v2:UInt16) (h2:v2=(List.getD x3 (v1) (0:UInt16))) (v3:UInt64) (h3:v3=(UInt64.ofInt ((v2).toNat:Int))) (v4:UInt64) (h4:v4=(iK v3 (((16:UInt64)).toNat))) (v5:Int) (h5:v5=(IntKind.i64.wrap ((IntKind.i64.wrap (x2+x1)) - (1:Int)))) (v6:UInt16) (h6:v6=(List.getD x3 ((v5).toNat) (0:UInt16))) (v7:UInt64) (h7:v7=(UInt64.ofInt ((v6).toNat:Int))) (v8:Int) (h8:v8=(IntKind.i64.wrap (x1 - (1:Int)))) (v9:UInt16) (h9:v9=(List.getD x0 (v8).toNat (0:UInt16))) (v10:UInt64) (iA:v10=(UInt64.ofInt ((v9).toNat:Int))),cond (decide ((0:Int)≤x2))
  (ck (bB (IntKind.i64.wrap (x2+x1)) (x3).length) (ck (decide (v1<(x3).length)) (ck (bB v5 (x3).length) (ck (decide ((v5).toNat<(x3).length)) (ck (bB v8 (x0).length) (ck (!decide (v10=0)) (ck (bB v8 (x0).length) (ck (!decide (v10=0)) (bE.l2 x0 x1 x2 ((v4 ||| v7) / v10) ((v4 ||| v7) % v10) x3 x4)))))))))
  (ck (gA 0 x1 (x3).length) (some [(.sl .ws x4),(.sl .ws (List.take (x1).toNat x3))]))=ρ):bE.l1 x0 x1 x2 x3 x4=ρ:=((bU _ _ _ _ _ _ _).trans (by kernel_rfl)).trans (K _ rfl _ rfl _ rfl _ rfl _ rfl _ rfl _ rfl _ rfl _ rfl _ rfl)
theorem bE.iw (x0:List UInt16) (x1:Int) (x2:Int) (x3:UInt64) (x4:UInt64) (x5:List UInt16) (x6:List UInt16) {ρ:OT} (K:∀(v1:Int) (h1:v1=(IntKind.i64.wrap (x1 - (2:Int)))) (v2:UInt16) (h2:v2=(List.getD x0 (v1).toNat (0:UInt16))) (v3:UInt64) (h3:v3=(UInt64.ofInt ((v2).toNat:Int))) (v4:UInt64) (h4:v4=(iK x4 (((16:UInt64)).toNat))) (v5:Int) (h5:v5=(IntKind.i64.wrap ((IntKind.i64.wrap (x2+x1)) - (2:Int)))) (v6:UInt16) (h6:v6=(List.getD x5 ((v5).toNat) (0:UInt16))) (v7:UInt64) (h7:v7=(UInt64.ofInt ((v6).toNat:Int))) (v8:Bool) (h8:v8=(decide ((v4 ||| v7)<(x3 * v3)))) (v9:Bool) (h9:v9=(cond (decide ((65535:UInt64)<x3)) true v8)) (v10:Int) (iA:v10=(IntKind.i64.wrap (x1 - (1:Int)))) (v11:UInt16) (ki:v11=(List.getD x0 (v10).toNat (0:UInt16))) (v12:UInt64) (jE:v12=(UInt64.ofInt ((v11).toNat:Int))),ck (!(!(decide ((65535:UInt64)<x3))) || (!(decide ((65535:UInt64)<x3)))) (ck (!(!(decide ((65535:UInt64)<x3))) || (((!(decide ((65535:UInt64)<x3)))&&(!(decide ((65535:UInt64)<x3))))&&(bB v1 (x0).length))) (ck (!(!(decide ((65535:UInt64)<x3))) || (!(decide ((65535:UInt64)<x3)))) (ck (!(!(decide ((65535:UInt64)<x3))) || (!(decide ((65535:UInt64)<x3)))) (ck (!(!(decide ((65535:UInt64)<x3))) || ((!(decide ((65535:UInt64)<x3)))&&(!(decide ((65535:UInt64)<x3))))) (ck (!(!(decide ((65535:UInt64)<x3))) || (!(decide ((65535:UInt64)<x3)))) (ck (!(!(decide ((65535:UInt64)<x3))) || ((!(decide ((65535:UInt64)<x3)))&&(!(decide ((65535:UInt64)<x3))))) (ck (!(!(decide ((65535:UInt64)<x3))) || (!(decide ((65535:UInt64)<x3)))) (ck (!(!(decide ((65535:UInt64)<x3))) || (((!(decide ((65535:UInt64)<x3)))&&(!(decide ((65535:UInt64)<x3))))&&(bB v5 (x5).length))) (ck (!(!(decide ((65535:UInt64)<x3))) || ((!(decide ((65535:UInt64)<x3)))&&(decide ((v5).toNat<(x5).length)))) (ck (!(!(decide ((65535:UInt64)<x3))) || (!(decide ((65535:UInt64)<x3)))) (ck (!(!(decide ((65535:UInt64)<x3))) || ((!(decide ((65535:UInt64)<x3)))&&(!(decide ((65535:UInt64)<x3))))) (ck (!(!(decide ((65535:UInt64)<x3))) || ((!(decide ((65535:UInt64)<x3)))&&(!(decide ((65535:UInt64)<x3))))) (ck ((decide ((65535:UInt64)<x3)) || (!(decide ((65535:UInt64)<x3)))) (cond v9
  (ck (bB v10 (x0).length) (cond (decide ((65535:UInt64)<(x4+v12)))
  (bE.j3 x0 x1 x2 (x3 - (1:UInt64)) x5 x6)
  (bE.l2 x0 x1 x2 (x3 - (1:UInt64)) (x4+v12) x5 x6)))
  (bE.j3 x0 x1 x2 x3 x5 x6)))))))))))))))=ρ):bE.l2 x0 x1 x2 x3 x4 x5 x6=ρ:=((bU _ _ _ _ _ _ _).trans (by kernel_rfl)).trans (K _ rfl _ rfl _ rfl _ rfl _ rfl _ rfl _ rfl _ rfl _ rfl _ rfl _ rfl _ rfl)
theorem bE.LC (x0:List UInt16) (x1:Int) (x2:Int) (x3:UInt64) (x4:List UInt16) (x5:List UInt16):bE.j3 x0 x1 x2 x3 x4 x5=bE.l4 x0 x1 x2 x3 (0:Int) (0:UInt64) x1 (0:Int) x4 x5:=((b9 _ _ _ _ _ _ _).trans (by kernel_rfl))
theorem bE.xv (x0:List UInt16) (x1:Int) (x2:Int) (x3:UInt64) (x4:Int) (x5:UInt64) (x6:Int) (x7:Int) (x8:List UInt16) (x9:List UInt16) {ρ:OT} (K:∀(v1:UInt16) (h1:v1=(List.getD x0 (x7).toNat (0:UInt16))) (v2:UInt64) (h2:v2=(UInt64.ofInt ((v1).toNat:Int))) (v3:UInt64) (h3:v3=(dD ((x3 * v2)+x5) (((16:UInt64)).toNat))) (v4:Nat) (h4:v4=(((IntKind.i64.wrap (x7+x2))).toNat)) (v5:UInt16) (h5:v5=(List.getD x8 (v4) (0:UInt16))) (v6:Int) (h6:v6=(IntKind.i64.wrap ((v5).toNat:Int))) (v7:UInt64) (h7:v7=(((x3 * v2)+x5) &&& (65535:UInt64))) (v8:Int) (h8:v8=(IntKind.i64.wrap ((v7).toNat:Int))) (v9:Int) (h9:v9=(IntKind.i64.wrap ((IntKind.i64.wrap (v6 - x4)) - v8))) (v10:Int) (iA:v10=(Int.fdiv v9 (2 ^ (min (((16:UInt64)).toNat) (IntKind.i64.bits))))) (v11:Int) (ki:v11=(cI .and .i64 v10 (1:Int))) (v12:List UInt16) (jE:v12=(List.set x8 (v4) (UInt16.ofInt v9))) (kW:Int) (nY:kW=(IntKind.i64.wrap (x7+(1:Int)))) (jP:Nat) (pA:jP=(((IntKind.i64.wrap (x2+x1))).toNat)) (iD:UInt16) (o8:iD=(List.getD x8 (jP) (0:UInt16))) (mS:Int) (tO:mS=(IntKind.i64.wrap ((iD).toNat:Int))) (nT:Int) (xI:nT=(IntKind.i64.wrap (mS - x4))) (lO:Int) (wi:lO=(IntKind.i64.wrap ((x5).toNat:Int))) (qJ:Int) (BU:qJ=(IntKind.i64.wrap (nT - lO))) (v20:List UInt16) (zF:v20=(List.set x8 (jP) (UInt16.ofInt qJ))),cond (decide (x7<x6))
  (ck (bB x7 (x0).length) (ck (bB (IntKind.i64.wrap (x7+x2)) (x8).length) (ck (decide (v4<(x8).length)) (ck (bB (IntKind.i64.wrap (x7+x2)) (x8).length) (ck (decide (v4<(x8).length)) (bE.l4 x0 x1 x2 x3 v11 v3 x6 kW v12 x9))))))
  (ck (bB (IntKind.i64.wrap (x2+x1)) (x8).length) (ck (decide (jP<(x8).length)) (ck (bB (IntKind.i64.wrap (x2+x1)) (x8).length) (ck (decide (jP<(x8).length)) (cond (decide (qJ<(0:Int)))
  (bE.l5 x0 x1 x2 (x3 - (1:UInt64)) (0:UInt32) x1 (0:Int) v20 x9)
  (bE.j6 x0 x1 x2 x3 v20 x9))))))=ρ):bE.l4 x0 x1 x2 x3 x4 x5 x6 x7 x8 x9=ρ:=((bU _ _ _ _ _ _ _).trans (by kernel_rfl)).trans (K _ rfl _ rfl _ rfl _ rfl _ rfl _ rfl _ rfl _ rfl _ rfl _ rfl _ rfl _ rfl _ rfl _ rfl _ rfl _ rfl _ rfl _ rfl _ rfl _ rfl)
theorem bE.AB (x0:List UInt16) (x1:Int) (x2:Int) (x3:UInt64) (x4:UInt32) (x5:Int) (x6:Int) (x7:List UInt16) (x8:List UInt16) {ρ:OT} (K:∀(v1:Nat) (h1:v1=(((IntKind.i64.wrap (x6+x2))).toNat)) (v2:UInt16) (h2:v2=(List.getD x7 (v1) (0:UInt16))) (v3:UInt32) (h3:v3=(UInt32.ofInt ((v2).toNat:Int))) (v4:UInt16) (h4:v4=(List.getD x0 (x6).toNat (0:UInt16))) (v5:UInt32) (h5:v5=(UInt32.ofInt ((v4).toNat:Int))) (v6:UInt16) (h6:v6=(UInt16.ofInt (((x4+(v3+v5))).toNat:Int))) (v7:UInt32) (h7:v7=(rW (x4+(v3+v5)) (((16:UInt64)).toNat))) (v8:Int) (h8:v8=(IntKind.i64.wrap (x6+(1:Int)))) (v9:Nat) (h9:v9=(((IntKind.i64.wrap (x2+x1))).toNat)) (v10:UInt16) (iA:v10=(List.getD x7 (v9) (0:UInt16))) (v11:UInt16) (ki:v11=(UInt16.ofInt ((x4).toNat:Int))) (v12:List UInt16) (jE:v12=(List.set x7 (v9) (v10+v11))),cond (decide (x6<x5))
  (ck (bB (IntKind.i64.wrap (x6+x2)) (x7).length) (ck (decide (v1<(x7).length)) (ck (bB x6 (x0).length) (ck (bB (IntKind.i64.wrap (x6+x2)) (x7).length) (ck (decide (v1<(x7).length)) (bE.l5 x0 x1 x2 x3 v7 x5 v8 (List.set x7 (v1) v6) x8))))))
  (ck (bB (IntKind.i64.wrap (x2+x1)) (x7).length) (ck (decide (v9<(x7).length)) (ck (bB (IntKind.i64.wrap (x2+x1)) (x7).length) (ck (decide (v9<(x7).length)) (bE.j6 x0 x1 x2 x3 v12 x8)))))=ρ):bE.l5 x0 x1 x2 x3 x4 x5 x6 x7 x8=ρ:=((bU _ _ _ _ _ _ _).trans (by kernel_rfl)).trans (K _ rfl _ rfl _ rfl _ rfl _ rfl _ rfl _ rfl _ rfl _ rfl _ rfl _ rfl _ rfl)
theorem bE.DM (x0:List UInt16) (x1:Int) (x2:Int) (x3:UInt64) (x4:List UInt16) (x5:List UInt16) {ρ:OT} (K:∀(v1:UInt16) (h1:v1=(UInt16.ofInt ((x3).toNat:Int))) (v2:List UInt16) (h2:v2=(List.set x5 ((x2).toNat) v1)) (v3:Int) (h3:v3=(IntKind.i64.wrap (x2 - (1:Int)))),ck (bB x2 (x5).length) (ck (decide ((x2).toNat<(x5).length)) (bE.l1 x0 x1 v3 x4 v2))=ρ):bE.j6 x0 x1 x2 x3 x4 x5=ρ:=((b9 _ _ _ _ _ _ _).trans (by kernel_rfl)).trans (K _ rfl _ rfl _ rfl)
theorem bE.bZ (u:List UInt16) (v:List UInt16) {ρ:OT} (K:∀(v1:List UInt16) (h1:v1=([(0:UInt16)]:List UInt16)) (v2:Int) (h2:v2=(IntKind.i64.wrap ((((u++v1)).length:Int) - ((v).length:Int)))) (v3:List UInt16) (h3:v3=(List.replicate (v2).toNat (0:UInt16))) (v4:Int) (h4:v4=(IntKind.i64.wrap (v2 - (1:Int)))),ck (fC ((u).length+(v1).length) 2) (ck (oq v2 v2 2) (bE.l1 v ((v).length:Int) v4 (u++v1) v3))=ρ):bE.F u v=ρ:=Eq.trans (by kernel_rfl) (K _ rfl _ rfl _ rfl _ rfl)
def gK.E:cC:=cT fQ zs [(140,(eW.c,eW.sg)),(166,(bg_Is.c,bg_Is.sg)),(167,(eO.c,eO.sg)),(168,(bX.c,bX.sg)),(197,(eC.c,eC.sg)),(198,(eI.c,eI.sg)),(199,(ez.c,ez.sg)),(200,(bE.c,bE.sg)),(201,(da.c,da.sg)),(202,(cV.c,cV.sg))]
def gK.h:Hint := .o
def gK.F (a:List UInt16) (b:List UInt16):OT:=cR PG gK.E 171 gK.sg gK.h [(.sl .ws a),(.sl .ws b)]
theorem gK.bZ (a:List UInt16) (b:List UInt16) {ρ:OT} (K:∀(v1:Bool) (h1:v1=(cond (!(Nt.is a)) true (!(Nt.is b)))) (v2:Bool) (h2:v2=(cond v1 true (decide (((b).length:Int)=(0:Int))))) (v3:Int) (h3:v3=(Nt.cmp (Nt.val a) (Nt.val b))) (v4:UInt16) (h4:v4=(List.getD b ((0:Int)).toNat (0:UInt16))) (v5:List UInt16) (h5:v5=(Nt.of (Nt.val a / (v4).toNat))) (v6:UInt16) (h6:v6=(UInt16.ofNat (Nt.val a % (v4).toNat))) (v7:UInt64) (h7:v7=(UInt64.ofInt ((v6).toNat:Int))) (v8:Int) (h8:v8=(IntKind.i64.wrap (((b).length:Int) - (1:Int)))) (v9:UInt16) (h9:v9=(List.getD b (v8).toNat (0:UInt16))) (v10:Int) (iA:v10=(IntKind.i64.wrap ((16:Int) - ((Nt.bits (v9).toNat:Int))))) (v11:List UInt16) (ki:v11=(Nt.of (Nt.val a * 2 ^ (v10).toNat))) (v12:List UInt16) (jE:v12=(Nt.of (Nt.val b * 2 ^ (v10).toNat))) (kW:List UInt16) (nY:kW=(Nt.fix ((v11).length+1 - (v12).length) (Nt.val v11 / Nt.val v12))) (jP:List UInt16) (pA:jP=(Nt.fix (v12).length (Nt.val v11 % Nt.val v12))) (iD:List UInt16) (o8:iD=(Nt.of (Nt.val ((Nt.of (Nt.val jP))) / 2 ^ (v10).toNat))),ck (decide ((a).length≤1099511627776)) (ck (!(!(!(Nt.is a))) || ((!(!(Nt.is a)))&&(decide ((b).length≤1099511627776)))) (ck (!(!(!(Nt.is a))) || (!(!(Nt.is a)))) (ck ((!(Nt.is a)) || (!(!(Nt.is a)))) (ck (!(!v1) || (!v1)) (ck (!(!v1) || (!v1)) (ck (v1 || (!v1)) (cond v2
  (some [(.sl .ws ([]:List UInt16)),(.sl .ws ([]:List UInt16)),(.b false)])
  (ck (decide ((a).length≤1099511627776∧(b).length≤1099511627776)&&(Nt.norm a&&Nt.norm b)) (cond (decide (v3<(0:Int)))
  (ck (fC (a).length 2) (some [(.sl .ws ([]:List UInt16)),(.sl .ws (a)),(.b true)]))
  (cond (decide (((b).length:Int)=(1:Int)))
  (ck (bB (0:Int) (b).length) (ck (decide ((a).length≤1000000∧v4≠0)) (some [(.sl .ws v5),(.sl .ws (Nt.of (v7).toNat)),(.b true)])))
  (ck (bB v8 (b).length) (ck (decide ((a).length≤1000000∧0≤v10∧v10<16)&&Nt.norm a) (ck (decide ((b).length≤1000000∧0≤v10∧v10<16)&&Nt.norm b) (ck (decide ((v11).length≤1000000∧2≤(v12).length∧(v12).length≤(v11).length∧32768≤((v12).getLast?.getD 0).toNat)) (ck (decide ((kW).length≤1099511627776)) (ck (decide ((jP).length≤1099511627776)) (ck (decide ((((Nt.of (Nt.val jP)))).length≤1000000∧0≤v10∧v10<16)) (some [(.sl .ws (Nt.of (Nt.val kW))),(.sl .ws iD),(.b true)]))))))))))))))))))=ρ):gK.F a b=ρ:=Eq.trans (by kernel_rfl) (K _ rfl _ rfl _ rfl _ rfl _ rfl _ rfl _ rfl _ rfl _ rfl _ rfl _ rfl _ rfl _ rfl _ rfl _ rfl)
def ir.E:cC:=cT fQ zs [(166,(bg_Is.c,bg_Is.sg)),(167,(eO.c,eO.sg))]
def ir.h:Hint := .o
def ir.F (a:List UInt16) (n:Int):OT:=cR PG ir.E 141 ir.sg ir.h [(.sl .ws a),(.i .i64 n)]
theorem ir.bZ (a:List UInt16) (n:Int) {ρ:OT} (K:∀(v1:Bool) (h1:v1=(cond (!(Nt.is a)) true (decide (n<(0:Int))))) (v2:Bool) (h2:v2=(cond v1 true (decide ((4096:Int)<n)))) (v3:Bool) (h3:v3=(cond v2 true (decide (((a).length:Int)=(0:Int))))) (v4:Int) (h4:v4=(IntKind.i64.wrap (Int.tdiv n (16:Int)))) (v5:List UInt16) (h5:v5=(List.replicate (v4).toNat (0:UInt16))) (v6:List UInt16) (h6:v6=(Nt.of (Nt.val a * 2 ^ (((Int.tmod n (16:Int)))).toNat))),ck (decide ((a).length≤1099511627776)) (ck (!(!(!(Nt.is a))) || (!(!(Nt.is a)))) (ck ((!(Nt.is a)) || (!(!(Nt.is a)))) (ck (!(!v1) || (!v1)) (ck (v1 || (!v1)) (ck (!(!v2) || (!v2)) (ck (!(!v2) || (!v2)) (ck (v2 || (!v2)) (cond v3
  (some [(.sl .ws ([]:List UInt16))])
  (ck (!decide ((16:Int)=0)) (ck (oq v4 v4 2) (ck (!decide ((16:Int)=0)) (ck (decide ((a).length≤1000000∧0≤((Int.tmod n (16:Int)))∧((Int.tmod n (16:Int)))<16)&&Nt.norm a) (ck (fC ((v5).length+(v6).length) 2) (some [(.sl .ws (v5++v6))]))))))))))))))=ρ):ir.F a n=ρ:=Eq.trans (by kernel_rfl) (K _ rfl _ rfl _ rfl _ rfl _ rfl _ rfl)
def cP.E:cC:=cT fQ zs []
def cP.h:Hint := .s .o (.s .o (.s .o (.s (.s .o (.b (.l [(1,.no),(7,.fA 800000),(800000,.pv),(8,.no),(16,.no),(17,.no),(18,.no)] .o))) (.j [(7,.fA 800000),(800000,.pv)] .o .o))))
def cP.F (a:List UInt16) (b:Int) (c:Int):OT:=cR PG cP.E 218 cP.sg cP.h [(.sl .ws a),(.i .i64 b),(.i .i64 c)]
def cP.l1 (x0:Int) (x1:List UInt16) (x2:Int) (x3:List UInt16) (x4:Int) (x5:Int):OT:=dQ PG cP.E 218 cP.sg cP.h 87 [(.i .i64 x0),.pt,(.sl .ws x1),(.i .i64 x2),(.sl .ws x3),(.i .i64 x4),(.i .i64 x5)]
def cP.j2 (x0:List UInt16):OT:=eD PG cP.E 218 cP.sg cP.h 31 [.pt,(.sl .ws x0)]
theorem cP.bV (x0:Int) (x1:List UInt16) (x2:Int) (x3:List UInt16) (x4:Int) (x5:Int) {ρ:OT} (K:∀(v1:UInt16) (h1:v1=(List.getD x3 (x5).toNat (0:UInt16))) (v2:Int) (h2:v2=(IntKind.i64.wrap ((v1).toNat:Int))) (v3:Int) (h3:v3=(IntKind.i64.wrap (x2+(IntKind.i64.wrap (v2 * x0))))) (v4:List UInt16) (h4:v4=([(UInt16.ofInt v3)]:List UInt16)) (v5:Int) (h5:v5=(Int.fdiv v3 (2 ^ (min (((16:UInt64)).toNat) (IntKind.i64.bits))))) (v6:Int) (h6:v6=(IntKind.i64.wrap (x5+(1:Int)))) (v7:List UInt16) (h7:v7=([(UInt16.ofInt x2)]:List UInt16)),cond (decide (x5<x4))
  (ck (bB x5 (x3).length) (ck (fC ((x1).length+(v4).length) 2) (cP.l1 x0 (x1++v4) v5 x3 x4 v6)))
  (cond (decide ((0:Int)<x2))
  (ck (fC ((x1).length+(v7).length) 2) (cP.j2 (x1++v7)))
  (cP.j2 x1))=ρ):cP.l1 x0 x1 x2 x3 x4 x5=ρ:=((bU _ _ _ _ _ _ _).trans (by kernel_rfl)).trans (K _ rfl _ rfl _ rfl _ rfl _ rfl _ rfl _ rfl)
theorem cP.jZ (x0:List UInt16):cP.j2 x0=some [(.sl .ws x0)]:=((b9 _ _ _ _ _ _ _).trans (by kernel_rfl))
theorem cP.bZ (a:List UInt16) (b:Int) (c:Int) {ρ:OT} (K:∀(v1:Int) (h1:v1=(IntKind.i64.wrap (((a).length:Int)+(1:Int)))) (v2:List UInt16) (h2:v2=(List.replicate ((0:Int)).toNat (0:UInt16))),ck (oq (0:Int) v1 2) (cP.l1 b v2 c a ((a).length:Int) (0:Int))=ρ):cP.F a b c=ρ:=Eq.trans (by kernel_rfl) (K _ rfl _ rfl)
def cU.E:cC:=cT fQ zs [(140,(eW.c,eW.sg)),(166,(bg_Is.c,bg_Is.sg)),(218,(cP.c,cP.sg))]
def cU.h:Hint := .s .o (.s .o (.s .o (.s (.b (.l (sc [0,1,6]) .o)) .o)))
def cU.F (b:Int) (e:Int):OT:=cR PG cU.E 195 cU.sg cU.h [(.i .i64 b),(.i .i64 e)]
def cU.l1 (x0:Int) (x1:Int) (x2:List UInt16):OT:=dQ PG cU.E 195 cU.sg cU.h 39 [(.i .i64 x0),(.i .i64 x1),(.sl .ws x2)]
theorem cU.bV (x0:Int) (x1:Int) (x2:List UInt16) {ρ:OT} (K:∀(v1:List UInt16) (h1:v1=(Nt.of (Nt.val x2 * (x0).toNat+(((0:Int))).toNat))) (v2:Int) (h2:v2=(IntKind.i64.wrap (x1 - (1:Int)))),cond (decide ((0:Int)<x1))
  (ck (decide ((x2).length≤1000000∧1≤x0∧x0≤65535∧0≤((0:Int))∧((0:Int))≤65535)&&Nt.norm x2) (ck (decide ((v1).length≤1099511627776)) (cond (!(Nt.is v1))
  (some [(.sl .ws ([]:List UInt16)),(.b false)])
  (cU.l1 x0 v2 v1))))
  (some [(.sl .ws x2),(.b true)])=ρ):cU.l1 x0 x1 x2=ρ:=((bU _ _ _ _ _ _ _).trans (by kernel_rfl)).trans (K _ rfl _ rfl)
theorem cU.bZ (b:Int) (e:Int) {ρ:OT} (K:∀(v1:Bool) (h1:v1=(cond (decide (b<(0:Int))) true (decide ((65535:Int)<b)))) (v2:Bool) (h2:v2=(cond v1 true (decide (e<(0:Int))))) (v3:Bool) (h3:v3=(cond (decide (e=(0:Int))) true (decide (b=(1:Int))))) (v4:List UInt16) (h4:v4=(Nt.of (((1:UInt64))).toNat)),ck (!(!(decide (b<(0:Int)))) || (!(decide (b<(0:Int))))) (ck ((decide (b<(0:Int))) || (!(decide (b<(0:Int))))) (ck (!(!v1) || (!v1)) (ck (v1 || (!v1)) (cond v2
  (some [(.sl .ws ([]:List UInt16)),(.b false)])
  (ck (!(!(decide (e=(0:Int)))) || (!(decide (e=(0:Int))))) (ck ((decide (e=(0:Int))) || (!(decide (e=(0:Int))))) (cond v3
  (some [(.sl .ws v4),(.b true)])
  (cond (decide (b=(0:Int)))
  (some [(.sl .ws ([]:List UInt16)),(.b true)])
  (cU.l1 b e v4)))))))))=ρ):cU.F b e=ρ:=Eq.trans (by kernel_rfl) (K _ rfl _ rfl _ rfl _ rfl)
def dm.E:cC:=cT fQ zs [(166,(bg_Is.c,bg_Is.sg)),(218,(cP.c,cP.sg))]
def dm.h:Hint := .s .o (.s .o (.s .o (.s (.s .o (.b (.l (sc [0,4,24,25]) .o))) .o)))
def dm.F (s:bz):OT:=cR PG dm.E 227 dm.sg dm.h [(.s s)]
def dm.l1 (x0:bz) (x1:List UInt16) (x2:Int) (x3:Int):OT:=dQ PG dm.E 227 dm.sg dm.h 87 [(.s x0),(.sl .ws x1),(.i .i64 x2),(.i .i64 x3)]
theorem dm.bV (x0:bz) (x1:List UInt16) (x2:Int) (x3:Int) {ρ:OT} (K:∀(v1:UInt8) (h1:v1=(List.getD x0 (x3).toNat (0:UInt8))) (v2:Bool) (h2:v2=(cond (decide (v1<(48:UInt8))) true (decide ((57:UInt8)<v1)))) (v3:Int) (h3:v3=(IntKind.i64.wrap (((v1 - (48:UInt8))).toNat:Int))) (v4:List UInt16) (h4:v4=(Nt.of (Nt.val x1 * (((10:Int))).toNat+(v3).toNat))) (v5:Int) (h5:v5=(IntKind.i64.wrap (x3+(1:Int)))),cond (decide (x3<x2))
  (ck (bB x3 (x0).length) (ck (!(!(decide (v1<(48:UInt8)))) || (((!(decide (v1<(48:UInt8))))&&(!(decide (v1<(48:UInt8)))))&&(bB x3 (x0).length))) (ck (!(!(decide (v1<(48:UInt8)))) || (!(decide (v1<(48:UInt8))))) (ck ((decide (v1<(48:UInt8))) || (!(decide (v1<(48:UInt8))))) (cond v2
  (some [(.sl .ws ([]:List UInt16)),(.b false)])
  (ck (bB x3 (x0).length) (ck (decide ((x1).length≤1000000∧1≤((10:Int))∧((10:Int))≤65535∧0≤v3∧v3≤65535)&&Nt.norm x1) (dm.l1 x0 v4 x2 v5))))))))
  (ck (decide ((x1).length≤1099511627776)) (cond (!(Nt.is x1))
  (some [(.sl .ws ([]:List UInt16)),(.b false)])
  (some [(.sl .ws x1),(.b true)])))=ρ):dm.l1 x0 x1 x2 x3=ρ:=((bU _ _ _ _ _ _ _).trans (by kernel_rfl)).trans (K _ rfl _ rfl _ rfl _ rfl _ rfl)
theorem dm.bZ (s:bz) {ρ:OT} (K:∀(v1:Bool) (h1:v1=(cond (decide (s=([]:bz))) true (decide ((1240:Int)<((s).length:Int))))) (v2:UInt8) (h2:v2=(List.getD s ((0:Int)).toNat (0:UInt8))) (v3:Bool) (h3:v3=((!v1)&&(decide (v2=(48:UInt8))))) (v4:Bool) (h4:v4=(cond (decide (v2=(48:UInt8))) (decide ((1:Int)<((s).length:Int))) false)),ck (!(!(decide (s=([]:bz)))) || (!(decide (s=([]:bz))))) (ck (!(!(decide (s=([]:bz)))) || (!(decide (s=([]:bz))))) (ck ((decide (s=([]:bz))) || (!(decide (s=([]:bz))))) (ck (!(!v1) || ((!v1)&&(bB (0:Int) (s).length))) (ck (!(!v1) || (!v1)) (ck (!(!v1) || (!v1)) (ck (!v3 || v3) (ck (!v3 || v3) (ck (!(!v1) || ((!v1)&&(!(decide (v2=(48:UInt8))) || v3))) (ck (v1 || (!v1)) (cond (cond v1 true v4)
  (some [(.sl .ws ([]:List UInt16)),(.b false)])
  (dm.l1 s ([]:List UInt16) ((s).length:Int) (0:Int))))))))))))=ρ):dm.F s=ρ:=Eq.trans (by kernel_rfl) (K _ rfl _ rfl _ rfl _ rfl)
def dM.E:cC:=cT fQ zs [(191,(bits_Len64.c,bits_Len64.sg)),(217,(lx.c,lx.sg))]
def dM.h:Hint := .s .o (.s .o (.j (sc [1,2,8]) .o .o))
def dM.F (n:Bool) (m:UInt64) (e:Int):OT:=cR PG dM.E 242 dM.sg dM.h [(.b n),(.u64 m),(.i .i64 e)]
def dM.j1 (x0:UInt64) (x1:Int) (x2:UInt64):OT:=eD PG dM.E 242 dM.sg dM.h 7 [(.u64 x0),(.i .i64 x1),(.u64 x2)]
theorem dM.iI (x0:UInt64) (x1:Int) (x2:UInt64) {ρ:OT} (K:∀(v1:Bool) (h1:v1=(cond (decide (x1<(-2000:Int))) true (decide ((2000:Int)<x1)))) (v2:Int) (h2:v2=((Lib.ctz 64 (x0).toNat:Int))) (v3:Int) (h3:v3=((Nt.bits (((dD x0 ((v2).toNat)))).toNat:Int))) (v4:Bool) (h4:v4=(cond (decide ((53:Int)<v3)) true (decide ((IntKind.i64.wrap (x1+v2))<(-1074:Int))))) (v5:Int) (h5:v5=(IntKind.i64.wrap ((IntKind.i64.wrap (x1+v2))+v3))) (v6:Bool) (h6:v6=(cond v4 true (decide ((1024:Int)<v5)))) (v7:Int) (h7:v7=(IntKind.i64.wrap (v5 - (1:Int)))) (v8:Int) (h8:v8=(IntKind.i64.wrap ((IntKind.i64.wrap (x1+v2))+(1074:Int)))) (v9:UInt64) (h9:v9=(iK (dD x0 ((v2).toNat)) ((v8).toNat))) (v10:Int) (iA:v10=(IntKind.i64.wrap ((53:Int) - v3))) (v11:UInt64) (ki:v11=(iK (dD x0 ((v2).toNat)) ((v10).toNat))) (v12:Int) (jE:v12=(IntKind.i64.wrap ((IntKind.i64.wrap (x1+v2)) - v10))) (kW:Int) (nY:kW=(IntKind.i64.wrap (v12+(1075:Int)))) (jP:UInt64) (pA:jP=(iK (UInt64.ofInt kW) (((52:UInt64)).toNat))) (iD:UInt64) (o8:iD=(v11 &&& (4503599627370495:UInt64))),cond (decide (x0=(0:UInt64)))
  (some [(.u64 x2),(.b true)])
  (ck (!(!(decide (x1<(-2000:Int)))) || (!(decide (x1<(-2000:Int))))) (ck ((decide (x1<(-2000:Int))) || (!(decide (x1<(-2000:Int))))) (cond v1
  (some [(.u64 0),(.b false)])
  (ck (decide (0≤v2)) (ck (!(!(decide ((53:Int)<v3))) || (!(decide ((53:Int)<v3)))) (ck ((decide ((53:Int)<v3)) || (!(decide ((53:Int)<v3)))) (ck (!(!v4) || ((!v4)&&(!v4))) (ck (!(!v4) || (!v4)) (ck (v4 || (!v4)) (cond v6
  (some [(.u64 0),(.b false)])
  (cond (decide (v7<(-1022:Int)))
  (ck (decide (0≤v8)) (some [(.u64 (x2 ||| v9)),(.b true)]))
  (ck (decide (0≤v10)) (some [(.u64 ((x2 ||| jP) ||| iD)),(.b true)])))))))))))))=ρ):dM.j1 x0 x1 x2=ρ:=((b9 _ _ _ _ _ _ _).trans (by kernel_rfl)).trans (K _ rfl _ rfl _ rfl _ rfl _ rfl _ rfl _ rfl _ rfl _ rfl _ rfl _ rfl _ rfl _ rfl _ rfl _ rfl)
theorem dM.eJ (n:Bool) (m:UInt64) (e:Int):dM.F n m e=cond n
  (dM.j1 m e (9223372036854775808:UInt64))
  (dM.j1 m e (0:UInt64)):=by kernel_rfl
def nr_rounded.E:cC:=cT fQ zs [(141,(ir.c,ir.sg)),(170,(fW.c,fW.sg)),(171,(gK.c,gK.sg)),(251,(dj.c,dj.sg))]
def nr_rounded.h:Hint := .s .o (.j (sc [0,1]) .o .o)
def nr_rounded.F (a:List UInt16) (b:List UInt16) (e:Int):OT:=cR PG nr_rounded.E 241 nr_rounded.sg nr_rounded.h [(.sl .ws a),(.sl .ws b),(.i .i64 e)]
def nr_rounded.j1 (x0:List UInt16) (x1:List UInt16):OT:=eD PG nr_rounded.E 241 nr_rounded.sg nr_rounded.h 3 [(.sl .ws x0),(.sl .ws x1)]
theorem nr_rounded.iI (x0:List UInt16) (x1:List UInt16) {ρ:OT} (K:∀(v1:List UInt16) (h1:v1=(Nt.of (Nt.val x0 / Nt.val x1))) (v2:List UInt16) (h2:v2=(Nt.of (Nt.val x0 % Nt.val x1))) (v3:List UInt16) (h3:v3=(Nt.of (Nt.val v2 * 2 ^ (((1:Int))).toNat))) (v4:Int) (h4:v4=(Nt.cmp (Nt.val v3) (Nt.val x1))) (v5:Bool) (h5:v5=((!(decide ((0:Int)<v4)))&&(decide (v4=(0:Int))))) (v6:UInt64) (h6:v6=((UInt64.ofNat (Nt.val v1)) % (2:UInt64))) (v7:Bool) (h7:v7=(cond (decide (v4=(0:Int))) (decide (v6=(1:UInt64))) false)) (v8:Bool) (h8:v8=(cond (decide ((0:Int)<v4)) true v7)) (v9:UInt64) (h9:v9=((UInt64.ofNat (Nt.val v1))+(1:UInt64))),ck (Nt.is x0&&Nt.is x1&&decide (x1≠[])) (ck (decide (Nt.is v1=true∧(v1).length≤4)) (ck (decide (0≤((1:Int))∧((1:Int))≤4096)&&Nt.is v2) (ck (Nt.is v3&&Nt.is x1) (ck (!(!(decide ((0:Int)<v4))) || (!(decide ((0:Int)<v4)))) (ck (!(!(decide ((0:Int)<v4))) || (!(decide ((0:Int)<v4)))) (ck (!v5 || (v5&&(!decide ((2:UInt64)=0)))) (ck (!v5 || v5) (ck (!(!(decide ((0:Int)<v4))) || ((!(decide ((0:Int)<v4)))&&(!(decide (v4=(0:Int))) || v5))) (ck ((decide ((0:Int)<v4)) || (!(decide ((0:Int)<v4)))) (cond v8
  (some [(.u64 v9),(.b (decide (v9=(9007199254740992:UInt64))))])
  (some [(.u64 (UInt64.ofNat (Nt.val v1))),(.b false)])))))))))))=ρ):nr_rounded.j1 x0 x1=ρ:=((b9 _ _ _ _ _ _ _).trans (by kernel_rfl)).trans (K _ rfl _ rfl _ rfl _ rfl _ rfl _ rfl _ rfl _ rfl _ rfl)
theorem nr_rounded.bZ (a:List UInt16) (b:List UInt16) (e:Int) {ρ:OT} (K:∀(v1:List UInt16) (h1:v1=(Nt.of (Nt.val a * 2 ^ (((IntKind.i64.wrap (0 - e)))).toNat))) (v2:List UInt16) (h2:v2=(Nt.of (Nt.val b * 2 ^ (e).toNat))),cond (decide (e<(0:Int)))
  (ck (decide (0≤((IntKind.i64.wrap (0 - e)))∧((IntKind.i64.wrap (0 - e)))≤4096)&&Nt.is a) (nr_rounded.j1 v1 b))
  (ck (decide (0≤e∧e≤4096)&&Nt.is b) (nr_rounded.j1 a v2))=ρ):nr_rounded.F a b e=ρ:=Eq.trans (by kernel_rfl) (K _ rfl _ rfl)
def de.E:cC:=cT fQ zs [(142,(fH.c,fH.sg)),(241,(nr_rounded.c,nr_rounded.sg)),(242,(dM.c,dM.sg))]
def de.h:Hint := .s .o (.s .o (.s .o (.j (sc [6,7]) .o .o)))
def de.F (a:List UInt16) (b:List UInt16):OT:=cR PG de.E 228 de.sg de.h [(.sl .ws a),(.sl .ws b)]
def de.j1 (x0:Int) (x1:UInt64):OT:=eD PG de.E 228 de.sg de.h 15 [(.i .i64 x0),(.u64 x1)]
theorem de.iI (x0:Int) (x1:UInt64) {ρ:OT} (K:∀(v1:UInt64) (h1:v1=(Nr.pat (Nr.join false (x1).toNat x0))) (v2:Bool) (h2:v2=((Nr.join false (x1).toNat x0).isSome)),ck (decide (-1100≤x0∧x0≤2000)) (some [(.u64 v1),(.b v2)])=ρ):de.j1 x0 x1=ρ:=((b9 _ _ _ _ _ _ _).trans (by kernel_rfl)).trans (K _ rfl _ rfl)
theorem de.bZ (a:List UInt16) (b:List UInt16) {ρ:OT} (K:∀(v1:Int) (h1:v1=(IntKind.i64.wrap (((Nt.bits (Nt.val a):Int)) - ((Nt.bits (Nt.val b):Int))))) (v2:Int) (h2:v2=(IntKind.i64.wrap (v1 - (53:Int)))) (v3:UInt64) (h3:v3=(UInt64.ofNat (Nr.tp (Nr.jb (Nt.val a) ((mL v2 (-1074:Int)))) (Nr.iU (Nt.val b) ((mL v2 (-1074:Int))))))) (v4:Bool) (h4:v4=(Nr.lg (Nr.jb (Nt.val a) ((mL v2 (-1074:Int)))) (Nr.iU (Nt.val b) ((mL v2 (-1074:Int)))))) (v5:Bool) (h5:v5=(cond (decide ((9007199254740992:UInt64)≤v3)) (!v4) false)) (v6:Int) (h6:v6=(IntKind.i64.wrap ((mL v2 (-1074:Int))+(1:Int)))) (v7:UInt64) (h7:v7=(UInt64.ofNat (Nr.tp (Nr.jb (Nt.val a) v6) (Nr.iU (Nt.val b) v6)))) (v8:Bool) (h8:v8=(Nr.lg (Nr.jb (Nt.val a) v6) (Nr.iU (Nt.val b) v6))),ck (Nt.is a) (ck (Nt.is b) (ck (Nt.is a&&Nt.is b&&decide (-4096≤((mL v2 (-1074:Int)))∧((mL v2 (-1074:Int)))≤4096∧0<Nt.val b∧Nr.jb (Nt.val a) ((mL v2 (-1074:Int)))<2 ^ 4090∧Nr.iU (Nt.val b) ((mL v2 (-1074:Int)))<2 ^ 4090∧Nr.jb (Nt.val a) ((mL v2 (-1074:Int)))<2 ^ 60 * Nr.iU (Nt.val b) ((mL v2 (-1074:Int))))) (ck (!(decide ((9007199254740992:UInt64)≤v3)) || (decide ((9007199254740992:UInt64)≤v3))) (ck (!(decide ((9007199254740992:UInt64)≤v3)) || (decide ((9007199254740992:UInt64)≤v3))) (cond v5
  (ck (Nt.is a&&Nt.is b&&decide (-4096≤v6∧v6≤4096∧0<Nt.val b∧Nr.jb (Nt.val a) v6<2 ^ 4090∧Nr.iU (Nt.val b) v6<2 ^ 4090∧Nr.jb (Nt.val a) v6<2 ^ 60 * Nr.iU (Nt.val b) v6)) (de.j1 v6 v7))
  (de.j1 (mL v2 (-1074:Int)) v3))))))=ρ):de.F a b=ρ:=Eq.trans (by kernel_rfl) (K _ rfl _ rfl _ rfl _ rfl _ rfl _ rfl _ rfl _ rfl)
def dL.E:cC:=cT fQ zs [(140,(eW.c,eW.sg)),(150,(gq.c,gq.sg)),(195,(cU.c,cU.sg)),(196,(dp.c,dp.sg)),(204,(fK.c,fK.sg)),(226,(kZ.c,kZ.sg)),(227,(dm.c,dm.sg)),(228,(de.c,de.sg))]
def dL.h:Hint := .s .o (.s .o (.s .o (.s .o (.s .o (.s .o (.s .o (.s .o (.s .o (.s .o (.j (sc [7,9]) .o .o))))))))))
def dL.F (d:bz) (x:Int):OT:=cR PG dL.E 205 dL.sg dL.h [(.s d),(.i .i64 x)]
def dL.j1 (x0:List UInt16) (x1:List UInt16):OT:=eD PG dL.E 205 dL.sg dL.h 2047 [(.sl .ws x0),(.sl .ws x1)]
theorem dL.iI (x0:List UInt16) (x1:List UInt16) {ρ:OT} (K:∀(v1:UInt64) (h1:v1=(Nr.pat (Nr.gZ (Nt.val x0) (Nt.val x1)))) (v2:Bool) (h2:v2=((Nr.gZ (Nt.val x0) (Nt.val x1)).isSome)),ck (Nt.is x0&&Nt.is x1&&decide (0<Nt.val x0∧0<Nt.val x1∧Nt.val x0<2 ^ 1100∧Nt.val x1<2 ^ 2200)) (some [(.u64 v1),(.b v2)])=ρ):dL.j1 x0 x1=ρ:=((b9 _ _ _ _ _ _ _).trans (by kernel_rfl)).trans (K _ rfl _ rfl)
theorem dL.bZ (d:bz) (x:Int) {ρ:OT} (K:∀(v1:Bool) (h1:v1=(cond (decide (((d).length:Int)<(1:Int))) true (decide ((300:Int)<((d).length:Int))))) (v2:bz) (h2:v2=(Lib.trimS d (([48,49,50,51,52,53,54,55,56,57]:bz)))) (v3:Bool) (h3:v3=(cond v1 true (!decide (v2=([]:bz))))) (v4:bz) (h4:v4=(Lib.trimLeftS d (([48]:bz)))) (v5:Bool) (h5:v5=(cond (decide (v4=([]:bz))) true (decide (x<(-1000:Int))))) (v6:Int) (h6:v6=(IntKind.i64.wrap (((d).length:Int) - ((v4).length:Int)))) (v7:bz) (h7:v7=(Lib.trimRightS v4 (([48]:bz)))) (v8:List UInt16) (h8:v8=(Nt.of (((1:UInt64))).toNat)) (v9:Int) (h9:v9=(IntKind.i64.wrap ((IntKind.i64.wrap (x - v6)) - ((v7).length:Int)))) (v10:List UInt16) (iA:v10=(Nt.of ((((10:Int))).toNat ^ (v9).toNat))) (v11:List UInt16) (ki:v11=(Nt.of (Nt.val ((Nt.of (Nr.num v7))) * Nt.val v10))) (v12:List UInt16) (jE:v12=(Nt.of ((((10:Int))).toNat ^ (((IntKind.i64.wrap (0 - v9)))).toNat))),ck (!(!(decide (((d).length:Int)<(1:Int)))) || (!(decide (((d).length:Int)<(1:Int))))) (ck (!(!(decide (((d).length:Int)<(1:Int)))) || (!(decide (((d).length:Int)<(1:Int))))) (ck ((decide (((d).length:Int)<(1:Int))) || (!(decide (((d).length:Int)<(1:Int))))) (ck (!(!v1) || ((!v1)&&(decide ((d).length≤1099511627776∧((([48,49,50,51,52,53,54,55,56,57]:bz))).length≤100)&&((([48,49,50,51,52,53,54,55,56,57]:bz))).all (fun b=>decide (b.toNat<128))))) (ck (!(!v1) || (!v1)) (ck (v1 || (!v1)) (cond v3
  (some [(.u64 0),(.b false)])
  (ck (decide ((d).length≤1099511627776∧((([48]:bz))).length≤100)&&((([48]:bz))).all (fun b=>decide (b.toNat<128))) (ck (!(!(decide (v4=([]:bz)))) || (!(decide (v4=([]:bz))))) (ck ((decide (v4=([]:bz))) || (!(decide (v4=([]:bz))))) (cond v5
  (some [(.u64 0),(.b true)])
  (cond (decide ((1000:Int)<x))
  (some [(.u64 0),(.b false)])
  (ck (decide ((v4).length≤1099511627776∧((([48]:bz))).length≤100)&&((([48]:bz))).all (fun b=>decide (b.toNat<128))) (cond (decide ((IntKind.i64.wrap (x - v6))<(-330:Int)))
  (some [(.u64 0),(.b true)])
  (cond (decide ((310:Int)<(IntKind.i64.wrap (x - v6))))
  (some [(.u64 0),(.b false)])
  (ck (decide (1≤(v7).length∧(v7).length≤300∧(v7).getD 0 0≠48)&&(v7).all Nr.dV) (cond (decide ((0:Int)≤v9))
  (ck (decide (2≤((10:Int))∧((10:Int))≤65535∧0≤v9∧v9≤1000∧(((10:Int))).toNat ^ (v9).toNat<2 ^ 4096)) (ck (Nt.is ((Nt.of (Nr.num v7)))&&Nt.is v10) (dL.j1 v11 v8)))
  (ck (decide (2≤((10:Int))∧((10:Int))≤65535∧0≤((IntKind.i64.wrap (0 - v9)))∧((IntKind.i64.wrap (0 - v9)))≤1000∧(((10:Int))).toNat ^ (((IntKind.i64.wrap (0 - v9)))).toNat<2 ^ 4096)) (dL.j1 (Nt.of (Nr.num v7)) v12))))))))))))))))))=ρ):dL.F d x=ρ:=Eq.trans (by kernel_rfl) (K _ rfl _ rfl _ rfl _ rfl _ rfl _ rfl _ rfl _ rfl _ rfl _ rfl _ rfl _ rfl)
def ja.E:cC:=cT fQ zs []
def ja.h:Hint := .o
def ja.F (s:bz) (at_:Int) (c:UInt8) (d:UInt8):OT:=cR PG ja.E 104 ja.sg ja.h [(.s s),(.i .i64 at_),(.u8 c),(.u8 d)]
theorem ja.bZ (s:bz) (at_:Int) (c:UInt8) (d:UInt8) {ρ:OT} (K:∀(v1:UInt8) (h1:v1=(List.getD s (at_).toNat (0:UInt8))) (v2:Bool) (h2:v2=((decide (at_<((s).length:Int)))&&(!(decide (v1=c))))) (v3:Bool) (h3:v3=(cond (decide (v1=c)) true (decide (v1=d)))) (v4:Bool) (h4:v4=(cond (decide (at_<((s).length:Int))) v3 false)),ck (!(decide (at_<((s).length:Int))) || (((decide (at_<((s).length:Int)))&&(decide (at_<((s).length:Int))))&&(bB at_ (s).length))) (ck (!(decide (at_<((s).length:Int))) || ((decide (at_<((s).length:Int)))&&(decide (at_<((s).length:Int))))) (ck (!(decide (at_<((s).length:Int))) || (decide (at_<((s).length:Int)))) (ck (!v2 || ((v2&&v2)&&(bB at_ (s).length))) (ck (!v2 || (v2&&v2)) (ck (!(decide (at_<((s).length:Int))) || ((decide (at_<((s).length:Int)))&&((decide (v1=c)) || v2))) (ck (!(decide (at_<((s).length:Int))) || (decide (at_<((s).length:Int)))) (some [(.b v4)])))))))=ρ):ja.F s at_ c d=ρ:=Eq.trans (by kernel_rfl) (K _ rfl _ rfl _ rfl _ rfl)
def cK.E:cC:=cT fQ zs []
def cK.h:Hint := .s .o (.s (.b (.l (sc [0,1]) .o)) .o)
def cK.F (s:bz) (at_:Int):OT:=cR PG cK.E 105 cK.sg cK.h [(.s s),(.i .i64 at_)]
def cK.l1 (x0:bz) (x1:Int):OT:=dQ PG cK.E 105 cK.sg cK.h 9 [(.s x0),(.i .i64 x1)]
theorem cK.bV (x0:bz) (x1:Int) {ρ:OT} (K:∀(v1:UInt8) (h1:v1=(List.getD x0 (x1).toNat (0:UInt8))) (v2:Bool) (h2:v2=(cond (decide (x1<((x0).length:Int))) (decide ((48:UInt8)≤v1)) false)) (v3:Bool) (h3:v3=(cond v2 (decide (v1≤(57:UInt8))) false)) (v4:Int) (h4:v4=(IntKind.i64.wrap (x1+(1:Int)))),ck (!(decide (x1<((x0).length:Int))) || (((decide (x1<((x0).length:Int)))&&(decide (x1<((x0).length:Int))))&&(bB x1 (x0).length))) (ck (!(decide (x1<((x0).length:Int))) || (decide (x1<((x0).length:Int)))) (ck (!(decide (x1<((x0).length:Int))) || (decide (x1<((x0).length:Int)))) (ck (!v2 || ((v2&&v2)&&(bB x1 (x0).length))) (ck (!v2 || v2) (ck (!v2 || v2) (cond v3
  (cK.l1 x0 v4)
  (some [(.i .i64 x1)])))))))=ρ):cK.l1 x0 x1=ρ:=((bU _ _ _ _ _ _ _).trans (by kernel_rfl)).trans (K _ rfl _ rfl _ rfl _ rfl)
theorem cK.eJ (s:bz) (at_:Int):cK.F s at_=cK.l1 s at_:=by kernel_rfl
end
end Go.Eng
set_option maxRecDepth 100000
namespace Go.Eng
open Go.Proofs
noncomputable section
def bD.E:cC:=cT fQ zs [(104,(ja.c,ja.sg)),(105,(cK.c,cK.sg))]
def bD.h:Hint := .s .o (.s .o (.j (sc [0,3,4]) .o (.s .o (.s .o (.s .o (.j (sc [0,3,4]) .o (.j (sc [0,3,4]) (.s .o (.s (.s .o (.s .o (.j (sc [0,3,4]) .o .o))) .o)) .o)))))))
def bD.F (s:bz):OT:=cR PG bD.E 73 bD.sg bD.h [(.s s)]
def bD.j1 (x0:bz) (x1:Int) (x2:Int):OT:=eD PG bD.E 73 bD.sg bD.h 7 [(.s x0),(.i .i64 x1),(.i .i64 x2)]
def bD.j2 (x0:bz) (x1:Int) (x2:Int):OT:=eD PG bD.E 73 bD.sg bD.h 127 [(.s x0),(.i .i64 x1),(.i .i64 x2)]
def bD.j3 (x0:bz) (x1:Int) (x2:Int):OT:=eD PG bD.E 73 bD.sg bD.h 7551 [(.s x0),(.i .i64 x1),(.i .i64 x2)]
def bD.j4 (x0:bz) (x1:Int) (x2:Int):OT:=eD PG bD.E 73 bD.sg bD.h 255 [(.s x0),(.i .i64 x1),(.i .i64 x2)]
theorem bD.iI (x0:bz) (x1:Int) (x2:Int) {ρ:OT} (K:∀(v1:Int) (h1:v1=((x1+(Nr.run ((x0).drop (x1).toNat):Int)))) (v2:UInt8) (h2:v2=(List.getD x0 (x1).toNat (0:UInt8))) (v3:Bool) (h3:v3=((!(decide (v1=x1)))&&(decide (v2=(48:UInt8))))) (v4:Int) (h4:v4=(IntKind.i64.wrap (x1+(1:Int)))) (v5:Bool) (h5:v5=(cond (decide (v2=(48:UInt8))) (decide (v4<v1)) false)) (v6:Bool) (h6:v6=(cond (decide (v1=x1)) true v5)) (v7:Bool) (h7:v7=((decide (v1<(x0).length)&&(decide ((x0).getD (v1).toNat 0=((46:UInt8))) || decide ((x0).getD (v1).toNat 0=((46:UInt8))))))) (v8:Int) (h8:v8=(IntKind.i64.wrap (v1+(1:Int)))) (v9:Int) (h9:v9=((v8+(Nr.run ((x0).drop (v8).toNat):Int)))),ck (decide ((x0).length≤1099511627776)&&decide (0≤x1∧x1≤1099511627776)) (ck (!(!(decide (v1=x1))) || (((!(decide (v1=x1)))&&(!(decide (v1=x1))))&&(bB x1 (x0).length))) (ck (!(!(decide (v1=x1))) || (!(decide (v1=x1)))) (ck (!(!(decide (v1=x1))) || (!(decide (v1=x1)))) (ck (!v3 || v3) (ck (!v3 || (v3&&v3)) (ck (!(!(decide (v1=x1))) || ((!(decide (v1=x1)))&&(!(decide (v2=(48:UInt8))) || v3))) (ck ((decide (v1=x1)) || (!(decide (v1=x1)))) (cond v6
  (some [(.i .i64 0)])
  (ck (decide ((x0).length≤1099511627776)&&decide (0≤v1)) (cond v7
  (ck (decide ((x0).length≤1099511627776)&&decide (0≤v8∧v8≤1099511627776)) (cond (decide (v9=v8))
  (some [(.i .i64 0)])
  (bD.j2 x0 v9 (2:Int))))
  (bD.j2 x0 v1 x2)))))))))))=ρ):bD.j1 x0 x1 x2=ρ:=((b9 _ _ _ _ _ _ _).trans (by kernel_rfl)).trans (K _ rfl _ rfl _ rfl _ rfl _ rfl _ rfl _ rfl _ rfl _ rfl)
theorem bD.jg (x0:bz) (x1:Int) (x2:Int) {ρ:OT} (K:∀(v1:Bool) (h1:v1=((decide (x1<(x0).length)&&(decide ((x0).getD (x1).toNat 0=((101:UInt8))) || decide ((x0).getD (x1).toNat 0=((69:UInt8))))))) (v2:Int) (h2:v2=(IntKind.i64.wrap (x1+(1:Int)))) (v3:Bool) (h3:v3=((decide (v2<(x0).length)&&(decide ((x0).getD (v2).toNat 0=((43:UInt8))) || decide ((x0).getD (v2).toNat 0=((45:UInt8))))))) (v4:Int) (h4:v4=(IntKind.i64.wrap (v2+(1:Int)))),ck (decide ((x0).length≤1099511627776)&&decide (0≤x1)) (cond v1
  (ck (decide ((x0).length≤1099511627776)&&decide (0≤v2)) (cond v3
  (bD.j3 x0 v4 (2:Int))
  (bD.j3 x0 v2 (2:Int))))
  (bD.j4 x0 x1 x2))=ρ):bD.j2 x0 x1 x2=ρ:=((b9 _ _ _ _ _ _ _).trans (by kernel_rfl)).trans (K _ rfl _ rfl _ rfl _ rfl)
theorem bD.oY (x0:bz) (x1:Int) (x2:Int) {ρ:OT} (K:∀(v1:Int) (h1:v1=((x1+(Nr.run ((x0).drop (x1).toNat):Int)))),ck (decide ((x0).length≤1099511627776)&&decide (0≤x1∧x1≤1099511627776)) (cond (decide (v1=x1))
  (some [(.i .i64 0)])
  (bD.j4 x0 v1 x2))=ρ):bD.j3 x0 x1 x2=ρ:=((b9 _ _ _ _ _ _ _).trans (by kernel_rfl)).trans (K _ rfl)
theorem bD.uy (x0:bz) (x1:Int) (x2:Int):bD.j4 x0 x1 x2=cond (!decide (x1=((x0).length:Int)))
  (some [(.i .i64 0)])
  (some [(.i .i64 x2)]):=((b9 _ _ _ _ _ _ _).trans (by kernel_rfl))
theorem bD.bZ (s:bz) {ρ:OT} (K:∀(v1:Bool) (h1:v1=((decide (((0:Int))<(s).length)&&(decide ((s).getD (((0:Int))).toNat 0=((45:UInt8))) || decide ((s).getD (((0:Int))).toNat 0=((45:UInt8))))))) (v2:Int) (h2:v2=(IntKind.i64.wrap ((0:Int)+(1:Int)))),ck (decide ((s).length≤1099511627776)&&decide (0≤((0:Int)))) (cond v1
  (bD.j1 s v2 (1:Int))
  (bD.j1 s (0:Int) (1:Int)))=ρ):bD.F s=ρ:=Eq.trans (by kernel_rfl) (K _ rfl _ rfl)
def VJ.E:cC:=cT fQ zs []
def VJ.h:Hint := .s .o (.s .o (.s (.b (.l (sc [0,3]) .o)) .o))
def VJ.F (s:bz):OT:=cR PG VJ.E 44 VJ.sg VJ.h [(.s s)]
def VJ.l1 (x0:bz) (x1:Int):OT:=dQ PG VJ.E 44 VJ.sg VJ.h 19 [(.s x0),(.i .i64 x1)]
theorem VJ.bV (x0:bz) (x1:Int) {ρ:OT} (K:∀(v1:UInt8) (h1:v1=(List.getD x0 (x1).toNat (0:UInt8))) (v2:Bool) (h2:v2=(cond (decide (x1<((x0).length:Int))) (decide ((48:UInt8)≤v1)) false)) (v3:Bool) (h3:v3=(cond v2 (decide (v1≤(57:UInt8))) false)) (v4:Int) (h4:v4=(IntKind.i64.wrap (x1+(1:Int)))),ck (!(decide (x1<((x0).length:Int))) || (((decide (x1<((x0).length:Int)))&&(decide (x1<((x0).length:Int))))&&(bB x1 (x0).length))) (ck (!(decide (x1<((x0).length:Int))) || (decide (x1<((x0).length:Int)))) (ck (!(decide (x1<((x0).length:Int))) || (decide (x1<((x0).length:Int)))) (ck (!v2 || ((v2&&v2)&&(bB x1 (x0).length))) (ck (!v2 || v2) (ck (!v2 || v2) (cond v3
  (VJ.l1 x0 v4)
  (some [(.i .i64 x1)])))))))=ρ):VJ.l1 x0 x1=ρ:=((bU _ _ _ _ _ _ _).trans (by kernel_rfl)).trans (K _ rfl _ rfl _ rfl _ rfl)
theorem VJ.eJ (s:bz):VJ.F s=VJ.l1 s (0:Int):=by kernel_rfl
def eF.E:cC:=cT fQ zs [(44,(VJ.c,VJ.sg))]
def eF.h:Hint := .s .o (.s .o (.j (sc [0,3]) .o (.s .o (.s .o (.s .o (.j (sc [0,3]) .o (.j (sc [0,3]) (.s .o (.s (.s .o (.j (sc [0]) .o .o)) .o)) .o)))))))
def eF.F (s:bz):OT:=cR PG eF.E 32 eF.sg eF.h [(.s s)]
def eF.j1 (x0:bz) (x1:Int):OT:=eD PG eF.E 32 eF.sg eF.h 7 [(.s x0),(.i .i64 x1)]
def eF.j2 (x0:bz) (x1:Int):OT:=eD PG eF.E 32 eF.sg eF.h 127 [(.s x0),(.i .i64 x1)]
def eF.j3 (x0:bz):OT:=eD PG eF.E 32 eF.sg eF.h 3455 [(.s x0)]
def eF.j4 (x0:bz) (x1:Int):OT:=eD PG eF.E 32 eF.sg eF.h 255 [(.s x0),(.i .i64 x1)]
theorem eF.iI (x0:bz) (x1:Int) {ρ:OT} (K:∀(v1:UInt8) (h1:v1=(List.getD x0 ((0:Int)).toNat (0:UInt8))) (v2:Bool) (h2:v2=((!(decide (((Nr.run x0:Int))=(0:Int))))&&(decide (v1=(48:UInt8))))) (v3:Bool) (h3:v3=(cond (decide (v1=(48:UInt8))) (decide ((1:Int)<((Nr.run x0:Int)))) false)) (v4:Bool) (h4:v4=(cond (decide (((Nr.run x0:Int))=(0:Int))) true v3)) (v5:bz) (h5:v5=(List.drop (((Nr.run x0:Int))).toNat x0)) (v6:UInt8) (h6:v6=(List.getD v5 ((0:Int)).toNat (0:UInt8))) (v7:Bool) (h7:v7=(cond (decide ((0:Int)<((v5).length:Int))) (decide (v6=(46:UInt8))) false)) (v8:bz) (h8:v8=(List.drop ((1:Int)).toNat v5)) (v9:Int) (h9:v9=(IntKind.i64.wrap ((1:Int)+((Nr.run v8:Int))))),ck (decide ((x0).length≤1099511627776)) (ck (!(!(decide (((Nr.run x0:Int))=(0:Int)))) || ((!(decide (((Nr.run x0:Int))=(0:Int))))&&(bB (0:Int) (x0).length))) (ck (!(!(decide (((Nr.run x0:Int))=(0:Int)))) || (!(decide (((Nr.run x0:Int))=(0:Int))))) (ck (!(!(decide (((Nr.run x0:Int))=(0:Int)))) || (!(decide (((Nr.run x0:Int))=(0:Int))))) (ck (!v2 || v2) (ck (!(!(decide (((Nr.run x0:Int))=(0:Int)))) || ((!(decide (((Nr.run x0:Int))=(0:Int))))&&(!(decide (v1=(48:UInt8))) || v2))) (ck ((decide (((Nr.run x0:Int))=(0:Int))) || (!(decide (((Nr.run x0:Int))=(0:Int))))) (cond v4
  (some [(.i .i64 0)])
  (ck (gA ((Nr.run x0:Int)) (x0).length (x0).length) (ck (!(decide ((0:Int)<((v5).length:Int))) || ((decide ((0:Int)<((v5).length:Int)))&&(bB (0:Int) (v5).length))) (ck (!(decide ((0:Int)<((v5).length:Int))) || (decide ((0:Int)<((v5).length:Int)))) (ck (!(decide ((0:Int)<((v5).length:Int))) || (decide ((0:Int)<((v5).length:Int)))) (cond v7
  (ck (gA (1:Int) (v5).length (v5).length) (ck (decide ((v8).length≤1099511627776)) (cond (decide (((Nr.run v8:Int))=(0:Int)))
  (some [(.i .i64 0)])
  (ck (gA v9 (v5).length (v5).length) (eF.j2 (List.drop (v9).toNat v5) (2:Int))))))
  (eF.j2 v5 x1)))))))))))))=ρ):eF.j1 x0 x1=ρ:=((b9 _ _ _ _ _ _ _).trans (by kernel_rfl)).trans (K _ rfl _ rfl _ rfl _ rfl _ rfl _ rfl _ rfl _ rfl _ rfl)
theorem eF.jg (x0:bz) (x1:Int) {ρ:OT} (K:∀(v1:UInt8) (h1:v1=(List.getD x0 ((0:Int)).toNat (0:UInt8))) (v2:Bool) (h2:v2=((decide ((0:Int)<((x0).length:Int)))&&(!(decide (v1=(101:UInt8)))))) (v3:Bool) (h3:v3=(cond (decide (v1=(101:UInt8))) true (decide (v1=(69:UInt8))))) (v4:Bool) (h4:v4=(cond (decide ((0:Int)<((x0).length:Int))) v3 false)) (v5:bz) (h5:v5=(List.drop ((1:Int)).toNat x0)) (v6:UInt8) (h6:v6=(List.getD v5 ((0:Int)).toNat (0:UInt8))) (v7:Bool) (h7:v7=((decide ((0:Int)<((v5).length:Int)))&&(!(decide (v6=(43:UInt8)))))) (v8:Bool) (h8:v8=(cond (decide (v6=(43:UInt8))) true (decide (v6=(45:UInt8))))) (v9:Bool) (h9:v9=(cond (decide ((0:Int)<((v5).length:Int))) v8 false)) (v10:bz) (iA:v10=(List.drop ((1:Int)).toNat v5)),ck (!(decide ((0:Int)<((x0).length:Int))) || ((decide ((0:Int)<((x0).length:Int)))&&(bB (0:Int) (x0).length))) (ck (!(decide ((0:Int)<((x0).length:Int))) || (decide ((0:Int)<((x0).length:Int)))) (ck (!(decide ((0:Int)<((x0).length:Int))) || (decide ((0:Int)<((x0).length:Int)))) (ck (!v2 || (v2&&(bB (0:Int) (x0).length))) (ck (!v2 || v2) (ck (!(decide ((0:Int)<((x0).length:Int))) || ((decide ((0:Int)<((x0).length:Int)))&&((decide (v1=(101:UInt8))) || v2))) (ck (!(decide ((0:Int)<((x0).length:Int))) || (decide ((0:Int)<((x0).length:Int)))) (cond v4
  (ck (gA (1:Int) (x0).length (x0).length) (ck (!(decide ((0:Int)<((v5).length:Int))) || ((decide ((0:Int)<((v5).length:Int)))&&(bB (0:Int) (v5).length))) (ck (!(decide ((0:Int)<((v5).length:Int))) || (decide ((0:Int)<((v5).length:Int)))) (ck (!(decide ((0:Int)<((v5).length:Int))) || (decide ((0:Int)<((v5).length:Int)))) (ck (!v7 || (v7&&(bB (0:Int) (v5).length))) (ck (!v7 || v7) (ck (!(decide ((0:Int)<((v5).length:Int))) || ((decide ((0:Int)<((v5).length:Int)))&&((decide (v6=(43:UInt8))) || v7))) (ck (!(decide ((0:Int)<((v5).length:Int))) || (decide ((0:Int)<((v5).length:Int)))) (cond v9
  (ck (gA (1:Int) (v5).length (v5).length) (eF.j3 v10))
  (eF.j3 v5))))))))))
  (eF.j4 x0 x1))))))))=ρ):eF.j2 x0 x1=ρ:=((b9 _ _ _ _ _ _ _).trans (by kernel_rfl)).trans (K _ rfl _ rfl _ rfl _ rfl _ rfl _ rfl _ rfl _ rfl _ rfl _ rfl)
theorem eF.oY (x0:bz) {ρ:OT} (K:∀(v1:bz) (h1:v1=(List.drop (((Nr.run x0:Int))).toNat x0)),ck (decide ((x0).length≤1099511627776)) (cond (decide (((Nr.run x0:Int))=(0:Int)))
  (some [(.i .i64 0)])
  (ck (gA ((Nr.run x0:Int)) (x0).length (x0).length) (eF.j4 v1 (2:Int))))=ρ):eF.j3 x0=ρ:=((b9 _ _ _ _ _ _ _).trans (by kernel_rfl)).trans (K _ rfl)
theorem eF.uy (x0:bz) (x1:Int):eF.j4 x0 x1=cond (!decide (x0=([]:bz)))
  (some [(.i .i64 0)])
  (some [(.i .i64 x1)]):=((b9 _ _ _ _ _ _ _).trans (by kernel_rfl))
theorem eF.bZ (s:bz) {ρ:OT} (K:∀(v1:UInt8) (h1:v1=(List.getD s ((0:Int)).toNat (0:UInt8))) (v2:Bool) (h2:v2=(cond (decide ((0:Int)<((s).length:Int))) (decide (v1=(45:UInt8))) false)) (v3:bz) (h3:v3=(List.drop ((1:Int)).toNat s)),ck (!(decide ((0:Int)<((s).length:Int))) || ((decide ((0:Int)<((s).length:Int)))&&(bB (0:Int) (s).length))) (ck (!(decide ((0:Int)<((s).length:Int))) || (decide ((0:Int)<((s).length:Int)))) (ck (!(decide ((0:Int)<((s).length:Int))) || (decide ((0:Int)<((s).length:Int)))) (cond v2
  (ck (gA (1:Int) (s).length (s).length) (eF.j1 v3 (1:Int)))
  (eF.j1 s (1:Int)))))=ρ):eF.F s=ρ:=Eq.trans (by kernel_rfl) (K _ rfl _ rfl _ rfl)
def eH.E:cC:=cT fQ zs []
def eH.h:Hint := .o
def eH.F (b:UInt64):OT:=cR PG eH.E 114 eH.sg eH.h [(.u64 b)]
theorem eH.bZ (b:UInt64) {ρ:OT} (K:∀(v1:UInt64) (h1:v1=(dD b (((52:UInt64)).toNat))) (v2:Int) (h2:v2=(IntKind.i64.wrap (((v1 &&& (2047:UInt64))).toNat:Int))) (v3:UInt64) (h3:v3=(b &&& (4503599627370495:UInt64))) (v4:UInt64) (h4:v4=(dD b (((63:UInt64)).toNat))) (v5:Bool) (h5:v5=(cond (decide (v2=(2047:Int))) (!decide (v3=(0:UInt64))) false)) (v6:Bool) (h6:v6=(cond (decide (v2=(0:Int))) (decide (v3=(0:UInt64))) false)) (v7:UInt64) (h7:v7=((4503599627370496:UInt64) ||| v3)) (v8:Int) (h8:v8=(IntKind.i64.wrap (v2 - (1075:Int)))),ck (!(decide (v2=(2047:Int))) || (decide (v2=(2047:Int)))) (ck (!(decide (v2=(2047:Int))) || (decide (v2=(2047:Int)))) (cond v5
  (some [(.i .i64 4),(.b (decide (v4=(1:UInt64)))),(.u64 0),(.i .i64 0)])
  (cond (decide (v2=(2047:Int)))
  (some [(.i .i64 3),(.b (decide (v4=(1:UInt64)))),(.u64 0),(.i .i64 0)])
  (ck (!(decide (v2=(0:Int))) || (decide (v2=(0:Int)))) (ck (!(decide (v2=(0:Int))) || (decide (v2=(0:Int)))) (cond v6
  (some [(.i .i64 1),(.b (decide (v4=(1:UInt64)))),(.u64 0),(.i .i64 0)])
  (cond (decide (v2=(0:Int)))
  (some [(.i .i64 2),(.b (decide (v4=(1:UInt64)))),(.u64 v3),(.i .i64 (-1074))])
  (some [(.i .i64 2),(.b (decide (v4=(1:UInt64)))),(.u64 v7),(.i .i64 v8)]))))))))=ρ):eH.F b=ρ:=Eq.trans (by kernel_rfl) (K _ rfl _ rfl _ rfl _ rfl _ rfl _ rfl _ rfl _ rfl)
def bg_Add.E:cC:=cT fQ zs [(166,(bg_Is.c,bg_Is.sg)),(198,(eI.c,eI.sg))]
def bg_Add.h:Hint := .s .o (.s .o (.j (sc [0,1]) .o (.s .o (.s .o (.s (.s .o (.b (.l [(1,.no),(5,.fA 800000),(6,.no),(26,.no),(27,.no),(800000,.pv)] (.s .o (.s .o (.s (.b (.s .o (.s .o (.j [(1,.no),(5,.fA 800000),(6,.no),(7,.no),(26,.no),(27,.no),(800000,.pv)] .o .o)))) .o)))))) (.j [(5,.fA 800000),(800000,.pv)] .o .o))))))
def bg_Add.F (a:List UInt16) (b:List UInt16):OT:=cR PG bg_Add.E 173 bg_Add.sg bg_Add.h [(.sl .ws a),(.sl .ws b)]
def bg_Add.j1 (x0:List UInt16) (x1:List UInt16):OT:=eD PG bg_Add.E 173 bg_Add.sg bg_Add.h 7 [(.sl .ws x0),(.sl .ws x1)]
def bg_Add.l2 (x0:List UInt16) (x1:Int) (x2:Int) (x3:Int) (x4:List UInt16):OT:=dQ PG bg_Add.E 173 bg_Add.sg bg_Add.h 351 [(.sl .ws x0),.pt,(.i .i64 x1),(.i .i64 x2),(.i .i64 x3),(.sl .ws x4)]
def bg_Add.j3 (x0:List UInt16) (x1:Int) (x2:Int) (x3:Int) (x4:Int) (x5:List UInt16):OT:=eD PG bg_Add.E 173 bg_Add.sg bg_Add.h 58975 [(.sl .ws x0),.pt,(.i .i64 x1),(.i .i64 x2),(.i .i64 x3),(.i .i64 x4),(.sl .ws x5)]
def bg_Add.j4 (x0:List UInt16):OT:=eD PG bg_Add.E 173 bg_Add.sg bg_Add.h 127 [.pt,(.sl .ws x0)]
theorem bg_Add.lp (x0:List UInt16) (x1:List UInt16):bg_Add.j1 x0 x1=ck (fC (x0).length 2) (bg_Add.l2 x1 (0:Int) (((x0)).length:Int) (0:Int) (x0)):=((b9 _ _ _ _ _ _ _).trans (by kernel_rfl))
theorem bg_Add.iw (x0:List UInt16) (x1:Int) (x2:Int) (x3:Int) (x4:List UInt16) {ρ:OT} (K:∀(v1:UInt16) (h1:v1=(List.getD x4 ((x3).toNat) (0:UInt16))) (v2:Int) (h2:v2=(IntKind.i64.wrap ((v1).toNat:Int))) (v3:UInt16) (h3:v3=(List.getD x0 (x3).toNat (0:UInt16))) (v4:Int) (h4:v4=(IntKind.i64.wrap ((v3).toNat:Int))) (v5:Int) (h5:v5=(IntKind.i64.wrap ((IntKind.i64.wrap (x1+v2))+v4))) (v6:List UInt16) (h6:v6=([(UInt16.ofInt x1)]:List UInt16)),cond (decide (x3<x2))
  (ck (bB x3 (x4).length) (ck (decide ((x3).toNat<(x4).length)) (cond (decide (x3<((x0).length:Int)))
  (ck (bB x3 (x0).length) (bg_Add.j3 x0 v5 x3 x2 x3 x4))
  (bg_Add.j3 x0 (IntKind.i64.wrap (x1+v2)) x3 x2 x3 x4))))
  (cond (decide ((0:Int)<x1))
  (ck (fC ((x4).length+(v6).length) 2) (bg_Add.j4 (x4++v6)))
  (bg_Add.j4 x4))=ρ):bg_Add.l2 x0 x1 x2 x3 x4=ρ:=((bU _ _ _ _ _ _ _).trans (by kernel_rfl)).trans (K _ rfl _ rfl _ rfl _ rfl _ rfl _ rfl)
theorem bg_Add.oY (x0:List UInt16) (x1:Int) (x2:Int) (x3:Int) (x4:Int) (x5:List UInt16) {ρ:OT} (K:∀(v1:List UInt16) (h1:v1=(List.set x5 ((x2).toNat) (UInt16.ofInt x1))) (v2:Int) (h2:v2=(Int.fdiv x1 (2 ^ (min (((16:UInt64)).toNat) (IntKind.i64.bits))))) (v3:Int) (h3:v3=(IntKind.i64.wrap (x4+(1:Int)))),ck (bB x2 (x5).length) (ck (decide ((x2).toNat<(x5).length)) (bg_Add.l2 x0 v2 x3 v3 v1))=ρ):bg_Add.j3 x0 x1 x2 x3 x4 x5=ρ:=((b9 _ _ _ _ _ _ _).trans (by kernel_rfl)).trans (K _ rfl _ rfl _ rfl)
theorem bg_Add.uy (x0:List UInt16):bg_Add.j4 x0=some [(.sl .ws x0)]:=((b9 _ _ _ _ _ _ _).trans (by kernel_rfl))
theorem bg_Add.bZ (a:List UInt16) (b:List UInt16) {ρ:OT} (K:∀(v1:Bool) (h1:v1=(cond (!(Nt.is a)) true (!(Nt.is b)))),ck (decide ((a).length≤1099511627776)) (ck (!(!(!(Nt.is a))) || ((!(!(Nt.is a)))&&(decide ((b).length≤1099511627776)))) (ck (!(!(!(Nt.is a))) || (!(!(Nt.is a)))) (ck ((!(Nt.is a)) || (!(!(Nt.is a)))) (cond v1
  (some [(.sl .ws ([]:List UInt16))])
  (cond (decide (((a).length:Int)<((b).length:Int)))
  (bg_Add.j1 b a)
  (bg_Add.j1 a b))))))=ρ):bg_Add.F a b=ρ:=Eq.trans (by kernel_rfl) (K _ rfl)
def cS.E:cC:=cT fQ zs [(84,(iG.c,iG.sg)),(145,(fB.c,fB.sg)),(166,(bg_Is.c,bg_Is.sg)),(199,(ez.c,ez.sg)),(221,(sl_Reverse.c,sl_Reverse.sg)),(222,(st_Join.c,st_Join.sg))]
def cS.h:Hint := .s .o (.s .o (.s .o (.s (.b (.l [(0,.no),(3,.fA 800000),(800000,.pv)] (.s .o (.b (.s .o (.s .o (.j [(3,.fA 800000),(4,.no),(6,.no),(800000,.pv)] .o .o))))))) .o)))
def cS.F (a:List UInt16):OT:=cR PG cS.E 203 cS.sg cS.h [(.sl .ws a)]
def cS.l1 (x0:List UInt16) (x1:List bz):OT:=dQ PG cS.E 203 cS.sg cS.h 39 [(.sl .ws x0),.pt,(.sl .ss x1)]
def cS.j2 (x0:List UInt16) (x1:bz) (x2:List bz):OT:=eD PG cS.E 203 cS.sg cS.h 1863 [.pt,(.sl .ws x0),(.s x1),(.sl .ss x2)]
theorem cS.bV (x0:List UInt16) (x1:List bz) {ρ:OT} (K:∀(v1:List UInt16) (h1:v1=(Nt.of (Nt.val x0 / (((10000:UInt16))).toNat))) (v2:UInt16) (h2:v2=(UInt16.ofNat (Nt.val x0 % (((10000:UInt16))).toNat))) (v3:Int) (h3:v3=(IntKind.i64.wrap ((v2).toNat:Int))) (v4:Int) (h4:v4=(((Nr.itoa v3)).length:Int)) (v5:Int) (h5:v5=(IntKind.i64.wrap ((4:Int) - v4))) (v6:bz) (h6:v6=((Sh.dU v5)++(Nr.itoa v3))),cond (decide ((0:Int)<((x0).length:Int)))
  (ck (decide ((x0).length≤1000000∧((10000:UInt16))≠0)) (ck (Nr.i64 v3) (cond (decide ((0:Int)<((v1).length:Int)))
  (ck (decide ((([48]:bz))=[48]∧0≤v5∧v5≤100)) (ck (decide (((Sh.dU v5)).length+((Nr.itoa v3)).length≤9223372036854775807)) (cS.j2 v1 v6 x1)))
  (cS.j2 v1 (Nr.itoa v3) x1))))
  (ck (decide ((x1).length≤100000)) (ck (decide ((([]:bz))=[]∧((((x1).reverse))).length≤100000∧((((x1).reverse))).flatten.length≤100000)) (some [(.s (((((x1).reverse))).flatten))])))=ρ):cS.l1 x0 x1=ρ:=((bU _ _ _ _ _ _ _).trans (by kernel_rfl)).trans (K _ rfl _ rfl _ rfl _ rfl _ rfl _ rfl)
theorem cS.jZ (x0:List UInt16) (x1:bz) (x2:List bz):cS.j2 x0 x1 x2=ck (fC ((x2).length+(([x1]:List bz)).length) 16) (cS.l1 x0 (x2++([x1]:List bz))):=((b9 _ _ _ _ _ _ _).trans (by kernel_rfl))
theorem cS.eJ (a:List UInt16):cS.F a=ck (decide ((a).length≤1099511627776)) (cond (!(Nt.is a))
  (some [(.s [])])
  (cond (decide (((a).length:Int)=(0:Int)))
  (some [(.s ([48]:bz))])
  (cS.l1 a ([]:List bz)))):=by kernel_rfl
def sl_Reverse.E:cC:=cT fQ zs []
def sl_Reverse.h:Hint := .s .o (.b (.l [(0,.fA 1000000),(2,.no),(3,.no),(1000000,.pv)] .o))
def sl_Reverse.F (l:List bz):OT:=cR PG sl_Reverse.E 221 sl_Reverse.sg sl_Reverse.h [(.sl .ss l)]
def sl_Reverse.l1 (x0:Int) (x1:Int) (x2:List bz):OT:=dQ PG sl_Reverse.E 221 sl_Reverse.sg sl_Reverse.h 5 [.pt,(.i .i64 x0),(.i .i64 x1),(.sl .ss x2)]
theorem sl_Reverse.bV (x0:Int) (x1:Int) (x2:List bz) {ρ:OT} (K:∀(v1:bz) (h1:v1=(List.getD x2 ((x1).toNat) ([]:bz))) (v2:bz) (h2:v2=(List.getD x2 ((x0).toNat) ([]:bz))) (v3:List bz) (h3:v3=(List.set x2 ((x0).toNat) v1)) (v4:List bz) (h4:v4=(List.set v3 ((x1).toNat) v2)) (v5:Int) (h5:v5=(IntKind.i64.wrap (x0+(1:Int)))) (v6:Int) (h6:v6=(IntKind.i64.wrap (x1 - (1:Int)))),cond (decide (x0<x1))
  (ck (bB x1 (x2).length) (ck (decide ((x1).toNat<(x2).length)) (ck (bB x0 (x2).length) (ck (decide ((x0).toNat<(x2).length)) (ck (bB x0 (x2).length) (ck (decide ((x0).toNat<(x2).length)) (ck (bB x1 (v3).length) (ck (decide ((x1).toNat<(v3).length)) (sl_Reverse.l1 v5 v6 v4)))))))))
  (some [(.sl .ss x2)])=ρ):sl_Reverse.l1 x0 x1 x2=ρ:=((bU _ _ _ _ _ _ _).trans (by kernel_rfl)).trans (K _ rfl _ rfl _ rfl _ rfl _ rfl _ rfl)
theorem sl_Reverse.bZ (l:List bz) {ρ:OT} (K:∀(v1:Int) (h1:v1=(IntKind.i64.wrap (((l).length:Int) - (1:Int)))),sl_Reverse.l1 (0:Int) v1 l=ρ):sl_Reverse.F l=ρ:=Eq.trans (by kernel_rfl) (K _ rfl)
def eY.E:cC:=cT fQ zs [(113,(gR.c,gR.sg))]
def eY.h:Hint := .o
def eY.F (v:Int):OT:=cR PG eY.E 85 eY.sg eY.h [(.i .i64 v)]
theorem eY.eJ (v:Int):eY.F v=ck (Nr.i64 v&&decide (((10:Int))=10)) (some [(.s (Nr.itoa v))]):=by kernel_rfl
def fD.E:cC:=cT fQ zs [(195,(cU.c,cU.sg)),(196,(dp.c,dp.sg))]
def fD.h:Hint := .o
def fD.F (a:List UInt16) (b:List UInt16) (k:Int):OT:=cR PG fD.E 169 fD.sg fD.h [(.sl .ws a),(.sl .ws b),(.i .i64 k)]
theorem fD.bZ (a:List UInt16) (b:List UInt16) (k:Int) {ρ:OT} (K:∀(v1:List UInt16) (h1:v1=(Nt.of ((((10:Int))).toNat ^ (k).toNat))) (v2:List UInt16) (h2:v2=(Nt.of (Nt.val a * Nt.val v1))) (v3:List UInt16) (h3:v3=(Nt.of ((((10:Int))).toNat ^ (((IntKind.i64.wrap (0 - k)))).toNat))) (v4:List UInt16) (h4:v4=(Nt.of (Nt.val b * Nt.val v3))),cond (decide ((0:Int)≤k))
  (ck (decide (2≤((10:Int))∧((10:Int))≤65535∧0≤k∧k≤1000∧(((10:Int))).toNat ^ (k).toNat<2 ^ 4096)) (ck (Nt.is a&&Nt.is v1) (some [(.sl .ws v2),(.sl .ws b)])))
  (ck (decide (2≤((10:Int))∧((10:Int))≤65535∧0≤((IntKind.i64.wrap (0 - k)))∧((IntKind.i64.wrap (0 - k)))≤1000∧(((10:Int))).toNat ^ (((IntKind.i64.wrap (0 - k)))).toNat<2 ^ 4096)) (ck (Nt.is b&&Nt.is v3) (some [(.sl .ws a),(.sl .ws v4)])))=ρ):fD.F a b k=ρ:=Eq.trans (by kernel_rfl) (K _ rfl _ rfl _ rfl _ rfl)
def fk.E:cC:=cT fQ zs [(169,(fD.c,fD.sg)),(170,(fW.c,fW.sg))]
def fk.h:Hint := .o
def fk.F (a:List UInt16) (b:List UInt16) (x:Int):OT:=cR PG fk.E 143 fk.sg fk.h [(.sl .ws a),(.sl .ws b),(.i .i64 x)]
theorem fk.bZ (a:List UInt16) (b:List UInt16) (x:Int) {ρ:OT} (K:∀(v1:List UInt16) (h1:v1=(Nt.of (Sh.tA (Nt.val a) ((IntKind.i64.wrap (0 - x)))))) (v2:List UInt16) (h2:v2=(Nt.of (Sh.tB (Nt.val b) ((IntKind.i64.wrap (0 - x)))))) (v3:Int) (h3:v3=(Nt.cmp (Nt.val v1) (Nt.val v2))),ck (Nt.is a&&Nt.is b&&decide (-400≤((IntKind.i64.wrap (0 - x)))∧((IntKind.i64.wrap (0 - x)))≤400∧Nt.val a<2 ^ 1100∧Nt.val b<2 ^ 1100)) (ck (Nt.is v1&&Nt.is v2) (some [(.b (decide ((0:Int)≤v3)))]))=ρ):fk.F a b x=ρ:=Eq.trans (by kernel_rfl) (K _ rfl _ rfl _ rfl)
def fj.E:cC:=cT fQ zs [(203,(cS.c,cS.sg)),(204,(fK.c,fK.sg)),(205,(dL.c,dL.sg))]
def fj.h:Hint := .o
def fj.F (b:UInt64) (a:List UInt16) (p:Int):OT:=cR PG fj.E 172 fj.sg fj.h [(.u64 b),(.sl .ws a),(.i .i64 p)]
theorem fj.bZ (b:UInt64) (a:List UInt16) (p:Int) {ρ:OT} (K:∀(v1:Int) (h1:v1=(((Sh.pM (Nt.val a))).length:Int)) (v2:bz) (h2:v2=(Lib.trimRightS ((Sh.pM (Nt.val a))) (([48]:bz)))) (v3:UInt64) (h3:v3=(Nr.pat (Nr.read v2 ((IntKind.i64.wrap (v1+p)))))) (v4:Bool) (h4:v4=((Nr.read v2 ((IntKind.i64.wrap (v1+p)))).isSome)) (v5:Bool) (h5:v5=(cond (!v4) true (!decide (v3=b)))),ck (Nt.is a) (ck (decide ((((Sh.pM (Nt.val a)))).length≤1099511627776∧((([48]:bz))).length≤100)&&((([48]:bz))).all (fun b=>decide (b.toNat<128))) (ck (!(!(!v4)) || ((!(!v4))&&(!(!v4)))) (ck ((!v4) || (!(!v4))) (cond v5
  (some [(.s []),(.i .i64 0),(.b false)])
  (some [(.s v2),(.i .i64 (IntKind.i64.wrap (v1+p))),(.b true)])))))=ρ):fj.F b a p=ρ:=Eq.trans (by kernel_rfl) (K _ rfl _ rfl _ rfl _ rfl _ rfl)
def gi.E:cC:=cT fQ zs [(140,(eW.c,eW.sg)),(141,(ir.c,ir.sg)),(169,(fD.c,fD.sg)),(170,(fW.c,fW.sg)),(171,(gK.c,gK.sg)),(172,(fj.c,fj.sg)),(173,(bg_Add.c,bg_Add.sg))]
def gi.h:Hint := .o
def gi.F (b:UInt64) (p:List UInt16) (q:List UInt16) (x:Int) (n:Int):OT:=cR PG gi.E 144 gi.sg gi.h [(.u64 b),(.sl .ws p),(.sl .ws q),(.i .i64 x),(.i .i64 n)]
theorem gi.bZ (b:UInt64) (p:List UInt16) (q:List UInt16) (x:Int) (n:Int) {ρ:OT} (K:∀(v1:List UInt16) (h1:v1=(Nt.of (Sh.tA (Nt.val p) ((IntKind.i64.wrap (n - x)))))) (v2:List UInt16) (h2:v2=(Nt.of (Sh.tB (Nt.val q) ((IntKind.i64.wrap (n - x)))))) (v3:List UInt16) (h3:v3=(Nt.of (Nt.val v1 / Nt.val v2))) (v4:List UInt16) (h4:v4=(Nt.of (Nt.val v1 % Nt.val v2))) (v5:bz) (h5:v5=(((Sh.jM (b).toNat (Nt.val v3) ((IntKind.i64.wrap (x - n)))).getD ([],0)).1)) (v6:Int) (h6:v6=(((Sh.jM (b).toNat (Nt.val v3) ((IntKind.i64.wrap (x - n)))).getD ([],0)).2)) (v7:Bool) (h7:v7=((Sh.jM (b).toNat (Nt.val v3) ((IntKind.i64.wrap (x - n)))).isSome)) (v8:List UInt16) (h8:v8=(Nt.of (((1:UInt64))).toNat)) (v9:List UInt16) (h9:v9=(Nt.of (Nt.val v3+Nt.val v8))) (v10:bz) (iA:v10=(((Sh.jM (b).toNat (Nt.val v9) ((IntKind.i64.wrap (x - n)))).getD ([],0)).1)) (v11:Int) (ki:v11=(((Sh.jM (b).toNat (Nt.val v9) ((IntKind.i64.wrap (x - n)))).getD ([],0)).2)) (v12:Bool) (jE:v12=((Sh.jM (b).toNat (Nt.val v9) ((IntKind.i64.wrap (x - n)))).isSome)) (kW:List UInt16) (nY:kW=(Nt.of (Nt.val v4 * 2 ^ (((1:Int))).toNat))) (jP:Int) (pA:jP=(Nt.cmp (Nt.val kW) (Nt.val v2))) (iD:Bool) (o8:iD=(cond (!v12) true (decide (jP<(0:Int))))) (mS:Bool) (tO:mS=((v7&&(!iD))&&(decide (jP=(0:Int))))) (nT:UInt16) (xI:nT=(List.getD v3 ((0:Int)).toNat (0:UInt16))) (lO:Bool) (wi:lO=(cond (decide (jP=(0:Int))) (decide ((nT % (2:UInt16))=(0:UInt16))) false)) (qJ:Bool) (BU:qJ=(cond v7 (cond iD true lO) false)),ck (Nt.is p&&Nt.is q&&decide (-400≤((IntKind.i64.wrap (n - x)))∧((IntKind.i64.wrap (n - x)))≤400∧Nt.val p<2 ^ 1100∧Nt.val q<2 ^ 1100)) (ck (Nt.is v1&&Nt.is v2&&decide (v2≠[])) (ck (Nt.is v3&&decide (-1000≤((IntKind.i64.wrap (x - n)))∧((IntKind.i64.wrap (x - n)))≤1000∧0<Nt.val v3∧Nt.val v3<10 ^ 200)) (ck (Nt.is v3&&Nt.is v8) (ck (Nt.is v9&&decide (-1000≤((IntKind.i64.wrap (x - n)))∧((IntKind.i64.wrap (x - n)))≤1000∧0<Nt.val v9∧Nt.val v9<10 ^ 200)) (ck (decide (0≤((1:Int))∧((1:Int))≤4096)&&Nt.is v4) (ck (Nt.is kW&&Nt.is v2) (ck (!v7 || v7) (ck (!v7 || v7) (ck (!(v7&&(!(!v12))) || (v7&&(!(!v12)))) (ck (!v7 || (v7&&((!v12) || (v7&&(!(!v12)))))) (ck (!v7 || v7) (ck (!(v7&&(!iD)) || (v7&&(!iD))) (ck (!(v7&&(!iD)) || (v7&&(!iD))) (ck (!mS || (mS&&(bB (0:Int) (v3).length))) (ck (!mS || mS) (ck (!mS || (mS&&(!decide ((2:UInt16)=0)))) (ck (!mS || mS) (ck (!(v7&&(!iD)) || ((v7&&(!iD))&&(!(decide (jP=(0:Int))) || mS))) (ck (!v7 || (v7&&(iD || (v7&&(!iD))))) (ck (!v7 || v7) (cond qJ
  (some [(.s v5),(.i .i64 v6),(.b true)])
  (some [(.s v10),(.i .i64 v11),(.b v12)]))))))))))))))))))))))=ρ):gi.F b p q x n=ρ:=Eq.trans (by kernel_rfl) (K _ rfl _ rfl _ rfl _ rfl _ rfl _ rfl _ rfl _ rfl _ rfl _ rfl _ rfl _ rfl _ rfl _ rfl _ rfl _ rfl _ rfl _ rfl _ rfl)
def bI.E:cC:=cT fQ zs [(114,(eH.c,eH.sg)),(140,(eW.c,eW.sg)),(141,(ir.c,ir.sg)),(142,(fH.c,fH.sg)),(143,(fk.c,fk.sg)),(144,(gi.c,gi.sg))]
def bI.h:Hint := .s .o (.s .o (.s .o (.s .o (.s .o (.j (sc [0,9,10]) .o (.s .o (.s (.b (.l (sc [0,3,9,10]) .o)) (.s .o (.b (.l (sc [0,3,9,10,11]) .o))))))))))
def bI.F (b:UInt64):OT:=cR PG bI.E 115 bI.sg bI.h [(.u64 b)]
def bI.j1 (x0:UInt64) (x1:List UInt16) (x2:List UInt16):OT:=eD PG bI.E 115 bI.sg bI.h 63 [(.u64 x0),(.sl .ws x1),(.sl .ws x2)]
def bI.l2 (x0:UInt64) (x1:Int) (x2:List UInt16) (x3:List UInt16):OT:=dQ PG bI.E 115 bI.sg bI.h 639 [(.u64 x0),(.i .i64 x1),(.sl .ws x2),(.sl .ws x3)]
def bI.l3 (x0:UInt64) (x1:Int) (x2:List UInt16) (x3:List UInt16) (x4:Int):OT:=dQ PG bI.E 115 bI.sg bI.h 1535 [(.u64 x0),(.i .i64 x1),(.sl .ws x2),(.sl .ws x3),(.i .i64 x4)]
theorem bI.iI (x0:UInt64) (x1:List UInt16) (x2:List UInt16) {ρ:OT} (K:∀(v1:Int) (h1:v1=((Nt.bits (Nt.val x1):Int))) (v2:Int) (h2:v2=((Nt.bits (Nt.val x2):Int))) (v3:Int) (h3:v3=(IntKind.i64.wrap ((IntKind.i64.wrap (v1 - v2)) * (30103:Int)))) (v4:Int) (h4:v4=(IntKind.i64.wrap (Int.tdiv v3 (100000:Int)))) (v5:Int) (h5:v5=(IntKind.i64.wrap (v4 - (2:Int)))),ck (Nt.is x1) (ck (Nt.is x2) (ck (!decide ((100000:Int)=0)) (bI.l2 x0 v5 x1 x2)))=ρ):bI.j1 x0 x1 x2=ρ:=((b9 _ _ _ _ _ _ _).trans (by kernel_rfl)).trans (K _ rfl _ rfl _ rfl _ rfl _ rfl)
theorem bI.iw (x0:UInt64) (x1:Int) (x2:List UInt16) (x3:List UInt16) {ρ:OT} (K:∀(v1:Int) (h1:v1=(IntKind.i64.wrap (x1+(1:Int)))),ck (Nt.is x2&&Nt.is x3&&decide (-400≤x1∧x1≤400∧Nt.val x2<2 ^ 1100∧Nt.val x3<2 ^ 1100)) (cond (decide (Sh.tB (Nt.val x3) (-x1)≤Sh.tA (Nt.val x2) (-x1)))
  (bI.l2 x0 v1 x2 x3)
  (bI.l3 x0 x1 x2 x3 (1:Int)))=ρ):bI.l2 x0 x1 x2 x3=ρ:=((bU _ _ _ _ _ _ _).trans (by kernel_rfl)).trans (K _ rfl)
theorem bI.sJ (x0:UInt64) (x1:Int) (x2:List UInt16) (x3:List UInt16) (x4:Int) {ρ:OT} (K:∀(v1:bz) (h1:v1=(((Sh.ob (x0).toNat (Nt.val x2) (Nt.val x3) x1 x4).getD ([],0)).1)) (v2:Int) (h2:v2=(((Sh.ob (x0).toNat (Nt.val x2) (Nt.val x3) x1 x4).getD ([],0)).2)) (v3:Bool) (h3:v3=((Sh.ob (x0).toNat (Nt.val x2) (Nt.val x3) x1 x4).isSome)) (v4:Int) (h4:v4=(IntKind.i64.wrap (x4+(1:Int)))),ck (Nt.is x2&&Nt.is x3&&Sh.nJ (Nt.val x2) (Nt.val x3) x1 x4) (cond v3
  (some [(.s v1),(.i .i64 v2),(.b true)])
  (bI.l3 x0 x1 x2 x3 v4))=ρ):bI.l3 x0 x1 x2 x3 x4=ρ:=((bU _ _ _ _ _ _ _).trans (by kernel_rfl)).trans (K _ rfl _ rfl _ rfl _ rfl)
theorem bI.bZ (b:UInt64) {ρ:OT} (K:∀(v1:UInt64) (h1:v1=(b &&& ~~~(9223372036854775808:UInt64))) (v2:List UInt16) (h2:v2=(Nt.of ((((Nr.split b).2.2.1))).toNat)) (v3:List UInt16) (h3:v3=(Nt.of (((1:UInt64))).toNat)) (v4:List UInt16) (h4:v4=(Nt.of (Nt.val v2 * 2 ^ ((((Nr.split b).2.2.2))).toNat))) (v5:Int) (h5:v5=(IntKind.i64.wrap (0 - ((Nr.split b).2.2.2)))) (v6:List UInt16) (h6:v6=(Nt.of (Nt.val v3 * 2 ^ (v5).toNat))),cond (!decide (((Nr.split b).1)=(2:Int)))
  (some [(.s []),(.i .i64 0),(.b false)])
  (cond (decide ((0:Int)≤((Nr.split b).2.2.2)))
  (ck (decide (0≤(((Nr.split b).2.2.2))∧(((Nr.split b).2.2.2))≤4096)&&Nt.is v2) (bI.j1 v1 v4 v3))
  (ck (decide (0≤v5∧v5≤4096)&&Nt.is v3) (bI.j1 v1 v2 v6)))=ρ):bI.F b=ρ:=Eq.trans (by kernel_rfl) (K _ rfl _ rfl _ rfl _ rfl _ rfl _ rfl)
def dK.E:cC:=cT fQ zs [(85,(eY.c,eY.sg)),(145,(fB.c,fB.sg))]
def dK.h:Hint := .s .o (.s .o (.s .o (.s .o (.j (sc [1,6]) .o .o))))
def dK.F (d:bz) (x:Int):OT:=cR PG dK.E 116 dK.sg dK.h [(.s d),(.i .i64 x)]
def dK.j1 (x0:Int) (x1:bz):OT:=eD PG dK.E 116 dK.sg dK.h 31 [(.i .i64 x0),(.s x1)]
theorem dK.iI (x0:Int) (x1:bz) {ρ:OT} (K:∀(v1:Int) (h1:v1=(IntKind.i64.wrap ((1:Int) - x0))) (v2:bz) (h2:v2=((x1++([101,45]:bz))++(Nr.itoa v1))) (v3:Int) (h3:v3=(IntKind.i64.wrap (x0 - (1:Int)))) (v4:bz) (h4:v4=((x1++([101,43]:bz))++(Nr.itoa v3))),cond (decide (x0<(1:Int)))
  (ck (decide ((x1).length+(([101,45]:bz)).length≤9223372036854775807)) (ck (Nr.i64 v1) (ck (decide (((x1++([101,45]:bz))).length+((Nr.itoa v1)).length≤9223372036854775807)) (some [(.s v2)]))))
  (ck (decide ((x1).length+(([101,43]:bz)).length≤9223372036854775807)) (ck (Nr.i64 v3) (ck (decide (((x1++([101,43]:bz))).length+((Nr.itoa v3)).length≤9223372036854775807)) (some [(.s v4)]))))=ρ):dK.j1 x0 x1=ρ:=((b9 _ _ _ _ _ _ _).trans (by kernel_rfl)).trans (K _ rfl _ rfl _ rfl _ rfl)
theorem dK.bZ (d:bz) (x:Int) {ρ:OT} (K:∀(v1:Bool) (h1:v1=(cond (decide ((1:Int)≤x)) (decide (x≤(21:Int))) false)) (v2:Bool) (h2:v2=(cond v1 (decide (((d).length:Int)≤x)) false)) (v3:Int) (h3:v3=(IntKind.i64.wrap (x - ((d).length:Int)))) (v4:bz) (h4:v4=((List.take (x).toNat d)++([46]:bz))) (v5:bz) (h5:v5=(v4++(List.drop (x).toNat d))) (v6:Bool) (h6:v6=(cond (decide ((-5:Int)≤x)) (decide (x≤(0:Int))) false)) (v7:bz) (h7:v7=(Sh.dU ((IntKind.i64.wrap (0 - x))))) (v8:bz) (h8:v8=((([48,46]:bz)++v7)++d)) (v9:bz) (h9:v9=(List.take ((1:Int)).toNat d)) (v10:bz) (iA:v10=(List.drop ((1:Int)).toNat d)) (v11:bz) (ki:v11=(v9++(([46]:bz)++v10))),ck (!(decide ((1:Int)≤x)) || (decide ((1:Int)≤x))) (ck (!(decide ((1:Int)≤x)) || (decide ((1:Int)≤x))) (ck (!v1 || (v1&&v1)) (ck (!v1 || v1) (cond v2
  (ck (decide ((([48]:bz))=[48]∧0≤v3∧v3≤100)) (ck (decide ((d).length+((Sh.dU v3)).length≤9223372036854775807)) (some [(.s (d++(Sh.dU v3)))])))
  (ck (!(decide ((1:Int)≤x)) || (decide ((1:Int)≤x))) (ck (!(decide ((1:Int)≤x)) || (decide ((1:Int)≤x))) (cond v1
  (ck (gA 0 x (d).length) (ck (decide (((List.take (x).toNat d)).length+(([46]:bz)).length≤9223372036854775807)) (ck (gA x (d).length (d).length) (ck (decide ((v4).length+((List.drop (x).toNat d)).length≤9223372036854775807)) (some [(.s v5)])))))
  (ck (!(decide ((-5:Int)≤x)) || (decide ((-5:Int)≤x))) (ck (!(decide ((-5:Int)≤x)) || (decide ((-5:Int)≤x))) (cond v6
  (ck (decide ((([48]:bz))=[48]∧0≤((IntKind.i64.wrap (0 - x)))∧((IntKind.i64.wrap (0 - x)))≤100)) (ck (decide ((([48,46]:bz)).length+(v7).length≤9223372036854775807)) (ck (decide (((([48,46]:bz)++v7)).length+(d).length≤9223372036854775807)) (some [(.s v8)]))))
  (ck (gA 0 (1:Int) (d).length) (cond (decide ((1:Int)<((d).length:Int)))
  (ck (gA (1:Int) (d).length (d).length) (ck (decide ((([46]:bz)).length+(v10).length≤9223372036854775807)) (ck (decide ((v9).length+((([46]:bz)++v10)).length≤9223372036854775807)) (dK.j1 x v11))))
  (dK.j1 x v9)))))))))))))=ρ):dK.F d x=ρ:=Eq.trans (by kernel_rfl) (K _ rfl _ rfl _ rfl _ rfl _ rfl _ rfl _ rfl _ rfl _ rfl _ rfl _ rfl)
def dC.E:cC:=cT fQ zs [(114,(eH.c,eH.sg)),(115,(bI.c,bI.sg)),(116,(dK.c,dK.sg))]
def dC.h:Hint := .s .o (.s .o (.s .o (.j (sc [4,7]) .o .o)))
def dC.F (b:UInt64):OT:=cR PG dC.E 86 dC.sg dC.h [(.u64 b)]
def dC.j1 (x0:Bool) (x1:bz):OT:=eD PG dC.E 86 dC.sg dC.h 15 [(.b x0),(.s x1)]
theorem dC.lp (x0:Bool) (x1:bz):dC.j1 x0 x1=cond x0
  (ck (decide ((([45]:bz)).length+(x1).length≤9223372036854775807)) (some [(.s (([45]:bz)++x1))]))
  (some [(.s x1)]):=((b9 _ _ _ _ _ _ _).trans (by kernel_rfl))
theorem dC.bZ (b:UInt64) {ρ:OT} (K:∀(v1:bz) (h1:v1=(Sh.AA (((Sh.dg b).1)) (((Sh.dg b).2.1)))),cond (decide (((Nr.split b).1)=(4:Int)))
  (some [(.s ([78,97,78]:bz))])
  (cond (decide (((Nr.split b).1)=(3:Int)))
  (dC.j1 ((Nr.split b).2.1) ([73,110,102,105,110,105,116,121]:bz))
  (cond (decide (((Nr.split b).1)=(1:Int)))
  (dC.j1 ((Nr.split b).2.1) ([48]:bz))
  (ck (decide (1≤((((Sh.dg b).1))).length∧((((Sh.dg b).1))).length≤17∧-900≤(((Sh.dg b).2.1))∧(((Sh.dg b).2.1))≤900)) (dC.j1 ((Nr.split b).2.1) v1))))=ρ):dC.F b=ρ:=Eq.trans (by kernel_rfl) (K _ rfl)
end
end Go.Eng
set_option maxRecDepth 100000
namespace Go.Eng
open Go.Proofs
noncomputable section
def cN.E:cC:=cT fQ zs [(181,(lf.c,lf.sg))]
def cN.h:Hint := .o
def cN.F (v:UInt64) (b:Int):OT:=cR PG cN.E 149 cN.sg cN.h [(.u64 v),(.i .i64 b)]
theorem cN.eJ (v:UInt64) (b:Int):cN.F v b=ck (decide (b=10)) (some [(.s (Nr.dec (v).toNat))]):=by kernel_rfl
def cZ.E:cC:=cT fQ zs []
def cZ.h:Hint := .o
def cZ.F (s:bz) (t:bz):OT:=cR PG cZ.E 83 cZ.sg cZ.h [(.s s),(.s t)]
theorem cZ.bZ (s:bz) (t:bz) {ρ:OT} (K:∀(v1:bz) (h1:v1=(List.take (((t).length:Int)).toNat s)) (v2:Bool) (h2:v2=(cond (decide (((t).length:Int)≤((s).length:Int))) (decide (v1=t)) false)),ck (!(decide (((t).length:Int)≤((s).length:Int))) || (decide (((t).length:Int)≤((s).length:Int)))) (ck (!(decide (((t).length:Int)≤((s).length:Int))) || (((decide (((t).length:Int)≤((s).length:Int)))&&(decide (((t).length:Int)≤((s).length:Int))))&&(gA 0 ((t).length:Int) (s).length))) (ck (!(decide (((t).length:Int)≤((s).length:Int))) || ((decide (((t).length:Int)≤((s).length:Int)))&&(decide (((t).length:Int)≤((s).length:Int))))) (ck (!(decide (((t).length:Int)≤((s).length:Int))) || (decide (((t).length:Int)≤((s).length:Int)))) (some [(.b v2)]))))=ρ):cZ.F s t=ρ:=Eq.trans (by kernel_rfl) (K _ rfl _ rfl)
def cY.E:cC:=cT fQ zs [(83,(cZ.c,cZ.sg))]
def cY.h:Hint := .o
def cY.F (s:bz) (t:bz):OT:=cR PG cY.E 50 cY.sg cY.h [(.s s),(.s t)]
theorem cY.eJ (s:bz) (t:bz):cY.F s t=some [(.b (List.isPrefixOf t s))]:=by kernel_rfl
def cX.E:cC:=cT fQ zs [(156,(cH.c,cH.sg))]
def cX.h:Hint := .o
def cX.F (s:bz) (c:UInt8):OT:=cR PG cX.E 134 cX.sg cX.h [(.s s),(.u8 c)]
theorem cX.eJ (s:bz) (c:UInt8):cX.F s c=some [(.i .i64 (Lib.indexByte s c))]:=by kernel_rfl
def fq.E:cC:=cT fQ zs []
def fq.h:Hint := .o
def fq.F (a:UInt64) (b:UInt64):OT:=cR PG fq.E 207 fq.sg fq.h [(.u64 a),(.u64 b)]
theorem fq.bZ (a:UInt64) (b:UInt64) {ρ:OT} (K:∀(v1:UInt64) (h1:v1=(a &&& (4294967295:UInt64))) (v2:UInt64) (h2:v2=(dD a (((32:UInt64)).toNat))) (v3:UInt64) (h3:v3=(b &&& (4294967295:UInt64))) (v4:UInt64) (h4:v4=(dD b (((32:UInt64)).toNat))) (v5:UInt64) (h5:v5=(dD (v1 * v3) (((32:UInt64)).toNat))) (v6:UInt64) (h6:v6=(((v2 * v3)+v5) &&& (4294967295:UInt64))) (v7:UInt64) (h7:v7=(dD ((v2 * v3)+v5) (((32:UInt64)).toNat))) (v8:UInt64) (h8:v8=(dD (v6+(v1 * v4)) (((32:UInt64)).toNat))),some [(.u64 (((v2 * v4)+v7)+v8)),(.u64 (a * b))]=ρ):fq.F a b=ρ:=Eq.trans (by kernel_rfl) (K _ rfl _ rfl _ rfl _ rfl _ rfl _ rfl _ rfl _ rfl)
def dZ.E:cC:=cT fQ zs [(191,(bits_Len64.c,bits_Len64.sg))]
def dZ.h:Hint := .o
def dZ.F (v:UInt64):OT:=cR PG dZ.E 210 dZ.sg dZ.h [(.u64 v)]
theorem dZ.bZ (v:UInt64) {ρ:OT} (K:∀(v1:Int) (h1:v1=(IntKind.i64.wrap ((64:Int) - ((Nt.bits (v).toNat:Int))))),some [(.i .i64 v1)]=ρ):dZ.F v=ρ:=Eq.trans (by kernel_rfl) (K _ rfl)
def bF.E:cC:=cT fQ zs [(210,(dZ.c,dZ.sg))]
def bF.h:Hint := .s .o (.j (sc [0,1,2]) .o (.j (sc [0,1,2]) .o (.s .o (.s .o (.s .o (.s .o (.s .o (.s .o (.s .o (.s .o (.s .o (.s .o (.s .o (.j (sc [2,8,9,10,11,13,14,15]) (.b (.l (sc [2,8,9,10,11,13,14,15,16]) .o)) (.s .o (.s .o (.s .o (.j (sc [2,8,14,15,17,18]) (.b (.l (sc [2,8,9,10,14,15,16,17,18]) .o)) .o))))))))))))))))))
def bF.F (a:UInt64) (b:UInt64) (y:UInt64):OT:=cR PG bF.E 180 bF.sg bF.h [(.u64 a),(.u64 b),(.u64 y)]
def bF.j1 (x0:UInt64) (x1:UInt64) (x2:UInt64):OT:=eD PG bF.E 180 bF.sg bF.h 3 [(.u64 x0),(.u64 x1),(.u64 x2)]
def bF.j2 (x0:UInt64) (x1:UInt64) (x2:UInt64):OT:=eD PG bF.E 180 bF.sg bF.h 7 [(.u64 x0),(.u64 x1),(.u64 x2)]
def bF.l3 (x0:UInt64) (x1:UInt64) (x2:UInt64) (x3:UInt64) (x4:UInt64) (x5:UInt64) (x6:UInt64) (x7:UInt64) (x8:UInt64):OT:=dQ PG bF.E 180 bF.sg bF.h 81919 [(.u64 x0),(.u64 x1),(.u64 x2),(.u64 x3),(.u64 x4),(.u64 x5),(.u64 x6),(.u64 x7),(.u64 x8)]
def bF.j4 (x0:UInt64) (x1:UInt64) (x2:UInt64) (x3:UInt64) (x4:UInt64) (x5:UInt64) (x6:UInt64) (x7:UInt64):OT:=eD PG bF.E 180 bF.sg bF.h 32767 [(.u64 x0),(.u64 x1),(.u64 x2),(.u64 x3),(.u64 x4),(.u64 x5),(.u64 x6),(.u64 x7)]
def bF.l5 (x0:UInt64) (x1:UInt64) (x2:UInt64) (x3:UInt64) (x4:UInt64) (x5:UInt64) (x6:UInt64) (x7:UInt64) (x8:UInt64):OT:=dQ PG bF.E 180 bF.sg bF.h 1310719 [(.u64 x0),(.u64 x1),(.u64 x2),(.u64 x3),(.u64 x4),(.u64 x5),(.u64 x6),(.u64 x7),(.u64 x8)]
def bF.j6 (x0:UInt64) (x1:UInt64) (x2:UInt64) (x3:UInt64) (x4:UInt64) (x5:UInt64):OT:=eD PG bF.E 180 bF.sg bF.h 524287 [(.u64 x0),(.u64 x1),(.u64 x2),(.u64 x3),(.u64 x4),(.u64 x5)]
theorem bF.lp (x0:UInt64) (x1:UInt64) (x2:UInt64):bF.j1 x0 x1 x2=cond (decide (x2≤x0))
  (none)
  (bF.j2 x0 x1 x2):=((b9 _ _ _ _ _ _ _).trans (by kernel_rfl))
theorem bF.jg (x0:UInt64) (x1:UInt64) (x2:UInt64) {ρ:OT} (K:∀(v1:UInt64) (h1:v1=(iK x2 (((UInt64.ofInt (0))).toNat))) (v2:UInt64) (h2:v2=(dD v1 (((32:UInt64)).toNat))) (v3:UInt64) (h3:v3=(v1 &&& (4294967295:UInt64))) (v4:UInt64) (h4:v4=(iK x0 (((UInt64.ofInt (0))).toNat))) (v5:UInt64) (h5:v5=((64:UInt64) - (UInt64.ofInt (0)))) (v6:UInt64) (h6:v6=(v4 ||| (dD x1 ((v5).toNat)))) (v7:UInt64) (h7:v7=(iK x1 (((UInt64.ofInt (0))).toNat))) (v8:UInt64) (h8:v8=(dD v7 (((32:UInt64)).toNat))) (v9:UInt64) (h9:v9=(v7 &&& (4294967295:UInt64))),cond (decide (x0=(0:UInt64)))
  (ck (!decide (x2=0)) (ck (!decide (x2=0)) (some [(.u64 (x1 / x2)),(.u64 (x1 % x2))])))
  (ck (decide (9223372036854775808≤(x2).toNat)) (ck (!decide (v2=0)) (bF.l3 v1 (UInt64.ofInt (0)) v2 v3 v6 v8 v9 (v6 / v2) (v6 - ((v6 / v2) * v2)))))=ρ):bF.j2 x0 x1 x2=ρ:=((b9 _ _ _ _ _ _ _).trans (by kernel_rfl)).trans (K _ rfl _ rfl _ rfl _ rfl _ rfl _ rfl _ rfl _ rfl _ rfl)
theorem bF.sJ (x0:UInt64) (x1:UInt64) (x2:UInt64) (x3:UInt64) (x4:UInt64) (x5:UInt64) (x6:UInt64) (x7:UInt64) (x8:UInt64) {ρ:OT} (K:∀(v1:UInt64) (h1:v1=(((4294967296:UInt64) * x8)+x5)) (v2:Bool) (h2:v2=(cond (decide ((4294967296:UInt64)≤x7)) true (decide (v1<(x7 * x3))))),ck (!(!(decide ((4294967296:UInt64)≤x7))) || ((!(decide ((4294967296:UInt64)≤x7)))&&(!(decide ((4294967296:UInt64)≤x7))))) (ck (!(!(decide ((4294967296:UInt64)≤x7))) || (!(decide ((4294967296:UInt64)≤x7)))) (ck (!(!(decide ((4294967296:UInt64)≤x7))) || ((!(decide ((4294967296:UInt64)≤x7)))&&(!(decide ((4294967296:UInt64)≤x7))))) (ck (!(!(decide ((4294967296:UInt64)≤x7))) || ((!(decide ((4294967296:UInt64)≤x7)))&&(!(decide ((4294967296:UInt64)≤x7))))) (ck ((decide ((4294967296:UInt64)≤x7)) || (!(decide ((4294967296:UInt64)≤x7)))) (cond v2
  (cond (decide ((4294967296:UInt64)≤(x8+x2)))
  (bF.j4 x0 x1 x2 x3 x4 x5 x6 (x7 - (1:UInt64)))
  (bF.l3 x0 x1 x2 x3 x4 x5 x6 (x7 - (1:UInt64)) (x8+x2)))
  (bF.j4 x0 x1 x2 x3 x4 x5 x6 x7))))))=ρ):bF.l3 x0 x1 x2 x3 x4 x5 x6 x7 x8=ρ:=((bU _ _ _ _ _ _ _).trans (by kernel_rfl)).trans (K _ rfl _ rfl)
theorem bF.DO (x0:UInt64) (x1:UInt64) (x2:UInt64) (x3:UInt64) (x4:UInt64) (x5:UInt64) (x6:UInt64) (x7:UInt64) {ρ:OT} (K:∀(v1:UInt64) (h1:v1=((x4 * (4294967296:UInt64))+x5)) (v2:UInt64) (h2:v2=(((v1 - (x7 * x0)) / x2) * x2)),ck (!decide (x2=0)) (bF.l5 x0 x1 x2 x3 x6 x7 ((v1 - (x7 * x0)) - v2) (v1 - (x7 * x0)) ((v1 - (x7 * x0)) / x2))=ρ):bF.j4 x0 x1 x2 x3 x4 x5 x6 x7=ρ:=((b9 _ _ _ _ _ _ _).trans (by kernel_rfl)).trans (K _ rfl _ rfl)
theorem bF.AB (x0:UInt64) (x1:UInt64) (x2:UInt64) (x3:UInt64) (x4:UInt64) (x5:UInt64) (x6:UInt64) (x7:UInt64) (x8:UInt64) {ρ:OT} (K:∀(v1:UInt64) (h1:v1=(((4294967296:UInt64) * x6)+x4)) (v2:Bool) (h2:v2=(cond (decide ((4294967296:UInt64)≤x8)) true (decide (v1<(x8 * x3))))),ck (!(!(decide ((4294967296:UInt64)≤x8))) || ((!(decide ((4294967296:UInt64)≤x8)))&&(!(decide ((4294967296:UInt64)≤x8))))) (ck (!(!(decide ((4294967296:UInt64)≤x8))) || (!(decide ((4294967296:UInt64)≤x8)))) (ck (!(!(decide ((4294967296:UInt64)≤x8))) || ((!(decide ((4294967296:UInt64)≤x8)))&&(!(decide ((4294967296:UInt64)≤x8))))) (ck (!(!(decide ((4294967296:UInt64)≤x8))) || ((!(decide ((4294967296:UInt64)≤x8)))&&(!(decide ((4294967296:UInt64)≤x8))))) (ck ((decide ((4294967296:UInt64)≤x8)) || (!(decide ((4294967296:UInt64)≤x8)))) (cond v2
  (cond (decide ((4294967296:UInt64)≤(x6+x2)))
  (bF.j6 x0 x1 x4 x5 x7 (x8 - (1:UInt64)))
  (bF.l5 x0 x1 x2 x3 x4 x5 (x6+x2) x7 (x8 - (1:UInt64))))
  (bF.j6 x0 x1 x4 x5 x7 x8))))))=ρ):bF.l5 x0 x1 x2 x3 x4 x5 x6 x7 x8=ρ:=((bU _ _ _ _ _ _ _).trans (by kernel_rfl)).trans (K _ rfl _ rfl)
theorem bF.DM (x0:UInt64) (x1:UInt64) (x2:UInt64) (x3:UInt64) (x4:UInt64) (x5:UInt64) {ρ:OT} (K:∀(v1:UInt64) (h1:v1=((x3 * (4294967296:UInt64))+x5)) (v2:UInt64) (h2:v2=((x4 * (4294967296:UInt64))+x2)) (v3:UInt64) (h3:v3=(dD (v2 - (x5 * x0)) ((x1).toNat))),some [(.u64 v1),(.u64 v3)]=ρ):bF.j6 x0 x1 x2 x3 x4 x5=ρ:=((b9 _ _ _ _ _ _ _).trans (by kernel_rfl)).trans (K _ rfl _ rfl _ rfl)
theorem bF.eJ (a:UInt64) (b:UInt64) (y:UInt64):bF.F a b y=cond (decide (y=(0:UInt64)))
  (none)
  (bF.j1 a b y):=by kernel_rfl
def gI.E:cC:=cT fQ zs []
def gI.h:Hint := .o
def gI.F (a:dy) (b:dy):OT:=cR PG gI.E 146 gI.sg gI.h [(.ag (dy.cells a)),(.ag (dy.cells b))]
theorem gI.bZ (a:dy) (b:dy) {ρ:OT} (K:∀(v1:Bool) (h1:v1=(decide ((dy.high a)=(dy.high b))&&decide ((dy.low a)=(dy.low b)))) (v2:Bool) (h2:v2=((!(decide ((dy.high a)<(dy.high b))))&&(decide ((dy.high a)=(dy.high b))))) (v3:Bool) (h3:v3=(cond (decide ((dy.high a)=(dy.high b))) (decide ((dy.low a)<(dy.low b))) false)) (v4:Bool) (h4:v4=(cond (decide ((dy.high a)<(dy.high b))) true v3)),cond v1
  (some [(.i .i64 0)])
  (ck (!(!(decide ((dy.high a)<(dy.high b)))) || (!(decide ((dy.high a)<(dy.high b))))) (ck (!(!(decide ((dy.high a)<(dy.high b)))) || (!(decide ((dy.high a)<(dy.high b))))) (ck (!(!(decide ((dy.high a)<(dy.high b)))) || ((!(decide ((dy.high a)<(dy.high b))))&&(!(decide ((dy.high a)<(dy.high b)))))) (ck (!(!(decide ((dy.high a)<(dy.high b)))) || (!(decide ((dy.high a)<(dy.high b))))) (ck (!v2 || v2) (ck (!v2 || v2) (ck (!v2 || (v2&&v2)) (ck (!(!(decide ((dy.high a)<(dy.high b)))) || ((!(decide ((dy.high a)<(dy.high b))))&&(!(decide ((dy.high a)=(dy.high b))) || v2))) (ck ((decide ((dy.high a)<(dy.high b))) || (!(decide ((dy.high a)<(dy.high b))))) (cond v4
  (some [(.i .i64 (-1))])
  (some [(.i .i64 1)])))))))))))=ρ):gI.F a b=ρ:=Eq.trans (by kernel_rfl) (K _ rfl _ rfl _ rfl _ rfl)
def gU.E:cC:=cT fQ zs [(207,(fq.c,fq.sg))]
def gU.h:Hint := .o
def gU.F (a:UInt64) (b:UInt64):OT:=cR PG gU.E 179 gU.sg gU.h [(.u64 a),(.u64 b)]
theorem gU.bZ (a:UInt64) (b:UInt64) {ρ:OT} (K:∀(v1:UInt64) (h1:v1=(UInt64.ofNat ((a).toNat * (b).toNat / 18446744073709551616))) (v2:UInt64) (h2:v2=(UInt64.ofNat ((a).toNat * (b).toNat))),some [(.ag [(.u64 v1),(.u64 v2)])]=ρ):gU.F a b=ρ:=Eq.trans (by kernel_rfl) (K _ rfl _ rfl)
def gV.E:cC:=cT fQ zs [(180,(bF.c,bF.sg))]
def gV.h:Hint := .o
def gV.F (a:dy) (b:UInt64):OT:=cR PG gV.E 148 gV.sg gV.h [(.ag (dy.cells a)),(.u64 b)]
theorem gV.bZ (a:dy) (b:UInt64) {ρ:OT} (K:∀(v1:UInt64) (h1:v1=(UInt64.ofNat (((((0:UInt64))).toNat * 18446744073709551616+(((dy.high a))).toNat) / (b).toNat))) (v2:UInt64) (h2:v2=(UInt64.ofNat (((((0:UInt64))).toNat * 18446744073709551616+(((dy.high a))).toNat) % (b).toNat))) (v3:UInt64) (h3:v3=(UInt64.ofNat (((v2).toNat * 18446744073709551616+(((dy.low a))).toNat) / (b).toNat))) (v4:UInt64) (h4:v4=(UInt64.ofNat (((v2).toNat * 18446744073709551616+(((dy.low a))).toNat) % (b).toNat))),cond (decide (b=(0:UInt64)))
  (some [(.ag [(.u64 0),(.u64 0)]),(.u64 0),(.b false)])
  (ck (decide (9223372036854775808≤(b).toNat∧(((0:UInt64))).toNat<(b).toNat)) (ck (decide (9223372036854775808≤(b).toNat∧(v2).toNat<(b).toNat)) (some [(.ag [(.u64 v1),(.u64 v3)]),(.u64 v4),(.b true)])))=ρ):gV.F a b=ρ:=Eq.trans (by kernel_rfl) (K _ rfl _ rfl _ rfl _ rfl)
def cO.E:cC:=cT fQ zs [(145,(fB.c,fB.sg)),(148,(gV.c,gV.sg)),(149,(cN.c,cN.sg)),(150,(gq.c,gq.sg))]
def cO.h:Hint := .s .o (.s .o (.s (.b (.l [(1,.ptr 53 0),(3,.no),(53,.cl [])] .o)) (.j (sc [3]) .o .o)))
def cO.F (a:dy):OT:=cR PG cO.E 120 cO.sg cO.h [(.ag (dy.cells a))]
def cO.l1 (x0:bz) (x1:UInt64) (x2:UInt64):OT:=dQ PG cO.E 120 cO.sg cO.h 19 [.pt,(.s x0),(.ag [(.u64 x1),(.u64 x2)])]
def cO.j2 (x0:bz):OT:=eD PG cO.E 120 cO.sg cO.h 15 [(.s x0)]
theorem cO.bV (x0:bz) (x1:UInt64) (x2:UInt64) {ρ:OT} (K:∀(v1:dy) (h1:v1=(dy.of (dy.val (dy.mk x1 x2) / (((10000000000000000000:UInt64))).toNat))) (v2:UInt64) (h2:v2=(UInt64.ofNat (dy.val (dy.mk x1 x2) % (((10000000000000000000:UInt64))).toNat))) (v3:Int) (h3:v3=(((Nr.dec (v2).toNat)).length:Int)) (v4:Int) (h4:v4=(IntKind.i64.wrap ((19:Int) - v3))) (v5:bz) (h5:v5=((Sh.dU v4)++(Nr.dec (v2).toNat))) (v6:Bool) (h6:v6=(cond (decide (x0=([]:bz))) true (!decide (x2=(0:UInt64))))),cond (!decide (x1=(0:UInt64)))
  (ck (decide (9223372036854775808≤(((10000000000000000000:UInt64))).toNat)) (ck (decide (((10:Int))=10)) (ck (decide ((([48]:bz))=[48]∧0≤v4∧v4≤100)) (ck (decide (((Sh.dU v4)).length+((Nr.dec (v2).toNat)).length≤9223372036854775807)) (ck (decide ((v5).length+(x0).length≤9223372036854775807)) (cO.l1 (v5++x0) (dy.high v1) (dy.low v1)))))))
  (ck (!(!(decide (x0=([]:bz)))) || (!(decide (x0=([]:bz))))) (ck (!(!(decide (x0=([]:bz)))) || (!(decide (x0=([]:bz))))) (ck ((decide (x0=([]:bz))) || (!(decide (x0=([]:bz))))) (cond v6
  (ck (decide (((10:Int))=10)) (ck (decide (((Nr.dec (x2).toNat)).length+(x0).length≤9223372036854775807)) (cO.j2 ((Nr.dec (x2).toNat)++x0))))
  (cO.j2 x0)))))=ρ):cO.l1 x0 x1 x2=ρ:=((bU _ _ _ _ _ _ _).trans (by kernel_rfl)).trans (K _ rfl _ rfl _ rfl _ rfl _ rfl _ rfl)
theorem cO.jg (x0:bz) {ρ:OT} (K:∀(v1:Int) (h1:v1=(IntKind.i64.wrap (((x0).length:Int) - (1:Int)))) (v2:bz) (h2:v2=(Lib.trimLeftS ((List.take (v1).toNat x0)) (([48]:bz)))) (v3:bz) (h3:v3=(v2++(List.drop (v1).toNat x0))),ck (gA 0 v1 (x0).length) (ck (decide ((((List.take (v1).toNat x0))).length≤1099511627776∧((([48]:bz))).length≤100)&&((([48]:bz))).all (fun b=>decide (b.toNat<128))) (ck (gA v1 (x0).length (x0).length) (ck (decide ((v2).length+((List.drop (v1).toNat x0)).length≤9223372036854775807)) (some [(.s v3)]))))=ρ):cO.j2 x0=ρ:=((b9 _ _ _ _ _ _ _).trans (by kernel_rfl)).trans (K _ rfl _ rfl _ rfl)
theorem cO.eJ (a:dy):cO.F a=cO.l1 ([]:bz) (dy.high a) (dy.low a):=by kernel_rfl
def fE.E:cC:=cT fQ zs [(179,(gU.c,gU.sg))]
def fE.h:Hint := .o
def fE.F  : OT:=cR PG fE.E 147 fE.sg fE.h []
theorem fE.bZ  {ρ:OT} (K:∀(v1:dy) (h1:v1=(dy.of ((((100000000000000000:UInt64))).toNat * (((100000000000000000:UInt64))).toNat))),some [(.ag (dy.cells v1))]=ρ):fE.F  = ρ:=Eq.trans (by kernel_rfl) (K _ rfl)
def dh.E:cC:=cT fQ zs [(146,(gI.c,gI.sg)),(147,(fE.c,fE.sg))]
def dh.h:Hint := .s .o (.s .o (.s .o (.s .o (.s .o (.j [(0,.no),(5,.no),(6,.ptr 58 0),(58,.cl [])] .o .o)))))
def dh.F (h:UInt64) (l:UInt64):OT:=cR PG dh.E 117 dh.sg dh.h [(.u64 h),(.u64 l)]
def dh.j1 (x0:UInt64) (x1:Bool) (x2:UInt64) (x3:UInt64):OT:=eD PG dh.E 117 dh.sg dh.h 63 [(.u64 x0),(.b x1),.pt,(.ag [(.u64 x2),(.u64 x3)])]
theorem dh.iI (x0:UInt64) (x1:Bool) (x2:UInt64) (x3:UInt64) {ρ:OT} (K:∀(v1:UInt64) (h1:v1=(dD x0 (((49:UInt64)).toNat))) (v2:Int) (h2:v2=(IntKind.i64.wrap (((v1 &&& (16383:UInt64))).toNat:Int))) (v3:Int) (h3:v3=(IntKind.i64.wrap (v2 - (6176:Int)))),some [(.i .i64 1),(.b x1),(.ag [(.u64 x2),(.u64 x3)]),(.i .i64 v3)]=ρ):dh.j1 x0 x1 x2 x3=ρ:=((b9 _ _ _ _ _ _ _).trans (by kernel_rfl)).trans (K _ rfl _ rfl _ rfl)
theorem dh.bZ (h:UInt64) (l:UInt64) {ρ:OT} (K:∀(v1:UInt64) (h1:v1=(dD h (((63:UInt64)).toNat))) (v2:UInt64) (h2:v2=(dD h (((58:UInt64)).toNat))) (v3:Bool) (h3:v3=(decide ((v2 &&& (31:UInt64))=(31:UInt64)))) (v4:Bool) (h4:v4=(decide ((v2 &&& (31:UInt64))=(30:UInt64)))) (v5:UInt64) (h5:v5=(dD (v2 &&& (31:UInt64)) (((3:UInt64)).toNat))) (v6:UInt64) (h6:v6=(dD h (((47:UInt64)).toNat))) (v7:Int) (h7:v7=(IntKind.i64.wrap (((v6 &&& (16383:UInt64))).toNat:Int))) (v8:Int) (h8:v8=(IntKind.i64.wrap (v7 - (6176:Int)))) (v9:UInt64) (h9:v9=(h &&& (562949953421311:UInt64))) (v10:Int) (iA:v10=(cond (decide (dy.val (dy.mk v9 l)=dy.val (Cn.sB))) 0 (cond (decide (dy.val (dy.mk v9 l)<dy.val (Cn.sB))) (-1) 1))),cond v3
  (some [(.i .i64 3),(.b (decide (v1=(1:UInt64)))),(.ag [(.u64 0),(.u64 0)]),(.i .i64 0)])
  (cond v4
  (some [(.i .i64 2),(.b (decide (v1=(1:UInt64)))),(.ag [(.u64 0),(.u64 0)]),(.i .i64 0)])
  (cond (decide (v5=(3:UInt64)))
  (some [(.i .i64 1),(.b (decide (v1=(1:UInt64)))),(.ag [(.u64 0),(.u64 0)]),(.i .i64 v8)])
  (cond (decide ((0:Int)≤v10))
  (dh.j1 h (decide (v1=(1:UInt64))) (0:UInt64) (0:UInt64))
  (dh.j1 h (decide (v1=(1:UInt64))) v9 l))))=ρ):dh.F h l=ρ:=Eq.trans (by kernel_rfl) (K _ rfl _ rfl _ rfl _ rfl _ rfl _ rfl _ rfl _ rfl _ rfl _ rfl)
def dS.E:cC:=cT fQ zs [(146,(gI.c,gI.sg)),(147,(fE.c,fE.sg))]
def dS.h:Hint := .s .o (.s .o (.s .o (.j [(4,.ptr 38 0),(6,.no),(38,.cl [])] .o .o)))
def dS.F (n:Bool) (c:dy) (x:Int):OT:=cR PG dS.E 118 dS.sg dS.h [(.b n),(.ag (dy.cells c)),(.i .i64 x)]
def dS.j1 (x0:UInt64) (x1:UInt64) (x2:UInt64):OT:=eD PG dS.E 118 dS.sg dS.h 15 [.pt,(.u64 x0),(.ag [(.u64 x1),(.u64 x2)])]
theorem dS.lp (x0:UInt64) (x1:UInt64) (x2:UInt64):dS.j1 x0 x1 x2=some [(.u64 x0),(.u64 x2),(.b true)]:=((b9 _ _ _ _ _ _ _).trans (by kernel_rfl))
theorem dS.bZ (n:Bool) (c:dy) (x:Int) {ρ:OT} (K:∀(v1:Int) (h1:v1=(cond (decide (dy.val c=dy.val (Cn.sB))) 0 (cond (decide (dy.val c<dy.val (Cn.sB))) (-1) 1))) (v2:Bool) (h2:v2=(cond (decide ((0:Int)≤v1)) true (decide (x<(-6176:Int))))) (v3:Bool) (h3:v3=(cond v2 true (decide ((6111:Int)<x)))) (v4:Int) (h4:v4=(IntKind.i64.wrap (x+(6176:Int)))) (v5:UInt64) (h5:v5=(iK (UInt64.ofInt v4) (((49:UInt64)).toNat))) (v6:UInt64) (h6:v6=((v5 ||| (dy.high c)) ||| (9223372036854775808:UInt64))),ck (!(!(decide ((0:Int)≤v1))) || (!(decide ((0:Int)≤v1)))) (ck ((decide ((0:Int)≤v1)) || (!(decide ((0:Int)≤v1)))) (ck (!(!v2) || (!v2)) (ck (v2 || (!v2)) (cond v3
  (some [(.u64 0),(.u64 0),(.b false)])
  (cond n
  (dS.j1 v6 (dy.high c) (dy.low c))
  (dS.j1 (v5 ||| (dy.high c)) (dy.high c) (dy.low c)))))))=ρ):dS.F n c x=ρ:=Eq.trans (by kernel_rfl) (K _ rfl _ rfl _ rfl _ rfl _ rfl _ rfl)
def fw.E:cC:=cT fQ zs [(117,(dh.c,dh.sg)),(118,(dS.c,dS.sg))]
def fw.h:Hint := .o
def fw.F (h:UInt64) (l:UInt64):OT:=cR PG fw.E 88 fw.sg fw.h [(.u64 h),(.u64 l)]
theorem fw.bZ (h:UInt64) (l:UInt64) {ρ:OT} (K:∀(v1:Bool) (h1:v1=(cond (decide (h=(8935141660703064064:UInt64))) (decide (l=(0:UInt64))) false)) (v2:UInt64) (h2:v2=(h &&& ~~~(9223372036854775808:UInt64))) (v3:Bool) (h3:v3=(cond (decide (v2=(8646911284551352320:UInt64))) (decide (l=(0:UInt64))) false)) (v4:UInt64) (h4:v4=((Cn.join (((Cn.split h l).2.1)) ((Cn.split h l).2.2.1) (((Cn.split h l).2.2.2))).1)) (v5:UInt64) (h5:v5=((Cn.join (((Cn.split h l).2.1)) ((Cn.split h l).2.2.1) (((Cn.split h l).2.2.2))).2.1)) (v6:Bool) (h6:v6=((Cn.join (((Cn.split h l).2.1)) ((Cn.split h l).2.2.1) (((Cn.split h l).2.2.2))).2.2)) (v7:Bool) (h7:v7=(cond v6 (decide (v4=h)) false)) (v8:Bool) (h8:v8=(cond v7 (decide (v5=l)) false)),cond (decide (((Cn.split h l).1)=(3:Int)))
  (ck (!(decide (h=(8935141660703064064:UInt64))) || (decide (h=(8935141660703064064:UInt64)))) (ck (!(decide (h=(8935141660703064064:UInt64))) || (decide (h=(8935141660703064064:UInt64)))) (some [(.b v1)])))
  (cond (decide (((Cn.split h l).1)=(2:Int)))
  (ck (!(decide (v2=(8646911284551352320:UInt64))) || (decide (v2=(8646911284551352320:UInt64)))) (ck (!(decide (v2=(8646911284551352320:UInt64))) || (decide (v2=(8646911284551352320:UInt64)))) (some [(.b v3)])))
  (ck (Nr.i64 (((Cn.split h l).2.2.2))) (ck (!v6 || (v6&&v6)) (ck (!v6 || v6) (ck (!v7 || (v7&&v7)) (ck (!v7 || v7) (some [(.b v8)])))))))=ρ):fw.F h l=ρ:=Eq.trans (by kernel_rfl) (K _ rfl _ rfl _ rfl _ rfl _ rfl _ rfl _ rfl _ rfl)
def df.E:cC:=cT fQ zs [(84,(iG.c,iG.sg)),(145,(fB.c,fB.sg))]
def df.h:Hint := .s .o (.s .o (.s .o (.s (.b (.s .o (.s .o (.s .o (.s (.j (sc [0,1,5]) .o .o) .o))))) (.s .o (.j (sc [6,7]) .o .o)))))
def df.F (d:bz) (x:Int):OT:=cR PG df.E 119 df.sg df.h [(.s d),(.i .i64 x)]
def df.j1 (x0:bz) (x1:Int) (x2:Int):OT:=eD PG df.E 119 df.sg df.h 743 [(.s x0),(.i .i64 x1),(.i .i64 x2)]
def df.j2 (x0:Int) (x1:bz):OT:=eD PG df.E 119 df.sg df.h 63 [(.i .i64 x0),(.s x1)]
theorem df.iI (x0:bz) (x1:Int) (x2:Int) {ρ:OT} (K:∀(v1:bz) (h1:v1=(List.take ((IntKind.i64.wrap (x2+x1))).toNat x0)) (v2:bz) (h2:v2=(List.drop ((IntKind.i64.wrap (x2+x1))).toNat x0)),ck (gA 0 (IntKind.i64.wrap (x2+x1)) (x0).length) (ck (decide ((v1).length+(([46]:bz)).length≤9223372036854775807)) (ck (gA (IntKind.i64.wrap (x2+x1)) (x0).length (x0).length) (ck (decide (((v1++([46]:bz))).length+(v2).length≤9223372036854775807)) (some [(.s ((v1++([46]:bz))++v2))]))))=ρ):df.j1 x0 x1 x2=ρ:=((b9 _ _ _ _ _ _ _).trans (by kernel_rfl)).trans (K _ rfl _ rfl)
theorem df.jg (x0:Int) (x1:bz) {ρ:OT} (K:∀(v1:bz) (h1:v1=(Nr.itoa ((IntKind.i64.wrap (0 - x0))))) (v2:bz) (h2:v2=((x1++([69,45]:bz))++v1)) (v3:bz) (h3:v3=((x1++([69,43]:bz))++(Nr.itoa x0))),cond (decide (x0<(0:Int)))
  (ck (decide ((x1).length+(([69,45]:bz)).length≤9223372036854775807)) (ck (Nr.i64 ((IntKind.i64.wrap (0 - x0)))) (ck (decide (((x1++([69,45]:bz))).length+(v1).length≤9223372036854775807)) (some [(.s v2)]))))
  (ck (decide ((x1).length+(([69,43]:bz)).length≤9223372036854775807)) (ck (Nr.i64 x0) (ck (decide (((x1++([69,43]:bz))).length+((Nr.itoa x0)).length≤9223372036854775807)) (some [(.s v3)]))))=ρ):df.j2 x0 x1=ρ:=((b9 _ _ _ _ _ _ _).trans (by kernel_rfl)).trans (K _ rfl _ rfl _ rfl)
theorem df.bZ (d:bz) (x:Int) {ρ:OT} (K:∀(v1:Int) (h1:v1=(IntKind.i64.wrap (x+((d).length:Int)))) (v2:Int) (h2:v2=(IntKind.i64.wrap (v1 - (1:Int)))) (v3:Bool) (h3:v3=(cond (decide (x<(0:Int))) (decide ((-6:Int)≤v2)) false)) (v4:Int) (h4:v4=(IntKind.i64.wrap ((1:Int) - x))) (v5:Int) (h5:v5=(IntKind.i64.wrap (v4 - ((d).length:Int)))) (v6:Int) (h6:v6=((((Sh.dU v5)++d)).length:Int)) (v7:bz) (h7:v7=(List.take ((1:Int)).toNat d)) (v8:bz) (h8:v8=(List.drop ((1:Int)).toNat d)),cond (decide (x=(0:Int)))
  (some [(.s d)])
  (ck (!(decide (x<(0:Int))) || (decide (x<(0:Int)))) (ck (!(decide (x<(0:Int))) || (decide (x<(0:Int)))) (cond v3
  (cond (decide (((d).length:Int)≤(IntKind.i64.wrap (0 - x))))
  (ck (decide ((([48]:bz))=[48]∧0≤v5∧v5≤100)) (ck (decide (((Sh.dU v5)).length+(d).length≤9223372036854775807)) (df.j1 ((Sh.dU v5)++d) x v6)))
  (df.j1 d x ((d).length:Int)))
  (ck (gA 0 (1:Int) (d).length) (cond (decide ((1:Int)<((d).length:Int)))
  (ck (gA (1:Int) (d).length (d).length) (ck (decide ((([46]:bz)).length+(v8).length≤9223372036854775807)) (ck (decide ((v7).length+((([46]:bz)++v8)).length≤9223372036854775807)) (df.j2 v2 (v7++(([46]:bz)++v8))))))
  (df.j2 v2 v7))))))=ρ):df.F d x=ρ:=Eq.trans (by kernel_rfl) (K _ rfl _ rfl _ rfl _ rfl _ rfl _ rfl _ rfl _ rfl)
def dR.E:cC:=cT fQ zs [(117,(dh.c,dh.sg)),(119,(df.c,df.sg)),(120,(cO.c,cO.sg))]
def dR.h:Hint := .s .o (.s .o (.s .o (.j (sc [6,9]) .o .o)))
def dR.F (h:UInt64) (l:UInt64):OT:=cR PG dR.E 89 dR.sg dR.h [(.u64 h),(.u64 l)]
def dR.j1 (x0:Bool) (x1:bz):OT:=eD PG dR.E 89 dR.sg dR.h 15 [(.b x0),(.s x1)]
theorem dR.lp (x0:Bool) (x1:bz):dR.j1 x0 x1=cond x0
  (ck (decide ((([45]:bz)).length+(x1).length≤9223372036854775807)) (some [(.s (([45]:bz)++x1))]))
  (some [(.s x1)]):=((b9 _ _ _ _ _ _ _).trans (by kernel_rfl))
theorem dR.bZ (h:UInt64) (l:UInt64) {ρ:OT} (K:∀(v1:bz) (h1:v1=(Nr.dec (dy.val ((Cn.split h l).2.2.1)))) (v2:bz) (h2:v2=(Cn.laid v1 (((Cn.split h l).2.2.2)))),cond (decide (((Cn.split h l).1)=(3:Int)))
  (some [(.s ([78,97,78]:bz))])
  (cond (decide (((Cn.split h l).1)=(2:Int)))
  (dR.j1 ((Cn.split h l).2.1) ([73,110,102,105,110,105,116,121]:bz))
  (ck (decide (1≤(v1).length∧(v1).length≤40∧-10000≤(((Cn.split h l).2.2.2))∧(((Cn.split h l).2.2.2))≤100000)) (dR.j1 ((Cn.split h l).2.1) v2)))=ρ):dR.F h l=ρ:=Eq.trans (by kernel_rfl) (K _ rfl _ rfl)
def cQ.E:cC:=cT fQ zs []
def cQ.h:Hint := .s .o (.s .o (.s (.b (.l [(0,.no),(3,.fA 800000),(800000,.pv)] .o)) (.j [(3,.fA 800000),(800000,.pv)] .o .o)))
def cQ.F (b:List UInt8):OT:=cR PG cQ.E 90 cQ.sg cQ.h [(.sl .bs b)]
def cQ.l1 (x0:List UInt8) (x1:List UInt8):OT:=dQ PG cQ.E 90 cQ.sg cQ.h 19 [(.sl .bs x0),.pt,(.sl .bs x1)]
def cQ.j2 (x0:List UInt8):OT:=eD PG cQ.E 90 cQ.sg cQ.h 15 [.pt,(.sl .bs x0)]
theorem cQ.bV (x0:List UInt8) (x1:List UInt8) {ρ:OT} (K:∀(v1:UInt8) (h1:v1=(List.getD x0 ((0:Int)).toNat (0:UInt8))) (v2:UInt8) (h2:v2=(kX v1 (((2:UInt64)).toNat))) (v3:UInt8) (h3:v3=(List.getD ([65,66,67,68,69,70,71,72,73,74,75,76,77,78,79,80,81,82,83,84,85,86,87,88,89,90,97,98,99,100,101,102,103,104,105,106,107,108,109,110,111,112,113,114,115,116,117,118,119,120,121,122,48,49,50,51,52,53,54,55,56,57,43,47]:bz) (((v2).toNat:Int)).toNat (0:UInt8))) (v4:UInt8) (h4:v4=(mJ (v1 &&& (3:UInt8)) (((4:UInt64)).toNat))) (v5:UInt8) (h5:v5=(List.getD x0 ((1:Int)).toNat (0:UInt8))) (v6:UInt8) (h6:v6=(kX v5 (((4:UInt64)).toNat))) (v7:UInt8) (h7:v7=(List.getD ([65,66,67,68,69,70,71,72,73,74,75,76,77,78,79,80,81,82,83,84,85,86,87,88,89,90,97,98,99,100,101,102,103,104,105,106,107,108,109,110,111,112,113,114,115,116,117,118,119,120,121,122,48,49,50,51,52,53,54,55,56,57,43,47]:bz) ((((v4 ||| v6)).toNat:Int)).toNat (0:UInt8))) (v8:UInt8) (h8:v8=(mJ (v5 &&& (15:UInt8)) (((2:UInt64)).toNat))) (v9:UInt8) (h9:v9=(List.getD x0 ((2:Int)).toNat (0:UInt8))) (v10:UInt8) (iA:v10=(kX v9 (((6:UInt64)).toNat))) (v11:UInt8) (ki:v11=(List.getD ([65,66,67,68,69,70,71,72,73,74,75,76,77,78,79,80,81,82,83,84,85,86,87,88,89,90,97,98,99,100,101,102,103,104,105,106,107,108,109,110,111,112,113,114,115,116,117,118,119,120,121,122,48,49,50,51,52,53,54,55,56,57,43,47]:bz) ((((v8 ||| v10)).toNat:Int)).toNat (0:UInt8))) (v12:UInt8) (jE:v12=(List.getD ([65,66,67,68,69,70,71,72,73,74,75,76,77,78,79,80,81,82,83,84,85,86,87,88,89,90,97,98,99,100,101,102,103,104,105,106,107,108,109,110,111,112,113,114,115,116,117,118,119,120,121,122,48,49,50,51,52,53,54,55,56,57,43,47]:bz) ((((v9 &&& (63:UInt8))).toNat:Int)).toNat (0:UInt8))) (kW:List UInt8) (nY:kW=([v3,v7,v11,v12]:List UInt8)) (jP:List UInt8) (pA:jP=(List.drop ((3:Int)).toNat x0)) (iD:UInt8) (o8:iD=(List.getD ([65,66,67,68,69,70,71,72,73,74,75,76,77,78,79,80,81,82,83,84,85,86,87,88,89,90,97,98,99,100,101,102,103,104,105,106,107,108,109,110,111,112,113,114,115,116,117,118,119,120,121,122,48,49,50,51,52,53,54,55,56,57,43,47]:bz) (((v4).toNat:Int)).toNat (0:UInt8))) (mS:List UInt8) (tO:mS=([v3,iD,(61:UInt8),(61:UInt8)]:List UInt8)) (nT:UInt8) (xI:nT=(List.getD ([65,66,67,68,69,70,71,72,73,74,75,76,77,78,79,80,81,82,83,84,85,86,87,88,89,90,97,98,99,100,101,102,103,104,105,106,107,108,109,110,111,112,113,114,115,116,117,118,119,120,121,122,48,49,50,51,52,53,54,55,56,57,43,47]:bz) (((v8).toNat:Int)).toNat (0:UInt8))) (lO:List UInt8) (wi:lO=([v3,v7,nT,(61:UInt8)]:List UInt8)),cond (decide ((3:Int)≤((x0).length:Int)))
  (ck (bB (0:Int) (x0).length) (ck (bB ((v2).toNat:Int) (([65,66,67,68,69,70,71,72,73,74,75,76,77,78,79,80,81,82,83,84,85,86,87,88,89,90,97,98,99,100,101,102,103,104,105,106,107,108,109,110,111,112,113,114,115,116,117,118,119,120,121,122,48,49,50,51,52,53,54,55,56,57,43,47]:bz)).length) (ck (bB (0:Int) (x0).length) (ck (bB (1:Int) (x0).length) (ck (bB (((v4 ||| v6)).toNat:Int) (([65,66,67,68,69,70,71,72,73,74,75,76,77,78,79,80,81,82,83,84,85,86,87,88,89,90,97,98,99,100,101,102,103,104,105,106,107,108,109,110,111,112,113,114,115,116,117,118,119,120,121,122,48,49,50,51,52,53,54,55,56,57,43,47]:bz)).length) (ck (bB (1:Int) (x0).length) (ck (bB (2:Int) (x0).length) (ck (bB (((v8 ||| v10)).toNat:Int) (([65,66,67,68,69,70,71,72,73,74,75,76,77,78,79,80,81,82,83,84,85,86,87,88,89,90,97,98,99,100,101,102,103,104,105,106,107,108,109,110,111,112,113,114,115,116,117,118,119,120,121,122,48,49,50,51,52,53,54,55,56,57,43,47]:bz)).length) (ck (bB (2:Int) (x0).length) (ck (bB (((v9 &&& (63:UInt8))).toNat:Int) (([65,66,67,68,69,70,71,72,73,74,75,76,77,78,79,80,81,82,83,84,85,86,87,88,89,90,97,98,99,100,101,102,103,104,105,106,107,108,109,110,111,112,113,114,115,116,117,118,119,120,121,122,48,49,50,51,52,53,54,55,56,57,43,47]:bz)).length) (ck (fC ((x1).length+(kW).length) 1) (ck (gA (3:Int) (x0).length (x0).length) (cQ.l1 jP (x1++kW))))))))))))))
  (cond (decide (((x0).length:Int)=(1:Int)))
  (ck (bB (0:Int) (x0).length) (ck (bB ((v2).toNat:Int) (([65,66,67,68,69,70,71,72,73,74,75,76,77,78,79,80,81,82,83,84,85,86,87,88,89,90,97,98,99,100,101,102,103,104,105,106,107,108,109,110,111,112,113,114,115,116,117,118,119,120,121,122,48,49,50,51,52,53,54,55,56,57,43,47]:bz)).length) (ck (bB (0:Int) (x0).length) (ck (bB ((v4).toNat:Int) (([65,66,67,68,69,70,71,72,73,74,75,76,77,78,79,80,81,82,83,84,85,86,87,88,89,90,97,98,99,100,101,102,103,104,105,106,107,108,109,110,111,112,113,114,115,116,117,118,119,120,121,122,48,49,50,51,52,53,54,55,56,57,43,47]:bz)).length) (ck (fC ((x1).length+(mS).length) 1) (cQ.j2 (x1++mS)))))))
  (cond (decide (((x0).length:Int)=(2:Int)))
  (ck (bB (0:Int) (x0).length) (ck (bB ((v2).toNat:Int) (([65,66,67,68,69,70,71,72,73,74,75,76,77,78,79,80,81,82,83,84,85,86,87,88,89,90,97,98,99,100,101,102,103,104,105,106,107,108,109,110,111,112,113,114,115,116,117,118,119,120,121,122,48,49,50,51,52,53,54,55,56,57,43,47]:bz)).length) (ck (bB (0:Int) (x0).length) (ck (bB (1:Int) (x0).length) (ck (bB (((v4 ||| v6)).toNat:Int) (([65,66,67,68,69,70,71,72,73,74,75,76,77,78,79,80,81,82,83,84,85,86,87,88,89,90,97,98,99,100,101,102,103,104,105,106,107,108,109,110,111,112,113,114,115,116,117,118,119,120,121,122,48,49,50,51,52,53,54,55,56,57,43,47]:bz)).length) (ck (bB (1:Int) (x0).length) (ck (bB ((v8).toNat:Int) (([65,66,67,68,69,70,71,72,73,74,75,76,77,78,79,80,81,82,83,84,85,86,87,88,89,90,97,98,99,100,101,102,103,104,105,106,107,108,109,110,111,112,113,114,115,116,117,118,119,120,121,122,48,49,50,51,52,53,54,55,56,57,43,47]:bz)).length) (ck (fC ((x1).length+(lO).length) 1) (cQ.j2 (x1++lO))))))))))
  (cQ.j2 x1)))=ρ):cQ.l1 x0 x1=ρ:=((bU _ _ _ _ _ _ _).trans (by kernel_rfl)).trans (K _ rfl _ rfl _ rfl _ rfl _ rfl _ rfl _ rfl _ rfl _ rfl _ rfl _ rfl _ rfl _ rfl _ rfl _ rfl _ rfl _ rfl _ rfl)
theorem cQ.jZ (x0:List UInt8):cQ.j2 x0=some [(.s x0)]:=((b9 _ _ _ _ _ _ _).trans (by kernel_rfl))
theorem cQ.eJ (b:List UInt8):cQ.F b=cQ.l1 b ([]:List UInt8):=by kernel_rfl
def fU.E:cC:=cT fQ zs []
def fU.h:Hint := .o
def fU.F (s:bz):OT:=cR PG fU.E 54 fU.sg fU.h [(.s s)]
theorem fU.eJ (s:bz):fU.F s=some [(.ag [(.i .i64 5),(.s s),(.sl .ml ([]:List Mem))])]:=by kernel_rfl
def gJ.E:cC:=cT fQ zs [(85,(eY.c,eY.sg))]
def gJ.h:Hint := .o
def gJ.F (v:Int):OT:=cR PG gJ.E 55 gJ.sg gJ.h [(.i .i64 v)]
theorem gJ.eJ (v:Int):gJ.F v=ck (Nr.i64 v) (some [(.ag [(.i .i64 4),(.s (Nr.itoa v)),(.sl .ml ([]:List Mem))])]):=by kernel_rfl
def fV.E:cC:=cT fQ zs []
def fV.h:Hint := .o
def fV.F (s:bz) (j:bM):OT:=cR PG fV.E 51 fV.sg fV.h [(.s s),(.ag (bM.cells j))]
theorem fV.bZ (s:bz) (j:bM) {ρ:OT} (K:∀(v1:List Mem) (h1:v1=([(Mem.mk s (bM.kind j) (bM.text j) (bM.kids j))]:List Mem)),some [(.ag [(.i .i64 7),(.s []),(.sl .ml v1)])]=ρ):fV.F s j=ρ:=Eq.trans (by kernel_rfl) (K _ rfl)
def fT.E:cC:=cT fQ zs []
def fT.h:Hint := .o
def fT.F (s:bz) (j:bM) (t:bz) (k:bM):OT:=cR PG fT.E 53 fT.sg fT.h [(.s s),(.ag (bM.cells j)),(.s t),(.ag (bM.cells k))]
theorem fT.bZ (s:bz) (j:bM) (t:bz) (k:bM) {ρ:OT} (K:∀(v1:List Mem) (h1:v1=([(Mem.mk s (bM.kind j) (bM.text j) (bM.kids j)),(Mem.mk t (bM.kind k) (bM.text k) (bM.kids k))]:List Mem)),some [(.ag [(.i .i64 7),(.s []),(.sl .ml v1)])]=ρ):fT.F s j t k=ρ:=Eq.trans (by kernel_rfl) (K _ rfl)
def dE.E:cC:=cT fQ zs [(91,(cd.c,cd.sg))]
def dE.h:Hint := .s .o (.s .o (.s (.s .o (.b (.l [(0,.no),(3,.fA 800000),(4,.no),(800000,.pv)] .o))) .o))
def dE.F (v:UInt64):OT:=cR PG dE.E 87 dE.sg dE.h [(.u64 v)]
def dE.l1 (x0:UInt64) (x1:Int) (x2:List UInt8):OT:=dQ PG dE.E 87 dE.sg dE.h 43 [(.u64 x0),.pt,(.i .i64 x1),(.sl .bs x2)]
theorem dE.bV (x0:UInt64) (x1:Int) (x2:List UInt8) {ρ:OT} (K:∀(v1:UInt8) (h1:v1=(UInt8.ofInt (((dD x0 ((x1).toNat))).toNat:Int))) (v2:Int) (h2:v2=(IntKind.i64.wrap (x1 - (8:Int)))),cond (decide ((0:Int)≤x1))
  (ck (decide (0≤x1)) (ck (fC ((x2).length+(([v1]:List UInt8)).length) 1) (dE.l1 x0 v2 (x2++([v1]:List UInt8)))))
  (ck (decide (x2.length≤1099511627776)) (some [(.s (lE.text x2))]))=ρ):dE.l1 x0 x1 x2=ρ:=((bU _ _ _ _ _ _ _).trans (by kernel_rfl)).trans (K _ rfl _ rfl)
theorem dE.eJ (v:UInt64):dE.F v=dE.l1 v (56:Int) ([]:List UInt8):=by kernel_rfl
end
end Go.Eng
