/- Texts of my own, one behind the other: CnC, CnG0, CnG1, CnG2, CnG3, CnG4, CnG5, CnG, CnLA, CnL1, CnL2, CnNtP, CnP1. -/
import Derived.Test.YtokfjcnbmpabkaaGreatDoorT2
import Derived.Test.YtokfjcnbmpabkaaGreatDoorProg
set_option linter.unusedVariables false
set_option linter.unusedSimpArgs false
set_option maxRecDepth 100000
namespace Go.Eng
open Go.Proofs
def sc (l:List Nat):GL:=l.map fun k=>(k,.no)
@[reducible] def fQ:ML:=[(23,.bs,1),(24,.fl,136),(29,.ml,64),(33,.is,8),(103,.ss,16),(148,.ws,2),(160,.us,8),(248,.qd,64)]
@[reducible] def zs:Zs:=[(26,[(.i .i64 (0:Int)),(.u64 (0:UInt64)),(.u64 (0:UInt64)),(.u64 (0:UInt64)),(.s ([]:bz)),(.s ([]:bz)),(.i .i64 (0:Int)),(.nl .bs),(.nl .fl)]),(31,[(.i .i64 (0:Int)),(.s ([]:bz)),(.nl .ml)]),(35,[(.i .i64 (0:Int)),(.i .i64 (0:Int)),(.nl .is)]),(49,[(.s ([]:bz)),(.i .i64 (0:Int)),(.u64 (0:UInt64)),(.u64 (0:UInt64)),(.u64 (0:UInt64)),(.s ([]:bz)),(.s ([]:bz)),(.i .i64 (0:Int)),(.nl .bs),(.nl .fl)]),(51,[(.s ([]:bz)),(.i .i64 (0:Int)),(.s ([]:bz)),(.nl .ml)]),(106,[(.s ([]:bz)),(.s ([]:bz)),(.s ([]:bz)),(.s ([]:bz)),(.s ([]:bz)),(.s ([]:bz)),(.s ([]:bz)),(.s ([]:bz)),(.s ([]:bz)),(.s ([]:bz)),(.s ([]:bz)),(.s ([]:bz)),(.s ([]:bz)),(.s ([]:bz)),(.s ([]:bz)),(.s ([]:bz)),(.s ([]:bz)),(.s ([]:bz)),(.s ([]:bz)),(.s ([]:bz))]),(129,[(.u64 (0:UInt64)),(.u64 (0:UInt64))]),(251,[(.c (.complex .f64 ((0,0):Cx).1 ((0,0):Cx).2)),(.c (.complex .f64 ((0,0):Cx).1 ((0,0):Cx).2)),(.c (.complex .f64 ((0,0):Cx).1 ((0,0):Cx).2)),(.c (.complex .f64 ((0,0):Cx).1 ((0,0):Cx).2))])]
theorem bG:Go.Proofs.Tryz.prog.follows .mixedOrders=true∧CA Go.Proofs.Tryz.prog fQ=true∧Ih Go.Proofs.Tryz.prog zs=true:=⟨by kernel_rfl,by kernel_rfl,by kernel_rfl⟩
noncomputable def cnGl:Nat→Option (List Value):=KT [(5,tD .u8 (Lib.deBruijn64tab.map Int.ofNat)),(1,tD .u64 Lib.pow10Tab)]
noncomputable section
def cd.sg:bW:={}
def cd.c:eS:=fun l=>match l with
 | [.sl .bs b] => .eT (decide (b.length≤1099511627776)) [(.s (lE.text b))]
 | _ => .err
def gX.sg:bW:={}
def gX.c:eS:=fun l=>match l with
 | [.i .i64 r] => .ok [(.b (fy.mA r))]
 | _ => .err
def bH.sg:bW:={ fo:=2 }
def bH.c:eS:=fun l=>match l with
 | [.sl .bs b,.i .i64 at_] => .eT (decide (b.length≤1099511627776)) [(.i .i64 ((fy.mi b at_).1)),(.i .i64 ((fy.mi b at_).2))]
 | _ => .err
def cj.sg:bW:={ fo:=2 }
def cj.c:eS:=fun l=>match l with
 | [.sl .bs b] => .eT (decide (b.length≤1099511627776)) [(.i .i64 (((fy.look b).1:Int))),(.i .i64 (((fy.look b).2:Int)))]
 | _ => .err
def dJ.sg:bW:={ fo:=2 }
def dJ.c:eS:=fun l=>match l with
 | [.sl .bs b] => .eT (decide (b.length≤1099511627776)) [(.i .i64 (((fy.look b).1:Int))),(.b (fy.whole b))]
 | _ => .err
def cH.sg:bW:={}
def cH.c:eS:=fun l=>match l with
 | [.s s,.u8 c] => .ok [(.i .i64 (Lib.indexByte s c))]
 | _ => .err
def fi.sg:bW:={}
def fi.c:eS:=fun l=>match l with
 | [.s s,.s t] => .eT (decide (t.length=1)) [(.i .i64 (Lib.indexByte s (t.getD 0 0)))]
 | _ => .err
def fh.sg:bW:={}
def fh.c:eS:=fun l=>match l with
 | [.s s,.s t] => .eT (decide (t.length=1)) [(.i .i64 (Lib.indexByte s (t.getD 0 0)))]
 | _ => .err
def dv.sg:bW:={}
def dv.c:eS:=fun l=>match l with
 | [.s s,.s t] => .eT (decide (t.length=1)) [(.b (decide (0≤Lib.indexByte s (t.getD 0 0))))]
 | _ => .err
def fx.sg:bW:={ md:=[.sm] }
def fx.c:eS:=fun l=>match l with
 | [.sl .is l] => .eT (fC (l).length 8) [(.sl .is (l))]
 | _ => .err
def dY.sg:bW:={}
def dY.c:eS:=fun l=>match l with
 | [.i .i64 k] => .ok [(.s (Tree.name k))]
 | _ => .err
def bx.sg:bW:={}
def bx.c:eS:=fun l=>match l with
 | [.ag [.i .i64 lK,.u64 lN,.u64 lL,.u64 lJ,.s lG,.s lI,.i .i64 lH,.sl .bs lF,.sl .fl lM]] => .ok [(.b (Tree.j7 (Val.mk lK lN lL lJ lG lI lH lF lM)))]
 | _ => .err
def dG.sg:bW:={}
def dG.c:eS:=fun l=>match l with
 | [.s s,.b plain] => .eT (decide (s.length≤1099511627776)) [(.b (Tree.gH s plain))]
 | _ => .err
def bR.sg:bW:={ md:=[.pl,.pl,.sm],fo:=2 }
def bR.c:eS:=fun l=>match l with
 | [.ag [.i .i64 lK,.u64 lN,.u64 lL,.u64 lJ,.s lG,.s lI,.i .i64 lH,.sl .bs lF,.sl .fl lM],.s name,.sl .is path] => .eT (decide (bJ.bO (bJ.of name (Val.mk lK lN lL lJ lG lI lH lF lM))+path.length≤1099511627776)) [(.sl .is ((Tree.iT (bJ.of name (Val.mk lK lN lL lJ lG lI lH lF lM)) path).1)),(.i .i64 ((Tree.iT (bJ.of name (Val.mk lK lN lL lJ lG lI lH lF lM)) path).2))]
 | _ => .err
def bR.cn (n:Nat):eS:=fun l=>match l with
 | [.ag [.i .i64 lK,.u64 lN,.u64 lL,.u64 lJ,.s lG,.s lI,.i .i64 lH,.sl .bs lF,.sl .fl lM],.s name,.sl .is path] => .eT ((decide (bJ.bO (bJ.of name (Val.mk lK lN lL lJ lG lI lH lF lM))+path.length≤1099511627776))&&decide ((bJ.bO (bJ.of name (Val.mk lK lN lL lJ lG lI lH lF lM)))<n)) [(.sl .is ((Tree.iT (bJ.of name (Val.mk lK lN lL lJ lG lI lH lF lM)) path).1)),(.i .i64 ((Tree.iT (bJ.of name (Val.mk lK lN lL lJ lG lI lH lF lM)) path).2))]
 | _ => .err
def dH.sg:bW:={ fo:=2 }
def dH.c:eS:=fun l=>match l with
 | [.ag [.i .i64 lK,.u64 lN,.u64 lL,.u64 lJ,.s lG,.s lI,.i .i64 lH,.sl .bs lF,.sl .fl lM]] => .eT (decide (bJ.bO (bJ.of [] (Val.mk lK lN lL lJ lG lI lH lF lM))≤1099511627776)) [(.sl .is ((Tree.iT (bJ.of [] (Val.mk lK lN lL lJ lG lI lH lF lM)) []).1)),(.i .i64 ((Tree.iT (bJ.of [] (Val.mk lK lN lL lJ lG lI lH lF lM)) []).2))]
 | _ => .err
def kE.sg:bW:={}
def kE.c:eS:=fun l=>match l with
 | [.ag [.i .i64 K1,.u64 Xw,.u64 Kq,.u64 Kp,.s K0,.s Xv,.i .i64 Xu,.sl .bs Xt,.sl .fl K2],.ag [.i .i64 PI,.u64 X9,.u64 Q8,.u64 Q7,.s PH,.s X8,.i .i64 X7,.sl .bs X6,.sl .fl PJ]] => .ok [(.b (Tree.zn (Val.mk K1 Xw Kq Kp K0 Xv Xu Xt K2) (Val.mk PI X9 Q8 Q7 PH X8 X7 X6 PJ)))]
 | _ => .err
def eF.sg:bW:={}
def eF.c:eS:=fun l=>match l with
 | [.ag [.i .i64 K1,.u64 Xw,.u64 Kq,.u64 Kp,.s K0,.s Xv,.i .i64 Xu,.sl .bs Xt,.sl .fl K2],.ag [.i .i64 PI,.u64 X9,.u64 Q8,.u64 Q7,.s PH,.s X8,.i .i64 X7,.sl .bs X6,.sl .fl PJ]] => .eT (decide (bJ.bO (bJ.of [] (Val.mk K1 Xw Kq Kp K0 Xv Xu Xt K2))≤1099511627776)) [(.b (Tree.same (Val.mk K1 Xw Kq Kp K0 Xv Xu Xt K2) (Val.mk PI X9 Q8 Q7 PH X8 X7 X6 PJ)))]
 | _ => .err
def eF.cn (n:Nat):eS:=fun l=>match l with
 | [.ag [.i .i64 K1,.u64 Xw,.u64 Kq,.u64 Kp,.s K0,.s Xv,.i .i64 Xu,.sl .bs Xt,.sl .fl K2],.ag [.i .i64 PI,.u64 X9,.u64 Q8,.u64 Q7,.s PH,.s X8,.i .i64 X7,.sl .bs X6,.sl .fl PJ]] => .eT ((decide (bJ.bO (bJ.of [] (Val.mk K1 Xw Kq Kp K0 Xv Xu Xt K2))≤1099511627776))&&decide ((bJ.bO (bJ.of [] (Val.mk K1 Xw Kq Kp K0 Xv Xu Xt K2)))<n)) [(.b (Tree.same (Val.mk K1 Xw Kq Kp K0 Xv Xu Xt K2) (Val.mk PI X9 Q8 Q7 PH X8 X7 X6 PJ)))]
 | _ => .err
def cL.sg:bW:={}
def cL.c:eS:=fun l=>match l with
 | [.i .i64 left,.sl .is iF] => .eT (decide (left≤1200∧iF.length≤10)&&iF.all (fun s=>decide (0≤s))) [(.i .i64 (eU.room left iF))]
 | _ => .err
def bS.sg:bW:={}
def bS.c:eS:=fun l=>match l with
 | [.i .i64 left,.ag [.i .i64 lK,.u64 lN,.u64 lL,.u64 lJ,.s lG,.s lI,.i .i64 lH,.sl .bs lF,.sl .fl lM]] => .eT (decide (left≤1200)) [(.i .i64 (eU.value left (bJ.of [] (Val.mk lK lN lL lJ lG lI lH lF lM))))]
 | _ => .err
def bS.cn (n:Nat):eS:=fun l=>match l with
 | [.i .i64 left,.ag [.i .i64 lK,.u64 lN,.u64 lL,.u64 lJ,.s lG,.s lI,.i .i64 lH,.sl .bs lF,.sl .fl lM]] => .eT ((decide (left≤1200))&&decide ((bJ.bO (bJ.of [] (Val.mk lK lN lL lJ lG lI lH lF lM)))<n)) [(.i .i64 (eU.value left (bJ.of [] (Val.mk lK lN lL lJ lG lI lH lF lM))))]
 | _ => .err
def dI.sg:bW:={}
def dI.c:eS:=fun l=>match l with
 | [.ag [.i .i64 lK,.u64 lN,.u64 lL,.u64 lJ,.s lG,.s lI,.i .i64 lH,.sl .bs lF,.sl .fl lM]] => .ok [(.b (decide (0≤eU.value 1200 (bJ.of [] (Val.mk lK lN lL lJ lG lI lH lF lM)))))]
 | _ => .err
def iG.sg:bW:={}
def iG.c:eS:=fun l=>match l with
 | [.i .i64 v] => .eT (Nr.i64 v) [(.s (Nr.itoa v))]
 | _ => .err
def bN.sg:bW:={}
def bN.c:eS:=fun l=>match l with
 | [.sl .fl l] => .eT (decide (l.length≤1099511627776)) [(.b (Tree.regular l))]
 | _ => .err
def bX.sg:bW:={}
def bX.c:eS:=fun l=>match l with
 | [.u16 x] => .ok [(.i .i64 ((Nt.bits (x).toNat:Int)))]
 | _ => .err
def bits_Len64.sg:bW:={}
def bits_Len64.c:eS:=fun l=>match l with
 | [.u64 x] => .ok [(.i .i64 ((Nt.bits (x).toNat:Int)))]
 | _ => .err
def lx.sg:bW:={}
def lx.c:eS:=fun l=>match l with
 | [.u64 x] => .ok [(.i .i64 ((Lib.ctz 64 (x).toNat:Int)))]
 | _ => .err
def kZ.sg:bW:={}
def kZ.c:eS:=fun l=>match l with
 | [.s s,.s c] => .eT (decide ((s).length≤1099511627776∧(c).length≤100)&&(c).all (fun b=>decide (b.toNat<128))) [(.s (Lib.trimS s c))]
 | _ => .err
def gq.sg:bW:={}
def gq.c:eS:=fun l=>match l with
 | [.s s,.s c] => .eT (decide ((s).length≤1099511627776∧(c).length≤100)&&(c).all (fun b=>decide (b.toNat<128))) [(.s (Lib.trimLeftS s c))]
 | _ => .err
def fK.sg:bW:={}
def fK.c:eS:=fun l=>match l with
 | [.s s,.s c] => .eT (decide ((s).length≤1099511627776∧(c).length≤100)&&(c).all (fun b=>decide (b.toNat<128))) [(.s (Lib.trimRightS s c))]
 | _ => .err
def eI.sg:bW:={ own:=[0] }
def eI.c:eS:=fun l=>match l with
 | [.sl .ws a] => .eT (fC (a).length 2) [(.sl .ws (a))]
 | _ => .err
def dt.sg:bW:={}
def dt.c:eS:=fun l=>match l with
 | [.c (.float .f64 x)] => .eT (Fl.num x) [(.c (.float .f64 (Fl.jW x)))]
 | _ => .err
def gT.sg:bW:={}
def gT.c:eS:=fun l=>match l with
 | [.c (.complex .f64 yJ yI),.c (.float .f64 m)] => .eT (Gz.I7 ((yJ,yI):Cx) m) [(.b (true))]
 | _ => .err
def fu.sg:bW:={}
def fu.c:eS:=fun l=>match l with
 | [.c (.complex .f64 yJ yI)] => .eT (Gz.tK ((yJ,yI):Cx) 33554432) [(.b (true))]
 | _ => .err
def jh.sg:bW:={}
def jh.c:eS:=fun l=>match l with
 | [.i .i64 x,.i .i64 y] => .eT (decide (-33554432≤x∧x≤33554432∧-33554432≤y∧y≤33554432)) [(.c (.complex .f64 (((Fl.ofInt x,Fl.ofInt y):Cx)).1 (((Fl.ofInt x,Fl.ofInt y):Cx)).2))]
 | _ => .err
def eG.sg:bW:={ fo:=3 }
def eG.c:eS:=fun l=>match l with
 | [.c (.complex .f64 yJ yI)] => .eT (Gz.tK ((yJ,yI):Cx) 4503599627370496) [(.i .i64 (Fl.toInt (((yJ,yI):Cx)).1)),(.i .i64 (Fl.toInt (((yJ,yI):Cx)).2)),(.b (true))]
 | _ => .err
def gj.sg:bW:={}
def gj.c:eS:=fun l=>match l with
 | [.c (.complex .f64 yJ yI),.i .i64 k] => .eT (Gz.tK ((yJ,yI):Cx) 1125899906842624&&decide (-100≤k∧k≤100)) [(.c (.complex .f64 (Gz.nU ((yJ,yI):Cx) k).1 (Gz.nU ((yJ,yI):Cx) k).2))]
 | _ => .err
def fv.sg:bW:={}
def fv.c:eS:=fun l=>match l with
 | [.c (.complex .f64 yJ yI),.c (.complex .f64 N0 NZ)] => .eT (Gz.tK ((yJ,yI):Cx) 33554432&&Gz.tK ((N0,NZ):Cx) 33554432) [(.c (.complex .f64 (Gz.mul ((yJ,yI):Cx) ((N0,NZ):Cx)).1 (Gz.mul ((yJ,yI):Cx) ((N0,NZ):Cx)).2))]
 | _ => .err
def gf.sg:bW:={}
def gf.c:eS:=fun l=>match l with
 | [.c (.float .f64 x)] => .eT (Gz.HD x) [(.b (true))]
 | _ => .err
def wv_fit.sg:bW:={}
def wv_fit.c:eS:=fun l=>match l with
 | [.ag [.c (.complex .f64 kP kO),.c (.complex .f64 kN kM),.c (.complex .f64 kL kK),.c (.complex .f64 kJ kI)]] => .eT (Gz.wg (Qd.mk ((kP,kO):Cx) ((kN,kM):Cx) ((kL,kK):Cx) ((kJ,kI):Cx)) 1125899906842624) [(.b (true))]
 | _ => .err
def cF.sg:bW:={}
def cF.c:eS:=fun l=>match l with
 | [.ag [.c (.complex .f64 kP kO),.c (.complex .f64 kN kM),.c (.complex .f64 kL kK),.c (.complex .f64 kJ kI)],.i .i64 w] => .eT (Gz.wg (Qd.mk ((kP,kO):Cx) ((kN,kM):Cx) ((kL,kK):Cx) ((kJ,kI):Cx)) 1125899906842624&&decide (w=1∨w=-1)) [(.ag (Qd.cells (Gz.mh (Qd.mk ((kP,kO):Cx) ((kN,kM):Cx) ((kL,kK):Cx) ((kJ,kI):Cx)) w)))]
 | _ => .err
def gg.sg:bW:={}
def gg.c:eS:=fun l=>match l with
 | [.ag [.c (.complex .f64 kP kO),.c (.complex .f64 kN kM),.c (.complex .f64 kL kK),.c (.complex .f64 kJ kI)]] => .eT (Gz.wg (Qd.mk ((kP,kO):Cx) ((kN,kM):Cx) ((kL,kK):Cx) ((kJ,kI):Cx)) 1125899906842624) [(.ag (Qd.cells (Gz.mh (Qd.mk ((kP,kO):Cx) ((kN,kM):Cx) ((kL,kK):Cx) ((kJ,kI):Cx)) 1)))]
 | _ => .err
def dN.sg:bW:={ fo:=2 }
def dN.c:eS:=fun l=>match l with
 | [.ag [.c (.complex .f64 kP kO),.c (.complex .f64 kN kM),.c (.complex .f64 kL kK),.c (.complex .f64 kJ kI)]] => .eT (Gz.wg (Qd.mk ((kP,kO):Cx) ((kN,kM):Cx) ((kL,kK):Cx) ((kJ,kI):Cx)) 1125899906842624&&Gz.I8 (Qd.mk ((kP,kO):Cx) ((kN,kM):Cx) ((kL,kK):Cx) ((kJ,kI):Cx))) [(.ag (Qd.cells (Gz.back (Qd.mk ((kP,kO):Cx) ((kN,kM):Cx) ((kL,kK):Cx) ((kJ,kI):Cx))))),(.b (true))]
 | _ => .err
def cJ.sg:bW:={}
def cJ.c:eS:=fun l=>match l with
 | [.sl .is l] => .eT (decide ((l).length≤256)&&Gz.ie l) [(.b (true))]
 | _ => .err
def cw.sg:bW:={}
def cw.c:eS:=fun l=>match l with
 | [.sl .is l] => .eT (decide ((l).length≤256)&&Gz.ie l) [(.sl .qd (Gz.gS l))]
 | _ => .err
def bL.sg:bW:={ fo:=2 }
def bL.c:eS:=fun l=>match l with
 | [.sl .is a,.sl .is b] => .eT (decide ((a).length≤256∧(b).length≤256)&&(Gz.ie a&&Gz.ie b)) [(.sl .is (Gz.conv a b)),(.b (true))]
 | _ => .err
def da.sg:bW:={}
def da.c:eS:=fun l=>match l with
 | [.sl .ws a] => .eT (decide ((a).length≤1099511627776)) [(.sl .ws (Nt.of (Nt.val a)))]
 | _ => .err
def eK.sg:bW:={}
def eK.c:eS:=fun l=>match l with
 | [.sl .ws a] => .eT (decide ((a).length≤1099511627776)) [(.b (Nt.is a))]
 | _ => .err
def eW.sg:bW:={}
def eW.c:eS:=fun l=>match l with
 | [.u64 v] => .ok [(.sl .ws (Nt.of (v).toNat))]
 | _ => .err
def dj.sg:bW:={ fo:=2 }
def dj.c:eS:=fun l=>match l with
 | [.sl .ws a] => .eT (decide (Nt.is a=true∧(a).length≤4)) [(.u64 (UInt64.ofNat (Nt.val a))),(.b (true))]
 | _ => .err
def fH.sg:bW:={}
def fH.c:eS:=fun l=>match l with
 | [.sl .ws a] => .eT (Nt.is a) [(.i .i64 ((Nt.bits (Nt.val a):Int)))]
 | _ => .err
def eC.sg:bW:={}
def eC.c:eS:=fun l=>match l with
 | [.sl .ws a,.sl .ws b] => .eT (decide ((a).length≤1099511627776∧(b).length≤1099511627776)&&(Nt.norm a&&Nt.norm b)) [(.i .i64 (Nt.cmp (Nt.val a) (Nt.val b)))]
 | _ => .err
def fW.sg:bW:={}
def fW.c:eS:=fun l=>match l with
 | [.sl .ws a,.sl .ws b] => .eT (Nt.is a&&Nt.is b) [(.i .i64 (Nt.cmp (Nt.val a) (Nt.val b)))]
 | _ => .err
def cq.sg:bW:={}
def cq.c:eS:=fun l=>match l with
 | [.sl .ws a] => .eT (decide ((a).length≤256)) [(.sl .is ((a).map fun d=>(d.toNat:Int)))]
 | _ => .err
def dp.sg:bW:={}
def dp.c:eS:=fun l=>match l with
 | [.sl .ws a,.sl .ws b] => .eT (Nt.is a&&Nt.is b) [(.sl .ws (Nt.of (Nt.val a * Nt.val b)))]
 | _ => .err
def ez.sg:bW:={ fo:=2 }
def ez.c:eS:=fun l=>match l with
 | [.sl .ws a,.u16 d] => .eT (decide ((a).length≤1000000∧d≠0)) [(.sl .ws (Nt.of (Nt.val a / (d).toNat))),(.u16 (UInt16.ofNat (Nt.val a % (d).toNat)))]
 | _ => .err
def eO.sg:bW:={ own:=[0] }
def eO.c:eS:=fun l=>match l with
 | [.sl .ws a,.i .i64 n] => .eT (decide ((a).length≤1000000∧0≤n∧n<16)&&Nt.norm a) [(.sl .ws (Nt.of (Nt.val a * 2 ^ (n).toNat)))]
 | _ => .err
def cV.sg:bW:={}
def cV.c:eS:=fun l=>match l with
 | [.sl .ws a,.i .i64 n] => .eT (decide ((a).length≤1000000∧0≤n∧n<16)) [(.sl .ws (Nt.of (Nt.val a / 2 ^ (n).toNat)))]
 | _ => .err
def bE.sg:bW:={ md:=[.gv],fo:=2 }
def bE.c:eS:=fun l=>match l with
 | [.sl .ws u,.sl .ws v] => .eT (decide ((u).length≤1000000∧2≤(v).length∧(v).length≤(u).length∧32768≤((v).getLast?.getD 0).toNat)) [(.sl .ws (Nt.fix ((u).length+1 - (v).length) (Nt.val u / Nt.val v))),(.sl .ws (Nt.fix (v).length (Nt.val u % Nt.val v)))]
 | _ => .err
def gK.sg:bW:={ fo:=3 }
def gK.c:eS:=fun l=>match l with
 | [.sl .ws a,.sl .ws b] => .eT (Nt.is a&&Nt.is b&&decide (b≠[])) [(.sl .ws (Nt.of (Nt.val a / Nt.val b))),(.sl .ws (Nt.of (Nt.val a % Nt.val b))),(.b (true))]
 | _ => .err
def ir.sg:bW:={}
def ir.c:eS:=fun l=>match l with
 | [.sl .ws a,.i .i64 n] => .eT (decide (0≤n∧n≤4096)&&Nt.is a) [(.sl .ws (Nt.of (Nt.val a * 2 ^ (n).toNat)))]
 | _ => .err
def cP.sg:bW:={}
def cP.c:eS:=fun l=>match l with
 | [.sl .ws a,.i .i64 b,.i .i64 c] => .eT (decide ((a).length≤1000000∧1≤b∧b≤65535∧0≤c∧c≤65535)&&Nt.norm a) [(.sl .ws (Nt.of (Nt.val a * (b).toNat+(c).toNat)))]
 | _ => .err
def cU.sg:bW:={ fo:=2 }
def cU.c:eS:=fun l=>match l with
 | [.i .i64 b,.i .i64 e] => .eT (decide (2≤b∧b≤65535∧0≤e∧e≤1000∧(b).toNat ^ (e).toNat<2 ^ 4096)) [(.sl .ws (Nt.of ((b).toNat ^ (e).toNat))),(.b (true))]
 | _ => .err
def dm.sg:bW:={ fo:=2 }
def dm.c:eS:=fun l=>match l with
 | [.s s] => .eT (decide (1≤(s).length∧(s).length≤300∧(s).getD 0 0≠48)&&(s).all Nr.dV) [(.sl .ws (Nt.of (Nr.num s))),(.b (true))]
 | _ => .err
def dM.sg:bW:={ fo:=2 }
def dM.c:eS:=fun l=>match l with
 | [.b n,.u64 m,.i .i64 e] => .eT (decide (-1100≤e∧e≤2000)) [(.u64 (Nr.pat (Nr.join n (m).toNat e))),(.b ((Nr.join n (m).toNat e).isSome))]
 | _ => .err
def cr.sg:bW:={ fo:=2 }
def cr.c:eS:=fun l=>match l with
 | [.sl .ws a,.sl .ws b,.i .i64 e] => .eT (Nt.is a&&Nt.is b&&decide (-4096≤e∧e≤4096∧0<Nt.val b∧Nr.jb (Nt.val a) e<2 ^ 4090∧Nr.iU (Nt.val b) e<2 ^ 4090∧Nr.jb (Nt.val a) e<2 ^ 60 * Nr.iU (Nt.val b) e)) [(.u64 (UInt64.ofNat (Nr.tp (Nr.jb (Nt.val a) e) (Nr.iU (Nt.val b) e)))),(.b (Nr.lg (Nr.jb (Nt.val a) e) (Nr.iU (Nt.val b) e)))]
 | _ => .err
def de.sg:bW:={ fo:=2 }
def de.c:eS:=fun l=>match l with
 | [.sl .ws a,.sl .ws b] => .eT (Nt.is a&&Nt.is b&&decide (0<Nt.val a∧0<Nt.val b∧Nt.val a<2 ^ 1100∧Nt.val b<2 ^ 2200)) [(.u64 (Nr.pat (Nr.gZ (Nt.val a) (Nt.val b)))),(.b ((Nr.gZ (Nt.val a) (Nt.val b)).isSome))]
 | _ => .err
def dL.sg:bW:={ fo:=2 }
def dL.c:eS:=fun l=>match l with
 | [.s d,.i .i64 x] => .ok [(.u64 (Nr.pat (Nr.read d x))),(.b ((Nr.read d x).isSome))]
 | _ => .err
def ja.sg:bW:={}
def ja.c:eS:=fun l=>match l with
 | [.s s,.i .i64 at_,.u8 c,.u8 d] => .eT (decide ((s).length≤1099511627776)&&decide (0≤at_)) [(.b ((decide (at_<(s).length)&&(decide ((s).getD (at_).toNat 0=c) || decide ((s).getD (at_).toNat 0=d)))))]
 | _ => .err
def cK.sg:bW:={}
def cK.c:eS:=fun l=>match l with
 | [.s s,.i .i64 at_] => .eT (decide ((s).length≤1099511627776)&&decide (0≤at_∧at_≤1099511627776)) [(.i .i64 ((at_+(Nr.run ((s).drop (at_).toNat):Int))))]
 | _ => .err
def bD.sg:bW:={}
def bD.c:eS:=fun l=>match l with
 | [.s s] => .eT (decide ((s).length≤1099511627776)) [(.i .i64 (Nr.iX s))]
 | _ => .err
def eH.sg:bW:={ fo:=4 }
def eH.c:eS:=fun l=>match l with
 | [.u64 b] => .ok [(.i .i64 ((Nr.split b).1)),(.b ((Nr.split b).2.1)),(.u64 ((Nr.split b).2.2.1)),(.i .i64 ((Nr.split b).2.2.2))]
 | _ => .err
def cE.sg:bW:={}
def cE.c:eS:=fun l=>match l with
 | [.sl .ws a,.sl .ws b] => .eT (Nt.is a&&Nt.is b) [(.sl .ws (Nt.of (Nt.val a+Nt.val b)))]
 | _ => .err
def cS.sg:bW:={}
def cS.c:eS:=fun l=>match l with
 | [.sl .ws a] => .eT (Nt.is a) [(.s (Sh.pM (Nt.val a)))]
 | _ => .err
def fB.sg:bW:={}
def fB.c:eS:=fun l=>match l with
 | [.s s,.i .i64 n] => .eT (decide (s=[48]∧0≤n∧n≤100)) [(.s (Sh.dU n))]
 | _ => .err
def k9.sg:bW:={}
def k9.c:eS:=fun l=>match l with
 | [.sl .ss l,.s s] => .eT (decide (s=[]∧(l).length≤100000∧(l).flatten.length≤100000)) [(.s ((l).flatten))]
 | _ => .err
def gR.sg:bW:={}
def gR.c:eS:=fun l=>match l with
 | [.i .i64 v,.i .i64 b] => .eT (Nr.i64 v&&decide (b=10)) [(.s (Nr.itoa v))]
 | _ => .err
def cp.sg:bW:={ md:=[.sl],fo:=0 }
def cp.c:eS:=fun l=>match l with
 | [.sl .ss l] => .eT (decide ((l).length≤100000)) [(.sl .ss ((l).reverse))]
 | _ => .err
def eY.sg:bW:={}
def eY.c:eS:=fun l=>match l with
 | [.i .i64 v] => .eT (Nr.i64 v) [(.s (Nr.itoa v))]
 | _ => .err
def fD.sg:bW:={ fo:=2 }
def fD.c:eS:=fun l=>match l with
 | [.sl .ws a,.sl .ws b,.i .i64 k] => .eT (Nt.is a&&Nt.is b&&decide (-400≤k∧k≤400∧Nt.val a<2 ^ 1100∧Nt.val b<2 ^ 1100)) [(.sl .ws (Nt.of (Sh.tA (Nt.val a) k))),(.sl .ws (Nt.of (Sh.tB (Nt.val b) k)))]
 | _ => .err
def fk.sg:bW:={}
def fk.c:eS:=fun l=>match l with
 | [.sl .ws a,.sl .ws b,.i .i64 x] => .eT (Nt.is a&&Nt.is b&&decide (-400≤x∧x≤400∧Nt.val a<2 ^ 1100∧Nt.val b<2 ^ 1100)) [(.b (decide (Sh.tB (Nt.val b) (-x)≤Sh.tA (Nt.val a) (-x))))]
 | _ => .err
def fj.sg:bW:={ fo:=3 }
def fj.c:eS:=fun l=>match l with
 | [.u64 b,.sl .ws a,.i .i64 p] => .eT (Nt.is a&&decide (-1000≤p∧p≤1000∧0<Nt.val a∧Nt.val a<10 ^ 200)) [(.s (((Sh.jM (b).toNat (Nt.val a) p).getD ([],0)).1)),(.i .i64 (((Sh.jM (b).toNat (Nt.val a) p).getD ([],0)).2)),(.b ((Sh.jM (b).toNat (Nt.val a) p).isSome))]
 | _ => .err
def gi.sg:bW:={ fo:=3 }
def gi.c:eS:=fun l=>match l with
 | [.u64 b,.sl .ws p,.sl .ws q,.i .i64 x,.i .i64 n] => .eT (Nt.is p&&Nt.is q&&Sh.nJ (Nt.val p) (Nt.val q) x n) [(.s (((Sh.ob (b).toNat (Nt.val p) (Nt.val q) x n).getD ([],0)).1)),(.i .i64 (((Sh.ob (b).toNat (Nt.val p) (Nt.val q) x n).getD ([],0)).2)),(.b ((Sh.ob (b).toNat (Nt.val p) (Nt.val q) x n).isSome))]
 | _ => .err
def bI.sg:bW:={ fo:=3 }
def bI.c:eS:=fun l=>match l with
 | [.u64 b] => .ok [(.s ((Sh.dg b).1)),(.i .i64 ((Sh.dg b).2.1)),(.b ((Sh.dg b).2.2))]
 | _ => .err
def dK.sg:bW:={}
def dK.c:eS:=fun l=>match l with
 | [.s d,.i .i64 x] => .eT (decide (1≤(d).length∧(d).length≤17∧-900≤x∧x≤900)) [(.s (Sh.AA d x))]
 | _ => .err
def dC.sg:bW:={}
def dC.c:eS:=fun l=>match l with
 | [.u64 b] => .ok [(.s (Sh.text b))]
 | _ => .err
def lf.sg:bW:={}
def lf.c:eS:=fun l=>match l with
 | [.u64 v,.i .i64 b] => .eT (decide (b=10)) [(.s (Nr.dec (v).toNat))]
 | _ => .err
def cN.sg:bW:={}
def cN.c:eS:=fun l=>match l with
 | [.u64 v,.i .i64 b] => .eT (decide (b=10)) [(.s (Nr.dec (v).toNat))]
 | _ => .err
def cZ.sg:bW:={}
def cZ.c:eS:=fun l=>match l with
 | [.s s,.s t] => .ok [(.b (List.isPrefixOf t s))]
 | _ => .err
def cY.sg:bW:={}
def cY.c:eS:=fun l=>match l with
 | [.s s,.s t] => .ok [(.b (List.isPrefixOf t s))]
 | _ => .err
def cX.sg:bW:={}
def cX.c:eS:=fun l=>match l with
 | [.s s,.u8 c] => .ok [(.i .i64 (Lib.indexByte s c))]
 | _ => .err
def fq.sg:bW:={ fo:=2 }
def fq.c:eS:=fun l=>match l with
 | [.u64 a,.u64 b] => .ok [(.u64 (UInt64.ofNat ((a).toNat * (b).toNat / 18446744073709551616))),(.u64 (UInt64.ofNat ((a).toNat * (b).toNat)))]
 | _ => .err
def dZ.sg:bW:={}
def dZ.c:eS:=fun l=>match l with
 | [.u64 v] => .eT (decide (9223372036854775808≤(v).toNat)) [(.i .i64 (0))]
 | _ => .err
def bF.sg:bW:={ fo:=2 }
def bF.c:eS:=fun l=>match l with
 | [.u64 a,.u64 b,.u64 y] => .eT (decide (9223372036854775808≤(y).toNat∧(a).toNat<(y).toNat)) [(.u64 (UInt64.ofNat (((a).toNat * 18446744073709551616+(b).toNat) / (y).toNat))),(.u64 (UInt64.ofNat (((a).toNat * 18446744073709551616+(b).toNat) % (y).toNat)))]
 | _ => .err
def gI.sg:bW:={}
def gI.c:eS:=fun l=>match l with
 | [.ag [.u64 Kq,.u64 Kp],.ag [.u64 Q8,.u64 Q7]] => .ok [(.i .i64 (cond (decide (dy.val (dy.mk Kq Kp)=dy.val (dy.mk Q8 Q7))) 0 (cond (decide (dy.val (dy.mk Kq Kp)<dy.val (dy.mk Q8 Q7))) (-1) 1)))]
 | _ => .err
def gU.sg:bW:={}
def gU.c:eS:=fun l=>match l with
 | [.u64 a,.u64 b] => .ok [(.ag (dy.cells (dy.of ((a).toNat * (b).toNat))))]
 | _ => .err
def gV.sg:bW:={ fo:=3 }
def gV.c:eS:=fun l=>match l with
 | [.ag [.u64 Kq,.u64 Kp],.u64 b] => .eT (decide (9223372036854775808≤(b).toNat)) [(.ag (dy.cells (dy.of (dy.val (dy.mk Kq Kp) / (b).toNat)))),(.u64 (UInt64.ofNat (dy.val (dy.mk Kq Kp) % (b).toNat))),(.b (true))]
 | _ => .err
def cO.sg:bW:={}
def cO.c:eS:=fun l=>match l with
 | [.ag [.u64 Kq,.u64 Kp]] => .ok [(.s (Nr.dec (dy.val (dy.mk Kq Kp))))]
 | _ => .err
def fE.sg:bW:={}
def fE.c:eS:=fun l=>match l with
 | [] => .ok [(.ag (dy.cells (Cn.sB)))]
 | _ => .err
def dh.sg:bW:={ fo:=4 }
def dh.c:eS:=fun l=>match l with
 | [.u64 h,.u64 l] => .ok [(.i .i64 ((Cn.split h l).1)),(.b ((Cn.split h l).2.1)),(.ag (dy.cells ((Cn.split h l).2.2.1))),(.i .i64 ((Cn.split h l).2.2.2))]
 | _ => .err
def dS.sg:bW:={ fo:=3 }
def dS.c:eS:=fun l=>match l with
 | [.b n,.ag [.u64 zP,.u64 ER],.i .i64 x] => .eT (Nr.i64 x) [(.u64 ((Cn.join n (dy.mk zP ER) x).1)),(.u64 ((Cn.join n (dy.mk zP ER) x).2.1)),(.b ((Cn.join n (dy.mk zP ER) x).2.2))]
 | _ => .err
def fw.sg:bW:={}
def fw.c:eS:=fun l=>match l with
 | [.u64 h,.u64 l] => .ok [(.b (Cn.pX h l))]
 | _ => .err
def df.sg:bW:={}
def df.c:eS:=fun l=>match l with
 | [.s d,.i .i64 x] => .eT (decide (1≤(d).length∧(d).length≤40∧-10000≤x∧x≤100000)) [(.s (Cn.laid d x))]
 | _ => .err
def dR.sg:bW:={}
def dR.c:eS:=fun l=>match l with
 | [.u64 h,.u64 l] => .ok [(.s (Cn.sW h l))]
 | _ => .err
def cQ.sg:bW:={}
def cQ.c:eS:=fun l=>match l with
 | [.sl .bs b] => .eT (decide ((b).length≤1099511627776)) [(.s (Cn.base b))]
 | _ => .err
def fU.sg:bW:={}
def fU.c:eS:=fun l=>match l with
 | [.s s] => .ok [(.ag (bM.cells (Cn.str s)))]
 | _ => .err
def gJ.sg:bW:={}
def gJ.c:eS:=fun l=>match l with
 | [.i .i64 v] => .eT (Nr.i64 v) [(.ag (bM.cells (Cn.num v)))]
 | _ => .err
def fV.sg:bW:={}
def fV.c:eS:=fun l=>match l with
 | [.s s,.ag [.i .i64 ia,.s hO,.sl .ml ib]] => .ok [(.ag (bM.cells (Cn.one s (bM.mk ia hO ib))))]
 | _ => .err
def fT.sg:bW:={}
def fT.c:eS:=fun l=>match l with
 | [.s s,.ag [.i .i64 ia,.s hO,.sl .ml ib],.s t,.ag [.i .i64 I0,.s IZ,.sl .ml I1]] => .ok [(.ag (bM.cells (Cn.two s (bM.mk ia hO ib) t (bM.mk I0 IZ I1))))]
 | _ => .err
def dE.sg:bW:={}
def dE.c:eS:=fun l=>match l with
 | [.u64 v] => .ok [(.s (Cn.high v))]
 | _ => .err
def eh.sg:bW:={ fo:=2 }
def eh.c:eS:=fun l=>match l with
 | [.ag [.i .i64 lK,.u64 lN,.u64 lL,.u64 lJ,.s lG,.s lI,.i .i64 lH,.sl .bs lF,.sl .fl lM]] => .ok [(.ag (bM.cells ((Cn.nW (Val.mk lK lN lL lJ lG lI lH lF lM)).1))),(.b ((Cn.nW (Val.mk lK lN lL lJ lG lI lH lF lM)).2))]
 | _ => .err
def gm.sg:bW:={}
def gm.c:eS:=fun l=>match l with
 | [.ag [.i .i64 lK,.u64 lN,.u64 lL,.u64 lJ,.s lG,.s lI,.i .i64 lH,.sl .bs lF,.sl .fl lM]] => .eT (decide (bJ.bO (bJ.of [] (Val.mk lK lN lL lJ lG lI lH lF lM))≤1099511627776)) [(.ag (bM.cells (Cn.qM (Val.mk lK lN lL lJ lG lI lH lF lM))))]
 | _ => .err
def cD.sg:bW:={ own:=[1002] }
def cD.c:eS:=fun l=>match l with
 | [.sl .fl l] => .eT (decide (bJ.cM l≤1099511627776)) [(.ag (bM.cells (Cn.oA l)))]
 | _ => .err
def cD.cn (n:Nat):eS:=fun l=>match l with
 | [.sl .fl l] => .eT ((decide (bJ.cM l≤1099511627776))&&decide ((2 * bJ.cM l+1)<n)) [(.ag (bM.cells (Cn.oA l)))]
 | _ => .err
def di.sg:bW:={}
def di.cn (n:Nat):eS:=fun l=>match l with
 | [.ag [.i .i64 lK,.u64 lN,.u64 lL,.u64 lJ,.s lG,.s lI,.i .i64 lH,.sl .bs lF,.sl .fl lM]] => .eT ((decide (bJ.bO (bJ.of [] (Val.mk lK lN lL lJ lG lI lH lF lM))≤1099511627776))&&decide ((2 * bJ.bO (bJ.of [] (Val.mk lK lN lL lJ lG lI lH lF lM)))<n)) [(.ag (bM.cells (Cn.wv (Val.mk lK lN lL lJ lG lI lH lF lM))))]
 | _ => .err
def fF.sg:bW:={ fo:=2 }
def fF.c:eS:=fun l=>match l with
 | [.ag [.i .i64 lK,.u64 lN,.u64 lL,.u64 lJ,.s lG,.s lI,.i .i64 lH,.sl .bs lF,.sl .fl lM]] => .eT (decide (bJ.bO (bJ.of [] (Val.mk lK lN lL lJ lG lI lH lF lM))≤1099511627776)) [(.ag (bM.cells (Cn.jf (Val.mk lK lN lL lJ lG lI lH lF lM)))),(.ag [(.i .i64 (Cn.jv (Val.mk lK lN lL lJ lG lI lH lF lM)).2),(.i .i64 0),(.sl .is (Cn.jv (Val.mk lK lN lL lJ lG lI lH lF lM)).1)])]
 | _ => .err
def iH.sg:bW:={}
def iH.c:eS:=fun l=>match l with
 | [.s s] => .eT (decide ((s).length≤1099511627776)) [(.b (fy.whole s))]
 | _ => .err
def bP.sg:bW:={}
def bP.c:eS:=fun l=>match l with
 | [.ag [.i .i64 ia,.s hO,.sl .ml ib]] => .eT (decide (bM.bO (bM.mk ia hO ib)≤1099511627776)) [(.i .i64 (Cn.mE (bM.mk ia hO ib)))]
 | _ => .err
def bP.cn (n:Nat):eS:=fun l=>match l with
 | [.ag [.i .i64 ia,.s hO,.sl .ml ib]] => .eT ((decide (bM.bO (bM.mk ia hO ib)≤1099511627776))&&decide ((bM.bO (bM.mk ia hO ib))<n)) [(.i .i64 (Cn.mE (bM.mk ia hO ib)))]
 | _ => .err
def cm.sg:bW:={ fo:=2 }
def cm.c:eS:=fun l=>match l with
 | [.s s] => .eT (decide ((s).length≤1000000000000)) [(.s (Cn.jx s)),(.b (fy.whole s))]
 | _ => .err
def jo_quoted.sg:bW:={ md:=[.gv],own:=[0] }
def jo_quoted.c:eS:=fun l=>match l with
 | [.sl .bs b,.s s] => .eT (decide ((b).length+6 * (s).length≤5000000000000)) [(.sl .bs ((b++Cn.jx s)))]
 | _ => .err
def bY.sg:bW:={ md:=[.gv],own:=[0] }
def bY.c:eS:=fun l=>match l with
 | [.sl .bs b,.ag [.i .i64 ia,.s hO,.sl .ml ib]] => .eT (decide ((b).length+12 * bM.bO (bM.mk ia hO ib)≤4000000000000)) [(.sl .bs ((b++Cn.tJ (bM.mk ia hO ib))))]
 | _ => .err
def bY.cn (n:Nat):eS:=fun l=>match l with
 | [.sl .bs b,.ag [.i .i64 ia,.s hO,.sl .ml ib]] => .eT ((decide ((b).length+12 * bM.bO (bM.mk ia hO ib)≤4000000000000))&&decide ((bM.bO (bM.mk ia hO ib))<n)) [(.sl .bs ((b++Cn.tJ (bM.mk ia hO ib))))]
 | _ => .err
def ft.sg:bW:={ fo:=2 }
def ft.c:eS:=fun l=>match l with
 | [.ag [.i .i64 ia,.s hO,.sl .ml ib]] => .eT (decide (12 * bM.bO (bM.mk ia hO ib)≤1000000000000)) [(.s (Cn.pW (bM.mk ia hO ib))),(.i .i64 (Cn.mE (bM.mk ia hO ib)))]
 | _ => .err
def gn.sg:bW:={ fo:=2 }
def gn.c:eS:=fun l=>match l with
 | [.ag [.i .i64 lK,.u64 lN,.u64 lL,.u64 lJ,.s lG,.s lI,.i .i64 lH,.sl .bs lF,.sl .fl lM]] => .eT (decide (bJ.bO (bJ.of [] (Val.mk lK lN lL lJ lG lI lH lF lM))≤100000)) [(.s (Cn.tV (Val.mk lK lN lL lJ lG lI lH lF lM))),(.ag [(.i .i64 (Cn.oG (Val.mk lK lN lL lJ lG lI lH lF lM)).2),(.i .i64 0),(.sl .is (Cn.oG (Val.mk lK lN lL lJ lG lI lH lF lM)).1)])]
 | _ => .err
end
end Go.Eng
set_option maxRecDepth 100000
namespace Go.Eng
open Go.Proofs
noncomputable section
end
noncomputable section
def cd.E:cC:=cT fQ zs []
def cd.h:Hint := .s .o (.s .o (.s (.s .o (.b (.l [(3,.fA 800000),(10,.no),(11,.no),(12,.no),(800000,.pv)] .o))) .o))
noncomputable def cd.F (b:List UInt8):Option (List TV):=cR Go.Proofs.Tryz.prog cd.E 91 cd.sg cd.h [(.sl .bs b)]
noncomputable def cd.l1 (x0:List UInt8) (x1:Int) (x2:Int) (x3:List UInt8):Option (List TV):=dQ Go.Proofs.Tryz.prog cd.E 91 cd.sg cd.h 43 [.pt,(.sl .bs x0),(.i .i64 x1),(.i .i64 x2),(.sl .bs x3)]
theorem cd.bV (x0:List UInt8) (x1:Int) (x2:Int) (x3:List UInt8) {ρ:Option (List TV)} (K:∀(v1:UInt8) (h1:v1=(List.getD x0 (x2).toNat (0:UInt8))) (v2:UInt8) (h2:v2=(kX v1 (((4:UInt64)).toNat))) (v3:UInt8) (h3:v3=(List.getD ([48,49,50,51,52,53,54,55,56,57,97,98,99,100,101,102]:bz) (((v2).toNat:Int)).toNat (0:UInt8))) (v4:UInt8) (h4:v4=(List.getD ([48,49,50,51,52,53,54,55,56,57,97,98,99,100,101,102]:bz) ((((v1 &&& (15:UInt8))).toNat:Int)).toNat (0:UInt8))) (v5:List UInt8) (h5:v5=(x3++([v3,v4]:List UInt8))) (v6:Int) (h6:v6=(IntKind.i64.wrap (x2+(1:Int)))),cond (decide (x2<x1))
  (ck (bB x2 (x0).length) (ck (bB ((v2).toNat:Int) (([48,49,50,51,52,53,54,55,56,57,97,98,99,100,101,102]:bz)).length) (ck (bB (((v1 &&& (15:UInt8))).toNat:Int) (([48,49,50,51,52,53,54,55,56,57,97,98,99,100,101,102]:bz)).length) (ck (fC ((x3).length+(([v3,v4]:List UInt8)).length) 1) (cd.l1 x0 x1 v6 v5)))))
  (some [(.s x3)])=ρ):cd.l1 x0 x1 x2 x3=ρ:=((bU _ _ _ _ _ _ _).trans (by kernel_rfl)).trans (K _ rfl _ rfl _ rfl _ rfl _ rfl _ rfl)
theorem cd.bZ (b:List UInt8) {ρ:Option (List TV)} (K:∀(v1:Int) (h1:v1=(IntKind.i64.wrap ((2:Int) * ((b).length:Int)))) (v2:List UInt8) (h2:v2=(List.replicate ((0:Int)).toNat (0:UInt8))),ck (oq (0:Int) v1 1) (cd.l1 b ((b).length:Int) (0:Int) v2)=ρ):cd.F b=ρ:=Eq.trans (by kernel_rfl) (K _ rfl _ rfl)
end
noncomputable section
end
noncomputable section
end
noncomputable section
def gX.E:cC:=cT fQ zs []
def gX.h:Hint := .o
noncomputable def gX.F (r:Int):Option (List TV):=cR Go.Proofs.Tryz.prog gX.E 158 gX.sg gX.h [(.i .i64 r)]
theorem gX.bZ (r:Int) {ρ:Option (List TV)} (K:∀(v1:Bool) (h1:v1=(cond (decide ((0:Int)≤r)) (decide (r≤(1114111:Int))) false)) (v2:Bool) (h2:v2=(v1&&(!(decide (r<(55296:Int)))))) (v3:Bool) (h3:v3=(cond (decide (r<(55296:Int))) true (decide ((57343:Int)<r)))),ck (!(decide ((0:Int)≤r)) || (decide ((0:Int)≤r))) (ck (!(decide ((0:Int)≤r)) || (decide ((0:Int)≤r))) (ck (!v1 || v1) (ck (!v1 || v1) (ck (!v2 || v2) (ck (!v1 || (v1&&((decide (r<(55296:Int))) || v2))) (ck (!v1 || v1) (some [(.b (cond v1 v3 false))])))))))=ρ):gX.F r=ρ:=Eq.trans (by kernel_rfl) (K _ rfl _ rfl _ rfl)
end
noncomputable section
def bH.E:cC:=cT fQ zs [(158,(gX.c,gX.sg))]
def bH.h:Hint := .s .o (.sc [(0,(sc [])),(1,(sc [0,1,4,7,8,9]))] (.s .o (.s .o (.s .o (.j (sc [0,1,4,7,8]) .o .o)))))
noncomputable def bH.F (b:List UInt8) (at_:Int):Option (List TV):=cR Go.Proofs.Tryz.prog bH.E 137 bH.sg bH.h [(.sl .bs b),(.i .i64 at_)]
noncomputable def bH.g1:Option (List TV):=vx Go.Proofs.Tryz.prog bH.E 137 bH.sg bH.h 3 0 []
noncomputable def bH.j2 (x0:List UInt8) (x1:Int) (x2:Int) (x3:Int) (x4:Int):Option (List TV):=eD Go.Proofs.Tryz.prog bH.E 137 bH.sg bH.h 61 [(.sl .bs x0),(.i .i64 x1),(.i .i64 x2),(.i .i64 x3),(.i .i64 x4)]
noncomputable def bH.g3 (x0:List UInt8) (x1:Int) (x2:Int) (x3:Int) (x4:Int) (x5:Int):Option (List TV):=vx Go.Proofs.Tryz.prog bH.E 137 bH.sg bH.h 3 1 [(.sl .bs x0),(.i .i64 x1),(.i .i64 x2),(.i .i64 x3),(.i .i64 x4),(.i .i64 x5)]
theorem bH.uF:bH.g1=some [(.i .i64 (0:Int)),(.i .i64 (0:Int))]:=((uw _ _ _ _ _ _ _ _).trans (by kernel_rfl))
theorem bH.jg (x0:List UInt8) (x1:Int) (x2:Int) (x3:Int) (x4:Int) {ρ:Option (List TV)} (K:∀(v1:Int) (h1:v1=(IntKind.i64.wrap (((x0).length:Int) - x1))) (v2:Int) (h2:v2=(IntKind.i64.wrap (v1 - (1:Int)))) (v3:Int) (h3:v3=(IntKind.i64.wrap (x1+(1:Int)))) (v4:UInt8) (h4:v4=(List.getD x0 (v3).toNat (0:UInt8))) (v5:Bool) (h5:v5=(!decide ((v4 &&& (192:UInt8))=(128:UInt8)))) (v6:Int) (h6:v6=(IntKind.i64.wrap (x2 * 2 ^ (min (((6:UInt64)).toNat) (IntKind.i64.bits))))) (v7:Int) (h7:v7=(IntKind.i64.wrap (((v4 &&& (63:UInt8))).toNat:Int))) (v8:Int) (h8:v8=(IntKind.i64.wrap ((1:Int)+(1:Int)))) (v9:Bool) (h9:v9=(cond (decide (x2<x4)) true (!(fy.mA x2)))) (v10:Int) (iA:v10=(IntKind.i64.wrap (x3+(1:Int)))),cond (decide (v2<x3))
  (bH.g1)
  (cond (decide ((1:Int)≤x3))
  (ck (bB v3 (x0).length) (cond v5
  (bH.g1)
  (ck (bB v3 (x0).length) (bH.g3 x0 x1 (cI .or .i64 v6 v7) x3 x4 v8))))
  (ck (!(!(decide (x2<x4))) || (!(decide (x2<x4)))) (ck (!(!(decide (x2<x4))) || (!(decide (x2<x4)))) (ck ((decide (x2<x4)) || (!(decide (x2<x4)))) (cond v9
  (bH.g1)
  (some [(.i .i64 x2),(.i .i64 v10)]))))))=ρ):bH.j2 x0 x1 x2 x3 x4=ρ:=((b9 _ _ _ _ _ _ _).trans (by kernel_rfl)).trans (K _ rfl _ rfl _ rfl _ rfl _ rfl _ rfl _ rfl _ rfl _ rfl _ rfl)
theorem bH.D9 (x0:List UInt8) (x1:Int) (x2:Int) (x3:Int) (x4:Int) (x5:Int) {ρ:Option (List TV)} (K:∀(v1:UInt8) (h1:v1=(List.getD x0 ((IntKind.i64.wrap (x1+x5))).toNat (0:UInt8))) (v2:Bool) (h2:v2=(!decide ((v1 &&& (192:UInt8))=(128:UInt8)))) (v3:Int) (h3:v3=(IntKind.i64.wrap (x2 * 2 ^ (min (((6:UInt64)).toNat) (IntKind.i64.bits))))) (v4:Int) (h4:v4=(IntKind.i64.wrap (((v1 &&& (63:UInt8))).toNat:Int))) (v5:Int) (h5:v5=(IntKind.i64.wrap (x5+(1:Int)))) (v6:Bool) (h6:v6=(cond (decide (x2<x4)) true (!(fy.mA x2)))) (v7:Int) (h7:v7=(IntKind.i64.wrap (x3+(1:Int)))),cond (decide (x5≤x3))
  (ck (bB (IntKind.i64.wrap (x1+x5)) (x0).length) (cond v2
  (bH.g1)
  (ck (bB (IntKind.i64.wrap (x1+x5)) (x0).length) (bH.g3 x0 x1 (cI .or .i64 v3 v4) x3 x4 v5))))
  (ck (!(!(decide (x2<x4))) || (!(decide (x2<x4)))) (ck (!(!(decide (x2<x4))) || (!(decide (x2<x4)))) (ck ((decide (x2<x4)) || (!(decide (x2<x4)))) (cond v6
  (bH.g1)
  (some [(.i .i64 x2),(.i .i64 v7)])))))=ρ):bH.g3 x0 x1 x2 x3 x4 x5=ρ:=((uw _ _ _ _ _ _ _ _).trans (by kernel_rfl)).trans (K _ rfl _ rfl _ rfl _ rfl _ rfl _ rfl _ rfl)
theorem bH.bZ (b:List UInt8) (at_:Int) {ρ:Option (List TV)} (K:∀(v1:Bool) (h1:v1=(cond (decide (at_<(0:Int))) true (decide (((b).length:Int)≤at_)))) (v2:UInt8) (h2:v2=(List.getD b (at_).toNat (0:UInt8))) (v3:Int) (h3:v3=(IntKind.i64.wrap ((v2).toNat:Int))) (v4:Bool) (h4:v4=(cond (decide ((192:Int)≤v3)) (decide (v3<(224:Int))) false)) (v5:Int) (h5:v5=(cI .and .i64 v3 (31:Int))) (v6:Bool) (h6:v6=(cond (decide ((224:Int)≤v3)) (decide (v3<(240:Int))) false)) (v7:Int) (h7:v7=(cI .and .i64 v3 (15:Int))) (v8:Bool) (h8:v8=(cond (decide ((240:Int)≤v3)) (decide (v3<(248:Int))) false)) (v9:Int) (h9:v9=(cI .and .i64 v3 (7:Int))),ck (!(!(decide (at_<(0:Int)))) || (!(decide (at_<(0:Int))))) (ck (!(!(decide (at_<(0:Int)))) || ((!(decide (at_<(0:Int))))&&(!(decide (at_<(0:Int)))))) (ck ((decide (at_<(0:Int))) || (!(decide (at_<(0:Int))))) (cond v1
  (bH.g1)
  (ck (bB at_ (b).length) (cond (decide (v3<(128:Int)))
  (some [(.i .i64 v3),(.i .i64 1)])
  (ck (!(decide ((192:Int)≤v3)) || (decide ((192:Int)≤v3))) (ck (!(decide ((192:Int)≤v3)) || (decide ((192:Int)≤v3))) (cond v4
  (bH.j2 b at_ v5 (1:Int) (128:Int))
  (ck (!(decide ((224:Int)≤v3)) || (decide ((224:Int)≤v3))) (ck (!(decide ((224:Int)≤v3)) || (decide ((224:Int)≤v3))) (cond v6
  (bH.j2 b at_ v7 (2:Int) (2048:Int))
  (ck (!(decide ((240:Int)≤v3)) || (decide ((240:Int)≤v3))) (ck (!(decide ((240:Int)≤v3)) || (decide ((240:Int)≤v3))) (cond v8
  (bH.j2 b at_ v9 (3:Int) (65536:Int))
  (bH.g1)))))))))))))))=ρ):bH.F b at_=ρ:=Eq.trans (by kernel_rfl) (K _ rfl _ rfl _ rfl _ rfl _ rfl _ rfl _ rfl _ rfl _ rfl)
end
noncomputable section
def cj.E:cC:=cT fQ zs [(137,(bH.c,bH.sg))]
def cj.h:Hint := .s .o (.j (sc [2,3]) (.b (.l (sc [0,2,3]) .o)) .o)
noncomputable def cj.F (b:List UInt8):Option (List TV):=cR Go.Proofs.Tryz.prog cj.E 110 cj.sg cj.h [(.sl .bs b)]
noncomputable def cj.l1 (x0:List UInt8) (x1:Int) (x2:Int):Option (List TV):=dQ Go.Proofs.Tryz.prog cj.E 110 cj.sg cj.h 9 [(.sl .bs x0),(.i .i64 x1),(.i .i64 x2)]
noncomputable def cj.j2 (x0:Int) (x1:Int):Option (List TV):=eD Go.Proofs.Tryz.prog cj.E 110 cj.sg cj.h 3 [(.i .i64 x0),(.i .i64 x1)]
theorem cj.bV (x0:List UInt8) (x1:Int) (x2:Int) {ρ:Option (List TV)} (K:∀(v1:Int) (h1:v1=(IntKind.i64.wrap (x1+((fy.mi x0 x1).2)))) (v2:Int) (h2:v2=(IntKind.i64.wrap (x2+(1:Int)))),cond (decide (x1<((x0).length:Int)))
  (ck (decide (x0.length≤1099511627776)) (cond (decide (((fy.mi x0 x1).2)=(0:Int)))
  (cj.j2 x1 x2)
  (cj.l1 x0 v1 v2)))
  (cj.j2 x1 x2)=ρ):cj.l1 x0 x1 x2=ρ:=((bU _ _ _ _ _ _ _).trans (by kernel_rfl)).trans (K _ rfl _ rfl)
theorem cj.jZ (x0:Int) (x1:Int):cj.j2 x0 x1=some [(.i .i64 x0),(.i .i64 x1)]:=((b9 _ _ _ _ _ _ _).trans (by kernel_rfl))
theorem cj.eJ (b:List UInt8):cj.F b=cj.l1 b (0:Int) (0:Int):=by kernel_rfl
end
noncomputable section
def dJ.E:cC:=cT fQ zs [(110,(cj.c,cj.sg))]
def dJ.h:Hint := .o
noncomputable def dJ.F (b:List UInt8):Option (List TV):=cR Go.Proofs.Tryz.prog dJ.E 81 dJ.sg dJ.h [(.sl .bs b)]
theorem dJ.eJ (b:List UInt8):dJ.F b=ck (decide (b.length≤1099511627776)) (some [(.i .i64 (((fy.look b).1:Int))),(.b (decide ((((fy.look b).1:Int))=((b).length:Int))))]):=by kernel_rfl
end
noncomputable section
end
noncomputable section
end
noncomputable section
end
noncomputable section
end
noncomputable section
def cH.E:cC:=cT fQ zs []
def cH.h:Hint := .o
noncomputable def cH.F (s:bz) (c:UInt8):Option (List TV):=cR Go.Proofs.Tryz.prog cH.E 156 cH.sg cH.h [(.s s),(.u8 c)]
theorem cH.eJ (s:bz) (c:UInt8):cH.F s c=some [(.i .i64 (Lib.indexByte s c))]:=by kernel_rfl
end
noncomputable section
def fi.E:cC:=cT fQ zs [(156,(cH.c,cH.sg))]
def fi.h:Hint := .o
noncomputable def fi.F (s:bz) (t:bz):Option (List TV):=cR Go.Proofs.Tryz.prog fi.E 138 fi.sg fi.h [(.s s),(.s t)]
theorem fi.bZ (s:bz) (t:bz) {ρ:Option (List TV)} (K:∀(v1:Bool) (h1:v1=(cond (decide (((t).length:Int)=(0:Int))) true (decide (t=s)))) (v2:UInt8) (h2:v2=(List.getD t ((0:Int)).toNat (0:UInt8))),ck (!(!(decide (((t).length:Int)=(0:Int)))) || ((!(decide (((t).length:Int)=(0:Int))))&&(!(decide (((t).length:Int)=(0:Int)))))) (ck ((decide (((t).length:Int)=(0:Int))) || (!(decide (((t).length:Int)=(0:Int))))) (cond v1
  (some [(.i .i64 0)])
  (cond (decide (((t).length:Int)=(1:Int)))
  (ck (bB (0:Int) (t).length) (some [(.i .i64 (Lib.indexByte s v2))]))
  (cond (decide (((s).length:Int)≤((t).length:Int)))
  (some [(.i .i64 (-1))])
  (none)))))=ρ):fi.F s t=ρ:=Eq.trans (by kernel_rfl) (K _ rfl _ rfl)
end
noncomputable section
def fh.E:cC:=cT fQ zs [(138,(fi.c,fi.sg))]
def fh.h:Hint := .o
noncomputable def fh.F (s:bz) (t:bz):Option (List TV):=cR Go.Proofs.Tryz.prog fh.E 111 fh.sg fh.h [(.s s),(.s t)]
theorem fh.bZ (s:bz) (t:bz) {ρ:Option (List TV)} (K:∀(v1:Int) (h1:v1=(Lib.indexByte s (t.getD 0 0))),ck (decide (t.length=1)) (some [(.i .i64 v1)])=ρ):fh.F s t=ρ:=Eq.trans (by kernel_rfl) (K _ rfl)
end
noncomputable section
def dv.E:cC:=cT fQ zs [(111,(fh.c,fh.sg))]
def dv.h:Hint := .o
noncomputable def dv.F (s:bz) (t:bz):Option (List TV):=cR Go.Proofs.Tryz.prog dv.E 82 dv.sg dv.h [(.s s),(.s t)]
theorem dv.bZ (s:bz) (t:bz) {ρ:Option (List TV)} (K:∀(v1:Int) (h1:v1=(Lib.indexByte s (t.getD 0 0))),ck (decide (t.length=1)) (some [(.b (decide ((0:Int)≤v1)))])=ρ):dv.F s t=ρ:=Eq.trans (by kernel_rfl) (K _ rfl)
end
noncomputable section
def fx.E:cC:=cT fQ zs []
def fx.h:Hint := .o
noncomputable def fx.F (l:List Int):Option (List TV):=cR Go.Proofs.Tryz.prog fx.E 47 fx.sg fx.h [(.sl .is l)]
theorem fx.eJ (l:List Int):fx.F l=cond (List.isEmpty l)
  (both (some [(.sl .is ([]:List Int)),(.sl .is l)]) (ck (fC ((([]:List Int)).length+(l).length) 8) (some [(.sl .is (([]:List Int)++l)),(.sl .is l)])))
  (ck (fC ((([]:List Int)).length+(l).length) 8) (some [(.sl .is (([]:List Int)++l)),(.sl .is l)])):=by kernel_rfl
end
noncomputable section
def dY.E:cC:=cT fQ zs []
def dY.h:Hint := .o
noncomputable def dY.F (k:Int):Option (List TV):=cR Go.Proofs.Tryz.prog dY.E 46 dY.sg dY.h [(.i .i64 k)]
theorem dY.bZ (k:Int) {ρ:Option (List TV)} (K:∀(v1:Bool) (h1:v1=(cond (decide (k<(0:Int))) true (decide ((20:Int)≤k)))) (v2:bz) (h2:v2=(List.getD [([]:bz),([100,111,117,98,108,101]:bz),([115,116,114,105,110,103]:bz),([100,111,99,117,109,101,110,116]:bz),([97,114,114,97,121]:bz),([98,105,110,97,114,121]:bz),([117,110,100,101,102,105,110,101,100]:bz),([111,98,106,101,99,116,105,100]:bz),([98,111,111,108]:bz),([100,97,116,101]:bz),([110,117,108,108]:bz),([114,101,103,101,120]:bz),([112,111,105,110,116,101,114]:bz),([99,111,100,101]:bz),([115,121,109,98,111,108]:bz),([115,99,111,112,101,100]:bz),([105,110,116,51,50]:bz),([116,105,109,101,115,116,97,109,112]:bz),([105,110,116,54,52]:bz),([100,101,99,105,109,97,108]:bz)] ((k).toNat) ([]:bz))),cond (decide (k=(127:Int)))
  (some [(.s ([109,97,120,107,101,121]:bz))])
  (cond (decide (k=(255:Int)))
  (some [(.s ([109,105,110,107,101,121]:bz))])
  (ck (!(!(decide (k<(0:Int)))) || (!(decide (k<(0:Int))))) (ck ((decide (k<(0:Int))) || (!(decide (k<(0:Int))))) (cond v1
  (some [(.s [])])
  (ck (bB k 20) (ck (decide ((k).toNat<20)) (some [(.s v2)])))))))=ρ):dY.F k=ρ:=Eq.trans (by kernel_rfl) (K _ rfl _ rfl)
end
noncomputable section
def bx.E:cC:=cT fQ zs []
def bx.h:Hint := .s .o (.s .o (.j [(1,.ptr 116 0),(3,.no),(116,.cl [])] (.s .o (.b (.j [(1,.ptr 116 0),(3,.no),(5,.no),(6,.no),(116,.cl [])] .o (.s .o (.s .o (.s .o (.s .o (.s .o (.s .o (.s .o (.j [(1,.ptr 116 0),(3,.no),(5,.no),(28,.no),(116,.cl [])] .o (.s .o (.s .o (.s .o (.s .o (.s .o (.s .o (.s .o (.s .o (.s .o (.j [(1,.ptr 116 0),(3,.no),(5,.no),(64,.no),(116,.cl [])] .o .o))))))))))))))))))))) .o))
noncomputable def bx.F (v:Val):Option (List TV):=cR Go.Proofs.Tryz.prog bx.E 48 bx.sg bx.h [(.ag (Val.cells v))]
noncomputable def bx.j1 (x0:Bool) (x1:Int) (x2:Bool) (x3:Val):Option (List TV):=eD Go.Proofs.Tryz.prog bx.E 48 bx.sg bx.h 43 [.pt,(.b x0),(.i .i64 x1),(.b x2),(.ag (Val.cells x3))]
noncomputable def bx.j2 (x0:Bool) (x1:Val):Option (List TV):=eD Go.Proofs.Tryz.prog bx.E 48 bx.sg bx.h 7 [.pt,(.b x0),(.ag (Val.cells x1))]
noncomputable def bx.j3 (x0:Bool) (x1:Int) (x2:Bool) (x3:Val):Option (List TV):=eD Go.Proofs.Tryz.prog bx.E 48 bx.sg bx.h 16363 [.pt,(.b x0),(.i .i64 x1),(.b x2),(.ag (Val.cells x3))]
noncomputable def bx.j4 (x0:Bool) (x1:Int) (x2:Bool) (x3:Val):Option (List TV):=eD Go.Proofs.Tryz.prog bx.E 48 bx.sg bx.h 16777195 [.pt,(.b x0),(.i .i64 x1),(.b x2),(.ag (Val.cells x3))]
theorem bx.lp (x0:Bool) (x1:Int) (x2:Bool) (x3:Val):bx.j1 x0 x1 x2 x3=cond x2
  (bx.j2 x0 (Val.mk (Val.kind x3) 0 (Val.high x3) (Val.low x3) (Val.text x3) (Val.more x3) (Val.sub x3) (Val.bytes x3) (Val.kids x3)))
  (cond (decide (x1=(16:Int)))
  (bx.j2 (decide ((Val.bits x3)<(4294967296:UInt64))) (Val.mk (Val.kind x3) 0 (Val.high x3) (Val.low x3) (Val.text x3) (Val.more x3) (Val.sub x3) (Val.bytes x3) (Val.kids x3)))
  (cond (decide (x1=(8:Int)))
  (bx.j2 (decide ((Val.bits x3)<(2:UInt64))) (Val.mk (Val.kind x3) 0 (Val.high x3) (Val.low x3) (Val.text x3) (Val.more x3) (Val.sub x3) (Val.bytes x3) (Val.kids x3)))
  (cond (decide (x1=(19:Int)))
  (bx.j2 x0 (Val.mk (Val.kind x3) (Val.bits x3) 0 0 (Val.text x3) (Val.more x3) (Val.sub x3) (Val.bytes x3) (Val.kids x3)))
  (cond (decide (x1=(2:Int)))
  (bx.j3 x0 x1 (decide (x1=(2:Int))) x3)
  (cond (decide (x1=(13:Int)))
  (bx.j3 x0 x1 (decide (x1=(13:Int))) x3)
  (bx.j3 x0 x1 (decide (x1=(14:Int))) x3)))))):=((b9 _ _ _ _ _ _ _).trans (by kernel_rfl))
theorem bx.jg (x0:Bool) (x1:Val) {ρ:Option (List TV)} (K:∀(v1:Bool) (h1:v1=(cond x0 (decide ((Val.bits x1)=(0:UInt64))) false)) (v2:Bool) (h2:v2=(cond v1 (decide ((Val.high x1)=(0:UInt64))) false)) (v3:Bool) (h3:v3=(cond v2 (decide ((Val.low x1)=(0:UInt64))) false)) (v4:Bool) (h4:v4=(cond v3 (decide ((Val.text x1)=([]:bz))) false)) (v5:Bool) (h5:v5=(cond v4 (decide ((Val.more x1)=([]:bz))) false)) (v6:Bool) (h6:v6=(cond v5 (decide ((Val.sub x1)=(0:Int))) false)) (v7:Int) (h7:v7=(((Val.bytes x1)).length:Int)) (v8:Bool) (h8:v8=(cond v6 (decide (v7=(0:Int))) false)) (v9:Int) (h9:v9=(((Val.kids x1)).length:Int)) (v10:Bool) (iA:v10=(cond v8 (decide (v9=(0:Int))) false)),ck (!x0 || x0) (ck (!x0 || x0) (ck (!x0 || x0) (ck (!v1 || v1) (ck (!v1 || v1) (ck (!v1 || v1) (ck (!v2 || v2) (ck (!v2 || v2) (ck (!v2 || v2) (ck (!v3 || v3) (ck (!v3 || v3) (ck (!v3 || v3) (ck (!v4 || v4) (ck (!v4 || v4) (ck (!v4 || v4) (ck (!v5 || v5) (ck (!v5 || v5) (ck (!v5 || v5) (ck (!v6 || v6) (ck (!v6 || v6) (ck (!v6 || v6) (ck (!v6 || v6) (ck (!v8 || v8) (ck (!v8 || v8) (ck (!v8 || v8) (ck (!v8 || v8) (some [(.b v10)]))))))))))))))))))))))))))=ρ):bx.j2 x0 x1=ρ:=((b9 _ _ _ _ _ _ _).trans (by kernel_rfl)).trans (K _ rfl _ rfl _ rfl _ rfl _ rfl _ rfl _ rfl _ rfl _ rfl _ rfl)
theorem bx.oY (x0:Bool) (x1:Int) (x2:Bool) (x3:Val) {ρ:Option (List TV)} (K:∀(v1:Bool) (h1:v1=(cond (decide ((0:Int)≤(Val.sub x3))) (decide ((Val.sub x3)≤(255:Int))) false)) (v2:Int) (h2:v2=(((Val.bytes x3)).length:Int)),cond x2
  (bx.j2 x0 (Val.mk (Val.kind x3) (Val.bits x3) (Val.high x3) (Val.low x3) [] (Val.more x3) (Val.sub x3) (Val.bytes x3) (Val.kids x3)))
  (cond (decide (x1=(11:Int)))
  (bx.j2 x0 (Val.mk (Val.kind x3) (Val.bits x3) (Val.high x3) (Val.low x3) [] [] (Val.sub x3) (Val.bytes x3) (Val.kids x3)))
  (cond (decide (x1=(5:Int)))
  (ck (!(decide ((0:Int)≤(Val.sub x3))) || (decide ((0:Int)≤(Val.sub x3)))) (ck (!(decide ((0:Int)≤(Val.sub x3))) || (decide ((0:Int)≤(Val.sub x3)))) (ck (!(decide ((0:Int)≤(Val.sub x3))) || (decide ((0:Int)≤(Val.sub x3)))) (bx.j2 v1 (Val.mk (Val.kind x3) (Val.bits x3) (Val.high x3) (Val.low x3) (Val.text x3) (Val.more x3) 0 [] (Val.kids x3))))))
  (cond (decide (x1=(7:Int)))
  (bx.j2 (decide (v2=(12:Int))) (Val.mk (Val.kind x3) (Val.bits x3) (Val.high x3) (Val.low x3) (Val.text x3) (Val.more x3) (Val.sub x3) [] (Val.kids x3)))
  (cond (decide (x1=(12:Int)))
  (bx.j2 (decide (v2=(12:Int))) (Val.mk (Val.kind x3) (Val.bits x3) (Val.high x3) (Val.low x3) [] (Val.more x3) (Val.sub x3) [] (Val.kids x3)))
  (cond (decide (x1=(3:Int)))
  (bx.j4 x0 x1 (decide (x1=(3:Int))) x3)
  (bx.j4 x0 x1 (decide (x1=(4:Int))) x3))))))=ρ):bx.j3 x0 x1 x2 x3=ρ:=((b9 _ _ _ _ _ _ _).trans (by kernel_rfl)).trans (K _ rfl _ rfl)
theorem bx.uy (x0:Bool) (x1:Int) (x2:Bool) (x3:Val):bx.j4 x0 x1 x2 x3=cond x2
  (bx.j2 x0 (Val.mk (Val.kind x3) (Val.bits x3) (Val.high x3) (Val.low x3) (Val.text x3) (Val.more x3) (Val.sub x3) (Val.bytes x3) []))
  (cond (decide (x1=(15:Int)))
  (bx.j2 x0 (Val.mk (Val.kind x3) (Val.bits x3) (Val.high x3) (Val.low x3) [] (Val.more x3) (Val.sub x3) (Val.bytes x3) []))
  (bx.j2 x0 x3)):=((b9 _ _ _ _ _ _ _).trans (by kernel_rfl))
theorem bx.eJ (v:Val):bx.F v=cond (decide ((Val.kind v)=(1:Int)))
  (bx.j1 true (Val.kind v) (decide ((Val.kind v)=(1:Int))) v)
  (cond (decide ((Val.kind v)=(9:Int)))
  (bx.j1 true (Val.kind v) (decide ((Val.kind v)=(9:Int))) v)
  (cond (decide ((Val.kind v)=(17:Int)))
  (bx.j1 true (Val.kind v) (decide ((Val.kind v)=(17:Int))) v)
  (bx.j1 true (Val.kind v) (decide ((Val.kind v)=(18:Int))) v))):=by kernel_rfl
end
noncomputable section
def dG.E:cC:=cT fQ zs [(81,(dJ.c,dJ.sg)),(82,(dv.c,dv.sg))]
def dG.h:Hint := .o
noncomputable def dG.F (s:bz) (plain:Bool):Option (List TV):=cR Go.Proofs.Tryz.prog dG.E 49 dG.sg dG.h [(.s s),(.b plain)]
theorem dG.bZ (s:bz) (plain:Bool) {ρ:Option (List TV)} (K:∀(v1:Bool) (h1:v1=(cond plain (decide (0≤Lib.indexByte s ((([0]:bz)).getD 0 0))) false)) (v2:Bool) (h2:v2=(cond (fy.whole s) (!v1) false)),ck (qT (s).length) (ck (decide (s.length≤1099511627776)) (ck (!(fy.whole s) || (fy.whole s)) (ck (!((fy.whole s)&&plain) || (((fy.whole s)&&plain)&&(decide ((([0]:bz)).length=1)))) (ck (!(fy.whole s) || ((fy.whole s)&&(!plain || ((fy.whole s)&&plain)))) (ck (!(fy.whole s) || (fy.whole s)) (ck (!(fy.whole s) || (fy.whole s)) (some [(.b v2)])))))))=ρ):dG.F s plain=ρ:=Eq.trans (by kernel_rfl) (K _ rfl _ rfl)
end
noncomputable section
def bR.E (n:Nat):cC:=cT fQ zs [(35,(bR.cn n,bR.sg)),(46,(dY.c,dY.sg)),(47,(fx.c,fx.sg)),(48,(bx.c,bx.sg)),(49,(dG.c,dG.sg))] [139]
def bR.h:Hint := .s .o (.s .o (.s .o (.s (.s .o (.b (.l [(2,.fA 1000002),(50,.no),(51,.no),(52,.no),(1000002,.pv)] .o))) .o)))
noncomputable def bR.F (n:Nat) (v:Val) (name:bz) (path:List Int):Option (List TV):=cR Go.Proofs.Tryz.prog (bR.E n) 35 bR.sg bR.h [(.ag (Val.cells v)),(.s name),(.sl .is path)]
noncomputable def bR.l1 (n:Nat) (x0:List bJ) (x1:Int) (x2:Int) (x3:List Int):Option (List TV):=dQ Go.Proofs.Tryz.prog (bR.E n) 35 bR.sg bR.h 87 [.pt,(.sl .fl x0),(.i .i64 x1),(.i .i64 x2),(.sl .is x3)]
theorem bR.bV (n:Nat) (x0:List bJ) (x1:Int) (x2:Int) (x3:List Int) {ρ:Option (List TV)} (K:∀(v1:bJ) (h1:v1=(List.getD x0 (x2).toNat (fe.gk .fl))) (v2:List Int) (h2:v2=((Tree.iT (bJ.of ((bJ.name v1)) (bJ.val v1)) ((x3++([x2]:List Int)))).1)) (v3:Int) (h3:v3=((Tree.iT (bJ.of ((bJ.name v1)) (bJ.val v1)) ((x3++([x2]:List Int)))).2)) (v4:Int) (h4:v4=(IntKind.i64.wrap (x2+(1:Int)))),cond (decide (x2<x1))
  (ck (bB x2 (x0).length) (ck (fC ((x3).length+(([x2]:List Int)).length) 8) (ck ((decide (bJ.bO (bJ.of ((bJ.name v1)) (bJ.val v1))+((x3++([x2]:List Int))).length≤1099511627776))&&decide ((bJ.bO (bJ.of ((bJ.name v1)) (bJ.val v1)))<n)) (cond (!decide (v3=(0:Int)))
  (some [(.sl .is v2),(.i .i64 v3),(.sl .is x3)])
  (bR.l1 n x0 x1 v4 x3)))))
  (some [(.sl .is ([]:List Int)),(.i .i64 0),(.sl .is x3)])=ρ):bR.l1 n x0 x1 x2 x3=ρ:=((bU _ _ _ _ _ _ _).trans (by kernel_rfl)).trans (K _ rfl _ rfl _ rfl _ rfl)
theorem bR.bZ (n:Nat) (v:Val) (name:bz) (path:List Int) {ρ:Option (List TV)} (K:∀(v1:Bool) (h1:v1=(Tree.gH ((Val.text v)) ((decide ((Val.kind v)=(11:Int)))))) (v2:Bool) (h2:v2=(Tree.gH ((Val.more v)) ((decide ((Val.kind v)=(11:Int)))))) (v3:Bool) (h3:v3=(cond (cond (!v1) true (!v2)) true (!(Tree.gH name true)))) (v4:Int) (h4:v4=(((Val.kids v)).length:Int)),cond (decide ((Tree.name ((Val.kind v)))=([]:bz)))
  (ck (fC (path).length 8) (some [(.sl .is (path)),(.i .i64 5),(.sl .is path)]))
  (cond (!(Tree.j7 v))
  (ck (fC (path).length 8) (some [(.sl .is (path)),(.i .i64 1),(.sl .is path)]))
  (ck (decide (((Val.text v)).length≤1099511627776)) (ck (!(!(!v1)) || (!(!v1))) (ck (!(!(!v1)) || (((!(!v1))&&(!(!v1)))&&(decide (((Val.more v)).length≤1099511627776)))) (ck (!(!(!v1)) || (!(!v1))) (ck ((!v1) || (!(!v1))) (ck (!(!(cond (!v1) true (!v2))) || ((!(cond (!v1) true (!v2)))&&(decide (name.length≤1099511627776)))) (ck (!(!(cond (!v1) true (!v2))) || (!(cond (!v1) true (!v2)))) (ck ((cond (!v1) true (!v2)) || (!(cond (!v1) true (!v2)))) (cond v3
  (ck (fC (path).length 8) (some [(.sl .is (path)),(.i .i64 4),(.sl .is path)]))
  (bR.l1 n (Val.kids v) v4 (0:Int) path)))))))))))=ρ):bR.F n v name path=ρ:=Eq.trans (by kernel_rfl) (K _ rfl _ rfl _ rfl _ rfl)
end
noncomputable section
def dH.E:cC:=cT fQ zs [(35,(bR.c,bR.sg))]
def dH.h:Hint := .o
noncomputable def dH.F (v:Val):Option (List TV):=cR Go.Proofs.Tryz.prog dH.E 20 dH.sg dH.h [(.ag (Val.cells v))]
theorem dH.bZ (v:Val) {ρ:Option (List TV)} (K:∀(v1:List Int) (h1:v1=((Tree.iT (bJ.of (([]:bz)) v) (([]:List Int))).1)) (v2:Int) (h2:v2=((Tree.iT (bJ.of (([]:bz)) v) (([]:List Int))).2)),ck (decide (bJ.bO (bJ.of (([]:bz)) v)+(([]:List Int)).length≤1099511627776)) (some [(.sl .is v1),(.i .i64 v2)])=ρ):dH.F v=ρ:=Eq.trans (by kernel_rfl) (K _ rfl _ rfl)
end
noncomputable section
end
noncomputable section
end
noncomputable section
end
noncomputable section
end
noncomputable section
end
noncomputable section
end
end Go.Eng
set_option maxRecDepth 100000
namespace Go.Eng
open Go.Proofs
noncomputable section
end
noncomputable section
end
noncomputable section
def kE.E:cC:=cT fQ zs []
def kE.h:Hint := .o
noncomputable def kE.F (a:Val) (b:Val):Option (List TV):=cR Go.Proofs.Tryz.prog kE.E 27 kE.sg kE.h [(.ag (Val.cells a)),(.ag (Val.cells b))]
theorem kE.bZ (a:Val) (b:Val) {ρ:Option (List TV)} (K:∀(v1:Bool) (h1:v1=(cond (decide ((Val.kind a)=(Val.kind b))) (decide ((Val.bits a)=(Val.bits b))) false)) (v2:Bool) (h2:v2=(cond v1 (decide ((Val.high a)=(Val.high b))) false)) (v3:Bool) (h3:v3=(cond v2 (decide ((Val.low a)=(Val.low b))) false)) (v4:Bool) (h4:v4=(cond v3 (decide ((Val.text a)=(Val.text b))) false)) (v5:Bool) (h5:v5=(cond v4 (decide ((Val.more a)=(Val.more b))) false)) (v6:Bool) (h6:v6=(cond v5 (decide ((Val.sub a)=(Val.sub b))) false)) (v7:Bool) (h7:v7=(cond v6 (decide ((Val.bytes a)=(Val.bytes b))) false)),ck (!(decide ((Val.kind a)=(Val.kind b))) || (decide ((Val.kind a)=(Val.kind b)))) (ck (!(decide ((Val.kind a)=(Val.kind b))) || (decide ((Val.kind a)=(Val.kind b)))) (ck (!(decide ((Val.kind a)=(Val.kind b))) || ((decide ((Val.kind a)=(Val.kind b)))&&(decide ((Val.kind a)=(Val.kind b))))) (ck (!(decide ((Val.kind a)=(Val.kind b))) || (decide ((Val.kind a)=(Val.kind b)))) (ck (!v1 || v1) (ck (!v1 || v1) (ck (!v1 || (v1&&v1)) (ck (!v1 || v1) (ck (!v2 || v2) (ck (!v2 || v2) (ck (!v2 || (v2&&v2)) (ck (!v2 || v2) (ck (!v3 || v3) (ck (!v3 || v3) (ck (!v3 || (v3&&v3)) (ck (!v3 || v3) (ck (!v4 || v4) (ck (!v4 || v4) (ck (!v4 || (v4&&v4)) (ck (!v4 || v4) (ck (!v5 || v5) (ck (!v5 || v5) (ck (!v5 || (v5&&v5)) (ck (!v5 || v5) (ck (!v6 || v6) (ck (!v6 || v6) (ck (!v6 || v6) (ck (!v6 || v6) (ck (!v6 || (v6&&v6)) (ck (!v6 || v6) (some [(.b v7)]))))))))))))))))))))))))))))))=ρ):kE.F a b=ρ:=Eq.trans (by kernel_rfl) (K _ rfl _ rfl _ rfl _ rfl _ rfl _ rfl _ rfl)
end
noncomputable section
def eF.E (n:Nat):cC:=cT fQ zs [(15,(eF.cn n,eF.sg)),(27,(kE.c,kE.sg))]
def eF.h:Hint := .s .o (.s .o (.s (.s .o (.b (.l [(2,.ptr 57 0),(3,.ptr 58 0),(5,.no),(57,.cl []),(58,.cl [])] .o))) .o))
noncomputable def eF.F (n:Nat) (a:Val) (b:Val):Option (List TV):=cR Go.Proofs.Tryz.prog (eF.E n) 15 eF.sg eF.h [(.ag (Val.cells a)),(.ag (Val.cells b))]
noncomputable def eF.l1 (n:Nat) (x0:Int) (x1:Val) (x2:Val):Option (List TV):=dQ Go.Proofs.Tryz.prog (eF.E n) 15 eF.sg eF.h 43 [.pt,.pt,(.i .i64 x0),(.ag (Val.cells x1)),(.ag (Val.cells x2))]
theorem eF.bV (n:Nat) (x0:Int) (x1:Val) (x2:Val) {ρ:Option (List TV)} (K:∀(v1:Int) (h1:v1=(((Val.kids x1)).length:Int)) (v2:bJ) (h2:v2=(List.getD (Val.kids x1) (x0).toNat (fe.gk .fl))) (v3:bJ) (h3:v3=(List.getD (Val.kids x2) (x0).toNat (fe.gk .fl))) (v4:Bool) (h4:v4=(!(!decide ((bJ.name v2)=(bJ.name v3))))) (v5:Bool) (h5:v5=(Tree.same (bJ.val v2) (bJ.val v3))) (v6:Bool) (h6:v6=(cond (!decide ((bJ.name v2)=(bJ.name v3))) true (!v5))) (v7:Int) (h7:v7=(IntKind.i64.wrap (x0+(1:Int)))),cond (decide (x0<v1))
  (ck (bB x0 ((Val.kids x1)).length) (ck (bB x0 ((Val.kids x2)).length) (ck (!v4 || v4) (ck (!v4 || ((v4&&v4)&&(bB x0 ((Val.kids x1)).length))) (ck (!v4 || v4) (ck (!v4 || v4) (ck (!v4 || v4) (ck (!v4 || ((v4&&v4)&&(bB x0 ((Val.kids x2)).length))) (ck (!v4 || v4) (ck (!v4 || v4) (ck (!v4 || ((v4&&v4)&&((decide (bJ.bO (bJ.of [] (bJ.val v2))≤1099511627776))&&decide ((bJ.bO (bJ.of [] (bJ.val v2)))<n)))) (ck (!v4 || v4) (ck ((!decide ((bJ.name v2)=(bJ.name v3))) || v4) (cond v6
  (some [(.b false)])
  (eF.l1 n v7 x1 x2)))))))))))))))
  (some [(.b true)])=ρ):eF.l1 n x0 x1 x2=ρ:=((bU _ _ _ _ _ _ _).trans (by kernel_rfl)).trans (K _ rfl _ rfl _ rfl _ rfl _ rfl _ rfl _ rfl)
theorem eF.bZ (n:Nat) (a:Val) (b:Val) {ρ:Option (List TV)} (K:∀(v1:Int) (h1:v1=(((Val.kids a)).length:Int)) (v2:Int) (h2:v2=(((Val.kids b)).length:Int)) (v3:Bool) (h3:v3=(cond (!(Tree.zn a b)) true (!decide (v1=v2)))),ck (!(!(!(Tree.zn a b))) || (!(!(Tree.zn a b)))) (ck (!(!(!(Tree.zn a b))) || (!(!(Tree.zn a b)))) (ck (!(!(!(Tree.zn a b))) || (!(!(Tree.zn a b)))) (ck (!(!(!(Tree.zn a b))) || (!(!(Tree.zn a b)))) (ck (!(!(!(Tree.zn a b))) || ((!(!(Tree.zn a b)))&&(!(!(Tree.zn a b))))) (ck ((!(Tree.zn a b)) || (!(!(Tree.zn a b)))) (cond v3
  (some [(.b false)])
  (eF.l1 n (0:Int) a b)))))))=ρ):eF.F n a b=ρ:=Eq.trans (by kernel_rfl) (K _ rfl _ rfl _ rfl)
end
noncomputable section
end
noncomputable section
def cL.E:cC:=cT fQ zs []
def cL.h:Hint := .s .o (.s (.s .o (.b (.l (sc [0,1,5]) .o))) .o)
noncomputable def cL.F (left:Int) (iF:List Int):Option (List TV):=cR Go.Proofs.Tryz.prog cL.E 34 cL.sg cL.h [(.i .i64 left),(.sl .is iF)]
noncomputable def cL.l1 (x0:Int) (x1:List Int) (x2:Int):Option (List TV):=dQ Go.Proofs.Tryz.prog cL.E 34 cL.sg cL.h 21 [(.i .i64 x0),(.sl .is x1),(.i .i64 x2)]
theorem cL.bV (x0:Int) (x1:List Int) (x2:Int) {ρ:Option (List TV)} (K:∀(v1:Int) (h1:v1=(List.getD x1 (x2).toNat (0:Int))) (v2:Bool) (h2:v2=(cond (decide (x0<(0:Int))) true (decide (x0<v1)))) (v3:Int) (h3:v3=(IntKind.i64.wrap (x2+(1:Int)))),cond (decide (x2<((x1).length:Int)))
  (ck (!(!(decide (x0<(0:Int)))) || (((!(decide (x0<(0:Int))))&&(!(decide (x0<(0:Int)))))&&(bB x2 (x1).length))) (ck (!(!(decide (x0<(0:Int)))) || (!(decide (x0<(0:Int))))) (ck (!(!(decide (x0<(0:Int)))) || ((!(decide (x0<(0:Int))))&&(!(decide (x0<(0:Int)))))) (ck ((decide (x0<(0:Int))) || (!(decide (x0<(0:Int))))) (cond v2
  (some [(.i .i64 (-1))])
  (ck (bB x2 (x1).length) (cL.l1 (IntKind.i64.wrap (x0 - v1)) x1 v3)))))))
  (some [(.i .i64 x0)])=ρ):cL.l1 x0 x1 x2=ρ:=((bU _ _ _ _ _ _ _).trans (by kernel_rfl)).trans (K _ rfl _ rfl _ rfl)
theorem cL.eJ (left:Int) (iF:List Int):cL.F left iF=cL.l1 left iF (0:Int):=by kernel_rfl
end
noncomputable section
def bS.E (n:Nat):cC:=cT fQ zs [(19,(bS.cn n,bS.sg)),(34,(cL.c,cL.sg))]
def bS.h:Hint := .s .o (.s .o (.s (.s .o (.b (.l [(0,.no),(3,.ptr 50 0),(5,.no),(50,.cl [])] .o))) .o))
noncomputable def bS.F (n:Nat) (left:Int) (v:Val):Option (List TV):=cR Go.Proofs.Tryz.prog (bS.E n) 19 bS.sg bS.h [(.i .i64 left),(.ag (Val.cells v))]
noncomputable def bS.l1 (n:Nat) (x0:Int) (x1:Int) (x2:Val):Option (List TV):=dQ Go.Proofs.Tryz.prog (bS.E n) 19 bS.sg bS.h 43 [(.i .i64 x0),.pt,(.i .i64 x1),(.ag (Val.cells x2))]
theorem bS.bV (n:Nat) (x0:Int) (x1:Int) (x2:Val) {ρ:Option (List TV)} (K:∀(v1:Int) (h1:v1=(((Val.kids x2)).length:Int)) (v2:Bool) (h2:v2=(cond (decide (x1<v1)) (decide ((0:Int)≤x0)) false)) (v3:bJ) (h3:v3=(List.getD (Val.kids x2) (x1).toNat (fe.gk .fl))) (v4:Int) (h4:v4=(((bJ.name v3)).length:Int)) (v5:Int) (h5:v5=(eU.room x0 (([v4]:List Int)))) (v6:Int) (h6:v6=(eU.value v5 (bJ.of [] (bJ.val v3)))) (v7:Int) (h7:v7=(IntKind.i64.wrap (x1+(1:Int)))),ck (!(decide (x1<v1)) || (decide (x1<v1))) (ck (!(decide (x1<v1)) || (decide (x1<v1))) (cond v2
  (ck (bB x1 ((Val.kids x2)).length) (ck (decide (x0≤1200∧(([v4]:List Int)).length≤10)&&(([v4]:List Int)).all (fun s=>decide (0≤s))) (ck (bB x1 ((Val.kids x2)).length) (ck ((decide (v5≤1200))&&decide ((bJ.bO (bJ.of [] (bJ.val v3)))<n)) (bS.l1 n v6 v7 x2)))))
  (some [(.i .i64 x0)])))=ρ):bS.l1 n x0 x1 x2=ρ:=((bU _ _ _ _ _ _ _).trans (by kernel_rfl)).trans (K _ rfl _ rfl _ rfl _ rfl _ rfl _ rfl _ rfl)
theorem bS.bZ (n:Nat) (left:Int) (v:Val) {ρ:Option (List TV)} (K:∀(v1:Int) (h1:v1=(((Val.text v)).length:Int)) (v2:Int) (h2:v2=(((Val.more v)).length:Int)) (v3:Int) (h3:v3=(((Val.bytes v)).length:Int)) (v4:List Int) (h4:v4=([(2:Int),v1,v2,v3]:List Int)),ck (decide (left≤1200∧v4.length≤10)&&v4.all (fun s=>decide (0≤s))) (bS.l1 n (eU.room left v4) (0:Int) v)=ρ):bS.F n left v=ρ:=Eq.trans (by kernel_rfl) (K _ rfl _ rfl _ rfl _ rfl)
end
noncomputable section
def dI.E:cC:=cT fQ zs [(19,(bS.c,bS.sg))]
def dI.h:Hint := .o
noncomputable def dI.F (v:Val):Option (List TV):=cR Go.Proofs.Tryz.prog dI.E 8 dI.sg dI.h [(.ag (Val.cells v))]
theorem dI.bZ (v:Val) {ρ:Option (List TV)} (K:∀(v1:Int) (h1:v1=(eU.value ((1200:Int)) (bJ.of [] v))),ck (decide (((1200:Int))≤1200)) (some [(.b (decide ((0:Int)≤v1)))])=ρ):dI.F v=ρ:=Eq.trans (by kernel_rfl) (K _ rfl)
end
noncomputable section
end
noncomputable section
end
noncomputable section
end
noncomputable section
end
noncomputable section
def bN.E:cC:=cT fQ zs [(84,(iG.c,iG.sg))]
def bN.h:Hint := .s .o (.s (.s .o (.b (.l (sc [5,6,7]) .o))) .o)
noncomputable def bN.F (l:List bJ):Option (List TV):=cR Go.Proofs.Tryz.prog bN.E 52 bN.sg bN.h [(.sl .fl l)]
noncomputable def bN.l1 (x0:List bJ) (x1:Int) (x2:Int):Option (List TV):=dQ Go.Proofs.Tryz.prog bN.E 52 bN.sg bN.h 21 [(.sl .fl x0),(.i .i64 x1),(.i .i64 x2)]
theorem bN.bV (x0:List bJ) (x1:Int) (x2:Int) {ρ:Option (List TV)} (K:∀(v1:bJ) (h1:v1=(List.getD x0 (x2).toNat (fe.gk .fl))) (v2:Int) (h2:v2=(IntKind.i64.wrap (x2+(1:Int)))),cond (decide (x2<x1))
  (ck (bB x2 (x0).length) (ck (Nr.i64 x2) (cond (!decide ((bJ.name v1)=(Nr.itoa x2)))
  (some [(.b false)])
  (bN.l1 x0 x1 v2))))
  (some [(.b true)])=ρ):bN.l1 x0 x1 x2=ρ:=((bU _ _ _ _ _ _ _).trans (by kernel_rfl)).trans (K _ rfl _ rfl)
theorem bN.eJ (l:List bJ):bN.F l=bN.l1 l ((l).length:Int) (0:Int):=by kernel_rfl
end
noncomputable section
end
noncomputable section
def bX.E:cC:=cT fQ zs []
def bX.h:Hint := .s .o (.j (sc [0,2]) .o .o)
noncomputable def bX.F (x:UInt16):Option (List TV):=cR Go.Proofs.Tryz.prog bX.E 168 bX.sg bX.h [(.u16 x)]
noncomputable def bX.j1 (x0:UInt16) (x1:Int):Option (List TV):=eD Go.Proofs.Tryz.prog bX.E 168 bX.sg bX.h 3 [(.u16 x0),(.i .i64 x1)]
theorem bX.iI (x0:UInt16) (x1:Int) {ρ:Option (List TV)} (K:∀(v1:UInt8) (h1:v1=(UInt8.ofInt ((x0).toNat:Int))) (v2:UInt8) (h2:v2=(List.getD ([0,1,2,2,3,3,3,3,4,4,4,4,4,4,4,4,5,5,5,5,5,5,5,5,5,5,5,5,5,5,5,5,6,6,6,6,6,6,6,6,6,6,6,6,6,6,6,6,6,6,6,6,6,6,6,6,6,6,6,6,6,6,6,6,7,7,7,7,7,7,7,7,7,7,7,7,7,7,7,7,7,7,7,7,7,7,7,7,7,7,7,7,7,7,7,7,7,7,7,7,7,7,7,7,7,7,7,7,7,7,7,7,7,7,7,7,7,7,7,7,7,7,7,7,7,7,7,7,8,8,8,8,8,8,8,8,8,8,8,8,8,8,8,8,8,8,8,8,8,8,8,8,8,8,8,8,8,8,8,8,8,8,8,8,8,8,8,8,8,8,8,8,8,8,8,8,8,8,8,8,8,8,8,8,8,8,8,8,8,8,8,8,8,8,8,8,8,8,8,8,8,8,8,8,8,8,8,8,8,8,8,8,8,8,8,8,8,8,8,8,8,8,8,8,8,8,8,8,8,8,8,8,8,8,8,8,8,8,8,8,8,8,8,8,8,8,8,8,8,8,8,8,8,8,8,8]:bz) (((v1).toNat:Int)).toNat (0:UInt8))) (v3:Int) (h3:v3=(IntKind.i64.wrap ((v2).toNat:Int))),ck (bB ((v1).toNat:Int) (([0,1,2,2,3,3,3,3,4,4,4,4,4,4,4,4,5,5,5,5,5,5,5,5,5,5,5,5,5,5,5,5,6,6,6,6,6,6,6,6,6,6,6,6,6,6,6,6,6,6,6,6,6,6,6,6,6,6,6,6,6,6,6,6,7,7,7,7,7,7,7,7,7,7,7,7,7,7,7,7,7,7,7,7,7,7,7,7,7,7,7,7,7,7,7,7,7,7,7,7,7,7,7,7,7,7,7,7,7,7,7,7,7,7,7,7,7,7,7,7,7,7,7,7,7,7,7,7,8,8,8,8,8,8,8,8,8,8,8,8,8,8,8,8,8,8,8,8,8,8,8,8,8,8,8,8,8,8,8,8,8,8,8,8,8,8,8,8,8,8,8,8,8,8,8,8,8,8,8,8,8,8,8,8,8,8,8,8,8,8,8,8,8,8,8,8,8,8,8,8,8,8,8,8,8,8,8,8,8,8,8,8,8,8,8,8,8,8,8,8,8,8,8,8,8,8,8,8,8,8,8,8,8,8,8,8,8,8,8,8,8,8,8,8,8,8,8,8,8,8,8,8,8,8,8,8]:bz)).length) (some [(.i .i64 (IntKind.i64.wrap (x1+v3)))])=ρ):bX.j1 x0 x1=ρ:=((b9 _ _ _ _ _ _ _).trans (by kernel_rfl)).trans (K _ rfl _ rfl _ rfl)
theorem bX.bZ (x:UInt16) {ρ:Option (List TV)} (K:∀(v1:UInt16) (h1:v1=(oH x (((8:UInt64)).toNat))),cond (decide ((256:UInt16)≤x))
  (bX.j1 v1 (8:Int))
  (bX.j1 x (0:Int))=ρ):bX.F x=ρ:=Eq.trans (by kernel_rfl) (K _ rfl)
end
noncomputable section
def bits_Len64.E:cC:=cT fQ zs []
def bits_Len64.h:Hint := .s .o (.j (sc [0,2]) .o (.j (sc [0,2]) .o (.j (sc [0,2]) .o .o)))
noncomputable def bits_Len64.F (x:UInt64):Option (List TV):=cR Go.Proofs.Tryz.prog bits_Len64.E 191 bits_Len64.sg bits_Len64.h [(.u64 x)]
noncomputable def bits_Len64.j1 (x0:UInt64) (x1:Int):Option (List TV):=eD Go.Proofs.Tryz.prog bits_Len64.E 191 bits_Len64.sg bits_Len64.h 3 [(.u64 x0),(.i .i64 x1)]
noncomputable def bits_Len64.j2 (x0:UInt64) (x1:Int):Option (List TV):=eD Go.Proofs.Tryz.prog bits_Len64.E 191 bits_Len64.sg bits_Len64.h 7 [(.u64 x0),(.i .i64 x1)]
noncomputable def bits_Len64.j3 (x0:UInt64) (x1:Int):Option (List TV):=eD Go.Proofs.Tryz.prog bits_Len64.E 191 bits_Len64.sg bits_Len64.h 15 [(.u64 x0),(.i .i64 x1)]
theorem bits_Len64.iI (x0:UInt64) (x1:Int) {ρ:Option (List TV)} (K:∀(v1:UInt64) (h1:v1=(dD x0 (((16:UInt64)).toNat))) (v2:Int) (h2:v2=(IntKind.i64.wrap (x1+(16:Int)))),cond (decide ((65536:UInt64)≤x0))
  (bits_Len64.j2 v1 v2)
  (bits_Len64.j2 x0 x1)=ρ):bits_Len64.j1 x0 x1=ρ:=((b9 _ _ _ _ _ _ _).trans (by kernel_rfl)).trans (K _ rfl _ rfl)
theorem bits_Len64.jg (x0:UInt64) (x1:Int) {ρ:Option (List TV)} (K:∀(v1:UInt64) (h1:v1=(dD x0 (((8:UInt64)).toNat))) (v2:Int) (h2:v2=(IntKind.i64.wrap (x1+(8:Int)))),cond (decide ((256:UInt64)≤x0))
  (bits_Len64.j3 v1 v2)
  (bits_Len64.j3 x0 x1)=ρ):bits_Len64.j2 x0 x1=ρ:=((b9 _ _ _ _ _ _ _).trans (by kernel_rfl)).trans (K _ rfl _ rfl)
theorem bits_Len64.oY (x0:UInt64) (x1:Int) {ρ:Option (List TV)} (K:∀(v1:UInt8) (h1:v1=(UInt8.ofInt ((x0).toNat:Int))) (v2:UInt8) (h2:v2=(List.getD ([0,1,2,2,3,3,3,3,4,4,4,4,4,4,4,4,5,5,5,5,5,5,5,5,5,5,5,5,5,5,5,5,6,6,6,6,6,6,6,6,6,6,6,6,6,6,6,6,6,6,6,6,6,6,6,6,6,6,6,6,6,6,6,6,7,7,7,7,7,7,7,7,7,7,7,7,7,7,7,7,7,7,7,7,7,7,7,7,7,7,7,7,7,7,7,7,7,7,7,7,7,7,7,7,7,7,7,7,7,7,7,7,7,7,7,7,7,7,7,7,7,7,7,7,7,7,7,7,8,8,8,8,8,8,8,8,8,8,8,8,8,8,8,8,8,8,8,8,8,8,8,8,8,8,8,8,8,8,8,8,8,8,8,8,8,8,8,8,8,8,8,8,8,8,8,8,8,8,8,8,8,8,8,8,8,8,8,8,8,8,8,8,8,8,8,8,8,8,8,8,8,8,8,8,8,8,8,8,8,8,8,8,8,8,8,8,8,8,8,8,8,8,8,8,8,8,8,8,8,8,8,8,8,8,8,8,8,8,8,8,8,8,8,8,8,8,8,8,8,8,8,8,8,8,8,8]:bz) (((v1).toNat:Int)).toNat (0:UInt8))) (v3:Int) (h3:v3=(IntKind.i64.wrap ((v2).toNat:Int))),ck (bB ((v1).toNat:Int) (([0,1,2,2,3,3,3,3,4,4,4,4,4,4,4,4,5,5,5,5,5,5,5,5,5,5,5,5,5,5,5,5,6,6,6,6,6,6,6,6,6,6,6,6,6,6,6,6,6,6,6,6,6,6,6,6,6,6,6,6,6,6,6,6,7,7,7,7,7,7,7,7,7,7,7,7,7,7,7,7,7,7,7,7,7,7,7,7,7,7,7,7,7,7,7,7,7,7,7,7,7,7,7,7,7,7,7,7,7,7,7,7,7,7,7,7,7,7,7,7,7,7,7,7,7,7,7,7,8,8,8,8,8,8,8,8,8,8,8,8,8,8,8,8,8,8,8,8,8,8,8,8,8,8,8,8,8,8,8,8,8,8,8,8,8,8,8,8,8,8,8,8,8,8,8,8,8,8,8,8,8,8,8,8,8,8,8,8,8,8,8,8,8,8,8,8,8,8,8,8,8,8,8,8,8,8,8,8,8,8,8,8,8,8,8,8,8,8,8,8,8,8,8,8,8,8,8,8,8,8,8,8,8,8,8,8,8,8,8,8,8,8,8,8,8,8,8,8,8,8,8,8,8,8,8,8]:bz)).length) (some [(.i .i64 (IntKind.i64.wrap (x1+v3)))])=ρ):bits_Len64.j3 x0 x1=ρ:=((b9 _ _ _ _ _ _ _).trans (by kernel_rfl)).trans (K _ rfl _ rfl _ rfl)
theorem bits_Len64.bZ (x:UInt64) {ρ:Option (List TV)} (K:∀(v1:UInt64) (h1:v1=(dD x (((32:UInt64)).toNat))),cond (decide ((4294967296:UInt64)≤x))
  (bits_Len64.j1 v1 (32:Int))
  (bits_Len64.j1 x (0:Int))=ρ):bits_Len64.F x=ρ:=Eq.trans (by kernel_rfl) (K _ rfl)
end
noncomputable section
end
noncomputable section
end
noncomputable section
end
noncomputable section
end
noncomputable section
def eI.E:cC:=cT fQ zs []
def eI.h:Hint := .o
noncomputable def eI.F (a:List UInt16):Option (List TV):=cR Go.Proofs.Tryz.prog eI.E 198 eI.sg eI.h [(.sl .ws a)]
theorem eI.eJ (a:List UInt16):eI.F a=cond (List.isEmpty a)
  (both (some [(.sl .ws ([]:List UInt16))]) (ck (fC ((([]:List UInt16)).length+(a).length) 2) (some [(.sl .ws (([]:List UInt16)++a))])))
  (ck (fC ((([]:List UInt16)).length+(a).length) 2) (some [(.sl .ws (([]:List UInt16)++a))])):=by kernel_rfl
end
noncomputable section
def dt.E:cC:=cT fQ zs []
def dt.h:Hint := .o
noncomputable def dt.F (x:Nat):Option (List TV):=cR Go.Proofs.Tryz.prog dt.E 253 dt.sg dt.h [(.c (.float .f64 x))]
theorem dt.eJ (x:Nat):dt.F x=cond true
  (ck (Fl.num x) (some [(.c (.float .f64 (Fl.jW x)))]))
  (none):=by kernel_rfl
end
noncomputable section
end
noncomputable section
def fu.E:cC:=cT fQ zs [(249,(gT.c,gT.sg))]
def fu.h:Hint := .o
noncomputable def fu.F (z:Cx):Option (List TV):=cR Go.Proofs.Tryz.prog fu.E 246 fu.sg fu.h [(.c (.complex .f64 z.1 z.2))]
theorem fu.eJ (z:Cx):fu.F z=ck (Gz.I7 z ((4719772409484279808:Nat))) (some [(.b (true))]):=by kernel_rfl
end
noncomputable section
def jh.E:cC:=cT fQ zs []
def jh.h:Hint := .o
noncomputable def jh.F (x:Int) (y:Int):Option (List TV):=cR Go.Proofs.Tryz.prog jh.E 244 jh.sg jh.h [(.i .i64 x),(.i .i64 y)]
theorem jh.bZ (x:Int) (y:Int) {ρ:Option (List TV)} (K:∀(v1:Bool) (h1:v1=(cond (decide (x<(-33554432:Int))) true (decide ((33554432:Int)<x)))) (v2:Bool) (h2:v2=(cond v1 true (decide (y<(-33554432:Int))))) (v3:Bool) (h3:v3=(cond v2 true (decide ((33554432:Int)<y)))) (v4:Cx) (h4:v4=(((Fl.ofInt x),(Fl.ofInt y)):Cx)),ck (!(!(decide (x<(-33554432:Int)))) || (!(decide (x<(-33554432:Int))))) (ck ((decide (x<(-33554432:Int))) || (!(decide (x<(-33554432:Int))))) (ck (!(!v1) || (!v1)) (ck (v1 || (!v1)) (ck (!(!v2) || (!v2)) (ck (v2 || (!v2)) (cond v3
  (some [(.c (.complex .f64 ((0,0):Cx).1 ((0,0):Cx).2))])
  (some [(.c (.complex .f64 v4.1 v4.2))])))))))=ρ):jh.F x y=ρ:=Eq.trans (by kernel_rfl) (K _ rfl _ rfl _ rfl _ rfl)
end
noncomputable section
def eG.E:cC:=cT fQ zs [(249,(gT.c,gT.sg))]
def eG.h:Hint := .o
noncomputable def eG.F (z:Cx):Option (List TV):=cR Go.Proofs.Tryz.prog eG.E 239 eG.sg eG.h [(.c (.complex .f64 z.1 z.2))]
theorem eG.eJ (z:Cx):eG.F z=ck (Gz.I7 z ((4841369599423283200:Nat))) (cond (!(true))
  (some [(.i .i64 0),(.i .i64 0),(.b false)])
  (ck (Fl.mg z.1) (ck (Fl.mg z.2) (some [(.i .i64 (Fl.toInt z.1)),(.i .i64 (Fl.toInt z.2)),(.b true)])))):=by kernel_rfl
end
noncomputable section
def gj.E:cC:=cT fQ zs [(249,(gT.c,gT.sg))]
def gj.h:Hint := .o
noncomputable def gj.F (z:Cx) (k:Int):Option (List TV):=cR Go.Proofs.Tryz.prog gj.E 254 gj.sg gj.h [(.c (.complex .f64 z.1 z.2)),(.i .i64 k)]
theorem gj.bZ (z:Cx) (k:Int) {ρ:Option (List TV)} (K:∀(v1:Cx) (h1:v1=((4607182418800017408,0):Cx)) (v2:Cx) (h2:v2=((0,4607182418800017408):Cx)) (v3:Cx) (h3:v3=((13830554455654793216,0):Cx)) (v4:Cx) (h4:v4=((0,13830554455654793216):Cx)) (v5:Int) (h5:v5=(cI .and .i64 k (3:Int))) (v6:Cx) (h6:v6=(List.getD ([v1,v2,v3,v4]:List Cx) ((v5).toNat) (0,0))) (v7:Cx) (h7:v7=((Fl.qz z.1 z.2 v6.1 v6.2,Fl.qA z.1 z.2 v6.1 v6.2):Cx)),ck (Gz.I7 z ((4841369599423283200:Nat))) (cond (!(true))
  (some [(.c (.complex .f64 ((0,0):Cx).1 ((0,0):Cx).2))])
  (ck (bB v5 4) (ck (decide ((v5).toNat<4)) (ck (Fl.nD z.1 z.2 v6.1 v6.2) (some [(.c (.complex .f64 v7.1 v7.2))])))))=ρ):gj.F z k=ρ:=Eq.trans (by kernel_rfl) (K _ rfl _ rfl _ rfl _ rfl _ rfl _ rfl _ rfl)
end
noncomputable section
def fv.E:cC:=cT fQ zs [(246,(fu.c,fu.sg))]
def fv.h:Hint := .o
noncomputable def fv.F (z:Cx) (w:Cx):Option (List TV):=cR Go.Proofs.Tryz.prog fv.E 237 fv.sg fv.h [(.c (.complex .f64 z.1 z.2)),(.c (.complex .f64 w.1 w.2))]
theorem fv.bZ (z:Cx) (w:Cx) {ρ:Option (List TV)} (K:∀(v1:Bool) (h1:v1=(cond (!(true)) true (!(true)))) (v2:Cx) (h2:v2=((Fl.qz z.1 z.2 w.1 w.2,Fl.qA z.1 z.2 w.1 w.2):Cx)),ck (Gz.tK z 33554432) (ck (!(!(!(true))) || ((!(!(true)))&&(Gz.tK w 33554432))) (ck (!(!(!(true))) || (!(!(true)))) (ck ((!(true)) || (!(!(true)))) (cond v1
  (some [(.c (.complex .f64 ((0,0):Cx).1 ((0,0):Cx).2))])
  (ck (Fl.nD z.1 z.2 w.1 w.2) (some [(.c (.complex .f64 v2.1 v2.2))]))))))=ρ):fv.F z w=ρ:=Eq.trans (by kernel_rfl) (K _ rfl _ rfl)
end
noncomputable section
def gf.E:cC:=cT fQ zs [(253,(dt.c,dt.sg))]
def gf.h:Hint := .o
noncomputable def gf.F (x:Nat):Option (List TV):=cR Go.Proofs.Tryz.prog gf.E 252 gf.sg gf.h [(.c (.float .f64 x))]
theorem gf.bZ (x:Nat) {ρ:Option (List TV)} (K:∀(v1:Bool) (h1:v1=(Fl.gt x (14055734437023318016:Nat) || Fl.eq x (14055734437023318016:Nat))) (v2:Bool) (h2:v2=(Fl.lt x (4832362400168542208:Nat) || Fl.eq x (4832362400168542208:Nat))) (v3:Bool) (h3:v3=(cond (cond v1 v2 false) (Fl.eq x (Fl.jW x)) false)),ck (!v1 || v1) (ck (!v1 || v1) (ck (!(cond v1 v2 false) || ((cond v1 v2 false)&&(Fl.num x))) (ck (!(cond v1 v2 false) || ((cond v1 v2 false)&&(cond v1 v2 false))) (ck (!(cond v1 v2 false) || (cond v1 v2 false)) (some [(.b v3)])))))=ρ):gf.F x=ρ:=Eq.trans (by kernel_rfl) (K _ rfl _ rfl _ rfl)
end
noncomputable section
def wv_fit.E:cC:=cT fQ zs [(252,(gf.c,gf.sg))]
def wv_fit.h:Hint := .s .o (.s .o (.s (.s .o (.b (.l (sc [3,6,7]) .o))) .o))
noncomputable def wv_fit.F (l:Qd):Option (List TV):=cR Go.Proofs.Tryz.prog wv_fit.E 247 wv_fit.sg wv_fit.h [(.ag (Qd.cells l))]
noncomputable def wv_fit.l1 (x0:Qd) (x1:Int):Option (List TV):=dQ Go.Proofs.Tryz.prog wv_fit.E 247 wv_fit.sg wv_fit.h 43 [(.c (.func (.func 252) #[] #[])),(.ag (Qd.cells x0)),(.i .i64 x1)]
theorem wv_fit.bV (x0:Qd) (x1:Int) {ρ:Option (List TV)} (K:∀(v1:Bool) (h1:v1=(cond (!(true)) true (!(true)))) (v2:Int) (h2:v2=(IntKind.i64.wrap (x1+(1:Int)))),cond (decide (x1<(4:Int)))
  (ck (bB x1 4) (ck (Gz.HD ((Qd.get x0 ((x1).toNat)).1)) (ck (!(!(!(true))) || (!(!(true)))) (ck (!(!(!(true))) || (((!(!(true)))&&(!(!(true))))&&(Gz.HD ((Qd.get x0 ((x1).toNat)).2)))) (ck (!(!(!(true))) || (!(!(true)))) (ck ((!(true)) || (!(!(true)))) (cond v1
  (some [(.b false)])
  (wv_fit.l1 x0 v2))))))))
  (some [(.b true)])=ρ):wv_fit.l1 x0 x1=ρ:=((bU _ _ _ _ _ _ _).trans (by kernel_rfl)).trans (K _ rfl _ rfl)
theorem wv_fit.eJ (l:Qd):wv_fit.F l=wv_fit.l1 l (0:Int):=by kernel_rfl
end
noncomputable section
def cF.E:cC:=cT fQ zs [(254,(gj.c,gj.sg))]
def cF.h:Hint := .s .o (.s .o (.s (.s .o (.b (.l [(1,.no),(2,.ptr 34 0),(4,.ptr 36 0),(5,.ptr 37 0),(9,.no),(34,.cl []),(36,.cl []),(37,.cl [])] (.s .o (.s .o (.s (.b (.s .o (.s .o (.b (.l [(1,.no),(2,.ptr 34 0),(4,.ptr 36 0),(5,.ptr 37 0),(6,.no),(9,.no),(12,.no),(13,.no),(34,.cl []),(36,.cl []),(37,.cl [])] .o))))) .o)))))) .o))
noncomputable def cF.F (l:Qd) (w:Int):Option (List TV):=cR Go.Proofs.Tryz.prog cF.E 248 cF.sg cF.h [(.ag (Qd.cells l)),(.i .i64 w)]
noncomputable def cF.l1 (x0:Int) (x1:Int) (x2:Qd) (x3:Qd) (x4:Qd):Option (List TV):=dQ Go.Proofs.Tryz.prog cF.E 248 cF.sg cF.h 43 [(.i .i64 x0),.pt,.pt,.pt,(.i .i64 x1),(.ag (Qd.cells x2)),(.ag (Qd.cells x3)),(.ag (Qd.cells x4))]
noncomputable def cF.l2 (x0:Int) (x1:Int) (x2:Int) (x3:Qd) (x4:Int) (x5:Qd) (x6:Qd) (x7:Qd):Option (List TV):=dQ Go.Proofs.Tryz.prog cF.E 248 cF.sg cF.h 11467 [(.i .i64 x0),.pt,.pt,.pt,(.i .i64 x1),(.i .i64 x2),(.ag (Qd.cells x3)),(.i .i64 x4),(.ag (Qd.cells x5)),(.ag (Qd.cells x6)),(.ag (Qd.cells x7))]
theorem cF.Hw (x0:Int) (x1:Int) (x2:Qd) (x3:Qd) (x4:Qd):cF.l1 x0 x1 x2 x3 x4=cond (decide (x1<(4:Int)))
  (cF.l2 x0 x1 x1 x2 (0:Int) x2 x3 x4)
  (some [(.ag (Qd.cells x4))]):=((bU _ _ _ _ _ _ _).trans (by kernel_rfl))
theorem cF.iw (x0:Int) (x1:Int) (x2:Int) (x3:Qd) (x4:Int) (x5:Qd) (x6:Qd) (x7:Qd) {ρ:Option (List TV)} (K:∀(v1:Int) (h1:v1=(IntKind.i64.wrap ((IntKind.i64.wrap (x4 * x1)) * x0))) (v2:Cx) (h2:v2=(Gz.nU ((Qd.get x3 ((x4).toNat))) v1)) (v3:Cx) (h3:v3=((Fl.add (Qd.get x7 ((x1).toNat)).1 v2.1,Fl.add (Qd.get x7 ((x1).toNat)).2 v2.2):Cx)) (v4:Int) (h4:v4=(IntKind.i64.wrap (x4+(1:Int)))) (v5:Int) (h5:v5=(IntKind.i64.wrap (x2+(1:Int)))),cond (decide (x4<(4:Int)))
  (ck (bB x4 4) (ck (bB x1 4) (ck (decide ((x1).toNat<4)) (ck (Gz.tK ((Qd.get x3 ((x4).toNat))) 1125899906842624&&decide (-100≤v1∧v1≤100)) (ck (Fl.kn (Qd.get x7 ((x1).toNat)).1 v2.1&&Fl.kn (Qd.get x7 ((x1).toNat)).2 v2.2) (ck (bB x1 4) (ck (decide ((x1).toNat<4)) (cF.l2 x0 x1 x2 x3 v4 x5 x6 (Qd.set x7 ((x1).toNat) v3)))))))))
  (cF.l1 x0 v5 x5 x6 x7)=ρ):cF.l2 x0 x1 x2 x3 x4 x5 x6 x7=ρ:=((bU _ _ _ _ _ _ _).trans (by kernel_rfl)).trans (K _ rfl _ rfl _ rfl _ rfl _ rfl)
theorem cF.eJ (l:Qd) (w:Int):cF.F l w=cF.l1 w (0:Int) l (Qd.mk ((0,0):Cx) ((0,0):Cx) ((0,0):Cx) ((0,0):Cx)) (Qd.mk ((0,0):Cx) ((0,0):Cx) ((0,0):Cx) ((0,0):Cx)):=by kernel_rfl
end
noncomputable section
def gg.E:cC:=cT fQ zs [(247,(wv_fit.c,wv_fit.sg)),(248,(cF.c,cF.sg))]
def gg.h:Hint := .o
noncomputable def gg.F (l:Qd):Option (List TV):=cR Go.Proofs.Tryz.prog gg.E 245 gg.sg gg.h [(.ag (Qd.cells l))]
theorem gg.eJ (l:Qd):gg.F l=ck (Gz.wg l 1125899906842624) (cond (!(true))
  (some [(.ag [(.c (.complex .f64 ((0,0):Cx).1 ((0,0):Cx).2)),(.c (.complex .f64 ((0,0):Cx).1 ((0,0):Cx).2)),(.c (.complex .f64 ((0,0):Cx).1 ((0,0):Cx).2)),(.c (.complex .f64 ((0,0):Cx).1 ((0,0):Cx).2))])])
  (ck (Gz.wg l 1125899906842624&&decide (((1:Int))=1∨((1:Int))=-1)) (some [(.ag (Qd.cells (Gz.mh l ((1:Int)))))]))):=by kernel_rfl
end
noncomputable section
def dN.E:cC:=cT fQ zs [(239,(eG.c,eG.sg)),(247,(wv_fit.c,wv_fit.sg)),(248,(cF.c,cF.sg))]
def dN.h:Hint := .s .o (.s .o (.s .o (.s (.s .o (.b (.l [(2,.ptr 53 0),(4,.ptr 55 0),(16,.no),(17,.no),(53,.cl []),(55,.cl [])] .o))) .o)))
noncomputable def dN.F (l:Qd):Option (List TV):=cR Go.Proofs.Tryz.prog dN.E 238 dN.sg dN.h [(.ag (Qd.cells l))]
noncomputable def dN.l1 (x0:Qd) (x1:Int) (x2:Qd) (x3:Qd):Option (List TV):=dQ Go.Proofs.Tryz.prog dN.E 238 dN.sg dN.h 87 [.pt,.pt,(.ag (Qd.cells x0)),(.i .i64 x1),(.ag (Qd.cells x2)),(.ag (Qd.cells x3))]
theorem dN.bV (x0:Qd) (x1:Int) (x2:Qd) (x3:Qd) {ρ:Option (List TV)} (K:∀(v1:Int) (h1:v1=(Fl.toInt (((Qd.get x0 ((x1).toNat)))).1)) (v2:Int) (h2:v2=(Fl.toInt (((Qd.get x0 ((x1).toNat)))).2)) (v3:Bool) (h3:v3=(cond (!(true)) true (!decide ((Int.tmod v1 (4:Int))=(0:Int))))) (v4:Bool) (h4:v4=(cond v3 true (!decide ((Int.tmod v2 (4:Int))=(0:Int))))) (v5:Int) (h5:v5=(IntKind.i64.wrap (Int.tdiv v1 (4:Int)))) (v6:Int) (h6:v6=(IntKind.i64.wrap (Int.tdiv v2 (4:Int)))) (v7:Cx) (h7:v7=(((Fl.ofInt v5),(Fl.ofInt v6)):Cx)) (v8:Int) (h8:v8=(IntKind.i64.wrap (x1+(1:Int)))),cond (decide (x1<(4:Int)))
  (ck (bB x1 4) (ck (Gz.tK ((Qd.get x0 ((x1).toNat))) 4503599627370496) (ck (!(!(!(true))) || ((!(!(true)))&&(!decide ((4:Int)=0)))) (ck (!(!(!(true))) || (!(!(true)))) (ck ((!(true)) || (!(!(true)))) (ck (!(!v3) || ((!v3)&&(!decide ((4:Int)=0)))) (ck (!(!v3) || (!v3)) (ck (v3 || (!v3)) (cond v4
  (some [(.ag [(.c (.complex .f64 ((0,0):Cx).1 ((0,0):Cx).2)),(.c (.complex .f64 ((0,0):Cx).1 ((0,0):Cx).2)),(.c (.complex .f64 ((0,0):Cx).1 ((0,0):Cx).2)),(.c (.complex .f64 ((0,0):Cx).1 ((0,0):Cx).2))]),(.b false)])
  (ck (!decide ((4:Int)=0)) (ck (!decide ((4:Int)=0)) (ck (bB x1 4) (ck (decide ((x1).toNat<4)) (dN.l1 x0 v8 x2 (Qd.set x3 ((x1).toNat) v7)))))))))))))))
  (some [(.ag (Qd.cells x3)),(.b true)])=ρ):dN.l1 x0 x1 x2 x3=ρ:=((bU _ _ _ _ _ _ _).trans (by kernel_rfl)).trans (K _ rfl _ rfl _ rfl _ rfl _ rfl _ rfl _ rfl _ rfl)
theorem dN.eJ (l:Qd):dN.F l=ck (Gz.wg l 1125899906842624) (cond (!(true))
  (some [(.ag [(.c (.complex .f64 ((0,0):Cx).1 ((0,0):Cx).2)),(.c (.complex .f64 ((0,0):Cx).1 ((0,0):Cx).2)),(.c (.complex .f64 ((0,0):Cx).1 ((0,0):Cx).2)),(.c (.complex .f64 ((0,0):Cx).1 ((0,0):Cx).2))]),(.b false)])
  (ck (Gz.wg l 1125899906842624&&decide (((-1:Int))=1∨((-1:Int))=-1)) (dN.l1 (Gz.mh l ((-1:Int))) (0:Int) (Qd.mk ((0,0):Cx) ((0,0):Cx) ((0,0):Cx) ((0,0):Cx)) (Gz.mh l ((-1:Int)))))):=by kernel_rfl
end
noncomputable section
def cJ.E:cC:=cT fQ zs []
def cJ.h:Hint := .s .o (.s (.s .o (.b (.l (sc [0,5,6,7]) .o))) .o)
noncomputable def cJ.F (l:List Int):Option (List TV):=cR Go.Proofs.Tryz.prog cJ.E 235 cJ.sg cJ.h [(.sl .is l)]
noncomputable def cJ.l1 (x0:List Int) (x1:List Int) (x2:Int) (x3:Int):Option (List TV):=dQ Go.Proofs.Tryz.prog cJ.E 235 cJ.sg cJ.h 21 [(.sl .is x0),(.sl .is x1),(.i .i64 x2),(.i .i64 x3)]
theorem cJ.bV (x0:List Int) (x1:List Int) (x2:Int) (x3:Int) {ρ:Option (List TV)} (K:∀(v1:Int) (h1:v1=(List.getD x1 (x3).toNat (0:Int))) (v2:Bool) (h2:v2=(cond (decide (v1<(0:Int))) true (decide ((65535:Int)<v1)))) (v3:Int) (h3:v3=(IntKind.i64.wrap (x3+(1:Int)))),cond (decide (x3<x2))
  (ck (bB x3 (x1).length) (ck (!(!(decide (v1<(0:Int)))) || (!(decide (v1<(0:Int))))) (ck ((decide (v1<(0:Int))) || (!(decide (v1<(0:Int))))) (cond v2
  (some [(.b false)])
  (cJ.l1 x0 x1 x2 v3)))))
  (some [(.b (decide (((x0).length:Int)≤(256:Int))))])=ρ):cJ.l1 x0 x1 x2 x3=ρ:=((bU _ _ _ _ _ _ _).trans (by kernel_rfl)).trans (K _ rfl _ rfl _ rfl)
theorem cJ.eJ (l:List Int):cJ.F l=cJ.l1 l l ((l).length:Int) (0:Int):=by kernel_rfl
end
noncomputable section
def cw.E:cC:=cT fQ zs [(244,(jh.c,jh.sg)),(245,(gg.c,gg.sg))]
def cw.h:Hint := .s .o (.s .o (.s (.s .o (.b (.l [(0,.no),(3,.fA 800000),(800000,.pv),(4,.no)] (.s .o (.s (.b (.s .o (.j [(0,.no),(3,.fA 800000),(800000,.pv),(4,.no),(5,.ptr 41 0),(41,.cl [])] .o .o))) .o))))) .o))
noncomputable def cw.F (l:List Int):Option (List TV):=cR Go.Proofs.Tryz.prog cw.E 236 cw.sg cw.h [(.sl .is l)]
noncomputable def cw.l1 (x0:List Int) (x1:List Qd) (x2:Int):Option (List TV):=dQ Go.Proofs.Tryz.prog cw.E 236 cw.sg cw.h 43 [(.sl .is x0),.pt,(.sl .qd x1),(.i .i64 x2)]
noncomputable def cw.j2 (x0:List Int) (x1:List Qd) (x2:Int) (x3:Qd):Option (List TV):=eD Go.Proofs.Tryz.prog cw.E 236 cw.sg cw.h 1611 [(.sl .is x0),.pt,(.sl .qd x1),(.i .i64 x2),.pt,(.ag (Qd.cells x3))]
theorem cw.bV (x0:List Int) (x1:List Qd) (x2:Int) {ρ:Option (List TV)} (K:∀(v1:Int) (h1:v1=(List.getD x0 (x2).toNat (0:Int))) (v2:Cx) (h2:v2=(((Fl.ofInt v1,Fl.ofInt ((0:Int))):Cx))) (v3:Int) (h3:v3=(IntKind.i64.wrap (x2+(1:Int)))) (v4:Int) (h4:v4=(List.getD x0 (v3).toNat (0:Int))) (v5:Cx) (h5:v5=(((Fl.ofInt v4,Fl.ofInt ((0:Int))):Cx))) (v6:Qd) (h6:v6=(Qd.set (Qd.mk v2 ((0,0):Cx) ((0,0):Cx) ((0,0):Cx)) (((1:Int)).toNat) v5)),cond (decide (x2<((x0).length:Int)))
  (ck (bB x2 (x0).length) (ck (decide (-33554432≤v1∧v1≤33554432∧-33554432≤((0:Int))∧((0:Int))≤33554432)) (cond (decide (v3<((x0).length:Int)))
  (ck (bB v3 (x0).length) (ck (decide (-33554432≤v4∧v4≤33554432∧-33554432≤((0:Int))∧((0:Int))≤33554432)) (ck (bB (1:Int) 4) (ck (decide (((1:Int)).toNat<4)) (cw.j2 x0 x1 x2 v6)))))
  (cw.j2 x0 x1 x2 (Qd.mk v2 ((0,0):Cx) ((0,0):Cx) ((0,0):Cx))))))
  (some [(.sl .qd x1)])=ρ):cw.l1 x0 x1 x2=ρ:=((bU _ _ _ _ _ _ _).trans (by kernel_rfl)).trans (K _ rfl _ rfl _ rfl _ rfl _ rfl _ rfl)
theorem cw.jg (x0:List Int) (x1:List Qd) (x2:Int) (x3:Qd) {ρ:Option (List TV)} (K:∀(v1:List Qd) (h1:v1=(x1++([(Gz.mh x3 1)]:List Qd))) (v2:Int) (h2:v2=(IntKind.i64.wrap (x2+(2:Int)))),ck (Gz.wg x3 1125899906842624) (ck (fC ((x1).length+(([(Gz.mh x3 1)]:List Qd)).length) 64) (cw.l1 x0 v1 v2))=ρ):cw.j2 x0 x1 x2 x3=ρ:=((b9 _ _ _ _ _ _ _).trans (by kernel_rfl)).trans (K _ rfl _ rfl)
theorem cw.eJ (l:List Int):cw.F l=cw.l1 l ([]:List Qd) (0:Int):=by kernel_rfl
end
noncomputable section
def bL.E:cC:=cT fQ zs [(235,(cJ.c,cJ.sg)),(236,(cw.c,cw.sg)),(237,(fv.c,fv.sg)),(238,(dN.c,dN.sg)),(239,(eG.c,eG.sg))]
def bL.h:Hint := .s .o (.s .o (.s .o (.s .o (.s .o (.s (.s .o (.b (.l [(0,.no),(1,.no),(6,.fA 800000),(8,.no),(48,.no),(49,.no),(50,.no),(800000,.pv)] (.s .o (.s .o (.s (.b (.s .o (.s .o (.b (.l [(0,.no),(1,.no),(6,.fA 800000),(8,.no),(9,.no),(10,.ptr 126 0),(48,.no),(49,.no),(50,.no),(55,.no),(56,.no),(57,.no),(126,.cl []),(800000,.pv)] (.s .o (.s .o (.s (.b (.s .o (.s .o (.s (.s .o (.b (.l [(0,.no),(1,.no),(6,.fA 800000),(8,.no),(9,.no),(10,.ptr 126 0),(11,.no),(12,.ptr 128 0),(13,.ptr 129 0),(48,.no),(49,.no),(50,.no),(55,.no),(56,.no),(57,.no),(62,.no),(126,.cl []),(128,.cl []),(129,.cl []),(800000,.pv)] .o))) (.s .o (.s .o (.b (.l [(0,.no),(1,.no),(6,.fA 800000),(8,.no),(9,.no),(10,.ptr 126 0),(11,.no),(15,.ptr 131 0),(48,.no),(49,.no),(50,.no),(55,.no),(56,.no),(57,.no),(80,.no),(126,.cl []),(131,.cl []),(800000,.pv)] .o)))))))) .o)))))))) .o)))))) .o)))))
noncomputable def bL.F (a:List Int) (b:List Int):Option (List TV):=cR Go.Proofs.Tryz.prog bL.E 219 bL.sg bL.h [(.sl .is a),(.sl .is b)]
noncomputable def bL.l1 (x0:List Int) (x1:List Int) (x2:List Qd) (x3:List Qd) (x4:Int) (x5:Int) (x6:List Int):Option (List TV):=dQ Go.Proofs.Tryz.prog bL.E 219 bL.sg bL.h 351 [(.sl .is x0),(.sl .is x1),.pt,(.sl .qd x2),(.sl .qd x3),(.i .i64 x4),(.i .i64 x5),(.sl .is x6)]
noncomputable def bL.l2 (x0:List Int) (x1:List Int) (x2:List Qd) (x3:Int) (x4:List Qd) (x5:Int) (x6:Int) (x7:List Qd) (x8:Int) (x9:Int) (tw:Qd) (nF:List Int):Option (List TV):=dQ Go.Proofs.Tryz.prog bL.E 219 bL.sg bL.h 91743 [(.sl .is x0),(.sl .is x1),.pt,(.sl .qd x2),(.i .i64 x3),.pt,(.sl .qd x4),(.i .i64 x5),(.i .i64 x6),(.sl .qd x7),(.i .i64 x8),(.i .i64 x9),(.ag (Qd.cells tw)),(.sl .is nF)]
noncomputable def bL.l3 (x0:List Int) (x1:List Int) (x2:List Qd) (x3:Int) (x4:Int) (x5:List Qd) (x6:Int) (x7:Int) (x8:List Qd) (x9:Int) (tw:Int) (nF:Int) (A4:Qd) (zY:Qd) (wb:Qd) (K9:List Int):Option (List TV):=dQ Go.Proofs.Tryz.prog bL.E 219 bL.sg bL.h 90596959 [(.sl .is x0),(.sl .is x1),.pt,(.sl .qd x2),(.i .i64 x3),.pt,(.i .i64 x4),.pt,.pt,(.sl .qd x5),(.i .i64 x6),(.i .i64 x7),(.sl .qd x8),(.i .i64 x9),(.i .i64 tw),(.i .i64 nF),(.ag (Qd.cells A4)),(.ag (Qd.cells zY)),(.ag (Qd.cells wb)),(.sl .is K9)]
noncomputable def bL.l4 (x0:List Int) (x1:List Int) (x2:List Qd) (x3:Int) (x4:Int) (x5:List Qd) (x6:Int) (x7:Int) (x8:List Qd) (x9:Int) (tw:Int) (nF:Int) (A4:Qd) (zY:Qd) (wb:List Int):Option (List TV):=dQ Go.Proofs.Tryz.prog bL.E 219 bL.sg bL.h 199648863 [(.sl .is x0),(.sl .is x1),.pt,(.sl .qd x2),(.i .i64 x3),.pt,(.i .i64 x4),.pt,(.sl .qd x5),(.i .i64 x6),(.i .i64 x7),(.sl .qd x8),(.i .i64 x9),(.i .i64 tw),(.i .i64 nF),(.ag (Qd.cells A4)),(.ag (Qd.cells zY)),(.sl .is wb)]
theorem bL.bV (x0:List Int) (x1:List Int) (x2:List Qd) (x3:List Qd) (x4:Int) (x5:Int) (x6:List Int) {ρ:Option (List TV)} (K:∀(v1:Qd) (h1:v1=(List.getD x3 (x5).toNat (fe.gk .qd))) (v2:Int) (h2:v2=(IntKind.i64.wrap (((x0).length:Int)+((x1).length:Int)))) (v3:Int) (h3:v3=(IntKind.i64.wrap (v2 - (1:Int)))),cond (decide (x5<x4))
  (ck (bB x5 (x3).length) (bL.l2 x0 x1 x2 x5 x3 x4 x5 x2 ((x2).length:Int) (0:Int) v1 x6))
  (ck (gA 0 v3 (x6).length) (ck (fC ((List.take (v3).toNat x6)).length 8) (some [(.sl .is (List.take (v3).toNat x6)),(.b true)])))=ρ):bL.l1 x0 x1 x2 x3 x4 x5 x6=ρ:=((bU _ _ _ _ _ _ _).trans (by kernel_rfl)).trans (K _ rfl _ rfl _ rfl)
theorem bL.iw (x0:List Int) (x1:List Int) (x2:List Qd) (x3:Int) (x4:List Qd) (x5:Int) (x6:Int) (x7:List Qd) (x8:Int) (x9:Int) (tw:Qd) (nF:List Int) {ρ:Option (List TV)} (K:∀(v1:Qd) (h1:v1=(List.getD x7 (x9).toNat (fe.gk .qd))) (v2:Int) (h2:v2=(IntKind.i64.wrap (x6+(1:Int)))),cond (decide (x9<x8))
  (ck (bB x9 (x7).length) (bL.l3 x0 x1 x2 x3 x9 x4 x5 x6 x7 x8 x9 (0:Int) tw v1 (Qd.mk ((0,0):Cx) ((0,0):Cx) ((0,0):Cx) ((0,0):Cx)) nF))
  (bL.l1 x0 x1 x2 x4 x5 v2 nF)=ρ):bL.l2 x0 x1 x2 x3 x4 x5 x6 x7 x8 x9 tw nF=ρ:=((bU _ _ _ _ _ _ _).trans (by kernel_rfl)).trans (K _ rfl _ rfl)
theorem bL.sJ (x0:List Int) (x1:List Int) (x2:List Qd) (x3:Int) (x4:Int) (x5:List Qd) (x6:Int) (x7:Int) (x8:List Qd) (x9:Int) (tw:Int) (nF:Int) (A4:Qd) (zY:Qd) (wb:Qd) (K9:List Int) {ρ:Option (List TV)} (K:∀(v1:Cx) (h1:v1=(Gz.mul ((Qd.get A4 ((nF).toNat))) ((Qd.get zY ((nF).toNat))))) (v2:Qd) (h2:v2=(Qd.set wb ((nF).toNat) v1)) (v3:Int) (h3:v3=(IntKind.i64.wrap (nF+(1:Int)))),cond (decide (nF<(4:Int)))
  (ck (bB nF 4) (ck (decide ((nF).toNat<4)) (ck (bB nF 4) (ck (decide ((nF).toNat<4)) (ck (Gz.tK ((Qd.get A4 ((nF).toNat))) 33554432&&Gz.tK ((Qd.get zY ((nF).toNat))) 33554432) (ck (bB nF 4) (ck (decide ((nF).toNat<4)) (bL.l3 x0 x1 x2 x3 x4 x5 x6 x7 x8 x9 tw v3 A4 zY v2 K9))))))))
  (ck (Gz.wg wb 1125899906842624&&Gz.I8 wb) (bL.l4 x0 x1 x2 x3 x4 x5 x6 x7 x8 x9 tw (0:Int) A4 (Gz.back wb) K9))=ρ):bL.l3 x0 x1 x2 x3 x4 x5 x6 x7 x8 x9 tw nF A4 zY wb K9=ρ:=((bU _ _ _ _ _ _ _).trans (by kernel_rfl)).trans (K _ rfl _ rfl _ rfl)
theorem bL.xv (x0:List Int) (x1:List Int) (x2:List Qd) (x3:Int) (x4:Int) (x5:List Qd) (x6:Int) (x7:Int) (x8:List Qd) (x9:Int) (tw:Int) (nF:Int) (A4:Qd) (zY:Qd) (wb:List Int) {ρ:Option (List TV)} (K:∀(v1:Int) (h1:v1=(Fl.toInt (((Qd.get zY ((nF).toNat)))).1)) (v2:Int) (h2:v2=(Fl.toInt (((Qd.get zY ((nF).toNat)))).2)) (v3:Int) (h3:v3=(IntKind.i64.wrap ((2:Int) * x3))) (v4:Int) (h4:v4=(IntKind.i64.wrap ((2:Int) * x4))) (v5:Int) (h5:v5=(IntKind.i64.wrap ((IntKind.i64.wrap (v3+v4))+nF))) (v6:Int) (h6:v6=(List.getD wb ((v5).toNat) (0:Int))) (v7:List Int) (h7:v7=(List.set wb ((v5).toNat) (IntKind.i64.wrap (v6+v1)))) (v8:Int) (h8:v8=(IntKind.i64.wrap (nF+(1:Int)))) (v9:Int) (h9:v9=(IntKind.i64.wrap (tw+(1:Int)))),cond (decide (nF<(3:Int)))
  (ck (bB nF 4) (ck (decide ((nF).toNat<4)) (ck (Gz.tK ((Qd.get zY ((nF).toNat))) 4503599627370496) (ck (bB v5 (wb).length) (ck (decide ((v5).toNat<(wb).length)) (ck (bB v5 (wb).length) (ck (decide ((v5).toNat<(wb).length)) (bL.l4 x0 x1 x2 x3 x4 x5 x6 x7 x8 x9 tw v8 A4 zY v7))))))))
  (bL.l2 x0 x1 x2 x3 x5 x6 x7 x8 x9 v9 A4 wb)=ρ):bL.l4 x0 x1 x2 x3 x4 x5 x6 x7 x8 x9 tw nF A4 zY wb=ρ:=((bU _ _ _ _ _ _ _).trans (by kernel_rfl)).trans (K _ rfl _ rfl _ rfl _ rfl _ rfl _ rfl _ rfl _ rfl _ rfl)
theorem bL.bZ (a:List Int) (b:List Int) {ρ:Option (List TV)} (K:∀(v1:Bool) (h1:v1=(cond (!(true)) true (!(true)))) (v2:Bool) (h2:v2=(cond (decide (((a).length:Int)=(0:Int))) true (decide (((b).length:Int)=(0:Int))))) (v3:Int) (h3:v3=(IntKind.i64.wrap (((a).length:Int)+((b).length:Int)))) (v4:Int) (h4:v4=(IntKind.i64.wrap (v3+(2:Int)))) (v5:List Int) (h5:v5=(List.replicate (v4).toNat (0:Int))) (v6:Int) (h6:v6=(((Gz.gS a)).length:Int)),ck (decide ((a).length≤256)&&Gz.ie a) (ck (!(!(!(true))) || ((!(!(true)))&&(decide ((b).length≤256)&&Gz.ie b))) (ck (!(!(!(true))) || (!(!(true)))) (ck ((!(true)) || (!(!(true)))) (cond v1
  (some [(.sl .is ([]:List Int)),(.b false)])
  (ck (!(!(decide (((a).length:Int)=(0:Int)))) || (!(decide (((a).length:Int)=(0:Int))))) (ck (!(!(decide (((a).length:Int)=(0:Int)))) || (!(decide (((a).length:Int)=(0:Int))))) (ck ((decide (((a).length:Int)=(0:Int))) || (!(decide (((a).length:Int)=(0:Int))))) (cond v2
  (some [(.sl .is ([]:List Int)),(.b true)])
  (ck (oq v4 v4 8) (ck (decide ((a).length≤256)&&Gz.ie a) (ck (decide ((b).length≤256)&&Gz.ie b) (bL.l1 a b (Gz.gS b) (Gz.gS a) v6 (0:Int) v5))))))))))))=ρ):bL.F a b=ρ:=Eq.trans (by kernel_rfl) (K _ rfl _ rfl _ rfl _ rfl _ rfl _ rfl)
end
noncomputable section
def da.E:cC:=cT fQ zs []
def da.h:Hint := .s .o (.s (.b (.l (sc [0]) .o)) .o)
noncomputable def da.F (a:List UInt16):Option (List TV):=cR Go.Proofs.Tryz.prog da.E 201 da.sg da.h [(.sl .ws a)]
noncomputable def da.l1 (x0:List UInt16):Option (List TV):=dQ Go.Proofs.Tryz.prog da.E 201 da.sg da.h 9 [(.sl .ws x0)]
theorem da.bV (x0:List UInt16) {ρ:Option (List TV)} (K:∀(v1:Int) (h1:v1=(IntKind.i64.wrap (((x0).length:Int) - (1:Int)))) (v2:UInt16) (h2:v2=(List.getD x0 (v1).toNat (0:UInt16))) (v3:Bool) (h3:v3=(cond (decide ((0:Int)<((x0).length:Int))) (decide (v2=(0:UInt16))) false)),ck (!(decide ((0:Int)<((x0).length:Int))) || (decide ((0:Int)<((x0).length:Int)))) (ck (!(decide ((0:Int)<((x0).length:Int))) || (decide ((0:Int)<((x0).length:Int)))) (ck (!(decide ((0:Int)<((x0).length:Int))) || (((decide ((0:Int)<((x0).length:Int)))&&(decide ((0:Int)<((x0).length:Int))))&&(bB v1 (x0).length))) (ck (!(decide ((0:Int)<((x0).length:Int))) || (decide ((0:Int)<((x0).length:Int)))) (ck (!(decide ((0:Int)<((x0).length:Int))) || (decide ((0:Int)<((x0).length:Int)))) (ck (!(decide ((0:Int)<((x0).length:Int))) || (decide ((0:Int)<((x0).length:Int)))) (cond v3
  (ck (gA 0 v1 (x0).length) (da.l1 (List.take (v1).toNat x0)))
  (some [(.sl .ws x0)])))))))=ρ):da.l1 x0=ρ:=((bU _ _ _ _ _ _ _).trans (by kernel_rfl)).trans (K _ rfl _ rfl _ rfl)
theorem da.eJ (a:List UInt16):da.F a=da.l1 a:=by kernel_rfl
end
noncomputable section
def eK.E:cC:=cT fQ zs []
def eK.h:Hint := .o
noncomputable def eK.F (a:List UInt16):Option (List TV):=cR Go.Proofs.Tryz.prog eK.E 166 eK.sg eK.h [(.sl .ws a)]
theorem eK.bZ (a:List UInt16) {ρ:Option (List TV)} (K:∀(v1:Bool) (h1:v1=((decide (((a).length:Int)≤(256:Int)))&&(!(decide (((a).length:Int)=(0:Int)))))) (v2:Int) (h2:v2=(IntKind.i64.wrap (((a).length:Int) - (1:Int)))) (v3:UInt16) (h3:v3=(List.getD a (v2).toNat (0:UInt16))) (v4:Bool) (h4:v4=(cond (decide (((a).length:Int)=(0:Int))) true (!decide (v3=(0:UInt16))))) (v5:Bool) (h5:v5=(cond (decide (((a).length:Int)≤(256:Int))) v4 false)),ck (!(decide (((a).length:Int)≤(256:Int))) || (decide (((a).length:Int)≤(256:Int)))) (ck (!(decide (((a).length:Int)≤(256:Int))) || (decide (((a).length:Int)≤(256:Int)))) (ck (!(decide (((a).length:Int)≤(256:Int))) || (decide (((a).length:Int)≤(256:Int)))) (ck (!v1 || v1) (ck (!v1 || v1) (ck (!v1 || ((v1&&v1)&&(bB v2 (a).length))) (ck (!v1 || v1) (ck (!v1 || v1) (ck (!(decide (((a).length:Int)≤(256:Int))) || ((decide (((a).length:Int)≤(256:Int)))&&((decide (((a).length:Int)=(0:Int))) || v1))) (ck (!(decide (((a).length:Int)≤(256:Int))) || (decide (((a).length:Int)≤(256:Int)))) (some [(.b v5)]))))))))))=ρ):eK.F a=ρ:=Eq.trans (by kernel_rfl) (K _ rfl _ rfl _ rfl _ rfl _ rfl)
end
noncomputable section
def eW.E:cC:=cT fQ zs []
def eW.h:Hint := .s .o (.s .o (.s (.b (.l [(0,.no),(3,.fA 800000),(800000,.pv)] .o)) .o))
noncomputable def eW.F (v:UInt64):Option (List TV):=cR Go.Proofs.Tryz.prog eW.E 140 eW.sg eW.h [(.u64 v)]
noncomputable def eW.l1 (x0:UInt64) (x1:List UInt16):Option (List TV):=dQ Go.Proofs.Tryz.prog eW.E 140 eW.sg eW.h 19 [(.u64 x0),.pt,(.sl .ws x1)]
theorem eW.bV (x0:UInt64) (x1:List UInt16) {ρ:Option (List TV)} (K:∀(v1:UInt16) (h1:v1=(UInt16.ofInt ((x0).toNat:Int))) (v2:UInt64) (h2:v2=(dD x0 (((16:UInt64)).toNat))),cond (decide ((0:UInt64)<x0))
  (ck (fC ((x1).length+(([v1]:List UInt16)).length) 2) (eW.l1 v2 (x1++([v1]:List UInt16))))
  (some [(.sl .ws x1)])=ρ):eW.l1 x0 x1=ρ:=((bU _ _ _ _ _ _ _).trans (by kernel_rfl)).trans (K _ rfl _ rfl)
theorem eW.eJ (v:UInt64):eW.F v=eW.l1 v ([]:List UInt16):=by kernel_rfl
end
end Go.Eng
set_option maxRecDepth 100000
namespace Go.Eng
open Go.Proofs
noncomputable section
def dj.E:cC:=cT fQ zs [(166,(eK.c,eK.sg))]
def dj.h:Hint := .s .o (.s .o (.s .o (.s (.s .o (.b (.l (sc [4,15,16,17]) .o))) .o)))
noncomputable def dj.F (a:List UInt16):Option (List TV):=cR Go.Proofs.Tryz.prog dj.E 251 dj.sg dj.h [(.sl .ws a)]
noncomputable def dj.l1 (x0:UInt64) (x1:List UInt16) (x2:Int) (x3:Int):Option (List TV):=dQ Go.Proofs.Tryz.prog dj.E 251 dj.sg dj.h 87 [(.u64 x0),(.sl .ws x1),(.i .i64 x2),(.i .i64 x3)]
theorem dj.bV (x0:UInt64) (x1:List UInt16) (x2:Int) (x3:Int) {ρ:Option (List TV)} (K:∀(v1:UInt16) (h1:v1=(List.getD x1 (x3).toNat (0:UInt16))) (v2:UInt64) (h2:v2=(UInt64.ofInt ((v1).toNat:Int))) (v3:Int) (h3:v3=(IntKind.i64.wrap ((16:Int) * x3))) (v4:UInt64) (h4:v4=(x0 ||| (iK v2 ((v3).toNat)))) (v5:Int) (h5:v5=(IntKind.i64.wrap (x3+(1:Int)))),cond (decide (x3<x2))
  (ck (bB x3 (x1).length) (ck (decide (0≤v3)) (dj.l1 v4 x1 x2 v5)))
  (some [(.u64 x0),(.b true)])=ρ):dj.l1 x0 x1 x2 x3=ρ:=((bU _ _ _ _ _ _ _).trans (by kernel_rfl)).trans (K _ rfl _ rfl _ rfl _ rfl _ rfl)
theorem dj.bZ (a:List UInt16) {ρ:Option (List TV)} (K:∀(v1:Bool) (h1:v1=(cond (!(Nt.is a)) true (decide ((4:Int)<((a).length:Int))))),ck (decide ((a).length≤1099511627776)) (ck (!(!(!(Nt.is a))) || (!(!(Nt.is a)))) (ck (!(!(!(Nt.is a))) || (!(!(Nt.is a)))) (ck ((!(Nt.is a)) || (!(!(Nt.is a)))) (cond v1
  (some [(.u64 0),(.b false)])
  (dj.l1 (0:UInt64) a ((a).length:Int) (0:Int))))))=ρ):dj.F a=ρ:=Eq.trans (by kernel_rfl) (K _ rfl)
end
noncomputable section
def fH.E:cC:=cT fQ zs [(166,(eK.c,eK.sg)),(168,(bX.c,bX.sg))]
def fH.h:Hint := .o
noncomputable def fH.F (a:List UInt16):Option (List TV):=cR Go.Proofs.Tryz.prog fH.E 142 fH.sg fH.h [(.sl .ws a)]
theorem fH.bZ (a:List UInt16) {ρ:Option (List TV)} (K:∀(v1:Bool) (h1:v1=(cond (!(Nt.is a)) true (decide (((a).length:Int)=(0:Int))))) (v2:Int) (h2:v2=(IntKind.i64.wrap (((a).length:Int) - (1:Int)))) (v3:Int) (h3:v3=(IntKind.i64.wrap ((16:Int) * v2))) (v4:UInt16) (h4:v4=(List.getD a (v2).toNat (0:UInt16))) (v5:Int) (h5:v5=(IntKind.i64.wrap (v3+((Nt.bits (v4).toNat:Int))))),ck (decide ((a).length≤1099511627776)) (ck (!(!(!(Nt.is a))) || (!(!(Nt.is a)))) (ck (!(!(!(Nt.is a))) || (!(!(Nt.is a)))) (ck ((!(Nt.is a)) || (!(!(Nt.is a)))) (cond v1
  (some [(.i .i64 0)])
  (ck (bB v2 (a).length) (some [(.i .i64 v5)]))))))=ρ):fH.F a=ρ:=Eq.trans (by kernel_rfl) (K _ rfl _ rfl _ rfl _ rfl _ rfl)
end
noncomputable section
def eC.E:cC:=cT fQ zs []
def eC.h:Hint := .s .o (.s .o (.s (.s .o (.b (.l (sc [0,1,5]) .o))) .o))
noncomputable def eC.F (a:List UInt16) (b:List UInt16):Option (List TV):=cR Go.Proofs.Tryz.prog eC.E 197 eC.sg eC.h [(.sl .ws a),(.sl .ws b)]
noncomputable def eC.l1 (x0:List UInt16) (x1:List UInt16) (x2:Int):Option (List TV):=dQ Go.Proofs.Tryz.prog eC.E 197 eC.sg eC.h 43 [(.sl .ws x0),(.sl .ws x1),(.i .i64 x2)]
theorem eC.bV (x0:List UInt16) (x1:List UInt16) (x2:Int) {ρ:Option (List TV)} (K:∀(v1:UInt16) (h1:v1=(List.getD x0 (x2).toNat (0:UInt16))) (v2:UInt16) (h2:v2=(List.getD x1 (x2).toNat (0:UInt16))) (v3:Int) (h3:v3=(IntKind.i64.wrap (x2 - (1:Int)))),cond (decide ((0:Int)≤x2))
  (ck (bB x2 (x0).length) (ck (bB x2 (x1).length) (cond (!decide (v1=v2))
  (ck (bB x2 (x0).length) (ck (bB x2 (x1).length) (cond (decide (v1<v2))
  (some [(.i .i64 (-1))])
  (some [(.i .i64 1)]))))
  (eC.l1 x0 x1 v3))))
  (some [(.i .i64 0)])=ρ):eC.l1 x0 x1 x2=ρ:=((bU _ _ _ _ _ _ _).trans (by kernel_rfl)).trans (K _ rfl _ rfl _ rfl)
theorem eC.bZ (a:List UInt16) (b:List UInt16) {ρ:Option (List TV)} (K:∀(v1:Int) (h1:v1=(IntKind.i64.wrap (((a).length:Int) - (1:Int)))),cond (!decide (((a).length:Int)=((b).length:Int)))
  (cond (decide (((a).length:Int)<((b).length:Int)))
  (some [(.i .i64 (-1))])
  (some [(.i .i64 1)]))
  (eC.l1 a b v1)=ρ):eC.F a b=ρ:=Eq.trans (by kernel_rfl) (K _ rfl)
end
noncomputable section
def fW.E:cC:=cT fQ zs [(166,(eK.c,eK.sg)),(197,(eC.c,eC.sg))]
def fW.h:Hint := .o
noncomputable def fW.F (a:List UInt16) (b:List UInt16):Option (List TV):=cR Go.Proofs.Tryz.prog fW.E 170 fW.sg fW.h [(.sl .ws a),(.sl .ws b)]
theorem fW.bZ (a:List UInt16) (b:List UInt16) {ρ:Option (List TV)} (K:∀(v1:Bool) (h1:v1=(cond (!(Nt.is a)) true (!(Nt.is b)))) (v2:Int) (h2:v2=(Nt.cmp (Nt.val a) (Nt.val b))),ck (decide ((a).length≤1099511627776)) (ck (!(!(!(Nt.is a))) || ((!(!(Nt.is a)))&&(decide ((b).length≤1099511627776)))) (ck (!(!(!(Nt.is a))) || (!(!(Nt.is a)))) (ck ((!(Nt.is a)) || (!(!(Nt.is a)))) (cond v1
  (some [(.i .i64 0)])
  (ck (decide ((a).length≤1099511627776∧(b).length≤1099511627776)&&(Nt.norm a&&Nt.norm b)) (some [(.i .i64 v2)]))))))=ρ):fW.F a b=ρ:=Eq.trans (by kernel_rfl) (K _ rfl _ rfl)
end
noncomputable section
def cq.E:cC:=cT fQ zs []
def cq.h:Hint := .s .o (.s .o (.s (.s .o (.b (.l [(3,.fA 800000),(9,.no),(10,.no),(11,.no),(800000,.pv)] .o))) .o))
noncomputable def cq.F (a:List UInt16):Option (List TV):=cR Go.Proofs.Tryz.prog cq.E 220 cq.sg cq.h [(.sl .ws a)]
noncomputable def cq.l1 (x0:List UInt16) (x1:Int) (x2:Int) (x3:List Int):Option (List TV):=dQ Go.Proofs.Tryz.prog cq.E 220 cq.sg cq.h 43 [.pt,(.sl .ws x0),(.i .i64 x1),(.i .i64 x2),(.sl .is x3)]
theorem cq.bV (x0:List UInt16) (x1:Int) (x2:Int) (x3:List Int) {ρ:Option (List TV)} (K:∀(v1:UInt16) (h1:v1=(List.getD x0 (x2).toNat (0:UInt16))) (v2:Int) (h2:v2=(IntKind.i64.wrap ((v1).toNat:Int))) (v3:List Int) (h3:v3=(List.set x3 ((x2).toNat) v2)) (v4:Int) (h4:v4=(IntKind.i64.wrap (x2+(1:Int)))),cond (decide (x2<x1))
  (ck (bB x2 (x0).length) (ck (bB x2 (x3).length) (ck (decide ((x2).toNat<(x3).length)) (cq.l1 x0 x1 v4 v3))))
  (some [(.sl .is x3)])=ρ):cq.l1 x0 x1 x2 x3=ρ:=((bU _ _ _ _ _ _ _).trans (by kernel_rfl)).trans (K _ rfl _ rfl _ rfl _ rfl)
theorem cq.bZ (a:List UInt16) {ρ:Option (List TV)} (K:∀(v1:List Int) (h1:v1=(List.replicate (((a).length:Int)).toNat (0:Int))),ck (oq ((a).length:Int) ((a).length:Int) 8) (cq.l1 a ((a).length:Int) (0:Int) v1)=ρ):cq.F a=ρ:=Eq.trans (by kernel_rfl) (K _ rfl)
end
noncomputable section
def dp.E:cC:=cT fQ zs [(166,(eK.c,eK.sg)),(201,(da.c,da.sg)),(219,(bL.c,bL.sg)),(220,(cq.c,cq.sg))]
def dp.h:Hint := .s .o (.s .o (.s .o (.s .o (.s .o (.s (.s .o (.b (.l [(7,.fA 800000),(800000,.pv),(8,.no),(27,.no),(28,.no),(29,.no)] .o))) (.s (.b (.l [(7,.fA 800000),(800000,.pv),(8,.no)] .o)) .o))))))
noncomputable def dp.F (a:List UInt16) (b:List UInt16):Option (List TV):=cR Go.Proofs.Tryz.prog dp.E 196 dp.sg dp.h [(.sl .ws a),(.sl .ws b)]
noncomputable def dp.l1 (x0:List UInt16) (x1:Int) (x2:List Int) (x3:Int) (x4:Int):Option (List TV):=dQ Go.Proofs.Tryz.prog dp.E 196 dp.sg dp.h 351 [.pt,(.sl .ws x0),(.i .i64 x1),(.sl .is x2),(.i .i64 x3),(.i .i64 x4)]
noncomputable def dp.l2 (x0:List UInt16) (x1:Int):Option (List TV):=dQ Go.Proofs.Tryz.prog dp.E 196 dp.sg dp.h 319 [.pt,(.sl .ws x0),(.i .i64 x1)]
theorem dp.bV (x0:List UInt16) (x1:Int) (x2:List Int) (x3:Int) (x4:Int) {ρ:Option (List TV)} (K:∀(v1:Int) (h1:v1=(List.getD x2 (x4).toNat (0:Int))) (v2:UInt16) (h2:v2=(UInt16.ofInt (IntKind.i64.wrap (x1+v1)))) (v3:Int) (h3:v3=(Int.fdiv (IntKind.i64.wrap (x1+v1)) (2 ^ (min (((16:UInt64)).toNat) (IntKind.i64.bits))))) (v4:Int) (h4:v4=(IntKind.i64.wrap (x4+(1:Int)))),cond (decide (x4<x3))
  (ck (bB x4 (x2).length) (ck (fC ((x0).length+(([v2]:List UInt16)).length) 2) (dp.l1 (x0++([v2]:List UInt16)) v3 x2 x3 v4)))
  (dp.l2 x0 x1)=ρ):dp.l1 x0 x1 x2 x3 x4=ρ:=((bU _ _ _ _ _ _ _).trans (by kernel_rfl)).trans (K _ rfl _ rfl _ rfl _ rfl)
theorem dp.iw (x0:List UInt16) (x1:Int) {ρ:Option (List TV)} (K:∀(v1:List UInt16) (h1:v1=([(UInt16.ofInt x1)]:List UInt16)) (v2:Int) (h2:v2=(Int.fdiv x1 (2 ^ (min (((16:UInt64)).toNat) (IntKind.i64.bits))))),cond (decide ((0:Int)<x1))
  (ck (fC ((x0).length+(v1).length) 2) (dp.l2 (x0++v1) v2))
  (ck (decide ((x0).length≤1099511627776)) (some [(.sl .ws (Nt.of (Nt.val x0)))]))=ρ):dp.l2 x0 x1=ρ:=((bU _ _ _ _ _ _ _).trans (by kernel_rfl)).trans (K _ rfl _ rfl)
theorem dp.bZ (a:List UInt16) (b:List UInt16) {ρ:Option (List TV)} (K:∀(v1:Bool) (h1:v1=(cond (!(Nt.is a)) true (!(Nt.is b)))) (v2:List Int) (h2:v2=((a).map fun d=>(d.toNat:Int))) (v3:List Int) (h3:v3=((b).map fun d=>(d.toNat:Int))) (v4:Int) (h4:v4=(((Gz.conv v2 v3)).length:Int)),ck (decide ((a).length≤1099511627776)) (ck (!(!(!(Nt.is a))) || ((!(!(Nt.is a)))&&(decide ((b).length≤1099511627776)))) (ck (!(!(!(Nt.is a))) || (!(!(Nt.is a)))) (ck ((!(Nt.is a)) || (!(!(Nt.is a)))) (cond v1
  (some [(.sl .ws ([]:List UInt16))])
  (ck (decide ((a).length≤256)) (ck (decide ((b).length≤256)) (ck (decide ((v2).length≤256∧(v3).length≤256)&&(Gz.ie v2&&Gz.ie v3)) (dp.l1 ([]:List UInt16) (0:Int) (Gz.conv v2 v3) v4 (0:Int)))))))))=ρ):dp.F a b=ρ:=Eq.trans (by kernel_rfl) (K _ rfl _ rfl _ rfl _ rfl)
end
noncomputable section
def ez.E:cC:=cT fQ zs [(201,(da.c,da.sg))]
def ez.h:Hint := .s .o (.s .o (.s .o (.s (.s .o (.b (.l [(0,.no),(1,.no),(6,.fA 800000),(7,.no),(8,.no),(800000,.pv)] .o))) .o)))
noncomputable def ez.F (a:List UInt16) (d:UInt16):Option (List TV):=cR Go.Proofs.Tryz.prog ez.E 199 ez.sg ez.h [(.sl .ws a),(.u16 d)]
noncomputable def ez.l1 (x0:List UInt16) (x1:UInt16) (x2:UInt32) (x3:Int) (x4:List UInt16):Option (List TV):=dQ Go.Proofs.Tryz.prog ez.E 199 ez.sg ez.h 87 [(.sl .ws x0),(.u16 x1),.pt,(.u32 x2),(.i .i64 x3),(.sl .ws x4)]
theorem ez.bV (x0:List UInt16) (x1:UInt16) (x2:UInt32) (x3:Int) (x4:List UInt16) {ρ:Option (List TV)} (K:∀(v1:UInt32) (h1:v1=(oI x2 (((16:UInt64)).toNat))) (v2:UInt16) (h2:v2=(List.getD x0 (x3).toNat (0:UInt16))) (v3:UInt32) (h3:v3=(UInt32.ofInt ((v2).toNat:Int))) (v4:UInt32) (h4:v4=(UInt32.ofInt ((x1).toNat:Int))) (v5:UInt16) (h5:v5=(UInt16.ofInt ((((v1 ||| v3) / v4)).toNat:Int))) (v6:List UInt16) (h6:v6=(List.set x4 ((x3).toNat) v5)) (v7:Int) (h7:v7=(IntKind.i64.wrap (x3 - (1:Int)))) (v8:UInt16) (h8:v8=(UInt16.ofInt ((x2).toNat:Int))),cond (decide ((0:Int)≤x3))
  (ck (bB x3 (x0).length) (ck (!decide (v4=0)) (ck (bB x3 (x4).length) (ck (decide ((x3).toNat<(x4).length)) (ck (!decide (v4=0)) (ez.l1 x0 x1 ((v1 ||| v3) % v4) v7 v6))))))
  (ck (decide ((x4).length≤1099511627776)) (some [(.sl .ws (Nt.of (Nt.val x4))),(.u16 v8)]))=ρ):ez.l1 x0 x1 x2 x3 x4=ρ:=((bU _ _ _ _ _ _ _).trans (by kernel_rfl)).trans (K _ rfl _ rfl _ rfl _ rfl _ rfl _ rfl _ rfl _ rfl)
theorem ez.bZ (a:List UInt16) (d:UInt16) {ρ:Option (List TV)} (K:∀(v1:List UInt16) (h1:v1=(List.replicate (((a).length:Int)).toNat (0:UInt16))) (v2:Int) (h2:v2=(IntKind.i64.wrap (((a).length:Int) - (1:Int)))),ck (oq ((a).length:Int) ((a).length:Int) 2) (ez.l1 a d (0:UInt32) v2 v1)=ρ):ez.F a d=ρ:=Eq.trans (by kernel_rfl) (K _ rfl _ rfl)
end
noncomputable section
def eO.E:cC:=cT fQ zs []
def eO.h:Hint := .s .o (.s .o (.s .o (.s (.s .o (.b (.l [(1,.no),(5,.fA 800000),(800000,.pv),(6,.no),(9,.no),(10,.no),(11,.no)] .o))) (.j [(5,.fA 800000),(800000,.pv)] .o .o))))
noncomputable def eO.F (a:List UInt16) (n:Int):Option (List TV):=cR Go.Proofs.Tryz.prog eO.E 167 eO.sg eO.h [(.sl .ws a),(.i .i64 n)]
noncomputable def eO.l1 (x0:Int) (x1:List UInt16) (x2:UInt32) (x3:List UInt16) (x4:Int) (x5:Int):Option (List TV):=dQ Go.Proofs.Tryz.prog eO.E 167 eO.sg eO.h 87 [(.i .i64 x0),.pt,(.sl .ws x1),(.u32 x2),(.sl .ws x3),(.i .i64 x4),(.i .i64 x5)]
noncomputable def eO.j2 (x0:List UInt16):Option (List TV):=eD Go.Proofs.Tryz.prog eO.E 167 eO.sg eO.h 31 [.pt,(.sl .ws x0)]
theorem eO.bV (x0:Int) (x1:List UInt16) (x2:UInt32) (x3:List UInt16) (x4:Int) (x5:Int) {ρ:Option (List TV)} (K:∀(v1:UInt16) (h1:v1=(List.getD x3 (x5).toNat (0:UInt16))) (v2:UInt32) (h2:v2=(UInt32.ofInt ((v1).toNat:Int))) (v3:UInt32) (h3:v3=(x2 ||| (oI v2 ((x0).toNat)))) (v4:UInt16) (h4:v4=(UInt16.ofInt ((v3).toNat:Int))) (v5:UInt32) (h5:v5=(rW v3 (((16:UInt64)).toNat))) (v6:Int) (h6:v6=(IntKind.i64.wrap (x5+(1:Int)))) (v7:UInt16) (h7:v7=(UInt16.ofInt ((x2).toNat:Int))),cond (decide (x5<x4))
  (ck (bB x5 (x3).length) (ck (decide (0≤x0)) (ck (fC ((x1).length+(([v4]:List UInt16)).length) 2) (eO.l1 x0 (x1++([v4]:List UInt16)) v5 x3 x4 v6))))
  (cond (decide ((0:UInt32)<x2))
  (ck (fC ((x1).length+(([v7]:List UInt16)).length) 2) (eO.j2 (x1++([v7]:List UInt16))))
  (eO.j2 x1))=ρ):eO.l1 x0 x1 x2 x3 x4 x5=ρ:=((bU _ _ _ _ _ _ _).trans (by kernel_rfl)).trans (K _ rfl _ rfl _ rfl _ rfl _ rfl _ rfl _ rfl)
theorem eO.jZ (x0:List UInt16):eO.j2 x0=some [(.sl .ws x0)]:=((b9 _ _ _ _ _ _ _).trans (by kernel_rfl))
theorem eO.eJ (a:List UInt16) (n:Int):eO.F a n=eO.l1 n ([]:List UInt16) (0:UInt32) a ((a).length:Int) (0:Int):=by kernel_rfl
end
noncomputable section
def cV.E:cC:=cT fQ zs [(201,(da.c,da.sg))]
def cV.h:Hint := .s .o (.s .o (.s (.s .o (.b (.l [(0,.no),(1,.no),(5,.fA 800000),(11,.no),(12,.no),(13,.no),(800000,.pv)] (.s .o (.s .o (.j [(0,.no),(1,.no),(5,.fA 800000),(11,.no),(12,.no),(13,.no),(800000,.pv)] .o .o)))))) .o))
noncomputable def cV.F (a:List UInt16) (n:Int):Option (List TV):=cR Go.Proofs.Tryz.prog cV.E 202 cV.sg cV.h [(.sl .ws a),(.i .i64 n)]
noncomputable def cV.l1 (x0:List UInt16) (x1:Int) (x2:List UInt16) (x3:Int) (x4:Int) (x5:List UInt16):Option (List TV):=dQ Go.Proofs.Tryz.prog cV.E 202 cV.sg cV.h 43 [(.sl .ws x0),(.i .i64 x1),.pt,(.sl .ws x2),(.i .i64 x3),(.i .i64 x4),(.sl .ws x5)]
noncomputable def cV.j2 (x0:List UInt16) (x1:Int) (x2:List UInt16) (x3:Int) (x4:Int) (x5:List UInt16):Option (List TV):=eD Go.Proofs.Tryz.prog cV.E 202 cV.sg cV.h 459 [(.sl .ws x0),(.i .i64 x1),.pt,(.sl .ws x2),(.i .i64 x3),(.i .i64 x4),(.sl .ws x5)]
theorem cV.bV (x0:List UInt16) (x1:Int) (x2:List UInt16) (x3:Int) (x4:Int) (x5:List UInt16) {ρ:Option (List TV)} (K:∀(v1:UInt16) (h1:v1=(List.getD x2 (x4).toNat (0:UInt16))) (v2:List UInt16) (h2:v2=(List.set x5 ((x4).toNat) (oH v1 ((x1).toNat)))) (v3:Int) (h3:v3=(IntKind.i64.wrap (x4+(1:Int)))) (v4:UInt16) (h4:v4=(List.getD v2 ((x4).toNat) (0:UInt16))) (v5:UInt16) (h5:v5=(List.getD x0 (v3).toNat (0:UInt16))) (v6:UInt32) (h6:v6=(UInt32.ofInt ((v5).toNat:Int))) (v7:Int) (h7:v7=(IntKind.i64.wrap ((16:Int) - x1))) (v8:UInt16) (h8:v8=(UInt16.ofInt (((oI v6 ((v7).toNat))).toNat:Int))) (v9:List UInt16) (h9:v9=(List.set v2 ((x4).toNat) (v4 ||| v8))),cond (decide (x4<x3))
  (ck (bB x4 (x2).length) (ck (decide (0≤x1)) (ck (bB x4 (x5).length) (ck (decide ((x4).toNat<(x5).length)) (cond (decide (v3<((x0).length:Int)))
  (ck (bB x4 (v2).length) (ck (decide ((x4).toNat<(v2).length)) (ck (bB v3 (x0).length) (ck (decide (0≤v7)) (ck (bB x4 (v2).length) (ck (decide ((x4).toNat<(v2).length)) (cV.j2 x0 x1 x2 x3 x4 v9)))))))
  (cV.j2 x0 x1 x2 x3 x4 v2))))))
  (ck (decide ((x5).length≤1099511627776)) (some [(.sl .ws (Nt.of (Nt.val x5)))]))=ρ):cV.l1 x0 x1 x2 x3 x4 x5=ρ:=((bU _ _ _ _ _ _ _).trans (by kernel_rfl)).trans (K _ rfl _ rfl _ rfl _ rfl _ rfl _ rfl _ rfl _ rfl _ rfl)
theorem cV.jg (x0:List UInt16) (x1:Int) (x2:List UInt16) (x3:Int) (x4:Int) (x5:List UInt16) {ρ:Option (List TV)} (K:∀(v1:Int) (h1:v1=(IntKind.i64.wrap (x4+(1:Int)))),cV.l1 x0 x1 x2 x3 v1 x5=ρ):cV.j2 x0 x1 x2 x3 x4 x5=ρ:=((b9 _ _ _ _ _ _ _).trans (by kernel_rfl)).trans (K _ rfl)
theorem cV.bZ (a:List UInt16) (n:Int) {ρ:Option (List TV)} (K:∀(v1:List UInt16) (h1:v1=(List.replicate (((a).length:Int)).toNat (0:UInt16))),ck (oq ((a).length:Int) ((a).length:Int) 2) (cV.l1 a n a ((a).length:Int) (0:Int) v1)=ρ):cV.F a n=ρ:=Eq.trans (by kernel_rfl) (K _ rfl)
end
noncomputable section
def bE.E:cC:=cT fQ zs []
def bE.h:Hint := .s .o (.s .o (.s .o (.s .o (.s (.s .o (.b (.l [(0,.fA 800000),(1,.no),(4,.fA 800001),(6,.no),(7,.no),(800000,.pv),(800001,.pv)] (.s .o (.s (.b (.s .o (.s .o (.j [(0,.fA 800000),(1,.no),(4,.fA 800001),(6,.no),(7,.no),(9,.no),(800000,.pv),(800001,.pv)] (.b (.l [(0,.fA 800000),(1,.no),(4,.fA 800001),(6,.no),(7,.no),(9,.no),(10,.no),(800000,.pv),(800001,.pv)] .o)) (.s .o (.s (.s .o (.b (.l [(0,.fA 800000),(1,.no),(4,.fA 800001),(6,.no),(7,.no),(9,.no),(11,.no),(12,.no),(107,.no),(108,.no),(800000,.pv),(800001,.pv)] .o))) (.s .o (.s .o (.j [(0,.fA 800000),(1,.no),(4,.fA 800001),(6,.no),(7,.no),(9,.no),(800000,.pv),(800001,.pv)] (.s .o (.s (.s .o (.s .o (.s (.s .o (.b (.l [(0,.fA 800000),(1,.no),(4,.fA 800001),(6,.no),(7,.no),(9,.no),(17,.no),(169,.no),(170,.no),(800000,.pv),(800001,.pv)] .o))) .o))) .o)) .o))))))))) .o))))) .o))))
noncomputable def bE.F (u:List UInt16) (v:List UInt16):Option (List TV):=cR Go.Proofs.Tryz.prog bE.E 200 bE.sg bE.h [(.sl .ws u),(.sl .ws v)]
noncomputable def bE.l1 (x0:List UInt16) (x1:Int) (x2:Int) (x3:List UInt16) (x4:List UInt16):Option (List TV):=dQ Go.Proofs.Tryz.prog bE.E 200 bE.sg bE.h 175 [.pt,(.sl .ws x0),.pt,(.i .i64 x1),(.i .i64 x2),(.sl .ws x3),(.sl .ws x4)]
noncomputable def bE.l2 (x0:List UInt16) (x1:Int) (x2:Int) (x3:UInt64) (x4:UInt64) (x5:List UInt16) (x6:List UInt16):Option (List TV):=dQ Go.Proofs.Tryz.prog bE.E 200 bE.sg bE.h 39215 [.pt,(.sl .ws x0),.pt,(.i .i64 x1),(.i .i64 x2),(.u64 x3),(.u64 x4),(.sl .ws x5),(.sl .ws x6)]
noncomputable def bE.j3 (x0:List UInt16) (x1:Int) (x2:Int) (x3:UInt64) (x4:List UInt16) (x5:List UInt16):Option (List TV):=eD Go.Proofs.Tryz.prog bE.E 200 bE.sg bE.h 14639 [.pt,(.sl .ws x0),.pt,(.i .i64 x1),(.i .i64 x2),(.u64 x3),(.sl .ws x4),(.sl .ws x5)]
noncomputable def bE.l4 (x0:List UInt16) (x1:Int) (x2:Int) (x3:UInt64) (x4:Int) (x5:UInt64) (x6:Int) (x7:Int) (x8:List UInt16) (x9:List UInt16):Option (List TV):=dQ Go.Proofs.Tryz.prog bE.E 200 bE.sg bE.h 358703 [.pt,(.sl .ws x0),.pt,(.i .i64 x1),(.i .i64 x2),(.u64 x3),(.i .i64 x4),(.u64 x5),(.i .i64 x6),(.i .i64 x7),(.sl .ws x8),(.sl .ws x9)]
noncomputable def bE.l5 (x0:List UInt16) (x1:Int) (x2:Int) (x3:UInt64) (x4:UInt32) (x5:Int) (x6:Int) (x7:List UInt16) (x8:List UInt16):Option (List TV):=dQ Go.Proofs.Tryz.prog bE.E 200 bE.sg bE.h 90962223 [.pt,(.sl .ws x0),.pt,(.i .i64 x1),(.i .i64 x2),(.u64 x3),(.u32 x4),(.i .i64 x5),(.i .i64 x6),(.sl .ws x7),(.sl .ws x8)]
noncomputable def bE.j6 (x0:List UInt16) (x1:Int) (x2:Int) (x3:UInt64) (x4:List UInt16) (x5:List UInt16):Option (List TV):=eD Go.Proofs.Tryz.prog bE.E 200 bE.sg bE.h 522543 [.pt,(.sl .ws x0),.pt,(.i .i64 x1),(.i .i64 x2),(.u64 x3),(.sl .ws x4),(.sl .ws x5)]
theorem bE.bV (x0:List UInt16) (x1:Int) (x2:Int) (x3:List UInt16) (x4:List UInt16) {ρ:Option (List TV)} (K:∀(v1:Nat) (h1:v1=(((IntKind.i64.wrap (x2+x1))).toNat)) (v2:UInt16) (h2:v2=(List.getD x3 (v1) (0:UInt16))) (v3:UInt64) (h3:v3=(UInt64.ofInt ((v2).toNat:Int))) (v4:UInt64) (h4:v4=(iK v3 (((16:UInt64)).toNat))) (v5:Int) (h5:v5=(IntKind.i64.wrap ((IntKind.i64.wrap (x2+x1)) - (1:Int)))) (v6:UInt16) (h6:v6=(List.getD x3 ((v5).toNat) (0:UInt16))) (v7:UInt64) (h7:v7=(UInt64.ofInt ((v6).toNat:Int))) (v8:Int) (h8:v8=(IntKind.i64.wrap (x1 - (1:Int)))) (v9:UInt16) (h9:v9=(List.getD x0 (v8).toNat (0:UInt16))) (v10:UInt64) (iA:v10=(UInt64.ofInt ((v9).toNat:Int))),cond (decide ((0:Int)≤x2))
  (ck (bB (IntKind.i64.wrap (x2+x1)) (x3).length) (ck (decide (v1<(x3).length)) (ck (bB v5 (x3).length) (ck (decide ((v5).toNat<(x3).length)) (ck (bB v8 (x0).length) (ck (!decide (v10=0)) (ck (bB v8 (x0).length) (ck (!decide (v10=0)) (bE.l2 x0 x1 x2 ((v4 ||| v7) / v10) ((v4 ||| v7) % v10) x3 x4)))))))))
  (ck (gA 0 x1 (x3).length) (some [(.sl .ws x4),(.sl .ws (List.take (x1).toNat x3))]))=ρ):bE.l1 x0 x1 x2 x3 x4=ρ:=((bU _ _ _ _ _ _ _).trans (by kernel_rfl)).trans (K _ rfl _ rfl _ rfl _ rfl _ rfl _ rfl _ rfl _ rfl _ rfl _ rfl)
theorem bE.iw (x0:List UInt16) (x1:Int) (x2:Int) (x3:UInt64) (x4:UInt64) (x5:List UInt16) (x6:List UInt16) {ρ:Option (List TV)} (K:∀(v1:Int) (h1:v1=(IntKind.i64.wrap (x1 - (2:Int)))) (v2:UInt16) (h2:v2=(List.getD x0 (v1).toNat (0:UInt16))) (v3:UInt64) (h3:v3=(UInt64.ofInt ((v2).toNat:Int))) (v4:UInt64) (h4:v4=(iK x4 (((16:UInt64)).toNat))) (v5:Int) (h5:v5=(IntKind.i64.wrap ((IntKind.i64.wrap (x2+x1)) - (2:Int)))) (v6:UInt16) (h6:v6=(List.getD x5 ((v5).toNat) (0:UInt16))) (v7:UInt64) (h7:v7=(UInt64.ofInt ((v6).toNat:Int))) (v8:Bool) (h8:v8=(decide ((v4 ||| v7)<(x3 * v3)))) (v9:Bool) (h9:v9=(cond (decide ((65535:UInt64)<x3)) true v8)) (v10:Int) (iA:v10=(IntKind.i64.wrap (x1 - (1:Int)))) (v11:UInt16) (ki:v11=(List.getD x0 (v10).toNat (0:UInt16))) (v12:UInt64) (jE:v12=(UInt64.ofInt ((v11).toNat:Int))),ck (!(!(decide ((65535:UInt64)<x3))) || (!(decide ((65535:UInt64)<x3)))) (ck (!(!(decide ((65535:UInt64)<x3))) || (((!(decide ((65535:UInt64)<x3)))&&(!(decide ((65535:UInt64)<x3))))&&(bB v1 (x0).length))) (ck (!(!(decide ((65535:UInt64)<x3))) || (!(decide ((65535:UInt64)<x3)))) (ck (!(!(decide ((65535:UInt64)<x3))) || (!(decide ((65535:UInt64)<x3)))) (ck (!(!(decide ((65535:UInt64)<x3))) || ((!(decide ((65535:UInt64)<x3)))&&(!(decide ((65535:UInt64)<x3))))) (ck (!(!(decide ((65535:UInt64)<x3))) || (!(decide ((65535:UInt64)<x3)))) (ck (!(!(decide ((65535:UInt64)<x3))) || ((!(decide ((65535:UInt64)<x3)))&&(!(decide ((65535:UInt64)<x3))))) (ck (!(!(decide ((65535:UInt64)<x3))) || (!(decide ((65535:UInt64)<x3)))) (ck (!(!(decide ((65535:UInt64)<x3))) || (((!(decide ((65535:UInt64)<x3)))&&(!(decide ((65535:UInt64)<x3))))&&(bB v5 (x5).length))) (ck (!(!(decide ((65535:UInt64)<x3))) || ((!(decide ((65535:UInt64)<x3)))&&(decide ((v5).toNat<(x5).length)))) (ck (!(!(decide ((65535:UInt64)<x3))) || (!(decide ((65535:UInt64)<x3)))) (ck (!(!(decide ((65535:UInt64)<x3))) || ((!(decide ((65535:UInt64)<x3)))&&(!(decide ((65535:UInt64)<x3))))) (ck (!(!(decide ((65535:UInt64)<x3))) || ((!(decide ((65535:UInt64)<x3)))&&(!(decide ((65535:UInt64)<x3))))) (ck ((decide ((65535:UInt64)<x3)) || (!(decide ((65535:UInt64)<x3)))) (cond v9
  (ck (bB v10 (x0).length) (cond (decide ((65535:UInt64)<(x4+v12)))
  (bE.j3 x0 x1 x2 (x3 - (1:UInt64)) x5 x6)
  (bE.l2 x0 x1 x2 (x3 - (1:UInt64)) (x4+v12) x5 x6)))
  (bE.j3 x0 x1 x2 x3 x5 x6)))))))))))))))=ρ):bE.l2 x0 x1 x2 x3 x4 x5 x6=ρ:=((bU _ _ _ _ _ _ _).trans (by kernel_rfl)).trans (K _ rfl _ rfl _ rfl _ rfl _ rfl _ rfl _ rfl _ rfl _ rfl _ rfl _ rfl _ rfl)
theorem bE.LC (x0:List UInt16) (x1:Int) (x2:Int) (x3:UInt64) (x4:List UInt16) (x5:List UInt16):bE.j3 x0 x1 x2 x3 x4 x5=bE.l4 x0 x1 x2 x3 (0:Int) (0:UInt64) x1 (0:Int) x4 x5:=((b9 _ _ _ _ _ _ _).trans (by kernel_rfl))
theorem bE.xv (x0:List UInt16) (x1:Int) (x2:Int) (x3:UInt64) (x4:Int) (x5:UInt64) (x6:Int) (x7:Int) (x8:List UInt16) (x9:List UInt16) {ρ:Option (List TV)} (K:∀(v1:UInt16) (h1:v1=(List.getD x0 (x7).toNat (0:UInt16))) (v2:UInt64) (h2:v2=(UInt64.ofInt ((v1).toNat:Int))) (v3:UInt64) (h3:v3=(dD ((x3 * v2)+x5) (((16:UInt64)).toNat))) (v4:Nat) (h4:v4=(((IntKind.i64.wrap (x7+x2))).toNat)) (v5:UInt16) (h5:v5=(List.getD x8 (v4) (0:UInt16))) (v6:Int) (h6:v6=(IntKind.i64.wrap ((v5).toNat:Int))) (v7:UInt64) (h7:v7=(((x3 * v2)+x5) &&& (65535:UInt64))) (v8:Int) (h8:v8=(IntKind.i64.wrap ((v7).toNat:Int))) (v9:Int) (h9:v9=(IntKind.i64.wrap ((IntKind.i64.wrap (v6 - x4)) - v8))) (v10:Int) (iA:v10=(Int.fdiv v9 (2 ^ (min (((16:UInt64)).toNat) (IntKind.i64.bits))))) (v11:Int) (ki:v11=(cI .and .i64 v10 (1:Int))) (v12:List UInt16) (jE:v12=(List.set x8 (v4) (UInt16.ofInt v9))) (kW:Int) (nY:kW=(IntKind.i64.wrap (x7+(1:Int)))) (jP:Nat) (pA:jP=(((IntKind.i64.wrap (x2+x1))).toNat)) (iD:UInt16) (o8:iD=(List.getD x8 (jP) (0:UInt16))) (mS:Int) (tO:mS=(IntKind.i64.wrap ((iD).toNat:Int))) (nT:Int) (xI:nT=(IntKind.i64.wrap (mS - x4))) (lO:Int) (wi:lO=(IntKind.i64.wrap ((x5).toNat:Int))) (qJ:Int) (BU:qJ=(IntKind.i64.wrap (nT - lO))) (v20:List UInt16) (zF:v20=(List.set x8 (jP) (UInt16.ofInt qJ))),cond (decide (x7<x6))
  (ck (bB x7 (x0).length) (ck (bB (IntKind.i64.wrap (x7+x2)) (x8).length) (ck (decide (v4<(x8).length)) (ck (bB (IntKind.i64.wrap (x7+x2)) (x8).length) (ck (decide (v4<(x8).length)) (bE.l4 x0 x1 x2 x3 v11 v3 x6 kW v12 x9))))))
  (ck (bB (IntKind.i64.wrap (x2+x1)) (x8).length) (ck (decide (jP<(x8).length)) (ck (bB (IntKind.i64.wrap (x2+x1)) (x8).length) (ck (decide (jP<(x8).length)) (cond (decide (qJ<(0:Int)))
  (bE.l5 x0 x1 x2 (x3 - (1:UInt64)) (0:UInt32) x1 (0:Int) v20 x9)
  (bE.j6 x0 x1 x2 x3 v20 x9))))))=ρ):bE.l4 x0 x1 x2 x3 x4 x5 x6 x7 x8 x9=ρ:=((bU _ _ _ _ _ _ _).trans (by kernel_rfl)).trans (K _ rfl _ rfl _ rfl _ rfl _ rfl _ rfl _ rfl _ rfl _ rfl _ rfl _ rfl _ rfl _ rfl _ rfl _ rfl _ rfl _ rfl _ rfl _ rfl _ rfl)
theorem bE.AB (x0:List UInt16) (x1:Int) (x2:Int) (x3:UInt64) (x4:UInt32) (x5:Int) (x6:Int) (x7:List UInt16) (x8:List UInt16) {ρ:Option (List TV)} (K:∀(v1:Nat) (h1:v1=(((IntKind.i64.wrap (x6+x2))).toNat)) (v2:UInt16) (h2:v2=(List.getD x7 (v1) (0:UInt16))) (v3:UInt32) (h3:v3=(UInt32.ofInt ((v2).toNat:Int))) (v4:UInt16) (h4:v4=(List.getD x0 (x6).toNat (0:UInt16))) (v5:UInt32) (h5:v5=(UInt32.ofInt ((v4).toNat:Int))) (v6:UInt16) (h6:v6=(UInt16.ofInt (((x4+(v3+v5))).toNat:Int))) (v7:UInt32) (h7:v7=(rW (x4+(v3+v5)) (((16:UInt64)).toNat))) (v8:Int) (h8:v8=(IntKind.i64.wrap (x6+(1:Int)))) (v9:Nat) (h9:v9=(((IntKind.i64.wrap (x2+x1))).toNat)) (v10:UInt16) (iA:v10=(List.getD x7 (v9) (0:UInt16))) (v11:UInt16) (ki:v11=(UInt16.ofInt ((x4).toNat:Int))) (v12:List UInt16) (jE:v12=(List.set x7 (v9) (v10+v11))),cond (decide (x6<x5))
  (ck (bB (IntKind.i64.wrap (x6+x2)) (x7).length) (ck (decide (v1<(x7).length)) (ck (bB x6 (x0).length) (ck (bB (IntKind.i64.wrap (x6+x2)) (x7).length) (ck (decide (v1<(x7).length)) (bE.l5 x0 x1 x2 x3 v7 x5 v8 (List.set x7 (v1) v6) x8))))))
  (ck (bB (IntKind.i64.wrap (x2+x1)) (x7).length) (ck (decide (v9<(x7).length)) (ck (bB (IntKind.i64.wrap (x2+x1)) (x7).length) (ck (decide (v9<(x7).length)) (bE.j6 x0 x1 x2 x3 v12 x8)))))=ρ):bE.l5 x0 x1 x2 x3 x4 x5 x6 x7 x8=ρ:=((bU _ _ _ _ _ _ _).trans (by kernel_rfl)).trans (K _ rfl _ rfl _ rfl _ rfl _ rfl _ rfl _ rfl _ rfl _ rfl _ rfl _ rfl _ rfl)
theorem bE.DM (x0:List UInt16) (x1:Int) (x2:Int) (x3:UInt64) (x4:List UInt16) (x5:List UInt16) {ρ:Option (List TV)} (K:∀(v1:UInt16) (h1:v1=(UInt16.ofInt ((x3).toNat:Int))) (v2:List UInt16) (h2:v2=(List.set x5 ((x2).toNat) v1)) (v3:Int) (h3:v3=(IntKind.i64.wrap (x2 - (1:Int)))),ck (bB x2 (x5).length) (ck (decide ((x2).toNat<(x5).length)) (bE.l1 x0 x1 v3 x4 v2))=ρ):bE.j6 x0 x1 x2 x3 x4 x5=ρ:=((b9 _ _ _ _ _ _ _).trans (by kernel_rfl)).trans (K _ rfl _ rfl _ rfl)
theorem bE.bZ (u:List UInt16) (v:List UInt16) {ρ:Option (List TV)} (K:∀(v1:List UInt16) (h1:v1=([(0:UInt16)]:List UInt16)) (v2:Int) (h2:v2=(IntKind.i64.wrap ((((u++v1)).length:Int) - ((v).length:Int)))) (v3:List UInt16) (h3:v3=(List.replicate (v2).toNat (0:UInt16))) (v4:Int) (h4:v4=(IntKind.i64.wrap (v2 - (1:Int)))),ck (fC ((u).length+(v1).length) 2) (ck (oq v2 v2 2) (bE.l1 v ((v).length:Int) v4 (u++v1) v3))=ρ):bE.F u v=ρ:=Eq.trans (by kernel_rfl) (K _ rfl _ rfl _ rfl _ rfl)
end
noncomputable section
def gK.E:cC:=cT fQ zs [(140,(eW.c,eW.sg)),(166,(eK.c,eK.sg)),(167,(eO.c,eO.sg)),(168,(bX.c,bX.sg)),(197,(eC.c,eC.sg)),(198,(eI.c,eI.sg)),(199,(ez.c,ez.sg)),(200,(bE.c,bE.sg)),(201,(da.c,da.sg)),(202,(cV.c,cV.sg))]
def gK.h:Hint := .o
noncomputable def gK.F (a:List UInt16) (b:List UInt16):Option (List TV):=cR Go.Proofs.Tryz.prog gK.E 171 gK.sg gK.h [(.sl .ws a),(.sl .ws b)]
theorem gK.bZ (a:List UInt16) (b:List UInt16) {ρ:Option (List TV)} (K:∀(v1:Bool) (h1:v1=(cond (!(Nt.is a)) true (!(Nt.is b)))) (v2:Bool) (h2:v2=(cond v1 true (decide (((b).length:Int)=(0:Int))))) (v3:Int) (h3:v3=(Nt.cmp (Nt.val a) (Nt.val b))) (v4:UInt16) (h4:v4=(List.getD b ((0:Int)).toNat (0:UInt16))) (v5:List UInt16) (h5:v5=(Nt.of (Nt.val a / (v4).toNat))) (v6:UInt16) (h6:v6=(UInt16.ofNat (Nt.val a % (v4).toNat))) (v7:UInt64) (h7:v7=(UInt64.ofInt ((v6).toNat:Int))) (v8:Int) (h8:v8=(IntKind.i64.wrap (((b).length:Int) - (1:Int)))) (v9:UInt16) (h9:v9=(List.getD b (v8).toNat (0:UInt16))) (v10:Int) (iA:v10=(IntKind.i64.wrap ((16:Int) - ((Nt.bits (v9).toNat:Int))))) (v11:List UInt16) (ki:v11=(Nt.of (Nt.val a * 2 ^ (v10).toNat))) (v12:List UInt16) (jE:v12=(Nt.of (Nt.val b * 2 ^ (v10).toNat))) (kW:List UInt16) (nY:kW=(Nt.fix ((v11).length+1 - (v12).length) (Nt.val v11 / Nt.val v12))) (jP:List UInt16) (pA:jP=(Nt.fix (v12).length (Nt.val v11 % Nt.val v12))) (iD:List UInt16) (o8:iD=(Nt.of (Nt.val ((Nt.of (Nt.val jP))) / 2 ^ (v10).toNat))),ck (decide ((a).length≤1099511627776)) (ck (!(!(!(Nt.is a))) || ((!(!(Nt.is a)))&&(decide ((b).length≤1099511627776)))) (ck (!(!(!(Nt.is a))) || (!(!(Nt.is a)))) (ck ((!(Nt.is a)) || (!(!(Nt.is a)))) (ck (!(!v1) || (!v1)) (ck (!(!v1) || (!v1)) (ck (v1 || (!v1)) (cond v2
  (some [(.sl .ws ([]:List UInt16)),(.sl .ws ([]:List UInt16)),(.b false)])
  (ck (decide ((a).length≤1099511627776∧(b).length≤1099511627776)&&(Nt.norm a&&Nt.norm b)) (cond (decide (v3<(0:Int)))
  (ck (fC (a).length 2) (some [(.sl .ws ([]:List UInt16)),(.sl .ws (a)),(.b true)]))
  (cond (decide (((b).length:Int)=(1:Int)))
  (ck (bB (0:Int) (b).length) (ck (decide ((a).length≤1000000∧v4≠0)) (some [(.sl .ws v5),(.sl .ws (Nt.of (v7).toNat)),(.b true)])))
  (ck (bB v8 (b).length) (ck (decide ((a).length≤1000000∧0≤v10∧v10<16)&&Nt.norm a) (ck (decide ((b).length≤1000000∧0≤v10∧v10<16)&&Nt.norm b) (ck (decide ((v11).length≤1000000∧2≤(v12).length∧(v12).length≤(v11).length∧32768≤((v12).getLast?.getD 0).toNat)) (ck (decide ((kW).length≤1099511627776)) (ck (decide ((jP).length≤1099511627776)) (ck (decide ((((Nt.of (Nt.val jP)))).length≤1000000∧0≤v10∧v10<16)) (some [(.sl .ws (Nt.of (Nt.val kW))),(.sl .ws iD),(.b true)]))))))))))))))))))=ρ):gK.F a b=ρ:=Eq.trans (by kernel_rfl) (K _ rfl _ rfl _ rfl _ rfl _ rfl _ rfl _ rfl _ rfl _ rfl _ rfl _ rfl _ rfl _ rfl _ rfl _ rfl)
end
noncomputable section
def ir.E:cC:=cT fQ zs [(166,(eK.c,eK.sg)),(167,(eO.c,eO.sg))]
def ir.h:Hint := .o
noncomputable def ir.F (a:List UInt16) (n:Int):Option (List TV):=cR Go.Proofs.Tryz.prog ir.E 141 ir.sg ir.h [(.sl .ws a),(.i .i64 n)]
theorem ir.bZ (a:List UInt16) (n:Int) {ρ:Option (List TV)} (K:∀(v1:Bool) (h1:v1=(cond (!(Nt.is a)) true (decide (n<(0:Int))))) (v2:Bool) (h2:v2=(cond v1 true (decide ((4096:Int)<n)))) (v3:Bool) (h3:v3=(cond v2 true (decide (((a).length:Int)=(0:Int))))) (v4:Int) (h4:v4=(IntKind.i64.wrap (Int.tdiv n (16:Int)))) (v5:List UInt16) (h5:v5=(List.replicate (v4).toNat (0:UInt16))) (v6:List UInt16) (h6:v6=(Nt.of (Nt.val a * 2 ^ (((Int.tmod n (16:Int)))).toNat))),ck (decide ((a).length≤1099511627776)) (ck (!(!(!(Nt.is a))) || (!(!(Nt.is a)))) (ck ((!(Nt.is a)) || (!(!(Nt.is a)))) (ck (!(!v1) || (!v1)) (ck (v1 || (!v1)) (ck (!(!v2) || (!v2)) (ck (!(!v2) || (!v2)) (ck (v2 || (!v2)) (cond v3
  (some [(.sl .ws ([]:List UInt16))])
  (ck (!decide ((16:Int)=0)) (ck (oq v4 v4 2) (ck (!decide ((16:Int)=0)) (ck (decide ((a).length≤1000000∧0≤((Int.tmod n (16:Int)))∧((Int.tmod n (16:Int)))<16)&&Nt.norm a) (ck (fC ((v5).length+(v6).length) 2) (some [(.sl .ws (v5++v6))]))))))))))))))=ρ):ir.F a n=ρ:=Eq.trans (by kernel_rfl) (K _ rfl _ rfl _ rfl _ rfl _ rfl _ rfl)
end
noncomputable section
def cP.E:cC:=cT fQ zs []
def cP.h:Hint := .s .o (.s .o (.s .o (.s (.s .o (.b (.l [(1,.no),(7,.fA 800000),(800000,.pv),(8,.no),(16,.no),(17,.no),(18,.no)] .o))) (.j [(7,.fA 800000),(800000,.pv)] .o .o))))
noncomputable def cP.F (a:List UInt16) (b:Int) (c:Int):Option (List TV):=cR Go.Proofs.Tryz.prog cP.E 218 cP.sg cP.h [(.sl .ws a),(.i .i64 b),(.i .i64 c)]
noncomputable def cP.l1 (x0:Int) (x1:List UInt16) (x2:Int) (x3:List UInt16) (x4:Int) (x5:Int):Option (List TV):=dQ Go.Proofs.Tryz.prog cP.E 218 cP.sg cP.h 87 [(.i .i64 x0),.pt,(.sl .ws x1),(.i .i64 x2),(.sl .ws x3),(.i .i64 x4),(.i .i64 x5)]
noncomputable def cP.j2 (x0:List UInt16):Option (List TV):=eD Go.Proofs.Tryz.prog cP.E 218 cP.sg cP.h 31 [.pt,(.sl .ws x0)]
theorem cP.bV (x0:Int) (x1:List UInt16) (x2:Int) (x3:List UInt16) (x4:Int) (x5:Int) {ρ:Option (List TV)} (K:∀(v1:UInt16) (h1:v1=(List.getD x3 (x5).toNat (0:UInt16))) (v2:Int) (h2:v2=(IntKind.i64.wrap ((v1).toNat:Int))) (v3:Int) (h3:v3=(IntKind.i64.wrap (x2+(IntKind.i64.wrap (v2 * x0))))) (v4:List UInt16) (h4:v4=([(UInt16.ofInt v3)]:List UInt16)) (v5:Int) (h5:v5=(Int.fdiv v3 (2 ^ (min (((16:UInt64)).toNat) (IntKind.i64.bits))))) (v6:Int) (h6:v6=(IntKind.i64.wrap (x5+(1:Int)))) (v7:List UInt16) (h7:v7=([(UInt16.ofInt x2)]:List UInt16)),cond (decide (x5<x4))
  (ck (bB x5 (x3).length) (ck (fC ((x1).length+(v4).length) 2) (cP.l1 x0 (x1++v4) v5 x3 x4 v6)))
  (cond (decide ((0:Int)<x2))
  (ck (fC ((x1).length+(v7).length) 2) (cP.j2 (x1++v7)))
  (cP.j2 x1))=ρ):cP.l1 x0 x1 x2 x3 x4 x5=ρ:=((bU _ _ _ _ _ _ _).trans (by kernel_rfl)).trans (K _ rfl _ rfl _ rfl _ rfl _ rfl _ rfl _ rfl)
theorem cP.jZ (x0:List UInt16):cP.j2 x0=some [(.sl .ws x0)]:=((b9 _ _ _ _ _ _ _).trans (by kernel_rfl))
theorem cP.bZ (a:List UInt16) (b:Int) (c:Int) {ρ:Option (List TV)} (K:∀(v1:Int) (h1:v1=(IntKind.i64.wrap (((a).length:Int)+(1:Int)))) (v2:List UInt16) (h2:v2=(List.replicate ((0:Int)).toNat (0:UInt16))),ck (oq (0:Int) v1 2) (cP.l1 b v2 c a ((a).length:Int) (0:Int))=ρ):cP.F a b c=ρ:=Eq.trans (by kernel_rfl) (K _ rfl _ rfl)
end
noncomputable section
def cU.E:cC:=cT fQ zs [(140,(eW.c,eW.sg)),(166,(eK.c,eK.sg)),(218,(cP.c,cP.sg))]
def cU.h:Hint := .s .o (.s .o (.s .o (.s (.b (.l (sc [0,1,6]) .o)) .o)))
noncomputable def cU.F (b:Int) (e:Int):Option (List TV):=cR Go.Proofs.Tryz.prog cU.E 195 cU.sg cU.h [(.i .i64 b),(.i .i64 e)]
noncomputable def cU.l1 (x0:Int) (x1:Int) (x2:List UInt16):Option (List TV):=dQ Go.Proofs.Tryz.prog cU.E 195 cU.sg cU.h 39 [(.i .i64 x0),(.i .i64 x1),(.sl .ws x2)]
theorem cU.bV (x0:Int) (x1:Int) (x2:List UInt16) {ρ:Option (List TV)} (K:∀(v1:List UInt16) (h1:v1=(Nt.of (Nt.val x2 * (x0).toNat+(((0:Int))).toNat))) (v2:Int) (h2:v2=(IntKind.i64.wrap (x1 - (1:Int)))),cond (decide ((0:Int)<x1))
  (ck (decide ((x2).length≤1000000∧1≤x0∧x0≤65535∧0≤((0:Int))∧((0:Int))≤65535)&&Nt.norm x2) (ck (decide ((v1).length≤1099511627776)) (cond (!(Nt.is v1))
  (some [(.sl .ws ([]:List UInt16)),(.b false)])
  (cU.l1 x0 v2 v1))))
  (some [(.sl .ws x2),(.b true)])=ρ):cU.l1 x0 x1 x2=ρ:=((bU _ _ _ _ _ _ _).trans (by kernel_rfl)).trans (K _ rfl _ rfl)
theorem cU.bZ (b:Int) (e:Int) {ρ:Option (List TV)} (K:∀(v1:Bool) (h1:v1=(cond (decide (b<(0:Int))) true (decide ((65535:Int)<b)))) (v2:Bool) (h2:v2=(cond v1 true (decide (e<(0:Int))))) (v3:Bool) (h3:v3=(cond (decide (e=(0:Int))) true (decide (b=(1:Int))))) (v4:List UInt16) (h4:v4=(Nt.of (((1:UInt64))).toNat)),ck (!(!(decide (b<(0:Int)))) || (!(decide (b<(0:Int))))) (ck ((decide (b<(0:Int))) || (!(decide (b<(0:Int))))) (ck (!(!v1) || (!v1)) (ck (v1 || (!v1)) (cond v2
  (some [(.sl .ws ([]:List UInt16)),(.b false)])
  (ck (!(!(decide (e=(0:Int)))) || (!(decide (e=(0:Int))))) (ck ((decide (e=(0:Int))) || (!(decide (e=(0:Int))))) (cond v3
  (some [(.sl .ws v4),(.b true)])
  (cond (decide (b=(0:Int)))
  (some [(.sl .ws ([]:List UInt16)),(.b true)])
  (cU.l1 b e v4)))))))))=ρ):cU.F b e=ρ:=Eq.trans (by kernel_rfl) (K _ rfl _ rfl _ rfl _ rfl)
end
noncomputable section
def dm.E:cC:=cT fQ zs [(166,(eK.c,eK.sg)),(218,(cP.c,cP.sg))]
def dm.h:Hint := .s .o (.s .o (.s .o (.s (.s .o (.b (.l (sc [0,4,24,25]) .o))) .o)))
noncomputable def dm.F (s:bz):Option (List TV):=cR Go.Proofs.Tryz.prog dm.E 227 dm.sg dm.h [(.s s)]
noncomputable def dm.l1 (x0:bz) (x1:List UInt16) (x2:Int) (x3:Int):Option (List TV):=dQ Go.Proofs.Tryz.prog dm.E 227 dm.sg dm.h 87 [(.s x0),(.sl .ws x1),(.i .i64 x2),(.i .i64 x3)]
theorem dm.bV (x0:bz) (x1:List UInt16) (x2:Int) (x3:Int) {ρ:Option (List TV)} (K:∀(v1:UInt8) (h1:v1=(List.getD x0 (x3).toNat (0:UInt8))) (v2:Bool) (h2:v2=(cond (decide (v1<(48:UInt8))) true (decide ((57:UInt8)<v1)))) (v3:Int) (h3:v3=(IntKind.i64.wrap (((v1 - (48:UInt8))).toNat:Int))) (v4:List UInt16) (h4:v4=(Nt.of (Nt.val x1 * (((10:Int))).toNat+(v3).toNat))) (v5:Int) (h5:v5=(IntKind.i64.wrap (x3+(1:Int)))),cond (decide (x3<x2))
  (ck (bB x3 (x0).length) (ck (!(!(decide (v1<(48:UInt8)))) || (((!(decide (v1<(48:UInt8))))&&(!(decide (v1<(48:UInt8)))))&&(bB x3 (x0).length))) (ck (!(!(decide (v1<(48:UInt8)))) || (!(decide (v1<(48:UInt8))))) (ck ((decide (v1<(48:UInt8))) || (!(decide (v1<(48:UInt8))))) (cond v2
  (some [(.sl .ws ([]:List UInt16)),(.b false)])
  (ck (bB x3 (x0).length) (ck (decide ((x1).length≤1000000∧1≤((10:Int))∧((10:Int))≤65535∧0≤v3∧v3≤65535)&&Nt.norm x1) (dm.l1 x0 v4 x2 v5))))))))
  (ck (decide ((x1).length≤1099511627776)) (cond (!(Nt.is x1))
  (some [(.sl .ws ([]:List UInt16)),(.b false)])
  (some [(.sl .ws x1),(.b true)])))=ρ):dm.l1 x0 x1 x2 x3=ρ:=((bU _ _ _ _ _ _ _).trans (by kernel_rfl)).trans (K _ rfl _ rfl _ rfl _ rfl _ rfl)
theorem dm.bZ (s:bz) {ρ:Option (List TV)} (K:∀(v1:Bool) (h1:v1=(cond (decide (s=([]:bz))) true (decide ((1240:Int)<((s).length:Int))))) (v2:UInt8) (h2:v2=(List.getD s ((0:Int)).toNat (0:UInt8))) (v3:Bool) (h3:v3=((!v1)&&(decide (v2=(48:UInt8))))) (v4:Bool) (h4:v4=(cond (decide (v2=(48:UInt8))) (decide ((1:Int)<((s).length:Int))) false)),ck (!(!(decide (s=([]:bz)))) || (!(decide (s=([]:bz))))) (ck (!(!(decide (s=([]:bz)))) || (!(decide (s=([]:bz))))) (ck ((decide (s=([]:bz))) || (!(decide (s=([]:bz))))) (ck (!(!v1) || ((!v1)&&(bB (0:Int) (s).length))) (ck (!(!v1) || (!v1)) (ck (!(!v1) || (!v1)) (ck (!v3 || v3) (ck (!v3 || v3) (ck (!(!v1) || ((!v1)&&(!(decide (v2=(48:UInt8))) || v3))) (ck (v1 || (!v1)) (cond (cond v1 true v4)
  (some [(.sl .ws ([]:List UInt16)),(.b false)])
  (dm.l1 s ([]:List UInt16) ((s).length:Int) (0:Int))))))))))))=ρ):dm.F s=ρ:=Eq.trans (by kernel_rfl) (K _ rfl _ rfl _ rfl _ rfl)
end
noncomputable section
def dM.E:cC:=cT fQ zs [(191,(bits_Len64.c,bits_Len64.sg)),(217,(lx.c,lx.sg))]
def dM.h:Hint := .s .o (.s .o (.j (sc [1,2,8]) .o .o))
noncomputable def dM.F (n:Bool) (m:UInt64) (e:Int):Option (List TV):=cR Go.Proofs.Tryz.prog dM.E 242 dM.sg dM.h [(.b n),(.u64 m),(.i .i64 e)]
noncomputable def dM.j1 (x0:UInt64) (x1:Int) (x2:UInt64):Option (List TV):=eD Go.Proofs.Tryz.prog dM.E 242 dM.sg dM.h 7 [(.u64 x0),(.i .i64 x1),(.u64 x2)]
theorem dM.iI (x0:UInt64) (x1:Int) (x2:UInt64) {ρ:Option (List TV)} (K:∀(v1:Bool) (h1:v1=(cond (decide (x1<(-2000:Int))) true (decide ((2000:Int)<x1)))) (v2:Int) (h2:v2=((Lib.ctz 64 (x0).toNat:Int))) (v3:Int) (h3:v3=((Nt.bits (((dD x0 ((v2).toNat)))).toNat:Int))) (v4:Bool) (h4:v4=(cond (decide ((53:Int)<v3)) true (decide ((IntKind.i64.wrap (x1+v2))<(-1074:Int))))) (v5:Int) (h5:v5=(IntKind.i64.wrap ((IntKind.i64.wrap (x1+v2))+v3))) (v6:Bool) (h6:v6=(cond v4 true (decide ((1024:Int)<v5)))) (v7:Int) (h7:v7=(IntKind.i64.wrap (v5 - (1:Int)))) (v8:Int) (h8:v8=(IntKind.i64.wrap ((IntKind.i64.wrap (x1+v2))+(1074:Int)))) (v9:UInt64) (h9:v9=(iK (dD x0 ((v2).toNat)) ((v8).toNat))) (v10:Int) (iA:v10=(IntKind.i64.wrap ((53:Int) - v3))) (v11:UInt64) (ki:v11=(iK (dD x0 ((v2).toNat)) ((v10).toNat))) (v12:Int) (jE:v12=(IntKind.i64.wrap ((IntKind.i64.wrap (x1+v2)) - v10))) (kW:Int) (nY:kW=(IntKind.i64.wrap (v12+(1075:Int)))) (jP:UInt64) (pA:jP=(iK (UInt64.ofInt kW) (((52:UInt64)).toNat))) (iD:UInt64) (o8:iD=(v11 &&& (4503599627370495:UInt64))),cond (decide (x0=(0:UInt64)))
  (some [(.u64 x2),(.b true)])
  (ck (!(!(decide (x1<(-2000:Int)))) || (!(decide (x1<(-2000:Int))))) (ck ((decide (x1<(-2000:Int))) || (!(decide (x1<(-2000:Int))))) (cond v1
  (some [(.u64 0),(.b false)])
  (ck (decide (0≤v2)) (ck (!(!(decide ((53:Int)<v3))) || (!(decide ((53:Int)<v3)))) (ck ((decide ((53:Int)<v3)) || (!(decide ((53:Int)<v3)))) (ck (!(!v4) || ((!v4)&&(!v4))) (ck (!(!v4) || (!v4)) (ck (v4 || (!v4)) (cond v6
  (some [(.u64 0),(.b false)])
  (cond (decide (v7<(-1022:Int)))
  (ck (decide (0≤v8)) (some [(.u64 (x2 ||| v9)),(.b true)]))
  (ck (decide (0≤v10)) (some [(.u64 ((x2 ||| jP) ||| iD)),(.b true)])))))))))))))=ρ):dM.j1 x0 x1 x2=ρ:=((b9 _ _ _ _ _ _ _).trans (by kernel_rfl)).trans (K _ rfl _ rfl _ rfl _ rfl _ rfl _ rfl _ rfl _ rfl _ rfl _ rfl _ rfl _ rfl _ rfl _ rfl _ rfl)
theorem dM.eJ (n:Bool) (m:UInt64) (e:Int):dM.F n m e=cond n
  (dM.j1 m e (9223372036854775808:UInt64))
  (dM.j1 m e (0:UInt64)):=by kernel_rfl
end
noncomputable section
def cr.E:cC:=cT fQ zs [(141,(ir.c,ir.sg)),(170,(fW.c,fW.sg)),(171,(gK.c,gK.sg)),(251,(dj.c,dj.sg))]
def cr.h:Hint := .s .o (.j (sc [0,1]) .o .o)
noncomputable def cr.F (a:List UInt16) (b:List UInt16) (e:Int):Option (List TV):=cR Go.Proofs.Tryz.prog cr.E 241 cr.sg cr.h [(.sl .ws a),(.sl .ws b),(.i .i64 e)]
noncomputable def cr.j1 (x0:List UInt16) (x1:List UInt16):Option (List TV):=eD Go.Proofs.Tryz.prog cr.E 241 cr.sg cr.h 3 [(.sl .ws x0),(.sl .ws x1)]
theorem cr.iI (x0:List UInt16) (x1:List UInt16) {ρ:Option (List TV)} (K:∀(v1:List UInt16) (h1:v1=(Nt.of (Nt.val x0 / Nt.val x1))) (v2:List UInt16) (h2:v2=(Nt.of (Nt.val x0 % Nt.val x1))) (v3:List UInt16) (h3:v3=(Nt.of (Nt.val v2 * 2 ^ (((1:Int))).toNat))) (v4:Int) (h4:v4=(Nt.cmp (Nt.val v3) (Nt.val x1))) (v5:Bool) (h5:v5=((!(decide ((0:Int)<v4)))&&(decide (v4=(0:Int))))) (v6:UInt64) (h6:v6=((UInt64.ofNat (Nt.val v1)) % (2:UInt64))) (v7:Bool) (h7:v7=(cond (decide (v4=(0:Int))) (decide (v6=(1:UInt64))) false)) (v8:Bool) (h8:v8=(cond (decide ((0:Int)<v4)) true v7)) (v9:UInt64) (h9:v9=((UInt64.ofNat (Nt.val v1))+(1:UInt64))),ck (Nt.is x0&&Nt.is x1&&decide (x1≠[])) (ck (decide (Nt.is v1=true∧(v1).length≤4)) (ck (decide (0≤((1:Int))∧((1:Int))≤4096)&&Nt.is v2) (ck (Nt.is v3&&Nt.is x1) (ck (!(!(decide ((0:Int)<v4))) || (!(decide ((0:Int)<v4)))) (ck (!(!(decide ((0:Int)<v4))) || (!(decide ((0:Int)<v4)))) (ck (!v5 || (v5&&(!decide ((2:UInt64)=0)))) (ck (!v5 || v5) (ck (!(!(decide ((0:Int)<v4))) || ((!(decide ((0:Int)<v4)))&&(!(decide (v4=(0:Int))) || v5))) (ck ((decide ((0:Int)<v4)) || (!(decide ((0:Int)<v4)))) (cond v8
  (some [(.u64 v9),(.b (decide (v9=(9007199254740992:UInt64))))])
  (some [(.u64 (UInt64.ofNat (Nt.val v1))),(.b false)])))))))))))=ρ):cr.j1 x0 x1=ρ:=((b9 _ _ _ _ _ _ _).trans (by kernel_rfl)).trans (K _ rfl _ rfl _ rfl _ rfl _ rfl _ rfl _ rfl _ rfl _ rfl)
theorem cr.bZ (a:List UInt16) (b:List UInt16) (e:Int) {ρ:Option (List TV)} (K:∀(v1:List UInt16) (h1:v1=(Nt.of (Nt.val a * 2 ^ (((IntKind.i64.wrap (0 - e)))).toNat))) (v2:List UInt16) (h2:v2=(Nt.of (Nt.val b * 2 ^ (e).toNat))),cond (decide (e<(0:Int)))
  (ck (decide (0≤((IntKind.i64.wrap (0 - e)))∧((IntKind.i64.wrap (0 - e)))≤4096)&&Nt.is a) (cr.j1 v1 b))
  (ck (decide (0≤e∧e≤4096)&&Nt.is b) (cr.j1 a v2))=ρ):cr.F a b e=ρ:=Eq.trans (by kernel_rfl) (K _ rfl _ rfl)
end
noncomputable section
def de.E:cC:=cT fQ zs [(142,(fH.c,fH.sg)),(241,(cr.c,cr.sg)),(242,(dM.c,dM.sg))]
def de.h:Hint := .s .o (.s .o (.s .o (.j (sc [6,7]) .o .o)))
noncomputable def de.F (a:List UInt16) (b:List UInt16):Option (List TV):=cR Go.Proofs.Tryz.prog de.E 228 de.sg de.h [(.sl .ws a),(.sl .ws b)]
noncomputable def de.j1 (x0:Int) (x1:UInt64):Option (List TV):=eD Go.Proofs.Tryz.prog de.E 228 de.sg de.h 15 [(.i .i64 x0),(.u64 x1)]
theorem de.iI (x0:Int) (x1:UInt64) {ρ:Option (List TV)} (K:∀(v1:UInt64) (h1:v1=(Nr.pat (Nr.join false (x1).toNat x0))) (v2:Bool) (h2:v2=((Nr.join false (x1).toNat x0).isSome)),ck (decide (-1100≤x0∧x0≤2000)) (some [(.u64 v1),(.b v2)])=ρ):de.j1 x0 x1=ρ:=((b9 _ _ _ _ _ _ _).trans (by kernel_rfl)).trans (K _ rfl _ rfl)
theorem de.bZ (a:List UInt16) (b:List UInt16) {ρ:Option (List TV)} (K:∀(v1:Int) (h1:v1=(IntKind.i64.wrap (((Nt.bits (Nt.val a):Int)) - ((Nt.bits (Nt.val b):Int))))) (v2:Int) (h2:v2=(IntKind.i64.wrap (v1 - (53:Int)))) (v3:UInt64) (h3:v3=(UInt64.ofNat (Nr.tp (Nr.jb (Nt.val a) ((mL v2 (-1074:Int)))) (Nr.iU (Nt.val b) ((mL v2 (-1074:Int))))))) (v4:Bool) (h4:v4=(Nr.lg (Nr.jb (Nt.val a) ((mL v2 (-1074:Int)))) (Nr.iU (Nt.val b) ((mL v2 (-1074:Int)))))) (v5:Bool) (h5:v5=(cond (decide ((9007199254740992:UInt64)≤v3)) (!v4) false)) (v6:Int) (h6:v6=(IntKind.i64.wrap ((mL v2 (-1074:Int))+(1:Int)))) (v7:UInt64) (h7:v7=(UInt64.ofNat (Nr.tp (Nr.jb (Nt.val a) v6) (Nr.iU (Nt.val b) v6)))) (v8:Bool) (h8:v8=(Nr.lg (Nr.jb (Nt.val a) v6) (Nr.iU (Nt.val b) v6))),ck (Nt.is a) (ck (Nt.is b) (ck (Nt.is a&&Nt.is b&&decide (-4096≤((mL v2 (-1074:Int)))∧((mL v2 (-1074:Int)))≤4096∧0<Nt.val b∧Nr.jb (Nt.val a) ((mL v2 (-1074:Int)))<2 ^ 4090∧Nr.iU (Nt.val b) ((mL v2 (-1074:Int)))<2 ^ 4090∧Nr.jb (Nt.val a) ((mL v2 (-1074:Int)))<2 ^ 60 * Nr.iU (Nt.val b) ((mL v2 (-1074:Int))))) (ck (!(decide ((9007199254740992:UInt64)≤v3)) || (decide ((9007199254740992:UInt64)≤v3))) (ck (!(decide ((9007199254740992:UInt64)≤v3)) || (decide ((9007199254740992:UInt64)≤v3))) (cond v5
  (ck (Nt.is a&&Nt.is b&&decide (-4096≤v6∧v6≤4096∧0<Nt.val b∧Nr.jb (Nt.val a) v6<2 ^ 4090∧Nr.iU (Nt.val b) v6<2 ^ 4090∧Nr.jb (Nt.val a) v6<2 ^ 60 * Nr.iU (Nt.val b) v6)) (de.j1 v6 v7))
  (de.j1 (mL v2 (-1074:Int)) v3))))))=ρ):de.F a b=ρ:=Eq.trans (by kernel_rfl) (K _ rfl _ rfl _ rfl _ rfl _ rfl _ rfl _ rfl _ rfl)
end
noncomputable section
def dL.E:cC:=cT fQ zs [(140,(eW.c,eW.sg)),(150,(gq.c,gq.sg)),(195,(cU.c,cU.sg)),(196,(dp.c,dp.sg)),(204,(fK.c,fK.sg)),(226,(kZ.c,kZ.sg)),(227,(dm.c,dm.sg)),(228,(de.c,de.sg))]
def dL.h:Hint := .s .o (.s .o (.s .o (.s .o (.s .o (.s .o (.s .o (.s .o (.s .o (.s .o (.j (sc [7,9]) .o .o))))))))))
noncomputable def dL.F (d:bz) (x:Int):Option (List TV):=cR Go.Proofs.Tryz.prog dL.E 205 dL.sg dL.h [(.s d),(.i .i64 x)]
noncomputable def dL.j1 (x0:List UInt16) (x1:List UInt16):Option (List TV):=eD Go.Proofs.Tryz.prog dL.E 205 dL.sg dL.h 2047 [(.sl .ws x0),(.sl .ws x1)]
theorem dL.iI (x0:List UInt16) (x1:List UInt16) {ρ:Option (List TV)} (K:∀(v1:UInt64) (h1:v1=(Nr.pat (Nr.gZ (Nt.val x0) (Nt.val x1)))) (v2:Bool) (h2:v2=((Nr.gZ (Nt.val x0) (Nt.val x1)).isSome)),ck (Nt.is x0&&Nt.is x1&&decide (0<Nt.val x0∧0<Nt.val x1∧Nt.val x0<2 ^ 1100∧Nt.val x1<2 ^ 2200)) (some [(.u64 v1),(.b v2)])=ρ):dL.j1 x0 x1=ρ:=((b9 _ _ _ _ _ _ _).trans (by kernel_rfl)).trans (K _ rfl _ rfl)
theorem dL.bZ (d:bz) (x:Int) {ρ:Option (List TV)} (K:∀(v1:Bool) (h1:v1=(cond (decide (((d).length:Int)<(1:Int))) true (decide ((300:Int)<((d).length:Int))))) (v2:bz) (h2:v2=(Lib.trimS d (([48,49,50,51,52,53,54,55,56,57]:bz)))) (v3:Bool) (h3:v3=(cond v1 true (!decide (v2=([]:bz))))) (v4:bz) (h4:v4=(Lib.trimLeftS d (([48]:bz)))) (v5:Bool) (h5:v5=(cond (decide (v4=([]:bz))) true (decide (x<(-1000:Int))))) (v6:Int) (h6:v6=(IntKind.i64.wrap (((d).length:Int) - ((v4).length:Int)))) (v7:bz) (h7:v7=(Lib.trimRightS v4 (([48]:bz)))) (v8:List UInt16) (h8:v8=(Nt.of (((1:UInt64))).toNat)) (v9:Int) (h9:v9=(IntKind.i64.wrap ((IntKind.i64.wrap (x - v6)) - ((v7).length:Int)))) (v10:List UInt16) (iA:v10=(Nt.of ((((10:Int))).toNat ^ (v9).toNat))) (v11:List UInt16) (ki:v11=(Nt.of (Nt.val ((Nt.of (Nr.num v7))) * Nt.val v10))) (v12:List UInt16) (jE:v12=(Nt.of ((((10:Int))).toNat ^ (((IntKind.i64.wrap (0 - v9)))).toNat))),ck (!(!(decide (((d).length:Int)<(1:Int)))) || (!(decide (((d).length:Int)<(1:Int))))) (ck (!(!(decide (((d).length:Int)<(1:Int)))) || (!(decide (((d).length:Int)<(1:Int))))) (ck ((decide (((d).length:Int)<(1:Int))) || (!(decide (((d).length:Int)<(1:Int))))) (ck (!(!v1) || ((!v1)&&(decide ((d).length≤1099511627776∧((([48,49,50,51,52,53,54,55,56,57]:bz))).length≤100)&&((([48,49,50,51,52,53,54,55,56,57]:bz))).all (fun b=>decide (b.toNat<128))))) (ck (!(!v1) || (!v1)) (ck (v1 || (!v1)) (cond v3
  (some [(.u64 0),(.b false)])
  (ck (decide ((d).length≤1099511627776∧((([48]:bz))).length≤100)&&((([48]:bz))).all (fun b=>decide (b.toNat<128))) (ck (!(!(decide (v4=([]:bz)))) || (!(decide (v4=([]:bz))))) (ck ((decide (v4=([]:bz))) || (!(decide (v4=([]:bz))))) (cond v5
  (some [(.u64 0),(.b true)])
  (cond (decide ((1000:Int)<x))
  (some [(.u64 0),(.b false)])
  (ck (decide ((v4).length≤1099511627776∧((([48]:bz))).length≤100)&&((([48]:bz))).all (fun b=>decide (b.toNat<128))) (cond (decide ((IntKind.i64.wrap (x - v6))<(-330:Int)))
  (some [(.u64 0),(.b true)])
  (cond (decide ((310:Int)<(IntKind.i64.wrap (x - v6))))
  (some [(.u64 0),(.b false)])
  (ck (decide (1≤(v7).length∧(v7).length≤300∧(v7).getD 0 0≠48)&&(v7).all Nr.dV) (cond (decide ((0:Int)≤v9))
  (ck (decide (2≤((10:Int))∧((10:Int))≤65535∧0≤v9∧v9≤1000∧(((10:Int))).toNat ^ (v9).toNat<2 ^ 4096)) (ck (Nt.is ((Nt.of (Nr.num v7)))&&Nt.is v10) (dL.j1 v11 v8)))
  (ck (decide (2≤((10:Int))∧((10:Int))≤65535∧0≤((IntKind.i64.wrap (0 - v9)))∧((IntKind.i64.wrap (0 - v9)))≤1000∧(((10:Int))).toNat ^ (((IntKind.i64.wrap (0 - v9)))).toNat<2 ^ 4096)) (dL.j1 (Nt.of (Nr.num v7)) v12))))))))))))))))))=ρ):dL.F d x=ρ:=Eq.trans (by kernel_rfl) (K _ rfl _ rfl _ rfl _ rfl _ rfl _ rfl _ rfl _ rfl _ rfl _ rfl _ rfl _ rfl)
end
noncomputable section
def ja.E:cC:=cT fQ zs []
def ja.h:Hint := .o
noncomputable def ja.F (s:bz) (at_:Int) (c:UInt8) (d:UInt8):Option (List TV):=cR Go.Proofs.Tryz.prog ja.E 104 ja.sg ja.h [(.s s),(.i .i64 at_),(.u8 c),(.u8 d)]
theorem ja.bZ (s:bz) (at_:Int) (c:UInt8) (d:UInt8) {ρ:Option (List TV)} (K:∀(v1:UInt8) (h1:v1=(List.getD s (at_).toNat (0:UInt8))) (v2:Bool) (h2:v2=((decide (at_<((s).length:Int)))&&(!(decide (v1=c))))) (v3:Bool) (h3:v3=(cond (decide (v1=c)) true (decide (v1=d)))) (v4:Bool) (h4:v4=(cond (decide (at_<((s).length:Int))) v3 false)),ck (!(decide (at_<((s).length:Int))) || (((decide (at_<((s).length:Int)))&&(decide (at_<((s).length:Int))))&&(bB at_ (s).length))) (ck (!(decide (at_<((s).length:Int))) || ((decide (at_<((s).length:Int)))&&(decide (at_<((s).length:Int))))) (ck (!(decide (at_<((s).length:Int))) || (decide (at_<((s).length:Int)))) (ck (!v2 || ((v2&&v2)&&(bB at_ (s).length))) (ck (!v2 || (v2&&v2)) (ck (!(decide (at_<((s).length:Int))) || ((decide (at_<((s).length:Int)))&&((decide (v1=c)) || v2))) (ck (!(decide (at_<((s).length:Int))) || (decide (at_<((s).length:Int)))) (some [(.b v4)])))))))=ρ):ja.F s at_ c d=ρ:=Eq.trans (by kernel_rfl) (K _ rfl _ rfl _ rfl _ rfl)
end
noncomputable section
def cK.E:cC:=cT fQ zs []
def cK.h:Hint := .s .o (.s (.b (.l (sc [0,1]) .o)) .o)
noncomputable def cK.F (s:bz) (at_:Int):Option (List TV):=cR Go.Proofs.Tryz.prog cK.E 105 cK.sg cK.h [(.s s),(.i .i64 at_)]
noncomputable def cK.l1 (x0:bz) (x1:Int):Option (List TV):=dQ Go.Proofs.Tryz.prog cK.E 105 cK.sg cK.h 9 [(.s x0),(.i .i64 x1)]
theorem cK.bV (x0:bz) (x1:Int) {ρ:Option (List TV)} (K:∀(v1:UInt8) (h1:v1=(List.getD x0 (x1).toNat (0:UInt8))) (v2:Bool) (h2:v2=(cond (decide (x1<((x0).length:Int))) (decide ((48:UInt8)≤v1)) false)) (v3:Bool) (h3:v3=(cond v2 (decide (v1≤(57:UInt8))) false)) (v4:Int) (h4:v4=(IntKind.i64.wrap (x1+(1:Int)))),ck (!(decide (x1<((x0).length:Int))) || (((decide (x1<((x0).length:Int)))&&(decide (x1<((x0).length:Int))))&&(bB x1 (x0).length))) (ck (!(decide (x1<((x0).length:Int))) || (decide (x1<((x0).length:Int)))) (ck (!(decide (x1<((x0).length:Int))) || (decide (x1<((x0).length:Int)))) (ck (!v2 || ((v2&&v2)&&(bB x1 (x0).length))) (ck (!v2 || v2) (ck (!v2 || v2) (cond v3
  (cK.l1 x0 v4)
  (some [(.i .i64 x1)])))))))=ρ):cK.l1 x0 x1=ρ:=((bU _ _ _ _ _ _ _).trans (by kernel_rfl)).trans (K _ rfl _ rfl _ rfl _ rfl)
theorem cK.eJ (s:bz) (at_:Int):cK.F s at_=cK.l1 s at_:=by kernel_rfl
end
end Go.Eng
set_option maxRecDepth 100000
namespace Go.Eng
open Go.Proofs
noncomputable section
def bD.E:cC:=cT fQ zs [(104,(ja.c,ja.sg)),(105,(cK.c,cK.sg))]
def bD.h:Hint := .s .o (.s .o (.j (sc [0,3,4]) .o (.s .o (.s .o (.s .o (.j (sc [0,3,4]) .o (.j (sc [0,3,4]) (.s .o (.s (.s .o (.s .o (.j (sc [0,3,4]) .o .o))) .o)) .o)))))))
noncomputable def bD.F (s:bz):Option (List TV):=cR Go.Proofs.Tryz.prog bD.E 73 bD.sg bD.h [(.s s)]
noncomputable def bD.j1 (x0:bz) (x1:Int) (x2:Int):Option (List TV):=eD Go.Proofs.Tryz.prog bD.E 73 bD.sg bD.h 7 [(.s x0),(.i .i64 x1),(.i .i64 x2)]
noncomputable def bD.j2 (x0:bz) (x1:Int) (x2:Int):Option (List TV):=eD Go.Proofs.Tryz.prog bD.E 73 bD.sg bD.h 127 [(.s x0),(.i .i64 x1),(.i .i64 x2)]
noncomputable def bD.j3 (x0:bz) (x1:Int) (x2:Int):Option (List TV):=eD Go.Proofs.Tryz.prog bD.E 73 bD.sg bD.h 7551 [(.s x0),(.i .i64 x1),(.i .i64 x2)]
noncomputable def bD.j4 (x0:bz) (x1:Int) (x2:Int):Option (List TV):=eD Go.Proofs.Tryz.prog bD.E 73 bD.sg bD.h 255 [(.s x0),(.i .i64 x1),(.i .i64 x2)]
theorem bD.iI (x0:bz) (x1:Int) (x2:Int) {ρ:Option (List TV)} (K:∀(v1:Int) (h1:v1=((x1+(Nr.run ((x0).drop (x1).toNat):Int)))) (v2:UInt8) (h2:v2=(List.getD x0 (x1).toNat (0:UInt8))) (v3:Bool) (h3:v3=((!(decide (v1=x1)))&&(decide (v2=(48:UInt8))))) (v4:Int) (h4:v4=(IntKind.i64.wrap (x1+(1:Int)))) (v5:Bool) (h5:v5=(cond (decide (v2=(48:UInt8))) (decide (v4<v1)) false)) (v6:Bool) (h6:v6=(cond (decide (v1=x1)) true v5)) (v7:Bool) (h7:v7=((decide (v1<(x0).length)&&(decide ((x0).getD (v1).toNat 0=((46:UInt8))) || decide ((x0).getD (v1).toNat 0=((46:UInt8))))))) (v8:Int) (h8:v8=(IntKind.i64.wrap (v1+(1:Int)))) (v9:Int) (h9:v9=((v8+(Nr.run ((x0).drop (v8).toNat):Int)))),ck (decide ((x0).length≤1099511627776)&&decide (0≤x1∧x1≤1099511627776)) (ck (!(!(decide (v1=x1))) || (((!(decide (v1=x1)))&&(!(decide (v1=x1))))&&(bB x1 (x0).length))) (ck (!(!(decide (v1=x1))) || (!(decide (v1=x1)))) (ck (!(!(decide (v1=x1))) || (!(decide (v1=x1)))) (ck (!v3 || v3) (ck (!v3 || (v3&&v3)) (ck (!(!(decide (v1=x1))) || ((!(decide (v1=x1)))&&(!(decide (v2=(48:UInt8))) || v3))) (ck ((decide (v1=x1)) || (!(decide (v1=x1)))) (cond v6
  (some [(.i .i64 0)])
  (ck (decide ((x0).length≤1099511627776)&&decide (0≤v1)) (cond v7
  (ck (decide ((x0).length≤1099511627776)&&decide (0≤v8∧v8≤1099511627776)) (cond (decide (v9=v8))
  (some [(.i .i64 0)])
  (bD.j2 x0 v9 (2:Int))))
  (bD.j2 x0 v1 x2)))))))))))=ρ):bD.j1 x0 x1 x2=ρ:=((b9 _ _ _ _ _ _ _).trans (by kernel_rfl)).trans (K _ rfl _ rfl _ rfl _ rfl _ rfl _ rfl _ rfl _ rfl _ rfl)
theorem bD.jg (x0:bz) (x1:Int) (x2:Int) {ρ:Option (List TV)} (K:∀(v1:Bool) (h1:v1=((decide (x1<(x0).length)&&(decide ((x0).getD (x1).toNat 0=((101:UInt8))) || decide ((x0).getD (x1).toNat 0=((69:UInt8))))))) (v2:Int) (h2:v2=(IntKind.i64.wrap (x1+(1:Int)))) (v3:Bool) (h3:v3=((decide (v2<(x0).length)&&(decide ((x0).getD (v2).toNat 0=((43:UInt8))) || decide ((x0).getD (v2).toNat 0=((45:UInt8))))))) (v4:Int) (h4:v4=(IntKind.i64.wrap (v2+(1:Int)))),ck (decide ((x0).length≤1099511627776)&&decide (0≤x1)) (cond v1
  (ck (decide ((x0).length≤1099511627776)&&decide (0≤v2)) (cond v3
  (bD.j3 x0 v4 (2:Int))
  (bD.j3 x0 v2 (2:Int))))
  (bD.j4 x0 x1 x2))=ρ):bD.j2 x0 x1 x2=ρ:=((b9 _ _ _ _ _ _ _).trans (by kernel_rfl)).trans (K _ rfl _ rfl _ rfl _ rfl)
theorem bD.oY (x0:bz) (x1:Int) (x2:Int) {ρ:Option (List TV)} (K:∀(v1:Int) (h1:v1=((x1+(Nr.run ((x0).drop (x1).toNat):Int)))),ck (decide ((x0).length≤1099511627776)&&decide (0≤x1∧x1≤1099511627776)) (cond (decide (v1=x1))
  (some [(.i .i64 0)])
  (bD.j4 x0 v1 x2))=ρ):bD.j3 x0 x1 x2=ρ:=((b9 _ _ _ _ _ _ _).trans (by kernel_rfl)).trans (K _ rfl)
theorem bD.uy (x0:bz) (x1:Int) (x2:Int):bD.j4 x0 x1 x2=cond (!decide (x1=((x0).length:Int)))
  (some [(.i .i64 0)])
  (some [(.i .i64 x2)]):=((b9 _ _ _ _ _ _ _).trans (by kernel_rfl))
theorem bD.bZ (s:bz) {ρ:Option (List TV)} (K:∀(v1:Bool) (h1:v1=((decide (((0:Int))<(s).length)&&(decide ((s).getD (((0:Int))).toNat 0=((45:UInt8))) || decide ((s).getD (((0:Int))).toNat 0=((45:UInt8))))))) (v2:Int) (h2:v2=(IntKind.i64.wrap ((0:Int)+(1:Int)))),ck (decide ((s).length≤1099511627776)&&decide (0≤((0:Int)))) (cond v1
  (bD.j1 s v2 (1:Int))
  (bD.j1 s (0:Int) (1:Int)))=ρ):bD.F s=ρ:=Eq.trans (by kernel_rfl) (K _ rfl _ rfl)
end
noncomputable section
end
noncomputable section
end
noncomputable section
end
noncomputable section
end
noncomputable section
end
noncomputable section
end
noncomputable section
end
noncomputable section
def eH.E:cC:=cT fQ zs []
def eH.h:Hint := .o
noncomputable def eH.F (b:UInt64):Option (List TV):=cR Go.Proofs.Tryz.prog eH.E 114 eH.sg eH.h [(.u64 b)]
theorem eH.bZ (b:UInt64) {ρ:Option (List TV)} (K:∀(v1:UInt64) (h1:v1=(dD b (((52:UInt64)).toNat))) (v2:Int) (h2:v2=(IntKind.i64.wrap (((v1 &&& (2047:UInt64))).toNat:Int))) (v3:UInt64) (h3:v3=(b &&& (4503599627370495:UInt64))) (v4:UInt64) (h4:v4=(dD b (((63:UInt64)).toNat))) (v5:Bool) (h5:v5=(cond (decide (v2=(2047:Int))) (!decide (v3=(0:UInt64))) false)) (v6:Bool) (h6:v6=(cond (decide (v2=(0:Int))) (decide (v3=(0:UInt64))) false)) (v7:UInt64) (h7:v7=((4503599627370496:UInt64) ||| v3)) (v8:Int) (h8:v8=(IntKind.i64.wrap (v2 - (1075:Int)))),ck (!(decide (v2=(2047:Int))) || (decide (v2=(2047:Int)))) (ck (!(decide (v2=(2047:Int))) || (decide (v2=(2047:Int)))) (cond v5
  (some [(.i .i64 4),(.b (decide (v4=(1:UInt64)))),(.u64 0),(.i .i64 0)])
  (cond (decide (v2=(2047:Int)))
  (some [(.i .i64 3),(.b (decide (v4=(1:UInt64)))),(.u64 0),(.i .i64 0)])
  (ck (!(decide (v2=(0:Int))) || (decide (v2=(0:Int)))) (ck (!(decide (v2=(0:Int))) || (decide (v2=(0:Int)))) (cond v6
  (some [(.i .i64 1),(.b (decide (v4=(1:UInt64)))),(.u64 0),(.i .i64 0)])
  (cond (decide (v2=(0:Int)))
  (some [(.i .i64 2),(.b (decide (v4=(1:UInt64)))),(.u64 v3),(.i .i64 (-1074))])
  (some [(.i .i64 2),(.b (decide (v4=(1:UInt64)))),(.u64 v7),(.i .i64 v8)]))))))))=ρ):eH.F b=ρ:=Eq.trans (by kernel_rfl) (K _ rfl _ rfl _ rfl _ rfl _ rfl _ rfl _ rfl _ rfl)
end
noncomputable section
def cE.E:cC:=cT fQ zs [(166,(eK.c,eK.sg)),(198,(eI.c,eI.sg))]
def cE.h:Hint := .s .o (.s .o (.j (sc [0,1]) .o (.s .o (.s .o (.s (.s .o (.b (.l [(1,.no),(5,.fA 800000),(6,.no),(26,.no),(27,.no),(800000,.pv)] (.s .o (.s .o (.s (.b (.s .o (.s .o (.j [(1,.no),(5,.fA 800000),(6,.no),(7,.no),(26,.no),(27,.no),(800000,.pv)] .o .o)))) .o)))))) (.j [(5,.fA 800000),(800000,.pv)] .o .o))))))
noncomputable def cE.F (a:List UInt16) (b:List UInt16):Option (List TV):=cR Go.Proofs.Tryz.prog cE.E 173 cE.sg cE.h [(.sl .ws a),(.sl .ws b)]
noncomputable def cE.j1 (x0:List UInt16) (x1:List UInt16):Option (List TV):=eD Go.Proofs.Tryz.prog cE.E 173 cE.sg cE.h 7 [(.sl .ws x0),(.sl .ws x1)]
noncomputable def cE.l2 (x0:List UInt16) (x1:Int) (x2:Int) (x3:Int) (x4:List UInt16):Option (List TV):=dQ Go.Proofs.Tryz.prog cE.E 173 cE.sg cE.h 351 [(.sl .ws x0),.pt,(.i .i64 x1),(.i .i64 x2),(.i .i64 x3),(.sl .ws x4)]
noncomputable def cE.j3 (x0:List UInt16) (x1:Int) (x2:Int) (x3:Int) (x4:Int) (x5:List UInt16):Option (List TV):=eD Go.Proofs.Tryz.prog cE.E 173 cE.sg cE.h 58975 [(.sl .ws x0),.pt,(.i .i64 x1),(.i .i64 x2),(.i .i64 x3),(.i .i64 x4),(.sl .ws x5)]
noncomputable def cE.j4 (x0:List UInt16):Option (List TV):=eD Go.Proofs.Tryz.prog cE.E 173 cE.sg cE.h 127 [.pt,(.sl .ws x0)]
theorem cE.lp (x0:List UInt16) (x1:List UInt16):cE.j1 x0 x1=ck (fC (x0).length 2) (cE.l2 x1 (0:Int) (((x0)).length:Int) (0:Int) (x0)):=((b9 _ _ _ _ _ _ _).trans (by kernel_rfl))
theorem cE.iw (x0:List UInt16) (x1:Int) (x2:Int) (x3:Int) (x4:List UInt16) {ρ:Option (List TV)} (K:∀(v1:UInt16) (h1:v1=(List.getD x4 ((x3).toNat) (0:UInt16))) (v2:Int) (h2:v2=(IntKind.i64.wrap ((v1).toNat:Int))) (v3:UInt16) (h3:v3=(List.getD x0 (x3).toNat (0:UInt16))) (v4:Int) (h4:v4=(IntKind.i64.wrap ((v3).toNat:Int))) (v5:Int) (h5:v5=(IntKind.i64.wrap ((IntKind.i64.wrap (x1+v2))+v4))) (v6:List UInt16) (h6:v6=([(UInt16.ofInt x1)]:List UInt16)),cond (decide (x3<x2))
  (ck (bB x3 (x4).length) (ck (decide ((x3).toNat<(x4).length)) (cond (decide (x3<((x0).length:Int)))
  (ck (bB x3 (x0).length) (cE.j3 x0 v5 x3 x2 x3 x4))
  (cE.j3 x0 (IntKind.i64.wrap (x1+v2)) x3 x2 x3 x4))))
  (cond (decide ((0:Int)<x1))
  (ck (fC ((x4).length+(v6).length) 2) (cE.j4 (x4++v6)))
  (cE.j4 x4))=ρ):cE.l2 x0 x1 x2 x3 x4=ρ:=((bU _ _ _ _ _ _ _).trans (by kernel_rfl)).trans (K _ rfl _ rfl _ rfl _ rfl _ rfl _ rfl)
theorem cE.oY (x0:List UInt16) (x1:Int) (x2:Int) (x3:Int) (x4:Int) (x5:List UInt16) {ρ:Option (List TV)} (K:∀(v1:List UInt16) (h1:v1=(List.set x5 ((x2).toNat) (UInt16.ofInt x1))) (v2:Int) (h2:v2=(Int.fdiv x1 (2 ^ (min (((16:UInt64)).toNat) (IntKind.i64.bits))))) (v3:Int) (h3:v3=(IntKind.i64.wrap (x4+(1:Int)))),ck (bB x2 (x5).length) (ck (decide ((x2).toNat<(x5).length)) (cE.l2 x0 v2 x3 v3 v1))=ρ):cE.j3 x0 x1 x2 x3 x4 x5=ρ:=((b9 _ _ _ _ _ _ _).trans (by kernel_rfl)).trans (K _ rfl _ rfl _ rfl)
theorem cE.uy (x0:List UInt16):cE.j4 x0=some [(.sl .ws x0)]:=((b9 _ _ _ _ _ _ _).trans (by kernel_rfl))
theorem cE.bZ (a:List UInt16) (b:List UInt16) {ρ:Option (List TV)} (K:∀(v1:Bool) (h1:v1=(cond (!(Nt.is a)) true (!(Nt.is b)))),ck (decide ((a).length≤1099511627776)) (ck (!(!(!(Nt.is a))) || ((!(!(Nt.is a)))&&(decide ((b).length≤1099511627776)))) (ck (!(!(!(Nt.is a))) || (!(!(Nt.is a)))) (ck ((!(Nt.is a)) || (!(!(Nt.is a)))) (cond v1
  (some [(.sl .ws ([]:List UInt16))])
  (cond (decide (((a).length:Int)<((b).length:Int)))
  (cE.j1 b a)
  (cE.j1 a b))))))=ρ):cE.F a b=ρ:=Eq.trans (by kernel_rfl) (K _ rfl)
end
noncomputable section
def cS.E:cC:=cT fQ zs [(84,(iG.c,iG.sg)),(145,(fB.c,fB.sg)),(166,(eK.c,eK.sg)),(199,(ez.c,ez.sg)),(221,(cp.c,cp.sg)),(222,(k9.c,k9.sg))]
def cS.h:Hint := .s .o (.s .o (.s .o (.s (.b (.l [(0,.no),(3,.fA 800000),(800000,.pv)] (.s .o (.b (.s .o (.s .o (.j [(3,.fA 800000),(4,.no),(6,.no),(800000,.pv)] .o .o))))))) .o)))
noncomputable def cS.F (a:List UInt16):Option (List TV):=cR Go.Proofs.Tryz.prog cS.E 203 cS.sg cS.h [(.sl .ws a)]
noncomputable def cS.l1 (x0:List UInt16) (x1:List bz):Option (List TV):=dQ Go.Proofs.Tryz.prog cS.E 203 cS.sg cS.h 39 [(.sl .ws x0),.pt,(.sl .ss x1)]
noncomputable def cS.j2 (x0:List UInt16) (x1:bz) (x2:List bz):Option (List TV):=eD Go.Proofs.Tryz.prog cS.E 203 cS.sg cS.h 1863 [.pt,(.sl .ws x0),(.s x1),(.sl .ss x2)]
theorem cS.bV (x0:List UInt16) (x1:List bz) {ρ:Option (List TV)} (K:∀(v1:List UInt16) (h1:v1=(Nt.of (Nt.val x0 / (((10000:UInt16))).toNat))) (v2:UInt16) (h2:v2=(UInt16.ofNat (Nt.val x0 % (((10000:UInt16))).toNat))) (v3:Int) (h3:v3=(IntKind.i64.wrap ((v2).toNat:Int))) (v4:Int) (h4:v4=(((Nr.itoa v3)).length:Int)) (v5:Int) (h5:v5=(IntKind.i64.wrap ((4:Int) - v4))) (v6:bz) (h6:v6=((Sh.dU v5)++(Nr.itoa v3))),cond (decide ((0:Int)<((x0).length:Int)))
  (ck (decide ((x0).length≤1000000∧((10000:UInt16))≠0)) (ck (Nr.i64 v3) (cond (decide ((0:Int)<((v1).length:Int)))
  (ck (decide ((([48]:bz))=[48]∧0≤v5∧v5≤100)) (ck (decide (((Sh.dU v5)).length+((Nr.itoa v3)).length≤9223372036854775807)) (cS.j2 v1 v6 x1)))
  (cS.j2 v1 (Nr.itoa v3) x1))))
  (ck (decide ((x1).length≤100000)) (ck (decide ((([]:bz))=[]∧((((x1).reverse))).length≤100000∧((((x1).reverse))).flatten.length≤100000)) (some [(.s (((((x1).reverse))).flatten))])))=ρ):cS.l1 x0 x1=ρ:=((bU _ _ _ _ _ _ _).trans (by kernel_rfl)).trans (K _ rfl _ rfl _ rfl _ rfl _ rfl _ rfl)
theorem cS.jZ (x0:List UInt16) (x1:bz) (x2:List bz):cS.j2 x0 x1 x2=ck (fC ((x2).length+(([x1]:List bz)).length) 16) (cS.l1 x0 (x2++([x1]:List bz))):=((b9 _ _ _ _ _ _ _).trans (by kernel_rfl))
theorem cS.eJ (a:List UInt16):cS.F a=ck (decide ((a).length≤1099511627776)) (cond (!(Nt.is a))
  (some [(.s [])])
  (cond (decide (((a).length:Int)=(0:Int)))
  (some [(.s ([48]:bz))])
  (cS.l1 a ([]:List bz)))):=by kernel_rfl
end
noncomputable section
end
noncomputable section
end
noncomputable section
end
noncomputable section
def cp.E:cC:=cT fQ zs []
def cp.h:Hint := .s .o (.b (.l [(0,.fA 1000000),(2,.no),(3,.no),(1000000,.pv)] .o))
noncomputable def cp.F (l:List bz):Option (List TV):=cR Go.Proofs.Tryz.prog cp.E 221 cp.sg cp.h [(.sl .ss l)]
noncomputable def cp.l1 (x0:Int) (x1:Int) (x2:List bz):Option (List TV):=dQ Go.Proofs.Tryz.prog cp.E 221 cp.sg cp.h 5 [.pt,(.i .i64 x0),(.i .i64 x1),(.sl .ss x2)]
theorem cp.bV (x0:Int) (x1:Int) (x2:List bz) {ρ:Option (List TV)} (K:∀(v1:bz) (h1:v1=(List.getD x2 ((x1).toNat) ([]:bz))) (v2:bz) (h2:v2=(List.getD x2 ((x0).toNat) ([]:bz))) (v3:List bz) (h3:v3=(List.set x2 ((x0).toNat) v1)) (v4:List bz) (h4:v4=(List.set v3 ((x1).toNat) v2)) (v5:Int) (h5:v5=(IntKind.i64.wrap (x0+(1:Int)))) (v6:Int) (h6:v6=(IntKind.i64.wrap (x1 - (1:Int)))),cond (decide (x0<x1))
  (ck (bB x1 (x2).length) (ck (decide ((x1).toNat<(x2).length)) (ck (bB x0 (x2).length) (ck (decide ((x0).toNat<(x2).length)) (ck (bB x0 (x2).length) (ck (decide ((x0).toNat<(x2).length)) (ck (bB x1 (v3).length) (ck (decide ((x1).toNat<(v3).length)) (cp.l1 v5 v6 v4)))))))))
  (some [(.sl .ss x2)])=ρ):cp.l1 x0 x1 x2=ρ:=((bU _ _ _ _ _ _ _).trans (by kernel_rfl)).trans (K _ rfl _ rfl _ rfl _ rfl _ rfl _ rfl)
theorem cp.bZ (l:List bz) {ρ:Option (List TV)} (K:∀(v1:Int) (h1:v1=(IntKind.i64.wrap (((l).length:Int) - (1:Int)))),cp.l1 (0:Int) v1 l=ρ):cp.F l=ρ:=Eq.trans (by kernel_rfl) (K _ rfl)
end
noncomputable section
def eY.E:cC:=cT fQ zs [(113,(gR.c,gR.sg))]
def eY.h:Hint := .o
noncomputable def eY.F (v:Int):Option (List TV):=cR Go.Proofs.Tryz.prog eY.E 85 eY.sg eY.h [(.i .i64 v)]
theorem eY.eJ (v:Int):eY.F v=ck (Nr.i64 v&&decide (((10:Int))=10)) (some [(.s (Nr.itoa v))]):=by kernel_rfl
end
noncomputable section
def fD.E:cC:=cT fQ zs [(195,(cU.c,cU.sg)),(196,(dp.c,dp.sg))]
def fD.h:Hint := .o
noncomputable def fD.F (a:List UInt16) (b:List UInt16) (k:Int):Option (List TV):=cR Go.Proofs.Tryz.prog fD.E 169 fD.sg fD.h [(.sl .ws a),(.sl .ws b),(.i .i64 k)]
theorem fD.bZ (a:List UInt16) (b:List UInt16) (k:Int) {ρ:Option (List TV)} (K:∀(v1:List UInt16) (h1:v1=(Nt.of ((((10:Int))).toNat ^ (k).toNat))) (v2:List UInt16) (h2:v2=(Nt.of (Nt.val a * Nt.val v1))) (v3:List UInt16) (h3:v3=(Nt.of ((((10:Int))).toNat ^ (((IntKind.i64.wrap (0 - k)))).toNat))) (v4:List UInt16) (h4:v4=(Nt.of (Nt.val b * Nt.val v3))),cond (decide ((0:Int)≤k))
  (ck (decide (2≤((10:Int))∧((10:Int))≤65535∧0≤k∧k≤1000∧(((10:Int))).toNat ^ (k).toNat<2 ^ 4096)) (ck (Nt.is a&&Nt.is v1) (some [(.sl .ws v2),(.sl .ws b)])))
  (ck (decide (2≤((10:Int))∧((10:Int))≤65535∧0≤((IntKind.i64.wrap (0 - k)))∧((IntKind.i64.wrap (0 - k)))≤1000∧(((10:Int))).toNat ^ (((IntKind.i64.wrap (0 - k)))).toNat<2 ^ 4096)) (ck (Nt.is b&&Nt.is v3) (some [(.sl .ws a),(.sl .ws v4)])))=ρ):fD.F a b k=ρ:=Eq.trans (by kernel_rfl) (K _ rfl _ rfl _ rfl _ rfl)
end
noncomputable section
def fk.E:cC:=cT fQ zs [(169,(fD.c,fD.sg)),(170,(fW.c,fW.sg))]
def fk.h:Hint := .o
noncomputable def fk.F (a:List UInt16) (b:List UInt16) (x:Int):Option (List TV):=cR Go.Proofs.Tryz.prog fk.E 143 fk.sg fk.h [(.sl .ws a),(.sl .ws b),(.i .i64 x)]
theorem fk.bZ (a:List UInt16) (b:List UInt16) (x:Int) {ρ:Option (List TV)} (K:∀(v1:List UInt16) (h1:v1=(Nt.of (Sh.tA (Nt.val a) ((IntKind.i64.wrap (0 - x)))))) (v2:List UInt16) (h2:v2=(Nt.of (Sh.tB (Nt.val b) ((IntKind.i64.wrap (0 - x)))))) (v3:Int) (h3:v3=(Nt.cmp (Nt.val v1) (Nt.val v2))),ck (Nt.is a&&Nt.is b&&decide (-400≤((IntKind.i64.wrap (0 - x)))∧((IntKind.i64.wrap (0 - x)))≤400∧Nt.val a<2 ^ 1100∧Nt.val b<2 ^ 1100)) (ck (Nt.is v1&&Nt.is v2) (some [(.b (decide ((0:Int)≤v3)))]))=ρ):fk.F a b x=ρ:=Eq.trans (by kernel_rfl) (K _ rfl _ rfl _ rfl)
end
noncomputable section
def fj.E:cC:=cT fQ zs [(203,(cS.c,cS.sg)),(204,(fK.c,fK.sg)),(205,(dL.c,dL.sg))]
def fj.h:Hint := .o
noncomputable def fj.F (b:UInt64) (a:List UInt16) (p:Int):Option (List TV):=cR Go.Proofs.Tryz.prog fj.E 172 fj.sg fj.h [(.u64 b),(.sl .ws a),(.i .i64 p)]
theorem fj.bZ (b:UInt64) (a:List UInt16) (p:Int) {ρ:Option (List TV)} (K:∀(v1:Int) (h1:v1=(((Sh.pM (Nt.val a))).length:Int)) (v2:bz) (h2:v2=(Lib.trimRightS ((Sh.pM (Nt.val a))) (([48]:bz)))) (v3:UInt64) (h3:v3=(Nr.pat (Nr.read v2 ((IntKind.i64.wrap (v1+p)))))) (v4:Bool) (h4:v4=((Nr.read v2 ((IntKind.i64.wrap (v1+p)))).isSome)) (v5:Bool) (h5:v5=(cond (!v4) true (!decide (v3=b)))),ck (Nt.is a) (ck (decide ((((Sh.pM (Nt.val a)))).length≤1099511627776∧((([48]:bz))).length≤100)&&((([48]:bz))).all (fun b=>decide (b.toNat<128))) (ck (!(!(!v4)) || ((!(!v4))&&(!(!v4)))) (ck ((!v4) || (!(!v4))) (cond v5
  (some [(.s []),(.i .i64 0),(.b false)])
  (some [(.s v2),(.i .i64 (IntKind.i64.wrap (v1+p))),(.b true)])))))=ρ):fj.F b a p=ρ:=Eq.trans (by kernel_rfl) (K _ rfl _ rfl _ rfl _ rfl _ rfl)
end
noncomputable section
def gi.E:cC:=cT fQ zs [(140,(eW.c,eW.sg)),(141,(ir.c,ir.sg)),(169,(fD.c,fD.sg)),(170,(fW.c,fW.sg)),(171,(gK.c,gK.sg)),(172,(fj.c,fj.sg)),(173,(cE.c,cE.sg))]
def gi.h:Hint := .o
noncomputable def gi.F (b:UInt64) (p:List UInt16) (q:List UInt16) (x:Int) (n:Int):Option (List TV):=cR Go.Proofs.Tryz.prog gi.E 144 gi.sg gi.h [(.u64 b),(.sl .ws p),(.sl .ws q),(.i .i64 x),(.i .i64 n)]
theorem gi.bZ (b:UInt64) (p:List UInt16) (q:List UInt16) (x:Int) (n:Int) {ρ:Option (List TV)} (K:∀(v1:List UInt16) (h1:v1=(Nt.of (Sh.tA (Nt.val p) ((IntKind.i64.wrap (n - x)))))) (v2:List UInt16) (h2:v2=(Nt.of (Sh.tB (Nt.val q) ((IntKind.i64.wrap (n - x)))))) (v3:List UInt16) (h3:v3=(Nt.of (Nt.val v1 / Nt.val v2))) (v4:List UInt16) (h4:v4=(Nt.of (Nt.val v1 % Nt.val v2))) (v5:bz) (h5:v5=(((Sh.jM (b).toNat (Nt.val v3) ((IntKind.i64.wrap (x - n)))).getD ([],0)).1)) (v6:Int) (h6:v6=(((Sh.jM (b).toNat (Nt.val v3) ((IntKind.i64.wrap (x - n)))).getD ([],0)).2)) (v7:Bool) (h7:v7=((Sh.jM (b).toNat (Nt.val v3) ((IntKind.i64.wrap (x - n)))).isSome)) (v8:List UInt16) (h8:v8=(Nt.of (((1:UInt64))).toNat)) (v9:List UInt16) (h9:v9=(Nt.of (Nt.val v3+Nt.val v8))) (v10:bz) (iA:v10=(((Sh.jM (b).toNat (Nt.val v9) ((IntKind.i64.wrap (x - n)))).getD ([],0)).1)) (v11:Int) (ki:v11=(((Sh.jM (b).toNat (Nt.val v9) ((IntKind.i64.wrap (x - n)))).getD ([],0)).2)) (v12:Bool) (jE:v12=((Sh.jM (b).toNat (Nt.val v9) ((IntKind.i64.wrap (x - n)))).isSome)) (kW:List UInt16) (nY:kW=(Nt.of (Nt.val v4 * 2 ^ (((1:Int))).toNat))) (jP:Int) (pA:jP=(Nt.cmp (Nt.val kW) (Nt.val v2))) (iD:Bool) (o8:iD=(cond (!v12) true (decide (jP<(0:Int))))) (mS:Bool) (tO:mS=((v7&&(!iD))&&(decide (jP=(0:Int))))) (nT:UInt16) (xI:nT=(List.getD v3 ((0:Int)).toNat (0:UInt16))) (lO:Bool) (wi:lO=(cond (decide (jP=(0:Int))) (decide ((nT % (2:UInt16))=(0:UInt16))) false)) (qJ:Bool) (BU:qJ=(cond v7 (cond iD true lO) false)),ck (Nt.is p&&Nt.is q&&decide (-400≤((IntKind.i64.wrap (n - x)))∧((IntKind.i64.wrap (n - x)))≤400∧Nt.val p<2 ^ 1100∧Nt.val q<2 ^ 1100)) (ck (Nt.is v1&&Nt.is v2&&decide (v2≠[])) (ck (Nt.is v3&&decide (-1000≤((IntKind.i64.wrap (x - n)))∧((IntKind.i64.wrap (x - n)))≤1000∧0<Nt.val v3∧Nt.val v3<10 ^ 200)) (ck (Nt.is v3&&Nt.is v8) (ck (Nt.is v9&&decide (-1000≤((IntKind.i64.wrap (x - n)))∧((IntKind.i64.wrap (x - n)))≤1000∧0<Nt.val v9∧Nt.val v9<10 ^ 200)) (ck (decide (0≤((1:Int))∧((1:Int))≤4096)&&Nt.is v4) (ck (Nt.is kW&&Nt.is v2) (ck (!v7 || v7) (ck (!v7 || v7) (ck (!(v7&&(!(!v12))) || (v7&&(!(!v12)))) (ck (!v7 || (v7&&((!v12) || (v7&&(!(!v12)))))) (ck (!v7 || v7) (ck (!(v7&&(!iD)) || (v7&&(!iD))) (ck (!(v7&&(!iD)) || (v7&&(!iD))) (ck (!mS || (mS&&(bB (0:Int) (v3).length))) (ck (!mS || mS) (ck (!mS || (mS&&(!decide ((2:UInt16)=0)))) (ck (!mS || mS) (ck (!(v7&&(!iD)) || ((v7&&(!iD))&&(!(decide (jP=(0:Int))) || mS))) (ck (!v7 || (v7&&(iD || (v7&&(!iD))))) (ck (!v7 || v7) (cond qJ
  (some [(.s v5),(.i .i64 v6),(.b true)])
  (some [(.s v10),(.i .i64 v11),(.b v12)]))))))))))))))))))))))=ρ):gi.F b p q x n=ρ:=Eq.trans (by kernel_rfl) (K _ rfl _ rfl _ rfl _ rfl _ rfl _ rfl _ rfl _ rfl _ rfl _ rfl _ rfl _ rfl _ rfl _ rfl _ rfl _ rfl _ rfl _ rfl _ rfl)
end
noncomputable section
def bI.E:cC:=cT fQ zs [(114,(eH.c,eH.sg)),(140,(eW.c,eW.sg)),(141,(ir.c,ir.sg)),(142,(fH.c,fH.sg)),(143,(fk.c,fk.sg)),(144,(gi.c,gi.sg))]
def bI.h:Hint := .s .o (.s .o (.s .o (.s .o (.s .o (.j (sc [0,9,10]) .o (.s .o (.s (.b (.l (sc [0,3,9,10]) .o)) (.s .o (.b (.l (sc [0,3,9,10,11]) .o))))))))))
noncomputable def bI.F (b:UInt64):Option (List TV):=cR Go.Proofs.Tryz.prog bI.E 115 bI.sg bI.h [(.u64 b)]
noncomputable def bI.j1 (x0:UInt64) (x1:List UInt16) (x2:List UInt16):Option (List TV):=eD Go.Proofs.Tryz.prog bI.E 115 bI.sg bI.h 63 [(.u64 x0),(.sl .ws x1),(.sl .ws x2)]
noncomputable def bI.l2 (x0:UInt64) (x1:Int) (x2:List UInt16) (x3:List UInt16):Option (List TV):=dQ Go.Proofs.Tryz.prog bI.E 115 bI.sg bI.h 639 [(.u64 x0),(.i .i64 x1),(.sl .ws x2),(.sl .ws x3)]
noncomputable def bI.l3 (x0:UInt64) (x1:Int) (x2:List UInt16) (x3:List UInt16) (x4:Int):Option (List TV):=dQ Go.Proofs.Tryz.prog bI.E 115 bI.sg bI.h 1535 [(.u64 x0),(.i .i64 x1),(.sl .ws x2),(.sl .ws x3),(.i .i64 x4)]
theorem bI.iI (x0:UInt64) (x1:List UInt16) (x2:List UInt16) {ρ:Option (List TV)} (K:∀(v1:Int) (h1:v1=((Nt.bits (Nt.val x1):Int))) (v2:Int) (h2:v2=((Nt.bits (Nt.val x2):Int))) (v3:Int) (h3:v3=(IntKind.i64.wrap ((IntKind.i64.wrap (v1 - v2)) * (30103:Int)))) (v4:Int) (h4:v4=(IntKind.i64.wrap (Int.tdiv v3 (100000:Int)))) (v5:Int) (h5:v5=(IntKind.i64.wrap (v4 - (2:Int)))),ck (Nt.is x1) (ck (Nt.is x2) (ck (!decide ((100000:Int)=0)) (bI.l2 x0 v5 x1 x2)))=ρ):bI.j1 x0 x1 x2=ρ:=((b9 _ _ _ _ _ _ _).trans (by kernel_rfl)).trans (K _ rfl _ rfl _ rfl _ rfl _ rfl)
theorem bI.iw (x0:UInt64) (x1:Int) (x2:List UInt16) (x3:List UInt16) {ρ:Option (List TV)} (K:∀(v1:Int) (h1:v1=(IntKind.i64.wrap (x1+(1:Int)))),ck (Nt.is x2&&Nt.is x3&&decide (-400≤x1∧x1≤400∧Nt.val x2<2 ^ 1100∧Nt.val x3<2 ^ 1100)) (cond (decide (Sh.tB (Nt.val x3) (-x1)≤Sh.tA (Nt.val x2) (-x1)))
  (bI.l2 x0 v1 x2 x3)
  (bI.l3 x0 x1 x2 x3 (1:Int)))=ρ):bI.l2 x0 x1 x2 x3=ρ:=((bU _ _ _ _ _ _ _).trans (by kernel_rfl)).trans (K _ rfl)
theorem bI.sJ (x0:UInt64) (x1:Int) (x2:List UInt16) (x3:List UInt16) (x4:Int) {ρ:Option (List TV)} (K:∀(v1:bz) (h1:v1=(((Sh.ob (x0).toNat (Nt.val x2) (Nt.val x3) x1 x4).getD ([],0)).1)) (v2:Int) (h2:v2=(((Sh.ob (x0).toNat (Nt.val x2) (Nt.val x3) x1 x4).getD ([],0)).2)) (v3:Bool) (h3:v3=((Sh.ob (x0).toNat (Nt.val x2) (Nt.val x3) x1 x4).isSome)) (v4:Int) (h4:v4=(IntKind.i64.wrap (x4+(1:Int)))),ck (Nt.is x2&&Nt.is x3&&Sh.nJ (Nt.val x2) (Nt.val x3) x1 x4) (cond v3
  (some [(.s v1),(.i .i64 v2),(.b true)])
  (bI.l3 x0 x1 x2 x3 v4))=ρ):bI.l3 x0 x1 x2 x3 x4=ρ:=((bU _ _ _ _ _ _ _).trans (by kernel_rfl)).trans (K _ rfl _ rfl _ rfl _ rfl)
theorem bI.bZ (b:UInt64) {ρ:Option (List TV)} (K:∀(v1:UInt64) (h1:v1=(b &&& ~~~(9223372036854775808:UInt64))) (v2:List UInt16) (h2:v2=(Nt.of ((((Nr.split b).2.2.1))).toNat)) (v3:List UInt16) (h3:v3=(Nt.of (((1:UInt64))).toNat)) (v4:List UInt16) (h4:v4=(Nt.of (Nt.val v2 * 2 ^ ((((Nr.split b).2.2.2))).toNat))) (v5:Int) (h5:v5=(IntKind.i64.wrap (0 - ((Nr.split b).2.2.2)))) (v6:List UInt16) (h6:v6=(Nt.of (Nt.val v3 * 2 ^ (v5).toNat))),cond (!decide (((Nr.split b).1)=(2:Int)))
  (some [(.s []),(.i .i64 0),(.b false)])
  (cond (decide ((0:Int)≤((Nr.split b).2.2.2)))
  (ck (decide (0≤(((Nr.split b).2.2.2))∧(((Nr.split b).2.2.2))≤4096)&&Nt.is v2) (bI.j1 v1 v4 v3))
  (ck (decide (0≤v5∧v5≤4096)&&Nt.is v3) (bI.j1 v1 v2 v6)))=ρ):bI.F b=ρ:=Eq.trans (by kernel_rfl) (K _ rfl _ rfl _ rfl _ rfl _ rfl _ rfl)
end
noncomputable section
def dK.E:cC:=cT fQ zs [(85,(eY.c,eY.sg)),(145,(fB.c,fB.sg))]
def dK.h:Hint := .s .o (.s .o (.s .o (.s .o (.j (sc [1,6]) .o .o))))
noncomputable def dK.F (d:bz) (x:Int):Option (List TV):=cR Go.Proofs.Tryz.prog dK.E 116 dK.sg dK.h [(.s d),(.i .i64 x)]
noncomputable def dK.j1 (x0:Int) (x1:bz):Option (List TV):=eD Go.Proofs.Tryz.prog dK.E 116 dK.sg dK.h 31 [(.i .i64 x0),(.s x1)]
theorem dK.iI (x0:Int) (x1:bz) {ρ:Option (List TV)} (K:∀(v1:Int) (h1:v1=(IntKind.i64.wrap ((1:Int) - x0))) (v2:bz) (h2:v2=((x1++([101,45]:bz))++(Nr.itoa v1))) (v3:Int) (h3:v3=(IntKind.i64.wrap (x0 - (1:Int)))) (v4:bz) (h4:v4=((x1++([101,43]:bz))++(Nr.itoa v3))),cond (decide (x0<(1:Int)))
  (ck (decide ((x1).length+(([101,45]:bz)).length≤9223372036854775807)) (ck (Nr.i64 v1) (ck (decide (((x1++([101,45]:bz))).length+((Nr.itoa v1)).length≤9223372036854775807)) (some [(.s v2)]))))
  (ck (decide ((x1).length+(([101,43]:bz)).length≤9223372036854775807)) (ck (Nr.i64 v3) (ck (decide (((x1++([101,43]:bz))).length+((Nr.itoa v3)).length≤9223372036854775807)) (some [(.s v4)]))))=ρ):dK.j1 x0 x1=ρ:=((b9 _ _ _ _ _ _ _).trans (by kernel_rfl)).trans (K _ rfl _ rfl _ rfl _ rfl)
theorem dK.bZ (d:bz) (x:Int) {ρ:Option (List TV)} (K:∀(v1:Bool) (h1:v1=(cond (decide ((1:Int)≤x)) (decide (x≤(21:Int))) false)) (v2:Bool) (h2:v2=(cond v1 (decide (((d).length:Int)≤x)) false)) (v3:Int) (h3:v3=(IntKind.i64.wrap (x - ((d).length:Int)))) (v4:bz) (h4:v4=((List.take (x).toNat d)++([46]:bz))) (v5:bz) (h5:v5=(v4++(List.drop (x).toNat d))) (v6:Bool) (h6:v6=(cond (decide ((-5:Int)≤x)) (decide (x≤(0:Int))) false)) (v7:bz) (h7:v7=(Sh.dU ((IntKind.i64.wrap (0 - x))))) (v8:bz) (h8:v8=((([48,46]:bz)++v7)++d)) (v9:bz) (h9:v9=(List.take ((1:Int)).toNat d)) (v10:bz) (iA:v10=(List.drop ((1:Int)).toNat d)) (v11:bz) (ki:v11=(v9++(([46]:bz)++v10))),ck (!(decide ((1:Int)≤x)) || (decide ((1:Int)≤x))) (ck (!(decide ((1:Int)≤x)) || (decide ((1:Int)≤x))) (ck (!v1 || (v1&&v1)) (ck (!v1 || v1) (cond v2
  (ck (decide ((([48]:bz))=[48]∧0≤v3∧v3≤100)) (ck (decide ((d).length+((Sh.dU v3)).length≤9223372036854775807)) (some [(.s (d++(Sh.dU v3)))])))
  (ck (!(decide ((1:Int)≤x)) || (decide ((1:Int)≤x))) (ck (!(decide ((1:Int)≤x)) || (decide ((1:Int)≤x))) (cond v1
  (ck (gA 0 x (d).length) (ck (decide (((List.take (x).toNat d)).length+(([46]:bz)).length≤9223372036854775807)) (ck (gA x (d).length (d).length) (ck (decide ((v4).length+((List.drop (x).toNat d)).length≤9223372036854775807)) (some [(.s v5)])))))
  (ck (!(decide ((-5:Int)≤x)) || (decide ((-5:Int)≤x))) (ck (!(decide ((-5:Int)≤x)) || (decide ((-5:Int)≤x))) (cond v6
  (ck (decide ((([48]:bz))=[48]∧0≤((IntKind.i64.wrap (0 - x)))∧((IntKind.i64.wrap (0 - x)))≤100)) (ck (decide ((([48,46]:bz)).length+(v7).length≤9223372036854775807)) (ck (decide (((([48,46]:bz)++v7)).length+(d).length≤9223372036854775807)) (some [(.s v8)]))))
  (ck (gA 0 (1:Int) (d).length) (cond (decide ((1:Int)<((d).length:Int)))
  (ck (gA (1:Int) (d).length (d).length) (ck (decide ((([46]:bz)).length+(v10).length≤9223372036854775807)) (ck (decide ((v9).length+((([46]:bz)++v10)).length≤9223372036854775807)) (dK.j1 x v11))))
  (dK.j1 x v9)))))))))))))=ρ):dK.F d x=ρ:=Eq.trans (by kernel_rfl) (K _ rfl _ rfl _ rfl _ rfl _ rfl _ rfl _ rfl _ rfl _ rfl _ rfl _ rfl)
end
noncomputable section
def dC.E:cC:=cT fQ zs [(114,(eH.c,eH.sg)),(115,(bI.c,bI.sg)),(116,(dK.c,dK.sg))]
def dC.h:Hint := .s .o (.s .o (.s .o (.j (sc [4,7]) .o .o)))
noncomputable def dC.F (b:UInt64):Option (List TV):=cR Go.Proofs.Tryz.prog dC.E 86 dC.sg dC.h [(.u64 b)]
noncomputable def dC.j1 (x0:Bool) (x1:bz):Option (List TV):=eD Go.Proofs.Tryz.prog dC.E 86 dC.sg dC.h 15 [(.b x0),(.s x1)]
theorem dC.lp (x0:Bool) (x1:bz):dC.j1 x0 x1=cond x0
  (ck (decide ((([45]:bz)).length+(x1).length≤9223372036854775807)) (some [(.s (([45]:bz)++x1))]))
  (some [(.s x1)]):=((b9 _ _ _ _ _ _ _).trans (by kernel_rfl))
theorem dC.bZ (b:UInt64) {ρ:Option (List TV)} (K:∀(v1:bz) (h1:v1=(Sh.AA (((Sh.dg b).1)) (((Sh.dg b).2.1)))),cond (decide (((Nr.split b).1)=(4:Int)))
  (some [(.s ([78,97,78]:bz))])
  (cond (decide (((Nr.split b).1)=(3:Int)))
  (dC.j1 ((Nr.split b).2.1) ([73,110,102,105,110,105,116,121]:bz))
  (cond (decide (((Nr.split b).1)=(1:Int)))
  (dC.j1 ((Nr.split b).2.1) ([48]:bz))
  (ck (decide (1≤((((Sh.dg b).1))).length∧((((Sh.dg b).1))).length≤17∧-900≤(((Sh.dg b).2.1))∧(((Sh.dg b).2.1))≤900)) (dC.j1 ((Nr.split b).2.1) v1))))=ρ):dC.F b=ρ:=Eq.trans (by kernel_rfl) (K _ rfl)
end
end Go.Eng
set_option maxRecDepth 100000
namespace Go.Eng
open Go.Proofs
noncomputable section
end
noncomputable section
end
noncomputable section
end
noncomputable section
end
noncomputable section
end
noncomputable section
def cN.E:cC:=cT fQ zs [(181,(lf.c,lf.sg))]
def cN.h:Hint := .o
noncomputable def cN.F (v:UInt64) (b:Int):Option (List TV):=cR Go.Proofs.Tryz.prog cN.E 149 cN.sg cN.h [(.u64 v),(.i .i64 b)]
theorem cN.eJ (v:UInt64) (b:Int):cN.F v b=ck (decide (b=10)) (some [(.s (Nr.dec (v).toNat))]):=by kernel_rfl
end
noncomputable section
def cZ.E:cC:=cT fQ zs []
def cZ.h:Hint := .o
noncomputable def cZ.F (s:bz) (t:bz):Option (List TV):=cR Go.Proofs.Tryz.prog cZ.E 83 cZ.sg cZ.h [(.s s),(.s t)]
theorem cZ.bZ (s:bz) (t:bz) {ρ:Option (List TV)} (K:∀(v1:bz) (h1:v1=(List.take (((t).length:Int)).toNat s)) (v2:Bool) (h2:v2=(cond (decide (((t).length:Int)≤((s).length:Int))) (decide (v1=t)) false)),ck (!(decide (((t).length:Int)≤((s).length:Int))) || (decide (((t).length:Int)≤((s).length:Int)))) (ck (!(decide (((t).length:Int)≤((s).length:Int))) || (((decide (((t).length:Int)≤((s).length:Int)))&&(decide (((t).length:Int)≤((s).length:Int))))&&(gA 0 ((t).length:Int) (s).length))) (ck (!(decide (((t).length:Int)≤((s).length:Int))) || ((decide (((t).length:Int)≤((s).length:Int)))&&(decide (((t).length:Int)≤((s).length:Int))))) (ck (!(decide (((t).length:Int)≤((s).length:Int))) || (decide (((t).length:Int)≤((s).length:Int)))) (some [(.b v2)]))))=ρ):cZ.F s t=ρ:=Eq.trans (by kernel_rfl) (K _ rfl _ rfl)
end
noncomputable section
def cY.E:cC:=cT fQ zs [(83,(cZ.c,cZ.sg))]
def cY.h:Hint := .o
noncomputable def cY.F (s:bz) (t:bz):Option (List TV):=cR Go.Proofs.Tryz.prog cY.E 50 cY.sg cY.h [(.s s),(.s t)]
theorem cY.eJ (s:bz) (t:bz):cY.F s t=some [(.b (List.isPrefixOf t s))]:=by kernel_rfl
end
noncomputable section
def cX.E:cC:=cT fQ zs [(156,(cH.c,cH.sg))]
def cX.h:Hint := .o
noncomputable def cX.F (s:bz) (c:UInt8):Option (List TV):=cR Go.Proofs.Tryz.prog cX.E 134 cX.sg cX.h [(.s s),(.u8 c)]
theorem cX.eJ (s:bz) (c:UInt8):cX.F s c=some [(.i .i64 (Lib.indexByte s c))]:=by kernel_rfl
end
noncomputable section
def fq.E:cC:=cT fQ zs []
def fq.h:Hint := .o
noncomputable def fq.F (a:UInt64) (b:UInt64):Option (List TV):=cR Go.Proofs.Tryz.prog fq.E 207 fq.sg fq.h [(.u64 a),(.u64 b)]
theorem fq.bZ (a:UInt64) (b:UInt64) {ρ:Option (List TV)} (K:∀(v1:UInt64) (h1:v1=(a &&& (4294967295:UInt64))) (v2:UInt64) (h2:v2=(dD a (((32:UInt64)).toNat))) (v3:UInt64) (h3:v3=(b &&& (4294967295:UInt64))) (v4:UInt64) (h4:v4=(dD b (((32:UInt64)).toNat))) (v5:UInt64) (h5:v5=(dD (v1 * v3) (((32:UInt64)).toNat))) (v6:UInt64) (h6:v6=(((v2 * v3)+v5) &&& (4294967295:UInt64))) (v7:UInt64) (h7:v7=(dD ((v2 * v3)+v5) (((32:UInt64)).toNat))) (v8:UInt64) (h8:v8=(dD (v6+(v1 * v4)) (((32:UInt64)).toNat))),some [(.u64 (((v2 * v4)+v7)+v8)),(.u64 (a * b))]=ρ):fq.F a b=ρ:=Eq.trans (by kernel_rfl) (K _ rfl _ rfl _ rfl _ rfl _ rfl _ rfl _ rfl _ rfl)
end
noncomputable section
def dZ.E:cC:=cT fQ zs [(191,(bits_Len64.c,bits_Len64.sg))]
def dZ.h:Hint := .o
noncomputable def dZ.F (v:UInt64):Option (List TV):=cR Go.Proofs.Tryz.prog dZ.E 210 dZ.sg dZ.h [(.u64 v)]
theorem dZ.bZ (v:UInt64) {ρ:Option (List TV)} (K:∀(v1:Int) (h1:v1=(IntKind.i64.wrap ((64:Int) - ((Nt.bits (v).toNat:Int))))),some [(.i .i64 v1)]=ρ):dZ.F v=ρ:=Eq.trans (by kernel_rfl) (K _ rfl)
end
noncomputable section
def bF.E:cC:=cT fQ zs [(210,(dZ.c,dZ.sg))]
def bF.h:Hint := .s .o (.j (sc [0,1,2]) .o (.j (sc [0,1,2]) .o (.s .o (.s .o (.s .o (.s .o (.s .o (.s .o (.s .o (.s .o (.s .o (.s .o (.s .o (.j (sc [2,8,9,10,11,13,14,15]) (.b (.l (sc [2,8,9,10,11,13,14,15,16]) .o)) (.s .o (.s .o (.s .o (.j (sc [2,8,14,15,17,18]) (.b (.l (sc [2,8,9,10,14,15,16,17,18]) .o)) .o))))))))))))))))))
noncomputable def bF.F (a:UInt64) (b:UInt64) (y:UInt64):Option (List TV):=cR Go.Proofs.Tryz.prog bF.E 180 bF.sg bF.h [(.u64 a),(.u64 b),(.u64 y)]
noncomputable def bF.j1 (x0:UInt64) (x1:UInt64) (x2:UInt64):Option (List TV):=eD Go.Proofs.Tryz.prog bF.E 180 bF.sg bF.h 3 [(.u64 x0),(.u64 x1),(.u64 x2)]
noncomputable def bF.j2 (x0:UInt64) (x1:UInt64) (x2:UInt64):Option (List TV):=eD Go.Proofs.Tryz.prog bF.E 180 bF.sg bF.h 7 [(.u64 x0),(.u64 x1),(.u64 x2)]
noncomputable def bF.l3 (x0:UInt64) (x1:UInt64) (x2:UInt64) (x3:UInt64) (x4:UInt64) (x5:UInt64) (x6:UInt64) (x7:UInt64) (x8:UInt64):Option (List TV):=dQ Go.Proofs.Tryz.prog bF.E 180 bF.sg bF.h 81919 [(.u64 x0),(.u64 x1),(.u64 x2),(.u64 x3),(.u64 x4),(.u64 x5),(.u64 x6),(.u64 x7),(.u64 x8)]
noncomputable def bF.j4 (x0:UInt64) (x1:UInt64) (x2:UInt64) (x3:UInt64) (x4:UInt64) (x5:UInt64) (x6:UInt64) (x7:UInt64):Option (List TV):=eD Go.Proofs.Tryz.prog bF.E 180 bF.sg bF.h 32767 [(.u64 x0),(.u64 x1),(.u64 x2),(.u64 x3),(.u64 x4),(.u64 x5),(.u64 x6),(.u64 x7)]
noncomputable def bF.l5 (x0:UInt64) (x1:UInt64) (x2:UInt64) (x3:UInt64) (x4:UInt64) (x5:UInt64) (x6:UInt64) (x7:UInt64) (x8:UInt64):Option (List TV):=dQ Go.Proofs.Tryz.prog bF.E 180 bF.sg bF.h 1310719 [(.u64 x0),(.u64 x1),(.u64 x2),(.u64 x3),(.u64 x4),(.u64 x5),(.u64 x6),(.u64 x7),(.u64 x8)]
noncomputable def bF.j6 (x0:UInt64) (x1:UInt64) (x2:UInt64) (x3:UInt64) (x4:UInt64) (x5:UInt64):Option (List TV):=eD Go.Proofs.Tryz.prog bF.E 180 bF.sg bF.h 524287 [(.u64 x0),(.u64 x1),(.u64 x2),(.u64 x3),(.u64 x4),(.u64 x5)]
theorem bF.lp (x0:UInt64) (x1:UInt64) (x2:UInt64):bF.j1 x0 x1 x2=cond (decide (x2≤x0))
  (none)
  (bF.j2 x0 x1 x2):=((b9 _ _ _ _ _ _ _).trans (by kernel_rfl))
theorem bF.jg (x0:UInt64) (x1:UInt64) (x2:UInt64) {ρ:Option (List TV)} (K:∀(v1:UInt64) (h1:v1=(iK x2 (((UInt64.ofInt (0))).toNat))) (v2:UInt64) (h2:v2=(dD v1 (((32:UInt64)).toNat))) (v3:UInt64) (h3:v3=(v1 &&& (4294967295:UInt64))) (v4:UInt64) (h4:v4=(iK x0 (((UInt64.ofInt (0))).toNat))) (v5:UInt64) (h5:v5=((64:UInt64) - (UInt64.ofInt (0)))) (v6:UInt64) (h6:v6=(v4 ||| (dD x1 ((v5).toNat)))) (v7:UInt64) (h7:v7=(iK x1 (((UInt64.ofInt (0))).toNat))) (v8:UInt64) (h8:v8=(dD v7 (((32:UInt64)).toNat))) (v9:UInt64) (h9:v9=(v7 &&& (4294967295:UInt64))),cond (decide (x0=(0:UInt64)))
  (ck (!decide (x2=0)) (ck (!decide (x2=0)) (some [(.u64 (x1 / x2)),(.u64 (x1 % x2))])))
  (ck (decide (9223372036854775808≤(x2).toNat)) (ck (!decide (v2=0)) (bF.l3 v1 (UInt64.ofInt (0)) v2 v3 v6 v8 v9 (v6 / v2) (v6 - ((v6 / v2) * v2)))))=ρ):bF.j2 x0 x1 x2=ρ:=((b9 _ _ _ _ _ _ _).trans (by kernel_rfl)).trans (K _ rfl _ rfl _ rfl _ rfl _ rfl _ rfl _ rfl _ rfl _ rfl)
theorem bF.sJ (x0:UInt64) (x1:UInt64) (x2:UInt64) (x3:UInt64) (x4:UInt64) (x5:UInt64) (x6:UInt64) (x7:UInt64) (x8:UInt64) {ρ:Option (List TV)} (K:∀(v1:UInt64) (h1:v1=(((4294967296:UInt64) * x8)+x5)) (v2:Bool) (h2:v2=(cond (decide ((4294967296:UInt64)≤x7)) true (decide (v1<(x7 * x3))))),ck (!(!(decide ((4294967296:UInt64)≤x7))) || ((!(decide ((4294967296:UInt64)≤x7)))&&(!(decide ((4294967296:UInt64)≤x7))))) (ck (!(!(decide ((4294967296:UInt64)≤x7))) || (!(decide ((4294967296:UInt64)≤x7)))) (ck (!(!(decide ((4294967296:UInt64)≤x7))) || ((!(decide ((4294967296:UInt64)≤x7)))&&(!(decide ((4294967296:UInt64)≤x7))))) (ck (!(!(decide ((4294967296:UInt64)≤x7))) || ((!(decide ((4294967296:UInt64)≤x7)))&&(!(decide ((4294967296:UInt64)≤x7))))) (ck ((decide ((4294967296:UInt64)≤x7)) || (!(decide ((4294967296:UInt64)≤x7)))) (cond v2
  (cond (decide ((4294967296:UInt64)≤(x8+x2)))
  (bF.j4 x0 x1 x2 x3 x4 x5 x6 (x7 - (1:UInt64)))
  (bF.l3 x0 x1 x2 x3 x4 x5 x6 (x7 - (1:UInt64)) (x8+x2)))
  (bF.j4 x0 x1 x2 x3 x4 x5 x6 x7))))))=ρ):bF.l3 x0 x1 x2 x3 x4 x5 x6 x7 x8=ρ:=((bU _ _ _ _ _ _ _).trans (by kernel_rfl)).trans (K _ rfl _ rfl)
theorem bF.DO (x0:UInt64) (x1:UInt64) (x2:UInt64) (x3:UInt64) (x4:UInt64) (x5:UInt64) (x6:UInt64) (x7:UInt64) {ρ:Option (List TV)} (K:∀(v1:UInt64) (h1:v1=((x4 * (4294967296:UInt64))+x5)) (v2:UInt64) (h2:v2=(((v1 - (x7 * x0)) / x2) * x2)),ck (!decide (x2=0)) (bF.l5 x0 x1 x2 x3 x6 x7 ((v1 - (x7 * x0)) - v2) (v1 - (x7 * x0)) ((v1 - (x7 * x0)) / x2))=ρ):bF.j4 x0 x1 x2 x3 x4 x5 x6 x7=ρ:=((b9 _ _ _ _ _ _ _).trans (by kernel_rfl)).trans (K _ rfl _ rfl)
theorem bF.AB (x0:UInt64) (x1:UInt64) (x2:UInt64) (x3:UInt64) (x4:UInt64) (x5:UInt64) (x6:UInt64) (x7:UInt64) (x8:UInt64) {ρ:Option (List TV)} (K:∀(v1:UInt64) (h1:v1=(((4294967296:UInt64) * x6)+x4)) (v2:Bool) (h2:v2=(cond (decide ((4294967296:UInt64)≤x8)) true (decide (v1<(x8 * x3))))),ck (!(!(decide ((4294967296:UInt64)≤x8))) || ((!(decide ((4294967296:UInt64)≤x8)))&&(!(decide ((4294967296:UInt64)≤x8))))) (ck (!(!(decide ((4294967296:UInt64)≤x8))) || (!(decide ((4294967296:UInt64)≤x8)))) (ck (!(!(decide ((4294967296:UInt64)≤x8))) || ((!(decide ((4294967296:UInt64)≤x8)))&&(!(decide ((4294967296:UInt64)≤x8))))) (ck (!(!(decide ((4294967296:UInt64)≤x8))) || ((!(decide ((4294967296:UInt64)≤x8)))&&(!(decide ((4294967296:UInt64)≤x8))))) (ck ((decide ((4294967296:UInt64)≤x8)) || (!(decide ((4294967296:UInt64)≤x8)))) (cond v2
  (cond (decide ((4294967296:UInt64)≤(x6+x2)))
  (bF.j6 x0 x1 x4 x5 x7 (x8 - (1:UInt64)))
  (bF.l5 x0 x1 x2 x3 x4 x5 (x6+x2) x7 (x8 - (1:UInt64))))
  (bF.j6 x0 x1 x4 x5 x7 x8))))))=ρ):bF.l5 x0 x1 x2 x3 x4 x5 x6 x7 x8=ρ:=((bU _ _ _ _ _ _ _).trans (by kernel_rfl)).trans (K _ rfl _ rfl)
theorem bF.DM (x0:UInt64) (x1:UInt64) (x2:UInt64) (x3:UInt64) (x4:UInt64) (x5:UInt64) {ρ:Option (List TV)} (K:∀(v1:UInt64) (h1:v1=((x3 * (4294967296:UInt64))+x5)) (v2:UInt64) (h2:v2=((x4 * (4294967296:UInt64))+x2)) (v3:UInt64) (h3:v3=(dD (v2 - (x5 * x0)) ((x1).toNat))),some [(.u64 v1),(.u64 v3)]=ρ):bF.j6 x0 x1 x2 x3 x4 x5=ρ:=((b9 _ _ _ _ _ _ _).trans (by kernel_rfl)).trans (K _ rfl _ rfl _ rfl)
theorem bF.eJ (a:UInt64) (b:UInt64) (y:UInt64):bF.F a b y=cond (decide (y=(0:UInt64)))
  (none)
  (bF.j1 a b y):=by kernel_rfl
end
noncomputable section
def gI.E:cC:=cT fQ zs []
def gI.h:Hint := .o
noncomputable def gI.F (a:dy) (b:dy):Option (List TV):=cR Go.Proofs.Tryz.prog gI.E 146 gI.sg gI.h [(.ag (dy.cells a)),(.ag (dy.cells b))]
theorem gI.bZ (a:dy) (b:dy) {ρ:Option (List TV)} (K:∀(v1:Bool) (h1:v1=(decide ((dy.high a)=(dy.high b))&&decide ((dy.low a)=(dy.low b)))) (v2:Bool) (h2:v2=((!(decide ((dy.high a)<(dy.high b))))&&(decide ((dy.high a)=(dy.high b))))) (v3:Bool) (h3:v3=(cond (decide ((dy.high a)=(dy.high b))) (decide ((dy.low a)<(dy.low b))) false)) (v4:Bool) (h4:v4=(cond (decide ((dy.high a)<(dy.high b))) true v3)),cond v1
  (some [(.i .i64 0)])
  (ck (!(!(decide ((dy.high a)<(dy.high b)))) || (!(decide ((dy.high a)<(dy.high b))))) (ck (!(!(decide ((dy.high a)<(dy.high b)))) || (!(decide ((dy.high a)<(dy.high b))))) (ck (!(!(decide ((dy.high a)<(dy.high b)))) || ((!(decide ((dy.high a)<(dy.high b))))&&(!(decide ((dy.high a)<(dy.high b)))))) (ck (!(!(decide ((dy.high a)<(dy.high b)))) || (!(decide ((dy.high a)<(dy.high b))))) (ck (!v2 || v2) (ck (!v2 || v2) (ck (!v2 || (v2&&v2)) (ck (!(!(decide ((dy.high a)<(dy.high b)))) || ((!(decide ((dy.high a)<(dy.high b))))&&(!(decide ((dy.high a)=(dy.high b))) || v2))) (ck ((decide ((dy.high a)<(dy.high b))) || (!(decide ((dy.high a)<(dy.high b))))) (cond v4
  (some [(.i .i64 (-1))])
  (some [(.i .i64 1)])))))))))))=ρ):gI.F a b=ρ:=Eq.trans (by kernel_rfl) (K _ rfl _ rfl _ rfl _ rfl)
end
noncomputable section
def gU.E:cC:=cT fQ zs [(207,(fq.c,fq.sg))]
def gU.h:Hint := .o
noncomputable def gU.F (a:UInt64) (b:UInt64):Option (List TV):=cR Go.Proofs.Tryz.prog gU.E 179 gU.sg gU.h [(.u64 a),(.u64 b)]
theorem gU.bZ (a:UInt64) (b:UInt64) {ρ:Option (List TV)} (K:∀(v1:UInt64) (h1:v1=(UInt64.ofNat ((a).toNat * (b).toNat / 18446744073709551616))) (v2:UInt64) (h2:v2=(UInt64.ofNat ((a).toNat * (b).toNat))),some [(.ag [(.u64 v1),(.u64 v2)])]=ρ):gU.F a b=ρ:=Eq.trans (by kernel_rfl) (K _ rfl _ rfl)
end
noncomputable section
def gV.E:cC:=cT fQ zs [(180,(bF.c,bF.sg))]
def gV.h:Hint := .o
noncomputable def gV.F (a:dy) (b:UInt64):Option (List TV):=cR Go.Proofs.Tryz.prog gV.E 148 gV.sg gV.h [(.ag (dy.cells a)),(.u64 b)]
theorem gV.bZ (a:dy) (b:UInt64) {ρ:Option (List TV)} (K:∀(v1:UInt64) (h1:v1=(UInt64.ofNat (((((0:UInt64))).toNat * 18446744073709551616+(((dy.high a))).toNat) / (b).toNat))) (v2:UInt64) (h2:v2=(UInt64.ofNat (((((0:UInt64))).toNat * 18446744073709551616+(((dy.high a))).toNat) % (b).toNat))) (v3:UInt64) (h3:v3=(UInt64.ofNat (((v2).toNat * 18446744073709551616+(((dy.low a))).toNat) / (b).toNat))) (v4:UInt64) (h4:v4=(UInt64.ofNat (((v2).toNat * 18446744073709551616+(((dy.low a))).toNat) % (b).toNat))),cond (decide (b=(0:UInt64)))
  (some [(.ag [(.u64 0),(.u64 0)]),(.u64 0),(.b false)])
  (ck (decide (9223372036854775808≤(b).toNat∧(((0:UInt64))).toNat<(b).toNat)) (ck (decide (9223372036854775808≤(b).toNat∧(v2).toNat<(b).toNat)) (some [(.ag [(.u64 v1),(.u64 v3)]),(.u64 v4),(.b true)])))=ρ):gV.F a b=ρ:=Eq.trans (by kernel_rfl) (K _ rfl _ rfl _ rfl _ rfl)
end
noncomputable section
def cO.E:cC:=cT fQ zs [(145,(fB.c,fB.sg)),(148,(gV.c,gV.sg)),(149,(cN.c,cN.sg)),(150,(gq.c,gq.sg))]
def cO.h:Hint := .s .o (.s .o (.s (.b (.l [(1,.ptr 53 0),(3,.no),(53,.cl [])] .o)) (.j (sc [3]) .o .o)))
noncomputable def cO.F (a:dy):Option (List TV):=cR Go.Proofs.Tryz.prog cO.E 120 cO.sg cO.h [(.ag (dy.cells a))]
noncomputable def cO.l1 (x0:bz) (x1:UInt64) (x2:UInt64):Option (List TV):=dQ Go.Proofs.Tryz.prog cO.E 120 cO.sg cO.h 19 [.pt,(.s x0),(.ag [(.u64 x1),(.u64 x2)])]
noncomputable def cO.j2 (x0:bz):Option (List TV):=eD Go.Proofs.Tryz.prog cO.E 120 cO.sg cO.h 15 [(.s x0)]
theorem cO.bV (x0:bz) (x1:UInt64) (x2:UInt64) {ρ:Option (List TV)} (K:∀(v1:dy) (h1:v1=(dy.of (dy.val (dy.mk x1 x2) / (((10000000000000000000:UInt64))).toNat))) (v2:UInt64) (h2:v2=(UInt64.ofNat (dy.val (dy.mk x1 x2) % (((10000000000000000000:UInt64))).toNat))) (v3:Int) (h3:v3=(((Nr.dec (v2).toNat)).length:Int)) (v4:Int) (h4:v4=(IntKind.i64.wrap ((19:Int) - v3))) (v5:bz) (h5:v5=((Sh.dU v4)++(Nr.dec (v2).toNat))) (v6:Bool) (h6:v6=(cond (decide (x0=([]:bz))) true (!decide (x2=(0:UInt64))))),cond (!decide (x1=(0:UInt64)))
  (ck (decide (9223372036854775808≤(((10000000000000000000:UInt64))).toNat)) (ck (decide (((10:Int))=10)) (ck (decide ((([48]:bz))=[48]∧0≤v4∧v4≤100)) (ck (decide (((Sh.dU v4)).length+((Nr.dec (v2).toNat)).length≤9223372036854775807)) (ck (decide ((v5).length+(x0).length≤9223372036854775807)) (cO.l1 (v5++x0) (dy.high v1) (dy.low v1)))))))
  (ck (!(!(decide (x0=([]:bz)))) || (!(decide (x0=([]:bz))))) (ck (!(!(decide (x0=([]:bz)))) || (!(decide (x0=([]:bz))))) (ck ((decide (x0=([]:bz))) || (!(decide (x0=([]:bz))))) (cond v6
  (ck (decide (((10:Int))=10)) (ck (decide (((Nr.dec (x2).toNat)).length+(x0).length≤9223372036854775807)) (cO.j2 ((Nr.dec (x2).toNat)++x0))))
  (cO.j2 x0)))))=ρ):cO.l1 x0 x1 x2=ρ:=((bU _ _ _ _ _ _ _).trans (by kernel_rfl)).trans (K _ rfl _ rfl _ rfl _ rfl _ rfl _ rfl)
theorem cO.jg (x0:bz) {ρ:Option (List TV)} (K:∀(v1:Int) (h1:v1=(IntKind.i64.wrap (((x0).length:Int) - (1:Int)))) (v2:bz) (h2:v2=(Lib.trimLeftS ((List.take (v1).toNat x0)) (([48]:bz)))) (v3:bz) (h3:v3=(v2++(List.drop (v1).toNat x0))),ck (gA 0 v1 (x0).length) (ck (decide ((((List.take (v1).toNat x0))).length≤1099511627776∧((([48]:bz))).length≤100)&&((([48]:bz))).all (fun b=>decide (b.toNat<128))) (ck (gA v1 (x0).length (x0).length) (ck (decide ((v2).length+((List.drop (v1).toNat x0)).length≤9223372036854775807)) (some [(.s v3)]))))=ρ):cO.j2 x0=ρ:=((b9 _ _ _ _ _ _ _).trans (by kernel_rfl)).trans (K _ rfl _ rfl _ rfl)
theorem cO.eJ (a:dy):cO.F a=cO.l1 ([]:bz) (dy.high a) (dy.low a):=by kernel_rfl
end
noncomputable section
def fE.E:cC:=cT fQ zs [(179,(gU.c,gU.sg))]
def fE.h:Hint := .o
noncomputable def fE.F  : Option (List TV):=cR Go.Proofs.Tryz.prog fE.E 147 fE.sg fE.h []
theorem fE.bZ  {ρ:Option (List TV)} (K:∀(v1:dy) (h1:v1=(dy.of ((((100000000000000000:UInt64))).toNat * (((100000000000000000:UInt64))).toNat))),some [(.ag (dy.cells v1))]=ρ):fE.F  = ρ:=Eq.trans (by kernel_rfl) (K _ rfl)
end
noncomputable section
def dh.E:cC:=cT fQ zs [(146,(gI.c,gI.sg)),(147,(fE.c,fE.sg))]
def dh.h:Hint := .s .o (.s .o (.s .o (.s .o (.s .o (.j [(0,.no),(5,.no),(6,.ptr 58 0),(58,.cl [])] .o .o)))))
noncomputable def dh.F (h:UInt64) (l:UInt64):Option (List TV):=cR Go.Proofs.Tryz.prog dh.E 117 dh.sg dh.h [(.u64 h),(.u64 l)]
noncomputable def dh.j1 (x0:UInt64) (x1:Bool) (x2:UInt64) (x3:UInt64):Option (List TV):=eD Go.Proofs.Tryz.prog dh.E 117 dh.sg dh.h 63 [(.u64 x0),(.b x1),.pt,(.ag [(.u64 x2),(.u64 x3)])]
theorem dh.iI (x0:UInt64) (x1:Bool) (x2:UInt64) (x3:UInt64) {ρ:Option (List TV)} (K:∀(v1:UInt64) (h1:v1=(dD x0 (((49:UInt64)).toNat))) (v2:Int) (h2:v2=(IntKind.i64.wrap (((v1 &&& (16383:UInt64))).toNat:Int))) (v3:Int) (h3:v3=(IntKind.i64.wrap (v2 - (6176:Int)))),some [(.i .i64 1),(.b x1),(.ag [(.u64 x2),(.u64 x3)]),(.i .i64 v3)]=ρ):dh.j1 x0 x1 x2 x3=ρ:=((b9 _ _ _ _ _ _ _).trans (by kernel_rfl)).trans (K _ rfl _ rfl _ rfl)
theorem dh.bZ (h:UInt64) (l:UInt64) {ρ:Option (List TV)} (K:∀(v1:UInt64) (h1:v1=(dD h (((63:UInt64)).toNat))) (v2:UInt64) (h2:v2=(dD h (((58:UInt64)).toNat))) (v3:Bool) (h3:v3=(decide ((v2 &&& (31:UInt64))=(31:UInt64)))) (v4:Bool) (h4:v4=(decide ((v2 &&& (31:UInt64))=(30:UInt64)))) (v5:UInt64) (h5:v5=(dD (v2 &&& (31:UInt64)) (((3:UInt64)).toNat))) (v6:UInt64) (h6:v6=(dD h (((47:UInt64)).toNat))) (v7:Int) (h7:v7=(IntKind.i64.wrap (((v6 &&& (16383:UInt64))).toNat:Int))) (v8:Int) (h8:v8=(IntKind.i64.wrap (v7 - (6176:Int)))) (v9:UInt64) (h9:v9=(h &&& (562949953421311:UInt64))) (v10:Int) (iA:v10=(cond (decide (dy.val (dy.mk v9 l)=dy.val (Cn.sB))) 0 (cond (decide (dy.val (dy.mk v9 l)<dy.val (Cn.sB))) (-1) 1))),cond v3
  (some [(.i .i64 3),(.b (decide (v1=(1:UInt64)))),(.ag [(.u64 0),(.u64 0)]),(.i .i64 0)])
  (cond v4
  (some [(.i .i64 2),(.b (decide (v1=(1:UInt64)))),(.ag [(.u64 0),(.u64 0)]),(.i .i64 0)])
  (cond (decide (v5=(3:UInt64)))
  (some [(.i .i64 1),(.b (decide (v1=(1:UInt64)))),(.ag [(.u64 0),(.u64 0)]),(.i .i64 v8)])
  (cond (decide ((0:Int)≤v10))
  (dh.j1 h (decide (v1=(1:UInt64))) (0:UInt64) (0:UInt64))
  (dh.j1 h (decide (v1=(1:UInt64))) v9 l))))=ρ):dh.F h l=ρ:=Eq.trans (by kernel_rfl) (K _ rfl _ rfl _ rfl _ rfl _ rfl _ rfl _ rfl _ rfl _ rfl _ rfl)
end
noncomputable section
def dS.E:cC:=cT fQ zs [(146,(gI.c,gI.sg)),(147,(fE.c,fE.sg))]
def dS.h:Hint := .s .o (.s .o (.s .o (.j [(4,.ptr 38 0),(6,.no),(38,.cl [])] .o .o)))
noncomputable def dS.F (n:Bool) (c:dy) (x:Int):Option (List TV):=cR Go.Proofs.Tryz.prog dS.E 118 dS.sg dS.h [(.b n),(.ag (dy.cells c)),(.i .i64 x)]
noncomputable def dS.j1 (x0:UInt64) (x1:UInt64) (x2:UInt64):Option (List TV):=eD Go.Proofs.Tryz.prog dS.E 118 dS.sg dS.h 15 [.pt,(.u64 x0),(.ag [(.u64 x1),(.u64 x2)])]
theorem dS.lp (x0:UInt64) (x1:UInt64) (x2:UInt64):dS.j1 x0 x1 x2=some [(.u64 x0),(.u64 x2),(.b true)]:=((b9 _ _ _ _ _ _ _).trans (by kernel_rfl))
theorem dS.bZ (n:Bool) (c:dy) (x:Int) {ρ:Option (List TV)} (K:∀(v1:Int) (h1:v1=(cond (decide (dy.val c=dy.val (Cn.sB))) 0 (cond (decide (dy.val c<dy.val (Cn.sB))) (-1) 1))) (v2:Bool) (h2:v2=(cond (decide ((0:Int)≤v1)) true (decide (x<(-6176:Int))))) (v3:Bool) (h3:v3=(cond v2 true (decide ((6111:Int)<x)))) (v4:Int) (h4:v4=(IntKind.i64.wrap (x+(6176:Int)))) (v5:UInt64) (h5:v5=(iK (UInt64.ofInt v4) (((49:UInt64)).toNat))) (v6:UInt64) (h6:v6=((v5 ||| (dy.high c)) ||| (9223372036854775808:UInt64))),ck (!(!(decide ((0:Int)≤v1))) || (!(decide ((0:Int)≤v1)))) (ck ((decide ((0:Int)≤v1)) || (!(decide ((0:Int)≤v1)))) (ck (!(!v2) || (!v2)) (ck (v2 || (!v2)) (cond v3
  (some [(.u64 0),(.u64 0),(.b false)])
  (cond n
  (dS.j1 v6 (dy.high c) (dy.low c))
  (dS.j1 (v5 ||| (dy.high c)) (dy.high c) (dy.low c)))))))=ρ):dS.F n c x=ρ:=Eq.trans (by kernel_rfl) (K _ rfl _ rfl _ rfl _ rfl _ rfl _ rfl)
end
noncomputable section
def fw.E:cC:=cT fQ zs [(117,(dh.c,dh.sg)),(118,(dS.c,dS.sg))]
def fw.h:Hint := .o
noncomputable def fw.F (h:UInt64) (l:UInt64):Option (List TV):=cR Go.Proofs.Tryz.prog fw.E 88 fw.sg fw.h [(.u64 h),(.u64 l)]
theorem fw.bZ (h:UInt64) (l:UInt64) {ρ:Option (List TV)} (K:∀(v1:Bool) (h1:v1=(cond (decide (h=(8935141660703064064:UInt64))) (decide (l=(0:UInt64))) false)) (v2:UInt64) (h2:v2=(h &&& ~~~(9223372036854775808:UInt64))) (v3:Bool) (h3:v3=(cond (decide (v2=(8646911284551352320:UInt64))) (decide (l=(0:UInt64))) false)) (v4:UInt64) (h4:v4=((Cn.join (((Cn.split h l).2.1)) ((Cn.split h l).2.2.1) (((Cn.split h l).2.2.2))).1)) (v5:UInt64) (h5:v5=((Cn.join (((Cn.split h l).2.1)) ((Cn.split h l).2.2.1) (((Cn.split h l).2.2.2))).2.1)) (v6:Bool) (h6:v6=((Cn.join (((Cn.split h l).2.1)) ((Cn.split h l).2.2.1) (((Cn.split h l).2.2.2))).2.2)) (v7:Bool) (h7:v7=(cond v6 (decide (v4=h)) false)) (v8:Bool) (h8:v8=(cond v7 (decide (v5=l)) false)),cond (decide (((Cn.split h l).1)=(3:Int)))
  (ck (!(decide (h=(8935141660703064064:UInt64))) || (decide (h=(8935141660703064064:UInt64)))) (ck (!(decide (h=(8935141660703064064:UInt64))) || (decide (h=(8935141660703064064:UInt64)))) (some [(.b v1)])))
  (cond (decide (((Cn.split h l).1)=(2:Int)))
  (ck (!(decide (v2=(8646911284551352320:UInt64))) || (decide (v2=(8646911284551352320:UInt64)))) (ck (!(decide (v2=(8646911284551352320:UInt64))) || (decide (v2=(8646911284551352320:UInt64)))) (some [(.b v3)])))
  (ck (Nr.i64 (((Cn.split h l).2.2.2))) (ck (!v6 || (v6&&v6)) (ck (!v6 || v6) (ck (!v7 || (v7&&v7)) (ck (!v7 || v7) (some [(.b v8)])))))))=ρ):fw.F h l=ρ:=Eq.trans (by kernel_rfl) (K _ rfl _ rfl _ rfl _ rfl _ rfl _ rfl _ rfl _ rfl)
end
noncomputable section
def df.E:cC:=cT fQ zs [(84,(iG.c,iG.sg)),(145,(fB.c,fB.sg))]
def df.h:Hint := .s .o (.s .o (.s .o (.s (.b (.s .o (.s .o (.s .o (.s (.j (sc [0,1,5]) .o .o) .o))))) (.s .o (.j (sc [6,7]) .o .o)))))
noncomputable def df.F (d:bz) (x:Int):Option (List TV):=cR Go.Proofs.Tryz.prog df.E 119 df.sg df.h [(.s d),(.i .i64 x)]
noncomputable def df.j1 (x0:bz) (x1:Int) (x2:Int):Option (List TV):=eD Go.Proofs.Tryz.prog df.E 119 df.sg df.h 743 [(.s x0),(.i .i64 x1),(.i .i64 x2)]
noncomputable def df.j2 (x0:Int) (x1:bz):Option (List TV):=eD Go.Proofs.Tryz.prog df.E 119 df.sg df.h 63 [(.i .i64 x0),(.s x1)]
theorem df.iI (x0:bz) (x1:Int) (x2:Int) {ρ:Option (List TV)} (K:∀(v1:bz) (h1:v1=(List.take ((IntKind.i64.wrap (x2+x1))).toNat x0)) (v2:bz) (h2:v2=(List.drop ((IntKind.i64.wrap (x2+x1))).toNat x0)),ck (gA 0 (IntKind.i64.wrap (x2+x1)) (x0).length) (ck (decide ((v1).length+(([46]:bz)).length≤9223372036854775807)) (ck (gA (IntKind.i64.wrap (x2+x1)) (x0).length (x0).length) (ck (decide (((v1++([46]:bz))).length+(v2).length≤9223372036854775807)) (some [(.s ((v1++([46]:bz))++v2))]))))=ρ):df.j1 x0 x1 x2=ρ:=((b9 _ _ _ _ _ _ _).trans (by kernel_rfl)).trans (K _ rfl _ rfl)
theorem df.jg (x0:Int) (x1:bz) {ρ:Option (List TV)} (K:∀(v1:bz) (h1:v1=(Nr.itoa ((IntKind.i64.wrap (0 - x0))))) (v2:bz) (h2:v2=((x1++([69,45]:bz))++v1)) (v3:bz) (h3:v3=((x1++([69,43]:bz))++(Nr.itoa x0))),cond (decide (x0<(0:Int)))
  (ck (decide ((x1).length+(([69,45]:bz)).length≤9223372036854775807)) (ck (Nr.i64 ((IntKind.i64.wrap (0 - x0)))) (ck (decide (((x1++([69,45]:bz))).length+(v1).length≤9223372036854775807)) (some [(.s v2)]))))
  (ck (decide ((x1).length+(([69,43]:bz)).length≤9223372036854775807)) (ck (Nr.i64 x0) (ck (decide (((x1++([69,43]:bz))).length+((Nr.itoa x0)).length≤9223372036854775807)) (some [(.s v3)]))))=ρ):df.j2 x0 x1=ρ:=((b9 _ _ _ _ _ _ _).trans (by kernel_rfl)).trans (K _ rfl _ rfl _ rfl)
theorem df.bZ (d:bz) (x:Int) {ρ:Option (List TV)} (K:∀(v1:Int) (h1:v1=(IntKind.i64.wrap (x+((d).length:Int)))) (v2:Int) (h2:v2=(IntKind.i64.wrap (v1 - (1:Int)))) (v3:Bool) (h3:v3=(cond (decide (x<(0:Int))) (decide ((-6:Int)≤v2)) false)) (v4:Int) (h4:v4=(IntKind.i64.wrap ((1:Int) - x))) (v5:Int) (h5:v5=(IntKind.i64.wrap (v4 - ((d).length:Int)))) (v6:Int) (h6:v6=((((Sh.dU v5)++d)).length:Int)) (v7:bz) (h7:v7=(List.take ((1:Int)).toNat d)) (v8:bz) (h8:v8=(List.drop ((1:Int)).toNat d)),cond (decide (x=(0:Int)))
  (some [(.s d)])
  (ck (!(decide (x<(0:Int))) || (decide (x<(0:Int)))) (ck (!(decide (x<(0:Int))) || (decide (x<(0:Int)))) (cond v3
  (cond (decide (((d).length:Int)≤(IntKind.i64.wrap (0 - x))))
  (ck (decide ((([48]:bz))=[48]∧0≤v5∧v5≤100)) (ck (decide (((Sh.dU v5)).length+(d).length≤9223372036854775807)) (df.j1 ((Sh.dU v5)++d) x v6)))
  (df.j1 d x ((d).length:Int)))
  (ck (gA 0 (1:Int) (d).length) (cond (decide ((1:Int)<((d).length:Int)))
  (ck (gA (1:Int) (d).length (d).length) (ck (decide ((([46]:bz)).length+(v8).length≤9223372036854775807)) (ck (decide ((v7).length+((([46]:bz)++v8)).length≤9223372036854775807)) (df.j2 v2 (v7++(([46]:bz)++v8))))))
  (df.j2 v2 v7))))))=ρ):df.F d x=ρ:=Eq.trans (by kernel_rfl) (K _ rfl _ rfl _ rfl _ rfl _ rfl _ rfl _ rfl _ rfl)
end
noncomputable section
def dR.E:cC:=cT fQ zs [(117,(dh.c,dh.sg)),(119,(df.c,df.sg)),(120,(cO.c,cO.sg))]
def dR.h:Hint := .s .o (.s .o (.s .o (.j (sc [6,9]) .o .o)))
noncomputable def dR.F (h:UInt64) (l:UInt64):Option (List TV):=cR Go.Proofs.Tryz.prog dR.E 89 dR.sg dR.h [(.u64 h),(.u64 l)]
noncomputable def dR.j1 (x0:Bool) (x1:bz):Option (List TV):=eD Go.Proofs.Tryz.prog dR.E 89 dR.sg dR.h 15 [(.b x0),(.s x1)]
theorem dR.lp (x0:Bool) (x1:bz):dR.j1 x0 x1=cond x0
  (ck (decide ((([45]:bz)).length+(x1).length≤9223372036854775807)) (some [(.s (([45]:bz)++x1))]))
  (some [(.s x1)]):=((b9 _ _ _ _ _ _ _).trans (by kernel_rfl))
theorem dR.bZ (h:UInt64) (l:UInt64) {ρ:Option (List TV)} (K:∀(v1:bz) (h1:v1=(Nr.dec (dy.val ((Cn.split h l).2.2.1)))) (v2:bz) (h2:v2=(Cn.laid v1 (((Cn.split h l).2.2.2)))),cond (decide (((Cn.split h l).1)=(3:Int)))
  (some [(.s ([78,97,78]:bz))])
  (cond (decide (((Cn.split h l).1)=(2:Int)))
  (dR.j1 ((Cn.split h l).2.1) ([73,110,102,105,110,105,116,121]:bz))
  (ck (decide (1≤(v1).length∧(v1).length≤40∧-10000≤(((Cn.split h l).2.2.2))∧(((Cn.split h l).2.2.2))≤100000)) (dR.j1 ((Cn.split h l).2.1) v2)))=ρ):dR.F h l=ρ:=Eq.trans (by kernel_rfl) (K _ rfl _ rfl)
end
noncomputable section
def cQ.E:cC:=cT fQ zs []
def cQ.h:Hint := .s .o (.s .o (.s (.b (.l [(0,.no),(3,.fA 800000),(800000,.pv)] .o)) (.j [(3,.fA 800000),(800000,.pv)] .o .o)))
noncomputable def cQ.F (b:List UInt8):Option (List TV):=cR Go.Proofs.Tryz.prog cQ.E 90 cQ.sg cQ.h [(.sl .bs b)]
noncomputable def cQ.l1 (x0:List UInt8) (x1:List UInt8):Option (List TV):=dQ Go.Proofs.Tryz.prog cQ.E 90 cQ.sg cQ.h 19 [(.sl .bs x0),.pt,(.sl .bs x1)]
noncomputable def cQ.j2 (x0:List UInt8):Option (List TV):=eD Go.Proofs.Tryz.prog cQ.E 90 cQ.sg cQ.h 15 [.pt,(.sl .bs x0)]
theorem cQ.bV (x0:List UInt8) (x1:List UInt8) {ρ:Option (List TV)} (K:∀(v1:UInt8) (h1:v1=(List.getD x0 ((0:Int)).toNat (0:UInt8))) (v2:UInt8) (h2:v2=(kX v1 (((2:UInt64)).toNat))) (v3:UInt8) (h3:v3=(List.getD ([65,66,67,68,69,70,71,72,73,74,75,76,77,78,79,80,81,82,83,84,85,86,87,88,89,90,97,98,99,100,101,102,103,104,105,106,107,108,109,110,111,112,113,114,115,116,117,118,119,120,121,122,48,49,50,51,52,53,54,55,56,57,43,47]:bz) (((v2).toNat:Int)).toNat (0:UInt8))) (v4:UInt8) (h4:v4=(mJ (v1 &&& (3:UInt8)) (((4:UInt64)).toNat))) (v5:UInt8) (h5:v5=(List.getD x0 ((1:Int)).toNat (0:UInt8))) (v6:UInt8) (h6:v6=(kX v5 (((4:UInt64)).toNat))) (v7:UInt8) (h7:v7=(List.getD ([65,66,67,68,69,70,71,72,73,74,75,76,77,78,79,80,81,82,83,84,85,86,87,88,89,90,97,98,99,100,101,102,103,104,105,106,107,108,109,110,111,112,113,114,115,116,117,118,119,120,121,122,48,49,50,51,52,53,54,55,56,57,43,47]:bz) ((((v4 ||| v6)).toNat:Int)).toNat (0:UInt8))) (v8:UInt8) (h8:v8=(mJ (v5 &&& (15:UInt8)) (((2:UInt64)).toNat))) (v9:UInt8) (h9:v9=(List.getD x0 ((2:Int)).toNat (0:UInt8))) (v10:UInt8) (iA:v10=(kX v9 (((6:UInt64)).toNat))) (v11:UInt8) (ki:v11=(List.getD ([65,66,67,68,69,70,71,72,73,74,75,76,77,78,79,80,81,82,83,84,85,86,87,88,89,90,97,98,99,100,101,102,103,104,105,106,107,108,109,110,111,112,113,114,115,116,117,118,119,120,121,122,48,49,50,51,52,53,54,55,56,57,43,47]:bz) ((((v8 ||| v10)).toNat:Int)).toNat (0:UInt8))) (v12:UInt8) (jE:v12=(List.getD ([65,66,67,68,69,70,71,72,73,74,75,76,77,78,79,80,81,82,83,84,85,86,87,88,89,90,97,98,99,100,101,102,103,104,105,106,107,108,109,110,111,112,113,114,115,116,117,118,119,120,121,122,48,49,50,51,52,53,54,55,56,57,43,47]:bz) ((((v9 &&& (63:UInt8))).toNat:Int)).toNat (0:UInt8))) (kW:List UInt8) (nY:kW=([v3,v7,v11,v12]:List UInt8)) (jP:List UInt8) (pA:jP=(List.drop ((3:Int)).toNat x0)) (iD:UInt8) (o8:iD=(List.getD ([65,66,67,68,69,70,71,72,73,74,75,76,77,78,79,80,81,82,83,84,85,86,87,88,89,90,97,98,99,100,101,102,103,104,105,106,107,108,109,110,111,112,113,114,115,116,117,118,119,120,121,122,48,49,50,51,52,53,54,55,56,57,43,47]:bz) (((v4).toNat:Int)).toNat (0:UInt8))) (mS:List UInt8) (tO:mS=([v3,iD,(61:UInt8),(61:UInt8)]:List UInt8)) (nT:UInt8) (xI:nT=(List.getD ([65,66,67,68,69,70,71,72,73,74,75,76,77,78,79,80,81,82,83,84,85,86,87,88,89,90,97,98,99,100,101,102,103,104,105,106,107,108,109,110,111,112,113,114,115,116,117,118,119,120,121,122,48,49,50,51,52,53,54,55,56,57,43,47]:bz) (((v8).toNat:Int)).toNat (0:UInt8))) (lO:List UInt8) (wi:lO=([v3,v7,nT,(61:UInt8)]:List UInt8)),cond (decide ((3:Int)≤((x0).length:Int)))
  (ck (bB (0:Int) (x0).length) (ck (bB ((v2).toNat:Int) (([65,66,67,68,69,70,71,72,73,74,75,76,77,78,79,80,81,82,83,84,85,86,87,88,89,90,97,98,99,100,101,102,103,104,105,106,107,108,109,110,111,112,113,114,115,116,117,118,119,120,121,122,48,49,50,51,52,53,54,55,56,57,43,47]:bz)).length) (ck (bB (0:Int) (x0).length) (ck (bB (1:Int) (x0).length) (ck (bB (((v4 ||| v6)).toNat:Int) (([65,66,67,68,69,70,71,72,73,74,75,76,77,78,79,80,81,82,83,84,85,86,87,88,89,90,97,98,99,100,101,102,103,104,105,106,107,108,109,110,111,112,113,114,115,116,117,118,119,120,121,122,48,49,50,51,52,53,54,55,56,57,43,47]:bz)).length) (ck (bB (1:Int) (x0).length) (ck (bB (2:Int) (x0).length) (ck (bB (((v8 ||| v10)).toNat:Int) (([65,66,67,68,69,70,71,72,73,74,75,76,77,78,79,80,81,82,83,84,85,86,87,88,89,90,97,98,99,100,101,102,103,104,105,106,107,108,109,110,111,112,113,114,115,116,117,118,119,120,121,122,48,49,50,51,52,53,54,55,56,57,43,47]:bz)).length) (ck (bB (2:Int) (x0).length) (ck (bB (((v9 &&& (63:UInt8))).toNat:Int) (([65,66,67,68,69,70,71,72,73,74,75,76,77,78,79,80,81,82,83,84,85,86,87,88,89,90,97,98,99,100,101,102,103,104,105,106,107,108,109,110,111,112,113,114,115,116,117,118,119,120,121,122,48,49,50,51,52,53,54,55,56,57,43,47]:bz)).length) (ck (fC ((x1).length+(kW).length) 1) (ck (gA (3:Int) (x0).length (x0).length) (cQ.l1 jP (x1++kW))))))))))))))
  (cond (decide (((x0).length:Int)=(1:Int)))
  (ck (bB (0:Int) (x0).length) (ck (bB ((v2).toNat:Int) (([65,66,67,68,69,70,71,72,73,74,75,76,77,78,79,80,81,82,83,84,85,86,87,88,89,90,97,98,99,100,101,102,103,104,105,106,107,108,109,110,111,112,113,114,115,116,117,118,119,120,121,122,48,49,50,51,52,53,54,55,56,57,43,47]:bz)).length) (ck (bB (0:Int) (x0).length) (ck (bB ((v4).toNat:Int) (([65,66,67,68,69,70,71,72,73,74,75,76,77,78,79,80,81,82,83,84,85,86,87,88,89,90,97,98,99,100,101,102,103,104,105,106,107,108,109,110,111,112,113,114,115,116,117,118,119,120,121,122,48,49,50,51,52,53,54,55,56,57,43,47]:bz)).length) (ck (fC ((x1).length+(mS).length) 1) (cQ.j2 (x1++mS)))))))
  (cond (decide (((x0).length:Int)=(2:Int)))
  (ck (bB (0:Int) (x0).length) (ck (bB ((v2).toNat:Int) (([65,66,67,68,69,70,71,72,73,74,75,76,77,78,79,80,81,82,83,84,85,86,87,88,89,90,97,98,99,100,101,102,103,104,105,106,107,108,109,110,111,112,113,114,115,116,117,118,119,120,121,122,48,49,50,51,52,53,54,55,56,57,43,47]:bz)).length) (ck (bB (0:Int) (x0).length) (ck (bB (1:Int) (x0).length) (ck (bB (((v4 ||| v6)).toNat:Int) (([65,66,67,68,69,70,71,72,73,74,75,76,77,78,79,80,81,82,83,84,85,86,87,88,89,90,97,98,99,100,101,102,103,104,105,106,107,108,109,110,111,112,113,114,115,116,117,118,119,120,121,122,48,49,50,51,52,53,54,55,56,57,43,47]:bz)).length) (ck (bB (1:Int) (x0).length) (ck (bB ((v8).toNat:Int) (([65,66,67,68,69,70,71,72,73,74,75,76,77,78,79,80,81,82,83,84,85,86,87,88,89,90,97,98,99,100,101,102,103,104,105,106,107,108,109,110,111,112,113,114,115,116,117,118,119,120,121,122,48,49,50,51,52,53,54,55,56,57,43,47]:bz)).length) (ck (fC ((x1).length+(lO).length) 1) (cQ.j2 (x1++lO))))))))))
  (cQ.j2 x1)))=ρ):cQ.l1 x0 x1=ρ:=((bU _ _ _ _ _ _ _).trans (by kernel_rfl)).trans (K _ rfl _ rfl _ rfl _ rfl _ rfl _ rfl _ rfl _ rfl _ rfl _ rfl _ rfl _ rfl _ rfl _ rfl _ rfl _ rfl _ rfl _ rfl)
theorem cQ.jZ (x0:List UInt8):cQ.j2 x0=some [(.s x0)]:=((b9 _ _ _ _ _ _ _).trans (by kernel_rfl))
theorem cQ.eJ (b:List UInt8):cQ.F b=cQ.l1 b ([]:List UInt8):=by kernel_rfl
end
noncomputable section
def fU.E:cC:=cT fQ zs []
def fU.h:Hint := .o
noncomputable def fU.F (s:bz):Option (List TV):=cR Go.Proofs.Tryz.prog fU.E 54 fU.sg fU.h [(.s s)]
theorem fU.eJ (s:bz):fU.F s=some [(.ag [(.i .i64 5),(.s s),(.sl .ml ([]:List Mem))])]:=by kernel_rfl
end
noncomputable section
def gJ.E:cC:=cT fQ zs [(85,(eY.c,eY.sg))]
def gJ.h:Hint := .o
noncomputable def gJ.F (v:Int):Option (List TV):=cR Go.Proofs.Tryz.prog gJ.E 55 gJ.sg gJ.h [(.i .i64 v)]
theorem gJ.eJ (v:Int):gJ.F v=ck (Nr.i64 v) (some [(.ag [(.i .i64 4),(.s (Nr.itoa v)),(.sl .ml ([]:List Mem))])]):=by kernel_rfl
end
noncomputable section
def fV.E:cC:=cT fQ zs []
def fV.h:Hint := .o
noncomputable def fV.F (s:bz) (j:bM):Option (List TV):=cR Go.Proofs.Tryz.prog fV.E 51 fV.sg fV.h [(.s s),(.ag (bM.cells j))]
theorem fV.bZ (s:bz) (j:bM) {ρ:Option (List TV)} (K:∀(v1:List Mem) (h1:v1=([(Mem.mk s (bM.kind j) (bM.text j) (bM.kids j))]:List Mem)),some [(.ag [(.i .i64 7),(.s []),(.sl .ml v1)])]=ρ):fV.F s j=ρ:=Eq.trans (by kernel_rfl) (K _ rfl)
end
noncomputable section
def fT.E:cC:=cT fQ zs []
def fT.h:Hint := .o
noncomputable def fT.F (s:bz) (j:bM) (t:bz) (k:bM):Option (List TV):=cR Go.Proofs.Tryz.prog fT.E 53 fT.sg fT.h [(.s s),(.ag (bM.cells j)),(.s t),(.ag (bM.cells k))]
theorem fT.bZ (s:bz) (j:bM) (t:bz) (k:bM) {ρ:Option (List TV)} (K:∀(v1:List Mem) (h1:v1=([(Mem.mk s (bM.kind j) (bM.text j) (bM.kids j)),(Mem.mk t (bM.kind k) (bM.text k) (bM.kids k))]:List Mem)),some [(.ag [(.i .i64 7),(.s []),(.sl .ml v1)])]=ρ):fT.F s j t k=ρ:=Eq.trans (by kernel_rfl) (K _ rfl)
end
noncomputable section
def dE.E:cC:=cT fQ zs [(91,(cd.c,cd.sg))]
def dE.h:Hint := .s .o (.s .o (.s (.s .o (.b (.l [(0,.no),(3,.fA 800000),(4,.no),(800000,.pv)] .o))) .o))
noncomputable def dE.F (v:UInt64):Option (List TV):=cR Go.Proofs.Tryz.prog dE.E 87 dE.sg dE.h [(.u64 v)]
noncomputable def dE.l1 (x0:UInt64) (x1:Int) (x2:List UInt8):Option (List TV):=dQ Go.Proofs.Tryz.prog dE.E 87 dE.sg dE.h 43 [(.u64 x0),.pt,(.i .i64 x1),(.sl .bs x2)]
theorem dE.bV (x0:UInt64) (x1:Int) (x2:List UInt8) {ρ:Option (List TV)} (K:∀(v1:UInt8) (h1:v1=(UInt8.ofInt (((dD x0 ((x1).toNat))).toNat:Int))) (v2:Int) (h2:v2=(IntKind.i64.wrap (x1 - (8:Int)))),cond (decide ((0:Int)≤x1))
  (ck (decide (0≤x1)) (ck (fC ((x2).length+(([v1]:List UInt8)).length) 1) (dE.l1 x0 v2 (x2++([v1]:List UInt8)))))
  (ck (decide (x2.length≤1099511627776)) (some [(.s (lE.text x2))]))=ρ):dE.l1 x0 x1 x2=ρ:=((bU _ _ _ _ _ _ _).trans (by kernel_rfl)).trans (K _ rfl _ rfl)
theorem dE.eJ (v:UInt64):dE.F v=dE.l1 v (56:Int) ([]:List UInt8):=by kernel_rfl
end
end Go.Eng
set_option maxRecDepth 100000
namespace Go.Eng
open Go.Proofs
noncomputable section
def eh.E:cC:=cT fQ zs [(51,(fV.c,fV.sg)),(53,(fT.c,fT.sg)),(54,(fU.c,fU.sg)),(55,(gJ.c,gJ.sg)),(85,(eY.c,eY.sg)),(86,(dC.c,dC.sg)),(87,(dE.c,dE.sg)),(88,(fw.c,fw.sg)),(89,(dR.c,dR.sg))]
def eh.h:Hint := .o
noncomputable def eh.F (v:Val):Option (List TV):=cR Go.Proofs.Tryz.prog eh.E 56 eh.sg eh.h [(.ag (Val.cells v))]
theorem eh.bZ (v:Val) {ρ:Option (List TV)} (K:∀(v1:Bool) (h1:v1=(cond (decide ((Sh.text ((Val.bits v)))=([78,97,78]:bz))) (!decide ((Val.bits v)=(9221120237041090560:UInt64))) false)) (v2:bM) (h2:v2=(Cn.str ((Cn.high ((Val.bits v)))))) (v3:bM) (h3:v3=(Cn.one (([36,100,111,117,98,108,101,66,105,116,115]:bz)) v2)) (v4:bM) (h4:v4=(Cn.str ((Sh.text ((Val.bits v)))))) (v5:bM) (h5:v5=(Cn.one (([36,110,117,109,98,101,114,68,111,117,98,108,101]:bz)) v4)) (v6:Int) (h6:v6=(IntKind.i64.wrap (((Val.bits v)).toNat:Int))) (v7:bM) (h7:v7=(Cn.one (([36,110,117,109,98,101,114,76,111,110,103]:bz)) (Cn.str ((Nr.itoa v6))))) (v8:bM) (h8:v8=(Cn.one (([36,100,97,116,101]:bz)) v7)) (v9:Int) (h9:v9=(IntKind.i32.wrap (((Val.bits v)).toNat:Int))) (v10:bz) (iA:v10=(Nr.itoa ((IntKind.i64.wrap v9)))) (v11:bM) (ki:v11=(Cn.one (([36,110,117,109,98,101,114,73,110,116]:bz)) (Cn.str v10))) (v12:UInt64) (jE:v12=(dD (Val.bits v) (((32:UInt64)).toNat))) (kW:Int) (nY:kW=(IntKind.i64.wrap ((v12).toNat:Int))) (jP:UInt64) (pA:jP=((Val.bits v) &&& (4294967295:UInt64))) (iD:Int) (o8:iD=(IntKind.i64.wrap ((jP).toNat:Int))) (mS:bM) (tO:mS=(Cn.two (([116]:bz)) (Cn.num kW) (([105]:bz)) (Cn.num iD))) (nT:bM) (xI:nT=(Cn.one (([36,116,105,109,101,115,116,97,109,112]:bz)) mS)) (lO:Bool) (wi:lO=(Cn.pX ((Val.high v)) ((Val.low v)))) (qJ:bz) (BU:qJ=(Cn.sW ((Val.high v)) ((Val.low v)))) (v20:bM) (zF:v20=(Cn.one (([36,110,117,109,98,101,114,68,101,99,105,109,97,108]:bz)) (Cn.str qJ))) (v21:bz) (KS:v21=((Cn.high ((Val.high v)))++(Cn.high ((Val.low v))))) (v22:bM) (KR:v22=(Cn.one (([36,100,101,99,105,109,97,108,66,105,116,115]:bz)) (Cn.str v21))),cond (decide ((Val.kind v)=(1:Int)))
  (ck (!(decide ((Sh.text ((Val.bits v)))=([78,97,78]:bz))) || (decide ((Sh.text ((Val.bits v)))=([78,97,78]:bz)))) (ck (!(decide ((Sh.text ((Val.bits v)))=([78,97,78]:bz))) || (decide ((Sh.text ((Val.bits v)))=([78,97,78]:bz)))) (ck (!(decide ((Sh.text ((Val.bits v)))=([78,97,78]:bz))) || (decide ((Sh.text ((Val.bits v)))=([78,97,78]:bz)))) (cond v1
  (some [(.ag (bM.cells v3)),(.b true)])
  (some [(.ag (bM.cells v5)),(.b true)])))))
  (cond (decide ((Val.kind v)=(9:Int)))
  (ck (Nr.i64 v6) (some [(.ag (bM.cells v8)),(.b true)]))
  (cond (decide ((Val.kind v)=(16:Int)))
  (ck (Nr.i64 ((IntKind.i64.wrap v9))) (some [(.ag (bM.cells v11)),(.b true)]))
  (cond (decide ((Val.kind v)=(18:Int)))
  (ck (Nr.i64 v6) (some [(.ag (bM.cells v7)),(.b true)]))
  (cond (decide ((Val.kind v)=(17:Int)))
  (ck (Nr.i64 kW) (ck (Nr.i64 iD) (some [(.ag (bM.cells nT)),(.b true)])))
  (cond (decide ((Val.kind v)=(19:Int)))
  (cond lO
  (some [(.ag (bM.cells v20)),(.b true)])
  (ck (decide (((Cn.high ((Val.high v)))).length+((Cn.high ((Val.low v)))).length≤9223372036854775807)) (some [(.ag (bM.cells v22)),(.b true)])))
  (some [(.ag [(.i .i64 0),(.s []),(.sl .ml ([]:List Mem))]),(.b false)]))))))=ρ):eh.F v=ρ:=Eq.trans (by kernel_rfl) (K _ rfl _ rfl _ rfl _ rfl _ rfl _ rfl _ rfl _ rfl _ rfl _ rfl _ rfl _ rfl _ rfl _ rfl _ rfl _ rfl _ rfl _ rfl _ rfl _ rfl _ rfl _ rfl)
end
noncomputable section
def gm.E:cC:=cT fQ zs [(51,(fV.c,fV.sg)),(53,(fT.c,fT.sg)),(54,(fU.c,fU.sg)),(90,(cQ.c,cQ.sg)),(91,(cd.c,cd.sg))]
def gm.h:Hint := .o
noncomputable def gm.F (v:Val):Option (List TV):=cR Go.Proofs.Tryz.prog gm.E 57 gm.sg gm.h [(.ag (Val.cells v))]
theorem gm.bZ (v:Val) {ρ:Option (List TV)} (K:∀(v1:bM) (h1:v1=(Cn.str ((Cn.base ((Val.bytes v)))))) (v2:List UInt8) (h2:v2=([(UInt8.ofInt (Val.sub v))]:List UInt8)) (v3:bM) (h3:v3=(Cn.two (([98,97,115,101,54,52]:bz)) v1 (([115,117,98,84,121,112,101]:bz)) (Cn.str ((lE.text v2))))) (v4:bM) (h4:v4=(Cn.one (([36,98,105,110,97,114,121]:bz)) v3)) (v5:bM) (h5:v5=(Cn.str ((lE.text ((Val.bytes v)))))) (v6:bM) (h6:v6=(Cn.one (([36,111,105,100]:bz)) v5)) (v7:bM) (h7:v7=(Cn.two (([112,97,116,116,101,114,110]:bz)) (Cn.str ((Val.text v))) (([111,112,116,105,111,110,115]:bz)) (Cn.str ((Val.more v))))) (v8:bM) (h8:v8=(Cn.one (([36,114,101,103,117,108,97,114,69,120,112,114,101,115,115,105,111,110]:bz)) v7)) (v9:bM) (h9:v9=(Cn.two (([36,114,101,102]:bz)) (Cn.str ((Val.text v))) (([36,105,100]:bz)) v6)) (v10:bM) (iA:v10=(Cn.one (([36,100,98,80,111,105,110,116,101,114]:bz)) v9)) (v11:bM) (ki:v11=(Cn.one (([36,99,111,100,101]:bz)) (Cn.str ((Val.text v))))) (v12:bM) (jE:v12=(Cn.one (([36,115,121,109,98,111,108]:bz)) (Cn.str ((Val.text v))))),cond (decide ((Val.kind v)=(5:Int)))
  (ck (decide ((((Val.bytes v))).length≤1099511627776)) (ck (decide (v2.length≤1099511627776)) (some [(.ag (bM.cells v4))])))
  (cond (decide ((Val.kind v)=(7:Int)))
  (ck (decide (((Val.bytes v)).length≤1099511627776)) (some [(.ag (bM.cells v6))]))
  (cond (decide ((Val.kind v)=(11:Int)))
  (some [(.ag (bM.cells v8))])
  (cond (decide ((Val.kind v)=(12:Int)))
  (ck (decide (((Val.bytes v)).length≤1099511627776)) (some [(.ag (bM.cells v10))]))
  (cond (decide ((Val.kind v)=(13:Int)))
  (some [(.ag (bM.cells v11))])
  (cond (decide ((Val.kind v)=(14:Int)))
  (some [(.ag (bM.cells v12))])
  (some [(.ag (bM.cells (Cn.str ((Val.text v)))))]))))))=ρ):gm.F v=ρ:=Eq.trans (by kernel_rfl) (K _ rfl _ rfl _ rfl _ rfl _ rfl _ rfl _ rfl _ rfl _ rfl _ rfl _ rfl _ rfl)
end
noncomputable section
def cD.E (n:Nat):cC:=cT fQ zs [(36,(di.cn n,di.sg))] [51]
def cD.h:Hint := .s .o (.s .o (.s (.s .o (.b (.l [(2,.ptr 28 0),(3,.ptr 29 0),(7,.no),(8,.no),(9,.no),(28,.cl [(2,800000)]),(29,.cl [(2,800001)]),(800000,.pv),(800001,.pv)] .o))) .o))
noncomputable def cD.F (n:Nat) (l:List bJ):Option (List TV):=cR Go.Proofs.Tryz.prog (cD.E n) 21 cD.sg cD.h [(.sl .fl l)]
noncomputable def cD.l1 (n:Nat) (x0:List bJ) (x1:Int) (x2:Int) (x3:Int) (x4:bz) (x5:Int) (x6:bz) (x7:List Mem) (x8:List Mem):Option (List TV):=dQ Go.Proofs.Tryz.prog (cD.E n) 21 cD.sg cD.h 43 [.pt,.pt,(.sl .fl x0),(.i .i64 x1),(.i .i64 x2),(.ag [(.i .i64 x3),(.s x4),.pt]),(.ag [(.i .i64 x5),(.s x6),.pt]),(.sl .ml x7),(.sl .ml x8)]
theorem cD.bV (n:Nat) (x0:List bJ) (x1:Int) (x2:Int) (x3:Int) (x4:bz) (x5:Int) (x6:bz) (x7:List Mem) (x8:List Mem) {ρ:Option (List TV)} (K:∀(v1:bJ) (h1:v1=(List.getD x0 (x2).toNat (fe.gk .fl))) (v2:Int) (h2:v2=(bM.kind (Cn.wv (bJ.val v1)))) (v3:bz) (h3:v3=(bM.text (Cn.wv (bJ.val v1)))) (v4:List Mem) (h4:v4=(bM.kids (Cn.wv (bJ.val v1)))) (v5:List Mem) (h5:v5=([(Mem.mk (bJ.name v1) v2 v3 v4)]:List Mem)) (v6:Int) (h6:v6=(IntKind.i64.wrap (x2+(1:Int)))),cond (decide (x2<x1))
  (ck (bB x2 (x0).length) (ck ((decide (bJ.bO (bJ.of [] (bJ.val v1))≤1099511627776))&&decide ((2 * bJ.bO (bJ.of [] (bJ.val v1)))<n)) (ck (fC ((x8).length+(v5).length) 64) (cD.l1 n x0 x1 v6 x3 x4 x5 x6 x7 (x8++v5)))))
  (some [(.ag [(.i .i64 x5),(.s x6),(.sl .ml x8)])])=ρ):cD.l1 n x0 x1 x2 x3 x4 x5 x6 x7 x8=ρ:=((bU _ _ _ _ _ _ _).trans (by kernel_rfl)).trans (K _ rfl _ rfl _ rfl _ rfl _ rfl _ rfl)
theorem cD.eJ (n:Nat) (l:List bJ):cD.F n l=cD.l1 n l ((l).length:Int) (0:Int) (0:Int) ([]:bz) (7:Int) ([]:bz) ([]:List Mem) ([]:List Mem):=by kernel_rfl
end
noncomputable section
def di.E (n:Nat):cC:=cT fQ zs [(21,(cD.cn n,cD.sg)),(50,(cY.c,cY.sg)),(51,(fV.c,fV.sg)),(52,(bN.c,bN.sg)),(53,(fT.c,fT.sg)),(54,(fU.c,fU.sg)),(55,(gJ.c,gJ.sg)),(56,(eh.c,eh.sg)),(57,(gm.c,gm.sg))]
def di.h:Hint := .s .o (.s (.s .o (.b (.s .o (.s .o (.s .o (.s (.s .o (.s .o (.s .o (.s (.s .o (.b (.l [(2,.ptr 97 0),(3,.ptr 98 0),(44,.no),(45,.no),(97,.cl [(2,800000)]),(98,.cl [(2,800001)]),(800000,.pv),(800001,.pv)] .o))) .o)))) .o)))))) .o)
noncomputable def di.F (n:Nat) (v:Val):Option (List TV):=cR Go.Proofs.Tryz.prog (di.E n) 36 di.sg di.h [(.ag (Val.cells v))]
noncomputable def di.l1 (n:Nat) (x0:Int) (x1:Int) (x2:Int) (x3:bz) (x4:Int) (x5:bz) (x6:List Mem) (x7:List Mem):Option (List TV):=dQ Go.Proofs.Tryz.prog (di.E n) 36 di.sg di.h 22389 [.pt,.pt,(.i .i64 x0),(.i .i64 x1),(.ag [(.i .i64 x2),(.s x3),.pt]),(.ag [(.i .i64 x4),(.s x5),.pt]),(.sl .ml x6),(.sl .ml x7)]
theorem di.bV (n:Nat) (x0:Int) (x1:Int) (x2:Int) (x3:bz) (x4:Int) (x5:bz) (x6:List Mem) (x7:List Mem) {ρ:Option (List TV)} (K:∀(v1:List Mem) (h1:v1=(List.set x7 ((x1).toNat) (Mem.mk ([]:bz) (Mem.kind (List.getD x7 ((x1).toNat) (fe.gk .ml))) (Mem.text (List.getD x7 ((x1).toNat) (fe.gk .ml))) (Mem.kids (List.getD x7 ((x1).toNat) (fe.gk .ml)))))) (v2:Int) (h2:v2=(IntKind.i64.wrap (x1+(1:Int)))),cond (decide (x1<x0))
  (ck (bB x1 (x7).length) (ck (decide ((x1).toNat<(x7).length)) (di.l1 n x0 v2 x2 x3 x4 x5 x6 v1)))
  (some [(.ag [(.i .i64 x4),(.s x5),(.sl .ml x7)])])=ρ):di.l1 n x0 x1 x2 x3 x4 x5 x6 x7=ρ:=((bU _ _ _ _ _ _ _).trans (by kernel_rfl)).trans (K _ rfl _ rfl)
theorem di.bZ (n:Nat) (v:Val) {ρ:Option (List TV)} (K:∀(v1:Int) (h1:v1=(((Val.kids v)).length:Int)) (v2:bJ) (h2:v2=(List.getD (Val.kids v) ((0:Int)).toNat (fe.gk .fl))) (v3:Bool) (h3:v3=(List.isPrefixOf (([36]:bz)) ((bJ.name v2)))) (v4:Bool) (h4:v4=(cond (decide ((0:Int)<v1)) v3 false)) (v5:List Mem) (h5:v5=(bM.kids (Cn.oA ((Val.kids v))))) (v6:Int) (h6:v6=(bM.kind (Cn.oA ((Val.kids v))))) (v7:bz) (h7:v7=(bM.text (Cn.oA ((Val.kids v))))) (v8:bM) (h8:v8=(Cn.one (([36,100,111,99,117,109,101,110,116]:bz)) (bM.mk v6 v7 v5))) (v9:Bool) (h9:v9=(Tree.regular ((Val.kids v)))) (v10:bM) (iA:v10=(Cn.one (([36,97,114,114,97,121]:bz)) (bM.mk v6 v7 v5))) (v11:bM) (ki:v11=(Cn.two (([36,99,111,100,101]:bz)) (Cn.str ((Val.text v))) (([36,115,99,111,112,101]:bz)) (bM.mk v6 v7 v5))) (v12:bM) (jE:v12=(Cn.one (([36,117,110,100,101,102,105,110,101,100]:bz)) (bM.mk (3:Int) ([]:bz) ([]:List Mem)))) (kW:Int) (nY:kW=(IntKind.i64.wrap (((Val.bits v)).toNat:Int))) (jP:Int) (pA:jP=(IntKind.i64.wrap ((2:Int)+kW))) (iD:bM) (o8:iD=(Cn.one (([36,109,105,110,75,101,121]:bz)) (Cn.num ((1:Int))))) (mS:bM) (tO:mS=(Cn.one (([36,109,97,120,75,101,121]:bz)) (Cn.num ((1:Int))))),cond (decide ((Val.kind v)=(3:Int)))
  (ck (!(decide ((0:Int)<v1)) || (decide ((0:Int)<v1))) (ck (!(decide ((0:Int)<v1)) || ((decide ((0:Int)<v1))&&(bB (0:Int) ((Val.kids v)).length))) (ck (!(decide ((0:Int)<v1)) || (decide ((0:Int)<v1))) (ck (!(decide ((0:Int)<v1)) || (decide ((0:Int)<v1))) (ck (!(decide ((0:Int)<v1)) || (decide ((0:Int)<v1))) (ck (!(decide ((0:Int)<v1)) || (decide ((0:Int)<v1))) (cond v4
  (ck ((decide (bJ.cM ((Val.kids v))≤1099511627776))&&decide ((2 * bJ.cM ((Val.kids v))+1)<n)) (some [(.ag (bM.cells v8))]))
  (ck ((decide (bJ.cM ((Val.kids v))≤1099511627776))&&decide ((2 * bJ.cM ((Val.kids v))+1)<n)) (some [(.ag [(.i .i64 v6),(.s v7),(.sl .ml v5)])])))))))))
  (cond (decide ((Val.kind v)=(4:Int)))
  (ck ((decide (bJ.cM ((Val.kids v))≤1099511627776))&&decide ((2 * bJ.cM ((Val.kids v))+1)<n)) (ck (decide (((Val.kids v)).length≤1099511627776)) (cond (!v9)
  (some [(.ag (bM.cells v10))])
  (di.l1 n ((v5).length:Int) (0:Int) (0:Int) ([]:bz) (6:Int) v7 ([]:List Mem) v5))))
  (cond (decide ((Val.kind v)=(15:Int)))
  (ck ((decide (bJ.cM ((Val.kids v))≤1099511627776))&&decide ((2 * bJ.cM ((Val.kids v))+1)<n)) (some [(.ag (bM.cells v11))]))
  (cond (decide ((Val.kind v)=(6:Int)))
  (some [(.ag (bM.cells v12))])
  (cond (decide ((Val.kind v)=(8:Int)))
  (some [(.ag [(.i .i64 jP),(.s []),(.sl .ml ([]:List Mem))])])
  (cond (decide ((Val.kind v)=(10:Int)))
  (some [(.ag [(.i .i64 1),(.s []),(.sl .ml ([]:List Mem))])])
  (cond (decide ((Val.kind v)=(255:Int)))
  (ck (Nr.i64 ((1:Int))) (some [(.ag (bM.cells iD))]))
  (cond (decide ((Val.kind v)=(127:Int)))
  (ck (Nr.i64 ((1:Int))) (some [(.ag (bM.cells mS))]))
  (cond ((Cn.nW v).2)
  (some [(.ag (bM.cells ((Cn.nW v).1)))])
  (ck (decide (bJ.bO (bJ.of [] v)≤1099511627776)) (some [(.ag (bM.cells (Cn.qM v)))]))))))))))=ρ):di.F n v=ρ:=Eq.trans (by kernel_rfl) (K _ rfl _ rfl _ rfl _ rfl _ rfl _ rfl _ rfl _ rfl _ rfl _ rfl _ rfl _ rfl _ rfl _ rfl _ rfl _ rfl)
end
noncomputable section
def fF.E:cC:=cT fQ zs [(20,(dH.c,dH.sg)),(21,(cD.c,cD.sg))]
def fF.h:Hint := .o
noncomputable def fF.F (v:Val):Option (List TV):=cR Go.Proofs.Tryz.prog fF.E 9 fF.sg fF.h [(.ag (Val.cells v))]
theorem fF.bZ (v:Val) {ρ:Option (List TV)} (K:∀(v1:List Int) (h1:v1=((Tree.iT (bJ.of [] v) []).1)) (v2:Int) (h2:v2=((Tree.iT (bJ.of [] v) []).2)) (v3:List Mem) (h3:v3=(bM.kids (Cn.oA ((Val.kids v))))) (v4:Int) (h4:v4=(bM.kind (Cn.oA ((Val.kids v))))) (v5:bz) (h5:v5=(bM.text (Cn.oA ((Val.kids v))))),ck (decide (bJ.bO (bJ.of [] v)≤1099511627776)) (cond (!decide (v2=(0:Int)))
  (some [(.ag [(.i .i64 0),(.s []),(.sl .ml ([]:List Mem))]),(.ag [(.i .i64 v2),(.i .i64 0),(.sl .is v1)])])
  (cond (!decide ((Val.kind v)=(3:Int)))
  (some [(.ag [(.i .i64 0),(.s []),(.sl .ml ([]:List Mem))]),(.ag [(.i .i64 5),(.i .i64 0),(.sl .is ([]:List Int))])])
  (ck (decide (bJ.cM ((Val.kids v))≤1099511627776)) (some [(.ag [(.i .i64 v4),(.s v5),(.sl .ml v3)]),(.ag [(.i .i64 0),(.i .i64 0),(.sl .is ([]:List Int))])]))))=ρ):fF.F v=ρ:=Eq.trans (by kernel_rfl) (K _ rfl _ rfl _ rfl _ rfl _ rfl)
end
noncomputable section
def iH.E:cC:=cT fQ zs [(81,(dJ.c,dJ.sg))]
def iH.h:Hint := .o
noncomputable def iH.F (s:bz):Option (List TV):=cR Go.Proofs.Tryz.prog iH.E 74 iH.sg iH.h [(.s s)]
theorem iH.eJ (s:bz):iH.F s=ck (qT (s).length) (ck (decide (s.length≤1099511627776)) (some [(.b (fy.whole s))])):=by kernel_rfl
end
noncomputable section
def bP.E (n:Nat):cC:=cT fQ zs [(39,(bP.cn n,bP.sg)),(73,(bD.c,bD.sg)),(74,(iH.c,iH.sg))]
def bP.h:Hint := .s .o (.s .o (.s (.s .o (.b (.l [(1,.ptr 105 0),(47,.no),(48,.no),(49,.no),(105,.cl [])] .o))) (.s .o (.s .o (.s (.s .o (.b (.l (sc [87,88,89]) .o))) .o)))))
noncomputable def bP.F (n:Nat) (j:bM):Option (List TV):=cR Go.Proofs.Tryz.prog (bP.E n) 39 bP.sg bP.h [(.ag (bM.cells j))]
noncomputable def bP.l1 (n:Nat) (x0:List Mem) (x1:Int) (x2:Int) (x3:bM):Option (List TV):=dQ Go.Proofs.Tryz.prog (bP.E n) 39 bP.sg bP.h 43 [.pt,(.sl .ml x0),(.i .i64 x1),(.i .i64 x2),(.ag (bM.cells x3))]
noncomputable def bP.l2 (n:Nat) (x0:List Mem) (x1:Int) (x2:Int):Option (List TV):=dQ Go.Proofs.Tryz.prog (bP.E n) 39 bP.sg bP.h 351 [(.sl .ml x0),(.i .i64 x1),(.i .i64 x2)]
theorem bP.bV (n:Nat) (x0:List Mem) (x1:Int) (x2:Int) (x3:bM) {ρ:Option (List TV)} (K:∀(v1:Mem) (h1:v1=(List.getD x0 (x2).toNat (fe.gk .ml))) (v2:Bool) (h2:v2=(cond (decide ((bM.kind x3)=(6:Int))) (!decide ((Mem.name v1)=([]:bz))) false)) (v3:Int) (h3:v3=(IntKind.i64.wrap (x2+(1:Int)))) (v4:Bool) (h4:v4=((decide ((bM.kind x3)=(4:Int)))&&(!(decide ((Nr.iX ((bM.text x3)))=(0:Int)))))) (v5:Int) (h5:v5=(((bM.text x3)).length:Int)) (v6:Bool) (h6:v6=(cond (decide ((Nr.iX ((bM.text x3)))=(0:Int))) true (decide ((300:Int)<v5)))) (v7:Bool) (h7:v7=(cond (decide ((bM.kind x3)=(4:Int))) v6 false)) (v8:Bool) (h8:v8=(!(fy.whole ((bM.text x3))))) (v9:Bool) (h9:v9=(cond (decide ((bM.kind x3)=(5:Int))) v8 false)) (v10:Int) (iA:v10=(((bM.kids x3)).length:Int)),cond (decide (x2<x1))
  (ck (bB x2 (x0).length) (ck (!(decide ((bM.kind x3)=(6:Int))) || (decide ((bM.kind x3)=(6:Int)))) (ck (!(decide ((bM.kind x3)=(6:Int))) || (decide ((bM.kind x3)=(6:Int)))) (ck (!(decide ((bM.kind x3)=(6:Int))) || (decide ((bM.kind x3)=(6:Int)))) (cond v2
  (some [(.i .i64 1)])
  (bP.l1 n x0 x1 v3 x3))))))
  (ck (!(decide ((bM.kind x3)=(4:Int))) || (decide ((bM.kind x3)=(4:Int)))) (ck (!(decide ((bM.kind x3)=(4:Int))) || ((decide ((bM.kind x3)=(4:Int)))&&(decide ((((bM.text x3))).length≤1099511627776)))) (ck (!(decide ((bM.kind x3)=(4:Int))) || (decide ((bM.kind x3)=(4:Int)))) (ck (!(decide ((bM.kind x3)=(4:Int))) || (decide ((bM.kind x3)=(4:Int)))) (ck (!v4 || v4) (ck (!v4 || v4) (ck (!v4 || v4) (ck (!(decide ((bM.kind x3)=(4:Int))) || ((decide ((bM.kind x3)=(4:Int)))&&((decide ((Nr.iX ((bM.text x3)))=(0:Int))) || v4))) (ck (!(decide ((bM.kind x3)=(4:Int))) || (decide ((bM.kind x3)=(4:Int)))) (cond v7
  (some [(.i .i64 10)])
  (ck (!(decide ((bM.kind x3)=(5:Int))) || (decide ((bM.kind x3)=(5:Int)))) (ck (!(decide ((bM.kind x3)=(5:Int))) || ((decide ((bM.kind x3)=(5:Int)))&&(decide ((((bM.text x3))).length≤1099511627776)))) (ck (!(decide ((bM.kind x3)=(5:Int))) || (decide ((bM.kind x3)=(5:Int)))) (ck (!(decide ((bM.kind x3)=(5:Int))) || (decide ((bM.kind x3)=(5:Int)))) (cond v9
  (some [(.i .i64 4)])
  (bP.l2 n (bM.kids x3) v10 (0:Int)))))))))))))))))=ρ):bP.l1 n x0 x1 x2 x3=ρ:=((bU _ _ _ _ _ _ _).trans (by kernel_rfl)).trans (K _ rfl _ rfl _ rfl _ rfl _ rfl _ rfl _ rfl _ rfl _ rfl _ rfl)
theorem bP.iw (n:Nat) (x0:List Mem) (x1:Int) (x2:Int) {ρ:Option (List TV)} (K:∀(v1:Mem) (h1:v1=(List.getD x0 (x2).toNat (fe.gk .ml))) (v2:Bool) (h2:v2=(!(fy.whole ((Mem.name v1))))) (v3:Int) (h3:v3=(IntKind.i64.wrap (x2+(1:Int)))),cond (decide (x2<x1))
  (ck (bB x2 (x0).length) (ck (decide ((((Mem.name v1))).length≤1099511627776)) (cond v2
  (some [(.i .i64 4)])
  (ck ((decide (bM.bO (Mem.val v1)≤1099511627776))&&decide ((bM.bO (Mem.val v1))<n)) (cond (!decide ((Cn.mE (Mem.val v1))=(0:Int)))
  (some [(.i .i64 (Cn.mE (Mem.val v1)))])
  (bP.l2 n x0 x1 v3))))))
  (some [(.i .i64 0)])=ρ):bP.l2 n x0 x1 x2=ρ:=((bU _ _ _ _ _ _ _).trans (by kernel_rfl)).trans (K _ rfl _ rfl _ rfl)
theorem bP.bZ (n:Nat) (j:bM) {ρ:Option (List TV)} (K:∀(v1:Bool) (h1:v1=(cond (decide ((bM.kind j)<(1:Int))) true (decide ((7:Int)<(bM.kind j))))) (v2:Int) (h2:v2=(((bM.kids j)).length:Int)) (v3:Bool) (h3:v3=(cond (decide ((0:Int)<v2)) (!decide ((bM.kind j)=(6:Int))) false)) (v4:Bool) (h4:v4=(cond v3 (!decide ((bM.kind j)=(7:Int))) false)) (v5:Bool) (h5:v5=(cond (!decide ((bM.text j)=([]:bz))) (!decide ((bM.kind j)=(4:Int))) false)) (v6:Bool) (h6:v6=(cond v5 (!decide ((bM.kind j)=(5:Int))) false)),ck (!(!(decide ((bM.kind j)<(1:Int)))) || (!(decide ((bM.kind j)<(1:Int))))) (ck (!(!(decide ((bM.kind j)<(1:Int)))) || (!(decide ((bM.kind j)<(1:Int))))) (ck ((decide ((bM.kind j)<(1:Int))) || (!(decide ((bM.kind j)<(1:Int))))) (cond v1
  (some [(.i .i64 1)])
  (ck (!(decide ((0:Int)<v2)) || (decide ((0:Int)<v2))) (ck (!(decide ((0:Int)<v2)) || (decide ((0:Int)<v2))) (ck (!(decide ((0:Int)<v2)) || (decide ((0:Int)<v2))) (ck (!v3 || v3) (ck (!v3 || v3) (ck (!v3 || v3) (cond v4
  (some [(.i .i64 1)])
  (ck (!(!decide ((bM.text j)=([]:bz))) || (!decide ((bM.text j)=([]:bz)))) (ck (!(!decide ((bM.text j)=([]:bz))) || (!decide ((bM.text j)=([]:bz)))) (ck (!(!decide ((bM.text j)=([]:bz))) || (!decide ((bM.text j)=([]:bz)))) (ck (!v5 || v5) (ck (!v5 || v5) (ck (!v5 || v5) (cond v6
  (some [(.i .i64 1)])
  (bP.l1 n (bM.kids j) v2 (0:Int) j))))))))))))))))))=ρ):bP.F n j=ρ:=Eq.trans (by kernel_rfl) (K _ rfl _ rfl _ rfl _ rfl _ rfl _ rfl)
end
noncomputable section
def cm.E:cC:=cT fQ zs [(74,(iH.c,iH.sg)),(91,(cd.c,cd.sg)),(134,(cX.c,cX.sg))]
def cm.h:Hint := .s .o (.s .o (.s .o (.s (.s .o (.b (.l [(0,.no),(4,.fA 800000),(13,.no),(14,.no),(800000,.pv)] (.s .o (.s .o (.j [(0,.no),(4,.fA 800000),(13,.no),(14,.no),(800000,.pv)] .o .o)))))) .o)))
noncomputable def cm.F (s:bz):Option (List TV):=cR Go.Proofs.Tryz.prog cm.E 106 cm.sg cm.h [(.s s)]
noncomputable def cm.l1 (x0:bz) (x1:Int) (x2:Int) (x3:List UInt8):Option (List TV):=dQ Go.Proofs.Tryz.prog cm.E 106 cm.sg cm.h 87 [(.s x0),.pt,(.i .i64 x1),(.i .i64 x2),(.sl .bs x3)]
noncomputable def cm.j2 (x0:bz) (x1:Int) (x2:Int) (x3:List UInt8):Option (List TV):=eD Go.Proofs.Tryz.prog cm.E 106 cm.sg cm.h 919 [(.s x0),.pt,(.i .i64 x1),(.i .i64 x2),(.sl .bs x3)]
theorem cm.bV (x0:bz) (x1:Int) (x2:Int) (x3:List UInt8) {ρ:Option (List TV)} (K:∀(v1:UInt8) (h1:v1=(List.getD x0 (x2).toNat (0:UInt8))) (v2:Int) (h2:v2=(Lib.indexByte (([34,92,8,12,10,13,9]:bz)) v1)) (v3:UInt8) (h3:v3=(List.getD ([34,92,98,102,110,114,116]:bz) (v2).toNat (0:UInt8))) (v4:List UInt8) (h4:v4=([(92:UInt8),v3]:List UInt8)) (v5:List UInt8) (h5:v5=(x3++([92,117,48,48]:bz))) (v6:bz) (h6:v6=(lE.text (([v1]:List UInt8)))) (v7:List UInt8) (h7:v7=([(34:UInt8)]:List UInt8)),cond (decide (x2<x1))
  (ck (bB x2 (x0).length) (cond (decide ((0:Int)≤v2))
  (ck (bB v2 (([34,92,98,102,110,114,116]:bz)).length) (ck (fC ((x3).length+(v4).length) 1) (cm.j2 x0 x1 x2 (x3++v4))))
  (cond (decide (v1<(32:UInt8)))
  (ck (fC ((x3).length+(([92,117,48,48]:bz)).length) 1) (ck (decide ((([v1]:List UInt8)).length≤1099511627776)) (ck (fC ((v5).length+(v6).length) 1) (cm.j2 x0 x1 x2 (v5++v6)))))
  (ck (fC ((x3).length+(([v1]:List UInt8)).length) 1) (cm.j2 x0 x1 x2 (x3++([v1]:List UInt8)))))))
  (ck (fC ((x3).length+(v7).length) 1) (some [(.s (x3++v7)),(.b true)]))=ρ):cm.l1 x0 x1 x2 x3=ρ:=((bU _ _ _ _ _ _ _).trans (by kernel_rfl)).trans (K _ rfl _ rfl _ rfl _ rfl _ rfl _ rfl _ rfl)
theorem cm.jg (x0:bz) (x1:Int) (x2:Int) (x3:List UInt8) {ρ:Option (List TV)} (K:∀(v1:Int) (h1:v1=(IntKind.i64.wrap (x2+(1:Int)))),cm.l1 x0 x1 v1 x3=ρ):cm.j2 x0 x1 x2 x3=ρ:=((b9 _ _ _ _ _ _ _).trans (by kernel_rfl)).trans (K _ rfl)
theorem cm.bZ (s:bz) {ρ:Option (List TV)} (K:∀(v1:List UInt8) (h1:v1=([(34:UInt8)]:List UInt8)),ck (decide ((s).length≤1099511627776)) (cond (!(fy.whole s))
  (some [(.s []),(.b false)])
  (cm.l1 s ((s).length:Int) (0:Int) v1))=ρ):cm.F s=ρ:=Eq.trans (by kernel_rfl) (K _ rfl)
end
noncomputable section
def jo_quoted.E:cC:=cT fQ zs [(106,(cm.c,cm.sg))]
def jo_quoted.h:Hint := .o
noncomputable def jo_quoted.F (b:List UInt8) (s:bz):Option (List TV):=cR Go.Proofs.Tryz.prog jo_quoted.E 75 jo_quoted.sg jo_quoted.h [(.sl .bs b),(.s s)]
theorem jo_quoted.eJ (b:List UInt8) (s:bz):jo_quoted.F b s=ck (decide ((s).length≤1000000000000)) (ck (fC ((b).length+((Cn.jx s)).length) 1) (some [(.sl .bs (b++(Cn.jx s)))])):=by kernel_rfl
end
noncomputable section
def bY.E (n:Nat):cC:=cT fQ zs [(40,(bY.cn n,bY.sg)),(75,(jo_quoted.c,jo_quoted.sg))]
def bY.h:Hint := .s .o (.s .o (.s .o (.j [(0,.fA 1000000),(3,.ptr 76 0),(5,.no),(6,.no),(76,.cl []),(1000000,.pv)] .o (.s .o (.s (.s .o (.b (.l [(0,.fA 800000),(3,.ptr 76 0),(6,.no),(43,.no),(44,.no),(45,.no),(76,.cl []),(800000,.pv)] (.s .o (.s .o (.s (.b (.s .o (.j [(0,.fA 800000),(3,.ptr 76 0),(6,.no),(8,.ptr 81 0),(43,.no),(44,.no),(45,.no),(76,.cl []),(81,.cl []),(800000,.pv)] .o (.j [(0,.fA 800000),(3,.ptr 76 0),(6,.no),(8,.ptr 81 0),(43,.no),(44,.no),(45,.no),(76,.cl []),(81,.cl []),(800000,.pv)] .o .o)))) .o)))))) .o)))))
noncomputable def bY.F (n:Nat) (b:List UInt8) (j:bM):Option (List TV):=cR Go.Proofs.Tryz.prog (bY.E n) 40 bY.sg bY.h [(.sl .bs b),(.ag (bM.cells j))]
noncomputable def bY.j1 (n:Nat) (x0:UInt8) (x1:UInt8) (x2:bM) (x3:List UInt8):Option (List TV):=eD Go.Proofs.Tryz.prog (bY.E n) 40 bY.sg bY.h 15 [.pt,.pt,(.u8 x0),(.u8 x1),(.ag (bM.cells x2)),(.sl .bs x3)]
noncomputable def bY.l2 (n:Nat) (x0:UInt8) (x1:List Mem) (x2:Int) (x3:Int) (x4:bM) (x5:List UInt8):Option (List TV):=dQ Go.Proofs.Tryz.prog (bY.E n) 40 bY.sg bY.h 351 [.pt,.pt,(.u8 x0),(.sl .ml x1),(.i .i64 x2),(.i .i64 x3),(.ag (bM.cells x4)),(.sl .bs x5)]
noncomputable def bY.j3 (n:Nat) (x0:UInt8) (x1:List Mem) (x2:Int) (x3:Int) (x4:bM) (x5:Mem) (x6:List UInt8):Option (List TV):=eD Go.Proofs.Tryz.prog (bY.E n) 40 bY.sg bY.h 26207 [.pt,.pt,(.u8 x0),.pt,(.sl .ml x1),(.i .i64 x2),(.i .i64 x3),(.ag (bM.cells x4)),(.ag (Mem.cells x5)),(.sl .bs x6)]
noncomputable def bY.j4 (n:Nat) (x0:UInt8) (x1:List Mem) (x2:Int) (x3:Int) (x4:bM) (x5:Mem) (x6:List UInt8):Option (List TV):=eD Go.Proofs.Tryz.prog (bY.E n) 40 bY.sg bY.h 58975 [.pt,.pt,(.u8 x0),.pt,(.sl .ml x1),(.i .i64 x2),(.i .i64 x3),(.ag (bM.cells x4)),(.ag (Mem.cells x5)),(.sl .bs x6)]
theorem bY.iI (n:Nat) (x0:UInt8) (x1:UInt8) (x2:bM) (x3:List UInt8) {ρ:Option (List TV)} (K:∀(v1:Int) (h1:v1=(((bM.kids x2)).length:Int)),ck (fC ((x3).length+(([x0]:List UInt8)).length) 1) (bY.l2 n x1 (bM.kids x2) v1 (0:Int) x2 (x3++([x0]:List UInt8)))=ρ):bY.j1 n x0 x1 x2 x3=ρ:=((b9 _ _ _ _ _ _ _).trans (by kernel_rfl)).trans (K _ rfl)
theorem bY.iw (n:Nat) (x0:UInt8) (x1:List Mem) (x2:Int) (x3:Int) (x4:bM) (x5:List UInt8) {ρ:Option (List TV)} (K:∀(v1:Mem) (h1:v1=(List.getD x1 (x3).toNat (fe.gk .ml))) (v2:List UInt8) (h2:v2=([(44:UInt8)]:List UInt8)),cond (decide (x3<x2))
  (ck (bB x3 (x1).length) (cond (decide ((0:Int)<x3))
  (ck (fC ((x5).length+(v2).length) 1) (bY.j3 n x0 x1 x2 x3 x4 v1 (x5++v2)))
  (bY.j3 n x0 x1 x2 x3 x4 v1 x5)))
  (ck (fC ((x5).length+(([x0]:List UInt8)).length) 1) (some [(.sl .bs (x5++([x0]:List UInt8)))]))=ρ):bY.l2 n x0 x1 x2 x3 x4 x5=ρ:=((bU _ _ _ _ _ _ _).trans (by kernel_rfl)).trans (K _ rfl _ rfl)
theorem bY.oY (n:Nat) (x0:UInt8) (x1:List Mem) (x2:Int) (x3:Int) (x4:bM) (x5:Mem) (x6:List UInt8) {ρ:Option (List TV)} (K:∀(v1:List UInt8) (h1:v1=((x6++Cn.jx ((Mem.name x5))))) (v2:List UInt8) (h2:v2=([(58:UInt8)]:List UInt8)),cond (decide ((bM.kind x4)=(7:Int)))
  (ck (decide ((x6).length+6 * (((Mem.name x5))).length≤5000000000000)) (ck (fC ((v1).length+(v2).length) 1) (bY.j4 n x0 x1 x2 x3 x4 x5 (v1++v2))))
  (bY.j4 n x0 x1 x2 x3 x4 x5 x6)=ρ):bY.j3 n x0 x1 x2 x3 x4 x5 x6=ρ:=((b9 _ _ _ _ _ _ _).trans (by kernel_rfl)).trans (K _ rfl _ rfl)
theorem bY.DO (n:Nat) (x0:UInt8) (x1:List Mem) (x2:Int) (x3:Int) (x4:bM) (x5:Mem) (x6:List UInt8) {ρ:Option (List TV)} (K:∀(v1:List UInt8) (h1:v1=((x6++Cn.tJ (Mem.val x5)))) (v2:Int) (h2:v2=(IntKind.i64.wrap (x3+(1:Int)))),ck ((decide ((x6).length+12 * bM.bO (Mem.val x5)≤4000000000000))&&decide ((bM.bO (Mem.val x5))<n)) (bY.l2 n x0 x1 x2 v2 x4 v1)=ρ):bY.j4 n x0 x1 x2 x3 x4 x5 x6=ρ:=((b9 _ _ _ _ _ _ _).trans (by kernel_rfl)).trans (K _ rfl _ rfl)
theorem bY.bZ (n:Nat) (b:List UInt8) (j:bM) {ρ:Option (List TV)} (K:∀(v1:List UInt8) (h1:v1=(b++([110,117,108,108]:bz))) (v2:List UInt8) (h2:v2=(b++([102,97,108,115,101]:bz))) (v3:List UInt8) (h3:v3=(b++([116,114,117,101]:bz))) (v4:List UInt8) (h4:v4=((b++Cn.jx ((bM.text j))))),cond (decide ((bM.kind j)=(1:Int)))
  (ck (fC ((b).length+(([110,117,108,108]:bz)).length) 1) (some [(.sl .bs v1)]))
  (cond (decide ((bM.kind j)=(2:Int)))
  (ck (fC ((b).length+(([102,97,108,115,101]:bz)).length) 1) (some [(.sl .bs v2)]))
  (cond (decide ((bM.kind j)=(3:Int)))
  (ck (fC ((b).length+(([116,114,117,101]:bz)).length) 1) (some [(.sl .bs v3)]))
  (cond (decide ((bM.kind j)=(4:Int)))
  (ck (fC ((b).length+((bM.text j)).length) 1) (some [(.sl .bs (b++(bM.text j)))]))
  (cond (decide ((bM.kind j)=(5:Int)))
  (ck (decide ((b).length+6 * (((bM.text j))).length≤5000000000000)) (some [(.sl .bs v4)]))
  (cond (decide ((bM.kind j)=(7:Int)))
  (bY.j1 n (123:UInt8) (125:UInt8) j b)
  (bY.j1 n (91:UInt8) (93:UInt8) j b))))))=ρ):bY.F n b j=ρ:=Eq.trans (by kernel_rfl) (K _ rfl _ rfl _ rfl _ rfl)
end
noncomputable section
def ft.E:cC:=cT fQ zs [(39,(bP.c,bP.sg)),(40,(bY.c,bY.sg))]
def ft.h:Hint := .o
noncomputable def ft.F (j:bM):Option (List TV):=cR Go.Proofs.Tryz.prog ft.E 24 ft.sg ft.h [(.ag (bM.cells j))]
theorem ft.bZ (j:bM) {ρ:Option (List TV)} (K:∀(v1:List UInt8) (h1:v1=(((([]:List UInt8))++Cn.tJ j))),ck (decide (bM.bO j≤1099511627776)) (cond (!decide ((Cn.mE j)=(0:Int)))
  (some [(.s []),(.i .i64 (Cn.mE j))])
  (ck (decide (((([]:List UInt8))).length+12 * bM.bO j≤4000000000000)) (some [(.s v1),(.i .i64 0)])))=ρ):ft.F j=ρ:=Eq.trans (by kernel_rfl) (K _ rfl)
end
noncomputable section
def gn.E:cC:=cT fQ zs [(9,(fF.c,fF.sg)),(24,(ft.c,ft.sg))]
def gn.h:Hint := .o
noncomputable def gn.F (v:Val):Option (List TV):=cR Go.Proofs.Tryz.prog gn.E 11 gn.sg gn.h [(.ag (Val.cells v))]
theorem gn.eJ (v:Val):gn.F v=ck (decide (bJ.bO (bJ.of [] v)≤1099511627776)) (cond (!decide ((Cn.jv v).2=(0:Int)))
  (some [(.s []),(.ag [(.i .i64 (Cn.jv v).2),(.i .i64 0),(.sl .is (Cn.jv v).1)])])
  (ck (decide (12 * bM.bO (Cn.jf v)≤1000000000000)) (some [(.s (Cn.pW (Cn.jf v))),(.ag [(.i .i64 (Cn.mE (Cn.jf v))),(.i .i64 0),(.sl .is ([]:List Int))])]))):=by kernel_rfl
end
noncomputable section
end
end Go.Eng
set_option maxRecDepth 100000
namespace Go.Eng
open Go.Proofs
noncomputable section
def dw.sg:bW:={}
def dw.c:eS:=fun l=>match l with
 | [] => .ok [(.b (true))]
 | _ => .err
end
noncomputable section
def dw.E:cC:=cT fQ zs [(11,(gn.c,gn.sg))]
def dw.h:Hint := .o
noncomputable def dw.F  : Option (List TV):=cR Go.Proofs.Tryz.prog dw.E 7 dw.sg dw.h []
theorem dw.bZ  {ρ:Option (List TV)} (K:∀(v1:List bJ) (h1:v1=([(bJ.mk ([97]:bz) 16 1 0 0 [] [] 0 [] [])]:List bJ)) (v2:bz) (h2:v2=(Cn.tV (Val.mk 3 0 0 0 [] [] 0 [] v1))) (v3:Int) (h3:v3=((Cn.oG (Val.mk 3 0 0 0 [] [] 0 [] v1)).2)) (v4:List Int) (h4:v4=((Cn.oG (Val.mk 3 0 0 0 [] [] 0 [] v1)).1)) (v5:Bool) (h5:v5=(decide (v2=([123,34,97,34,58,123,34,36,110,117,109,98,101,114,73,110,116,34,58,34,49,34,125,125]:bz)))) (v6:Bool) (h6:v6=(cond (decide (v3=(0:Int))) v5 false)),ck (decide (bJ.bO (bJ.of [] (Val.mk 3 0 0 0 [] [] 0 [] v1))≤100000)) (ck (!(decide (v3=(0:Int))) || (decide (v3=(0:Int)))) (ck (!(decide (v3=(0:Int))) || (decide (v3=(0:Int)))) (some [(.b v6)])))=ρ):dw.F  = ρ:=Eq.trans (by kernel_rfl) (K _ rfl _ rfl _ rfl _ rfl _ rfl _ rfl)
end
end Go.Eng
set_option maxRecDepth 20000
namespace Go.Eng
open Go.IntWalk
namespace Nr
theorem Af:run []=0:=rfl
theorem C3 (c:UInt8) (r:bz):run (c :: r)=if dV c then run r+1 else 0:=by
 unfold run
 rw [List.takeWhile_cons]
 split <;> rfl
theorem y6 (s:bz):run s≤s.length:=(List.takeWhile_sublist _).length_le
theorem zC (c:UInt8):dV c=cond (decide ((48:UInt8)≤c)) (decide (c≤(57:UInt8))) false:=by
 unfold dV
 rw [Bool.decide_and]
 cases decide ((48:UInt8)≤c) <;> rfl
end Nr
theorem ja.goal (s:bz) (at_:Int) (c d:UInt8) (hp:(decide (s.length≤1099511627776)&&decide (0≤at_))=true):ja.F s at_ c d=some [.b (decide (at_<s.length)&&(decide (s.getD at_.toNat 0=c) || decide (s.getD at_.toNat 0=d)))]:=by
 simp only [ah,aA] at hp
 refine ja.bZ _ _ _ _ ?_
 intro v1 h1 v2 h2 v3 h3 v4 h4
 by_cases c0:at_<s.length
 ·have ht:decide (at_<(s.length:Int))=true:=aa c0
  have hi:bB at_ s.length=true:=bK hp.2 c0
  rw [ht] at h2 h4
  have e4:v4=(true&&(decide (s.getD at_.toNat 0=c) || decide (s.getD at_.toNat 0=d))):=by
   rw [h4,h3,ai,←h1];cases decide (v1=c) <;> rfl
  rw [ht,hi,h2,e4,←h1]
  cases decide (v1=c) <;> rfl
 ·have ht:decide (at_<(s.length:Int))=false:=ab c0
  rw [ht] at h2 h4
  have e2:v2=false:=h2
  have e4:v4=false:=h4
  rw [ht,e2,e4];rfl
theorem cK.cW (s:bz) (hs:s.length≤1099511627776):∀(m i:Nat),s.length≤i+m→i≤1099511627776→cK.l1 s i=some [.i .i64 (i+(Nr.run (s.drop i):Int))]:=by
 intro m
 induction m with
 | zero =>
  intro i hi _
  refine cK.bV _ _ ?_
  intro v1 h1 v2 h2 v3 h3 v4 h4
  have ht:decide ((i:Int)<(s.length:Int))=false:=ab (by omega)
  rw [ht] at h2
  have e2:v2=false:=h2
  have e3:v3=false:=by rw [h3,e2];rfl
  rw [ht,e2,e3,aE (by omega),Nr.Af]
  simp [ck]
 | succ m ih =>
  intro i hi hb
  refine cK.bV _ _ ?_
  intro v1 h1 v2 h2 v3 h3 v4 h4
  by_cases c:i<s.length
  ·have ht:decide ((i:Int)<(s.length:Int))=true:=aa (by omega)
   have hx:bB (i:Int) s.length=true:=bK (by omega) (by omega)
   rw [ht,ai] at h2
   rw [aj] at h1
   have e3:v3=Nr.dV v1:=by rw [h3,h2,Nr.zC]
   have e4:v4=((i+1:Nat):Int):=by rw [h4,i64_in _ (by omega)];omega
   have hc:∀b:Bool,(!b || (b&&true))=true:=by decide
   rw [ht,hx,drop_cons c 0,Nr.C3,←h1,e3]
   simp only [aR,bm,aY,aH,Bool.false_or,hc,bQ]
   cases hd:Nr.dV v1
   ·rw [ae,au (by decide)];simp [ck]
   ·rw [ai,aw rfl,e4,ih (i+1) (by omega) (by omega)]
    rw [show ((i+1:Nat):Int)+(Nr.run (s.drop (i+1)):Int)=(i:Int)+((Nr.run (s.drop (i+1))+1:Nat):Int) by omega]
  ·have ht:decide ((i:Int)<(s.length:Int))=false:=ab (by omega)
   rw [ht] at h2
   have e2:v2=false:=h2
   have e3:v3=false:=by rw [h3,e2];rfl
   rw [ht,e2,e3,aE (by omega),Nr.Af]
   simp [ck]
theorem cK.goal (s:bz) (at_:Int) (hp:(decide (s.length≤1099511627776)&&decide (0≤at_∧at_≤1099511627776))=true):cK.F s at_=some [.i .i64 (at_+(Nr.run (s.drop at_.toNat):Int))]:=by
 simp only [ah,aA] at hp
 obtain ⟨i,rfl⟩:=Int.eq_ofNat_of_zero_le hp.2.1
 rw [cK.eJ]
 exact cK.cW s hp.1 s.length i (by omega) (by omega)
theorem bD.DN (s:bz) (i:Nat) (k:Int) (hi:i≤s.length):bD.j4 s i k=some [.i .i64 (if s.drop i=[] then k else 0)]:=by
 rw [bD.uy]
 by_cases c:i=s.length
 ·rw [aa (by omega),aw (by rw [aE (by omega)])];rfl
 ·rw [ab (by omega),au (by intro e;have:=congrArg List.length e;simp at this;omega)];rfl
theorem mC (t:bz) (n:Nat):t.drop n=[] ↔ t.length≤n:=by
 rw [←List.length_eq_zero_iff,aU];omega
theorem bD.uz (s:bz) (hs:s.length≤1099511627776) (i:Nat) (hi:i≤s.length):bD.j3 s i 2=some [.i .i64 (if Nr.run (s.drop i)=0∨Nr.run (s.drop i)<(s.drop i).length then 0 else 2)]:=by
 refine bD.oY _ _ _ ?_
 intro v1 h1
 rw [aj] at h1
 have hr:=Nr.y6 (s.drop i)
 rw [aa hs,aa (show (0:Int)≤i∧(i:Int)≤1099511627776 by omega)]
 refine (bw rfl).trans ?_
 by_cases c:Nr.run (s.drop i)=0
 ·rw [aa (by omega),ai,aw (.inl c)]
 ·rw [aU] at hr
  have e1:v1=((i+Nr.run (s.drop i):Nat):Int):=by omega
  rw [ab (by omega),ae,e1,bD.DN s _ _ (by omega),←List.drop_drop]
  by_cases c2:Nr.run (s.drop i)<(s.drop i).length
  ·rw [au (by rw [mC];omega),aw (.inr c2)]
  ·rw [aw (by rw [mC];omega),au (by omega)]
theorem Nr.xh (c:UInt8) (r:bz) (k:Int):Nr.ot (c :: r) k=if c=101∨c=69 then (if Nr.run (Nr.signed r)=0∨Nr.run (Nr.signed r)<(Nr.signed r).length then 0 else 2) else 0:=by
 cases r <;> rfl
theorem Nr.mU (c:UInt8) (r:bz):Nr.signed (c :: r)=if c=43∨c=45 then r else c :: r:=rfl
theorem Q4 (a b:Prop) [Decidable a] [Decidable b]:(decide a || decide b)=decide (a∨b):=(Bool.decide_or a b).symm
theorem bD.sL (s:bz) (hs:s.length≤1099511627776) (i:Nat) (hi:i≤s.length) (k:Int):bD.j2 s i k=some [.i .i64 (Nr.ot (s.drop i) k)]:=by
 refine bD.jg _ _ _ ?_
 intro v1 h1 v2 h2 v3 h3 v4 h4
 have e2:v2=((i+1:Nat):Int):=by rw [h2,i64_in _ (by omega)];omega
 have e4:v4=((i+1+1:Nat):Int):=by rw [h4,e2,i64_in _ (by omega)];omega
 rw [aa hs,aa (show (0:Int)≤i by omega)]
 refine (bw rfl).trans ?_
 rw [Q4,aj] at h1
 by_cases c:i<s.length
 ·rw [aa (show (i:Int)<s.length by omega),Bool.true_and] at h1
  rw [drop_cons c 0,Nr.xh]
  by_cases c1:s.getD i 0=101∨s.getD i 0=69
  ·have e1:v1=true:=by rw [h1];exact aa c1
   rw [e1,ai,aw c1,e2,aa (show (0:Int)≤((i+1:Nat):Int) by omega)]
   refine (bw rfl).trans ?_
   rw [Q4,e2,aj] at h3
   by_cases c2:i+1<s.length
   ·rw [aa (show ((i+1:Nat):Int)<s.length by omega),Bool.true_and] at h3
    rw [drop_cons c2 0,Nr.mU]
    by_cases c3:s.getD (i+1) 0=43∨s.getD (i+1) 0=45
    ·have e3:v3=true:=by rw [h3];exact aa c3
     rw [e3,ai,e4,aw c3]
     exact bD.uz s hs (i+1+1) (by omega)
    ·have e3:v3=false:=by rw [h3];exact ab c3
     rw [e3,ae,au c3,bD.uz s hs (i+1) (by omega),drop_cons c2 0]
   ·rw [ab (show ¬((i+1:Nat):Int)<s.length by omega),Bool.false_and] at h3
    rw [h3,ae,bD.uz s hs (i+1) (by omega),aE (i:=i+1) (by omega)];rfl
  ·have e1:v1=false:=by rw [h1];exact ab c1
   rw [e1,ae,au c1,bD.DN s i k hi,au (by rw [mC];omega)]
 ·rw [ab (show ¬(i:Int)<s.length by omega),Bool.false_and] at h1
  rw [h1,ae,bD.DN s i k hi,aE (by omega),aw rfl];rfl
theorem Nr.xg (r:bz):Nr.ll (46 :: r)=if Nr.run r=0 then 0 else Nr.ot (r.drop (Nr.run r)) 2:=rfl
theorem Nr.tI {t:bz} (h:¬(0<t.length∧t.getD 0 0=46)):Nr.ll t=Nr.ot t 1:=by
 unfold Nr.ll
 split
 ·exact (h ⟨by simp,rfl⟩).elim
 ·rfl
theorem bD.gM (s:bz) (hs:s.length≤1099511627776) (i:Nat) (hi:i≤s.length):bD.j1 s i 1=some [.i .i64 (if Nr.run (s.drop i)=0∨((s.drop i).getD 0 0=48∧1<Nr.run (s.drop i)) then 0 else Nr.ll ((s.drop i).drop (Nr.run (s.drop i))))]:=by
 refine bD.iI _ _ _ ?_
 intro v1 h1 v2 h2 v3 h3 v4 h4 v5 h5 v6 h6 v7 h7 v8 h8 v9 h9
 rw [aj] at h1 h2
 have hr:=Nr.y6 (s.drop i)
 rw [aU] at hr
 have e1:v1=((i+Nr.run (s.drop i):Nat):Int):=by omega
 have e4:v4=((i+1:Nat):Int):=by rw [h4,i64_in _ (by omega)];omega
 rw [aa hs,aa (show (0:Int)≤i∧(i:Int)≤1099511627776 by omega)]
 refine (bw rfl).trans ?_
 by_cases c0:Nr.run (s.drop i)=0
 ·have hd:decide (v1=(i:Int))=true:=aa (by omega)
  rw [hd] at h3 h6
  have e3:v3=false:=h3
  have e6:v6=true:=h6
  rw [hd,e3,e6,aw (.inl c0)];rfl
 ·have hd:decide (v1=(i:Int))=false:=ab (by omega)
  have hx:bB (i:Int) s.length=true:=bK (by omega) (by omega)
  rw [hd] at h3 h6
  rw [ae] at h6
  have g2:(s.drop i).getD 0 0=v2:=by rw [drop_cons (show i<s.length by omega) 0,h2];rfl
  have e5:v5=decide (v2=48∧1<Nr.run (s.drop i)):=by
   rw [h5,Bool.decide_and]
   have:decide (v4<v1)=decide (1<Nr.run (s.drop i)):=by
    rw [e4,e1]
    by_cases c:1<Nr.run (s.drop i)
    ·rw [aa c,aa (by omega)]
    ·rw [ab c,ab (by omega)]
   rw [this]
   cases decide (v2=48) <;> rfl
  rw [hd,hx,h6,g2,h3,bw (by rfl),bw (by rfl),bw (by rfl),bw (by cases decide (v2=48) <;> rfl),bw (by cases decide (v2=48) <;> rfl),bw (by cases decide (v2=48) <;> rfl),bw (by rfl)]
  by_cases c1:v2=48∧1<Nr.run (s.drop i)
  ·rw [e5,aa c1,ai,aw (.inr c1)]
  ·rw [e5,ab c1,ae,au (by simp [c0,c1]),List.drop_drop,e1,aa (show (0:Int)≤((i+Nr.run (s.drop i):Nat):Int) by omega)]
   refine (bw rfl).trans ?_
   generalize hj:i+Nr.run (s.drop i)=j at *
   have e8:v8=((j+1:Nat):Int):=by rw [h8,e1,i64_in _ (by omega)];omega
   rw [Bool.or_self,e1,aj] at h7
   rw [e8,aj] at h9
   by_cases c2:j<s.length∧s.getD j 0=46
   ·have e7:v7=true:=by rw [h7,aa (show (j:Int)<s.length by omega),aa c2.2];rfl
    rw [e7,ai,e8,aa (show (0:Int)≤((j+1:Nat):Int)∧((j+1:Nat):Int)≤1099511627776 by omega)]
    refine (bw rfl).trans ?_
    rw [drop_cons c2.1 0,c2.2,Nr.xg]
    have Sy:=Nr.y6 (s.drop (j+1))
    rw [aU] at Sy
    by_cases c3:Nr.run (s.drop (j+1))=0
    ·rw [aa (by omega),ai,aw c3]
    ·have e9:v9=((j+1+Nr.run (s.drop (j+1)):Nat):Int):=by omega
     rw [ab (by omega),ae,au c3,e9,bD.sL s hs _ (by omega),List.drop_drop]
   ·have e7:v7=false:=by
     rw [h7,←Bool.decide_and];exact ab (fun h=>c2 ⟨by omega,h.2⟩)
    rw [e7,ae,bD.sL s hs _ (by omega),Nr.tI (t:=s.drop j)]
    intro h
    rw [aU,af,List.getElem?_drop,←af] at h
    exact c2 ⟨by omega,h.2⟩
theorem Nr.zr (r:bz):Nr.iX (45 :: r)=if Nr.run r=0∨(r.getD 0 0=48∧1<Nr.run r) then 0 else Nr.ll (r.drop (Nr.run r)):=rfl
theorem Nr.zq {t:bz} (h:¬(0<t.length∧t.getD 0 0=45)):Nr.iX t=if Nr.run t=0∨(t.getD 0 0=48∧1<Nr.run t) then 0 else Nr.ll (t.drop (Nr.run t)):=by
 unfold Nr.iX
 split
 ·exact (h ⟨by simp,rfl⟩).elim
 ·rfl
theorem bD.goal (s:bz) (hp:decide (s.length≤1099511627776)=true):bD.F s=some [.i .i64 (Nr.iX s)]:=by
 have hs:=ar hp
 refine bD.bZ _ ?_
 intro v1 h1 v2 h2
 rw [hp]
 refine (bw rfl).trans ?_
 have e2:v2=((1:Nat):Int):=by rw [h2,i64_in _ (by omega)];rfl
 rw [Bool.or_self] at h1
 have h1:v1=(decide ((0:Int)<s.length)&&decide (s.getD 0 0=45)):=h1
 by_cases c:0<s.length∧s.getD 0 0=45
 ·have e1:v1=true:=by rw [h1,aa (show (0:Int)<s.length by omega),aa c.2];rfl
  rw [e1,ai,e2,bD.gM s hs 1 (by omega)]
  cases s with
  | nil=>simp at c
  | cons d r =>
   have:d=45:=c.2
   subst this
   rw [Nr.zr];rfl
 ·have e1:v1=false:=by rw [h1,←Bool.decide_and];exact ab (fun h=>c ⟨by omega,h.2⟩)
  rw [e1,ae,Nr.zq c]
  exact bD.gM s hs 0 (by omega)
end Go.Eng
set_option maxRecDepth 20000
namespace Go.Eng
open Go.IntWalk
theorem Nr.kB {n:Nat} (h:n<10):Nr.dec n=[UInt8.ofNat (48+n)]:=by rw [Nr.dec,aw h]
theorem Nr.pq {n:Nat} (h:¬n<10):Nr.dec n=Nr.dec (n / 10)++[UInt8.ofNat (48+n % 10)]:=by rw [Nr.dec,au h]
theorem Nr.ik:∀(k n:Nat),n<10 ^ k→1≤k→(Nr.dec n).length≤k:=by
 intro k
 induction k with
 | zero=>intro n _ h;omega
 | succ k ih =>
  intro n h _
  by_cases c:n<10
  ·rw [Nr.kB c];simp
  ·rw [Nr.pq c,ao,az]
   rw [Nat.pow_succ] at h
   have hk:1≤k:=by
    by_cases hk:k=0
    ·subst hk;simp at h;omega
    ·omega
   have:=ih (n / 10) (by omega) hk
   omega
theorem sO (c d:UInt8) (r:bz):Lib.indexByte (d :: r) c=if (d == c)=true then 0 else if (Lib.indexByte r c == -1)=true then -1 else Lib.indexByte r c+1:=by
 rw [Lib.indexByte]
end Go.Eng
set_option maxRecDepth 20000
namespace Go.Eng
namespace Nt
theorem dz (n:Nat):(UInt16.ofNat n).toNat=n % 65536:=by simp
theorem vb (d:UInt16):d.toNat<65536:=d.toNat_lt
theorem ij:of 0=[]:=by rw [of];rfl
theorem kG {n:Nat} (h:0<n):of n=UInt16.ofNat n :: of (n / 65536):=by rw [of,au (by omega)]
theorem eu (n:Nat):val (of n)=n:=by
 induction n using Nat.strongRecOn with
 | _ n ih =>
  by_cases h:n=0
  ·subst h;rw [ij];rfl
  ·rw [kG (by omega),val,ih _ (Nat.div_lt_self (by omega) (by omega)),dz]
   omega
theorem jN:∀(k n:Nat),(fix k n).length=k
 | 0,_=>rfl
 | k+1,n=>by rw [fix,ay,jN]
theorem nG:∀(k n:Nat),val (fix k n)=n % 65536 ^ k
 | 0,n=>by rw [fix,val,Nat.pow_zero,Nat.mod_one]
 | k+1,n=>by
  rw [fix,val,nG,dz,Nat.pow_succ,Nat.mul_comm (65536 ^ k),Nat.mod_mul]
theorem fJ:∀(a b:List UInt16),val (a++b)=val a+65536 ^ a.length * val b
 | [],b=>by simp [val]
 | d :: r,b=>by rw [List.cons_append,val,val,fJ r b,ay,Nat.pow_succ,Nat.mul_add,←Nat.mul_assoc,Nat.mul_comm 65536 (65536 ^ r.length),Nat.add_assoc]
theorem gW:∀a:List UInt16,val a<65536 ^ a.length
 | []=>by simp [val]
 | d :: r=>by
  rw [val,ay,Nat.pow_succ]
  have h1:=gW r
  have h2:=vb d
  omega
theorem val_inj:∀{a b:List UInt16},a.length=b.length→val a=val b→a=b
 | [],[],_,_=>rfl
 | [],_ :: _,h,_=>by simp at h
 | _ :: _,[],h,_=>by simp at h
 | d :: r,e :: s,h,hv=>by
  rw [val,val] at hv
  have h1:=vb d
  have h2:=vb e
  have h3:d=e:=UInt16.toNat_inj.1 (by omega)
  rw [h3,val_inj (by simpa using h) (show val r=val s by omega)]
theorem lT (a:List UInt16) (d:UInt16):norm (a++[d])=decide (d≠0):=by
 unfold norm;simp
theorem nL {d:UInt16} {r:List UInt16} (h:r≠[]):norm (d :: r)=norm r:=by
 unfold norm
 cases r with
 | nil=>exact (h rfl).elim
 | cons e s=>rw [List.getLast?_cons_cons]
theorem oR {a:List UInt16} (h:norm a=true) (h0:a≠[]):0<val a:=by
 induction a with
 | nil=>exact (h0 rfl).elim
 | cons d r ih =>
  rw [val]
  by_cases hr:r=[]
  ·subst hr
   have hd:d≠0:=by simpa [norm] using h
   have:d.toNat≠0:=fun e=>hd (UInt16.toNat_inj.1 e)
   omega
  ·rw [nL hr] at h
   have:=ih h hr
   omega
theorem dr {a:List UInt16} (h:norm a=true):of (val a)=a:=by
 induction a with
 | nil=>exact ij
 | cons d r ih =>
  have hp:=oR h (by simp)
  rw [kG hp]
  have h1:=vb d
  have e1:val (d :: r) / 65536=val r:=by rw [val];omega
  have e2:UInt16.ofNat (val (d :: r))=d:=UInt16.toNat_inj.1 (by rw [dz,val];omega)
  rw [e1,e2]
  by_cases hr:r=[]
  ·subst hr;rw [val,ij]
  ·rw [nL hr] at h;rw [ih h]
theorem oS (n:Nat):norm (of n)=true:=by
 induction n using Nat.strongRecOn with
 | _ n ih =>
  by_cases h:n=0
  ·subst h;rw [ij];rfl
  ·rw [kG (by omega)]
   by_cases h2:n / 65536=0
   ·rw [h2,ij]
    have:UInt16.ofNat n≠0:=fun e=>by
     have:=congrArg UInt16.toNat e
     rw [dz] at this
     have e0:(0:UInt16).toNat=0:=rfl
     omega
    simp [norm,this]
   ·rw [nL,ih _ (Nat.div_lt_self (by omega) (by omega))]
    rw [kG (by omega)];simp
theorem js (n k:Nat):(of n).length≤k ↔ n<65536 ^ k:=by
 constructor
 ·intro h
  have:=gW (of n)
  rw [eu] at this
  exact Nat.lt_of_lt_of_le this (Nat.pow_le_pow_right (by omega) h)
 ·intro h
  induction k generalizing n with
  | zero=>simp at h;subst h;rw [ij];simp
  | succ k ih =>
   by_cases h0:n=0
   ·subst h0;rw [ij];simp
   ·rw [kG (by omega),ay]
    have:=ih (n / 65536) (by rw [Nat.pow_succ] at h;omega)
    omega
theorem C9:(65536:Nat) ^ 256=2 ^ 4096:=by decide +kernel
theorem oe {n:Nat} (h:n<2 ^ 4096):is (of n)=true:=by
 unfold is
 rw [oS,Bool.and_true]
 exact aa ((js n 256).2 (by rewrite [C9];exact h))
theorem is_lt {a:List UInt16} (h:is a=true):val a<2 ^ 4096:=by
 unfold is at h
 simp only [ah,aA] at h
 have:=(js (val a) 256).1 (by rw [dr h.2];exact h.1)
 rewrite [C9] at this
 exact this
theorem iY {a:List UInt16} (h:is a=true):a.length≤256:=by
 unfold is at h
 simp only [ah,aA] at h
 exact h.1
theorem iS {a:List UInt16} (h:is a=true):norm a=true:=by
 unfold is at h
 simp only [ah,aA] at h
 exact h.2
theorem pH (a:List UInt16):val (a++[0])=val a:=by rw [fJ];simp [val]
theorem qf {a b:List UInt16} (hb:norm b=true) (h:a.length<b.length):val a<val b:=by
 have h1:=gW a
 have og:b≠[]:=by intro e;subst e;simp at h
 have h2:¬val b<65536 ^ a.length:=fun h2=>by
  have:=(js (val b) a.length).2 h2
  rw [dr hb] at this
  omega
 omega
end Nt
end Go.Eng
set_option maxRecDepth 20000
namespace Go.Eng
open Go.IntWalk
theorem vr {n:Nat} (h:n≤1099511627776):IntKind.i64.wrap ((n:Int) - 1)=(n:Int) - 1:=i64_in _ (by omega)
theorem qn {α:Type} (a:List α) (d e:α):(a++[d]).getD a.length e=d:=by simp [af]
theorem da.cW:∀(n:Nat) (a:List UInt16),a.length=n→n≤1099511627776→da.l1 a=some [.sl .ws (Nt.of (Nt.val a))]:=by
 intro n
 induction n with
 | zero =>
  intro a ha hn
  have:a=[]:=bc ha
  subst this
  refine da.bV _ ?_
  intro v1 h1 v2 h2 v3 h3
  have e3:v3=false:=by rw [h3];rfl
  rw [e3]
  rw [show Nt.val []=0 from rfl,Nt.ij]
  rfl
 | succ n ih =>
  intro a ha hn
  refine da.bV _ ?_
  intro v1 h1 v2 h2 v3 h3
  rw [ha,vr (by omega)] at h1
  have e1:v1=(n:Int):=by omega
  subst e1
  rw [aj] at h2 ⊢
  rw [aa (show (0:Int)<(a.length:Int) by omega),ai] at h3
  simp only [aR,aY,bQ]
  rw [aa (show (0:Int)<(a.length:Int) by omega),aH,Bool.false_or,Bool.true_and,bw (bK (by omega) (by omega))]
  obtain ⟨b,d,rfl⟩:∃b d,a=b++[d]:=⟨a.dropLast,a.getLast (by intro e;subst e;simp at ha),(List.dropLast_concat_getLast _).symm⟩
  have hb:b.length=n:=by simpa using ha
  have e2:v2=d:=by rw [h2,←hb,qn]
  subst e2
  by_cases hd:v2=0
  ·subst hd
   rw [h3,aa rfl,ai,bw (jm (by omega) (by omega) (by omega)),←hb,List.take_left',Nt.pH]
   ·exact ih b hb (by omega)
   ·rfl
  ·rw [h3,ab hd,ae,Nt.dr (by rw [Nt.lT];exact aa hd)]
theorem da.goal (a:List UInt16) (hp:decide (a.length≤1099511627776)=true):da.F a=some [.sl .ws (Nt.of (Nt.val a))]:=by
 rw [da.eJ];exact da.cW _ a rfl (ar hp)
theorem lV {a:List UInt16} (h:a≠[]):Nt.norm a=!decide (a.getD (a.length - 1) 0=0):=by
 obtain ⟨b,d,rfl⟩:∃b d,a=b++[d]:=⟨a.dropLast,a.getLast h,(List.dropLast_concat_getLast _).symm⟩
 rw [Nt.lT,ao,az,Nat.add_sub_cancel,qn]
 simp
theorem eK.goal (a:List UInt16) (hp:decide (a.length≤1099511627776)=true):eK.F a=some [.b (Nt.is a)]:=by
 have h:=ar hp
 refine eK.bZ _ ?_
 intro v1 h1 v2 h2 v3 h3 v4 h4 v5 h5
 simp only [aR,aY,bQ]
 rw [vr h] at h2
 by_cases c1:a.length≤256
 ·have d1:decide ((a.length:Int)≤256)=true:=aa (by omega)
  rw [d1] at h1 h5 ⊢
  by_cases c2:a=[]
  ·subst c2
   have e1:v1=false:=by rw [h1];rfl
   have e5:v5=true:=by rw [h5,h4];rfl
   rw [e1,e5];rfl
  ·have hl:0<a.length:=List.length_pos_iff.2 c2
   have d2:decide ((a.length:Int)=0)=false:=ab (by omega)
   rw [d2] at h1 h4 ⊢
   have e1:v1=true:=h1
   rw [e1,aH,Bool.false_or,Bool.true_and,bw (bK (by omega) (by omega))]
   have e2:v2.toNat=a.length - 1:=by omega
   have e5:v5=Nt.is a:=by
    rw [h5,ai,h4,ae,h3,e2,Nt.is,aa c1,Bool.true_and,lV c2]
   rw [e5];rfl
 ·have d1:decide ((a.length:Int)≤256)=false:=ab (by omega)
  rw [d1] at h1 h5 ⊢
  have e1:v1=false:=h1
  have e5:v5=Nt.is a:=by rw [h5,ae,Nt.is,ab c1,Bool.false_and]
  rw [e1,e5];rfl
theorem wG (x:UInt64):(dD x 16).toNat=x.toNat / 65536:=by
 rw [dD,UInt64.toNat_ofNat']
 have:=x.toNat_lt
 omega
theorem mf (x:Nat):UInt16.ofInt (x:Int)=UInt16.ofNat x:=by
 apply UInt16.toNat_inj.1
 have h:=pL (x:Int)
 rw [iQ] at h
 rw [Nt.dz];omega
theorem eW.cW:∀(k:Nat) (v:UInt64) (acc:List UInt16),v.toNat<65536 ^ k→acc.length+k≤100→eW.l1 v acc=some [.sl .ws (acc++Nt.of v.toNat)]:=by
 intro k
 induction k with
 | zero =>
  intro v acc hv ha
  refine eW.bV _ _ ?_
  intro v1 h1 v2 h2
  have hn:v.toNat=0:=by simpa using hv
  have c:v=0:=bn.1 hn
  rw [c,ab (by decide),ae,show (0:UInt64).toNat=0 from rfl,Nt.ij,bj]
 | succ k ih =>
  intro v acc hv ha
  refine eW.bV _ _ ?_
  intro v1 h1 v2 h2
  by_cases c:v=0
  ·rw [c,ab (by decide),ae,show (0:UInt64).toNat=0 from rfl,Nt.ij,bj]
  ·have oy:0<v.toNat:=Nat.pos_of_ne_zero fun e=>c (bn.1 e)
   have fO:(0:UInt64)<v:=by rw [aV];exact oy
   have e2:v2.toNat=v.toNat / 65536:=by rw [h2];exact wG v
   have e1:v1=UInt16.ofNat v.toNat:=by rw [h1,mf]
   rw [Nat.pow_succ] at hv
   rw [aa fO,ai,bw (dW (by simp;omega) (by simp;omega)),ih v2 _ (by rw [e2];omega) (by simp;omega),e2,Nt.kG oy,e1]
   simp
theorem eW.goal (v:UInt64):eW.F v=some [.sl .ws (Nt.of v.toNat)]:=by
 rw [eW.eJ,eW.cW 4 v [] (by have:=v.toNat_lt;simpa using this) (by simp),bq]
theorem Nt.iO {n:Nat} (h:0<n):2 ^ (Nt.bits n - 1)≤n∧n<2 ^ Nt.bits n∧0<Nt.bits n:=by
 unfold Nt.bits
 rw [au (by omega)]
 exact ⟨by rw [Nat.add_sub_cancel];exact Nat.log2_self_le (by omega),Nat.lt_log2_self,by omega⟩
theorem Nt.jT {n k:Nat} (h:n<2 ^ k):Nt.bits n≤k:=by
 by_cases h0:n=0
 ·subst h0;simp [Nt.bits]
 ·obtain ⟨h1,_,_⟩:=Nt.iO (n:=n) (by omega)
  have:2 ^ (Nt.bits n - 1)<2 ^ k:=by omega
  have:=(Nat.pow_lt_pow_iff_right (by omega:1<2)).1 this
  omega
theorem Nt.AW {n k:Nat} (h1:2 ^ k≤n) (h2:n<2 ^ (k+1)):Nt.bits n=k+1:=by
 have h0:0<n:=Nat.lt_of_lt_of_le (Nat.two_pow_pos k) h1
 obtain ⟨_,h3,_⟩:=Nt.iO h0
 have h4:=Nt.jT h2
 have:2 ^ k<2 ^ Nt.bits n:=by omega
 have:=(Nat.pow_lt_pow_iff_right (by omega:1<2)).1 this
 omega
theorem Nt.kU {n k:Nat} (h:2 ^ k≤n):Nt.bits n=Nt.bits (n / 2 ^ k)+k:=by
 have h0:0<n / 2 ^ k:=Nat.div_pos h (Nat.two_pow_pos k)
 obtain ⟨h1,h2,h3⟩:=Nt.iO h0
 have e:Nt.bits (n / 2 ^ k)+k=(Nt.bits (n / 2 ^ k) - 1+k)+1:=by omega
 rw [e]
 refine Nt.AW ?_ ?_
 ·rw [Nat.pow_add]
  exact (Nat.le_div_iff_mul_le (Nat.two_pow_pos k)).1 h1
 ·rw [show Nt.bits (n / 2 ^ k) - 1+k+1=Nt.bits (n / 2 ^ k)+k by omega,Nat.pow_add]
  exact (Nat.div_lt_iff_lt_mul (Nat.two_pow_pos k)).1 h2
def len8:bz:=[0,1,2,2,3,3,3,3,4,4,4,4,4,4,4,4,5,5,5,5,5,5,5,5,5,5,5,5,5,5,5,5]++List.replicate 32 6++List.replicate 64 7++List.replicate 128 8
theorem Ay:∀n,n<256→(len8.getD n 0).toNat=Nt.bits n:=by decide +kernel
end Go.Eng
