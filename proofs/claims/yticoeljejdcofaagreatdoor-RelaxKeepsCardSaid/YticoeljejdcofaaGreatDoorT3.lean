/- Texts of my own, one behind the other: RxC, RxG0, RxG1, RxG2, RxG3, RxG4. -/
import Derived.Test.YticoeljejdcofaaGreatDoorT2
import Derived.Test.YticoeljejdcofaaGreatDoorProg
set_option linter.unusedVariables false
set_option linter.unusedSimpArgs false
set_option maxRecDepth 100000
namespace Go.Eng
noncomputable abbrev PG:=Go.Proofs.Tryz.prog
open Go.Proofs
def sc (l:List Nat):GL:=l.map fun k=>(k,.no)
@[reducible] def fC:PI:=[(23,.bs,1),(24,.fl,136),(29,.ml,64),(33,.is,8),(47,.od,24),(129,.ss,16),(132,.ws,2),(197,.us,8),(252,.qd,64)]
@[reducible] def zs:Zs:=[(26,[(.i .i64 (0:Int)),(.u64 (0:UInt64)),(.u64 (0:UInt64)),(.u64 (0:UInt64)),(.s ([]:bz)),(.s ([]:bz)),(.i .i64 (0:Int)),(.nl .bs),(.nl .fl)]),(31,[(.i .i64 (0:Int)),(.s ([]:bz)),(.nl .ml)]),(35,[(.i .i64 (0:Int)),(.i .i64 (0:Int)),(.nl .is)]),(60,[(.s ([]:bz)),(.i .i64 (0:Int)),(.u64 (0:UInt64)),(.u64 (0:UInt64)),(.u64 (0:UInt64)),(.s ([]:bz)),(.s ([]:bz)),(.i .i64 (0:Int)),(.nl .bs),(.nl .fl)]),(68,[(.s ([]:bz)),(.i .i64 (0:Int)),(.s ([]:bz)),(.nl .ml)]),(121,[(.s ([]:bz)),(.s ([]:bz)),(.s ([]:bz)),(.s ([]:bz)),(.s ([]:bz)),(.s ([]:bz)),(.s ([]:bz)),(.s ([]:bz)),(.s ([]:bz)),(.s ([]:bz)),(.s ([]:bz)),(.s ([]:bz)),(.s ([]:bz)),(.s ([]:bz)),(.s ([]:bz)),(.s ([]:bz)),(.s ([]:bz)),(.s ([]:bz)),(.s ([]:bz)),(.s ([]:bz))]),(156,[(.u64 (0:UInt64)),(.u64 (0:UInt64))]),(255,[(.c (.complex .f64 ((0,0):Cx).1 ((0,0):Cx).2)),(.c (.complex .f64 ((0,0):Cx).1 ((0,0):Cx).2)),(.c (.complex .f64 ((0,0):Cx).1 ((0,0):Cx).2)),(.c (.complex .f64 ((0,0):Cx).1 ((0,0):Cx).2))])]
theorem bG:PG.follows .mixedOrders=true∧E9 PG fC=true∧KZ PG zs=true:=⟨by kernel_rfl,by kernel_rfl,by kernel_rfl⟩
def Errs:Type:={p:Value × Value // (p.1 = .nilIface∨∃te pe,p.1 = .iface te pe)∧(p.2 = .nilIface∨∃te pe,p.2 = .iface te pe)}
noncomputable def cnGl (ee:Errs):Nat→Option (List Value):=Jx [(5,vm .u8 (Lib.deBruijn64tab.map Int.ofNat)),(2,vm .u64 Lib.pow10Tab),(0,[ee.1.1]),(1,[ee.1.2])]
noncomputable section
def cD.sg:bW:={}
def cD.c:eu:=fun l=>match l with
 | [.sl .bs b] => .eF (decide (b.length≤1099511627776)) [(.s (mN.text b))]
 | _ => .err
def iK.sg:bW:={}
def iK.c:eu:=fun l=>match l with
 | [.i .i64 r] => .ok [(.b (fR.nM r))]
 | _ => .err
def bK.sg:bW:={ fh:=2 }
def bK.c:eu:=fun l=>match l with
 | [.sl .bs b,.i .i64 at_] => .eF (decide (b.length≤1099511627776)) [(.i .i64 ((fR.ny b at_).1)),(.i .i64 ((fR.ny b at_).2))]
 | _ => .err
def cE.sg:bW:={ fh:=2 }
def cE.c:eu:=fun l=>match l with
 | [.sl .bs b] => .eF (decide (b.length≤1099511627776)) [(.i .i64 (((fR.look b).1:Int))),(.i .i64 (((fR.look b).2:Int)))]
 | _ => .err
def dX.sg:bW:={ fh:=2 }
def dX.c:eu:=fun l=>match l with
 | [.sl .bs b] => .eF (decide (b.length≤1099511627776)) [(.i .i64 (((fR.look b).1:Int))),(.b (fR.whole b))]
 | _ => .err
def Y3.sg:bW:={ fh:=2 }
def Y3.c:eu:=fun l=>match l with
 | [.sl .bs b,.i .i64 at_] => .eF (decide (b.length≤1099511627776)) [(.i .i64 ((fR.ny b at_).1)),(.i .i64 ((fR.ny b at_).2))]
 | _ => .err
def Y6.sg:bW:={ fh:=2 }
def Y6.c:eu:=fun l=>match l with
 | [.sl .bs b] => .eF (decide (b.length≤1099511627776)) [(.i .i64 (((fR.look b).1:Int))),(.b (fR.whole b))]
 | _ => .err
def Ln.sg:bW:={}
def Ln.c:eu:=fun l=>match l with
 | [.s s] => .eF (decide (s.length≤1099511627776)) [(.b (fR.whole s))]
 | _ => .err
def Y8.sg:bW:={}
def Y8.c:eu:=fun l=>match l with
 | [.s s] => .eF (decide (s.length≤1099511627776)) [(.b (fR.zero s))]
 | _ => .err
def cT.sg:bW:={}
def cT.c:eu:=fun l=>match l with
 | [.s s,.u8 c] => .ok [(.i .i64 (Lib.indexByte s c))]
 | _ => .err
def fF.sg:bW:={}
def fF.c:eu:=fun l=>match l with
 | [.s s,.s t] => .eF (decide (t.length=1)) [(.i .i64 (Lib.indexByte s (t.getD 0 0)))]
 | _ => .err
def fE.sg:bW:={}
def fE.c:eu:=fun l=>match l with
 | [.s s,.s t] => .eF (decide (t.length=1)) [(.i .i64 (Lib.indexByte s (t.getD 0 0)))]
 | _ => .err
def dF.sg:bW:={}
def dF.c:eu:=fun l=>match l with
 | [.s s,.s t] => .eF (decide (t.length=1)) [(.b (decide (0≤Lib.indexByte s (t.getD 0 0))))]
 | _ => .err
def fg.sg:bW:={ md:=[.sm] }
def fg.c:eu:=fun l=>match l with
 | [.sl .is l] => .eF (fi (l).length 8) [(.sl .is (l))]
 | _ => .err
def eO.sg:bW:={}
def eO.c:eu:=fun l=>match l with
 | [.i .i64 k] => .ok [(.s (Tree.name k))]
 | _ => .err
def bB.sg:bW:={}
def bB.c:eu:=fun l=>match l with
 | [.ag [.i .i64 jX,.u64 j0,.u64 jY,.u64 jW,.s jT,.s jV,.i .i64 jU,.sl .bs jS,.sl .fl jZ]] => .ok [(.b (Tree.gW (Val.mk jX j0 jY jW jT jV jU jS jZ)))]
 | _ => .err
def dU.sg:bW:={}
def dU.c:eu:=fun l=>match l with
 | [.s s,.b plain] => .eF (decide (s.length≤1099511627776)) [(.b (Tree.fZ s plain))]
 | _ => .err
def b9.sg:bW:={ md:=[.pl,.pl,.sm],fh:=2 }
def b9.c:eu:=fun l=>match l with
 | [.ag [.i .i64 jX,.u64 j0,.u64 jY,.u64 jW,.s jT,.s jV,.i .i64 jU,.sl .bs jS,.sl .fl jZ],.s name,.sl .is path] => .eF (decide (bA.bJ (bA.of name (Val.mk jX j0 jY jW jT jV jU jS jZ))+path.length≤1099511627776)) [(.sl .is ((Tree.gQ (bA.of name (Val.mk jX j0 jY jW jT jV jU jS jZ)) path).1)),(.i .i64 ((Tree.gQ (bA.of name (Val.mk jX j0 jY jW jT jV jU jS jZ)) path).2))]
 | _ => .err
def b9.cn (n:Nat):eu:=fun l=>match l with
 | [.ag [.i .i64 jX,.u64 j0,.u64 jY,.u64 jW,.s jT,.s jV,.i .i64 jU,.sl .bs jS,.sl .fl jZ],.s name,.sl .is path] => .eF ((decide (bA.bJ (bA.of name (Val.mk jX j0 jY jW jT jV jU jS jZ))+path.length≤1099511627776))&&decide ((bA.bJ (bA.of name (Val.mk jX j0 jY jW jT jV jU jS jZ)))<n)) [(.sl .is ((Tree.gQ (bA.of name (Val.mk jX j0 jY jW jT jV jU jS jZ)) path).1)),(.i .i64 ((Tree.gQ (bA.of name (Val.mk jX j0 jY jW jT jV jU jS jZ)) path).2))]
 | _ => .err
def dC.sg:bW:={ fh:=2 }
def dC.c:eu:=fun l=>match l with
 | [.ag [.i .i64 jX,.u64 j0,.u64 jY,.u64 jW,.s jT,.s jV,.i .i64 jU,.sl .bs jS,.sl .fl jZ]] => .eF (decide (bA.bJ (bA.of [] (Val.mk jX j0 jY jW jT jV jU jS jZ))≤1099511627776)) [(.sl .is ((Tree.gQ (bA.of [] (Val.mk jX j0 jY jW jT jV jU jS jZ)) []).1)),(.i .i64 ((Tree.gQ (bA.of [] (Val.mk jX j0 jY jW jT jV jU jS jZ)) []).2))]
 | _ => .err
def fQ.sg:bW:={}
def fQ.c:eu:=fun l=>match l with
 | [.sl .bs a,.sl .bs b] => .ok [(.b (decide (a=b)))]
 | _ => .err
def Ke.sg:bW:={}
def Ke.c:eu:=fun l=>match l with
 | [] => .ok [(.sl .is (Tree.kinds))]
 | _ => .err
def Y7.sg:bW:={}
def Y7.c:eu:=fun l=>match l with
 | [.i .i64 k] => .ok [(.s (Tree.name k))]
 | _ => .err
def Y0.sg:bW:={ fh:=7 }
def Y0.c:eu:=fun l=>match l with
 | [.i .i64 k] => .ok [(.b (Tree.nO 0 k)),(.b (Tree.nO 1 k)),(.b (Tree.nO 2 k)),(.b (Tree.nO 3 k)),(.b (Tree.nO 4 k)),(.b (Tree.nO 5 k)),(.b (Tree.nO 6 k))]
 | _ => .err
def Zf.sg:bW:={}
def Zf.c:eu:=fun l=>match l with
 | [.ag [.i .i64 jX,.u64 j0,.u64 jY,.u64 jW,.s jT,.s jV,.i .i64 jU,.sl .bs jS,.sl .fl jZ]] => .eF (decide (bA.bJ (bA.of [] (Val.mk jX j0 jY jW jT jV jU jS jZ))≤1099511627776)) [(.i .i64 (Tree.own (Val.mk jX j0 jY jW jT jV jU jS jZ)))]
 | _ => .err
def Zc.sg:bW:={}
def Zc.c:eu:=fun l=>match l with
 | [.s s] => .eF (decide (s.length≤1099511627776)) [(.b (Tree.fZ s true))]
 | _ => .err
def Za.sg:bW:={}
def Za.c:eu:=fun l=>match l with
 | [.sl .is p,.i .i64 k] => .eF (decide (p.length≤1099511627776)) [(.sl .is ((p++[k])))]
 | _ => .err
def Y1.sg:bW:={ fh:=2 }
def Y1.c:eu:=fun l=>match l with
 | [.ag [.i .i64 jX,.u64 j0,.u64 jY,.u64 jW,.s jT,.s jV,.i .i64 jU,.sl .bs jS,.sl .fl jZ],.s name,.sl .is p] => .eF (decide (bA.bJ (bA.of name (Val.mk jX j0 jY jW jT jV jU jS jZ))+p.length≤1099511627776)) [(.sl .is ((Tree.gQ (bA.of name (Val.mk jX j0 jY jW jT jV jU jS jZ)) p).1)),(.i .i64 ((Tree.gQ (bA.of name (Val.mk jX j0 jY jW jT jV jU jS jZ)) p).2))]
 | _ => .err
def Y1.cn (n:Nat):eu:=fun l=>match l with
 | [.ag [.i .i64 jX,.u64 j0,.u64 jY,.u64 jW,.s jT,.s jV,.i .i64 jU,.sl .bs jS,.sl .fl jZ],.s name,.sl .is p] => .eF ((decide (bA.bJ (bA.of name (Val.mk jX j0 jY jW jT jV jU jS jZ))+p.length≤1099511627776))&&decide ((bA.bJ (bA.of name (Val.mk jX j0 jY jW jT jV jU jS jZ)))<n)) [(.sl .is ((Tree.gQ (bA.of name (Val.mk jX j0 jY jW jT jV jU jS jZ)) p).1)),(.i .i64 ((Tree.gQ (bA.of name (Val.mk jX j0 jY jW jT jV jU jS jZ)) p).2))]
 | _ => .err
def Nx.sg:bW:={}
def Nx.c:eu:=fun l=>match l with
 | [.ag [.i .i64 gU,.s gT,.sl .ml gV]] => .eF (decide (bP.bJ (bP.mk gU gT gV)≤1099511627776)) [(.i .i64 (Cn.mq (bP.mk gU gT gV)))]
 | _ => .err
def Nx.cn (n:Nat):eu:=fun l=>match l with
 | [.ag [.i .i64 gU,.s gT,.sl .ml gV]] => .eF ((decide (bP.bJ (bP.mk gU gT gV)≤1099511627776))&&decide ((bP.bJ (bP.mk gU gT gV))<n)) [(.i .i64 (Cn.mq (bP.mk gU gT gV)))]
 | _ => .err
def Zd.sg:bW:={ fh:=2 }
def Zd.c:eu:=fun l=>match l with
 | [.ag [.i .i64 jX,.u64 j0,.u64 jY,.u64 jW,.s jT,.s jV,.i .i64 jU,.sl .bs jS,.sl .fl jZ]] => .eF (decide (bA.bJ (bA.of [] (Val.mk jX j0 jY jW jT jV jU jS jZ))≤1099511627776)) [(.sl .is ((Tree.gQ (bA.of [] (Val.mk jX j0 jY jW jT jV jU jS jZ)) []).1)),(.i .i64 ((Tree.gQ (bA.of [] (Val.mk jX j0 jY jW jT jV jU jS jZ)) []).2))]
 | _ => .err
def Nv.sg:bW:={}
def Nv.c:eu:=fun l=>match l with
 | [.ag [.i .i64 yn,.u64 yp,.u64 sD,.u64 sC,.s yj,.s ym,.i .i64 yk,.sl .bs yi,.sl .fl yo],.ag [.i .i64 EZ,.u64 E1,.u64 BV,.u64 BU,.s EW,.s EY,.i .i64 EX,.sl .bs EV,.sl .fl E0]] => .ok [(.b (Tree.nD (Val.mk yn yp sD sC yj ym yk yi yo) (Val.mk EZ E1 BV BU EW EY EX EV E0)))]
 | _ => .err
def Y4.sg:bW:={}
def Y4.c:eu:=fun l=>match l with
 | [.ag [.i .i64 yn,.u64 yp,.u64 sD,.u64 sC,.s yj,.s ym,.i .i64 yk,.sl .bs yi,.sl .fl yo],.ag [.i .i64 EZ,.u64 E1,.u64 BV,.u64 BU,.s EW,.s EY,.i .i64 EX,.sl .bs EV,.sl .fl E0]] => .eF (decide (bA.bJ (bA.of [] (Val.mk yn yp sD sC yj ym yk yi yo))≤1099511627776)) [(.b (Tree.same (Val.mk yn yp sD sC yj ym yk yi yo) (Val.mk EZ E1 BV BU EW EY EX EV E0)))]
 | _ => .err
def Y4.cn (n:Nat):eu:=fun l=>match l with
 | [.ag [.i .i64 yn,.u64 yp,.u64 sD,.u64 sC,.s yj,.s ym,.i .i64 yk,.sl .bs yi,.sl .fl yo],.ag [.i .i64 EZ,.u64 E1,.u64 BV,.u64 BU,.s EW,.s EY,.i .i64 EX,.sl .bs EV,.sl .fl E0]] => .eF ((decide (bA.bJ (bA.of [] (Val.mk yn yp sD sC yj ym yk yi yo))≤1099511627776))&&decide ((bA.bJ (bA.of [] (Val.mk yn yp sD sC yj ym yk yi yo)))<n)) [(.b (Tree.same (Val.mk yn yp sD sC yj ym yk yi yo) (Val.mk EZ E1 BV BU EW EY EX EV E0)))]
 | _ => .err
def bQ.sg:bW:={}
def bQ.c:eu:=fun l=>match l with
 | [.sl .is a,.sl .is b] => .eF (decide (a.length≤1099511627776)) [(.b (decide (a=b)))]
 | _ => .err
def cX.sg:bW:={}
def cX.c:eu:=fun l=>match l with
 | [.i .i64 left,.sl .is jm] => .eF (decide (left≤1200∧jm.length≤10)&&jm.all (fun s=>decide (0≤s))) [(.i .i64 (fu.room left jm))]
 | _ => .err
def cd.sg:bW:={}
def cd.c:eu:=fun l=>match l with
 | [.i .i64 left,.ag [.i .i64 jX,.u64 j0,.u64 jY,.u64 jW,.s jT,.s jV,.i .i64 jU,.sl .bs jS,.sl .fl jZ]] => .eF (decide (left≤1200)) [(.i .i64 (fu.value left (bA.of [] (Val.mk jX j0 jY jW jT jV jU jS jZ))))]
 | _ => .err
def cd.cn (n:Nat):eu:=fun l=>match l with
 | [.i .i64 left,.ag [.i .i64 jX,.u64 j0,.u64 jY,.u64 jW,.s jT,.s jV,.i .i64 jU,.sl .bs jS,.sl .fl jZ]] => .eF ((decide (left≤1200))&&decide ((bA.bJ (bA.of [] (Val.mk jX j0 jY jW jT jV jU jS jZ)))<n)) [(.i .i64 (fu.value left (bA.of [] (Val.mk jX j0 jY jW jT jV jU jS jZ))))]
 | _ => .err
def dV.sg:bW:={}
def dV.c:eu:=fun l=>match l with
 | [.ag [.i .i64 jX,.u64 j0,.u64 jY,.u64 jW,.s jT,.s jV,.i .i64 jU,.sl .bs jS,.sl .fl jZ]] => .ok [(.b (decide (0≤fu.value 1200 (bA.of [] (Val.mk jX j0 jY jW jT jV jU jS jZ)))))]
 | _ => .err
def iC.sg:bW:={}
def iC.c:eu:=fun l=>match l with
 | [.i .i64 v] => .eF (Nr.i64 v) [(.s (Nr.itoa v))]
 | _ => .err
def Nw.c:eu:=fun l=>match l with
 | [.u64 v] => .ok [(.s (Nr.dec (v).toNat))]
 | _ => .err
def bS.sg:bW:={}
def bS.c:eu:=fun l=>match l with
 | [.sl .fl l] => .eF (decide (l.length≤1099511627776)) [(.b (Tree.regular l))]
 | _ => .err
def cw.sg:bW:={}
def cw.c:eu:=fun l=>match l with
 | [.u16 x] => .ok [(.i .i64 ((Nt.bits (x).toNat:Int)))]
 | _ => .err
def bits_Len64.sg:bW:={}
def bits_Len64.c:eu:=fun l=>match l with
 | [.u64 x] => .ok [(.i .i64 ((Nt.bits (x).toNat:Int)))]
 | _ => .err
def mH.sg:bW:={}
def mH.c:eu:=fun l=>match l with
 | [.u64 x] => .ok [(.i .i64 ((Lib.ctz 64 (x).toNat:Int)))]
 | _ => .err
def mu.sg:bW:={}
def mu.c:eu:=fun l=>match l with
 | [.s s,.s c] => .eF (decide ((s).length≤1099511627776∧(c).length≤100)&&(c).all (fun b=>decide (b.toNat<128))) [(.s (Lib.trimS s c))]
 | _ => .err
def gS.sg:bW:={}
def gS.c:eu:=fun l=>match l with
 | [.s s,.s c] => .eF (decide ((s).length≤1099511627776∧(c).length≤100)&&(c).all (fun b=>decide (b.toNat<128))) [(.s (Lib.trimLeftS s c))]
 | _ => .err
def gi.sg:bW:={}
def gi.c:eu:=fun l=>match l with
 | [.s s,.s c] => .eF (decide ((s).length≤1099511627776∧(c).length≤100)&&(c).all (fun b=>decide (b.toNat<128))) [(.s (Lib.trimRightS s c))]
 | _ => .err
def ff.sg:bW:={ own:=[0] }
def ff.c:eu:=fun l=>match l with
 | [.sl .ws a] => .eF (fi (a).length 2) [(.sl .ws (a))]
 | _ => .err
def dE.sg:bW:={}
def dE.c:eu:=fun l=>match l with
 | [.c (.float .f64 x)] => .eF (Fl.num x) [(.c (.float .f64 (Fl.kU x)))]
 | _ => .err
def iF.sg:bW:={}
def iF.c:eu:=fun l=>match l with
 | [.c (.complex .f64 AR AQ),.c (.float .f64 m)] => .eF (Gz.LS ((AR,AQ):Cx) m) [(.b (true))]
 | _ => .err
def fL.sg:bW:={}
def fL.c:eu:=fun l=>match l with
 | [.c (.complex .f64 AR AQ)] => .eF (Gz.vt ((AR,AQ):Cx) 33554432) [(.b (true))]
 | _ => .err
def jN.sg:bW:={}
def jN.c:eu:=fun l=>match l with
 | [.i .i64 x,.i .i64 y] => .eF (decide (-33554432≤x∧x≤33554432∧-33554432≤y∧y≤33554432)) [(.c (.complex .f64 (((Fl.ofInt x,Fl.ofInt y):Cx)).1 (((Fl.ofInt x,Fl.ofInt y):Cx)).2))]
 | _ => .err
def fe.sg:bW:={ fh:=3 }
def fe.c:eu:=fun l=>match l with
 | [.c (.complex .f64 AR AQ)] => .eF (Gz.vt ((AR,AQ):Cx) 4503599627370496) [(.i .i64 (Fl.toInt (((AR,AQ):Cx)).1)),(.i .i64 (Fl.toInt (((AR,AQ):Cx)).2)),(.b (true))]
 | _ => .err
def gN.sg:bW:={}
def gN.c:eu:=fun l=>match l with
 | [.c (.complex .f64 AR AQ),.i .i64 k] => .eF (Gz.vt ((AR,AQ):Cx) 1125899906842624&&decide (-100≤k∧k≤100)) [(.c (.complex .f64 (Gz.ie ((AR,AQ):Cx) k).1 (Gz.ie ((AR,AQ):Cx) k).2))]
 | _ => .err
def fM.sg:bW:={}
def fM.c:eu:=fun l=>match l with
 | [.c (.complex .f64 AR AQ),.c (.complex .f64 QQ QP)] => .eF (Gz.vt ((AR,AQ):Cx) 33554432&&Gz.vt ((QQ,QP):Cx) 33554432) [(.c (.complex .f64 (Gz.mul ((AR,AQ):Cx) ((QQ,QP):Cx)).1 (Gz.mul ((AR,AQ):Cx) ((QQ,QP):Cx)).2))]
 | _ => .err
def gF.sg:bW:={}
def gF.c:eu:=fun l=>match l with
 | [.c (.float .f64 x)] => .eF (Gz.Kp x) [(.b (true))]
 | _ => .err
def eW.sg:bW:={}
def eW.c:eu:=fun l=>match l with
 | [.ag [.c (.complex .f64 lZ lY),.c (.complex .f64 lX lW),.c (.complex .f64 lV lU),.c (.complex .f64 lT lS)]] => .eF (Gz.ye (Qd.mk ((lZ,lY):Cx) ((lX,lW):Cx) ((lV,lU):Cx) ((lT,lS):Cx)) 1125899906842624) [(.b (true))]
 | _ => .err
def cQ.sg:bW:={}
def cQ.c:eu:=fun l=>match l with
 | [.ag [.c (.complex .f64 lZ lY),.c (.complex .f64 lX lW),.c (.complex .f64 lV lU),.c (.complex .f64 lT lS)],.i .i64 w] => .eF (Gz.ye (Qd.mk ((lZ,lY):Cx) ((lX,lW):Cx) ((lV,lU):Cx) ((lT,lS):Cx)) 1125899906842624&&decide (w=1∨w=-1)) [(.ag (Qd.cells (Gz.nx (Qd.mk ((lZ,lY):Cx) ((lX,lW):Cx) ((lV,lU):Cx) ((lT,lS):Cx)) w)))]
 | _ => .err
def gG.sg:bW:={}
def gG.c:eu:=fun l=>match l with
 | [.ag [.c (.complex .f64 lZ lY),.c (.complex .f64 lX lW),.c (.complex .f64 lV lU),.c (.complex .f64 lT lS)]] => .eF (Gz.ye (Qd.mk ((lZ,lY):Cx) ((lX,lW):Cx) ((lV,lU):Cx) ((lT,lS):Cx)) 1125899906842624) [(.ag (Qd.cells (Gz.nx (Qd.mk ((lZ,lY):Cx) ((lX,lW):Cx) ((lV,lU):Cx) ((lT,lS):Cx)) 1)))]
 | _ => .err
def ez.sg:bW:={ fh:=2 }
def ez.c:eu:=fun l=>match l with
 | [.ag [.c (.complex .f64 lZ lY),.c (.complex .f64 lX lW),.c (.complex .f64 lV lU),.c (.complex .f64 lT lS)]] => .eF (Gz.ye (Qd.mk ((lZ,lY):Cx) ((lX,lW):Cx) ((lV,lU):Cx) ((lT,lS):Cx)) 1125899906842624&&Gz.LU (Qd.mk ((lZ,lY):Cx) ((lX,lW):Cx) ((lV,lU):Cx) ((lT,lS):Cx))) [(.ag (Qd.cells (Gz.back (Qd.mk ((lZ,lY):Cx) ((lX,lW):Cx) ((lV,lU):Cx) ((lT,lS):Cx))))),(.b (true))]
 | _ => .err
def cV.sg:bW:={}
def cV.c:eu:=fun l=>match l with
 | [.sl .is l] => .eF (decide ((l).length≤256)&&Gz.iT l) [(.b (true))]
 | _ => .err
def cK.sg:bW:={}
def cK.c:eu:=fun l=>match l with
 | [.sl .is l] => .eF (decide ((l).length≤256)&&Gz.iT l) [(.sl .qd (Gz.iE l))]
 | _ => .err
def bO.sg:bW:={ fh:=2 }
def bO.c:eu:=fun l=>match l with
 | [.sl .is a,.sl .is b] => .eF (decide ((a).length≤256∧(b).length≤256)&&(Gz.iT a&&Gz.iT b)) [(.sl .is (Gz.conv a b)),(.b (true))]
 | _ => .err
def dm.sg:bW:={}
def dm.c:eu:=fun l=>match l with
 | [.sl .ws a] => .eF (decide ((a).length≤1099511627776)) [(.sl .ws (Nt.of (Nt.val a)))]
 | _ => .err
def fj.sg:bW:={}
def fj.c:eu:=fun l=>match l with
 | [.sl .ws a] => .eF (decide ((a).length≤1099511627776)) [(.b (Nt.is a))]
 | _ => .err
def fv.sg:bW:={}
def fv.c:eu:=fun l=>match l with
 | [.u64 v] => .ok [(.sl .ws (Nt.of (v).toNat))]
 | _ => .err
def dy.sg:bW:={ fh:=2 }
def dy.c:eu:=fun l=>match l with
 | [.sl .ws a] => .eF (decide (Nt.is a=true∧(a).length≤4)) [(.u64 (UInt64.ofNat (Nt.val a))),(.b (true))]
 | _ => .err
def fY.sg:bW:={}
def fY.c:eu:=fun l=>match l with
 | [.sl .ws a] => .eF (Nt.is a) [(.i .i64 ((Nt.bits (Nt.val a):Int)))]
 | _ => .err
def fc.sg:bW:={}
def fc.c:eu:=fun l=>match l with
 | [.sl .ws a,.sl .ws b] => .eF (decide ((a).length≤1099511627776∧(b).length≤1099511627776)&&(Nt.norm a&&Nt.norm b)) [(.i .i64 (Nt.cmp (Nt.val a) (Nt.val b)))]
 | _ => .err
def gD.sg:bW:={}
def gD.c:eu:=fun l=>match l with
 | [.sl .ws a,.sl .ws b] => .eF (Nt.is a&&Nt.is b) [(.i .i64 (Nt.cmp (Nt.val a) (Nt.val b)))]
 | _ => .err
def cH.sg:bW:={}
def cH.c:eu:=fun l=>match l with
 | [.sl .ws a] => .eF (decide ((a).length≤256)) [(.sl .is ((a).map fun d=>(d.toNat:Int)))]
 | _ => .err
def dB.sg:bW:={}
def dB.c:eu:=fun l=>match l with
 | [.sl .ws a,.sl .ws b] => .eF (Nt.is a&&Nt.is b) [(.sl .ws (Nt.of (Nt.val a * Nt.val b)))]
 | _ => .err
def eZ.sg:bW:={ fh:=2 }
def eZ.c:eu:=fun l=>match l with
 | [.sl .ws a,.u16 d] => .eF (decide ((a).length≤1000000∧d≠0)) [(.sl .ws (Nt.of (Nt.val a / (d).toNat))),(.u16 (UInt16.ofNat (Nt.val a % (d).toNat)))]
 | _ => .err
def fq.sg:bW:={ own:=[0] }
def fq.c:eu:=fun l=>match l with
 | [.sl .ws a,.i .i64 n] => .eF (decide ((a).length≤1000000∧0≤n∧n<16)&&Nt.norm a) [(.sl .ws (Nt.of (Nt.val a * 2 ^ (n).toNat)))]
 | _ => .err
def dh.sg:bW:={}
def dh.c:eu:=fun l=>match l with
 | [.sl .ws a,.i .i64 n] => .eF (decide ((a).length≤1000000∧0≤n∧n<16)) [(.sl .ws (Nt.of (Nt.val a / 2 ^ (n).toNat)))]
 | _ => .err
def bH.sg:bW:={ md:=[.gv],fh:=2 }
def bH.c:eu:=fun l=>match l with
 | [.sl .ws u,.sl .ws v] => .eF (decide ((u).length≤1000000∧2≤(v).length∧(v).length≤(u).length∧32768≤((v).getLast?.getD 0).toNat)) [(.sl .ws (Nt.fix ((u).length+1 - (v).length) (Nt.val u / Nt.val v))),(.sl .ws (Nt.fix (v).length (Nt.val u % Nt.val v)))]
 | _ => .err
def iq.sg:bW:={ fh:=3 }
def iq.c:eu:=fun l=>match l with
 | [.sl .ws a,.sl .ws b] => .eF (Nt.is a&&Nt.is b&&decide (b≠[])) [(.sl .ws (Nt.of (Nt.val a / Nt.val b))),(.sl .ws (Nt.of (Nt.val a % Nt.val b))),(.b (true))]
 | _ => .err
def iZ.sg:bW:={}
def iZ.c:eu:=fun l=>match l with
 | [.sl .ws a,.i .i64 n] => .eF (decide (0≤n∧n≤4096)&&Nt.is a) [(.sl .ws (Nt.of (Nt.val a * 2 ^ (n).toNat)))]
 | _ => .err
def da.sg:bW:={}
def da.c:eu:=fun l=>match l with
 | [.sl .ws a,.i .i64 b,.i .i64 c] => .eF (decide ((a).length≤1000000∧1≤b∧b≤65535∧0≤c∧c≤65535)&&Nt.norm a) [(.sl .ws (Nt.of (Nt.val a * (b).toNat+(c).toNat)))]
 | _ => .err
def de.sg:bW:={ fh:=2 }
def de.c:eu:=fun l=>match l with
 | [.i .i64 b,.i .i64 e] => .eF (decide (2≤b∧b≤65535∧0≤e∧e≤1000∧(b).toNat ^ (e).toNat<2 ^ 4096)) [(.sl .ws (Nt.of ((b).toNat ^ (e).toNat))),(.b (true))]
 | _ => .err
def dz.sg:bW:={ fh:=2 }
def dz.c:eu:=fun l=>match l with
 | [.s s] => .eF (decide (1≤(s).length∧(s).length≤300∧(s).getD 0 0≠48)&&(s).all Nr.eU) [(.sl .ws (Nt.of (Nr.num s))),(.b (true))]
 | _ => .err
def et.sg:bW:={ fh:=2 }
def et.c:eu:=fun l=>match l with
 | [.b n,.u64 m,.i .i64 e] => .eF (decide (-1100≤e∧e≤2000)) [(.u64 (Nr.pat (Nr.join n (m).toNat e))),(.b ((Nr.join n (m).toNat e).isSome))]
 | _ => .err
def cJ.sg:bW:={ fh:=2 }
def cJ.c:eu:=fun l=>match l with
 | [.sl .ws a,.sl .ws b,.i .i64 e] => .eF (Nt.is a&&Nt.is b&&decide (-4096≤e∧e≤4096∧0<Nt.val b∧Nr.jK (Nt.val a) e<2 ^ 4090∧Nr.jE (Nt.val b) e<2 ^ 4090∧Nr.jK (Nt.val a) e<2 ^ 60 * Nr.jE (Nt.val b) e)) [(.u64 (UInt64.ofNat (Nr.vh (Nr.jK (Nt.val a) e) (Nr.jE (Nt.val b) e)))),(.b (Nr.mz (Nr.jK (Nt.val a) e) (Nr.jE (Nt.val b) e)))]
 | _ => .err
def dr.sg:bW:={ fh:=2 }
def dr.c:eu:=fun l=>match l with
 | [.sl .ws a,.sl .ws b] => .eF (Nt.is a&&Nt.is b&&decide (0<Nt.val a∧0<Nt.val b∧Nt.val a<2 ^ 1100∧Nt.val b<2 ^ 2200)) [(.u64 (Nr.pat (Nr.je (Nt.val a) (Nt.val b)))),(.b ((Nr.je (Nt.val a) (Nt.val b)).isSome))]
 | _ => .err
def eh.sg:bW:={ fh:=2 }
def eh.c:eu:=fun l=>match l with
 | [.s d,.i .i64 x] => .ok [(.u64 (Nr.pat (Nr.read d x))),(.b ((Nr.read d x).isSome))]
 | _ => .err
def jJ.sg:bW:={}
def jJ.c:eu:=fun l=>match l with
 | [.s s,.i .i64 at_,.u8 c,.u8 d] => .eF (decide ((s).length≤1099511627776)&&decide (0≤at_)) [(.b ((decide (at_<(s).length)&&(decide ((s).getD (at_).toNat 0=c) || decide ((s).getD (at_).toNat 0=d)))))]
 | _ => .err
def cW.sg:bW:={}
def cW.c:eu:=fun l=>match l with
 | [.s s,.i .i64 at_] => .eF (decide ((s).length≤1099511627776)&&decide (0≤at_∧at_≤1099511627776)) [(.i .i64 ((at_+(Nr.run ((s).drop (at_).toNat):Int))))]
 | _ => .err
def bF.sg:bW:={}
def bF.c:eu:=fun l=>match l with
 | [.s s] => .eF (decide ((s).length≤1099511627776)) [(.i .i64 (Nr.jf s))]
 | _ => .err
def Zh.sg:bW:={}
def Zh.c:eu:=fun l=>match l with
 | [.s s] => .eF (decide ((s).length≤1099511627776)) [(.i .i64 ((Nr.run s:Int)))]
 | _ => .err
def YZ.sg:bW:={}
def YZ.c:eu:=fun l=>match l with
 | [.s s] => .eF (decide ((s).length≤1099511627776)) [(.i .i64 (Nr.jf s))]
 | _ => .err
def Zi.sg:bW:={ fh:=4 }
def Zi.c:eu:=fun l=>match l with
 | [.u64 b] => .ok [(.i .i64 ((Nr.split b).1)),(.b ((Nr.split b).2.1)),(.u64 ((Nr.split b).2.2.1)),(.i .i64 ((Nr.split b).2.2.2))]
 | _ => .err
def Od.c:eu:=fun l=>match l with
 | [.u64 m,.i .i64 e] => .eF (decide (1≤(m).toNat∧(m).toNat<2 ^ 55∧-1075≤e∧e≤971)) [(.s (Nr.Wo (m).toNat e)),(.i .i64 (Nr.TT (m).toNat e))]
 | _ => .err
def dN.sg:bW:={ fh:=4 }
def dN.c:eu:=fun l=>match l with
 | [.u64 b] => .ok [(.i .i64 ((Nr.split b).1)),(.b ((Nr.split b).2.1)),(.u64 ((Nr.split b).2.2.1)),(.i .i64 ((Nr.split b).2.2.2))]
 | _ => .err
def cP.sg:bW:={}
def cP.c:eu:=fun l=>match l with
 | [.sl .ws a,.sl .ws b] => .eF (Nt.is a&&Nt.is b) [(.sl .ws (Nt.of (Nt.val a+Nt.val b)))]
 | _ => .err
def dc.sg:bW:={}
def dc.c:eu:=fun l=>match l with
 | [.sl .ws a] => .eF (Nt.is a) [(.s (Sh.qY (Nt.val a)))]
 | _ => .err
def fS.sg:bW:={}
def fS.c:eu:=fun l=>match l with
 | [.s s,.i .i64 n] => .eF (decide (s=[48]∧0≤n∧n≤100)) [(.s (Sh.eK n))]
 | _ => .err
def mv.sg:bW:={}
def mv.c:eu:=fun l=>match l with
 | [.sl .ss l,.s s] => .eF (decide (s=[]∧(l).length≤100000∧(l).flatten.length≤100000)) [(.s ((l).flatten))]
 | _ => .err
def iD.sg:bW:={}
def iD.c:eu:=fun l=>match l with
 | [.i .i64 v,.i .i64 b] => .eF (Nr.i64 v&&decide (b=10)) [(.s (Nr.itoa v))]
 | _ => .err
def cG.sg:bW:={ md:=[.sl],fh:=0 }
def cG.c:eu:=fun l=>match l with
 | [.sl .ss l] => .eF (decide ((l).length≤100000)) [(.sl .ss ((l).reverse))]
 | _ => .err
def eM.sg:bW:={}
def eM.c:eu:=fun l=>match l with
 | [.i .i64 v] => .eF (Nr.i64 v) [(.s (Nr.itoa v))]
 | _ => .err
def fU.sg:bW:={ fh:=2 }
def fU.c:eu:=fun l=>match l with
 | [.sl .ws a,.sl .ws b,.i .i64 k] => .eF (Nt.is a&&Nt.is b&&decide (-400≤k∧k≤400∧Nt.val a<2 ^ 1100∧Nt.val b<2 ^ 1100)) [(.sl .ws (Nt.of (Sh.tA (Nt.val a) k))),(.sl .ws (Nt.of (Sh.tB (Nt.val b) k)))]
 | _ => .err
def fH.sg:bW:={}
def fH.c:eu:=fun l=>match l with
 | [.sl .ws a,.sl .ws b,.i .i64 x] => .eF (Nt.is a&&Nt.is b&&decide (-400≤x∧x≤400∧Nt.val a<2 ^ 1100∧Nt.val b<2 ^ 1100)) [(.b (decide (Sh.tB (Nt.val b) (-x)≤Sh.tA (Nt.val a) (-x))))]
 | _ => .err
def fG.sg:bW:={ fh:=3 }
def fG.c:eu:=fun l=>match l with
 | [.u64 b,.sl .ws a,.i .i64 p] => .eF (Nt.is a&&decide (-1000≤p∧p≤1000∧0<Nt.val a∧Nt.val a<10 ^ 200)) [(.s (((Sh.kJ (b).toNat (Nt.val a) p).getD ([],0)).1)),(.i .i64 (((Sh.kJ (b).toNat (Nt.val a) p).getD ([],0)).2)),(.b ((Sh.kJ (b).toNat (Nt.val a) p).isSome))]
 | _ => .err
def gJ.sg:bW:={ fh:=3 }
def gJ.c:eu:=fun l=>match l with
 | [.u64 b,.sl .ws p,.sl .ws q,.i .i64 x,.i .i64 n] => .eF (Nt.is p&&Nt.is q&&Sh.oY (Nt.val p) (Nt.val q) x n) [(.s (((Sh.pA (b).toNat (Nt.val p) (Nt.val q) x n).getD ([],0)).1)),(.i .i64 (((Sh.pA (b).toNat (Nt.val p) (Nt.val q) x n).getD ([],0)).2)),(.b ((Sh.pA (b).toNat (Nt.val p) (Nt.val q) x n).isSome))]
 | _ => .err
def bM.sg:bW:={ fh:=3 }
def bM.c:eu:=fun l=>match l with
 | [.u64 b] => .ok [(.s ((Sh.dg b).1)),(.i .i64 ((Sh.dg b).2.1)),(.b ((Sh.dg b).2.2))]
 | _ => .err
def dY.sg:bW:={}
def dY.c:eu:=fun l=>match l with
 | [.s d,.i .i64 x] => .eF (decide (1≤(d).length∧(d).length≤17∧-900≤x∧x≤900)) [(.s (Sh.CG d x))]
 | _ => .err
def dD.sg:bW:={}
def dD.c:eu:=fun l=>match l with
 | [.u64 b] => .ok [(.s (Sh.text b))]
 | _ => .err
def mw.sg:bW:={}
def mw.c:eu:=fun l=>match l with
 | [.u64 v,.i .i64 b] => .eF (decide (b=10)) [(.s (Nr.dec (v).toNat))]
 | _ => .err
def cY.sg:bW:={}
def cY.c:eu:=fun l=>match l with
 | [.u64 v,.i .i64 b] => .eF (decide (b=10)) [(.s (Nr.dec (v).toNat))]
 | _ => .err
def dj.sg:bW:={}
def dj.c:eu:=fun l=>match l with
 | [.s s,.s t] => .ok [(.b (List.isPrefixOf t s))]
 | _ => .err
def cS.sg:bW:={}
def cS.c:eu:=fun l=>match l with
 | [.s s,.s t] => .ok [(.b (List.isPrefixOf t s))]
 | _ => .err
def di.sg:bW:={}
def di.c:eu:=fun l=>match l with
 | [.s s,.u8 c] => .ok [(.i .i64 (Lib.indexByte s c))]
 | _ => .err
def fJ.sg:bW:={ fh:=2 }
def fJ.c:eu:=fun l=>match l with
 | [.u64 a,.u64 b] => .ok [(.u64 (UInt64.ofNat ((a).toNat * (b).toNat / 18446744073709551616))),(.u64 (UInt64.ofNat ((a).toNat * (b).toNat)))]
 | _ => .err
def eP.sg:bW:={}
def eP.c:eu:=fun l=>match l with
 | [.u64 v] => .eF (decide (9223372036854775808≤(v).toNat)) [(.i .i64 (0))]
 | _ => .err
def bI.sg:bW:={ fh:=2 }
def bI.c:eu:=fun l=>match l with
 | [.u64 a,.u64 b,.u64 y] => .eF (decide (9223372036854775808≤(y).toNat∧(a).toNat<(y).toNat)) [(.u64 (UInt64.ofNat (((a).toNat * 18446744073709551616+(b).toNat) / (y).toNat))),(.u64 (UInt64.ofNat (((a).toNat * 18446744073709551616+(b).toNat) % (y).toNat)))]
 | _ => .err
def ij.sg:bW:={}
def ij.c:eu:=fun l=>match l with
 | [.ag [.u64 sD,.u64 sC],.ag [.u64 BV,.u64 BU]] => .ok [(.i .i64 (cond (decide (dH.val (dH.mk sD sC)=dH.val (dH.mk BV BU))) 0 (cond (decide (dH.val (dH.mk sD sC)<dH.val (dH.mk BV BU))) (-1) 1)))]
 | _ => .err
def iH.sg:bW:={}
def iH.c:eu:=fun l=>match l with
 | [.u64 a,.u64 b] => .ok [(.ag (dH.cells (dH.of ((a).toNat * (b).toNat))))]
 | _ => .err
def iI.sg:bW:={ fh:=3 }
def iI.c:eu:=fun l=>match l with
 | [.ag [.u64 sD,.u64 sC],.u64 b] => .eF (decide (9223372036854775808≤(b).toNat)) [(.ag (dH.cells (dH.of (dH.val (dH.mk sD sC) / (b).toNat)))),(.u64 (UInt64.ofNat (dH.val (dH.mk sD sC) % (b).toNat))),(.b (true))]
 | _ => .err
def cZ.sg:bW:={}
def cZ.c:eu:=fun l=>match l with
 | [.ag [.u64 sD,.u64 sC]] => .ok [(.s (Nr.dec (dH.val (dH.mk sD sC))))]
 | _ => .err
def fW.sg:bW:={}
def fW.c:eu:=fun l=>match l with
 | [] => .ok [(.ag (dH.cells (Cn.ux)))]
 | _ => .err
def dv.sg:bW:={ fh:=4 }
def dv.c:eu:=fun l=>match l with
 | [.u64 h,.u64 l] => .ok [(.i .i64 ((Cn.split h l).1)),(.b ((Cn.split h l).2.1)),(.ag (dH.cells ((Cn.split h l).2.2.1))),(.i .i64 ((Cn.split h l).2.2.2))]
 | _ => .err
def eH.sg:bW:={ fh:=3 }
def eH.c:eu:=fun l=>match l with
 | [.b n,.ag [.u64 BP,.u64 HF],.i .i64 x] => .eF (Nr.i64 x) [(.u64 ((Cn.join n (dH.mk BP HF) x).1)),(.u64 ((Cn.join n (dH.mk BP HF) x).2.1)),(.b ((Cn.join n (dH.mk BP HF) x).2.2))]
 | _ => .err
def fN.sg:bW:={}
def fN.c:eu:=fun l=>match l with
 | [.u64 h,.u64 l] => .ok [(.b (Cn.ri h l))]
 | _ => .err
def dt.sg:bW:={}
def dt.c:eu:=fun l=>match l with
 | [.s d,.i .i64 x] => .eF (decide (1≤(d).length∧(d).length≤40∧-10000≤x∧x≤100000)) [(.s (Cn.laid d x))]
 | _ => .err
def eG.sg:bW:={}
def eG.c:eu:=fun l=>match l with
 | [.u64 h,.u64 l] => .ok [(.s (Cn.uS h l))]
 | _ => .err
def db.sg:bW:={}
def db.c:eu:=fun l=>match l with
 | [.sl .bs b] => .eF (decide ((b).length≤1099511627776)) [(.s (Cn.base b))]
 | _ => .err
def gB.sg:bW:={}
def gB.c:eu:=fun l=>match l with
 | [.s s] => .ok [(.ag (bP.cells (Cn.str s)))]
 | _ => .err
def ik.sg:bW:={}
def ik.c:eu:=fun l=>match l with
 | [.i .i64 v] => .eF (Nr.i64 v) [(.ag (bP.cells (Cn.num v)))]
 | _ => .err
def gC.sg:bW:={}
def gC.c:eu:=fun l=>match l with
 | [.s s,.ag [.i .i64 gU,.s gT,.sl .ml gV]] => .ok [(.ag (bP.cells (Cn.one s (bP.mk gU gT gV))))]
 | _ => .err
def gA.sg:bW:={}
def gA.c:eu:=fun l=>match l with
 | [.s s,.ag [.i .i64 gU,.s gT,.sl .ml gV],.s t,.ag [.i .i64 LL,.s LK,.sl .ml LM]] => .ok [(.ag (bP.cells (Cn.two s (bP.mk gU gT gV) t (bP.mk LL LK LM))))]
 | _ => .err
def dR.sg:bW:={}
def dR.c:eu:=fun l=>match l with
 | [.u64 v] => .ok [(.s (Cn.high v))]
 | _ => .err
def eT.sg:bW:={ fh:=2 }
def eT.c:eu:=fun l=>match l with
 | [.ag [.i .i64 jX,.u64 j0,.u64 jY,.u64 jW,.s jT,.s jV,.i .i64 jU,.sl .bs jS,.sl .fl jZ]] => .ok [(.ag (bP.cells ((Cn.oD (Val.mk jX j0 jY jW jT jV jU jS jZ)).1))),(.b ((Cn.oD (Val.mk jX j0 jY jW jT jV jU jS jZ)).2))]
 | _ => .err
def gO.sg:bW:={}
def gO.c:eu:=fun l=>match l with
 | [.ag [.i .i64 jX,.u64 j0,.u64 jY,.u64 jW,.s jT,.s jV,.i .i64 jU,.sl .bs jS,.sl .fl jZ]] => .eF (decide (bA.bJ (bA.of [] (Val.mk jX j0 jY jW jT jV jU jS jZ))≤1099511627776)) [(.ag (bP.cells (Cn.pz (Val.mk jX j0 jY jW jT jV jU jS jZ))))]
 | _ => .err
def cN.sg:bW:={ own:=[1002] }
def cN.c:eu:=fun l=>match l with
 | [.sl .fl l] => .eF (decide (bA.cm l≤1099511627776)) [(.ag (bP.cells (Cn.rP l)))]
 | _ => .err
def cN.cn (n:Nat):eu:=fun l=>match l with
 | [.sl .fl l] => .eF ((decide (bA.cm l≤1099511627776))&&decide ((2 * bA.cm l+1)<n)) [(.ag (bP.cells (Cn.rP l)))]
 | _ => .err
def cn_value.sg:bW:={}
def cn_value.cn (n:Nat):eu:=fun l=>match l with
 | [.ag [.i .i64 jX,.u64 j0,.u64 jY,.u64 jW,.s jT,.s jV,.i .i64 jU,.sl .bs jS,.sl .fl jZ]] => .eF ((decide (bA.bJ (bA.of [] (Val.mk jX j0 jY jW jT jV jU jS jZ))≤1099511627776))&&decide ((2 * bA.bJ (bA.of [] (Val.mk jX j0 jY jW jT jV jU jS jZ)))<n)) [(.ag (bP.cells (Cn.yy (Val.mk jX j0 jY jW jT jV jU jS jZ))))]
 | _ => .err
def gP.sg:bW:={ fh:=2 }
def gP.c:eu:=fun l=>match l with
 | [.ag [.i .i64 jX,.u64 j0,.u64 jY,.u64 jW,.s jT,.s jV,.i .i64 jU,.sl .bs jS,.sl .fl jZ]] => .eF (decide (bA.bJ (bA.of [] (Val.mk jX j0 jY jW jT jV jU jS jZ))≤1099511627776)) [(.ag (bP.cells (Cn.zF (Val.mk jX j0 jY jW jT jV jU jS jZ)))),(.ag [(.i .i64 (Cn.iO (Val.mk jX j0 jY jW jT jV jU jS jZ)).2),(.i .i64 0),(.sl .is (Cn.iO (Val.mk jX j0 jY jW jT jV jU jS jZ)).1)])]
 | _ => .err
def jo.sg:bW:={}
def jo.c:eu:=fun l=>match l with
 | [.s s] => .eF (decide ((s).length≤1099511627776)) [(.b (fR.whole s))]
 | _ => .err
def bZ.sg:bW:={}
def bZ.c:eu:=fun l=>match l with
 | [.ag [.i .i64 gU,.s gT,.sl .ml gV]] => .eF (decide (bP.bJ (bP.mk gU gT gV)≤1099511627776)) [(.i .i64 (Cn.mq (bP.mk gU gT gV)))]
 | _ => .err
def bZ.cn (n:Nat):eu:=fun l=>match l with
 | [.ag [.i .i64 gU,.s gT,.sl .ml gV]] => .eF ((decide (bP.bJ (bP.mk gU gT gV)≤1099511627776))&&decide ((bP.bJ (bP.mk gU gT gV))<n)) [(.i .i64 (Cn.mq (bP.mk gU gT gV)))]
 | _ => .err
def cF.sg:bW:={ fh:=2 }
def cF.c:eu:=fun l=>match l with
 | [.s s] => .eF (decide ((s).length≤1000000000000)) [(.s (Cn.ku s)),(.b (fR.whole s))]
 | _ => .err
def eS.sg:bW:={ md:=[.gv],own:=[0] }
def eS.c:eu:=fun l=>match l with
 | [.sl .bs b,.s s] => .eF (decide ((b).length+6 * (s).length≤5000000000000)) [(.sl .bs ((b++Cn.ku s)))]
 | _ => .err
def cz.sg:bW:={ md:=[.gv],own:=[0] }
def cz.c:eu:=fun l=>match l with
 | [.sl .bs b,.ag [.i .i64 gU,.s gT,.sl .ml gV]] => .eF (decide ((b).length+12 * bP.bJ (bP.mk gU gT gV)≤4000000000000)) [(.sl .bs ((b++Cn.uF (bP.mk gU gT gV))))]
 | _ => .err
def cz.cn (n:Nat):eu:=fun l=>match l with
 | [.sl .bs b,.ag [.i .i64 gU,.s gT,.sl .ml gV]] => .eF ((decide ((b).length+12 * bP.bJ (bP.mk gU gT gV)≤4000000000000))&&decide ((bP.bJ (bP.mk gU gT gV))<n)) [(.sl .bs ((b++Cn.uF (bP.mk gU gT gV))))]
 | _ => .err
def fK.sg:bW:={ fh:=2 }
def fK.c:eu:=fun l=>match l with
 | [.ag [.i .i64 gU,.s gT,.sl .ml gV]] => .eF (decide (12 * bP.bJ (bP.mk gU gT gV)≤1000000000000)) [(.s (Cn.pK (bP.mk gU gT gV))),(.i .i64 (Cn.mq (bP.mk gU gT gV)))]
 | _ => .err
def fP.sg:bW:={}
def fP.c:eu:=fun l=>match l with
 | [.sl .bs a] => .eF (fi (a).length 1) [(.sl .bs (a))]
 | _ => .err
def kS.sg:bW:={ fh:=2 }
def kS.c:eu:=fun l=>match l with
 | [.s s] => .eF (decide ((s).length≤281474976710656)) [(.i .i64 ((Rl.iW s).getD 0)),(.b ((Rl.iW s).isSome))]
 | _ => .err
def fO.sg:bW:={}
def fO.c:eu:=fun l=>match l with
 | [.u64 b] => .ok [(.i .i64 (Rl.order b))]
 | _ => .err
def iP.sg:bW:={ fh:=2 }
def iP.c:eu:=fun l=>match l with
 | [.u64 a,.u64 b] => .ok [(.i .i64 ((Rl.Aj a b).1)),(.b ((Rl.Aj a b).2))]
 | _ => .err
def iN.sg:bW:={}
def iN.c:eu:=fun l=>match l with
 | [.s t] => .ok [(.ag (bP.cells ((bP.mk 4 t []))))]
 | _ => .err
def dZ.sg:bW:={ fh:=2 }
def dZ.c:eu:=fun l=>match l with
 | [.u64 b] => .ok [(.s ((Rl.number b).1)),(.b ((Rl.number b).2))]
 | _ => .err
def iM.sg:bW:={ own:=[1002] }
def iM.c:eu:=fun l=>match l with
 | [.s s,.ag [.i .i64 gU,.s gT,.sl .ml gV]] => .ok [(.ag (bP.cells (Cn.one s (bP.mk gU gT gV))))]
 | _ => .err
def bT.sg:bW:={}
def bT.c:eu:=fun l=>match l with
 | [.ag [.i .i64 jX,.u64 j0,.u64 jY,.u64 jW,.s jT,.s jV,.i .i64 jU,.sl .bs jS,.sl .fl jZ]] => .eF (decide (bA.bJ (bA.of [] (Val.mk jX j0 jY jW jT jV jU jS jZ))≤1000000000000)) [(.ag (Val.cells (Rl.ie (Val.mk jX j0 jY jW jT jV jU jS jZ))))]
 | _ => .err
def bT.cn (n:Nat):eu:=fun l=>match l with
 | [.ag [.i .i64 jX,.u64 j0,.u64 jY,.u64 jW,.s jT,.s jV,.i .i64 jU,.sl .bs jS,.sl .fl jZ]] => .eF ((decide (bA.bJ (bA.of [] (Val.mk jX j0 jY jW jT jV jU jS jZ))≤1000000000000))&&decide ((bA.bJ (bA.of [] (Val.mk jX j0 jY jW jT jV jU jS jZ)))<n)) [(.ag (Val.cells (Rl.ie (Val.mk jX j0 jY jW jT jV jU jS jZ))))]
 | _ => .err
def fI.sg:bW:={}
def fI.c:eu:=fun l=>match l with
 | [.ag [.i .i64 yn,.u64 yp,.u64 sD,.u64 sC,.s yj,.s ym,.i .i64 yk,.sl .bs yi,.sl .fl yo],.ag [.i .i64 EZ,.u64 E1,.u64 BV,.u64 BU,.s EW,.s EY,.i .i64 EX,.sl .bs EV,.sl .fl E0]] => .ok [(.b (Tree.nD (Val.mk yn yp sD sC yj ym yk yi yo) (Val.mk EZ E1 BV BU EW EY EX EV E0)))]
 | _ => .err
def bR.sg:bW:={ md:=[.gv,.pl,.pl,.sm],fh:=2,own:=[0] }
def bR.c:eu:=fun l=>match l with
 | [.sl .od o,.ag [.i .i64 yn,.u64 yp,.u64 sD,.u64 sC,.s yj,.s ym,.i .i64 yk,.sl .bs yi,.sl .fl yo],.ag [.i .i64 EZ,.u64 E1,.u64 BV,.u64 BU,.s EW,.s EY,.i .i64 EX,.sl .bs EV,.sl .fl E0],.sl .is p] => .eF (decide ((o).length+bA.bJ (bA.of [] (Val.mk yn yp sD sC yj ym yk yi yo))≤1000000000∧(p).length+bA.bJ (bA.of [] (Val.mk yn yp sD sC yj ym yk yi yo))≤1000000000)) [(.sl .od ((Rl.pV o (Val.mk yn yp sD sC yj ym yk yi yo) (Val.mk EZ E1 BV BU EW EY EX EV E0) p).1)),(.b ((Rl.pV o (Val.mk yn yp sD sC yj ym yk yi yo) (Val.mk EZ E1 BV BU EW EY EX EV E0) p).2))]
 | _ => .err
def bR.cn (n:Nat):eu:=fun l=>match l with
 | [.sl .od o,.ag [.i .i64 yn,.u64 yp,.u64 sD,.u64 sC,.s yj,.s ym,.i .i64 yk,.sl .bs yi,.sl .fl yo],.ag [.i .i64 EZ,.u64 E1,.u64 BV,.u64 BU,.s EW,.s EY,.i .i64 EX,.sl .bs EV,.sl .fl E0],.sl .is p] => .eF ((decide ((o).length+bA.bJ (bA.of [] (Val.mk yn yp sD sC yj ym yk yi yo))≤1000000000∧(p).length+bA.bJ (bA.of [] (Val.mk yn yp sD sC yj ym yk yi yo))≤1000000000))&&decide ((bA.bJ (bA.of [] (Val.mk yn yp sD sC yj ym yk yi yo)))<n)) [(.sl .od ((Rl.pV o (Val.mk yn yp sD sC yj ym yk yi yo) (Val.mk EZ E1 BV BU EW EY EX EV E0) p).1)),(.b ((Rl.pV o (Val.mk yn yp sD sC yj ym yk yi yo) (Val.mk EZ E1 BV BU EW EY EX EV E0) p).2))]
 | _ => .err
def gM.sg:bW:={ fh:=2 }
def gM.c:eu:=fun l=>match l with
 | [.ag [.i .i64 yn,.u64 yp,.u64 sD,.u64 sC,.s yj,.s ym,.i .i64 yk,.sl .bs yi,.sl .fl yo],.ag [.i .i64 EZ,.u64 E1,.u64 BV,.u64 BU,.s EW,.s EY,.i .i64 EX,.sl .bs EV,.sl .fl E0]] => .eF (decide (bA.bJ (bA.of [] (Val.mk yn yp sD sC yj ym yk yi yo))≤100000000)) [(.sl .od ((Rl.diff (Val.mk yn yp sD sC yj ym yk yi yo) (Val.mk EZ E1 BV BU EW EY EX EV E0)).getD [])),(.b ((Rl.diff (Val.mk yn yp sD sC yj ym yk yi yo) (Val.mk EZ E1 BV BU EW EY EX EV E0)).isSome))]
 | _ => .err
def gK.sg:bW:={}
def gK.c:eu:=fun l=>match l with
 | [.ag [.i .i64 jX,.u64 j0,.u64 jY,.u64 jW,.s jT,.s jV,.i .i64 jU,.sl .bs jS,.sl .fl jZ]] => .eF (decide (bA.bJ (bA.of [] (Val.mk jX j0 jY jW jT jV jU jS jZ))≤10000000)) [(.sl .od ((Rl.diff (Val.mk jX j0 jY jW jT jV jU jS jZ) (Rl.ie (Val.mk jX j0 jY jW jT jV jU jS jZ))).getD []))]
 | _ => .err
def gH.sg:bW:={}
def gH.c:eu:=fun l=>match l with
 | [.i .i64 y] => .eF (decide (0≤y∧y≤100000)) [(.b (Rl.D4 y))]
 | _ => .err
def dn.sg:bW:={}
def dn.c:eu:=fun l=>match l with
 | [.i .i64 y,.i .i64 m] => .eF (decide (0≤y∧y≤100000)) [(.i .i64 (Rl.month y m))]
 | _ => .err
def fD.sg:bW:={}
def fD.c:eu:=fun l=>match l with
 | [.i .i64 y] => .eF (decide (1≤y∧y≤100000)) [(.i .i64 (Rl.ahead y))]
 | _ => .err
def fk.sg:bW:={}
def fk.c:eu:=fun l=>match l with
 | [.i .i64 n,.i .i64 l] => .eF (decide (0≤n∧n≤1000000∧0≤l∧l≤10)) [(.s (Rl.pad n l))]
 | _ => .err
def cq.sg:bW:={ fh:=2 }
def cq.c:eu:=fun l=>match l with
 | [.i .i64 t] => .eF (Nr.i64 t) [(.s ((Rl.date t).1)),(.b ((Rl.date t).2))]
 | _ => .err
def cM.sg:bW:={ own:=[1002] }
def cM.c:eu:=fun l=>match l with
 | [.sl .fl l] => .eF (decide (bA.cm l≤1000000000000)&&decide ((Tree.ka l 0 []).2=0)) [(.ag (bP.cells (Rl.ob Rl.date l)))]
 | _ => .err
def cM.cn (n:Nat):eu:=fun l=>match l with
 | [.sl .fl l] => .eF ((decide (bA.cm l≤1000000000000)&&decide ((Tree.ka l 0 []).2=0))&&decide ((2 * bA.cm l+1)<n)) [(.ag (bP.cells (Rl.ob Rl.date l)))]
 | _ => .err
def cC.sg:bW:={}
def cC.cn (n:Nat):eu:=fun l=>match l with
 | [.ag [.i .i64 jX,.u64 j0,.u64 jY,.u64 jW,.s jT,.s jV,.i .i64 jU,.sl .bs jS,.sl .fl jZ]] => .eF ((decide (bA.bJ (bA.of [] (Val.mk jX j0 jY jW jT jV jU jS jZ))≤1000000000000)&&decide ((Tree.gQ (bA.of [] (Val.mk jX j0 jY jW jT jV jU jS jZ)) []).2=0))&&decide ((2 * bA.bJ (bA.of [] (Val.mk jX j0 jY jW jT jV jU jS jZ)))<n)) [(.ag (bP.cells (Rl.lj Rl.date (bA.of [] (Val.mk jX j0 jY jW jT jV jU jS jZ)))))]
 | _ => .err
def gL.sg:bW:={ fh:=2 }
def gL.c:eu:=fun l=>match l with
 | [.ag [.i .i64 jX,.u64 j0,.u64 jY,.u64 jW,.s jT,.s jV,.i .i64 jU,.sl .bs jS,.sl .fl jZ]] => .eF (decide (bA.bJ (bA.of [] (Val.mk jX j0 jY jW jT jV jU jS jZ))≤1000000000000)) [(.ag (bP.cells (Rl.ko Rl.date (Val.mk jX j0 jY jW jT jV jU jS jZ)))),(.ag [(.i .i64 (Cn.iO (Val.mk jX j0 jY jW jT jV jU jS jZ)).2),(.i .i64 0),(.sl .is (Cn.iO (Val.mk jX j0 jY jW jT jV jU jS jZ)).1)])]
 | _ => .err
def fV.sg:bW:={ fh:=2 }
def fV.c:eu:=fun l=>match l with
 | [.ag [.i .i64 jX,.u64 j0,.u64 jY,.u64 jW,.s jT,.s jV,.i .i64 jU,.sl .bs jS,.sl .fl jZ]] => .eF (decide (bA.bJ (bA.of [] (Val.mk jX j0 jY jW jT jV jU jS jZ))≤100000)) [(.s (Rl.mT Rl.date (Val.mk jX j0 jY jW jT jV jU jS jZ))),(.ag [(.i .i64 (Rl.kW Rl.date (Val.mk jX j0 jY jW jT jV jU jS jZ)).2),(.i .i64 0),(.sl .is (Rl.kW Rl.date (Val.mk jX j0 jY jW jT jV jU jS jZ)).1)])]
 | _ => .err
def bL.sg:bW:={}
def bL.c:eu:=fun l=>match l with
 | [.sl .od a,.sl .od b] => .eF (decide ((a).length≤1000000000)&&(a).all (fun l=>decide (l.length≤1099511627776))) [(.b (decide (a=b)))]
 | _ => .err
def Y5.sg:bW:={ fh:=2 }
def Y5.c:eu:=fun l=>match l with
 | [.u64 b] => .ok [(.i .i64 ((Rl.Zl b).getD 0)),(.b ((Rl.Zl b).isSome))]
 | _ => .err
def Zg.sg:bW:={}
def Zg.c:eu:=fun l=>match l with
 | [.u64 b] => .ok [(.i .i64 (Cn.i32 b))]
 | _ => .err
def Y2.sg:bW:={ fh:=2 }
def Y2.c:eu:=fun l=>match l with
 | [.ag [.i .i64 yn,.u64 yp,.u64 sD,.u64 sC,.s yj,.s ym,.i .i64 yk,.sl .bs yi,.sl .fl yo],.ag [.i .i64 EZ,.u64 E1,.u64 BV,.u64 BU,.s EW,.s EY,.i .i64 EX,.sl .bs EV,.sl .fl E0],.sl .is p] => .eF (decide (bA.bJ (bA.of [] (Val.mk yn yp sD sC yj ym yk yi yo))+(p).length≤1000000000)) [(.sl .od ((Rl.mG (bA.of [] (Val.mk yn yp sD sC yj ym yk yi yo)) (bA.of [] (Val.mk EZ E1 BV BU EW EY EX EV E0)) p).getD [])),(.b ((Rl.mG (bA.of [] (Val.mk yn yp sD sC yj ym yk yi yo)) (bA.of [] (Val.mk EZ E1 BV BU EW EY EX EV E0)) p).isSome))]
 | _ => .err
def Y2.cn (n:Nat):eu:=fun l=>match l with
 | [.ag [.i .i64 yn,.u64 yp,.u64 sD,.u64 sC,.s yj,.s ym,.i .i64 yk,.sl .bs yi,.sl .fl yo],.ag [.i .i64 EZ,.u64 E1,.u64 BV,.u64 BU,.s EW,.s EY,.i .i64 EX,.sl .bs EV,.sl .fl E0],.sl .is p] => .eF ((decide (bA.bJ (bA.of [] (Val.mk yn yp sD sC yj ym yk yi yo))+(p).length≤1000000000))&&decide ((bA.bJ (bA.of [] (Val.mk yn yp sD sC yj ym yk yi yo)))<n)) [(.sl .od ((Rl.mG (bA.of [] (Val.mk yn yp sD sC yj ym yk yi yo)) (bA.of [] (Val.mk EZ E1 BV BU EW EY EX EV E0)) p).getD [])),(.b ((Rl.mG (bA.of [] (Val.mk yn yp sD sC yj ym yk yi yo)) (bA.of [] (Val.mk EZ E1 BV BU EW EY EX EV E0)) p).isSome))]
 | _ => .err
def Ze.sg:bW:={ fh:=2 }
def Ze.c:eu:=fun l=>match l with
 | [.ag [.i .i64 yn,.u64 yp,.u64 sD,.u64 sC,.s yj,.s ym,.i .i64 yk,.sl .bs yi,.sl .fl yo],.ag [.i .i64 EZ,.u64 E1,.u64 BV,.u64 BU,.s EW,.s EY,.i .i64 EX,.sl .bs EV,.sl .fl E0]] => .eF (decide (bA.bJ (bA.of [] (Val.mk yn yp sD sC yj ym yk yi yo))≤100000000)) [(.sl .od ((Rl.diff (Val.mk yn yp sD sC yj ym yk yi yo) (Val.mk EZ E1 BV BU EW EY EX EV E0)).getD [])),(.b ((Rl.diff (Val.mk yn yp sD sC yj ym yk yi yo) (Val.mk EZ E1 BV BU EW EY EX EV E0)).isSome))]
 | _ => .err
def Y9.sg:bW:={ fh:=2 }
def Y9.c:eu:=fun l=>match l with
 | [.ag [.i .i64 jX,.u64 j0,.u64 jY,.u64 jW,.s jT,.s jV,.i .i64 jU,.sl .bs jS,.sl .fl jZ],.sl .is p] => .eF (decide (bA.bJ (bA.of [] (Val.mk jX j0 jY jW jT jV jU jS jZ))≤100000000∧(p).length≤1000000000)) [(.ag (Val.cells ((Rl.get (Val.mk jX j0 jY jW jT jV jU jS jZ) p).getD Rl.zeroV))),(.b ((Rl.get (Val.mk jX j0 jY jW jT jV jU jS jZ) p).isSome))]
 | _ => .err
def Zb.sg:bW:={ fh:=2 }
def Zb.c:eu:=fun l=>match l with
 | [.ag [.i .i64 jX,.u64 j0,.u64 jY,.u64 jW,.s jT,.s jV,.i .i64 jU,.sl .bs jS,.sl .fl jZ]] => .ok [(.i .i64 ((Rl.Zj (Val.kind (Val.mk jX j0 jY jW jT jV jU jS jZ)) (Val.bits (Val.mk jX j0 jY jW jT jV jU jS jZ))).getD 0)),(.b ((Rl.Zj (Val.kind (Val.mk jX j0 jY jW jT jV jU jS jZ)) (Val.bits (Val.mk jX j0 jY jW jT jV jU jS jZ))).isSome))]
 | _ => .err
end
end Go.Eng
set_option maxRecDepth 100000
namespace Go.Eng
open Go.Proofs
noncomputable section
def cD.E:cr:=cL fC zs []
def cD.h:Hint := .s .o (.s .o (.s (.s .o (.b (.l [(3,.fB 800000),(10,.no),(11,.no),(12,.no),(800000,.pv)] .o))) .o))
def cD.F (b:List UInt8):OT:=cI PG cD.E 147 cD.sg cD.h [(.sl .bs b)]
def cD.l1 (x0:List UInt8) (x1:Int) (x2:Int) (x3:List UInt8):OT:=dL PG cD.E 147 cD.sg cD.h 43 [.pt,(.sl .bs x0),(.i .i64 x1),(.i .i64 x2),(.sl .bs x3)]
theorem cD.bX (x0:List UInt8) (x1:Int) (x2:Int) (x3:List UInt8) {ρ:OT} (K:∀(v1:UInt8) (h1:v1=(List.getD x0 (x2).toNat (0:UInt8))) (v2:UInt8) (h2:v2=(lO v1 (((4:UInt64)).toNat))) (v3:UInt8) (h3:v3=(List.getD ([48,49,50,51,52,53,54,55,56,57,97,98,99,100,101,102]:bz) (((v2).toNat:Int)).toNat (0:UInt8))) (v4:UInt8) (h4:v4=(List.getD ([48,49,50,51,52,53,54,55,56,57,97,98,99,100,101,102]:bz) ((((v1 &&& (15:UInt8))).toNat:Int)).toNat (0:UInt8))) (v5:List UInt8) (h5:v5=(x3++([v3,v4]:List UInt8))) (v6:Int) (h6:v6=(IntKind.i64.wrap (x2+(1:Int)))),cond (decide (x2<x1))
  (ck (bD x2 (x0).length) (ck (bD ((v2).toNat:Int) (([48,49,50,51,52,53,54,55,56,57,97,98,99,100,101,102]:bz)).length) (ck (bD (((v1 &&& (15:UInt8))).toNat:Int) (([48,49,50,51,52,53,54,55,56,57,97,98,99,100,101,102]:bz)).length) (ck (fi ((x3).length+(([v3,v4]:List UInt8)).length) 1) (cD.l1 x0 x1 v6 v5)))))
  (some [(.s x3)])=ρ):cD.l1 x0 x1 x2 x3=ρ:=((bV _ _ _ _ _ _ _).trans (by kernel_rfl)).trans (K _ rfl _ rfl _ rfl _ rfl _ rfl _ rfl)
theorem cD.bY (b:List UInt8) {ρ:OT} (K:∀(v1:Int) (h1:v1=(IntKind.i64.wrap ((2:Int) * ((b).length:Int)))) (v2:List UInt8) (h2:v2=(List.replicate ((0:Int)).toNat (0:UInt8))),ck (pO (0:Int) v1 1) (cD.l1 b ((b).length:Int) (0:Int) v2)=ρ):cD.F b=ρ:=Eq.trans (by kernel_rfl) (K _ rfl _ rfl)
def iK.E:cr:=cL fC zs []
def iK.h:Hint := .o
def iK.F (r:Int):OT:=cI PG iK.E 204 iK.sg iK.h [(.i .i64 r)]
theorem iK.bY (r:Int) {ρ:OT} (K:∀(v1:Bool) (h1:v1=(cond (decide ((0:Int)≤r)) (decide (r≤(1114111:Int))) false)) (v2:Bool) (h2:v2=(v1&&(!(decide (r<(55296:Int)))))) (v3:Bool) (h3:v3=(cond (decide (r<(55296:Int))) true (decide ((57343:Int)<r)))),ck (!(decide ((0:Int)≤r)) || (decide ((0:Int)≤r))) (ck (!(decide ((0:Int)≤r)) || (decide ((0:Int)≤r))) (ck (!v1 || v1) (ck (!v1 || v1) (ck (!v2 || v2) (ck (!v1 || (v1&&((decide (r<(55296:Int))) || v2))) (ck (!v1 || v1) (some [(.b (cond v1 v3 false))])))))))=ρ):iK.F r=ρ:=Eq.trans (by kernel_rfl) (K _ rfl _ rfl _ rfl)
def bK.E:cr:=cL fC zs [(204,(iK.c,iK.sg))]
def bK.h:Hint := .s .o (.sc [(0,(sc [])),(1,(sc [0,1,4,7,8,9]))] (.s .o (.s .o (.s .o (.j (sc [0,1,4,7,8]) .o .o)))))
def bK.F (b:List UInt8) (at_:Int):OT:=cI PG bK.E 170 bK.sg bK.h [(.sl .bs b),(.i .i64 at_)]
def bK.g1:OT:=xx PG bK.E 170 bK.sg bK.h 3 0 []
def bK.j2 (x0:List UInt8) (x1:Int) (x2:Int) (x3:Int) (x4:Int):OT:=eD PG bK.E 170 bK.sg bK.h 61 [(.sl .bs x0),(.i .i64 x1),(.i .i64 x2),(.i .i64 x3),(.i .i64 x4)]
def bK.g3 (x0:List UInt8) (x1:Int) (x2:Int) (x3:Int) (x4:Int) (x5:Int):OT:=xx PG bK.E 170 bK.sg bK.h 3 1 [(.sl .bs x0),(.i .i64 x1),(.i .i64 x2),(.i .i64 x3),(.i .i64 x4),(.i .i64 x5)]
theorem bK.wz:bK.g1=some [(.i .i64 (0:Int)),(.i .i64 (0:Int))]:=((wg _ _ _ _ _ _ _ _).trans (by kernel_rfl))
theorem bK.jx (x0:List UInt8) (x1:Int) (x2:Int) (x3:Int) (x4:Int) {ρ:OT} (K:∀(v1:Int) (h1:v1=(IntKind.i64.wrap (((x0).length:Int) - x1))) (v2:Int) (h2:v2=(IntKind.i64.wrap (v1 - (1:Int)))) (v3:Int) (h3:v3=(IntKind.i64.wrap (x1+(1:Int)))) (v4:UInt8) (h4:v4=(List.getD x0 (v3).toNat (0:UInt8))) (v5:Bool) (h5:v5=(!decide ((v4 &&& (192:UInt8))=(128:UInt8)))) (v6:Int) (h6:v6=(IntKind.i64.wrap (x2 * 2 ^ (min (((6:UInt64)).toNat) (IntKind.i64.bits))))) (v7:Int) (h7:v7=(IntKind.i64.wrap (((v4 &&& (63:UInt8))).toNat:Int))) (v8:Int) (h8:v8=(IntKind.i64.wrap ((1:Int)+(1:Int)))) (v9:Bool) (h9:v9=(cond (decide (x2<x4)) true (!(fR.nM x2)))) (v10:Int) (iS:v10=(IntKind.i64.wrap (x3+(1:Int)))),cond (decide (v2<x3))
  (bK.g1)
  (cond (decide ((1:Int)≤x3))
  (ck (bD v3 (x0).length) (cond v5
  (bK.g1)
  (ck (bD v3 (x0).length) (bK.g3 x0 x1 (cU .or .i64 v6 v7) x3 x4 v8))))
  (ck (!(!(decide (x2<x4))) || (!(decide (x2<x4)))) (ck (!(!(decide (x2<x4))) || (!(decide (x2<x4)))) (ck ((decide (x2<x4)) || (!(decide (x2<x4)))) (cond v9
  (bK.g1)
  (some [(.i .i64 x2),(.i .i64 v10)]))))))=ρ):bK.j2 x0 x1 x2 x3 x4=ρ:=((cp _ _ _ _ _ _ _).trans (by kernel_rfl)).trans (K _ rfl _ rfl _ rfl _ rfl _ rfl _ rfl _ rfl _ rfl _ rfl _ rfl)
theorem bK.G0 (x0:List UInt8) (x1:Int) (x2:Int) (x3:Int) (x4:Int) (x5:Int) {ρ:OT} (K:∀(v1:UInt8) (h1:v1=(List.getD x0 ((IntKind.i64.wrap (x1+x5))).toNat (0:UInt8))) (v2:Bool) (h2:v2=(!decide ((v1 &&& (192:UInt8))=(128:UInt8)))) (v3:Int) (h3:v3=(IntKind.i64.wrap (x2 * 2 ^ (min (((6:UInt64)).toNat) (IntKind.i64.bits))))) (v4:Int) (h4:v4=(IntKind.i64.wrap (((v1 &&& (63:UInt8))).toNat:Int))) (v5:Int) (h5:v5=(IntKind.i64.wrap (x5+(1:Int)))) (v6:Bool) (h6:v6=(cond (decide (x2<x4)) true (!(fR.nM x2)))) (v7:Int) (h7:v7=(IntKind.i64.wrap (x3+(1:Int)))),cond (decide (x5≤x3))
  (ck (bD (IntKind.i64.wrap (x1+x5)) (x0).length) (cond v2
  (bK.g1)
  (ck (bD (IntKind.i64.wrap (x1+x5)) (x0).length) (bK.g3 x0 x1 (cU .or .i64 v3 v4) x3 x4 v5))))
  (ck (!(!(decide (x2<x4))) || (!(decide (x2<x4)))) (ck (!(!(decide (x2<x4))) || (!(decide (x2<x4)))) (ck ((decide (x2<x4)) || (!(decide (x2<x4)))) (cond v6
  (bK.g1)
  (some [(.i .i64 x2),(.i .i64 v7)])))))=ρ):bK.g3 x0 x1 x2 x3 x4 x5=ρ:=((wg _ _ _ _ _ _ _ _).trans (by kernel_rfl)).trans (K _ rfl _ rfl _ rfl _ rfl _ rfl _ rfl _ rfl)
theorem bK.bY (b:List UInt8) (at_:Int) {ρ:OT} (K:∀(v1:Bool) (h1:v1=(cond (decide (at_<(0:Int))) true (decide (((b).length:Int)≤at_)))) (v2:UInt8) (h2:v2=(List.getD b (at_).toNat (0:UInt8))) (v3:Int) (h3:v3=(IntKind.i64.wrap ((v2).toNat:Int))) (v4:Bool) (h4:v4=(cond (decide ((192:Int)≤v3)) (decide (v3<(224:Int))) false)) (v5:Int) (h5:v5=(cU .and .i64 v3 (31:Int))) (v6:Bool) (h6:v6=(cond (decide ((224:Int)≤v3)) (decide (v3<(240:Int))) false)) (v7:Int) (h7:v7=(cU .and .i64 v3 (15:Int))) (v8:Bool) (h8:v8=(cond (decide ((240:Int)≤v3)) (decide (v3<(248:Int))) false)) (v9:Int) (h9:v9=(cU .and .i64 v3 (7:Int))),ck (!(!(decide (at_<(0:Int)))) || (!(decide (at_<(0:Int))))) (ck (!(!(decide (at_<(0:Int)))) || ((!(decide (at_<(0:Int))))&&(!(decide (at_<(0:Int)))))) (ck ((decide (at_<(0:Int))) || (!(decide (at_<(0:Int))))) (cond v1
  (bK.g1)
  (ck (bD at_ (b).length) (cond (decide (v3<(128:Int)))
  (some [(.i .i64 v3),(.i .i64 1)])
  (ck (!(decide ((192:Int)≤v3)) || (decide ((192:Int)≤v3))) (ck (!(decide ((192:Int)≤v3)) || (decide ((192:Int)≤v3))) (cond v4
  (bK.j2 b at_ v5 (1:Int) (128:Int))
  (ck (!(decide ((224:Int)≤v3)) || (decide ((224:Int)≤v3))) (ck (!(decide ((224:Int)≤v3)) || (decide ((224:Int)≤v3))) (cond v6
  (bK.j2 b at_ v7 (2:Int) (2048:Int))
  (ck (!(decide ((240:Int)≤v3)) || (decide ((240:Int)≤v3))) (ck (!(decide ((240:Int)≤v3)) || (decide ((240:Int)≤v3))) (cond v8
  (bK.j2 b at_ v9 (3:Int) (65536:Int))
  (bK.g1)))))))))))))))=ρ):bK.F b at_=ρ:=Eq.trans (by kernel_rfl) (K _ rfl _ rfl _ rfl _ rfl _ rfl _ rfl _ rfl _ rfl _ rfl)
def cE.E:cr:=cL fC zs [(170,(bK.c,bK.sg))]
def cE.h:Hint := .s .o (.j (sc [2,3]) (.b (.l (sc [0,2,3]) .o)) .o)
def cE.F (b:List UInt8):OT:=cI PG cE.E 129 cE.sg cE.h [(.sl .bs b)]
def cE.l1 (x0:List UInt8) (x1:Int) (x2:Int):OT:=dL PG cE.E 129 cE.sg cE.h 9 [(.sl .bs x0),(.i .i64 x1),(.i .i64 x2)]
def cE.j2 (x0:Int) (x1:Int):OT:=eD PG cE.E 129 cE.sg cE.h 3 [(.i .i64 x0),(.i .i64 x1)]
theorem cE.bX (x0:List UInt8) (x1:Int) (x2:Int) {ρ:OT} (K:∀(v1:Int) (h1:v1=(IntKind.i64.wrap (x1+((fR.ny x0 x1).2)))) (v2:Int) (h2:v2=(IntKind.i64.wrap (x2+(1:Int)))),cond (decide (x1<((x0).length:Int)))
  (ck (decide (x0.length≤1099511627776)) (cond (decide (((fR.ny x0 x1).2)=(0:Int)))
  (cE.j2 x1 x2)
  (cE.l1 x0 v1 v2)))
  (cE.j2 x1 x2)=ρ):cE.l1 x0 x1 x2=ρ:=((bV _ _ _ _ _ _ _).trans (by kernel_rfl)).trans (K _ rfl _ rfl)
theorem cE.lf (x0:Int) (x1:Int):cE.j2 x0 x1=some [(.i .i64 x0),(.i .i64 x1)]:=((cp _ _ _ _ _ _ _).trans (by kernel_rfl))
theorem cE.dW (b:List UInt8):cE.F b=cE.l1 b (0:Int) (0:Int):=by kernel_rfl
def dX.E:cr:=cL fC zs [(129,(cE.c,cE.sg))]
def dX.h:Hint := .o
def dX.F (b:List UInt8):OT:=cI PG dX.E 97 dX.sg dX.h [(.sl .bs b)]
theorem dX.dW (b:List UInt8):dX.F b=ck (decide (b.length≤1099511627776)) (some [(.i .i64 (((fR.look b).1:Int))),(.b (decide ((((fR.look b).1:Int))=((b).length:Int))))]):=by kernel_rfl
def Y3.E:cr:=cL fC zs []
def Y3.h:Hint := .s .o (.s .o (.s .o (.s .o (.j (sc [0,1,7,8,9]) .o (.s .o (.s (.s .o (.b (.l (sc [0,1,7,8,9,10]) .o))) .o))))))
def Y3.F (b:List UInt8) (at_:Int):OT:=cI PG Y3.E 148 Y3.sg Y3.h [(.sl .bs b),(.i .i64 at_)]
def Y3.j1 (x0:List UInt8) (x1:Int) (x2:Int) (x3:Int) (x4:Int):OT:=eD PG Y3.E 148 Y3.sg Y3.h 31 [(.sl .bs x0),(.i .i64 x1),(.i .i64 x2),(.i .i64 x3),(.i .i64 x4)]
def Y3.l2 (x0:List UInt8) (x1:Int) (x2:Int) (x3:Int) (x4:Int) (x5:Int):OT:=dL PG Y3.E 148 Y3.sg Y3.h 703 [(.sl .bs x0),(.i .i64 x1),(.i .i64 x2),(.i .i64 x3),(.i .i64 x4),(.i .i64 x5)]
theorem Y3.iR (x0:List UInt8) (x1:Int) (x2:Int) (x3:Int) (x4:Int) {ρ:OT} (K:∀(v1:Int) (h1:v1=(IntKind.i64.wrap (((x0).length:Int) - x1))),cond (decide (v1<x2))
  (some [(.i .i64 0),(.i .i64 0)])
  (Y3.l2 x0 x1 x2 x3 x4 (1:Int))=ρ):Y3.j1 x0 x1 x2 x3 x4=ρ:=((cp _ _ _ _ _ _ _).trans (by kernel_rfl)).trans (K _ rfl)
theorem Y3.iu (x0:List UInt8) (x1:Int) (x2:Int) (x3:Int) (x4:Int) (x5:Int) {ρ:OT} (K:∀(v1:UInt8) (h1:v1=(List.getD x0 ((IntKind.i64.wrap (x1+x5))).toNat (0:UInt8))) (v2:Int) (h2:v2=(IntKind.i64.wrap ((v1).toNat:Int))) (v3:Bool) (h3:v3=(cond (decide (v2<(128:Int))) true (decide ((192:Int)≤v2)))) (v4:Int) (h4:v4=(IntKind.i64.wrap (x3 * (64:Int)))) (v5:Int) (h5:v5=(IntKind.i64.wrap ((IntKind.i64.wrap (v4+v2)) - (128:Int)))) (v6:Int) (h6:v6=(IntKind.i64.wrap (x5+(1:Int)))) (v7:Bool) (h7:v7=(cond (decide (x3<x4)) true (decide ((1114111:Int)<x3)))) (v8:Bool) (h8:v8=((!v7)&&(decide ((55296:Int)≤x3)))) (v9:Bool) (h9:v9=(cond (decide ((55296:Int)≤x3)) (decide (x3≤(57343:Int))) false)),cond (decide (x5<x2))
  (ck (bD (IntKind.i64.wrap (x1+x5)) (x0).length) (ck (!(!(decide (v2<(128:Int)))) || (!(decide (v2<(128:Int))))) (ck ((decide (v2<(128:Int))) || (!(decide (v2<(128:Int))))) (cond v3
  (some [(.i .i64 0),(.i .i64 0)])
  (Y3.l2 x0 x1 x2 v5 x4 v6)))))
  (ck (!(!(decide (x3<x4))) || (!(decide (x3<x4)))) (ck ((decide (x3<x4)) || (!(decide (x3<x4)))) (ck (!(!v7) || (!v7)) (ck (!(!v7) || (!v7)) (ck (!v8 || v8) (ck (!(!v7) || ((!v7)&&(!(decide ((55296:Int)≤x3)) || v8))) (ck (v7 || (!v7)) (cond (cond v7 true v9)
  (some [(.i .i64 0),(.i .i64 0)])
  (some [(.i .i64 x3),(.i .i64 x2)])))))))))=ρ):Y3.l2 x0 x1 x2 x3 x4 x5=ρ:=((bV _ _ _ _ _ _ _).trans (by kernel_rfl)).trans (K _ rfl _ rfl _ rfl _ rfl _ rfl _ rfl _ rfl _ rfl _ rfl)
theorem Y3.bY (b:List UInt8) (at_:Int) {ρ:OT} (K:∀(v1:Bool) (h1:v1=(cond (decide (at_<(0:Int))) true (decide (((b).length:Int)≤at_)))) (v2:UInt8) (h2:v2=(List.getD b (at_).toNat (0:UInt8))) (v3:Int) (h3:v3=(IntKind.i64.wrap ((v2).toNat:Int))) (v4:Bool) (h4:v4=(cond (decide ((192:Int)≤v3)) (decide (v3<(224:Int))) false)) (v5:Int) (h5:v5=(IntKind.i64.wrap (v3 - (192:Int)))) (v6:Bool) (h6:v6=(cond (decide ((224:Int)≤v3)) (decide (v3<(240:Int))) false)) (v7:Int) (h7:v7=(IntKind.i64.wrap (v3 - (224:Int)))) (v8:Bool) (h8:v8=(cond (decide ((240:Int)≤v3)) (decide (v3<(248:Int))) false)) (v9:Int) (h9:v9=(IntKind.i64.wrap (v3 - (240:Int)))),ck (!(!(decide (at_<(0:Int)))) || (!(decide (at_<(0:Int))))) (ck (!(!(decide (at_<(0:Int)))) || ((!(decide (at_<(0:Int))))&&(!(decide (at_<(0:Int)))))) (ck ((decide (at_<(0:Int))) || (!(decide (at_<(0:Int))))) (cond v1
  (some [(.i .i64 0),(.i .i64 0)])
  (ck (bD at_ (b).length) (cond (decide (v3<(128:Int)))
  (some [(.i .i64 v3),(.i .i64 1)])
  (ck (!(decide ((192:Int)≤v3)) || (decide ((192:Int)≤v3))) (ck (!(decide ((192:Int)≤v3)) || (decide ((192:Int)≤v3))) (cond v4
  (Y3.j1 b at_ (2:Int) v5 (128:Int))
  (ck (!(decide ((224:Int)≤v3)) || (decide ((224:Int)≤v3))) (ck (!(decide ((224:Int)≤v3)) || (decide ((224:Int)≤v3))) (cond v6
  (Y3.j1 b at_ (3:Int) v7 (2048:Int))
  (ck (!(decide ((240:Int)≤v3)) || (decide ((240:Int)≤v3))) (ck (!(decide ((240:Int)≤v3)) || (decide ((240:Int)≤v3))) (cond v8
  (Y3.j1 b at_ (4:Int) v9 (65536:Int))
  (some [(.i .i64 0),(.i .i64 0)])))))))))))))))=ρ):Y3.F b at_=ρ:=Eq.trans (by kernel_rfl) (K _ rfl _ rfl _ rfl _ rfl _ rfl _ rfl _ rfl _ rfl _ rfl)
def Y6.E:cr:=cL fC zs [(148,(Y3.c,Y3.sg))]
def Y6.h:Hint := .s .o (.s (.s .o (.b (.l (sc [0,4]) .o))) .o)
def Y6.F (b:List UInt8):OT:=cI PG Y6.E 114 Y6.sg Y6.h [(.sl .bs b)]
def Y6.l1 (x0:List UInt8) (x1:Int):OT:=dL PG Y6.E 114 Y6.sg Y6.h 21 [(.sl .bs x0),(.i .i64 x1)]
theorem Y6.bX (x0:List UInt8) (x1:Int) {ρ:OT} (K:∀(v1:Int) (h1:v1=(IntKind.i64.wrap (x1+((fR.ny x0 x1).2)))),cond (decide (x1<((x0).length:Int)))
  (ck (decide (x0.length≤1099511627776)) (cond (decide (((fR.ny x0 x1).2)=(0:Int)))
  (some [(.i .i64 x1),(.b false)])
  (Y6.l1 x0 v1)))
  (some [(.i .i64 ((x0).length:Int)),(.b true)])=ρ):Y6.l1 x0 x1=ρ:=((bV _ _ _ _ _ _ _).trans (by kernel_rfl)).trans (K _ rfl)
theorem Y6.dW (b:List UInt8):Y6.F b=Y6.l1 b (0:Int):=by kernel_rfl
def Ln.E:cr:=cL fC zs [(114,(Y6.c,Y6.sg))]
def Ln.h:Hint := .o
def Ln.F (s:bz):OT:=cI PG Ln.E 83 Ln.sg Ln.h [(.s s)]
theorem Ln.dW (s:bz):Ln.F s=ck (so (s).length) (ck (decide (s.length≤1099511627776)) (some [(.b (fR.whole s))])):=by kernel_rfl
def Y8.E:cr:=cL fC zs []
def Y8.h:Hint := .s .o (.s (.s .o (.b (.l (sc [0,3]) .o))) .o)
def Y8.F (s:bz):OT:=cI PG Y8.E 87 Y8.sg Y8.h [(.s s)]
def Y8.l1 (x0:bz) (x1:Int):OT:=dL PG Y8.E 87 Y8.sg Y8.h 21 [(.s x0),(.i .i64 x1)]
theorem Y8.bX (x0:bz) (x1:Int) {ρ:OT} (K:∀(v1:UInt8) (h1:v1=(List.getD x0 (x1).toNat (0:UInt8))) (v2:Int) (h2:v2=(IntKind.i64.wrap (x1+(1:Int)))),cond (decide (x1<((x0).length:Int)))
  (ck (bD x1 (x0).length) (cond (decide (v1=(0:UInt8)))
  (some [(.b true)])
  (Y8.l1 x0 v2)))
  (some [(.b false)])=ρ):Y8.l1 x0 x1=ρ:=((bV _ _ _ _ _ _ _).trans (by kernel_rfl)).trans (K _ rfl _ rfl)
theorem Y8.dW (s:bz):Y8.F s=Y8.l1 s (0:Int):=by kernel_rfl
def cT.E:cr:=cL fC zs []
def cT.h:Hint := .o
def cT.F (s:bz) (c:UInt8):OT:=cI PG cT.E 183 cT.sg cT.h [(.s s),(.u8 c)]
theorem cT.dW (s:bz) (c:UInt8):cT.F s c=some [(.i .i64 (Lib.indexByte s c))]:=by kernel_rfl
def fF.E:cr:=cL fC zs [(183,(cT.c,cT.sg))]
def fF.h:Hint := .o
def fF.F (s:bz) (t:bz):OT:=cI PG fF.E 171 fF.sg fF.h [(.s s),(.s t)]
theorem fF.bY (s:bz) (t:bz) {ρ:OT} (K:∀(v1:Bool) (h1:v1=(cond (decide (((t).length:Int)=(0:Int))) true (decide (t=s)))) (v2:UInt8) (h2:v2=(List.getD t ((0:Int)).toNat (0:UInt8))),ck (!(!(decide (((t).length:Int)=(0:Int)))) || ((!(decide (((t).length:Int)=(0:Int))))&&(!(decide (((t).length:Int)=(0:Int)))))) (ck ((decide (((t).length:Int)=(0:Int))) || (!(decide (((t).length:Int)=(0:Int))))) (cond v1
  (some [(.i .i64 0)])
  (cond (decide (((t).length:Int)=(1:Int)))
  (ck (bD (0:Int) (t).length) (some [(.i .i64 (Lib.indexByte s v2))]))
  (cond (decide (((s).length:Int)≤((t).length:Int)))
  (some [(.i .i64 (-1))])
  (none)))))=ρ):fF.F s t=ρ:=Eq.trans (by kernel_rfl) (K _ rfl _ rfl)
def fE.E:cr:=cL fC zs [(171,(fF.c,fF.sg))]
def fE.h:Hint := .o
def fE.F (s:bz) (t:bz):OT:=cI PG fE.E 130 fE.sg fE.h [(.s s),(.s t)]
theorem fE.bY (s:bz) (t:bz) {ρ:OT} (K:∀(v1:Int) (h1:v1=(Lib.indexByte s (t.getD 0 0))),ck (decide (t.length=1)) (some [(.i .i64 v1)])=ρ):fE.F s t=ρ:=Eq.trans (by kernel_rfl) (K _ rfl)
def dF.E:cr:=cL fC zs [(130,(fE.c,fE.sg))]
def dF.h:Hint := .o
def dF.F (s:bz) (t:bz):OT:=cI PG dF.E 98 dF.sg dF.h [(.s s),(.s t)]
theorem dF.bY (s:bz) (t:bz) {ρ:OT} (K:∀(v1:Int) (h1:v1=(Lib.indexByte s (t.getD 0 0))),ck (decide (t.length=1)) (some [(.b (decide ((0:Int)≤v1)))])=ρ):dF.F s t=ρ:=Eq.trans (by kernel_rfl) (K _ rfl)
def fg.E:cr:=cL fC zs []
def fg.h:Hint := .o
def fg.F (l:List Int):OT:=cI PG fg.E 59 fg.sg fg.h [(.sl .is l)]
theorem fg.dW (l:List Int):fg.F l=cond (List.isEmpty l)
  (both (some [(.sl .is ([]:List Int)),(.sl .is l)]) (ck (fi ((([]:List Int)).length+(l).length) 8) (some [(.sl .is (([]:List Int)++l)),(.sl .is l)])))
  (ck (fi ((([]:List Int)).length+(l).length) 8) (some [(.sl .is (([]:List Int)++l)),(.sl .is l)])):=by kernel_rfl
def eO.E:cr:=cL fC zs []
def eO.h:Hint := .o
def eO.F (k:Int):OT:=cI PG eO.E 58 eO.sg eO.h [(.i .i64 k)]
theorem eO.bY (k:Int) {ρ:OT} (K:∀(v1:Bool) (h1:v1=(cond (decide (k<(0:Int))) true (decide ((20:Int)≤k)))) (v2:bz) (h2:v2=(List.getD [([]:bz),([100,111,117,98,108,101]:bz),([115,116,114,105,110,103]:bz),([100,111,99,117,109,101,110,116]:bz),([97,114,114,97,121]:bz),([98,105,110,97,114,121]:bz),([117,110,100,101,102,105,110,101,100]:bz),([111,98,106,101,99,116,105,100]:bz),([98,111,111,108]:bz),([100,97,116,101]:bz),([110,117,108,108]:bz),([114,101,103,101,120]:bz),([112,111,105,110,116,101,114]:bz),([99,111,100,101]:bz),([115,121,109,98,111,108]:bz),([115,99,111,112,101,100]:bz),([105,110,116,51,50]:bz),([116,105,109,101,115,116,97,109,112]:bz),([105,110,116,54,52]:bz),([100,101,99,105,109,97,108]:bz)] ((k).toNat) ([]:bz))),cond (decide (k=(127:Int)))
  (some [(.s ([109,97,120,107,101,121]:bz))])
  (cond (decide (k=(255:Int)))
  (some [(.s ([109,105,110,107,101,121]:bz))])
  (ck (!(!(decide (k<(0:Int)))) || (!(decide (k<(0:Int))))) (ck ((decide (k<(0:Int))) || (!(decide (k<(0:Int))))) (cond v1
  (some [(.s [])])
  (ck (bD k 20) (ck (decide ((k).toNat<20)) (some [(.s v2)])))))))=ρ):eO.F k=ρ:=Eq.trans (by kernel_rfl) (K _ rfl _ rfl)
def bB.E:cr:=cL fC zs []
def bB.h:Hint := .s .o (.s .o (.j [(1,.ptr 116 0),(3,.no),(116,.cl [])] (.s .o (.b (.j [(1,.ptr 116 0),(3,.no),(5,.no),(6,.no),(116,.cl [])] .o (.s .o (.s .o (.s .o (.s .o (.s .o (.s .o (.s .o (.j [(1,.ptr 116 0),(3,.no),(5,.no),(28,.no),(116,.cl [])] .o (.s .o (.s .o (.s .o (.s .o (.s .o (.s .o (.s .o (.s .o (.s .o (.j [(1,.ptr 116 0),(3,.no),(5,.no),(64,.no),(116,.cl [])] .o .o))))))))))))))))))))) .o))
def bB.F (v:Val):OT:=cI PG bB.E 60 bB.sg bB.h [(.ag (Val.cells v))]
def bB.j1 (x0:Bool) (x1:Int) (x2:Bool) (x3:Val):OT:=eD PG bB.E 60 bB.sg bB.h 43 [.pt,(.b x0),(.i .i64 x1),(.b x2),(.ag (Val.cells x3))]
def bB.j2 (x0:Bool) (x1:Val):OT:=eD PG bB.E 60 bB.sg bB.h 7 [.pt,(.b x0),(.ag (Val.cells x1))]
def bB.j3 (x0:Bool) (x1:Int) (x2:Bool) (x3:Val):OT:=eD PG bB.E 60 bB.sg bB.h 16363 [.pt,(.b x0),(.i .i64 x1),(.b x2),(.ag (Val.cells x3))]
def bB.j4 (x0:Bool) (x1:Int) (x2:Bool) (x3:Val):OT:=eD PG bB.E 60 bB.sg bB.h 16777195 [.pt,(.b x0),(.i .i64 x1),(.b x2),(.ag (Val.cells x3))]
theorem bB.lg (x0:Bool) (x1:Int) (x2:Bool) (x3:Val):bB.j1 x0 x1 x2 x3=cond x2
  (bB.j2 x0 (Val.mk (Val.kind x3) 0 (Val.high x3) (Val.low x3) (Val.text x3) (Val.more x3) (Val.sub x3) (Val.bytes x3) (Val.kids x3)))
  (cond (decide (x1=(16:Int)))
  (bB.j2 (decide ((Val.bits x3)<(4294967296:UInt64))) (Val.mk (Val.kind x3) 0 (Val.high x3) (Val.low x3) (Val.text x3) (Val.more x3) (Val.sub x3) (Val.bytes x3) (Val.kids x3)))
  (cond (decide (x1=(8:Int)))
  (bB.j2 (decide ((Val.bits x3)<(2:UInt64))) (Val.mk (Val.kind x3) 0 (Val.high x3) (Val.low x3) (Val.text x3) (Val.more x3) (Val.sub x3) (Val.bytes x3) (Val.kids x3)))
  (cond (decide (x1=(19:Int)))
  (bB.j2 x0 (Val.mk (Val.kind x3) (Val.bits x3) 0 0 (Val.text x3) (Val.more x3) (Val.sub x3) (Val.bytes x3) (Val.kids x3)))
  (cond (decide (x1=(2:Int)))
  (bB.j3 x0 x1 (decide (x1=(2:Int))) x3)
  (cond (decide (x1=(13:Int)))
  (bB.j3 x0 x1 (decide (x1=(13:Int))) x3)
  (bB.j3 x0 x1 (decide (x1=(14:Int))) x3)))))):=((cp _ _ _ _ _ _ _).trans (by kernel_rfl))
theorem bB.jx (x0:Bool) (x1:Val) {ρ:OT} (K:∀(v1:Bool) (h1:v1=(cond x0 (decide ((Val.bits x1)=(0:UInt64))) false)) (v2:Bool) (h2:v2=(cond v1 (decide ((Val.high x1)=(0:UInt64))) false)) (v3:Bool) (h3:v3=(cond v2 (decide ((Val.low x1)=(0:UInt64))) false)) (v4:Bool) (h4:v4=(cond v3 (decide ((Val.text x1)=([]:bz))) false)) (v5:Bool) (h5:v5=(cond v4 (decide ((Val.more x1)=([]:bz))) false)) (v6:Bool) (h6:v6=(cond v5 (decide ((Val.sub x1)=(0:Int))) false)) (v7:Int) (h7:v7=(((Val.bytes x1)).length:Int)) (v8:Bool) (h8:v8=(cond v6 (decide (v7=(0:Int))) false)) (v9:Int) (h9:v9=(((Val.kids x1)).length:Int)) (v10:Bool) (iS:v10=(cond v8 (decide (v9=(0:Int))) false)),ck (!x0 || x0) (ck (!x0 || x0) (ck (!x0 || x0) (ck (!v1 || v1) (ck (!v1 || v1) (ck (!v1 || v1) (ck (!v2 || v2) (ck (!v2 || v2) (ck (!v2 || v2) (ck (!v3 || v3) (ck (!v3 || v3) (ck (!v3 || v3) (ck (!v4 || v4) (ck (!v4 || v4) (ck (!v4 || v4) (ck (!v5 || v5) (ck (!v5 || v5) (ck (!v5 || v5) (ck (!v6 || v6) (ck (!v6 || v6) (ck (!v6 || v6) (ck (!v6 || v6) (ck (!v8 || v8) (ck (!v8 || v8) (ck (!v8 || v8) (ck (!v8 || v8) (some [(.b v10)]))))))))))))))))))))))))))=ρ):bB.j2 x0 x1=ρ:=((cp _ _ _ _ _ _ _).trans (by kernel_rfl)).trans (K _ rfl _ rfl _ rfl _ rfl _ rfl _ rfl _ rfl _ rfl _ rfl _ rfl)
theorem bB.qw (x0:Bool) (x1:Int) (x2:Bool) (x3:Val) {ρ:OT} (K:∀(v1:Bool) (h1:v1=(cond (decide ((0:Int)≤(Val.sub x3))) (decide ((Val.sub x3)≤(255:Int))) false)) (v2:Int) (h2:v2=(((Val.bytes x3)).length:Int)),cond x2
  (bB.j2 x0 (Val.mk (Val.kind x3) (Val.bits x3) (Val.high x3) (Val.low x3) [] (Val.more x3) (Val.sub x3) (Val.bytes x3) (Val.kids x3)))
  (cond (decide (x1=(11:Int)))
  (bB.j2 x0 (Val.mk (Val.kind x3) (Val.bits x3) (Val.high x3) (Val.low x3) [] [] (Val.sub x3) (Val.bytes x3) (Val.kids x3)))
  (cond (decide (x1=(5:Int)))
  (ck (!(decide ((0:Int)≤(Val.sub x3))) || (decide ((0:Int)≤(Val.sub x3)))) (ck (!(decide ((0:Int)≤(Val.sub x3))) || (decide ((0:Int)≤(Val.sub x3)))) (ck (!(decide ((0:Int)≤(Val.sub x3))) || (decide ((0:Int)≤(Val.sub x3)))) (bB.j2 v1 (Val.mk (Val.kind x3) (Val.bits x3) (Val.high x3) (Val.low x3) (Val.text x3) (Val.more x3) 0 [] (Val.kids x3))))))
  (cond (decide (x1=(7:Int)))
  (bB.j2 (decide (v2=(12:Int))) (Val.mk (Val.kind x3) (Val.bits x3) (Val.high x3) (Val.low x3) (Val.text x3) (Val.more x3) (Val.sub x3) [] (Val.kids x3)))
  (cond (decide (x1=(12:Int)))
  (bB.j2 (decide (v2=(12:Int))) (Val.mk (Val.kind x3) (Val.bits x3) (Val.high x3) (Val.low x3) [] (Val.more x3) (Val.sub x3) [] (Val.kids x3)))
  (cond (decide (x1=(3:Int)))
  (bB.j4 x0 x1 (decide (x1=(3:Int))) x3)
  (bB.j4 x0 x1 (decide (x1=(4:Int))) x3))))))=ρ):bB.j3 x0 x1 x2 x3=ρ:=((cp _ _ _ _ _ _ _).trans (by kernel_rfl)).trans (K _ rfl _ rfl)
theorem bB.wi (x0:Bool) (x1:Int) (x2:Bool) (x3:Val):bB.j4 x0 x1 x2 x3=cond x2
  (bB.j2 x0 (Val.mk (Val.kind x3) (Val.bits x3) (Val.high x3) (Val.low x3) (Val.text x3) (Val.more x3) (Val.sub x3) (Val.bytes x3) []))
  (cond (decide (x1=(15:Int)))
  (bB.j2 x0 (Val.mk (Val.kind x3) (Val.bits x3) (Val.high x3) (Val.low x3) [] (Val.more x3) (Val.sub x3) (Val.bytes x3) []))
  (bB.j2 x0 x3)):=((cp _ _ _ _ _ _ _).trans (by kernel_rfl))
theorem bB.dW (v:Val):bB.F v=cond (decide ((Val.kind v)=(1:Int)))
  (bB.j1 true (Val.kind v) (decide ((Val.kind v)=(1:Int))) v)
  (cond (decide ((Val.kind v)=(9:Int)))
  (bB.j1 true (Val.kind v) (decide ((Val.kind v)=(9:Int))) v)
  (cond (decide ((Val.kind v)=(17:Int)))
  (bB.j1 true (Val.kind v) (decide ((Val.kind v)=(17:Int))) v)
  (bB.j1 true (Val.kind v) (decide ((Val.kind v)=(18:Int))) v))):=by kernel_rfl
def dU.E:cr:=cL fC zs [(97,(dX.c,dX.sg)),(98,(dF.c,dF.sg))]
def dU.h:Hint := .o
def dU.F (s:bz) (plain:Bool):OT:=cI PG dU.E 61 dU.sg dU.h [(.s s),(.b plain)]
theorem dU.bY (s:bz) (plain:Bool) {ρ:OT} (K:∀(v1:Bool) (h1:v1=(cond plain (decide (0≤Lib.indexByte s ((([0]:bz)).getD 0 0))) false)) (v2:Bool) (h2:v2=(cond (fR.whole s) (!v1) false)),ck (so (s).length) (ck (decide (s.length≤1099511627776)) (ck (!(fR.whole s) || (fR.whole s)) (ck (!((fR.whole s)&&plain) || (((fR.whole s)&&plain)&&(decide ((([0]:bz)).length=1)))) (ck (!(fR.whole s) || ((fR.whole s)&&(!plain || ((fR.whole s)&&plain)))) (ck (!(fR.whole s) || (fR.whole s)) (ck (!(fR.whole s) || (fR.whole s)) (some [(.b v2)])))))))=ρ):dU.F s plain=ρ:=Eq.trans (by kernel_rfl) (K _ rfl _ rfl)
def b9.E (n:Nat):cr:=cL fC zs [(41,(b9.cn n,b9.sg)),(58,(eO.c,eO.sg)),(59,(fg.c,fg.sg)),(60,(bB.c,bB.sg)),(61,(dU.c,dU.sg))] [139]
def b9.h:Hint := .s .o (.s .o (.s .o (.s (.s .o (.b (.l [(2,.fB 1000002),(50,.no),(51,.no),(52,.no),(1000002,.pv)] .o))) .o)))
def b9.F (n:Nat) (v:Val) (name:bz) (path:List Int):OT:=cI PG (b9.E n) 41 b9.sg b9.h [(.ag (Val.cells v)),(.s name),(.sl .is path)]
def b9.l1 (n:Nat) (x0:List bA) (x1:Int) (x2:Int) (x3:List Int):OT:=dL PG (b9.E n) 41 b9.sg b9.h 87 [.pt,(.sl .fl x0),(.i .i64 x1),(.i .i64 x2),(.sl .is x3)]
theorem b9.bX (n:Nat) (x0:List bA) (x1:Int) (x2:Int) (x3:List Int) {ρ:OT} (K:∀(v1:bA) (h1:v1=(List.getD x0 (x2).toNat (fx.gm .fl))) (v2:List Int) (h2:v2=((Tree.gQ (bA.of ((bA.name v1)) (bA.val v1)) ((x3++([x2]:List Int)))).1)) (v3:Int) (h3:v3=((Tree.gQ (bA.of ((bA.name v1)) (bA.val v1)) ((x3++([x2]:List Int)))).2)) (v4:Int) (h4:v4=(IntKind.i64.wrap (x2+(1:Int)))),cond (decide (x2<x1))
  (ck (bD x2 (x0).length) (ck (fi ((x3).length+(([x2]:List Int)).length) 8) (ck ((decide (bA.bJ (bA.of ((bA.name v1)) (bA.val v1))+((x3++([x2]:List Int))).length≤1099511627776))&&decide ((bA.bJ (bA.of ((bA.name v1)) (bA.val v1)))<n)) (cond (!decide (v3=(0:Int)))
  (some [(.sl .is v2),(.i .i64 v3),(.sl .is x3)])
  (b9.l1 n x0 x1 v4 x3)))))
  (some [(.sl .is ([]:List Int)),(.i .i64 0),(.sl .is x3)])=ρ):b9.l1 n x0 x1 x2 x3=ρ:=((bV _ _ _ _ _ _ _).trans (by kernel_rfl)).trans (K _ rfl _ rfl _ rfl _ rfl)
theorem b9.bY (n:Nat) (v:Val) (name:bz) (path:List Int) {ρ:OT} (K:∀(v1:Bool) (h1:v1=(Tree.fZ ((Val.text v)) ((decide ((Val.kind v)=(11:Int)))))) (v2:Bool) (h2:v2=(Tree.fZ ((Val.more v)) ((decide ((Val.kind v)=(11:Int)))))) (v3:Bool) (h3:v3=(cond (cond (!v1) true (!v2)) true (!(Tree.fZ name true)))) (v4:Int) (h4:v4=(((Val.kids v)).length:Int)),cond (decide ((Tree.name ((Val.kind v)))=([]:bz)))
  (ck (fi (path).length 8) (some [(.sl .is (path)),(.i .i64 5),(.sl .is path)]))
  (cond (!(Tree.gW v))
  (ck (fi (path).length 8) (some [(.sl .is (path)),(.i .i64 1),(.sl .is path)]))
  (ck (decide (((Val.text v)).length≤1099511627776)) (ck (!(!(!v1)) || (!(!v1))) (ck (!(!(!v1)) || (((!(!v1))&&(!(!v1)))&&(decide (((Val.more v)).length≤1099511627776)))) (ck (!(!(!v1)) || (!(!v1))) (ck ((!v1) || (!(!v1))) (ck (!(!(cond (!v1) true (!v2))) || ((!(cond (!v1) true (!v2)))&&(decide (name.length≤1099511627776)))) (ck (!(!(cond (!v1) true (!v2))) || (!(cond (!v1) true (!v2)))) (ck ((cond (!v1) true (!v2)) || (!(cond (!v1) true (!v2)))) (cond v3
  (ck (fi (path).length 8) (some [(.sl .is (path)),(.i .i64 4),(.sl .is path)]))
  (b9.l1 n (Val.kids v) v4 (0:Int) path)))))))))))=ρ):b9.F n v name path=ρ:=Eq.trans (by kernel_rfl) (K _ rfl _ rfl _ rfl _ rfl)
def dC.E:cr:=cL fC zs [(41,(b9.c,b9.sg))]
def dC.h:Hint := .o
def dC.F (v:Val):OT:=cI PG dC.E 25 dC.sg dC.h [(.ag (Val.cells v))]
theorem dC.bY (v:Val) {ρ:OT} (K:∀(v1:List Int) (h1:v1=((Tree.gQ (bA.of (([]:bz)) v) (([]:List Int))).1)) (v2:Int) (h2:v2=((Tree.gQ (bA.of (([]:bz)) v) (([]:List Int))).2)),ck (decide (bA.bJ (bA.of (([]:bz)) v)+(([]:List Int)).length≤1099511627776)) (some [(.sl .is v1),(.i .i64 v2)])=ρ):dC.F v=ρ:=Eq.trans (by kernel_rfl) (K _ rfl _ rfl)
def fQ.E:cr:=cL fC zs []
def fQ.h:Hint := .o
def fQ.F (a:List UInt8) (b:List UInt8):OT:=cI PG fQ.E 128 fQ.sg fQ.h [(.sl .bs a),(.sl .bs b)]
theorem fQ.dW (a:List UInt8) (b:List UInt8):fQ.F a b=some [(.b (decide (a=b)))]:=by kernel_rfl
def Ke.E:cr:=cL fC zs []
def Ke.h:Hint := .o
def Ke.F  : OT:=cI PG Ke.E 115 Ke.sg Ke.h []
theorem Ke.bY  {ρ:OT} (K:∀(v1:List Int) (h1:v1=([(1:Int),(2:Int),(3:Int),(4:Int),(5:Int),(6:Int),(7:Int),(8:Int),(9:Int),(10:Int),(11:Int),(12:Int),(13:Int),(14:Int),(15:Int),(16:Int),(17:Int),(18:Int),(19:Int),(127:Int),(255:Int)]:List Int)),some [(.sl .is v1)]=ρ):Ke.F  = ρ:=Eq.trans (by kernel_rfl) (K _ rfl)
def Y7.E:cr:=cL fC zs [(115,(Ke.c,Ke.sg))]
def Y7.h:Hint := .s .o (.s .o (.s .o (.s (.s .o (.b (.l [(0,.no),(3,.fB 800000),(800000,.pv),(4,.no),(5,.no)] .o))) .o)))
def Y7.F (k:Int):OT:=cI PG Y7.E 85 Y7.sg Y7.h [(.i .i64 k)]
def Y7.l1 (x0:Int) (x1:List bz) (x2:List Int) (x3:Int):OT:=dL PG Y7.E 85 Y7.sg Y7.h 87 [(.i .i64 x0),.pt,(.sl .ss x1),(.sl .is x2),(.i .i64 x3)]
theorem Y7.bX (x0:Int) (x1:List bz) (x2:List Int) (x3:Int) {ρ:OT} (K:∀(v1:Int) (h1:v1=(List.getD x2 (x3).toNat (0:Int))) (v2:bz) (h2:v2=(List.getD x1 ((x3).toNat) ([]:bz))) (v3:Int) (h3:v3=(IntKind.i64.wrap (x3+(1:Int)))),cond (decide (x3<((x2).length:Int)))
  (ck (bD x3 (x2).length) (cond (decide (v1=x0))
  (ck (bD x3 (x1).length) (ck (decide ((x3).toNat<(x1).length)) (some [(.s v2)])))
  (Y7.l1 x0 x1 x2 v3)))
  (some [(.s [])])=ρ):Y7.l1 x0 x1 x2 x3=ρ:=((bV _ _ _ _ _ _ _).trans (by kernel_rfl)).trans (K _ rfl _ rfl _ rfl)
theorem Y7.bY (k:Int) {ρ:OT} (K:∀(v1:List bz) (h1:v1=([([100,111,117,98,108,101]:bz),([115,116,114,105,110,103]:bz),([100,111,99,117,109,101,110,116]:bz),([97,114,114,97,121]:bz),([98,105,110,97,114,121]:bz),([117,110,100,101,102,105,110,101,100]:bz),([111,98,106,101,99,116,105,100]:bz),([98,111,111,108]:bz),([100,97,116,101]:bz),([110,117,108,108]:bz),([114,101,103,101,120]:bz),([112,111,105,110,116,101,114]:bz),([99,111,100,101]:bz),([115,121,109,98,111,108]:bz),([115,99,111,112,101,100]:bz),([105,110,116,51,50]:bz),([116,105,109,101,115,116,97,109,112]:bz),([105,110,116,54,52]:bz),([100,101,99,105,109,97,108]:bz),([109,97,120,107,101,121]:bz),([109,105,110,107,101,121]:bz)]:List bz)),Y7.l1 k v1 (Tree.kinds) (0:Int)=ρ):Y7.F k=ρ:=Eq.trans (by kernel_rfl) (K _ rfl)
def Y0.E:cr:=cL fC zs []
def Y0.h:Hint := .s .o (.j (sc [2,3,4,5,6,7,8]) (.s .o (.b (.j (sc [2,3,4,5,6,7,8,9,10]) .o (.s .o (.s .o (.s .o (.j (sc [2,3,4,5,6,7,8,9,19]) .o (.s .o (.s .o (.s .o (.s .o (.s .o (.s .o (.s .o (.s .o (.s .o (.j (sc [2,3,4,5,6,7,8,9,31]) .o .o))))))))))))))))) .o)
def Y0.F (k:Int):OT:=cI PG Y0.E 86 Y0.sg Y0.h [(.i .i64 k)]
def Y0.j1 (x0:Bool) (x1:Bool) (x2:Bool) (x3:Bool) (x4:Bool) (x5:Bool) (x6:Bool) (x7:Int) (x8:Bool):OT:=eD PG Y0.E 86 Y0.sg Y0.h 21 [(.b x0),(.b x1),(.b x2),(.b x3),(.b x4),(.b x5),(.b x6),(.i .i64 x7),(.b x8)]
def Y0.j2 (x0:Bool) (x1:Bool) (x2:Bool) (x3:Bool) (x4:Bool) (x5:Bool) (x6:Bool):OT:=eD PG Y0.E 86 Y0.sg Y0.h 3 [(.b x0),(.b x1),(.b x2),(.b x3),(.b x4),(.b x5),(.b x6)]
def Y0.j3 (x0:Bool) (x1:Bool) (x2:Bool) (x3:Bool) (x4:Bool) (x5:Bool) (x6:Bool) (x7:Int) (x8:Bool):OT:=eD PG Y0.E 86 Y0.sg Y0.h 501 [(.b x0),(.b x1),(.b x2),(.b x3),(.b x4),(.b x5),(.b x6),(.i .i64 x7),(.b x8)]
def Y0.j4 (x0:Bool) (x1:Bool) (x2:Bool) (x3:Bool) (x4:Bool) (x5:Bool) (x6:Bool) (x7:Int) (x8:Bool):OT:=eD PG Y0.E 86 Y0.sg Y0.h 524277 [(.b x0),(.b x1),(.b x2),(.b x3),(.b x4),(.b x5),(.b x6),(.i .i64 x7),(.b x8)]
theorem Y0.lg (x0:Bool) (x1:Bool) (x2:Bool) (x3:Bool) (x4:Bool) (x5:Bool) (x6:Bool) (x7:Int) (x8:Bool):Y0.j1 x0 x1 x2 x3 x4 x5 x6 x7 x8=cond x8
  (Y0.j2 true x1 x2 x3 x4 x5 x6)
  (cond (decide (x7=(19:Int)))
  (Y0.j2 x0 true x2 x3 x4 x5 x6)
  (cond (decide (x7=(2:Int)))
  (Y0.j3 x0 x1 x2 x3 x4 x5 x6 x7 (decide (x7=(2:Int))))
  (cond (decide (x7=(13:Int)))
  (Y0.j3 x0 x1 x2 x3 x4 x5 x6 x7 (decide (x7=(13:Int))))
  (Y0.j3 x0 x1 x2 x3 x4 x5 x6 x7 (decide (x7=(14:Int))))))):=((cp _ _ _ _ _ _ _).trans (by kernel_rfl))
theorem Y0.lf (x0:Bool) (x1:Bool) (x2:Bool) (x3:Bool) (x4:Bool) (x5:Bool) (x6:Bool):Y0.j2 x0 x1 x2 x3 x4 x5 x6=some [(.b x0),(.b x1),(.b x2),(.b x3),(.b x4),(.b x5),(.b x6)]:=((cp _ _ _ _ _ _ _).trans (by kernel_rfl))
theorem Y0.su (x0:Bool) (x1:Bool) (x2:Bool) (x3:Bool) (x4:Bool) (x5:Bool) (x6:Bool) (x7:Int) (x8:Bool):Y0.j3 x0 x1 x2 x3 x4 x5 x6 x7 x8=cond x8
  (Y0.j2 x0 x1 true x3 x4 x5 x6)
  (cond (decide (x7=(11:Int)))
  (Y0.j2 x0 x1 true true x4 x5 x6)
  (cond (decide (x7=(5:Int)))
  (Y0.j2 x0 x1 x2 x3 true true x6)
  (cond (decide (x7=(7:Int)))
  (Y0.j2 x0 x1 x2 x3 x4 true x6)
  (cond (decide (x7=(12:Int)))
  (Y0.j2 x0 x1 true x3 x4 true x6)
  (cond (decide (x7=(3:Int)))
  (Y0.j4 x0 x1 x2 x3 x4 x5 x6 x7 (decide (x7=(3:Int))))
  (Y0.j4 x0 x1 x2 x3 x4 x5 x6 x7 (decide (x7=(4:Int))))))))):=((cp _ _ _ _ _ _ _).trans (by kernel_rfl))
theorem Y0.wi (x0:Bool) (x1:Bool) (x2:Bool) (x3:Bool) (x4:Bool) (x5:Bool) (x6:Bool) (x7:Int) (x8:Bool):Y0.j4 x0 x1 x2 x3 x4 x5 x6 x7 x8=cond x8
  (Y0.j2 x0 x1 x2 x3 x4 x5 true)
  (cond (decide (x7=(15:Int)))
  (Y0.j2 x0 x1 true x3 x4 x5 true)
  (Y0.j2 x0 x1 x2 x3 x4 x5 x6)):=((cp _ _ _ _ _ _ _).trans (by kernel_rfl))
theorem Y0.dW (k:Int):Y0.F k=cond (decide (k=(1:Int)))
  (Y0.j1 false false false false false false false k (decide (k=(1:Int))))
  (cond (decide (k=(9:Int)))
  (Y0.j1 false false false false false false false k (decide (k=(9:Int))))
  (cond (decide (k=(17:Int)))
  (Y0.j1 false false false false false false false k (decide (k=(17:Int))))
  (cond (decide (k=(18:Int)))
  (Y0.j1 false false false false false false false k (decide (k=(18:Int))))
  (cond (decide (k=(16:Int)))
  (Y0.j1 false false false false false false false k (decide (k=(16:Int))))
  (Y0.j1 false false false false false false false k (decide (k=(8:Int)))))))):=by kernel_rfl
def Zf.E:cr:=cL fC zs [(83,(Ln.c,Ln.sg)),(85,(Y7.c,Y7.sg)),(86,(Y0.c,Y0.sg)),(87,(Y8.c,Y8.sg))]
def Zf.h:Hint := .o
def Zf.F (v:Val):OT:=cI PG Zf.E 48 Zf.sg Zf.h [(.ag (Val.cells v))]
theorem Zf.bY (v:Val) {ρ:OT} (K:∀(v1:Bool) (h1:v1=(!(Tree.nO 0 ((Val.kind v))))) (v2:Bool) (h2:v2=(cond v1 (!decide ((Val.bits v)=(0:UInt64))) false)) (v3:Bool) (h3:v3=(!(Tree.nO 1 ((Val.kind v))))) (v4:Bool) (h4:v4=(((!v2)&&v3)&&(!(!decide ((Val.high v)=(0:UInt64)))))) (v5:Bool) (h5:v5=(cond (!decide ((Val.high v)=(0:UInt64))) true (!decide ((Val.low v)=(0:UInt64))))) (v6:Bool) (h6:v6=(cond v2 true (cond v3 v5 false))) (v7:Bool) (h7:v7=(!(Tree.nO 2 ((Val.kind v))))) (v8:Bool) (h8:v8=(cond v7 (!decide ((Val.text v)=([]:bz))) false)) (v9:Bool) (h9:v9=(!(Tree.nO 3 ((Val.kind v))))) (v10:Bool) (iS:v10=(cond v9 (!decide ((Val.more v)=([]:bz))) false)) (v11:Bool) (kA:v11=(cond (cond v6 true v8) true v10)) (v12:Bool) (jM:v12=(!(Tree.nO 4 ((Val.kind v))))) (kq:Bool) (nr:kq=(cond v12 (!decide ((Val.sub v)=(0:Int))) false)) (jh:Bool) (oa:jh=(!(Tree.nO 5 ((Val.kind v))))) (jb:Bool) (nV:jb=((!(cond v11 true kq))&&jh)) (lA:Int) (sw:lA=(((Val.bytes v)).length:Int)) (tG:Bool) (zS:tG=(cond jh (decide ((0:Int)<lA)) false)) (tF:Bool) (wv:tF=(cond (cond v11 true kq) true tG)) (wX:Bool) (ET:wX=(!(Tree.nO 6 ((Val.kind v))))) (v20:Int) (CR:v20=(((Val.kids v)).length:Int)) (v21:Bool) (Pf:v21=(cond wX (decide ((0:Int)<v20)) false)) (v22:Bool) (Pe:v22=(cond (decide ((Val.kind v)=(16:Int))) (decide ((4294967296:UInt64)≤(Val.bits v))) false)) (QT:Bool) (TQ:QT=((!v22)&&(decide ((Val.kind v)=(8:Int))))) (v24:Bool) (Qt:v24=(cond (decide ((Val.kind v)=(8:Int))) (decide ((1:UInt64)<(Val.bits v))) false)) (v25:Bool) (TP:v25=(cond (cond v22 true v24) true (decide ((Val.sub v)<(0:Int))))) (QS:Bool) (TN:QS=(cond v25 true (decide ((255:Int)<(Val.sub v))))) (v27:Bool) (TM:v27=((!QS)&&(!(decide ((Val.kind v)=(7:Int)))))) (v28:Bool) (h28:v28=(cond (decide ((Val.kind v)=(7:Int))) true (decide ((Val.kind v)=(12:Int))))) (v29:Bool) (h29:v29=(cond v28 (!decide (lA=(12:Int))) false)) (v30:Bool) (h30:v30=(!(fR.whole ((Val.text v))))) (v31:Bool) (h31:v31=(!(fR.whole ((Val.more v))))) (Z3:Bool) (h32:Z3=((!(cond v30 true v31))&&(decide ((Val.kind v)=(11:Int))))) (v33:Bool) (h33:v33=(Z3&&(!(fR.zero ((Val.text v)))))) (v34:Bool) (h34:v34=(cond (fR.zero ((Val.text v))) true (fR.zero ((Val.more v))))) (v35:Bool) (h35:v35=(cond (decide ((Val.kind v)=(11:Int))) v34 false)) (v36:Bool) (h36:v36=(cond (cond v30 true v31) true v35)),cond (decide ((Tree.name ((Val.kind v)))=([]:bz)))
  (some [(.i .i64 5)])
  (ck (!v1 || v1) (ck (!v1 || v1) (ck (!v1 || v1) (ck (!(!v2) || (!v2)) (ck (!(!v2) || (!v2)) (ck (!((!v2)&&v3) || ((!v2)&&v3)) (ck (!((!v2)&&v3) || ((!v2)&&v3)) (ck (!((!v2)&&v3) || ((!v2)&&v3)) (ck (!v4 || v4) (ck (!v4 || v4) (ck (!((!v2)&&v3) || (((!v2)&&v3)&&((!decide ((Val.high v)=(0:UInt64))) || v4))) (ck (!(!v2) || ((!v2)&&(!v3 || ((!v2)&&v3)))) (ck (v2 || (!v2)) (ck (!(!v6) || (!v6)) (ck (!(!v6) || (!v6)) (ck (!((!v6)&&v7) || ((!v6)&&v7)) (ck (!((!v6)&&v7) || ((!v6)&&v7)) (ck (!(!v6) || ((!v6)&&(!v7 || ((!v6)&&v7)))) (ck (v6 || (!v6)) (ck (!(!(cond v6 true v8)) || (!(cond v6 true v8))) (ck (!(!(cond v6 true v8)) || (!(cond v6 true v8))) (ck (!((!(cond v6 true v8))&&v9) || ((!(cond v6 true v8))&&v9)) (ck (!((!(cond v6 true v8))&&v9) || ((!(cond v6 true v8))&&v9)) (ck (!(!(cond v6 true v8)) || ((!(cond v6 true v8))&&(!v9 || ((!(cond v6 true v8))&&v9)))) (ck ((cond v6 true v8) || (!(cond v6 true v8))) (ck (!(!v11) || (!v11)) (ck (!(!v11) || (!v11)) (ck (!((!v11)&&v12) || ((!v11)&&v12)) (ck (!((!v11)&&v12) || ((!v11)&&v12)) (ck (!(!v11) || ((!v11)&&(!v12 || ((!v11)&&v12)))) (ck (v11 || (!v11)) (ck (!(!(cond v11 true kq)) || (!(cond v11 true kq))) (ck (!(!(cond v11 true kq)) || (!(cond v11 true kq))) (ck (!jb || jb) (ck (!jb || jb) (ck (!jb || jb) (ck (!(!(cond v11 true kq)) || ((!(cond v11 true kq))&&(!jh || jb))) (ck ((cond v11 true kq) || (!(cond v11 true kq))) (ck (!(!tF) || (!tF)) (ck (!(!tF) || (!tF)) (ck (!((!tF)&&wX) || ((!tF)&&wX)) (ck (!((!tF)&&wX) || ((!tF)&&wX)) (ck (!((!tF)&&wX) || ((!tF)&&wX)) (ck (!(!tF) || ((!tF)&&(!wX || ((!tF)&&wX)))) (ck (tF || (!tF)) (cond (cond tF true v21)
  (some [(.i .i64 1)])
  (ck (!(decide ((Val.kind v)=(16:Int))) || (decide ((Val.kind v)=(16:Int)))) (ck (!(decide ((Val.kind v)=(16:Int))) || (decide ((Val.kind v)=(16:Int)))) (ck (!(decide ((Val.kind v)=(16:Int))) || (decide ((Val.kind v)=(16:Int)))) (ck (!(!v22) || (!v22)) (ck (!(!v22) || (!v22)) (ck (!(!v22) || (!v22)) (ck (!QT || QT) (ck (!QT || QT) (ck (!(!v22) || ((!v22)&&(!(decide ((Val.kind v)=(8:Int))) || QT))) (ck (v22 || (!v22)) (ck (!(!(cond v22 true v24)) || (!(cond v22 true v24))) (ck (!(!(cond v22 true v24)) || (!(cond v22 true v24))) (ck ((cond v22 true v24) || (!(cond v22 true v24))) (ck (!(!v25) || (!v25)) (ck (!(!v25) || (!v25)) (ck (v25 || (!v25)) (ck (!(!QS) || (!QS)) (ck (!(!QS) || (!QS)) (ck (!(!QS) || (!QS)) (ck (!v27 || v27) (ck (!v27 || v27) (ck (!(!QS) || ((!QS)&&((decide ((Val.kind v)=(7:Int))) || v27))) (ck (!(!QS) || (!QS)) (ck (!((!QS)&&v28) || ((!QS)&&v28)) (ck (!((!QS)&&v28) || ((!QS)&&v28)) (ck (!((!QS)&&v28) || ((!QS)&&v28)) (ck (!(!QS) || ((!QS)&&(!v28 || ((!QS)&&v28)))) (ck (QS || (!QS)) (cond (cond QS true v29)
  (some [(.i .i64 1)])
  (ck (decide (((Val.text v)).length≤1099511627776)) (ck (!(!v30) || (!v30)) (ck (!(!v30) || ((!v30)&&(decide (((Val.more v)).length≤1099511627776)))) (ck (!(!v30) || (!v30)) (ck (v30 || (!v30)) (ck (!(!(cond v30 true v31)) || (!(cond v30 true v31))) (ck (!(!(cond v30 true v31)) || (!(cond v30 true v31))) (ck (!(!(cond v30 true v31)) || (!(cond v30 true v31))) (ck (!Z3 || Z3) (ck (!Z3 || (Z3&&(decide (((Val.text v)).length≤1099511627776)))) (ck (!Z3 || Z3) (ck (!v33 || v33) (ck (!v33 || (v33&&(decide (((Val.more v)).length≤1099511627776)))) (ck (!Z3 || (Z3&&((fR.zero ((Val.text v))) || v33))) (ck (!(!(cond v30 true v31)) || ((!(cond v30 true v31))&&(!(decide ((Val.kind v)=(11:Int))) || Z3))) (ck ((cond v30 true v31) || (!(cond v30 true v31))) (cond v36
  (some [(.i .i64 4)])
  (some [(.i .i64 0)])))))))))))))))))))))))))))))))))))))))))))))))))))))))))))))))))))))))))))))))))))))))))))))=ρ):Zf.F v=ρ:=Eq.trans (by kernel_rfl) (K _ rfl _ rfl _ rfl _ rfl _ rfl _ rfl _ rfl _ rfl _ rfl _ rfl _ rfl _ rfl _ rfl _ rfl _ rfl _ rfl _ rfl _ rfl _ rfl _ rfl _ rfl _ rfl _ rfl _ rfl _ rfl _ rfl _ rfl _ rfl _ rfl _ rfl _ rfl _ rfl _ rfl _ rfl _ rfl _ rfl)
def Zc.E:cr:=cL fC zs [(83,(Ln.c,Ln.sg)),(87,(Y8.c,Y8.sg))]
def Zc.h:Hint := .o
def Zc.F (s:bz):OT:=cI PG Zc.E 49 Zc.sg Zc.h [(.s s)]
theorem Zc.bY (s:bz) {ρ:OT} (K:∀(v1:Bool) (h1:v1=(cond (fR.whole s) (!(fR.zero s)) false)),ck (decide (s.length≤1099511627776)) (ck (!(fR.whole s) || ((fR.whole s)&&(decide (s.length≤1099511627776)))) (ck (!(fR.whole s) || (fR.whole s)) (ck (!(fR.whole s) || (fR.whole s)) (some [(.b v1)]))))=ρ):Zc.F s=ρ:=Eq.trans (by kernel_rfl) (K _ rfl)
def Za.E:cr:=cL fC zs []
def Za.h:Hint := .o
def Za.F (p:List Int) (k:Int):OT:=cI PG Za.E 50 Za.sg Za.h [(.sl .is p),(.i .i64 k)]
theorem Za.bY (p:List Int) (k:Int) {ρ:OT} (K:∀(v1:List Int) (h1:v1=((([]:List Int)++p)++([k]:List Int))),ck (fi ((([]:List Int)).length+(p).length) 8) (ck (fi (((([]:List Int)++p)).length+(([k]:List Int)).length) 8) (some [(.sl .is v1)]))=ρ):Za.F p k=ρ:=Eq.trans (by kernel_rfl) (K _ rfl)
def Y1.E (n:Nat):cr:=cL fC zs [(31,(Y1.cn n,Y1.sg)),(48,(Zf.c,Zf.sg)),(49,(Zc.c,Zc.sg)),(50,(Za.c,Za.sg))]
def Y1.h:Hint := .s .o (.s .o (.j [(2,.no),(3,.ptr 58 0),(8,.no),(58,.cl [])] .o (.s .o (.s (.s .o (.b (.l [(2,.no),(3,.ptr 58 0),(9,.no),(58,.cl [])] .o))) .o))))
def Y1.F (n:Nat) (v:Val) (name:bz) (p:List Int):OT:=cI PG (Y1.E n) 31 Y1.sg Y1.h [(.ag (Val.cells v)),(.s name),(.sl .is p)]
def Y1.j1 (n:Nat) (x0:List Int) (x1:Int) (x2:Val):OT:=eD PG (Y1.E n) 31 Y1.sg Y1.h 7 [(.sl .is x0),.pt,(.i .i64 x1),(.ag (Val.cells x2))]
def Y1.l2 (n:Nat) (x0:List Int) (x1:Int) (x2:Val):OT:=dL PG (Y1.E n) 31 Y1.sg Y1.h 175 [(.sl .is x0),.pt,(.i .i64 x1),(.ag (Val.cells x2))]
theorem Y1.lg (n:Nat) (x0:List Int) (x1:Int) (x2:Val):Y1.j1 n x0 x1 x2=cond (!decide (x1=(0:Int)))
  (some [(.sl .is x0),(.i .i64 x1)])
  (Y1.l2 n x0 (0:Int) x2):=((cp _ _ _ _ _ _ _).trans (by kernel_rfl))
theorem Y1.iu (n:Nat) (x0:List Int) (x1:Int) (x2:Val) {ρ:OT} (K:∀(v1:Int) (h1:v1=(((Val.kids x2)).length:Int)) (v2:bA) (h2:v2=(List.getD (Val.kids x2) (x1).toNat (fx.gm .fl))) (v3:List Int) (h3:v3=((Tree.gQ (bA.of ((bA.name v2)) (bA.val v2)) (((x0++[x1])))).1)) (v4:Int) (h4:v4=((Tree.gQ (bA.of ((bA.name v2)) (bA.val v2)) (((x0++[x1])))).2)) (v5:Int) (h5:v5=(IntKind.i64.wrap (x1+(1:Int)))),cond (decide (x1<v1))
  (ck (bD x1 ((Val.kids x2)).length) (ck (bD x1 ((Val.kids x2)).length) (ck (decide (x0.length≤1099511627776)) (ck ((decide (bA.bJ (bA.of ((bA.name v2)) (bA.val v2))+(((x0++[x1]))).length≤1099511627776))&&decide ((bA.bJ (bA.of ((bA.name v2)) (bA.val v2)))<n)) (cond (!decide (v4=(0:Int)))
  (some [(.sl .is v3),(.i .i64 v4)])
  (Y1.l2 n x0 v5 x2))))))
  (some [(.sl .is ([]:List Int)),(.i .i64 0)])=ρ):Y1.l2 n x0 x1 x2=ρ:=((bV _ _ _ _ _ _ _).trans (by kernel_rfl)).trans (K _ rfl _ rfl _ rfl _ rfl _ rfl)
theorem Y1.bY (n:Nat) (v:Val) (name:bz) (p:List Int) {ρ:OT} (K:∀(v1:Bool) (h1:v1=(cond (decide ((Tree.own v)=(0:Int))) (!(Tree.fZ name true)) false)),ck (decide (bA.bJ (bA.of [] v)≤1099511627776)) (ck (!(decide ((Tree.own v)=(0:Int))) || ((decide ((Tree.own v)=(0:Int)))&&(decide (name.length≤1099511627776)))) (ck (!(decide ((Tree.own v)=(0:Int))) || (decide ((Tree.own v)=(0:Int)))) (ck (!(decide ((Tree.own v)=(0:Int))) || (decide ((Tree.own v)=(0:Int)))) (cond v1
  (Y1.j1 n p (4:Int) v)
  (Y1.j1 n p (Tree.own v) v)))))=ρ):Y1.F n v name p=ρ:=Eq.trans (by kernel_rfl) (K _ rfl)
def Zd.E:cr:=cL fC zs [(31,(Y1.c,Y1.sg))]
def Zd.h:Hint := .o
def Zd.F (v:Val):OT:=cI PG Zd.E 15 Zd.sg Zd.h [(.ag (Val.cells v))]
theorem Zd.bY (v:Val) {ρ:OT} (K:∀(v1:List Int) (h1:v1=((Tree.gQ (bA.of (([]:bz)) v) (([]:List Int))).1)) (v2:Int) (h2:v2=((Tree.gQ (bA.of (([]:bz)) v) (([]:List Int))).2)),ck (decide (bA.bJ (bA.of (([]:bz)) v)+(([]:List Int)).length≤1099511627776)) (some [(.sl .is v1),(.i .i64 v2)])=ρ):Zd.F v=ρ:=Eq.trans (by kernel_rfl) (K _ rfl _ rfl)
end
end Go.Eng
set_option maxRecDepth 100000
namespace Go.Eng
open Go.Proofs
noncomputable section
def Nv.E:cr:=cL fC zs []
def Nv.h:Hint := .o
def Nv.F (a:Val) (b:Val):OT:=cI PG Nv.E 37 Nv.sg Nv.h [(.ag (Val.cells a)),(.ag (Val.cells b))]
theorem Nv.bY (a:Val) (b:Val) {ρ:OT} (K:∀(v1:Bool) (h1:v1=(cond (decide ((Val.kind a)=(Val.kind b))) (decide ((Val.bits a)=(Val.bits b))) false)) (v2:Bool) (h2:v2=(cond v1 (decide ((Val.high a)=(Val.high b))) false)) (v3:Bool) (h3:v3=(cond v2 (decide ((Val.low a)=(Val.low b))) false)) (v4:Bool) (h4:v4=(cond v3 (decide ((Val.text a)=(Val.text b))) false)) (v5:Bool) (h5:v5=(cond v4 (decide ((Val.more a)=(Val.more b))) false)) (v6:Bool) (h6:v6=(cond v5 (decide ((Val.sub a)=(Val.sub b))) false)) (v7:Bool) (h7:v7=(cond v6 (decide ((Val.bytes a)=(Val.bytes b))) false)),ck (!(decide ((Val.kind a)=(Val.kind b))) || (decide ((Val.kind a)=(Val.kind b)))) (ck (!(decide ((Val.kind a)=(Val.kind b))) || (decide ((Val.kind a)=(Val.kind b)))) (ck (!(decide ((Val.kind a)=(Val.kind b))) || ((decide ((Val.kind a)=(Val.kind b)))&&(decide ((Val.kind a)=(Val.kind b))))) (ck (!(decide ((Val.kind a)=(Val.kind b))) || (decide ((Val.kind a)=(Val.kind b)))) (ck (!v1 || v1) (ck (!v1 || v1) (ck (!v1 || (v1&&v1)) (ck (!v1 || v1) (ck (!v2 || v2) (ck (!v2 || v2) (ck (!v2 || (v2&&v2)) (ck (!v2 || v2) (ck (!v3 || v3) (ck (!v3 || v3) (ck (!v3 || (v3&&v3)) (ck (!v3 || v3) (ck (!v4 || v4) (ck (!v4 || v4) (ck (!v4 || (v4&&v4)) (ck (!v4 || v4) (ck (!v5 || v5) (ck (!v5 || v5) (ck (!v5 || (v5&&v5)) (ck (!v5 || v5) (ck (!v6 || v6) (ck (!v6 || v6) (ck (!v6 || v6) (ck (!v6 || v6) (ck (!v6 || (v6&&v6)) (ck (!v6 || v6) (some [(.b v7)]))))))))))))))))))))))))))))))=ρ):Nv.F a b=ρ:=Eq.trans (by kernel_rfl) (K _ rfl _ rfl _ rfl _ rfl _ rfl _ rfl _ rfl)
def Y4.E (n:Nat):cr:=cL fC zs [(20,(Y4.cn n,Y4.sg)),(37,(Nv.c,Nv.sg))]
def Y4.h:Hint := .s .o (.s .o (.s (.s .o (.b (.l [(2,.ptr 57 0),(3,.ptr 58 0),(5,.no),(57,.cl []),(58,.cl [])] .o))) .o))
def Y4.F (n:Nat) (a:Val) (b:Val):OT:=cI PG (Y4.E n) 20 Y4.sg Y4.h [(.ag (Val.cells a)),(.ag (Val.cells b))]
def Y4.l1 (n:Nat) (x0:Int) (x1:Val) (x2:Val):OT:=dL PG (Y4.E n) 20 Y4.sg Y4.h 43 [.pt,.pt,(.i .i64 x0),(.ag (Val.cells x1)),(.ag (Val.cells x2))]
theorem Y4.bX (n:Nat) (x0:Int) (x1:Val) (x2:Val) {ρ:OT} (K:∀(v1:Int) (h1:v1=(((Val.kids x1)).length:Int)) (v2:bA) (h2:v2=(List.getD (Val.kids x1) (x0).toNat (fx.gm .fl))) (v3:bA) (h3:v3=(List.getD (Val.kids x2) (x0).toNat (fx.gm .fl))) (v4:Bool) (h4:v4=(!(!decide ((bA.name v2)=(bA.name v3))))) (v5:Bool) (h5:v5=(Tree.same (bA.val v2) (bA.val v3))) (v6:Bool) (h6:v6=(cond (!decide ((bA.name v2)=(bA.name v3))) true (!v5))) (v7:Int) (h7:v7=(IntKind.i64.wrap (x0+(1:Int)))),cond (decide (x0<v1))
  (ck (bD x0 ((Val.kids x1)).length) (ck (bD x0 ((Val.kids x2)).length) (ck (!v4 || v4) (ck (!v4 || ((v4&&v4)&&(bD x0 ((Val.kids x1)).length))) (ck (!v4 || v4) (ck (!v4 || v4) (ck (!v4 || v4) (ck (!v4 || ((v4&&v4)&&(bD x0 ((Val.kids x2)).length))) (ck (!v4 || v4) (ck (!v4 || v4) (ck (!v4 || ((v4&&v4)&&((decide (bA.bJ (bA.of [] (bA.val v2))≤1099511627776))&&decide ((bA.bJ (bA.of [] (bA.val v2)))<n)))) (ck (!v4 || v4) (ck ((!decide ((bA.name v2)=(bA.name v3))) || v4) (cond v6
  (some [(.b false)])
  (Y4.l1 n v7 x1 x2)))))))))))))))
  (some [(.b true)])=ρ):Y4.l1 n x0 x1 x2=ρ:=((bV _ _ _ _ _ _ _).trans (by kernel_rfl)).trans (K _ rfl _ rfl _ rfl _ rfl _ rfl _ rfl _ rfl)
theorem Y4.bY (n:Nat) (a:Val) (b:Val) {ρ:OT} (K:∀(v1:Int) (h1:v1=(((Val.kids a)).length:Int)) (v2:Int) (h2:v2=(((Val.kids b)).length:Int)) (v3:Bool) (h3:v3=(cond (!(Tree.nD a b)) true (!decide (v1=v2)))),ck (!(!(!(Tree.nD a b))) || (!(!(Tree.nD a b)))) (ck (!(!(!(Tree.nD a b))) || (!(!(Tree.nD a b)))) (ck (!(!(!(Tree.nD a b))) || (!(!(Tree.nD a b)))) (ck (!(!(!(Tree.nD a b))) || (!(!(Tree.nD a b)))) (ck (!(!(!(Tree.nD a b))) || ((!(!(Tree.nD a b)))&&(!(!(Tree.nD a b))))) (ck ((!(Tree.nD a b)) || (!(!(Tree.nD a b)))) (cond v3
  (some [(.b false)])
  (Y4.l1 n (0:Int) a b)))))))=ρ):Y4.F n a b=ρ:=Eq.trans (by kernel_rfl) (K _ rfl _ rfl _ rfl)
def bQ.E:cr:=cL fC zs []
def bQ.h:Hint := .s .o (.s .o (.s (.s .o (.b (.l (sc [0,1,5]) .o))) .o))
def bQ.F (a:List Int) (b:List Int):OT:=cI PG bQ.E 30 bQ.sg bQ.h [(.sl .is a),(.sl .is b)]
def bQ.l1 (x0:List Int) (x1:List Int) (x2:Int):OT:=dL PG bQ.E 30 bQ.sg bQ.h 43 [(.sl .is x0),(.sl .is x1),(.i .i64 x2)]
theorem bQ.bX (x0:List Int) (x1:List Int) (x2:Int) {ρ:OT} (K:∀(v1:Int) (h1:v1=(List.getD x0 (x2).toNat (0:Int))) (v2:Int) (h2:v2=(List.getD x1 (x2).toNat (0:Int))) (v3:Int) (h3:v3=(IntKind.i64.wrap (x2+(1:Int)))),cond (decide (x2<((x0).length:Int)))
  (ck (bD x2 (x0).length) (ck (bD x2 (x1).length) (cond (!decide (v1=v2))
  (some [(.b false)])
  (bQ.l1 x0 x1 v3))))
  (some [(.b true)])=ρ):bQ.l1 x0 x1 x2=ρ:=((bV _ _ _ _ _ _ _).trans (by kernel_rfl)).trans (K _ rfl _ rfl _ rfl)
theorem bQ.dW (a:List Int) (b:List Int):bQ.F a b=cond (!decide (((a).length:Int)=((b).length:Int)))
  (some [(.b false)])
  (bQ.l1 a b (0:Int)):=by kernel_rfl
def cX.E:cr:=cL fC zs []
def cX.h:Hint := .s .o (.s (.s .o (.b (.l (sc [0,1,5]) .o))) .o)
def cX.F (left:Int) (jm:List Int):OT:=cI PG cX.E 40 cX.sg cX.h [(.i .i64 left),(.sl .is jm)]
def cX.l1 (x0:Int) (x1:List Int) (x2:Int):OT:=dL PG cX.E 40 cX.sg cX.h 21 [(.i .i64 x0),(.sl .is x1),(.i .i64 x2)]
theorem cX.bX (x0:Int) (x1:List Int) (x2:Int) {ρ:OT} (K:∀(v1:Int) (h1:v1=(List.getD x1 (x2).toNat (0:Int))) (v2:Bool) (h2:v2=(cond (decide (x0<(0:Int))) true (decide (x0<v1)))) (v3:Int) (h3:v3=(IntKind.i64.wrap (x2+(1:Int)))),cond (decide (x2<((x1).length:Int)))
  (ck (!(!(decide (x0<(0:Int)))) || (((!(decide (x0<(0:Int))))&&(!(decide (x0<(0:Int)))))&&(bD x2 (x1).length))) (ck (!(!(decide (x0<(0:Int)))) || (!(decide (x0<(0:Int))))) (ck (!(!(decide (x0<(0:Int)))) || ((!(decide (x0<(0:Int))))&&(!(decide (x0<(0:Int)))))) (ck ((decide (x0<(0:Int))) || (!(decide (x0<(0:Int))))) (cond v2
  (some [(.i .i64 (-1))])
  (ck (bD x2 (x1).length) (cX.l1 (IntKind.i64.wrap (x0 - v1)) x1 v3)))))))
  (some [(.i .i64 x0)])=ρ):cX.l1 x0 x1 x2=ρ:=((bV _ _ _ _ _ _ _).trans (by kernel_rfl)).trans (K _ rfl _ rfl _ rfl)
theorem cX.dW (left:Int) (jm:List Int):cX.F left jm=cX.l1 left jm (0:Int):=by kernel_rfl
def cd.E (n:Nat):cr:=cL fC zs [(24,(cd.cn n,cd.sg)),(40,(cX.c,cX.sg))]
def cd.h:Hint := .s .o (.s .o (.s (.s .o (.b (.l [(0,.no),(3,.ptr 50 0),(5,.no),(50,.cl [])] .o))) .o))
def cd.F (n:Nat) (left:Int) (v:Val):OT:=cI PG (cd.E n) 24 cd.sg cd.h [(.i .i64 left),(.ag (Val.cells v))]
def cd.l1 (n:Nat) (x0:Int) (x1:Int) (x2:Val):OT:=dL PG (cd.E n) 24 cd.sg cd.h 43 [(.i .i64 x0),.pt,(.i .i64 x1),(.ag (Val.cells x2))]
theorem cd.bX (n:Nat) (x0:Int) (x1:Int) (x2:Val) {ρ:OT} (K:∀(v1:Int) (h1:v1=(((Val.kids x2)).length:Int)) (v2:Bool) (h2:v2=(cond (decide (x1<v1)) (decide ((0:Int)≤x0)) false)) (v3:bA) (h3:v3=(List.getD (Val.kids x2) (x1).toNat (fx.gm .fl))) (v4:Int) (h4:v4=(((bA.name v3)).length:Int)) (v5:Int) (h5:v5=(fu.room x0 (([v4]:List Int)))) (v6:Int) (h6:v6=(fu.value v5 (bA.of [] (bA.val v3)))) (v7:Int) (h7:v7=(IntKind.i64.wrap (x1+(1:Int)))),ck (!(decide (x1<v1)) || (decide (x1<v1))) (ck (!(decide (x1<v1)) || (decide (x1<v1))) (cond v2
  (ck (bD x1 ((Val.kids x2)).length) (ck (decide (x0≤1200∧(([v4]:List Int)).length≤10)&&(([v4]:List Int)).all (fun s=>decide (0≤s))) (ck (bD x1 ((Val.kids x2)).length) (ck ((decide (v5≤1200))&&decide ((bA.bJ (bA.of [] (bA.val v3)))<n)) (cd.l1 n v6 v7 x2)))))
  (some [(.i .i64 x0)])))=ρ):cd.l1 n x0 x1 x2=ρ:=((bV _ _ _ _ _ _ _).trans (by kernel_rfl)).trans (K _ rfl _ rfl _ rfl _ rfl _ rfl _ rfl _ rfl)
theorem cd.bY (n:Nat) (left:Int) (v:Val) {ρ:OT} (K:∀(v1:Int) (h1:v1=(((Val.text v)).length:Int)) (v2:Int) (h2:v2=(((Val.more v)).length:Int)) (v3:Int) (h3:v3=(((Val.bytes v)).length:Int)) (v4:List Int) (h4:v4=([(2:Int),v1,v2,v3]:List Int)),ck (decide (left≤1200∧v4.length≤10)&&v4.all (fun s=>decide (0≤s))) (cd.l1 n (fu.room left v4) (0:Int) v)=ρ):cd.F n left v=ρ:=Eq.trans (by kernel_rfl) (K _ rfl _ rfl _ rfl _ rfl)
def dV.E:cr:=cL fC zs [(24,(cd.c,cd.sg))]
def dV.h:Hint := .o
def dV.F (v:Val):OT:=cI PG dV.E 8 dV.sg dV.h [(.ag (Val.cells v))]
theorem dV.bY (v:Val) {ρ:OT} (K:∀(v1:Int) (h1:v1=(fu.value ((1200:Int)) (bA.of [] v))),ck (decide (((1200:Int))≤1200)) (some [(.b (decide ((0:Int)≤v1)))])=ρ):dV.F v=ρ:=Eq.trans (by kernel_rfl) (K _ rfl)
def bS.E:cr:=cL fC zs [(103,(iC.c,iC.sg))]
def bS.h:Hint := .s .o (.s (.s .o (.b (.l (sc [5,6,7]) .o))) .o)
def bS.F (l:List bA):OT:=cI PG bS.E 66 bS.sg bS.h [(.sl .fl l)]
def bS.l1 (x0:List bA) (x1:Int) (x2:Int):OT:=dL PG bS.E 66 bS.sg bS.h 21 [(.sl .fl x0),(.i .i64 x1),(.i .i64 x2)]
theorem bS.bX (x0:List bA) (x1:Int) (x2:Int) {ρ:OT} (K:∀(v1:bA) (h1:v1=(List.getD x0 (x2).toNat (fx.gm .fl))) (v2:Int) (h2:v2=(IntKind.i64.wrap (x2+(1:Int)))),cond (decide (x2<x1))
  (ck (bD x2 (x0).length) (ck (Nr.i64 x2) (cond (!decide ((bA.name v1)=(Nr.itoa x2)))
  (some [(.b false)])
  (bS.l1 x0 x1 v2))))
  (some [(.b true)])=ρ):bS.l1 x0 x1 x2=ρ:=((bV _ _ _ _ _ _ _).trans (by kernel_rfl)).trans (K _ rfl _ rfl)
theorem bS.dW (l:List bA):bS.F l=bS.l1 l ((l).length:Int) (0:Int):=by kernel_rfl
def cw.E:cr:=cL fC zs []
def cw.h:Hint := .s .o (.j (sc [0,2]) .o .o)
def cw.F (x:UInt16):OT:=cI PG cw.E 151 cw.sg cw.h [(.u16 x)]
def cw.j1 (x0:UInt16) (x1:Int):OT:=eD PG cw.E 151 cw.sg cw.h 3 [(.u16 x0),(.i .i64 x1)]
theorem cw.iR (x0:UInt16) (x1:Int) {ρ:OT} (K:∀(v1:UInt8) (h1:v1=(UInt8.ofInt ((x0).toNat:Int))) (v2:UInt8) (h2:v2=(List.getD ([0,1,2,2,3,3,3,3,4,4,4,4,4,4,4,4,5,5,5,5,5,5,5,5,5,5,5,5,5,5,5,5,6,6,6,6,6,6,6,6,6,6,6,6,6,6,6,6,6,6,6,6,6,6,6,6,6,6,6,6,6,6,6,6,7,7,7,7,7,7,7,7,7,7,7,7,7,7,7,7,7,7,7,7,7,7,7,7,7,7,7,7,7,7,7,7,7,7,7,7,7,7,7,7,7,7,7,7,7,7,7,7,7,7,7,7,7,7,7,7,7,7,7,7,7,7,7,7,8,8,8,8,8,8,8,8,8,8,8,8,8,8,8,8,8,8,8,8,8,8,8,8,8,8,8,8,8,8,8,8,8,8,8,8,8,8,8,8,8,8,8,8,8,8,8,8,8,8,8,8,8,8,8,8,8,8,8,8,8,8,8,8,8,8,8,8,8,8,8,8,8,8,8,8,8,8,8,8,8,8,8,8,8,8,8,8,8,8,8,8,8,8,8,8,8,8,8,8,8,8,8,8,8,8,8,8,8,8,8,8,8,8,8,8,8,8,8,8,8,8,8,8,8,8,8,8]:bz) (((v1).toNat:Int)).toNat (0:UInt8))) (v3:Int) (h3:v3=(IntKind.i64.wrap ((v2).toNat:Int))),ck (bD ((v1).toNat:Int) (([0,1,2,2,3,3,3,3,4,4,4,4,4,4,4,4,5,5,5,5,5,5,5,5,5,5,5,5,5,5,5,5,6,6,6,6,6,6,6,6,6,6,6,6,6,6,6,6,6,6,6,6,6,6,6,6,6,6,6,6,6,6,6,6,7,7,7,7,7,7,7,7,7,7,7,7,7,7,7,7,7,7,7,7,7,7,7,7,7,7,7,7,7,7,7,7,7,7,7,7,7,7,7,7,7,7,7,7,7,7,7,7,7,7,7,7,7,7,7,7,7,7,7,7,7,7,7,7,8,8,8,8,8,8,8,8,8,8,8,8,8,8,8,8,8,8,8,8,8,8,8,8,8,8,8,8,8,8,8,8,8,8,8,8,8,8,8,8,8,8,8,8,8,8,8,8,8,8,8,8,8,8,8,8,8,8,8,8,8,8,8,8,8,8,8,8,8,8,8,8,8,8,8,8,8,8,8,8,8,8,8,8,8,8,8,8,8,8,8,8,8,8,8,8,8,8,8,8,8,8,8,8,8,8,8,8,8,8,8,8,8,8,8,8,8,8,8,8,8,8,8,8,8,8,8,8]:bz)).length) (some [(.i .i64 (IntKind.i64.wrap (x1+v3)))])=ρ):cw.j1 x0 x1=ρ:=((cp _ _ _ _ _ _ _).trans (by kernel_rfl)).trans (K _ rfl _ rfl _ rfl)
theorem cw.bY (x:UInt16) {ρ:OT} (K:∀(v1:UInt16) (h1:v1=(qe x (((8:UInt64)).toNat))),cond (decide ((256:UInt16)≤x))
  (cw.j1 v1 (8:Int))
  (cw.j1 x (0:Int))=ρ):cw.F x=ρ:=Eq.trans (by kernel_rfl) (K _ rfl)
def bits_Len64.E:cr:=cL fC zs []
def bits_Len64.h:Hint := .s .o (.j (sc [0,2]) .o (.j (sc [0,2]) .o (.j (sc [0,2]) .o .o)))
def bits_Len64.F (x:UInt64):OT:=cI PG bits_Len64.E 200 bits_Len64.sg bits_Len64.h [(.u64 x)]
def bits_Len64.j1 (x0:UInt64) (x1:Int):OT:=eD PG bits_Len64.E 200 bits_Len64.sg bits_Len64.h 3 [(.u64 x0),(.i .i64 x1)]
def bits_Len64.j2 (x0:UInt64) (x1:Int):OT:=eD PG bits_Len64.E 200 bits_Len64.sg bits_Len64.h 7 [(.u64 x0),(.i .i64 x1)]
def bits_Len64.j3 (x0:UInt64) (x1:Int):OT:=eD PG bits_Len64.E 200 bits_Len64.sg bits_Len64.h 15 [(.u64 x0),(.i .i64 x1)]
theorem bits_Len64.iR (x0:UInt64) (x1:Int) {ρ:OT} (K:∀(v1:UInt64) (h1:v1=(dQ x0 (((16:UInt64)).toNat))) (v2:Int) (h2:v2=(IntKind.i64.wrap (x1+(16:Int)))),cond (decide ((65536:UInt64)≤x0))
  (bits_Len64.j2 v1 v2)
  (bits_Len64.j2 x0 x1)=ρ):bits_Len64.j1 x0 x1=ρ:=((cp _ _ _ _ _ _ _).trans (by kernel_rfl)).trans (K _ rfl _ rfl)
theorem bits_Len64.jx (x0:UInt64) (x1:Int) {ρ:OT} (K:∀(v1:UInt64) (h1:v1=(dQ x0 (((8:UInt64)).toNat))) (v2:Int) (h2:v2=(IntKind.i64.wrap (x1+(8:Int)))),cond (decide ((256:UInt64)≤x0))
  (bits_Len64.j3 v1 v2)
  (bits_Len64.j3 x0 x1)=ρ):bits_Len64.j2 x0 x1=ρ:=((cp _ _ _ _ _ _ _).trans (by kernel_rfl)).trans (K _ rfl _ rfl)
theorem bits_Len64.qw (x0:UInt64) (x1:Int) {ρ:OT} (K:∀(v1:UInt8) (h1:v1=(UInt8.ofInt ((x0).toNat:Int))) (v2:UInt8) (h2:v2=(List.getD ([0,1,2,2,3,3,3,3,4,4,4,4,4,4,4,4,5,5,5,5,5,5,5,5,5,5,5,5,5,5,5,5,6,6,6,6,6,6,6,6,6,6,6,6,6,6,6,6,6,6,6,6,6,6,6,6,6,6,6,6,6,6,6,6,7,7,7,7,7,7,7,7,7,7,7,7,7,7,7,7,7,7,7,7,7,7,7,7,7,7,7,7,7,7,7,7,7,7,7,7,7,7,7,7,7,7,7,7,7,7,7,7,7,7,7,7,7,7,7,7,7,7,7,7,7,7,7,7,8,8,8,8,8,8,8,8,8,8,8,8,8,8,8,8,8,8,8,8,8,8,8,8,8,8,8,8,8,8,8,8,8,8,8,8,8,8,8,8,8,8,8,8,8,8,8,8,8,8,8,8,8,8,8,8,8,8,8,8,8,8,8,8,8,8,8,8,8,8,8,8,8,8,8,8,8,8,8,8,8,8,8,8,8,8,8,8,8,8,8,8,8,8,8,8,8,8,8,8,8,8,8,8,8,8,8,8,8,8,8,8,8,8,8,8,8,8,8,8,8,8,8,8,8,8,8,8]:bz) (((v1).toNat:Int)).toNat (0:UInt8))) (v3:Int) (h3:v3=(IntKind.i64.wrap ((v2).toNat:Int))),ck (bD ((v1).toNat:Int) (([0,1,2,2,3,3,3,3,4,4,4,4,4,4,4,4,5,5,5,5,5,5,5,5,5,5,5,5,5,5,5,5,6,6,6,6,6,6,6,6,6,6,6,6,6,6,6,6,6,6,6,6,6,6,6,6,6,6,6,6,6,6,6,6,7,7,7,7,7,7,7,7,7,7,7,7,7,7,7,7,7,7,7,7,7,7,7,7,7,7,7,7,7,7,7,7,7,7,7,7,7,7,7,7,7,7,7,7,7,7,7,7,7,7,7,7,7,7,7,7,7,7,7,7,7,7,7,7,8,8,8,8,8,8,8,8,8,8,8,8,8,8,8,8,8,8,8,8,8,8,8,8,8,8,8,8,8,8,8,8,8,8,8,8,8,8,8,8,8,8,8,8,8,8,8,8,8,8,8,8,8,8,8,8,8,8,8,8,8,8,8,8,8,8,8,8,8,8,8,8,8,8,8,8,8,8,8,8,8,8,8,8,8,8,8,8,8,8,8,8,8,8,8,8,8,8,8,8,8,8,8,8,8,8,8,8,8,8,8,8,8,8,8,8,8,8,8,8,8,8,8,8,8,8,8,8]:bz)).length) (some [(.i .i64 (IntKind.i64.wrap (x1+v3)))])=ρ):bits_Len64.j3 x0 x1=ρ:=((cp _ _ _ _ _ _ _).trans (by kernel_rfl)).trans (K _ rfl _ rfl _ rfl)
theorem bits_Len64.bY (x:UInt64) {ρ:OT} (K:∀(v1:UInt64) (h1:v1=(dQ x (((32:UInt64)).toNat))),cond (decide ((4294967296:UInt64)≤x))
  (bits_Len64.j1 v1 (32:Int))
  (bits_Len64.j1 x (0:Int))=ρ):bits_Len64.F x=ρ:=Eq.trans (by kernel_rfl) (K _ rfl)
def ff.E:cr:=cL fC zs []
def ff.h:Hint := .o
def ff.F (a:List UInt16):OT:=cI PG ff.E 187 ff.sg ff.h [(.sl .ws a)]
theorem ff.dW (a:List UInt16):ff.F a=cond (List.isEmpty a)
  (both (some [(.sl .ws ([]:List UInt16))]) (ck (fi ((([]:List UInt16)).length+(a).length) 2) (some [(.sl .ws (([]:List UInt16)++a))])))
  (ck (fi ((([]:List UInt16)).length+(a).length) 2) (some [(.sl .ws (([]:List UInt16)++a))])):=by kernel_rfl
def dE.E:cr:=cL fC zs []
def dE.h:Hint := .o
def dE.F (x:Nat):OT:=cI PG dE.E 272 dE.sg dE.h [(.c (.float .f64 x))]
theorem dE.dW (x:Nat):dE.F x=cond true
  (ck (Fl.num x) (some [(.c (.float .f64 (Fl.kU x)))]))
  (none):=by kernel_rfl
def fL.E:cr:=cL fC zs [(263,(iF.c,iF.sg))]
def fL.h:Hint := .o
def fL.F (z:Cx):OT:=cI PG fL.E 260 fL.sg fL.h [(.c (.complex .f64 z.1 z.2))]
theorem fL.dW (z:Cx):fL.F z=ck (Gz.LS z ((4719772409484279808:Nat))) (some [(.b (true))]):=by kernel_rfl
def jN.E:cr:=cL fC zs []
def jN.h:Hint := .o
def jN.F (x:Int) (y:Int):OT:=cI PG jN.E 258 jN.sg jN.h [(.i .i64 x),(.i .i64 y)]
theorem jN.bY (x:Int) (y:Int) {ρ:OT} (K:∀(v1:Bool) (h1:v1=(cond (decide (x<(-33554432:Int))) true (decide ((33554432:Int)<x)))) (v2:Bool) (h2:v2=(cond v1 true (decide (y<(-33554432:Int))))) (v3:Bool) (h3:v3=(cond v2 true (decide ((33554432:Int)<y)))) (v4:Cx) (h4:v4=(((Fl.ofInt x),(Fl.ofInt y)):Cx)),ck (!(!(decide (x<(-33554432:Int)))) || (!(decide (x<(-33554432:Int))))) (ck ((decide (x<(-33554432:Int))) || (!(decide (x<(-33554432:Int))))) (ck (!(!v1) || (!v1)) (ck (v1 || (!v1)) (ck (!(!v2) || (!v2)) (ck (v2 || (!v2)) (cond v3
  (some [(.c (.complex .f64 ((0,0):Cx).1 ((0,0):Cx).2))])
  (some [(.c (.complex .f64 v4.1 v4.2))])))))))=ρ):jN.F x y=ρ:=Eq.trans (by kernel_rfl) (K _ rfl _ rfl _ rfl _ rfl)
def fe.E:cr:=cL fC zs [(263,(iF.c,iF.sg))]
def fe.h:Hint := .o
def fe.F (z:Cx):OT:=cI PG fe.E 243 fe.sg fe.h [(.c (.complex .f64 z.1 z.2))]
theorem fe.dW (z:Cx):fe.F z=ck (Gz.LS z ((4841369599423283200:Nat))) (cond (!(true))
  (some [(.i .i64 0),(.i .i64 0),(.b false)])
  (ck (Fl.nv z.1) (ck (Fl.nv z.2) (some [(.i .i64 (Fl.toInt z.1)),(.i .i64 (Fl.toInt z.2)),(.b true)])))):=by kernel_rfl
def gN.E:cr:=cL fC zs [(263,(iF.c,iF.sg))]
def gN.h:Hint := .o
def gN.F (z:Cx) (k:Int):OT:=cI PG gN.E 273 gN.sg gN.h [(.c (.complex .f64 z.1 z.2)),(.i .i64 k)]
theorem gN.bY (z:Cx) (k:Int) {ρ:OT} (K:∀(v1:Cx) (h1:v1=((4607182418800017408,0):Cx)) (v2:Cx) (h2:v2=((0,4607182418800017408):Cx)) (v3:Cx) (h3:v3=((13830554455654793216,0):Cx)) (v4:Cx) (h4:v4=((0,13830554455654793216):Cx)) (v5:Int) (h5:v5=(cU .and .i64 k (3:Int))) (v6:Cx) (h6:v6=(List.getD ([v1,v2,v3,v4]:List Cx) ((v5).toNat) (0,0))) (v7:Cx) (h7:v7=((Fl.rT z.1 z.2 v6.1 v6.2,Fl.rU z.1 z.2 v6.1 v6.2):Cx)),ck (Gz.LS z ((4841369599423283200:Nat))) (cond (!(true))
  (some [(.c (.complex .f64 ((0,0):Cx).1 ((0,0):Cx).2))])
  (ck (bD v5 4) (ck (decide ((v5).toNat<4)) (ck (Fl.oR z.1 z.2 v6.1 v6.2) (some [(.c (.complex .f64 v7.1 v7.2))])))))=ρ):gN.F z k=ρ:=Eq.trans (by kernel_rfl) (K _ rfl _ rfl _ rfl _ rfl _ rfl _ rfl _ rfl)
def fM.E:cr:=cL fC zs [(260,(fL.c,fL.sg))]
def fM.h:Hint := .o
def fM.F (z:Cx) (w:Cx):OT:=cI PG fM.E 241 fM.sg fM.h [(.c (.complex .f64 z.1 z.2)),(.c (.complex .f64 w.1 w.2))]
theorem fM.bY (z:Cx) (w:Cx) {ρ:OT} (K:∀(v1:Bool) (h1:v1=(cond (!(true)) true (!(true)))) (v2:Cx) (h2:v2=((Fl.rT z.1 z.2 w.1 w.2,Fl.rU z.1 z.2 w.1 w.2):Cx)),ck (Gz.vt z 33554432) (ck (!(!(!(true))) || ((!(!(true)))&&(Gz.vt w 33554432))) (ck (!(!(!(true))) || (!(!(true)))) (ck ((!(true)) || (!(!(true)))) (cond v1
  (some [(.c (.complex .f64 ((0,0):Cx).1 ((0,0):Cx).2))])
  (ck (Fl.oR z.1 z.2 w.1 w.2) (some [(.c (.complex .f64 v2.1 v2.2))]))))))=ρ):fM.F z w=ρ:=Eq.trans (by kernel_rfl) (K _ rfl _ rfl)
def gF.E:cr:=cL fC zs [(272,(dE.c,dE.sg))]
def gF.h:Hint := .o
def gF.F (x:Nat):OT:=cI PG gF.E 271 gF.sg gF.h [(.c (.float .f64 x))]
theorem gF.bY (x:Nat) {ρ:OT} (K:∀(v1:Bool) (h1:v1=(Fl.gt x (14055734437023318016:Nat) || Fl.eq x (14055734437023318016:Nat))) (v2:Bool) (h2:v2=(Fl.lt x (4832362400168542208:Nat) || Fl.eq x (4832362400168542208:Nat))) (v3:Bool) (h3:v3=(cond (cond v1 v2 false) (Fl.eq x (Fl.kU x)) false)),ck (!v1 || v1) (ck (!v1 || v1) (ck (!(cond v1 v2 false) || ((cond v1 v2 false)&&(Fl.num x))) (ck (!(cond v1 v2 false) || ((cond v1 v2 false)&&(cond v1 v2 false))) (ck (!(cond v1 v2 false) || (cond v1 v2 false)) (some [(.b v3)])))))=ρ):gF.F x=ρ:=Eq.trans (by kernel_rfl) (K _ rfl _ rfl _ rfl)
def eW.E:cr:=cL fC zs [(271,(gF.c,gF.sg))]
def eW.h:Hint := .s .o (.s .o (.s (.s .o (.b (.l (sc [3,6,7]) .o))) .o))
def eW.F (l:Qd):OT:=cI PG eW.E 261 eW.sg eW.h [(.ag (Qd.cells l))]
def eW.l1 (x0:Qd) (x1:Int):OT:=dL PG eW.E 261 eW.sg eW.h 43 [(.c (.func (.func 271) #[] #[])),(.ag (Qd.cells x0)),(.i .i64 x1)]
theorem eW.bX (x0:Qd) (x1:Int) {ρ:OT} (K:∀(v1:Bool) (h1:v1=(cond (!(true)) true (!(true)))) (v2:Int) (h2:v2=(IntKind.i64.wrap (x1+(1:Int)))),cond (decide (x1<(4:Int)))
  (ck (bD x1 4) (ck (Gz.Kp ((Qd.get x0 ((x1).toNat)).1)) (ck (!(!(!(true))) || (!(!(true)))) (ck (!(!(!(true))) || (((!(!(true)))&&(!(!(true))))&&(Gz.Kp ((Qd.get x0 ((x1).toNat)).2)))) (ck (!(!(!(true))) || (!(!(true)))) (ck ((!(true)) || (!(!(true)))) (cond v1
  (some [(.b false)])
  (eW.l1 x0 v2))))))))
  (some [(.b true)])=ρ):eW.l1 x0 x1=ρ:=((bV _ _ _ _ _ _ _).trans (by kernel_rfl)).trans (K _ rfl _ rfl)
theorem eW.dW (l:Qd):eW.F l=eW.l1 l (0:Int):=by kernel_rfl
def cQ.E:cr:=cL fC zs [(273,(gN.c,gN.sg))]
def cQ.h:Hint := .s .o (.s .o (.s (.s .o (.b (.l [(1,.no),(2,.ptr 34 0),(4,.ptr 36 0),(5,.ptr 37 0),(9,.no),(34,.cl []),(36,.cl []),(37,.cl [])] (.s .o (.s .o (.s (.b (.s .o (.s .o (.b (.l [(1,.no),(2,.ptr 34 0),(4,.ptr 36 0),(5,.ptr 37 0),(6,.no),(9,.no),(12,.no),(13,.no),(34,.cl []),(36,.cl []),(37,.cl [])] .o))))) .o)))))) .o))
def cQ.F (l:Qd) (w:Int):OT:=cI PG cQ.E 262 cQ.sg cQ.h [(.ag (Qd.cells l)),(.i .i64 w)]
def cQ.l1 (x0:Int) (x1:Int) (x2:Qd) (x3:Qd) (x4:Qd):OT:=dL PG cQ.E 262 cQ.sg cQ.h 43 [(.i .i64 x0),.pt,.pt,.pt,(.i .i64 x1),(.ag (Qd.cells x2)),(.ag (Qd.cells x3)),(.ag (Qd.cells x4))]
def cQ.l2 (x0:Int) (x1:Int) (x2:Int) (x3:Qd) (x4:Int) (x5:Qd) (x6:Qd) (x7:Qd):OT:=dL PG cQ.E 262 cQ.sg cQ.h 11467 [(.i .i64 x0),.pt,.pt,.pt,(.i .i64 x1),(.i .i64 x2),(.ag (Qd.cells x3)),(.i .i64 x4),(.ag (Qd.cells x5)),(.ag (Qd.cells x6)),(.ag (Qd.cells x7))]
theorem cQ.zD (x0:Int) (x1:Int) (x2:Qd) (x3:Qd) (x4:Qd):cQ.l1 x0 x1 x2 x3 x4=cond (decide (x1<(4:Int)))
  (cQ.l2 x0 x1 x1 x2 (0:Int) x2 x3 x4)
  (some [(.ag (Qd.cells x4))]):=((bV _ _ _ _ _ _ _).trans (by kernel_rfl))
theorem cQ.iu (x0:Int) (x1:Int) (x2:Int) (x3:Qd) (x4:Int) (x5:Qd) (x6:Qd) (x7:Qd) {ρ:OT} (K:∀(v1:Int) (h1:v1=(IntKind.i64.wrap ((IntKind.i64.wrap (x4 * x1)) * x0))) (v2:Cx) (h2:v2=(Gz.ie ((Qd.get x3 ((x4).toNat))) v1)) (v3:Cx) (h3:v3=((Fl.add (Qd.get x7 ((x1).toNat)).1 v2.1,Fl.add (Qd.get x7 ((x1).toNat)).2 v2.2):Cx)) (v4:Int) (h4:v4=(IntKind.i64.wrap (x4+(1:Int)))) (v5:Int) (h5:v5=(IntKind.i64.wrap (x2+(1:Int)))),cond (decide (x4<(4:Int)))
  (ck (bD x4 4) (ck (bD x1 4) (ck (decide ((x1).toNat<4)) (ck (Gz.vt ((Qd.get x3 ((x4).toNat))) 1125899906842624&&decide (-100≤v1∧v1≤100)) (ck (Fl.lx (Qd.get x7 ((x1).toNat)).1 v2.1&&Fl.lx (Qd.get x7 ((x1).toNat)).2 v2.2) (ck (bD x1 4) (ck (decide ((x1).toNat<4)) (cQ.l2 x0 x1 x2 x3 v4 x5 x6 (Qd.set x7 ((x1).toNat) v3)))))))))
  (cQ.l1 x0 v5 x5 x6 x7)=ρ):cQ.l2 x0 x1 x2 x3 x4 x5 x6 x7=ρ:=((bV _ _ _ _ _ _ _).trans (by kernel_rfl)).trans (K _ rfl _ rfl _ rfl _ rfl _ rfl)
theorem cQ.dW (l:Qd) (w:Int):cQ.F l w=cQ.l1 w (0:Int) l (Qd.mk ((0,0):Cx) ((0,0):Cx) ((0,0):Cx) ((0,0):Cx)) (Qd.mk ((0,0):Cx) ((0,0):Cx) ((0,0):Cx) ((0,0):Cx)):=by kernel_rfl
def gG.E:cr:=cL fC zs [(261,(eW.c,eW.sg)),(262,(cQ.c,cQ.sg))]
def gG.h:Hint := .o
def gG.F (l:Qd):OT:=cI PG gG.E 259 gG.sg gG.h [(.ag (Qd.cells l))]
theorem gG.dW (l:Qd):gG.F l=ck (Gz.ye l 1125899906842624) (cond (!(true))
  (some [(.ag [(.c (.complex .f64 ((0,0):Cx).1 ((0,0):Cx).2)),(.c (.complex .f64 ((0,0):Cx).1 ((0,0):Cx).2)),(.c (.complex .f64 ((0,0):Cx).1 ((0,0):Cx).2)),(.c (.complex .f64 ((0,0):Cx).1 ((0,0):Cx).2))])])
  (ck (Gz.ye l 1125899906842624&&decide (((1:Int))=1∨((1:Int))=-1)) (some [(.ag (Qd.cells (Gz.nx l ((1:Int)))))]))):=by kernel_rfl
def ez.E:cr:=cL fC zs [(243,(fe.c,fe.sg)),(261,(eW.c,eW.sg)),(262,(cQ.c,cQ.sg))]
def ez.h:Hint := .s .o (.s .o (.s .o (.s (.s .o (.b (.l [(2,.ptr 53 0),(4,.ptr 55 0),(16,.no),(17,.no),(53,.cl []),(55,.cl [])] .o))) .o)))
def ez.F (l:Qd):OT:=cI PG ez.E 242 ez.sg ez.h [(.ag (Qd.cells l))]
def ez.l1 (x0:Qd) (x1:Int) (x2:Qd) (x3:Qd):OT:=dL PG ez.E 242 ez.sg ez.h 87 [.pt,.pt,(.ag (Qd.cells x0)),(.i .i64 x1),(.ag (Qd.cells x2)),(.ag (Qd.cells x3))]
theorem ez.bX (x0:Qd) (x1:Int) (x2:Qd) (x3:Qd) {ρ:OT} (K:∀(v1:Int) (h1:v1=(Fl.toInt (((Qd.get x0 ((x1).toNat)))).1)) (v2:Int) (h2:v2=(Fl.toInt (((Qd.get x0 ((x1).toNat)))).2)) (v3:Bool) (h3:v3=(cond (!(true)) true (!decide ((Int.tmod v1 (4:Int))=(0:Int))))) (v4:Bool) (h4:v4=(cond v3 true (!decide ((Int.tmod v2 (4:Int))=(0:Int))))) (v5:Int) (h5:v5=(IntKind.i64.wrap (Int.tdiv v1 (4:Int)))) (v6:Int) (h6:v6=(IntKind.i64.wrap (Int.tdiv v2 (4:Int)))) (v7:Cx) (h7:v7=(((Fl.ofInt v5),(Fl.ofInt v6)):Cx)) (v8:Int) (h8:v8=(IntKind.i64.wrap (x1+(1:Int)))),cond (decide (x1<(4:Int)))
  (ck (bD x1 4) (ck (Gz.vt ((Qd.get x0 ((x1).toNat))) 4503599627370496) (ck (!(!(!(true))) || ((!(!(true)))&&(!decide ((4:Int)=0)))) (ck (!(!(!(true))) || (!(!(true)))) (ck ((!(true)) || (!(!(true)))) (ck (!(!v3) || ((!v3)&&(!decide ((4:Int)=0)))) (ck (!(!v3) || (!v3)) (ck (v3 || (!v3)) (cond v4
  (some [(.ag [(.c (.complex .f64 ((0,0):Cx).1 ((0,0):Cx).2)),(.c (.complex .f64 ((0,0):Cx).1 ((0,0):Cx).2)),(.c (.complex .f64 ((0,0):Cx).1 ((0,0):Cx).2)),(.c (.complex .f64 ((0,0):Cx).1 ((0,0):Cx).2))]),(.b false)])
  (ck (!decide ((4:Int)=0)) (ck (!decide ((4:Int)=0)) (ck (bD x1 4) (ck (decide ((x1).toNat<4)) (ez.l1 x0 v8 x2 (Qd.set x3 ((x1).toNat) v7)))))))))))))))
  (some [(.ag (Qd.cells x3)),(.b true)])=ρ):ez.l1 x0 x1 x2 x3=ρ:=((bV _ _ _ _ _ _ _).trans (by kernel_rfl)).trans (K _ rfl _ rfl _ rfl _ rfl _ rfl _ rfl _ rfl _ rfl)
theorem ez.dW (l:Qd):ez.F l=ck (Gz.ye l 1125899906842624) (cond (!(true))
  (some [(.ag [(.c (.complex .f64 ((0,0):Cx).1 ((0,0):Cx).2)),(.c (.complex .f64 ((0,0):Cx).1 ((0,0):Cx).2)),(.c (.complex .f64 ((0,0):Cx).1 ((0,0):Cx).2)),(.c (.complex .f64 ((0,0):Cx).1 ((0,0):Cx).2))]),(.b false)])
  (ck (Gz.ye l 1125899906842624&&decide (((-1:Int))=1∨((-1:Int))=-1)) (ez.l1 (Gz.nx l ((-1:Int))) (0:Int) (Qd.mk ((0,0):Cx) ((0,0):Cx) ((0,0):Cx) ((0,0):Cx)) (Gz.nx l ((-1:Int)))))):=by kernel_rfl
def cV.E:cr:=cL fC zs []
def cV.h:Hint := .s .o (.s (.s .o (.b (.l (sc [0,5,6,7]) .o))) .o)
def cV.F (l:List Int):OT:=cI PG cV.E 239 cV.sg cV.h [(.sl .is l)]
def cV.l1 (x0:List Int) (x1:List Int) (x2:Int) (x3:Int):OT:=dL PG cV.E 239 cV.sg cV.h 21 [(.sl .is x0),(.sl .is x1),(.i .i64 x2),(.i .i64 x3)]
theorem cV.bX (x0:List Int) (x1:List Int) (x2:Int) (x3:Int) {ρ:OT} (K:∀(v1:Int) (h1:v1=(List.getD x1 (x3).toNat (0:Int))) (v2:Bool) (h2:v2=(cond (decide (v1<(0:Int))) true (decide ((65535:Int)<v1)))) (v3:Int) (h3:v3=(IntKind.i64.wrap (x3+(1:Int)))),cond (decide (x3<x2))
  (ck (bD x3 (x1).length) (ck (!(!(decide (v1<(0:Int)))) || (!(decide (v1<(0:Int))))) (ck ((decide (v1<(0:Int))) || (!(decide (v1<(0:Int))))) (cond v2
  (some [(.b false)])
  (cV.l1 x0 x1 x2 v3)))))
  (some [(.b (decide (((x0).length:Int)≤(256:Int))))])=ρ):cV.l1 x0 x1 x2 x3=ρ:=((bV _ _ _ _ _ _ _).trans (by kernel_rfl)).trans (K _ rfl _ rfl _ rfl)
theorem cV.dW (l:List Int):cV.F l=cV.l1 l l ((l).length:Int) (0:Int):=by kernel_rfl
def cK.E:cr:=cL fC zs [(258,(jN.c,jN.sg)),(259,(gG.c,gG.sg))]
def cK.h:Hint := .s .o (.s .o (.s (.s .o (.b (.l [(0,.no),(3,.fB 800000),(800000,.pv),(4,.no)] (.s .o (.s (.b (.s .o (.j [(0,.no),(3,.fB 800000),(800000,.pv),(4,.no),(5,.ptr 41 0),(41,.cl [])] .o .o))) .o))))) .o))
def cK.F (l:List Int):OT:=cI PG cK.E 240 cK.sg cK.h [(.sl .is l)]
def cK.l1 (x0:List Int) (x1:List Qd) (x2:Int):OT:=dL PG cK.E 240 cK.sg cK.h 43 [(.sl .is x0),.pt,(.sl .qd x1),(.i .i64 x2)]
def cK.j2 (x0:List Int) (x1:List Qd) (x2:Int) (x3:Qd):OT:=eD PG cK.E 240 cK.sg cK.h 1611 [(.sl .is x0),.pt,(.sl .qd x1),(.i .i64 x2),.pt,(.ag (Qd.cells x3))]
theorem cK.bX (x0:List Int) (x1:List Qd) (x2:Int) {ρ:OT} (K:∀(v1:Int) (h1:v1=(List.getD x0 (x2).toNat (0:Int))) (v2:Cx) (h2:v2=(((Fl.ofInt v1,Fl.ofInt ((0:Int))):Cx))) (v3:Int) (h3:v3=(IntKind.i64.wrap (x2+(1:Int)))) (v4:Int) (h4:v4=(List.getD x0 (v3).toNat (0:Int))) (v5:Cx) (h5:v5=(((Fl.ofInt v4,Fl.ofInt ((0:Int))):Cx))) (v6:Qd) (h6:v6=(Qd.set (Qd.mk v2 ((0,0):Cx) ((0,0):Cx) ((0,0):Cx)) (((1:Int)).toNat) v5)),cond (decide (x2<((x0).length:Int)))
  (ck (bD x2 (x0).length) (ck (decide (-33554432≤v1∧v1≤33554432∧-33554432≤((0:Int))∧((0:Int))≤33554432)) (cond (decide (v3<((x0).length:Int)))
  (ck (bD v3 (x0).length) (ck (decide (-33554432≤v4∧v4≤33554432∧-33554432≤((0:Int))∧((0:Int))≤33554432)) (ck (bD (1:Int) 4) (ck (decide (((1:Int)).toNat<4)) (cK.j2 x0 x1 x2 v6)))))
  (cK.j2 x0 x1 x2 (Qd.mk v2 ((0,0):Cx) ((0,0):Cx) ((0,0):Cx))))))
  (some [(.sl .qd x1)])=ρ):cK.l1 x0 x1 x2=ρ:=((bV _ _ _ _ _ _ _).trans (by kernel_rfl)).trans (K _ rfl _ rfl _ rfl _ rfl _ rfl _ rfl)
theorem cK.jx (x0:List Int) (x1:List Qd) (x2:Int) (x3:Qd) {ρ:OT} (K:∀(v1:List Qd) (h1:v1=(x1++([(Gz.nx x3 1)]:List Qd))) (v2:Int) (h2:v2=(IntKind.i64.wrap (x2+(2:Int)))),ck (Gz.ye x3 1125899906842624) (ck (fi ((x1).length+(([(Gz.nx x3 1)]:List Qd)).length) 64) (cK.l1 x0 v1 v2))=ρ):cK.j2 x0 x1 x2 x3=ρ:=((cp _ _ _ _ _ _ _).trans (by kernel_rfl)).trans (K _ rfl _ rfl)
theorem cK.dW (l:List Int):cK.F l=cK.l1 l ([]:List Qd) (0:Int):=by kernel_rfl
def bO.E:cr:=cL fC zs [(239,(cV.c,cV.sg)),(240,(cK.c,cK.sg)),(241,(fM.c,fM.sg)),(242,(ez.c,ez.sg)),(243,(fe.c,fe.sg))]
def bO.h:Hint := .s .o (.s .o (.s .o (.s .o (.s .o (.s (.s .o (.b (.l [(0,.no),(1,.no),(6,.fB 800000),(8,.no),(48,.no),(49,.no),(50,.no),(800000,.pv)] (.s .o (.s .o (.s (.b (.s .o (.s .o (.b (.l [(0,.no),(1,.no),(6,.fB 800000),(8,.no),(9,.no),(10,.ptr 126 0),(48,.no),(49,.no),(50,.no),(55,.no),(56,.no),(57,.no),(126,.cl []),(800000,.pv)] (.s .o (.s .o (.s (.b (.s .o (.s .o (.s (.s .o (.b (.l [(0,.no),(1,.no),(6,.fB 800000),(8,.no),(9,.no),(10,.ptr 126 0),(11,.no),(12,.ptr 128 0),(13,.ptr 129 0),(48,.no),(49,.no),(50,.no),(55,.no),(56,.no),(57,.no),(62,.no),(126,.cl []),(128,.cl []),(129,.cl []),(800000,.pv)] .o))) (.s .o (.s .o (.b (.l [(0,.no),(1,.no),(6,.fB 800000),(8,.no),(9,.no),(10,.ptr 126 0),(11,.no),(15,.ptr 131 0),(48,.no),(49,.no),(50,.no),(55,.no),(56,.no),(57,.no),(80,.no),(126,.cl []),(131,.cl []),(800000,.pv)] .o)))))))) .o)))))))) .o)))))) .o)))))
def bO.F (a:List Int) (b:List Int):OT:=cI PG bO.E 216 bO.sg bO.h [(.sl .is a),(.sl .is b)]
def bO.l1 (x0:List Int) (x1:List Int) (x2:List Qd) (x3:List Qd) (x4:Int) (x5:Int) (x6:List Int):OT:=dL PG bO.E 216 bO.sg bO.h 351 [(.sl .is x0),(.sl .is x1),.pt,(.sl .qd x2),(.sl .qd x3),(.i .i64 x4),(.i .i64 x5),(.sl .is x6)]
def bO.l2 (x0:List Int) (x1:List Int) (x2:List Qd) (x3:Int) (x4:List Qd) (x5:Int) (x6:Int) (x7:List Qd) (x8:Int) (x9:Int) (mP:Qd) (kC:List Int):OT:=dL PG bO.E 216 bO.sg bO.h 91743 [(.sl .is x0),(.sl .is x1),.pt,(.sl .qd x2),(.i .i64 x3),.pt,(.sl .qd x4),(.i .i64 x5),(.i .i64 x6),(.sl .qd x7),(.i .i64 x8),(.i .i64 x9),(.ag (Qd.cells mP)),(.sl .is kC)]
def bO.l3 (x0:List Int) (x1:List Int) (x2:List Qd) (x3:Int) (x4:Int) (x5:List Qd) (x6:Int) (x7:Int) (x8:List Qd) (x9:Int) (mP:Int) (kC:Int) (nY:Qd) (nT:Qd) (mO:Qd) (qa:List Int):OT:=dL PG bO.E 216 bO.sg bO.h 90596959 [(.sl .is x0),(.sl .is x1),.pt,(.sl .qd x2),(.i .i64 x3),.pt,(.i .i64 x4),.pt,.pt,(.sl .qd x5),(.i .i64 x6),(.i .i64 x7),(.sl .qd x8),(.i .i64 x9),(.i .i64 mP),(.i .i64 kC),(.ag (Qd.cells nY)),(.ag (Qd.cells nT)),(.ag (Qd.cells mO)),(.sl .is qa)]
def bO.l4 (x0:List Int) (x1:List Int) (x2:List Qd) (x3:Int) (x4:Int) (x5:List Qd) (x6:Int) (x7:Int) (x8:List Qd) (x9:Int) (mP:Int) (kC:Int) (nY:Qd) (nT:Qd) (mO:List Int):OT:=dL PG bO.E 216 bO.sg bO.h 199648863 [(.sl .is x0),(.sl .is x1),.pt,(.sl .qd x2),(.i .i64 x3),.pt,(.i .i64 x4),.pt,(.sl .qd x5),(.i .i64 x6),(.i .i64 x7),(.sl .qd x8),(.i .i64 x9),(.i .i64 mP),(.i .i64 kC),(.ag (Qd.cells nY)),(.ag (Qd.cells nT)),(.sl .is mO)]
theorem bO.bX (x0:List Int) (x1:List Int) (x2:List Qd) (x3:List Qd) (x4:Int) (x5:Int) (x6:List Int) {ρ:OT} (K:∀(v1:Qd) (h1:v1=(List.getD x3 (x5).toNat (fx.gm .qd))) (v2:Int) (h2:v2=(IntKind.i64.wrap (((x0).length:Int)+((x1).length:Int)))) (v3:Int) (h3:v3=(IntKind.i64.wrap (v2 - (1:Int)))),cond (decide (x5<x4))
  (ck (bD x5 (x3).length) (bO.l2 x0 x1 x2 x5 x3 x4 x5 x2 ((x2).length:Int) (0:Int) v1 x6))
  (ck (gY 0 v3 (x6).length) (ck (fi ((List.take (v3).toNat x6)).length 8) (some [(.sl .is (List.take (v3).toNat x6)),(.b true)])))=ρ):bO.l1 x0 x1 x2 x3 x4 x5 x6=ρ:=((bV _ _ _ _ _ _ _).trans (by kernel_rfl)).trans (K _ rfl _ rfl _ rfl)
theorem bO.iu (x0:List Int) (x1:List Int) (x2:List Qd) (x3:Int) (x4:List Qd) (x5:Int) (x6:Int) (x7:List Qd) (x8:Int) (x9:Int) (mP:Qd) (kC:List Int) {ρ:OT} (K:∀(v1:Qd) (h1:v1=(List.getD x7 (x9).toNat (fx.gm .qd))) (v2:Int) (h2:v2=(IntKind.i64.wrap (x6+(1:Int)))),cond (decide (x9<x8))
  (ck (bD x9 (x7).length) (bO.l3 x0 x1 x2 x3 x9 x4 x5 x6 x7 x8 x9 (0:Int) mP v1 (Qd.mk ((0,0):Cx) ((0,0):Cx) ((0,0):Cx) ((0,0):Cx)) kC))
  (bO.l1 x0 x1 x2 x4 x5 v2 kC)=ρ):bO.l2 x0 x1 x2 x3 x4 x5 x6 x7 x8 x9 mP kC=ρ:=((bV _ _ _ _ _ _ _).trans (by kernel_rfl)).trans (K _ rfl _ rfl)
theorem bO.uH (x0:List Int) (x1:List Int) (x2:List Qd) (x3:Int) (x4:Int) (x5:List Qd) (x6:Int) (x7:Int) (x8:List Qd) (x9:Int) (mP:Int) (kC:Int) (nY:Qd) (nT:Qd) (mO:Qd) (qa:List Int) {ρ:OT} (K:∀(v1:Cx) (h1:v1=(Gz.mul ((Qd.get nY ((kC).toNat))) ((Qd.get nT ((kC).toNat))))) (v2:Qd) (h2:v2=(Qd.set mO ((kC).toNat) v1)) (v3:Int) (h3:v3=(IntKind.i64.wrap (kC+(1:Int)))),cond (decide (kC<(4:Int)))
  (ck (bD kC 4) (ck (decide ((kC).toNat<4)) (ck (bD kC 4) (ck (decide ((kC).toNat<4)) (ck (Gz.vt ((Qd.get nY ((kC).toNat))) 33554432&&Gz.vt ((Qd.get nT ((kC).toNat))) 33554432) (ck (bD kC 4) (ck (decide ((kC).toNat<4)) (bO.l3 x0 x1 x2 x3 x4 x5 x6 x7 x8 x9 mP v3 nY nT v2 qa))))))))
  (ck (Gz.ye mO 1125899906842624&&Gz.LU mO) (bO.l4 x0 x1 x2 x3 x4 x5 x6 x7 x8 x9 mP (0:Int) nY (Gz.back mO) qa))=ρ):bO.l3 x0 x1 x2 x3 x4 x5 x6 x7 x8 x9 mP kC nY nT mO qa=ρ:=((bV _ _ _ _ _ _ _).trans (by kernel_rfl)).trans (K _ rfl _ rfl _ rfl)
theorem bO.zC (x0:List Int) (x1:List Int) (x2:List Qd) (x3:Int) (x4:Int) (x5:List Qd) (x6:Int) (x7:Int) (x8:List Qd) (x9:Int) (mP:Int) (kC:Int) (nY:Qd) (nT:Qd) (mO:List Int) {ρ:OT} (K:∀(v1:Int) (h1:v1=(Fl.toInt (((Qd.get nT ((kC).toNat)))).1)) (v2:Int) (h2:v2=(Fl.toInt (((Qd.get nT ((kC).toNat)))).2)) (v3:Int) (h3:v3=(IntKind.i64.wrap ((2:Int) * x3))) (v4:Int) (h4:v4=(IntKind.i64.wrap ((2:Int) * x4))) (v5:Int) (h5:v5=(IntKind.i64.wrap ((IntKind.i64.wrap (v3+v4))+kC))) (v6:Int) (h6:v6=(List.getD mO ((v5).toNat) (0:Int))) (v7:List Int) (h7:v7=(List.set mO ((v5).toNat) (IntKind.i64.wrap (v6+v1)))) (v8:Int) (h8:v8=(IntKind.i64.wrap (kC+(1:Int)))) (v9:Int) (h9:v9=(IntKind.i64.wrap (mP+(1:Int)))),cond (decide (kC<(3:Int)))
  (ck (bD kC 4) (ck (decide ((kC).toNat<4)) (ck (Gz.vt ((Qd.get nT ((kC).toNat))) 4503599627370496) (ck (bD v5 (mO).length) (ck (decide ((v5).toNat<(mO).length)) (ck (bD v5 (mO).length) (ck (decide ((v5).toNat<(mO).length)) (bO.l4 x0 x1 x2 x3 x4 x5 x6 x7 x8 x9 mP v8 nY nT v7))))))))
  (bO.l2 x0 x1 x2 x3 x5 x6 x7 x8 x9 v9 nY mO)=ρ):bO.l4 x0 x1 x2 x3 x4 x5 x6 x7 x8 x9 mP kC nY nT mO=ρ:=((bV _ _ _ _ _ _ _).trans (by kernel_rfl)).trans (K _ rfl _ rfl _ rfl _ rfl _ rfl _ rfl _ rfl _ rfl _ rfl)
theorem bO.bY (a:List Int) (b:List Int) {ρ:OT} (K:∀(v1:Bool) (h1:v1=(cond (!(true)) true (!(true)))) (v2:Bool) (h2:v2=(cond (decide (((a).length:Int)=(0:Int))) true (decide (((b).length:Int)=(0:Int))))) (v3:Int) (h3:v3=(IntKind.i64.wrap (((a).length:Int)+((b).length:Int)))) (v4:Int) (h4:v4=(IntKind.i64.wrap (v3+(2:Int)))) (v5:List Int) (h5:v5=(List.replicate (v4).toNat (0:Int))) (v6:Int) (h6:v6=(((Gz.iE a)).length:Int)),ck (decide ((a).length≤256)&&Gz.iT a) (ck (!(!(!(true))) || ((!(!(true)))&&(decide ((b).length≤256)&&Gz.iT b))) (ck (!(!(!(true))) || (!(!(true)))) (ck ((!(true)) || (!(!(true)))) (cond v1
  (some [(.sl .is ([]:List Int)),(.b false)])
  (ck (!(!(decide (((a).length:Int)=(0:Int)))) || (!(decide (((a).length:Int)=(0:Int))))) (ck (!(!(decide (((a).length:Int)=(0:Int)))) || (!(decide (((a).length:Int)=(0:Int))))) (ck ((decide (((a).length:Int)=(0:Int))) || (!(decide (((a).length:Int)=(0:Int))))) (cond v2
  (some [(.sl .is ([]:List Int)),(.b true)])
  (ck (pO v4 v4 8) (ck (decide ((a).length≤256)&&Gz.iT a) (ck (decide ((b).length≤256)&&Gz.iT b) (bO.l1 a b (Gz.iE b) (Gz.iE a) v6 (0:Int) v5))))))))))))=ρ):bO.F a b=ρ:=Eq.trans (by kernel_rfl) (K _ rfl _ rfl _ rfl _ rfl _ rfl _ rfl)
def dm.E:cr:=cL fC zs []
def dm.h:Hint := .s .o (.s (.b (.l (sc [0]) .o)) .o)
def dm.F (a:List UInt16):OT:=cI PG dm.E 190 dm.sg dm.h [(.sl .ws a)]
def dm.l1 (x0:List UInt16):OT:=dL PG dm.E 190 dm.sg dm.h 9 [(.sl .ws x0)]
theorem dm.bX (x0:List UInt16) {ρ:OT} (K:∀(v1:Int) (h1:v1=(IntKind.i64.wrap (((x0).length:Int) - (1:Int)))) (v2:UInt16) (h2:v2=(List.getD x0 (v1).toNat (0:UInt16))) (v3:Bool) (h3:v3=(cond (decide ((0:Int)<((x0).length:Int))) (decide (v2=(0:UInt16))) false)),ck (!(decide ((0:Int)<((x0).length:Int))) || (decide ((0:Int)<((x0).length:Int)))) (ck (!(decide ((0:Int)<((x0).length:Int))) || (decide ((0:Int)<((x0).length:Int)))) (ck (!(decide ((0:Int)<((x0).length:Int))) || (((decide ((0:Int)<((x0).length:Int)))&&(decide ((0:Int)<((x0).length:Int))))&&(bD v1 (x0).length))) (ck (!(decide ((0:Int)<((x0).length:Int))) || (decide ((0:Int)<((x0).length:Int)))) (ck (!(decide ((0:Int)<((x0).length:Int))) || (decide ((0:Int)<((x0).length:Int)))) (ck (!(decide ((0:Int)<((x0).length:Int))) || (decide ((0:Int)<((x0).length:Int)))) (cond v3
  (ck (gY 0 v1 (x0).length) (dm.l1 (List.take (v1).toNat x0)))
  (some [(.sl .ws x0)])))))))=ρ):dm.l1 x0=ρ:=((bV _ _ _ _ _ _ _).trans (by kernel_rfl)).trans (K _ rfl _ rfl _ rfl)
theorem dm.dW (a:List UInt16):dm.F a=dm.l1 a:=by kernel_rfl
def fj.E:cr:=cL fC zs []
def fj.h:Hint := .o
def fj.F (a:List UInt16):OT:=cI PG fj.E 149 fj.sg fj.h [(.sl .ws a)]
theorem fj.bY (a:List UInt16) {ρ:OT} (K:∀(v1:Bool) (h1:v1=((decide (((a).length:Int)≤(256:Int)))&&(!(decide (((a).length:Int)=(0:Int)))))) (v2:Int) (h2:v2=(IntKind.i64.wrap (((a).length:Int) - (1:Int)))) (v3:UInt16) (h3:v3=(List.getD a (v2).toNat (0:UInt16))) (v4:Bool) (h4:v4=(cond (decide (((a).length:Int)=(0:Int))) true (!decide (v3=(0:UInt16))))) (v5:Bool) (h5:v5=(cond (decide (((a).length:Int)≤(256:Int))) v4 false)),ck (!(decide (((a).length:Int)≤(256:Int))) || (decide (((a).length:Int)≤(256:Int)))) (ck (!(decide (((a).length:Int)≤(256:Int))) || (decide (((a).length:Int)≤(256:Int)))) (ck (!(decide (((a).length:Int)≤(256:Int))) || (decide (((a).length:Int)≤(256:Int)))) (ck (!v1 || v1) (ck (!v1 || v1) (ck (!v1 || ((v1&&v1)&&(bD v2 (a).length))) (ck (!v1 || v1) (ck (!v1 || v1) (ck (!(decide (((a).length:Int)≤(256:Int))) || ((decide (((a).length:Int)≤(256:Int)))&&((decide (((a).length:Int)=(0:Int))) || v1))) (ck (!(decide (((a).length:Int)≤(256:Int))) || (decide (((a).length:Int)≤(256:Int)))) (some [(.b v5)]))))))))))=ρ):fj.F a=ρ:=Eq.trans (by kernel_rfl) (K _ rfl _ rfl _ rfl _ rfl _ rfl)
def fv.E:cr:=cL fC zs []
def fv.h:Hint := .s .o (.s .o (.s (.b (.l [(0,.no),(3,.fB 800000),(800000,.pv)] .o)) .o))
def fv.F (v:UInt64):OT:=cI PG fv.E 116 fv.sg fv.h [(.u64 v)]
def fv.l1 (x0:UInt64) (x1:List UInt16):OT:=dL PG fv.E 116 fv.sg fv.h 19 [(.u64 x0),.pt,(.sl .ws x1)]
theorem fv.bX (x0:UInt64) (x1:List UInt16) {ρ:OT} (K:∀(v1:UInt16) (h1:v1=(UInt16.ofInt ((x0).toNat:Int))) (v2:UInt64) (h2:v2=(dQ x0 (((16:UInt64)).toNat))),cond (decide ((0:UInt64)<x0))
  (ck (fi ((x1).length+(([v1]:List UInt16)).length) 2) (fv.l1 v2 (x1++([v1]:List UInt16))))
  (some [(.sl .ws x1)])=ρ):fv.l1 x0 x1=ρ:=((bV _ _ _ _ _ _ _).trans (by kernel_rfl)).trans (K _ rfl _ rfl)
theorem fv.dW (v:UInt64):fv.F v=fv.l1 v ([]:List UInt16):=by kernel_rfl
def dy.E:cr:=cL fC zs [(149,(fj.c,fj.sg))]
def dy.h:Hint := .s .o (.s .o (.s .o (.s (.s .o (.b (.l (sc [4,15,16,17]) .o))) .o)))
def dy.F (a:List UInt16):OT:=cI PG dy.E 267 dy.sg dy.h [(.sl .ws a)]
def dy.l1 (x0:UInt64) (x1:List UInt16) (x2:Int) (x3:Int):OT:=dL PG dy.E 267 dy.sg dy.h 87 [(.u64 x0),(.sl .ws x1),(.i .i64 x2),(.i .i64 x3)]
theorem dy.bX (x0:UInt64) (x1:List UInt16) (x2:Int) (x3:Int) {ρ:OT} (K:∀(v1:UInt16) (h1:v1=(List.getD x1 (x3).toNat (0:UInt16))) (v2:UInt64) (h2:v2=(UInt64.ofInt ((v1).toNat:Int))) (v3:Int) (h3:v3=(IntKind.i64.wrap ((16:Int) * x3))) (v4:UInt64) (h4:v4=(x0 ||| (jr v2 ((v3).toNat)))) (v5:Int) (h5:v5=(IntKind.i64.wrap (x3+(1:Int)))),cond (decide (x3<x2))
  (ck (bD x3 (x1).length) (ck (decide (0≤v3)) (dy.l1 v4 x1 x2 v5)))
  (some [(.u64 x0),(.b true)])=ρ):dy.l1 x0 x1 x2 x3=ρ:=((bV _ _ _ _ _ _ _).trans (by kernel_rfl)).trans (K _ rfl _ rfl _ rfl _ rfl _ rfl)
theorem dy.bY (a:List UInt16) {ρ:OT} (K:∀(v1:Bool) (h1:v1=(cond (!(Nt.is a)) true (decide ((4:Int)<((a).length:Int))))),ck (decide ((a).length≤1099511627776)) (ck (!(!(!(Nt.is a))) || (!(!(Nt.is a)))) (ck (!(!(!(Nt.is a))) || (!(!(Nt.is a)))) (ck ((!(Nt.is a)) || (!(!(Nt.is a)))) (cond v1
  (some [(.u64 0),(.b false)])
  (dy.l1 (0:UInt64) a ((a).length:Int) (0:Int))))))=ρ):dy.F a=ρ:=Eq.trans (by kernel_rfl) (K _ rfl)
def fY.E:cr:=cL fC zs [(149,(fj.c,fj.sg)),(151,(cw.c,cw.sg))]
def fY.h:Hint := .o
def fY.F (a:List UInt16):OT:=cI PG fY.E 118 fY.sg fY.h [(.sl .ws a)]
theorem fY.bY (a:List UInt16) {ρ:OT} (K:∀(v1:Bool) (h1:v1=(cond (!(Nt.is a)) true (decide (((a).length:Int)=(0:Int))))) (v2:Int) (h2:v2=(IntKind.i64.wrap (((a).length:Int) - (1:Int)))) (v3:Int) (h3:v3=(IntKind.i64.wrap ((16:Int) * v2))) (v4:UInt16) (h4:v4=(List.getD a (v2).toNat (0:UInt16))) (v5:Int) (h5:v5=(IntKind.i64.wrap (v3+((Nt.bits (v4).toNat:Int))))),ck (decide ((a).length≤1099511627776)) (ck (!(!(!(Nt.is a))) || (!(!(Nt.is a)))) (ck (!(!(!(Nt.is a))) || (!(!(Nt.is a)))) (ck ((!(Nt.is a)) || (!(!(Nt.is a)))) (cond v1
  (some [(.i .i64 0)])
  (ck (bD v2 (a).length) (some [(.i .i64 v5)]))))))=ρ):fY.F a=ρ:=Eq.trans (by kernel_rfl) (K _ rfl _ rfl _ rfl _ rfl _ rfl)
def fc.E:cr:=cL fC zs []
def fc.h:Hint := .s .o (.s .o (.s (.s .o (.b (.l (sc [0,1,5]) .o))) .o))
def fc.F (a:List UInt16) (b:List UInt16):OT:=cI PG fc.E 186 fc.sg fc.h [(.sl .ws a),(.sl .ws b)]
def fc.l1 (x0:List UInt16) (x1:List UInt16) (x2:Int):OT:=dL PG fc.E 186 fc.sg fc.h 43 [(.sl .ws x0),(.sl .ws x1),(.i .i64 x2)]
theorem fc.bX (x0:List UInt16) (x1:List UInt16) (x2:Int) {ρ:OT} (K:∀(v1:UInt16) (h1:v1=(List.getD x0 (x2).toNat (0:UInt16))) (v2:UInt16) (h2:v2=(List.getD x1 (x2).toNat (0:UInt16))) (v3:Int) (h3:v3=(IntKind.i64.wrap (x2 - (1:Int)))),cond (decide ((0:Int)≤x2))
  (ck (bD x2 (x0).length) (ck (bD x2 (x1).length) (cond (!decide (v1=v2))
  (ck (bD x2 (x0).length) (ck (bD x2 (x1).length) (cond (decide (v1<v2))
  (some [(.i .i64 (-1))])
  (some [(.i .i64 1)]))))
  (fc.l1 x0 x1 v3))))
  (some [(.i .i64 0)])=ρ):fc.l1 x0 x1 x2=ρ:=((bV _ _ _ _ _ _ _).trans (by kernel_rfl)).trans (K _ rfl _ rfl _ rfl)
theorem fc.bY (a:List UInt16) (b:List UInt16) {ρ:OT} (K:∀(v1:Int) (h1:v1=(IntKind.i64.wrap (((a).length:Int) - (1:Int)))),cond (!decide (((a).length:Int)=((b).length:Int)))
  (cond (decide (((a).length:Int)<((b).length:Int)))
  (some [(.i .i64 (-1))])
  (some [(.i .i64 1)]))
  (fc.l1 a b v1)=ρ):fc.F a b=ρ:=Eq.trans (by kernel_rfl) (K _ rfl)
def gD.E:cr:=cL fC zs [(149,(fj.c,fj.sg)),(186,(fc.c,fc.sg))]
def gD.h:Hint := .o
def gD.F (a:List UInt16) (b:List UInt16):OT:=cI PG gD.E 153 gD.sg gD.h [(.sl .ws a),(.sl .ws b)]
theorem gD.bY (a:List UInt16) (b:List UInt16) {ρ:OT} (K:∀(v1:Bool) (h1:v1=(cond (!(Nt.is a)) true (!(Nt.is b)))) (v2:Int) (h2:v2=(Nt.cmp (Nt.val a) (Nt.val b))),ck (decide ((a).length≤1099511627776)) (ck (!(!(!(Nt.is a))) || ((!(!(Nt.is a)))&&(decide ((b).length≤1099511627776)))) (ck (!(!(!(Nt.is a))) || (!(!(Nt.is a)))) (ck ((!(Nt.is a)) || (!(!(Nt.is a)))) (cond v1
  (some [(.i .i64 0)])
  (ck (decide ((a).length≤1099511627776∧(b).length≤1099511627776)&&(Nt.norm a&&Nt.norm b)) (some [(.i .i64 v2)]))))))=ρ):gD.F a b=ρ:=Eq.trans (by kernel_rfl) (K _ rfl _ rfl)
def cH.E:cr:=cL fC zs []
def cH.h:Hint := .s .o (.s .o (.s (.s .o (.b (.l [(3,.fB 800000),(9,.no),(10,.no),(11,.no),(800000,.pv)] .o))) .o))
def cH.F (a:List UInt16):OT:=cI PG cH.E 217 cH.sg cH.h [(.sl .ws a)]
def cH.l1 (x0:List UInt16) (x1:Int) (x2:Int) (x3:List Int):OT:=dL PG cH.E 217 cH.sg cH.h 43 [.pt,(.sl .ws x0),(.i .i64 x1),(.i .i64 x2),(.sl .is x3)]
theorem cH.bX (x0:List UInt16) (x1:Int) (x2:Int) (x3:List Int) {ρ:OT} (K:∀(v1:UInt16) (h1:v1=(List.getD x0 (x2).toNat (0:UInt16))) (v2:Int) (h2:v2=(IntKind.i64.wrap ((v1).toNat:Int))) (v3:List Int) (h3:v3=(List.set x3 ((x2).toNat) v2)) (v4:Int) (h4:v4=(IntKind.i64.wrap (x2+(1:Int)))),cond (decide (x2<x1))
  (ck (bD x2 (x0).length) (ck (bD x2 (x3).length) (ck (decide ((x2).toNat<(x3).length)) (cH.l1 x0 x1 v4 v3))))
  (some [(.sl .is x3)])=ρ):cH.l1 x0 x1 x2 x3=ρ:=((bV _ _ _ _ _ _ _).trans (by kernel_rfl)).trans (K _ rfl _ rfl _ rfl _ rfl)
theorem cH.bY (a:List UInt16) {ρ:OT} (K:∀(v1:List Int) (h1:v1=(List.replicate (((a).length:Int)).toNat (0:Int))),ck (pO ((a).length:Int) ((a).length:Int) 8) (cH.l1 a ((a).length:Int) (0:Int) v1)=ρ):cH.F a=ρ:=Eq.trans (by kernel_rfl) (K _ rfl)
end
end Go.Eng
set_option maxRecDepth 100000
namespace Go.Eng
open Go.Proofs
noncomputable section
def dB.E:cr:=cL fC zs [(149,(fj.c,fj.sg)),(190,(dm.c,dm.sg)),(216,(bO.c,bO.sg)),(217,(cH.c,cH.sg))]
def dB.h:Hint := .s .o (.s .o (.s .o (.s .o (.s .o (.s (.s .o (.b (.l [(7,.fB 800000),(800000,.pv),(8,.no),(27,.no),(28,.no),(29,.no)] .o))) (.s (.b (.l [(7,.fB 800000),(800000,.pv),(8,.no)] .o)) .o))))))
def dB.F (a:List UInt16) (b:List UInt16):OT:=cI PG dB.E 185 dB.sg dB.h [(.sl .ws a),(.sl .ws b)]
def dB.l1 (x0:List UInt16) (x1:Int) (x2:List Int) (x3:Int) (x4:Int):OT:=dL PG dB.E 185 dB.sg dB.h 351 [.pt,(.sl .ws x0),(.i .i64 x1),(.sl .is x2),(.i .i64 x3),(.i .i64 x4)]
def dB.l2 (x0:List UInt16) (x1:Int):OT:=dL PG dB.E 185 dB.sg dB.h 319 [.pt,(.sl .ws x0),(.i .i64 x1)]
theorem dB.bX (x0:List UInt16) (x1:Int) (x2:List Int) (x3:Int) (x4:Int) {ρ:OT} (K:∀(v1:Int) (h1:v1=(List.getD x2 (x4).toNat (0:Int))) (v2:UInt16) (h2:v2=(UInt16.ofInt (IntKind.i64.wrap (x1+v1)))) (v3:Int) (h3:v3=(Int.fdiv (IntKind.i64.wrap (x1+v1)) (2 ^ (min (((16:UInt64)).toNat) (IntKind.i64.bits))))) (v4:Int) (h4:v4=(IntKind.i64.wrap (x4+(1:Int)))),cond (decide (x4<x3))
  (ck (bD x4 (x2).length) (ck (fi ((x0).length+(([v2]:List UInt16)).length) 2) (dB.l1 (x0++([v2]:List UInt16)) v3 x2 x3 v4)))
  (dB.l2 x0 x1)=ρ):dB.l1 x0 x1 x2 x3 x4=ρ:=((bV _ _ _ _ _ _ _).trans (by kernel_rfl)).trans (K _ rfl _ rfl _ rfl _ rfl)
theorem dB.iu (x0:List UInt16) (x1:Int) {ρ:OT} (K:∀(v1:List UInt16) (h1:v1=([(UInt16.ofInt x1)]:List UInt16)) (v2:Int) (h2:v2=(Int.fdiv x1 (2 ^ (min (((16:UInt64)).toNat) (IntKind.i64.bits))))),cond (decide ((0:Int)<x1))
  (ck (fi ((x0).length+(v1).length) 2) (dB.l2 (x0++v1) v2))
  (ck (decide ((x0).length≤1099511627776)) (some [(.sl .ws (Nt.of (Nt.val x0)))]))=ρ):dB.l2 x0 x1=ρ:=((bV _ _ _ _ _ _ _).trans (by kernel_rfl)).trans (K _ rfl _ rfl)
theorem dB.bY (a:List UInt16) (b:List UInt16) {ρ:OT} (K:∀(v1:Bool) (h1:v1=(cond (!(Nt.is a)) true (!(Nt.is b)))) (v2:List Int) (h2:v2=((a).map fun d=>(d.toNat:Int))) (v3:List Int) (h3:v3=((b).map fun d=>(d.toNat:Int))) (v4:Int) (h4:v4=(((Gz.conv v2 v3)).length:Int)),ck (decide ((a).length≤1099511627776)) (ck (!(!(!(Nt.is a))) || ((!(!(Nt.is a)))&&(decide ((b).length≤1099511627776)))) (ck (!(!(!(Nt.is a))) || (!(!(Nt.is a)))) (ck ((!(Nt.is a)) || (!(!(Nt.is a)))) (cond v1
  (some [(.sl .ws ([]:List UInt16))])
  (ck (decide ((a).length≤256)) (ck (decide ((b).length≤256)) (ck (decide ((v2).length≤256∧(v3).length≤256)&&(Gz.iT v2&&Gz.iT v3)) (dB.l1 ([]:List UInt16) (0:Int) (Gz.conv v2 v3) v4 (0:Int)))))))))=ρ):dB.F a b=ρ:=Eq.trans (by kernel_rfl) (K _ rfl _ rfl _ rfl _ rfl)
def eZ.E:cr:=cL fC zs [(190,(dm.c,dm.sg))]
def eZ.h:Hint := .s .o (.s .o (.s .o (.s (.s .o (.b (.l [(0,.no),(1,.no),(6,.fB 800000),(7,.no),(8,.no),(800000,.pv)] .o))) .o)))
def eZ.F (a:List UInt16) (d:UInt16):OT:=cI PG eZ.E 188 eZ.sg eZ.h [(.sl .ws a),(.u16 d)]
def eZ.l1 (x0:List UInt16) (x1:UInt16) (x2:UInt32) (x3:Int) (x4:List UInt16):OT:=dL PG eZ.E 188 eZ.sg eZ.h 87 [(.sl .ws x0),(.u16 x1),.pt,(.u32 x2),(.i .i64 x3),(.sl .ws x4)]
theorem eZ.bX (x0:List UInt16) (x1:UInt16) (x2:UInt32) (x3:Int) (x4:List UInt16) {ρ:OT} (K:∀(v1:UInt32) (h1:v1=(qf x2 (((16:UInt64)).toNat))) (v2:UInt16) (h2:v2=(List.getD x0 (x3).toNat (0:UInt16))) (v3:UInt32) (h3:v3=(UInt32.ofInt ((v2).toNat:Int))) (v4:UInt32) (h4:v4=(UInt32.ofInt ((x1).toNat:Int))) (v5:UInt16) (h5:v5=(UInt16.ofInt ((((v1 ||| v3) / v4)).toNat:Int))) (v6:List UInt16) (h6:v6=(List.set x4 ((x3).toNat) v5)) (v7:Int) (h7:v7=(IntKind.i64.wrap (x3 - (1:Int)))) (v8:UInt16) (h8:v8=(UInt16.ofInt ((x2).toNat:Int))),cond (decide ((0:Int)≤x3))
  (ck (bD x3 (x0).length) (ck (!decide (v4=0)) (ck (bD x3 (x4).length) (ck (decide ((x3).toNat<(x4).length)) (ck (!decide (v4=0)) (eZ.l1 x0 x1 ((v1 ||| v3) % v4) v7 v6))))))
  (ck (decide ((x4).length≤1099511627776)) (some [(.sl .ws (Nt.of (Nt.val x4))),(.u16 v8)]))=ρ):eZ.l1 x0 x1 x2 x3 x4=ρ:=((bV _ _ _ _ _ _ _).trans (by kernel_rfl)).trans (K _ rfl _ rfl _ rfl _ rfl _ rfl _ rfl _ rfl _ rfl)
theorem eZ.bY (a:List UInt16) (d:UInt16) {ρ:OT} (K:∀(v1:List UInt16) (h1:v1=(List.replicate (((a).length:Int)).toNat (0:UInt16))) (v2:Int) (h2:v2=(IntKind.i64.wrap (((a).length:Int) - (1:Int)))),ck (pO ((a).length:Int) ((a).length:Int) 2) (eZ.l1 a d (0:UInt32) v2 v1)=ρ):eZ.F a d=ρ:=Eq.trans (by kernel_rfl) (K _ rfl _ rfl)
def fq.E:cr:=cL fC zs []
def fq.h:Hint := .s .o (.s .o (.s .o (.s (.s .o (.b (.l [(1,.no),(5,.fB 800000),(800000,.pv),(6,.no),(9,.no),(10,.no),(11,.no)] .o))) (.j [(5,.fB 800000),(800000,.pv)] .o .o))))
def fq.F (a:List UInt16) (n:Int):OT:=cI PG fq.E 150 fq.sg fq.h [(.sl .ws a),(.i .i64 n)]
def fq.l1 (x0:Int) (x1:List UInt16) (x2:UInt32) (x3:List UInt16) (x4:Int) (x5:Int):OT:=dL PG fq.E 150 fq.sg fq.h 87 [(.i .i64 x0),.pt,(.sl .ws x1),(.u32 x2),(.sl .ws x3),(.i .i64 x4),(.i .i64 x5)]
def fq.j2 (x0:List UInt16):OT:=eD PG fq.E 150 fq.sg fq.h 31 [.pt,(.sl .ws x0)]
theorem fq.bX (x0:Int) (x1:List UInt16) (x2:UInt32) (x3:List UInt16) (x4:Int) (x5:Int) {ρ:OT} (K:∀(v1:UInt16) (h1:v1=(List.getD x3 (x5).toNat (0:UInt16))) (v2:UInt32) (h2:v2=(UInt32.ofInt ((v1).toNat:Int))) (v3:UInt32) (h3:v3=(x2 ||| (qf v2 ((x0).toNat)))) (v4:UInt16) (h4:v4=(UInt16.ofInt ((v3).toNat:Int))) (v5:UInt32) (h5:v5=(tV v3 (((16:UInt64)).toNat))) (v6:Int) (h6:v6=(IntKind.i64.wrap (x5+(1:Int)))) (v7:UInt16) (h7:v7=(UInt16.ofInt ((x2).toNat:Int))),cond (decide (x5<x4))
  (ck (bD x5 (x3).length) (ck (decide (0≤x0)) (ck (fi ((x1).length+(([v4]:List UInt16)).length) 2) (fq.l1 x0 (x1++([v4]:List UInt16)) v5 x3 x4 v6))))
  (cond (decide ((0:UInt32)<x2))
  (ck (fi ((x1).length+(([v7]:List UInt16)).length) 2) (fq.j2 (x1++([v7]:List UInt16))))
  (fq.j2 x1))=ρ):fq.l1 x0 x1 x2 x3 x4 x5=ρ:=((bV _ _ _ _ _ _ _).trans (by kernel_rfl)).trans (K _ rfl _ rfl _ rfl _ rfl _ rfl _ rfl _ rfl)
theorem fq.lf (x0:List UInt16):fq.j2 x0=some [(.sl .ws x0)]:=((cp _ _ _ _ _ _ _).trans (by kernel_rfl))
theorem fq.dW (a:List UInt16) (n:Int):fq.F a n=fq.l1 n ([]:List UInt16) (0:UInt32) a ((a).length:Int) (0:Int):=by kernel_rfl
def dh.E:cr:=cL fC zs [(190,(dm.c,dm.sg))]
def dh.h:Hint := .s .o (.s .o (.s (.s .o (.b (.l [(0,.no),(1,.no),(5,.fB 800000),(11,.no),(12,.no),(13,.no),(800000,.pv)] (.s .o (.s .o (.j [(0,.no),(1,.no),(5,.fB 800000),(11,.no),(12,.no),(13,.no),(800000,.pv)] .o .o)))))) .o))
def dh.F (a:List UInt16) (n:Int):OT:=cI PG dh.E 191 dh.sg dh.h [(.sl .ws a),(.i .i64 n)]
def dh.l1 (x0:List UInt16) (x1:Int) (x2:List UInt16) (x3:Int) (x4:Int) (x5:List UInt16):OT:=dL PG dh.E 191 dh.sg dh.h 43 [(.sl .ws x0),(.i .i64 x1),.pt,(.sl .ws x2),(.i .i64 x3),(.i .i64 x4),(.sl .ws x5)]
def dh.j2 (x0:List UInt16) (x1:Int) (x2:List UInt16) (x3:Int) (x4:Int) (x5:List UInt16):OT:=eD PG dh.E 191 dh.sg dh.h 459 [(.sl .ws x0),(.i .i64 x1),.pt,(.sl .ws x2),(.i .i64 x3),(.i .i64 x4),(.sl .ws x5)]
theorem dh.bX (x0:List UInt16) (x1:Int) (x2:List UInt16) (x3:Int) (x4:Int) (x5:List UInt16) {ρ:OT} (K:∀(v1:UInt16) (h1:v1=(List.getD x2 (x4).toNat (0:UInt16))) (v2:List UInt16) (h2:v2=(List.set x5 ((x4).toNat) (qe v1 ((x1).toNat)))) (v3:Int) (h3:v3=(IntKind.i64.wrap (x4+(1:Int)))) (v4:UInt16) (h4:v4=(List.getD v2 ((x4).toNat) (0:UInt16))) (v5:UInt16) (h5:v5=(List.getD x0 (v3).toNat (0:UInt16))) (v6:UInt32) (h6:v6=(UInt32.ofInt ((v5).toNat:Int))) (v7:Int) (h7:v7=(IntKind.i64.wrap ((16:Int) - x1))) (v8:UInt16) (h8:v8=(UInt16.ofInt (((qf v6 ((v7).toNat))).toNat:Int))) (v9:List UInt16) (h9:v9=(List.set v2 ((x4).toNat) (v4 ||| v8))),cond (decide (x4<x3))
  (ck (bD x4 (x2).length) (ck (decide (0≤x1)) (ck (bD x4 (x5).length) (ck (decide ((x4).toNat<(x5).length)) (cond (decide (v3<((x0).length:Int)))
  (ck (bD x4 (v2).length) (ck (decide ((x4).toNat<(v2).length)) (ck (bD v3 (x0).length) (ck (decide (0≤v7)) (ck (bD x4 (v2).length) (ck (decide ((x4).toNat<(v2).length)) (dh.j2 x0 x1 x2 x3 x4 v9)))))))
  (dh.j2 x0 x1 x2 x3 x4 v2))))))
  (ck (decide ((x5).length≤1099511627776)) (some [(.sl .ws (Nt.of (Nt.val x5)))]))=ρ):dh.l1 x0 x1 x2 x3 x4 x5=ρ:=((bV _ _ _ _ _ _ _).trans (by kernel_rfl)).trans (K _ rfl _ rfl _ rfl _ rfl _ rfl _ rfl _ rfl _ rfl _ rfl)
theorem dh.jx (x0:List UInt16) (x1:Int) (x2:List UInt16) (x3:Int) (x4:Int) (x5:List UInt16) {ρ:OT} (K:∀(v1:Int) (h1:v1=(IntKind.i64.wrap (x4+(1:Int)))),dh.l1 x0 x1 x2 x3 v1 x5=ρ):dh.j2 x0 x1 x2 x3 x4 x5=ρ:=((cp _ _ _ _ _ _ _).trans (by kernel_rfl)).trans (K _ rfl)
theorem dh.bY (a:List UInt16) (n:Int) {ρ:OT} (K:∀(v1:List UInt16) (h1:v1=(List.replicate (((a).length:Int)).toNat (0:UInt16))),ck (pO ((a).length:Int) ((a).length:Int) 2) (dh.l1 a n a ((a).length:Int) (0:Int) v1)=ρ):dh.F a n=ρ:=Eq.trans (by kernel_rfl) (K _ rfl)
def bH.E:cr:=cL fC zs []
def bH.h:Hint := .s .o (.s .o (.s .o (.s .o (.s (.s .o (.b (.l [(0,.fB 800000),(1,.no),(4,.fB 800001),(6,.no),(7,.no),(800000,.pv),(800001,.pv)] (.s .o (.s (.b (.s .o (.s .o (.j [(0,.fB 800000),(1,.no),(4,.fB 800001),(6,.no),(7,.no),(9,.no),(800000,.pv),(800001,.pv)] (.b (.l [(0,.fB 800000),(1,.no),(4,.fB 800001),(6,.no),(7,.no),(9,.no),(10,.no),(800000,.pv),(800001,.pv)] .o)) (.s .o (.s (.s .o (.b (.l [(0,.fB 800000),(1,.no),(4,.fB 800001),(6,.no),(7,.no),(9,.no),(11,.no),(12,.no),(107,.no),(108,.no),(800000,.pv),(800001,.pv)] .o))) (.s .o (.s .o (.j [(0,.fB 800000),(1,.no),(4,.fB 800001),(6,.no),(7,.no),(9,.no),(800000,.pv),(800001,.pv)] (.s .o (.s (.s .o (.s .o (.s (.s .o (.b (.l [(0,.fB 800000),(1,.no),(4,.fB 800001),(6,.no),(7,.no),(9,.no),(17,.no),(169,.no),(170,.no),(800000,.pv),(800001,.pv)] .o))) .o))) .o)) .o))))))))) .o))))) .o))))
def bH.F (u:List UInt16) (v:List UInt16):OT:=cI PG bH.E 189 bH.sg bH.h [(.sl .ws u),(.sl .ws v)]
def bH.l1 (x0:List UInt16) (x1:Int) (x2:Int) (x3:List UInt16) (x4:List UInt16):OT:=dL PG bH.E 189 bH.sg bH.h 175 [.pt,(.sl .ws x0),.pt,(.i .i64 x1),(.i .i64 x2),(.sl .ws x3),(.sl .ws x4)]
def bH.l2 (x0:List UInt16) (x1:Int) (x2:Int) (x3:UInt64) (x4:UInt64) (x5:List UInt16) (x6:List UInt16):OT:=dL PG bH.E 189 bH.sg bH.h 39215 [.pt,(.sl .ws x0),.pt,(.i .i64 x1),(.i .i64 x2),(.u64 x3),(.u64 x4),(.sl .ws x5),(.sl .ws x6)]
def bH.j3 (x0:List UInt16) (x1:Int) (x2:Int) (x3:UInt64) (x4:List UInt16) (x5:List UInt16):OT:=eD PG bH.E 189 bH.sg bH.h 14639 [.pt,(.sl .ws x0),.pt,(.i .i64 x1),(.i .i64 x2),(.u64 x3),(.sl .ws x4),(.sl .ws x5)]
def bH.l4 (x0:List UInt16) (x1:Int) (x2:Int) (x3:UInt64) (x4:Int) (x5:UInt64) (x6:Int) (x7:Int) (x8:List UInt16) (x9:List UInt16):OT:=dL PG bH.E 189 bH.sg bH.h 358703 [.pt,(.sl .ws x0),.pt,(.i .i64 x1),(.i .i64 x2),(.u64 x3),(.i .i64 x4),(.u64 x5),(.i .i64 x6),(.i .i64 x7),(.sl .ws x8),(.sl .ws x9)]
def bH.l5 (x0:List UInt16) (x1:Int) (x2:Int) (x3:UInt64) (x4:UInt32) (x5:Int) (x6:Int) (x7:List UInt16) (x8:List UInt16):OT:=dL PG bH.E 189 bH.sg bH.h 90962223 [.pt,(.sl .ws x0),.pt,(.i .i64 x1),(.i .i64 x2),(.u64 x3),(.u32 x4),(.i .i64 x5),(.i .i64 x6),(.sl .ws x7),(.sl .ws x8)]
def bH.j6 (x0:List UInt16) (x1:Int) (x2:Int) (x3:UInt64) (x4:List UInt16) (x5:List UInt16):OT:=eD PG bH.E 189 bH.sg bH.h 522543 [.pt,(.sl .ws x0),.pt,(.i .i64 x1),(.i .i64 x2),(.u64 x3),(.sl .ws x4),(.sl .ws x5)]
theorem bH.bX (x0:List UInt16) (x1:Int) (x2:Int) (x3:List UInt16) (x4:List UInt16) {ρ:OT} (K:∀(v1:Nat) (h1:v1=(((IntKind.i64.wrap (x2+x1))).toNat)) (v2:UInt16) (h2:v2=(List.getD x3 (v1) (0:UInt16))) (v3:UInt64) (h3:v3=(UInt64.ofInt ((v2).toNat:Int))) (v4:UInt64) (h4:v4=(jr v3 (((16:UInt64)).toNat))) (v5:Int) (h5:v5=(IntKind.i64.wrap ((IntKind.i64.wrap (x2+x1)) - (1:Int)))) (v6:UInt16) (h6:v6=(List.getD x3 ((v5).toNat) (0:UInt16))) (v7:UInt64) (h7:v7=(UInt64.ofInt ((v6).toNat:Int))) (v8:Int) (h8:v8=(IntKind.i64.wrap (x1 - (1:Int)))) (v9:UInt16) (h9:v9=(List.getD x0 (v8).toNat (0:UInt16))) (v10:UInt64) (iS:v10=(UInt64.ofInt ((v9).toNat:Int))),cond (decide ((0:Int)≤x2))
  (ck (bD (IntKind.i64.wrap (x2+x1)) (x3).length) (ck (decide (v1<(x3).length)) (ck (bD v5 (x3).length) (ck (decide ((v5).toNat<(x3).length)) (ck (bD v8 (x0).length) (ck (!decide (v10=0)) (ck (bD v8 (x0).length) (ck (!decide (v10=0)) (bH.l2 x0 x1 x2 ((v4 ||| v7) / v10) ((v4 ||| v7) % v10) x3 x4)))))))))
  (ck (gY 0 x1 (x3).length) (some [(.sl .ws x4),(.sl .ws (List.take (x1).toNat x3))]))=ρ):bH.l1 x0 x1 x2 x3 x4=ρ:=((bV _ _ _ _ _ _ _).trans (by kernel_rfl)).trans (K _ rfl _ rfl _ rfl _ rfl _ rfl _ rfl _ rfl _ rfl _ rfl _ rfl)
theorem bH.iu (x0:List UInt16) (x1:Int) (x2:Int) (x3:UInt64) (x4:UInt64) (x5:List UInt16) (x6:List UInt16) {ρ:OT} (K:∀(v1:Int) (h1:v1=(IntKind.i64.wrap (x1 - (2:Int)))) (v2:UInt16) (h2:v2=(List.getD x0 (v1).toNat (0:UInt16))) (v3:UInt64) (h3:v3=(UInt64.ofInt ((v2).toNat:Int))) (v4:UInt64) (h4:v4=(jr x4 (((16:UInt64)).toNat))) (v5:Int) (h5:v5=(IntKind.i64.wrap ((IntKind.i64.wrap (x2+x1)) - (2:Int)))) (v6:UInt16) (h6:v6=(List.getD x5 ((v5).toNat) (0:UInt16))) (v7:UInt64) (h7:v7=(UInt64.ofInt ((v6).toNat:Int))) (v8:Bool) (h8:v8=(decide ((v4 ||| v7)<(x3 * v3)))) (v9:Bool) (h9:v9=(cond (decide ((65535:UInt64)<x3)) true v8)) (v10:Int) (iS:v10=(IntKind.i64.wrap (x1 - (1:Int)))) (v11:UInt16) (kA:v11=(List.getD x0 (v10).toNat (0:UInt16))) (v12:UInt64) (jM:v12=(UInt64.ofInt ((v11).toNat:Int))),ck (!(!(decide ((65535:UInt64)<x3))) || (!(decide ((65535:UInt64)<x3)))) (ck (!(!(decide ((65535:UInt64)<x3))) || (((!(decide ((65535:UInt64)<x3)))&&(!(decide ((65535:UInt64)<x3))))&&(bD v1 (x0).length))) (ck (!(!(decide ((65535:UInt64)<x3))) || (!(decide ((65535:UInt64)<x3)))) (ck (!(!(decide ((65535:UInt64)<x3))) || (!(decide ((65535:UInt64)<x3)))) (ck (!(!(decide ((65535:UInt64)<x3))) || ((!(decide ((65535:UInt64)<x3)))&&(!(decide ((65535:UInt64)<x3))))) (ck (!(!(decide ((65535:UInt64)<x3))) || (!(decide ((65535:UInt64)<x3)))) (ck (!(!(decide ((65535:UInt64)<x3))) || ((!(decide ((65535:UInt64)<x3)))&&(!(decide ((65535:UInt64)<x3))))) (ck (!(!(decide ((65535:UInt64)<x3))) || (!(decide ((65535:UInt64)<x3)))) (ck (!(!(decide ((65535:UInt64)<x3))) || (((!(decide ((65535:UInt64)<x3)))&&(!(decide ((65535:UInt64)<x3))))&&(bD v5 (x5).length))) (ck (!(!(decide ((65535:UInt64)<x3))) || ((!(decide ((65535:UInt64)<x3)))&&(decide ((v5).toNat<(x5).length)))) (ck (!(!(decide ((65535:UInt64)<x3))) || (!(decide ((65535:UInt64)<x3)))) (ck (!(!(decide ((65535:UInt64)<x3))) || ((!(decide ((65535:UInt64)<x3)))&&(!(decide ((65535:UInt64)<x3))))) (ck (!(!(decide ((65535:UInt64)<x3))) || ((!(decide ((65535:UInt64)<x3)))&&(!(decide ((65535:UInt64)<x3))))) (ck ((decide ((65535:UInt64)<x3)) || (!(decide ((65535:UInt64)<x3)))) (cond v9
  (ck (bD v10 (x0).length) (cond (decide ((65535:UInt64)<(x4+v12)))
  (bH.j3 x0 x1 x2 (x3 - (1:UInt64)) x5 x6)
  (bH.l2 x0 x1 x2 (x3 - (1:UInt64)) (x4+v12) x5 x6)))
  (bH.j3 x0 x1 x2 x3 x5 x6)))))))))))))))=ρ):bH.l2 x0 x1 x2 x3 x4 x5 x6=ρ:=((bV _ _ _ _ _ _ _).trans (by kernel_rfl)).trans (K _ rfl _ rfl _ rfl _ rfl _ rfl _ rfl _ rfl _ rfl _ rfl _ rfl _ rfl _ rfl)
theorem bH.su (x0:List UInt16) (x1:Int) (x2:Int) (x3:UInt64) (x4:List UInt16) (x5:List UInt16):bH.j3 x0 x1 x2 x3 x4 x5=bH.l4 x0 x1 x2 x3 (0:Int) (0:UInt64) x1 (0:Int) x4 x5:=((cp _ _ _ _ _ _ _).trans (by kernel_rfl))
theorem bH.zC (x0:List UInt16) (x1:Int) (x2:Int) (x3:UInt64) (x4:Int) (x5:UInt64) (x6:Int) (x7:Int) (x8:List UInt16) (x9:List UInt16) {ρ:OT} (K:∀(v1:UInt16) (h1:v1=(List.getD x0 (x7).toNat (0:UInt16))) (v2:UInt64) (h2:v2=(UInt64.ofInt ((v1).toNat:Int))) (v3:UInt64) (h3:v3=(dQ ((x3 * v2)+x5) (((16:UInt64)).toNat))) (v4:Nat) (h4:v4=(((IntKind.i64.wrap (x7+x2))).toNat)) (v5:UInt16) (h5:v5=(List.getD x8 (v4) (0:UInt16))) (v6:Int) (h6:v6=(IntKind.i64.wrap ((v5).toNat:Int))) (v7:UInt64) (h7:v7=(((x3 * v2)+x5) &&& (65535:UInt64))) (v8:Int) (h8:v8=(IntKind.i64.wrap ((v7).toNat:Int))) (v9:Int) (h9:v9=(IntKind.i64.wrap ((IntKind.i64.wrap (v6 - x4)) - v8))) (v10:Int) (iS:v10=(Int.fdiv v9 (2 ^ (min (((16:UInt64)).toNat) (IntKind.i64.bits))))) (v11:Int) (kA:v11=(cU .and .i64 v10 (1:Int))) (v12:List UInt16) (jM:v12=(List.set x8 (v4) (UInt16.ofInt v9))) (kq:Int) (nr:kq=(IntKind.i64.wrap (x7+(1:Int)))) (jh:Nat) (oa:jh=(((IntKind.i64.wrap (x2+x1))).toNat)) (jb:UInt16) (nV:jb=(List.getD x8 (jh) (0:UInt16))) (lA:Int) (sw:lA=(IntKind.i64.wrap ((jb).toNat:Int))) (tG:Int) (zS:tG=(IntKind.i64.wrap (lA - x4))) (tF:Int) (wv:tF=(IntKind.i64.wrap ((x5).toNat:Int))) (wX:Int) (ET:wX=(IntKind.i64.wrap (tG - tF))) (v20:List UInt16) (CR:v20=(List.set x8 (jh) (UInt16.ofInt wX))),cond (decide (x7<x6))
  (ck (bD x7 (x0).length) (ck (bD (IntKind.i64.wrap (x7+x2)) (x8).length) (ck (decide (v4<(x8).length)) (ck (bD (IntKind.i64.wrap (x7+x2)) (x8).length) (ck (decide (v4<(x8).length)) (bH.l4 x0 x1 x2 x3 v11 v3 x6 kq v12 x9))))))
  (ck (bD (IntKind.i64.wrap (x2+x1)) (x8).length) (ck (decide (jh<(x8).length)) (ck (bD (IntKind.i64.wrap (x2+x1)) (x8).length) (ck (decide (jh<(x8).length)) (cond (decide (wX<(0:Int)))
  (bH.l5 x0 x1 x2 (x3 - (1:UInt64)) (0:UInt32) x1 (0:Int) v20 x9)
  (bH.j6 x0 x1 x2 x3 v20 x9))))))=ρ):bH.l4 x0 x1 x2 x3 x4 x5 x6 x7 x8 x9=ρ:=((bV _ _ _ _ _ _ _).trans (by kernel_rfl)).trans (K _ rfl _ rfl _ rfl _ rfl _ rfl _ rfl _ rfl _ rfl _ rfl _ rfl _ rfl _ rfl _ rfl _ rfl _ rfl _ rfl _ rfl _ rfl _ rfl _ rfl)
theorem bH.CH (x0:List UInt16) (x1:Int) (x2:Int) (x3:UInt64) (x4:UInt32) (x5:Int) (x6:Int) (x7:List UInt16) (x8:List UInt16) {ρ:OT} (K:∀(v1:Nat) (h1:v1=(((IntKind.i64.wrap (x6+x2))).toNat)) (v2:UInt16) (h2:v2=(List.getD x7 (v1) (0:UInt16))) (v3:UInt32) (h3:v3=(UInt32.ofInt ((v2).toNat:Int))) (v4:UInt16) (h4:v4=(List.getD x0 (x6).toNat (0:UInt16))) (v5:UInt32) (h5:v5=(UInt32.ofInt ((v4).toNat:Int))) (v6:UInt16) (h6:v6=(UInt16.ofInt (((x4+(v3+v5))).toNat:Int))) (v7:UInt32) (h7:v7=(tV (x4+(v3+v5)) (((16:UInt64)).toNat))) (v8:Int) (h8:v8=(IntKind.i64.wrap (x6+(1:Int)))) (v9:Nat) (h9:v9=(((IntKind.i64.wrap (x2+x1))).toNat)) (v10:UInt16) (iS:v10=(List.getD x7 (v9) (0:UInt16))) (v11:UInt16) (kA:v11=(UInt16.ofInt ((x4).toNat:Int))) (v12:List UInt16) (jM:v12=(List.set x7 (v9) (v10+v11))),cond (decide (x6<x5))
  (ck (bD (IntKind.i64.wrap (x6+x2)) (x7).length) (ck (decide (v1<(x7).length)) (ck (bD x6 (x0).length) (ck (bD (IntKind.i64.wrap (x6+x2)) (x7).length) (ck (decide (v1<(x7).length)) (bH.l5 x0 x1 x2 x3 v7 x5 v8 (List.set x7 (v1) v6) x8))))))
  (ck (bD (IntKind.i64.wrap (x2+x1)) (x7).length) (ck (decide (v9<(x7).length)) (ck (bD (IntKind.i64.wrap (x2+x1)) (x7).length) (ck (decide (v9<(x7).length)) (bH.j6 x0 x1 x2 x3 v12 x8)))))=ρ):bH.l5 x0 x1 x2 x3 x4 x5 x6 x7 x8=ρ:=((bV _ _ _ _ _ _ _).trans (by kernel_rfl)).trans (K _ rfl _ rfl _ rfl _ rfl _ rfl _ rfl _ rfl _ rfl _ rfl _ rfl _ rfl _ rfl)
theorem bH.Gq (x0:List UInt16) (x1:Int) (x2:Int) (x3:UInt64) (x4:List UInt16) (x5:List UInt16) {ρ:OT} (K:∀(v1:UInt16) (h1:v1=(UInt16.ofInt ((x3).toNat:Int))) (v2:List UInt16) (h2:v2=(List.set x5 ((x2).toNat) v1)) (v3:Int) (h3:v3=(IntKind.i64.wrap (x2 - (1:Int)))),ck (bD x2 (x5).length) (ck (decide ((x2).toNat<(x5).length)) (bH.l1 x0 x1 v3 x4 v2))=ρ):bH.j6 x0 x1 x2 x3 x4 x5=ρ:=((cp _ _ _ _ _ _ _).trans (by kernel_rfl)).trans (K _ rfl _ rfl _ rfl)
theorem bH.bY (u:List UInt16) (v:List UInt16) {ρ:OT} (K:∀(v1:List UInt16) (h1:v1=([(0:UInt16)]:List UInt16)) (v2:Int) (h2:v2=(IntKind.i64.wrap ((((u++v1)).length:Int) - ((v).length:Int)))) (v3:List UInt16) (h3:v3=(List.replicate (v2).toNat (0:UInt16))) (v4:Int) (h4:v4=(IntKind.i64.wrap (v2 - (1:Int)))),ck (fi ((u).length+(v1).length) 2) (ck (pO v2 v2 2) (bH.l1 v ((v).length:Int) v4 (u++v1) v3))=ρ):bH.F u v=ρ:=Eq.trans (by kernel_rfl) (K _ rfl _ rfl _ rfl _ rfl)
def iq.E:cr:=cL fC zs [(116,(fv.c,fv.sg)),(149,(fj.c,fj.sg)),(150,(fq.c,fq.sg)),(151,(cw.c,cw.sg)),(186,(fc.c,fc.sg)),(187,(ff.c,ff.sg)),(188,(eZ.c,eZ.sg)),(189,(bH.c,bH.sg)),(190,(dm.c,dm.sg)),(191,(dh.c,dh.sg))]
def iq.h:Hint := .o
def iq.F (a:List UInt16) (b:List UInt16):OT:=cI PG iq.E 154 iq.sg iq.h [(.sl .ws a),(.sl .ws b)]
theorem iq.bY (a:List UInt16) (b:List UInt16) {ρ:OT} (K:∀(v1:Bool) (h1:v1=(cond (!(Nt.is a)) true (!(Nt.is b)))) (v2:Bool) (h2:v2=(cond v1 true (decide (((b).length:Int)=(0:Int))))) (v3:Int) (h3:v3=(Nt.cmp (Nt.val a) (Nt.val b))) (v4:UInt16) (h4:v4=(List.getD b ((0:Int)).toNat (0:UInt16))) (v5:List UInt16) (h5:v5=(Nt.of (Nt.val a / (v4).toNat))) (v6:UInt16) (h6:v6=(UInt16.ofNat (Nt.val a % (v4).toNat))) (v7:UInt64) (h7:v7=(UInt64.ofInt ((v6).toNat:Int))) (v8:Int) (h8:v8=(IntKind.i64.wrap (((b).length:Int) - (1:Int)))) (v9:UInt16) (h9:v9=(List.getD b (v8).toNat (0:UInt16))) (v10:Int) (iS:v10=(IntKind.i64.wrap ((16:Int) - ((Nt.bits (v9).toNat:Int))))) (v11:List UInt16) (kA:v11=(Nt.of (Nt.val a * 2 ^ (v10).toNat))) (v12:List UInt16) (jM:v12=(Nt.of (Nt.val b * 2 ^ (v10).toNat))) (kq:List UInt16) (nr:kq=(Nt.fix ((v11).length+1 - (v12).length) (Nt.val v11 / Nt.val v12))) (jh:List UInt16) (oa:jh=(Nt.fix (v12).length (Nt.val v11 % Nt.val v12))) (jb:List UInt16) (nV:jb=(Nt.of (Nt.val ((Nt.of (Nt.val jh))) / 2 ^ (v10).toNat))),ck (decide ((a).length≤1099511627776)) (ck (!(!(!(Nt.is a))) || ((!(!(Nt.is a)))&&(decide ((b).length≤1099511627776)))) (ck (!(!(!(Nt.is a))) || (!(!(Nt.is a)))) (ck ((!(Nt.is a)) || (!(!(Nt.is a)))) (ck (!(!v1) || (!v1)) (ck (!(!v1) || (!v1)) (ck (v1 || (!v1)) (cond v2
  (some [(.sl .ws ([]:List UInt16)),(.sl .ws ([]:List UInt16)),(.b false)])
  (ck (decide ((a).length≤1099511627776∧(b).length≤1099511627776)&&(Nt.norm a&&Nt.norm b)) (cond (decide (v3<(0:Int)))
  (ck (fi (a).length 2) (some [(.sl .ws ([]:List UInt16)),(.sl .ws (a)),(.b true)]))
  (cond (decide (((b).length:Int)=(1:Int)))
  (ck (bD (0:Int) (b).length) (ck (decide ((a).length≤1000000∧v4≠0)) (some [(.sl .ws v5),(.sl .ws (Nt.of (v7).toNat)),(.b true)])))
  (ck (bD v8 (b).length) (ck (decide ((a).length≤1000000∧0≤v10∧v10<16)&&Nt.norm a) (ck (decide ((b).length≤1000000∧0≤v10∧v10<16)&&Nt.norm b) (ck (decide ((v11).length≤1000000∧2≤(v12).length∧(v12).length≤(v11).length∧32768≤((v12).getLast?.getD 0).toNat)) (ck (decide ((kq).length≤1099511627776)) (ck (decide ((jh).length≤1099511627776)) (ck (decide ((((Nt.of (Nt.val jh)))).length≤1000000∧0≤v10∧v10<16)) (some [(.sl .ws (Nt.of (Nt.val kq))),(.sl .ws jb),(.b true)]))))))))))))))))))=ρ):iq.F a b=ρ:=Eq.trans (by kernel_rfl) (K _ rfl _ rfl _ rfl _ rfl _ rfl _ rfl _ rfl _ rfl _ rfl _ rfl _ rfl _ rfl _ rfl _ rfl _ rfl)
def iZ.E:cr:=cL fC zs [(149,(fj.c,fj.sg)),(150,(fq.c,fq.sg))]
def iZ.h:Hint := .o
def iZ.F (a:List UInt16) (n:Int):OT:=cI PG iZ.E 117 iZ.sg iZ.h [(.sl .ws a),(.i .i64 n)]
theorem iZ.bY (a:List UInt16) (n:Int) {ρ:OT} (K:∀(v1:Bool) (h1:v1=(cond (!(Nt.is a)) true (decide (n<(0:Int))))) (v2:Bool) (h2:v2=(cond v1 true (decide ((4096:Int)<n)))) (v3:Bool) (h3:v3=(cond v2 true (decide (((a).length:Int)=(0:Int))))) (v4:Int) (h4:v4=(IntKind.i64.wrap (Int.tdiv n (16:Int)))) (v5:List UInt16) (h5:v5=(List.replicate (v4).toNat (0:UInt16))) (v6:List UInt16) (h6:v6=(Nt.of (Nt.val a * 2 ^ (((Int.tmod n (16:Int)))).toNat))),ck (decide ((a).length≤1099511627776)) (ck (!(!(!(Nt.is a))) || (!(!(Nt.is a)))) (ck ((!(Nt.is a)) || (!(!(Nt.is a)))) (ck (!(!v1) || (!v1)) (ck (v1 || (!v1)) (ck (!(!v2) || (!v2)) (ck (!(!v2) || (!v2)) (ck (v2 || (!v2)) (cond v3
  (some [(.sl .ws ([]:List UInt16))])
  (ck (!decide ((16:Int)=0)) (ck (pO v4 v4 2) (ck (!decide ((16:Int)=0)) (ck (decide ((a).length≤1000000∧0≤((Int.tmod n (16:Int)))∧((Int.tmod n (16:Int)))<16)&&Nt.norm a) (ck (fi ((v5).length+(v6).length) 2) (some [(.sl .ws (v5++v6))]))))))))))))))=ρ):iZ.F a n=ρ:=Eq.trans (by kernel_rfl) (K _ rfl _ rfl _ rfl _ rfl _ rfl _ rfl)
def da.E:cr:=cL fC zs []
def da.h:Hint := .s .o (.s .o (.s .o (.s (.s .o (.b (.l [(1,.no),(7,.fB 800000),(800000,.pv),(8,.no),(16,.no),(17,.no),(18,.no)] .o))) (.j [(7,.fB 800000),(800000,.pv)] .o .o))))
def da.F (a:List UInt16) (b:Int) (c:Int):OT:=cI PG da.E 215 da.sg da.h [(.sl .ws a),(.i .i64 b),(.i .i64 c)]
def da.l1 (x0:Int) (x1:List UInt16) (x2:Int) (x3:List UInt16) (x4:Int) (x5:Int):OT:=dL PG da.E 215 da.sg da.h 87 [(.i .i64 x0),.pt,(.sl .ws x1),(.i .i64 x2),(.sl .ws x3),(.i .i64 x4),(.i .i64 x5)]
def da.j2 (x0:List UInt16):OT:=eD PG da.E 215 da.sg da.h 31 [.pt,(.sl .ws x0)]
theorem da.bX (x0:Int) (x1:List UInt16) (x2:Int) (x3:List UInt16) (x4:Int) (x5:Int) {ρ:OT} (K:∀(v1:UInt16) (h1:v1=(List.getD x3 (x5).toNat (0:UInt16))) (v2:Int) (h2:v2=(IntKind.i64.wrap ((v1).toNat:Int))) (v3:Int) (h3:v3=(IntKind.i64.wrap (x2+(IntKind.i64.wrap (v2 * x0))))) (v4:List UInt16) (h4:v4=([(UInt16.ofInt v3)]:List UInt16)) (v5:Int) (h5:v5=(Int.fdiv v3 (2 ^ (min (((16:UInt64)).toNat) (IntKind.i64.bits))))) (v6:Int) (h6:v6=(IntKind.i64.wrap (x5+(1:Int)))) (v7:List UInt16) (h7:v7=([(UInt16.ofInt x2)]:List UInt16)),cond (decide (x5<x4))
  (ck (bD x5 (x3).length) (ck (fi ((x1).length+(v4).length) 2) (da.l1 x0 (x1++v4) v5 x3 x4 v6)))
  (cond (decide ((0:Int)<x2))
  (ck (fi ((x1).length+(v7).length) 2) (da.j2 (x1++v7)))
  (da.j2 x1))=ρ):da.l1 x0 x1 x2 x3 x4 x5=ρ:=((bV _ _ _ _ _ _ _).trans (by kernel_rfl)).trans (K _ rfl _ rfl _ rfl _ rfl _ rfl _ rfl _ rfl)
theorem da.lf (x0:List UInt16):da.j2 x0=some [(.sl .ws x0)]:=((cp _ _ _ _ _ _ _).trans (by kernel_rfl))
theorem da.bY (a:List UInt16) (b:Int) (c:Int) {ρ:OT} (K:∀(v1:Int) (h1:v1=(IntKind.i64.wrap (((a).length:Int)+(1:Int)))) (v2:List UInt16) (h2:v2=(List.replicate ((0:Int)).toNat (0:UInt16))),ck (pO (0:Int) v1 2) (da.l1 b v2 c a ((a).length:Int) (0:Int))=ρ):da.F a b c=ρ:=Eq.trans (by kernel_rfl) (K _ rfl _ rfl)
def de.E:cr:=cL fC zs [(116,(fv.c,fv.sg)),(149,(fj.c,fj.sg)),(215,(da.c,da.sg))]
def de.h:Hint := .s .o (.s .o (.s .o (.s (.b (.l (sc [0,1,6]) .o)) .o)))
def de.F (b:Int) (e:Int):OT:=cI PG de.E 184 de.sg de.h [(.i .i64 b),(.i .i64 e)]
def de.l1 (x0:Int) (x1:Int) (x2:List UInt16):OT:=dL PG de.E 184 de.sg de.h 39 [(.i .i64 x0),(.i .i64 x1),(.sl .ws x2)]
theorem de.bX (x0:Int) (x1:Int) (x2:List UInt16) {ρ:OT} (K:∀(v1:List UInt16) (h1:v1=(Nt.of (Nt.val x2 * (x0).toNat+(((0:Int))).toNat))) (v2:Int) (h2:v2=(IntKind.i64.wrap (x1 - (1:Int)))),cond (decide ((0:Int)<x1))
  (ck (decide ((x2).length≤1000000∧1≤x0∧x0≤65535∧0≤((0:Int))∧((0:Int))≤65535)&&Nt.norm x2) (ck (decide ((v1).length≤1099511627776)) (cond (!(Nt.is v1))
  (some [(.sl .ws ([]:List UInt16)),(.b false)])
  (de.l1 x0 v2 v1))))
  (some [(.sl .ws x2),(.b true)])=ρ):de.l1 x0 x1 x2=ρ:=((bV _ _ _ _ _ _ _).trans (by kernel_rfl)).trans (K _ rfl _ rfl)
theorem de.bY (b:Int) (e:Int) {ρ:OT} (K:∀(v1:Bool) (h1:v1=(cond (decide (b<(0:Int))) true (decide ((65535:Int)<b)))) (v2:Bool) (h2:v2=(cond v1 true (decide (e<(0:Int))))) (v3:Bool) (h3:v3=(cond (decide (e=(0:Int))) true (decide (b=(1:Int))))) (v4:List UInt16) (h4:v4=(Nt.of (((1:UInt64))).toNat)),ck (!(!(decide (b<(0:Int)))) || (!(decide (b<(0:Int))))) (ck ((decide (b<(0:Int))) || (!(decide (b<(0:Int))))) (ck (!(!v1) || (!v1)) (ck (v1 || (!v1)) (cond v2
  (some [(.sl .ws ([]:List UInt16)),(.b false)])
  (ck (!(!(decide (e=(0:Int)))) || (!(decide (e=(0:Int))))) (ck ((decide (e=(0:Int))) || (!(decide (e=(0:Int))))) (cond v3
  (some [(.sl .ws v4),(.b true)])
  (cond (decide (b=(0:Int)))
  (some [(.sl .ws ([]:List UInt16)),(.b true)])
  (de.l1 b e v4)))))))))=ρ):de.F b e=ρ:=Eq.trans (by kernel_rfl) (K _ rfl _ rfl _ rfl _ rfl)
def dz.E:cr:=cL fC zs [(149,(fj.c,fj.sg)),(215,(da.c,da.sg))]
def dz.h:Hint := .s .o (.s .o (.s .o (.s (.s .o (.b (.l (sc [0,4,24,25]) .o))) .o)))
def dz.F (s:bz):OT:=cI PG dz.E 226 dz.sg dz.h [(.s s)]
def dz.l1 (x0:bz) (x1:List UInt16) (x2:Int) (x3:Int):OT:=dL PG dz.E 226 dz.sg dz.h 87 [(.s x0),(.sl .ws x1),(.i .i64 x2),(.i .i64 x3)]
theorem dz.bX (x0:bz) (x1:List UInt16) (x2:Int) (x3:Int) {ρ:OT} (K:∀(v1:UInt8) (h1:v1=(List.getD x0 (x3).toNat (0:UInt8))) (v2:Bool) (h2:v2=(cond (decide (v1<(48:UInt8))) true (decide ((57:UInt8)<v1)))) (v3:Int) (h3:v3=(IntKind.i64.wrap (((v1 - (48:UInt8))).toNat:Int))) (v4:List UInt16) (h4:v4=(Nt.of (Nt.val x1 * (((10:Int))).toNat+(v3).toNat))) (v5:Int) (h5:v5=(IntKind.i64.wrap (x3+(1:Int)))),cond (decide (x3<x2))
  (ck (bD x3 (x0).length) (ck (!(!(decide (v1<(48:UInt8)))) || (((!(decide (v1<(48:UInt8))))&&(!(decide (v1<(48:UInt8)))))&&(bD x3 (x0).length))) (ck (!(!(decide (v1<(48:UInt8)))) || (!(decide (v1<(48:UInt8))))) (ck ((decide (v1<(48:UInt8))) || (!(decide (v1<(48:UInt8))))) (cond v2
  (some [(.sl .ws ([]:List UInt16)),(.b false)])
  (ck (bD x3 (x0).length) (ck (decide ((x1).length≤1000000∧1≤((10:Int))∧((10:Int))≤65535∧0≤v3∧v3≤65535)&&Nt.norm x1) (dz.l1 x0 v4 x2 v5))))))))
  (ck (decide ((x1).length≤1099511627776)) (cond (!(Nt.is x1))
  (some [(.sl .ws ([]:List UInt16)),(.b false)])
  (some [(.sl .ws x1),(.b true)])))=ρ):dz.l1 x0 x1 x2 x3=ρ:=((bV _ _ _ _ _ _ _).trans (by kernel_rfl)).trans (K _ rfl _ rfl _ rfl _ rfl _ rfl)
theorem dz.bY (s:bz) {ρ:OT} (K:∀(v1:Bool) (h1:v1=(cond (decide (s=([]:bz))) true (decide ((1240:Int)<((s).length:Int))))) (v2:UInt8) (h2:v2=(List.getD s ((0:Int)).toNat (0:UInt8))) (v3:Bool) (h3:v3=((!v1)&&(decide (v2=(48:UInt8))))) (v4:Bool) (h4:v4=(cond (decide (v2=(48:UInt8))) (decide ((1:Int)<((s).length:Int))) false)),ck (!(!(decide (s=([]:bz)))) || (!(decide (s=([]:bz))))) (ck (!(!(decide (s=([]:bz)))) || (!(decide (s=([]:bz))))) (ck ((decide (s=([]:bz))) || (!(decide (s=([]:bz))))) (ck (!(!v1) || ((!v1)&&(bD (0:Int) (s).length))) (ck (!(!v1) || (!v1)) (ck (!(!v1) || (!v1)) (ck (!v3 || v3) (ck (!v3 || v3) (ck (!(!v1) || ((!v1)&&(!(decide (v2=(48:UInt8))) || v3))) (ck (v1 || (!v1)) (cond (cond v1 true v4)
  (some [(.sl .ws ([]:List UInt16)),(.b false)])
  (dz.l1 s ([]:List UInt16) ((s).length:Int) (0:Int))))))))))))=ρ):dz.F s=ρ:=Eq.trans (by kernel_rfl) (K _ rfl _ rfl _ rfl _ rfl)
def et.E:cr:=cL fC zs [(200,(bits_Len64.c,bits_Len64.sg)),(231,(mH.c,mH.sg))]
def et.h:Hint := .s .o (.s .o (.j (sc [1,2,8]) .o .o))
def et.F (n:Bool) (m:UInt64) (e:Int):OT:=cI PG et.E 251 et.sg et.h [(.b n),(.u64 m),(.i .i64 e)]
def et.j1 (x0:UInt64) (x1:Int) (x2:UInt64):OT:=eD PG et.E 251 et.sg et.h 7 [(.u64 x0),(.i .i64 x1),(.u64 x2)]
theorem et.iR (x0:UInt64) (x1:Int) (x2:UInt64) {ρ:OT} (K:∀(v1:Bool) (h1:v1=(cond (decide (x1<(-2000:Int))) true (decide ((2000:Int)<x1)))) (v2:Int) (h2:v2=((Lib.ctz 64 (x0).toNat:Int))) (v3:Int) (h3:v3=((Nt.bits (((dQ x0 ((v2).toNat)))).toNat:Int))) (v4:Bool) (h4:v4=(cond (decide ((53:Int)<v3)) true (decide ((IntKind.i64.wrap (x1+v2))<(-1074:Int))))) (v5:Int) (h5:v5=(IntKind.i64.wrap ((IntKind.i64.wrap (x1+v2))+v3))) (v6:Bool) (h6:v6=(cond v4 true (decide ((1024:Int)<v5)))) (v7:Int) (h7:v7=(IntKind.i64.wrap (v5 - (1:Int)))) (v8:Int) (h8:v8=(IntKind.i64.wrap ((IntKind.i64.wrap (x1+v2))+(1074:Int)))) (v9:UInt64) (h9:v9=(jr (dQ x0 ((v2).toNat)) ((v8).toNat))) (v10:Int) (iS:v10=(IntKind.i64.wrap ((53:Int) - v3))) (v11:UInt64) (kA:v11=(jr (dQ x0 ((v2).toNat)) ((v10).toNat))) (v12:Int) (jM:v12=(IntKind.i64.wrap ((IntKind.i64.wrap (x1+v2)) - v10))) (kq:Int) (nr:kq=(IntKind.i64.wrap (v12+(1075:Int)))) (jh:UInt64) (oa:jh=(jr (UInt64.ofInt kq) (((52:UInt64)).toNat))) (jb:UInt64) (nV:jb=(v11 &&& (4503599627370495:UInt64))),cond (decide (x0=(0:UInt64)))
  (some [(.u64 x2),(.b true)])
  (ck (!(!(decide (x1<(-2000:Int)))) || (!(decide (x1<(-2000:Int))))) (ck ((decide (x1<(-2000:Int))) || (!(decide (x1<(-2000:Int))))) (cond v1
  (some [(.u64 0),(.b false)])
  (ck (decide (0≤v2)) (ck (!(!(decide ((53:Int)<v3))) || (!(decide ((53:Int)<v3)))) (ck ((decide ((53:Int)<v3)) || (!(decide ((53:Int)<v3)))) (ck (!(!v4) || ((!v4)&&(!v4))) (ck (!(!v4) || (!v4)) (ck (v4 || (!v4)) (cond v6
  (some [(.u64 0),(.b false)])
  (cond (decide (v7<(-1022:Int)))
  (ck (decide (0≤v8)) (some [(.u64 (x2 ||| v9)),(.b true)]))
  (ck (decide (0≤v10)) (some [(.u64 ((x2 ||| jh) ||| jb)),(.b true)])))))))))))))=ρ):et.j1 x0 x1 x2=ρ:=((cp _ _ _ _ _ _ _).trans (by kernel_rfl)).trans (K _ rfl _ rfl _ rfl _ rfl _ rfl _ rfl _ rfl _ rfl _ rfl _ rfl _ rfl _ rfl _ rfl _ rfl _ rfl)
theorem et.dW (n:Bool) (m:UInt64) (e:Int):et.F n m e=cond n
  (et.j1 m e (9223372036854775808:UInt64))
  (et.j1 m e (0:UInt64)):=by kernel_rfl
def cJ.E:cr:=cL fC zs [(117,(iZ.c,iZ.sg)),(153,(gD.c,gD.sg)),(154,(iq.c,iq.sg)),(267,(dy.c,dy.sg))]
def cJ.h:Hint := .s .o (.j (sc [0,1]) .o .o)
def cJ.F (a:List UInt16) (b:List UInt16) (e:Int):OT:=cI PG cJ.E 250 cJ.sg cJ.h [(.sl .ws a),(.sl .ws b),(.i .i64 e)]
def cJ.j1 (x0:List UInt16) (x1:List UInt16):OT:=eD PG cJ.E 250 cJ.sg cJ.h 3 [(.sl .ws x0),(.sl .ws x1)]
theorem cJ.iR (x0:List UInt16) (x1:List UInt16) {ρ:OT} (K:∀(v1:List UInt16) (h1:v1=(Nt.of (Nt.val x0 / Nt.val x1))) (v2:List UInt16) (h2:v2=(Nt.of (Nt.val x0 % Nt.val x1))) (v3:List UInt16) (h3:v3=(Nt.of (Nt.val v2 * 2 ^ (((1:Int))).toNat))) (v4:Int) (h4:v4=(Nt.cmp (Nt.val v3) (Nt.val x1))) (v5:Bool) (h5:v5=((!(decide ((0:Int)<v4)))&&(decide (v4=(0:Int))))) (v6:UInt64) (h6:v6=((UInt64.ofNat (Nt.val v1)) % (2:UInt64))) (v7:Bool) (h7:v7=(cond (decide (v4=(0:Int))) (decide (v6=(1:UInt64))) false)) (v8:Bool) (h8:v8=(cond (decide ((0:Int)<v4)) true v7)) (v9:UInt64) (h9:v9=((UInt64.ofNat (Nt.val v1))+(1:UInt64))),ck (Nt.is x0&&Nt.is x1&&decide (x1≠[])) (ck (decide (Nt.is v1=true∧(v1).length≤4)) (ck (decide (0≤((1:Int))∧((1:Int))≤4096)&&Nt.is v2) (ck (Nt.is v3&&Nt.is x1) (ck (!(!(decide ((0:Int)<v4))) || (!(decide ((0:Int)<v4)))) (ck (!(!(decide ((0:Int)<v4))) || (!(decide ((0:Int)<v4)))) (ck (!v5 || (v5&&(!decide ((2:UInt64)=0)))) (ck (!v5 || v5) (ck (!(!(decide ((0:Int)<v4))) || ((!(decide ((0:Int)<v4)))&&(!(decide (v4=(0:Int))) || v5))) (ck ((decide ((0:Int)<v4)) || (!(decide ((0:Int)<v4)))) (cond v8
  (some [(.u64 v9),(.b (decide (v9=(9007199254740992:UInt64))))])
  (some [(.u64 (UInt64.ofNat (Nt.val v1))),(.b false)])))))))))))=ρ):cJ.j1 x0 x1=ρ:=((cp _ _ _ _ _ _ _).trans (by kernel_rfl)).trans (K _ rfl _ rfl _ rfl _ rfl _ rfl _ rfl _ rfl _ rfl _ rfl)
theorem cJ.bY (a:List UInt16) (b:List UInt16) (e:Int) {ρ:OT} (K:∀(v1:List UInt16) (h1:v1=(Nt.of (Nt.val a * 2 ^ (((IntKind.i64.wrap (0 - e)))).toNat))) (v2:List UInt16) (h2:v2=(Nt.of (Nt.val b * 2 ^ (e).toNat))),cond (decide (e<(0:Int)))
  (ck (decide (0≤((IntKind.i64.wrap (0 - e)))∧((IntKind.i64.wrap (0 - e)))≤4096)&&Nt.is a) (cJ.j1 v1 b))
  (ck (decide (0≤e∧e≤4096)&&Nt.is b) (cJ.j1 a v2))=ρ):cJ.F a b e=ρ:=Eq.trans (by kernel_rfl) (K _ rfl _ rfl)
def dr.E:cr:=cL fC zs [(118,(fY.c,fY.sg)),(250,(cJ.c,cJ.sg)),(251,(et.c,et.sg))]
def dr.h:Hint := .s .o (.s .o (.s .o (.j (sc [6,7]) .o .o)))
def dr.F (a:List UInt16) (b:List UInt16):OT:=cI PG dr.E 227 dr.sg dr.h [(.sl .ws a),(.sl .ws b)]
def dr.j1 (x0:Int) (x1:UInt64):OT:=eD PG dr.E 227 dr.sg dr.h 15 [(.i .i64 x0),(.u64 x1)]
theorem dr.iR (x0:Int) (x1:UInt64) {ρ:OT} (K:∀(v1:UInt64) (h1:v1=(Nr.pat (Nr.join false (x1).toNat x0))) (v2:Bool) (h2:v2=((Nr.join false (x1).toNat x0).isSome)),ck (decide (-1100≤x0∧x0≤2000)) (some [(.u64 v1),(.b v2)])=ρ):dr.j1 x0 x1=ρ:=((cp _ _ _ _ _ _ _).trans (by kernel_rfl)).trans (K _ rfl _ rfl)
theorem dr.bY (a:List UInt16) (b:List UInt16) {ρ:OT} (K:∀(v1:Int) (h1:v1=(IntKind.i64.wrap (((Nt.bits (Nt.val a):Int)) - ((Nt.bits (Nt.val b):Int))))) (v2:Int) (h2:v2=(IntKind.i64.wrap (v1 - (53:Int)))) (v3:UInt64) (h3:v3=(UInt64.ofNat (Nr.vh (Nr.jK (Nt.val a) ((nZ v2 (-1074:Int)))) (Nr.jE (Nt.val b) ((nZ v2 (-1074:Int))))))) (v4:Bool) (h4:v4=(Nr.mz (Nr.jK (Nt.val a) ((nZ v2 (-1074:Int)))) (Nr.jE (Nt.val b) ((nZ v2 (-1074:Int)))))) (v5:Bool) (h5:v5=(cond (decide ((9007199254740992:UInt64)≤v3)) (!v4) false)) (v6:Int) (h6:v6=(IntKind.i64.wrap ((nZ v2 (-1074:Int))+(1:Int)))) (v7:UInt64) (h7:v7=(UInt64.ofNat (Nr.vh (Nr.jK (Nt.val a) v6) (Nr.jE (Nt.val b) v6)))) (v8:Bool) (h8:v8=(Nr.mz (Nr.jK (Nt.val a) v6) (Nr.jE (Nt.val b) v6))),ck (Nt.is a) (ck (Nt.is b) (ck (Nt.is a&&Nt.is b&&decide (-4096≤((nZ v2 (-1074:Int)))∧((nZ v2 (-1074:Int)))≤4096∧0<Nt.val b∧Nr.jK (Nt.val a) ((nZ v2 (-1074:Int)))<2 ^ 4090∧Nr.jE (Nt.val b) ((nZ v2 (-1074:Int)))<2 ^ 4090∧Nr.jK (Nt.val a) ((nZ v2 (-1074:Int)))<2 ^ 60 * Nr.jE (Nt.val b) ((nZ v2 (-1074:Int))))) (ck (!(decide ((9007199254740992:UInt64)≤v3)) || (decide ((9007199254740992:UInt64)≤v3))) (ck (!(decide ((9007199254740992:UInt64)≤v3)) || (decide ((9007199254740992:UInt64)≤v3))) (cond v5
  (ck (Nt.is a&&Nt.is b&&decide (-4096≤v6∧v6≤4096∧0<Nt.val b∧Nr.jK (Nt.val a) v6<2 ^ 4090∧Nr.jE (Nt.val b) v6<2 ^ 4090∧Nr.jK (Nt.val a) v6<2 ^ 60 * Nr.jE (Nt.val b) v6)) (dr.j1 v6 v7))
  (dr.j1 (nZ v2 (-1074:Int)) v3))))))=ρ):dr.F a b=ρ:=Eq.trans (by kernel_rfl) (K _ rfl _ rfl _ rfl _ rfl _ rfl _ rfl _ rfl _ rfl)
def eh.E:cr:=cL fC zs [(116,(fv.c,fv.sg)),(184,(de.c,de.sg)),(185,(dB.c,dB.sg)),(193,(gi.c,gi.sg)),(224,(mu.c,mu.sg)),(225,(gS.c,gS.sg)),(226,(dz.c,dz.sg)),(227,(dr.c,dr.sg))]
def eh.h:Hint := .s .o (.s .o (.s .o (.s .o (.s .o (.s .o (.s .o (.s .o (.s .o (.s .o (.j (sc [7,9]) .o .o))))))))))
def eh.F (d:bz) (x:Int):OT:=cI PG eh.E 194 eh.sg eh.h [(.s d),(.i .i64 x)]
def eh.j1 (x0:List UInt16) (x1:List UInt16):OT:=eD PG eh.E 194 eh.sg eh.h 2047 [(.sl .ws x0),(.sl .ws x1)]
theorem eh.iR (x0:List UInt16) (x1:List UInt16) {ρ:OT} (K:∀(v1:UInt64) (h1:v1=(Nr.pat (Nr.je (Nt.val x0) (Nt.val x1)))) (v2:Bool) (h2:v2=((Nr.je (Nt.val x0) (Nt.val x1)).isSome)),ck (Nt.is x0&&Nt.is x1&&decide (0<Nt.val x0∧0<Nt.val x1∧Nt.val x0<2 ^ 1100∧Nt.val x1<2 ^ 2200)) (some [(.u64 v1),(.b v2)])=ρ):eh.j1 x0 x1=ρ:=((cp _ _ _ _ _ _ _).trans (by kernel_rfl)).trans (K _ rfl _ rfl)
theorem eh.bY (d:bz) (x:Int) {ρ:OT} (K:∀(v1:Bool) (h1:v1=(cond (decide (((d).length:Int)<(1:Int))) true (decide ((300:Int)<((d).length:Int))))) (v2:bz) (h2:v2=(Lib.trimS d (([48,49,50,51,52,53,54,55,56,57]:bz)))) (v3:Bool) (h3:v3=(cond v1 true (!decide (v2=([]:bz))))) (v4:bz) (h4:v4=(Lib.trimLeftS d (([48]:bz)))) (v5:Bool) (h5:v5=(cond (decide (v4=([]:bz))) true (decide (x<(-1000:Int))))) (v6:Int) (h6:v6=(IntKind.i64.wrap (((d).length:Int) - ((v4).length:Int)))) (v7:bz) (h7:v7=(Lib.trimRightS v4 (([48]:bz)))) (v8:List UInt16) (h8:v8=(Nt.of (((1:UInt64))).toNat)) (v9:Int) (h9:v9=(IntKind.i64.wrap ((IntKind.i64.wrap (x - v6)) - ((v7).length:Int)))) (v10:List UInt16) (iS:v10=(Nt.of ((((10:Int))).toNat ^ (v9).toNat))) (v11:List UInt16) (kA:v11=(Nt.of (Nt.val ((Nt.of (Nr.num v7))) * Nt.val v10))) (v12:List UInt16) (jM:v12=(Nt.of ((((10:Int))).toNat ^ (((IntKind.i64.wrap (0 - v9)))).toNat))),ck (!(!(decide (((d).length:Int)<(1:Int)))) || (!(decide (((d).length:Int)<(1:Int))))) (ck (!(!(decide (((d).length:Int)<(1:Int)))) || (!(decide (((d).length:Int)<(1:Int))))) (ck ((decide (((d).length:Int)<(1:Int))) || (!(decide (((d).length:Int)<(1:Int))))) (ck (!(!v1) || ((!v1)&&(decide ((d).length≤1099511627776∧((([48,49,50,51,52,53,54,55,56,57]:bz))).length≤100)&&((([48,49,50,51,52,53,54,55,56,57]:bz))).all (fun b=>decide (b.toNat<128))))) (ck (!(!v1) || (!v1)) (ck (v1 || (!v1)) (cond v3
  (some [(.u64 0),(.b false)])
  (ck (decide ((d).length≤1099511627776∧((([48]:bz))).length≤100)&&((([48]:bz))).all (fun b=>decide (b.toNat<128))) (ck (!(!(decide (v4=([]:bz)))) || (!(decide (v4=([]:bz))))) (ck ((decide (v4=([]:bz))) || (!(decide (v4=([]:bz))))) (cond v5
  (some [(.u64 0),(.b true)])
  (cond (decide ((1000:Int)<x))
  (some [(.u64 0),(.b false)])
  (ck (decide ((v4).length≤1099511627776∧((([48]:bz))).length≤100)&&((([48]:bz))).all (fun b=>decide (b.toNat<128))) (cond (decide ((IntKind.i64.wrap (x - v6))<(-330:Int)))
  (some [(.u64 0),(.b true)])
  (cond (decide ((310:Int)<(IntKind.i64.wrap (x - v6))))
  (some [(.u64 0),(.b false)])
  (ck (decide (1≤(v7).length∧(v7).length≤300∧(v7).getD 0 0≠48)&&(v7).all Nr.eU) (cond (decide ((0:Int)≤v9))
  (ck (decide (2≤((10:Int))∧((10:Int))≤65535∧0≤v9∧v9≤1000∧(((10:Int))).toNat ^ (v9).toNat<2 ^ 4096)) (ck (Nt.is ((Nt.of (Nr.num v7)))&&Nt.is v10) (eh.j1 v11 v8)))
  (ck (decide (2≤((10:Int))∧((10:Int))≤65535∧0≤((IntKind.i64.wrap (0 - v9)))∧((IntKind.i64.wrap (0 - v9)))≤1000∧(((10:Int))).toNat ^ (((IntKind.i64.wrap (0 - v9)))).toNat<2 ^ 4096)) (eh.j1 (Nt.of (Nr.num v7)) v12))))))))))))))))))=ρ):eh.F d x=ρ:=Eq.trans (by kernel_rfl) (K _ rfl _ rfl _ rfl _ rfl _ rfl _ rfl _ rfl _ rfl _ rfl _ rfl _ rfl _ rfl)
def jJ.E:cr:=cL fC zs []
def jJ.h:Hint := .o
def jJ.F (s:bz) (at_:Int) (c:UInt8) (d:UInt8):OT:=cI PG jJ.E 91 jJ.sg jJ.h [(.s s),(.i .i64 at_),(.u8 c),(.u8 d)]
theorem jJ.bY (s:bz) (at_:Int) (c:UInt8) (d:UInt8) {ρ:OT} (K:∀(v1:UInt8) (h1:v1=(List.getD s (at_).toNat (0:UInt8))) (v2:Bool) (h2:v2=((decide (at_<((s).length:Int)))&&(!(decide (v1=c))))) (v3:Bool) (h3:v3=(cond (decide (v1=c)) true (decide (v1=d)))) (v4:Bool) (h4:v4=(cond (decide (at_<((s).length:Int))) v3 false)),ck (!(decide (at_<((s).length:Int))) || (((decide (at_<((s).length:Int)))&&(decide (at_<((s).length:Int))))&&(bD at_ (s).length))) (ck (!(decide (at_<((s).length:Int))) || ((decide (at_<((s).length:Int)))&&(decide (at_<((s).length:Int))))) (ck (!(decide (at_<((s).length:Int))) || (decide (at_<((s).length:Int)))) (ck (!v2 || ((v2&&v2)&&(bD at_ (s).length))) (ck (!v2 || (v2&&v2)) (ck (!(decide (at_<((s).length:Int))) || ((decide (at_<((s).length:Int)))&&((decide (v1=c)) || v2))) (ck (!(decide (at_<((s).length:Int))) || (decide (at_<((s).length:Int)))) (some [(.b v4)])))))))=ρ):jJ.F s at_ c d=ρ:=Eq.trans (by kernel_rfl) (K _ rfl _ rfl _ rfl _ rfl)
def cW.E:cr:=cL fC zs []
def cW.h:Hint := .s .o (.s (.b (.l (sc [0,1]) .o)) .o)
def cW.F (s:bz) (at_:Int):OT:=cI PG cW.E 92 cW.sg cW.h [(.s s),(.i .i64 at_)]
def cW.l1 (x0:bz) (x1:Int):OT:=dL PG cW.E 92 cW.sg cW.h 9 [(.s x0),(.i .i64 x1)]
theorem cW.bX (x0:bz) (x1:Int) {ρ:OT} (K:∀(v1:UInt8) (h1:v1=(List.getD x0 (x1).toNat (0:UInt8))) (v2:Bool) (h2:v2=(cond (decide (x1<((x0).length:Int))) (decide ((48:UInt8)≤v1)) false)) (v3:Bool) (h3:v3=(cond v2 (decide (v1≤(57:UInt8))) false)) (v4:Int) (h4:v4=(IntKind.i64.wrap (x1+(1:Int)))),ck (!(decide (x1<((x0).length:Int))) || (((decide (x1<((x0).length:Int)))&&(decide (x1<((x0).length:Int))))&&(bD x1 (x0).length))) (ck (!(decide (x1<((x0).length:Int))) || (decide (x1<((x0).length:Int)))) (ck (!(decide (x1<((x0).length:Int))) || (decide (x1<((x0).length:Int)))) (ck (!v2 || ((v2&&v2)&&(bD x1 (x0).length))) (ck (!v2 || v2) (ck (!v2 || v2) (cond v3
  (cW.l1 x0 v4)
  (some [(.i .i64 x1)])))))))=ρ):cW.l1 x0 x1=ρ:=((bV _ _ _ _ _ _ _).trans (by kernel_rfl)).trans (K _ rfl _ rfl _ rfl _ rfl)
theorem cW.dW (s:bz) (at_:Int):cW.F s at_=cW.l1 s at_:=by kernel_rfl
def bF.E:cr:=cL fC zs [(91,(jJ.c,jJ.sg)),(92,(cW.c,cW.sg))]
def bF.h:Hint := .s .o (.s .o (.j (sc [0,3,4]) .o (.s .o (.s .o (.s .o (.j (sc [0,3,4]) .o (.j (sc [0,3,4]) (.s .o (.s (.s .o (.s .o (.j (sc [0,3,4]) .o .o))) .o)) .o)))))))
def bF.F (s:bz):OT:=cI PG bF.E 54 bF.sg bF.h [(.s s)]
def bF.j1 (x0:bz) (x1:Int) (x2:Int):OT:=eD PG bF.E 54 bF.sg bF.h 7 [(.s x0),(.i .i64 x1),(.i .i64 x2)]
def bF.j2 (x0:bz) (x1:Int) (x2:Int):OT:=eD PG bF.E 54 bF.sg bF.h 127 [(.s x0),(.i .i64 x1),(.i .i64 x2)]
def bF.j3 (x0:bz) (x1:Int) (x2:Int):OT:=eD PG bF.E 54 bF.sg bF.h 7551 [(.s x0),(.i .i64 x1),(.i .i64 x2)]
def bF.j4 (x0:bz) (x1:Int) (x2:Int):OT:=eD PG bF.E 54 bF.sg bF.h 255 [(.s x0),(.i .i64 x1),(.i .i64 x2)]
theorem bF.iR (x0:bz) (x1:Int) (x2:Int) {ρ:OT} (K:∀(v1:Int) (h1:v1=((x1+(Nr.run ((x0).drop (x1).toNat):Int)))) (v2:UInt8) (h2:v2=(List.getD x0 (x1).toNat (0:UInt8))) (v3:Bool) (h3:v3=((!(decide (v1=x1)))&&(decide (v2=(48:UInt8))))) (v4:Int) (h4:v4=(IntKind.i64.wrap (x1+(1:Int)))) (v5:Bool) (h5:v5=(cond (decide (v2=(48:UInt8))) (decide (v4<v1)) false)) (v6:Bool) (h6:v6=(cond (decide (v1=x1)) true v5)) (v7:Bool) (h7:v7=((decide (v1<(x0).length)&&(decide ((x0).getD (v1).toNat 0=((46:UInt8))) || decide ((x0).getD (v1).toNat 0=((46:UInt8))))))) (v8:Int) (h8:v8=(IntKind.i64.wrap (v1+(1:Int)))) (v9:Int) (h9:v9=((v8+(Nr.run ((x0).drop (v8).toNat):Int)))),ck (decide ((x0).length≤1099511627776)&&decide (0≤x1∧x1≤1099511627776)) (ck (!(!(decide (v1=x1))) || (((!(decide (v1=x1)))&&(!(decide (v1=x1))))&&(bD x1 (x0).length))) (ck (!(!(decide (v1=x1))) || (!(decide (v1=x1)))) (ck (!(!(decide (v1=x1))) || (!(decide (v1=x1)))) (ck (!v3 || v3) (ck (!v3 || (v3&&v3)) (ck (!(!(decide (v1=x1))) || ((!(decide (v1=x1)))&&(!(decide (v2=(48:UInt8))) || v3))) (ck ((decide (v1=x1)) || (!(decide (v1=x1)))) (cond v6
  (some [(.i .i64 0)])
  (ck (decide ((x0).length≤1099511627776)&&decide (0≤v1)) (cond v7
  (ck (decide ((x0).length≤1099511627776)&&decide (0≤v8∧v8≤1099511627776)) (cond (decide (v9=v8))
  (some [(.i .i64 0)])
  (bF.j2 x0 v9 (2:Int))))
  (bF.j2 x0 v1 x2)))))))))))=ρ):bF.j1 x0 x1 x2=ρ:=((cp _ _ _ _ _ _ _).trans (by kernel_rfl)).trans (K _ rfl _ rfl _ rfl _ rfl _ rfl _ rfl _ rfl _ rfl _ rfl)
theorem bF.jx (x0:bz) (x1:Int) (x2:Int) {ρ:OT} (K:∀(v1:Bool) (h1:v1=((decide (x1<(x0).length)&&(decide ((x0).getD (x1).toNat 0=((101:UInt8))) || decide ((x0).getD (x1).toNat 0=((69:UInt8))))))) (v2:Int) (h2:v2=(IntKind.i64.wrap (x1+(1:Int)))) (v3:Bool) (h3:v3=((decide (v2<(x0).length)&&(decide ((x0).getD (v2).toNat 0=((43:UInt8))) || decide ((x0).getD (v2).toNat 0=((45:UInt8))))))) (v4:Int) (h4:v4=(IntKind.i64.wrap (v2+(1:Int)))),ck (decide ((x0).length≤1099511627776)&&decide (0≤x1)) (cond v1
  (ck (decide ((x0).length≤1099511627776)&&decide (0≤v2)) (cond v3
  (bF.j3 x0 v4 (2:Int))
  (bF.j3 x0 v2 (2:Int))))
  (bF.j4 x0 x1 x2))=ρ):bF.j2 x0 x1 x2=ρ:=((cp _ _ _ _ _ _ _).trans (by kernel_rfl)).trans (K _ rfl _ rfl _ rfl _ rfl)
theorem bF.qw (x0:bz) (x1:Int) (x2:Int) {ρ:OT} (K:∀(v1:Int) (h1:v1=((x1+(Nr.run ((x0).drop (x1).toNat):Int)))),ck (decide ((x0).length≤1099511627776)&&decide (0≤x1∧x1≤1099511627776)) (cond (decide (v1=x1))
  (some [(.i .i64 0)])
  (bF.j4 x0 v1 x2))=ρ):bF.j3 x0 x1 x2=ρ:=((cp _ _ _ _ _ _ _).trans (by kernel_rfl)).trans (K _ rfl)
theorem bF.wi (x0:bz) (x1:Int) (x2:Int):bF.j4 x0 x1 x2=cond (!decide (x1=((x0).length:Int)))
  (some [(.i .i64 0)])
  (some [(.i .i64 x2)]):=((cp _ _ _ _ _ _ _).trans (by kernel_rfl))
theorem bF.bY (s:bz) {ρ:OT} (K:∀(v1:Bool) (h1:v1=((decide (((0:Int))<(s).length)&&(decide ((s).getD (((0:Int))).toNat 0=((45:UInt8))) || decide ((s).getD (((0:Int))).toNat 0=((45:UInt8))))))) (v2:Int) (h2:v2=(IntKind.i64.wrap ((0:Int)+(1:Int)))),ck (decide ((s).length≤1099511627776)&&decide (0≤((0:Int)))) (cond v1
  (bF.j1 s v2 (1:Int))
  (bF.j1 s (0:Int) (1:Int)))=ρ):bF.F s=ρ:=Eq.trans (by kernel_rfl) (K _ rfl _ rfl)
def Zh.E:cr:=cL fC zs []
def Zh.h:Hint := .s .o (.s .o (.s (.b (.l (sc [0,3]) .o)) .o))
def Zh.F (s:bz):OT:=cI PG Zh.E 113 Zh.sg Zh.h [(.s s)]
def Zh.l1 (x0:bz) (x1:Int):OT:=dL PG Zh.E 113 Zh.sg Zh.h 19 [(.s x0),(.i .i64 x1)]
theorem Zh.bX (x0:bz) (x1:Int) {ρ:OT} (K:∀(v1:UInt8) (h1:v1=(List.getD x0 (x1).toNat (0:UInt8))) (v2:Bool) (h2:v2=(cond (decide (x1<((x0).length:Int))) (decide ((48:UInt8)≤v1)) false)) (v3:Bool) (h3:v3=(cond v2 (decide (v1≤(57:UInt8))) false)) (v4:Int) (h4:v4=(IntKind.i64.wrap (x1+(1:Int)))),ck (!(decide (x1<((x0).length:Int))) || (((decide (x1<((x0).length:Int)))&&(decide (x1<((x0).length:Int))))&&(bD x1 (x0).length))) (ck (!(decide (x1<((x0).length:Int))) || (decide (x1<((x0).length:Int)))) (ck (!(decide (x1<((x0).length:Int))) || (decide (x1<((x0).length:Int)))) (ck (!v2 || ((v2&&v2)&&(bD x1 (x0).length))) (ck (!v2 || v2) (ck (!v2 || v2) (cond v3
  (Zh.l1 x0 v4)
  (some [(.i .i64 x1)])))))))=ρ):Zh.l1 x0 x1=ρ:=((bV _ _ _ _ _ _ _).trans (by kernel_rfl)).trans (K _ rfl _ rfl _ rfl _ rfl)
theorem Zh.dW (s:bz):Zh.F s=Zh.l1 s (0:Int):=by kernel_rfl
end
end Go.Eng
set_option maxRecDepth 100000
namespace Go.Eng
open Go.Proofs
noncomputable section
def YZ.E:cr:=cL fC zs [(113,(Zh.c,Zh.sg))]
def YZ.h:Hint := .s .o (.s .o (.j (sc [0,3]) .o (.s .o (.s .o (.s .o (.j (sc [0,3]) .o (.j (sc [0,3]) (.s .o (.s (.s .o (.j (sc [0]) .o .o)) .o)) .o)))))))
def YZ.F (s:bz):OT:=cI PG YZ.E 82 YZ.sg YZ.h [(.s s)]
def YZ.j1 (x0:bz) (x1:Int):OT:=eD PG YZ.E 82 YZ.sg YZ.h 7 [(.s x0),(.i .i64 x1)]
def YZ.j2 (x0:bz) (x1:Int):OT:=eD PG YZ.E 82 YZ.sg YZ.h 127 [(.s x0),(.i .i64 x1)]
def YZ.j3 (x0:bz):OT:=eD PG YZ.E 82 YZ.sg YZ.h 3455 [(.s x0)]
def YZ.j4 (x0:bz) (x1:Int):OT:=eD PG YZ.E 82 YZ.sg YZ.h 255 [(.s x0),(.i .i64 x1)]
theorem YZ.iR (x0:bz) (x1:Int) {ρ:OT} (K:∀(v1:UInt8) (h1:v1=(List.getD x0 ((0:Int)).toNat (0:UInt8))) (v2:Bool) (h2:v2=((!(decide (((Nr.run x0:Int))=(0:Int))))&&(decide (v1=(48:UInt8))))) (v3:Bool) (h3:v3=(cond (decide (v1=(48:UInt8))) (decide ((1:Int)<((Nr.run x0:Int)))) false)) (v4:Bool) (h4:v4=(cond (decide (((Nr.run x0:Int))=(0:Int))) true v3)) (v5:bz) (h5:v5=(List.drop (((Nr.run x0:Int))).toNat x0)) (v6:UInt8) (h6:v6=(List.getD v5 ((0:Int)).toNat (0:UInt8))) (v7:Bool) (h7:v7=(cond (decide ((0:Int)<((v5).length:Int))) (decide (v6=(46:UInt8))) false)) (v8:bz) (h8:v8=(List.drop ((1:Int)).toNat v5)) (v9:Int) (h9:v9=(IntKind.i64.wrap ((1:Int)+((Nr.run v8:Int))))),ck (decide ((x0).length≤1099511627776)) (ck (!(!(decide (((Nr.run x0:Int))=(0:Int)))) || ((!(decide (((Nr.run x0:Int))=(0:Int))))&&(bD (0:Int) (x0).length))) (ck (!(!(decide (((Nr.run x0:Int))=(0:Int)))) || (!(decide (((Nr.run x0:Int))=(0:Int))))) (ck (!(!(decide (((Nr.run x0:Int))=(0:Int)))) || (!(decide (((Nr.run x0:Int))=(0:Int))))) (ck (!v2 || v2) (ck (!(!(decide (((Nr.run x0:Int))=(0:Int)))) || ((!(decide (((Nr.run x0:Int))=(0:Int))))&&(!(decide (v1=(48:UInt8))) || v2))) (ck ((decide (((Nr.run x0:Int))=(0:Int))) || (!(decide (((Nr.run x0:Int))=(0:Int))))) (cond v4
  (some [(.i .i64 0)])
  (ck (gY ((Nr.run x0:Int)) (x0).length (x0).length) (ck (!(decide ((0:Int)<((v5).length:Int))) || ((decide ((0:Int)<((v5).length:Int)))&&(bD (0:Int) (v5).length))) (ck (!(decide ((0:Int)<((v5).length:Int))) || (decide ((0:Int)<((v5).length:Int)))) (ck (!(decide ((0:Int)<((v5).length:Int))) || (decide ((0:Int)<((v5).length:Int)))) (cond v7
  (ck (gY (1:Int) (v5).length (v5).length) (ck (decide ((v8).length≤1099511627776)) (cond (decide (((Nr.run v8:Int))=(0:Int)))
  (some [(.i .i64 0)])
  (ck (gY v9 (v5).length (v5).length) (YZ.j2 (List.drop (v9).toNat v5) (2:Int))))))
  (YZ.j2 v5 x1)))))))))))))=ρ):YZ.j1 x0 x1=ρ:=((cp _ _ _ _ _ _ _).trans (by kernel_rfl)).trans (K _ rfl _ rfl _ rfl _ rfl _ rfl _ rfl _ rfl _ rfl _ rfl)
theorem YZ.jx (x0:bz) (x1:Int) {ρ:OT} (K:∀(v1:UInt8) (h1:v1=(List.getD x0 ((0:Int)).toNat (0:UInt8))) (v2:Bool) (h2:v2=((decide ((0:Int)<((x0).length:Int)))&&(!(decide (v1=(101:UInt8)))))) (v3:Bool) (h3:v3=(cond (decide (v1=(101:UInt8))) true (decide (v1=(69:UInt8))))) (v4:Bool) (h4:v4=(cond (decide ((0:Int)<((x0).length:Int))) v3 false)) (v5:bz) (h5:v5=(List.drop ((1:Int)).toNat x0)) (v6:UInt8) (h6:v6=(List.getD v5 ((0:Int)).toNat (0:UInt8))) (v7:Bool) (h7:v7=((decide ((0:Int)<((v5).length:Int)))&&(!(decide (v6=(43:UInt8)))))) (v8:Bool) (h8:v8=(cond (decide (v6=(43:UInt8))) true (decide (v6=(45:UInt8))))) (v9:Bool) (h9:v9=(cond (decide ((0:Int)<((v5).length:Int))) v8 false)) (v10:bz) (iS:v10=(List.drop ((1:Int)).toNat v5)),ck (!(decide ((0:Int)<((x0).length:Int))) || ((decide ((0:Int)<((x0).length:Int)))&&(bD (0:Int) (x0).length))) (ck (!(decide ((0:Int)<((x0).length:Int))) || (decide ((0:Int)<((x0).length:Int)))) (ck (!(decide ((0:Int)<((x0).length:Int))) || (decide ((0:Int)<((x0).length:Int)))) (ck (!v2 || (v2&&(bD (0:Int) (x0).length))) (ck (!v2 || v2) (ck (!(decide ((0:Int)<((x0).length:Int))) || ((decide ((0:Int)<((x0).length:Int)))&&((decide (v1=(101:UInt8))) || v2))) (ck (!(decide ((0:Int)<((x0).length:Int))) || (decide ((0:Int)<((x0).length:Int)))) (cond v4
  (ck (gY (1:Int) (x0).length (x0).length) (ck (!(decide ((0:Int)<((v5).length:Int))) || ((decide ((0:Int)<((v5).length:Int)))&&(bD (0:Int) (v5).length))) (ck (!(decide ((0:Int)<((v5).length:Int))) || (decide ((0:Int)<((v5).length:Int)))) (ck (!(decide ((0:Int)<((v5).length:Int))) || (decide ((0:Int)<((v5).length:Int)))) (ck (!v7 || (v7&&(bD (0:Int) (v5).length))) (ck (!v7 || v7) (ck (!(decide ((0:Int)<((v5).length:Int))) || ((decide ((0:Int)<((v5).length:Int)))&&((decide (v6=(43:UInt8))) || v7))) (ck (!(decide ((0:Int)<((v5).length:Int))) || (decide ((0:Int)<((v5).length:Int)))) (cond v9
  (ck (gY (1:Int) (v5).length (v5).length) (YZ.j3 v10))
  (YZ.j3 v5))))))))))
  (YZ.j4 x0 x1))))))))=ρ):YZ.j2 x0 x1=ρ:=((cp _ _ _ _ _ _ _).trans (by kernel_rfl)).trans (K _ rfl _ rfl _ rfl _ rfl _ rfl _ rfl _ rfl _ rfl _ rfl _ rfl)
theorem YZ.qw (x0:bz) {ρ:OT} (K:∀(v1:bz) (h1:v1=(List.drop (((Nr.run x0:Int))).toNat x0)),ck (decide ((x0).length≤1099511627776)) (cond (decide (((Nr.run x0:Int))=(0:Int)))
  (some [(.i .i64 0)])
  (ck (gY ((Nr.run x0:Int)) (x0).length (x0).length) (YZ.j4 v1 (2:Int))))=ρ):YZ.j3 x0=ρ:=((cp _ _ _ _ _ _ _).trans (by kernel_rfl)).trans (K _ rfl)
theorem YZ.wi (x0:bz) (x1:Int):YZ.j4 x0 x1=cond (!decide (x0=([]:bz)))
  (some [(.i .i64 0)])
  (some [(.i .i64 x1)]):=((cp _ _ _ _ _ _ _).trans (by kernel_rfl))
theorem YZ.bY (s:bz) {ρ:OT} (K:∀(v1:UInt8) (h1:v1=(List.getD s ((0:Int)).toNat (0:UInt8))) (v2:Bool) (h2:v2=(cond (decide ((0:Int)<((s).length:Int))) (decide (v1=(45:UInt8))) false)) (v3:bz) (h3:v3=(List.drop ((1:Int)).toNat s)),ck (!(decide ((0:Int)<((s).length:Int))) || ((decide ((0:Int)<((s).length:Int)))&&(bD (0:Int) (s).length))) (ck (!(decide ((0:Int)<((s).length:Int))) || (decide ((0:Int)<((s).length:Int)))) (ck (!(decide ((0:Int)<((s).length:Int))) || (decide ((0:Int)<((s).length:Int)))) (cond v2
  (ck (gY (1:Int) (s).length (s).length) (YZ.j1 v3 (1:Int)))
  (YZ.j1 s (1:Int)))))=ρ):YZ.F s=ρ:=Eq.trans (by kernel_rfl) (K _ rfl _ rfl _ rfl)
def Zi.E:cr:=cL fC zs []
def Zi.h:Hint := .o
def Zi.F (b:UInt64):OT:=cI PG Zi.E 39 Zi.sg Zi.h [(.u64 b)]
theorem Zi.bY (b:UInt64) {ρ:OT} (K:∀(v1:UInt64) (h1:v1=(dQ b (((63:UInt64)).toNat))) (v2:UInt64) (h2:v2=(dQ b (((52:UInt64)).toNat))) (v3:Int) (h3:v3=(IntKind.i64.wrap (((v2 &&& (2047:UInt64))).toNat:Int))) (v4:UInt64) (h4:v4=(b &&& (4503599627370495:UInt64))) (v5:Bool) (h5:v5=(cond (decide (v3=(0:Int))) (decide (v4=(0:UInt64))) false)) (v6:Bool) (h6:v6=(cond (decide (v3=(2047:Int))) (decide (v4=(0:UInt64))) false)) (v7:UInt64) (h7:v7=((4503599627370496:UInt64)+v4)) (v8:Int) (h8:v8=(IntKind.i64.wrap (v3 - (1075:Int)))),ck (!(decide (v3=(0:Int))) || (decide (v3=(0:Int)))) (ck (!(decide (v3=(0:Int))) || (decide (v3=(0:Int)))) (cond v5
  (some [(.i .i64 1),(.b (decide (v1=(1:UInt64)))),(.u64 0),(.i .i64 0)])
  (ck (!(decide (v3=(2047:Int))) || (decide (v3=(2047:Int)))) (ck (!(decide (v3=(2047:Int))) || (decide (v3=(2047:Int)))) (cond v6
  (some [(.i .i64 3),(.b (decide (v1=(1:UInt64)))),(.u64 0),(.i .i64 0)])
  (cond (decide (v3=(2047:Int)))
  (some [(.i .i64 4),(.b (decide (v1=(1:UInt64)))),(.u64 0),(.i .i64 0)])
  (cond (decide (v3=(0:Int)))
  (some [(.i .i64 2),(.b (decide (v1=(1:UInt64)))),(.u64 v4),(.i .i64 (-1074))])
  (some [(.i .i64 2),(.b (decide (v1=(1:UInt64)))),(.u64 v7),(.i .i64 v8)]))))))))=ρ):Zi.F b=ρ:=Eq.trans (by kernel_rfl) (K _ rfl _ rfl _ rfl _ rfl _ rfl _ rfl _ rfl _ rfl)
def dN.E:cr:=cL fC zs []
def dN.h:Hint := .o
def dN.F (b:UInt64):OT:=cI PG dN.E 51 dN.sg dN.h [(.u64 b)]
theorem dN.bY (b:UInt64) {ρ:OT} (K:∀(v1:UInt64) (h1:v1=(dQ b (((52:UInt64)).toNat))) (v2:Int) (h2:v2=(IntKind.i64.wrap (((v1 &&& (2047:UInt64))).toNat:Int))) (v3:UInt64) (h3:v3=(b &&& (4503599627370495:UInt64))) (v4:UInt64) (h4:v4=(dQ b (((63:UInt64)).toNat))) (v5:Bool) (h5:v5=(cond (decide (v2=(2047:Int))) (!decide (v3=(0:UInt64))) false)) (v6:Bool) (h6:v6=(cond (decide (v2=(0:Int))) (decide (v3=(0:UInt64))) false)) (v7:UInt64) (h7:v7=((4503599627370496:UInt64) ||| v3)) (v8:Int) (h8:v8=(IntKind.i64.wrap (v2 - (1075:Int)))),ck (!(decide (v2=(2047:Int))) || (decide (v2=(2047:Int)))) (ck (!(decide (v2=(2047:Int))) || (decide (v2=(2047:Int)))) (cond v5
  (some [(.i .i64 4),(.b (decide (v4=(1:UInt64)))),(.u64 0),(.i .i64 0)])
  (cond (decide (v2=(2047:Int)))
  (some [(.i .i64 3),(.b (decide (v4=(1:UInt64)))),(.u64 0),(.i .i64 0)])
  (ck (!(decide (v2=(0:Int))) || (decide (v2=(0:Int)))) (ck (!(decide (v2=(0:Int))) || (decide (v2=(0:Int)))) (cond v6
  (some [(.i .i64 1),(.b (decide (v4=(1:UInt64)))),(.u64 0),(.i .i64 0)])
  (cond (decide (v2=(0:Int)))
  (some [(.i .i64 2),(.b (decide (v4=(1:UInt64)))),(.u64 v3),(.i .i64 (-1074))])
  (some [(.i .i64 2),(.b (decide (v4=(1:UInt64)))),(.u64 v7),(.i .i64 v8)]))))))))=ρ):dN.F b=ρ:=Eq.trans (by kernel_rfl) (K _ rfl _ rfl _ rfl _ rfl _ rfl _ rfl _ rfl _ rfl)
def cP.E:cr:=cL fC zs [(149,(fj.c,fj.sg)),(187,(ff.c,ff.sg))]
def cP.h:Hint := .s .o (.s .o (.j (sc [0,1]) .o (.s .o (.s .o (.s (.s .o (.b (.l [(1,.no),(5,.fB 800000),(6,.no),(26,.no),(27,.no),(800000,.pv)] (.s .o (.s .o (.s (.b (.s .o (.s .o (.j [(1,.no),(5,.fB 800000),(6,.no),(7,.no),(26,.no),(27,.no),(800000,.pv)] .o .o)))) .o)))))) (.j [(5,.fB 800000),(800000,.pv)] .o .o))))))
def cP.F (a:List UInt16) (b:List UInt16):OT:=cI PG cP.E 156 cP.sg cP.h [(.sl .ws a),(.sl .ws b)]
def cP.j1 (x0:List UInt16) (x1:List UInt16):OT:=eD PG cP.E 156 cP.sg cP.h 7 [(.sl .ws x0),(.sl .ws x1)]
def cP.l2 (x0:List UInt16) (x1:Int) (x2:Int) (x3:Int) (x4:List UInt16):OT:=dL PG cP.E 156 cP.sg cP.h 351 [(.sl .ws x0),.pt,(.i .i64 x1),(.i .i64 x2),(.i .i64 x3),(.sl .ws x4)]
def cP.j3 (x0:List UInt16) (x1:Int) (x2:Int) (x3:Int) (x4:Int) (x5:List UInt16):OT:=eD PG cP.E 156 cP.sg cP.h 58975 [(.sl .ws x0),.pt,(.i .i64 x1),(.i .i64 x2),(.i .i64 x3),(.i .i64 x4),(.sl .ws x5)]
def cP.j4 (x0:List UInt16):OT:=eD PG cP.E 156 cP.sg cP.h 127 [.pt,(.sl .ws x0)]
theorem cP.lg (x0:List UInt16) (x1:List UInt16):cP.j1 x0 x1=ck (fi (x0).length 2) (cP.l2 x1 (0:Int) (((x0)).length:Int) (0:Int) (x0)):=((cp _ _ _ _ _ _ _).trans (by kernel_rfl))
theorem cP.iu (x0:List UInt16) (x1:Int) (x2:Int) (x3:Int) (x4:List UInt16) {ρ:OT} (K:∀(v1:UInt16) (h1:v1=(List.getD x4 ((x3).toNat) (0:UInt16))) (v2:Int) (h2:v2=(IntKind.i64.wrap ((v1).toNat:Int))) (v3:UInt16) (h3:v3=(List.getD x0 (x3).toNat (0:UInt16))) (v4:Int) (h4:v4=(IntKind.i64.wrap ((v3).toNat:Int))) (v5:Int) (h5:v5=(IntKind.i64.wrap ((IntKind.i64.wrap (x1+v2))+v4))) (v6:List UInt16) (h6:v6=([(UInt16.ofInt x1)]:List UInt16)),cond (decide (x3<x2))
  (ck (bD x3 (x4).length) (ck (decide ((x3).toNat<(x4).length)) (cond (decide (x3<((x0).length:Int)))
  (ck (bD x3 (x0).length) (cP.j3 x0 v5 x3 x2 x3 x4))
  (cP.j3 x0 (IntKind.i64.wrap (x1+v2)) x3 x2 x3 x4))))
  (cond (decide ((0:Int)<x1))
  (ck (fi ((x4).length+(v6).length) 2) (cP.j4 (x4++v6)))
  (cP.j4 x4))=ρ):cP.l2 x0 x1 x2 x3 x4=ρ:=((bV _ _ _ _ _ _ _).trans (by kernel_rfl)).trans (K _ rfl _ rfl _ rfl _ rfl _ rfl _ rfl)
theorem cP.qw (x0:List UInt16) (x1:Int) (x2:Int) (x3:Int) (x4:Int) (x5:List UInt16) {ρ:OT} (K:∀(v1:List UInt16) (h1:v1=(List.set x5 ((x2).toNat) (UInt16.ofInt x1))) (v2:Int) (h2:v2=(Int.fdiv x1 (2 ^ (min (((16:UInt64)).toNat) (IntKind.i64.bits))))) (v3:Int) (h3:v3=(IntKind.i64.wrap (x4+(1:Int)))),ck (bD x2 (x5).length) (ck (decide ((x2).toNat<(x5).length)) (cP.l2 x0 v2 x3 v3 v1))=ρ):cP.j3 x0 x1 x2 x3 x4 x5=ρ:=((cp _ _ _ _ _ _ _).trans (by kernel_rfl)).trans (K _ rfl _ rfl _ rfl)
theorem cP.wi (x0:List UInt16):cP.j4 x0=some [(.sl .ws x0)]:=((cp _ _ _ _ _ _ _).trans (by kernel_rfl))
theorem cP.bY (a:List UInt16) (b:List UInt16) {ρ:OT} (K:∀(v1:Bool) (h1:v1=(cond (!(Nt.is a)) true (!(Nt.is b)))),ck (decide ((a).length≤1099511627776)) (ck (!(!(!(Nt.is a))) || ((!(!(Nt.is a)))&&(decide ((b).length≤1099511627776)))) (ck (!(!(!(Nt.is a))) || (!(!(Nt.is a)))) (ck ((!(Nt.is a)) || (!(!(Nt.is a)))) (cond v1
  (some [(.sl .ws ([]:List UInt16))])
  (cond (decide (((a).length:Int)<((b).length:Int)))
  (cP.j1 b a)
  (cP.j1 a b))))))=ρ):cP.F a b=ρ:=Eq.trans (by kernel_rfl) (K _ rfl)
def dc.E:cr:=cL fC zs [(103,(iC.c,iC.sg)),(121,(fS.c,fS.sg)),(149,(fj.c,fj.sg)),(188,(eZ.c,eZ.sg)),(218,(cG.c,cG.sg)),(219,(mv.c,mv.sg))]
def dc.h:Hint := .s .o (.s .o (.s .o (.s (.b (.l [(0,.no),(3,.fB 800000),(800000,.pv)] (.s .o (.b (.s .o (.s .o (.j [(3,.fB 800000),(4,.no),(6,.no),(800000,.pv)] .o .o))))))) .o)))
def dc.F (a:List UInt16):OT:=cI PG dc.E 192 dc.sg dc.h [(.sl .ws a)]
def dc.l1 (x0:List UInt16) (x1:List bz):OT:=dL PG dc.E 192 dc.sg dc.h 39 [(.sl .ws x0),.pt,(.sl .ss x1)]
def dc.j2 (x0:List UInt16) (x1:bz) (x2:List bz):OT:=eD PG dc.E 192 dc.sg dc.h 1863 [.pt,(.sl .ws x0),(.s x1),(.sl .ss x2)]
theorem dc.bX (x0:List UInt16) (x1:List bz) {ρ:OT} (K:∀(v1:List UInt16) (h1:v1=(Nt.of (Nt.val x0 / (((10000:UInt16))).toNat))) (v2:UInt16) (h2:v2=(UInt16.ofNat (Nt.val x0 % (((10000:UInt16))).toNat))) (v3:Int) (h3:v3=(IntKind.i64.wrap ((v2).toNat:Int))) (v4:Int) (h4:v4=(((Nr.itoa v3)).length:Int)) (v5:Int) (h5:v5=(IntKind.i64.wrap ((4:Int) - v4))) (v6:bz) (h6:v6=((Sh.eK v5)++(Nr.itoa v3))),cond (decide ((0:Int)<((x0).length:Int)))
  (ck (decide ((x0).length≤1000000∧((10000:UInt16))≠0)) (ck (Nr.i64 v3) (cond (decide ((0:Int)<((v1).length:Int)))
  (ck (decide ((([48]:bz))=[48]∧0≤v5∧v5≤100)) (ck (decide (((Sh.eK v5)).length+((Nr.itoa v3)).length≤9223372036854775807)) (dc.j2 v1 v6 x1)))
  (dc.j2 v1 (Nr.itoa v3) x1))))
  (ck (decide ((x1).length≤100000)) (ck (decide ((([]:bz))=[]∧((((x1).reverse))).length≤100000∧((((x1).reverse))).flatten.length≤100000)) (some [(.s (((((x1).reverse))).flatten))])))=ρ):dc.l1 x0 x1=ρ:=((bV _ _ _ _ _ _ _).trans (by kernel_rfl)).trans (K _ rfl _ rfl _ rfl _ rfl _ rfl _ rfl)
theorem dc.lf (x0:List UInt16) (x1:bz) (x2:List bz):dc.j2 x0 x1 x2=ck (fi ((x2).length+(([x1]:List bz)).length) 16) (dc.l1 x0 (x2++([x1]:List bz))):=((cp _ _ _ _ _ _ _).trans (by kernel_rfl))
theorem dc.dW (a:List UInt16):dc.F a=ck (decide ((a).length≤1099511627776)) (cond (!(Nt.is a))
  (some [(.s [])])
  (cond (decide (((a).length:Int)=(0:Int)))
  (some [(.s ([48]:bz))])
  (dc.l1 a ([]:List bz)))):=by kernel_rfl
def cG.E:cr:=cL fC zs []
def cG.h:Hint := .s .o (.b (.l [(0,.fB 1000000),(2,.no),(3,.no),(1000000,.pv)] .o))
def cG.F (l:List bz):OT:=cI PG cG.E 218 cG.sg cG.h [(.sl .ss l)]
def cG.l1 (x0:Int) (x1:Int) (x2:List bz):OT:=dL PG cG.E 218 cG.sg cG.h 5 [.pt,(.i .i64 x0),(.i .i64 x1),(.sl .ss x2)]
theorem cG.bX (x0:Int) (x1:Int) (x2:List bz) {ρ:OT} (K:∀(v1:bz) (h1:v1=(List.getD x2 ((x1).toNat) ([]:bz))) (v2:bz) (h2:v2=(List.getD x2 ((x0).toNat) ([]:bz))) (v3:List bz) (h3:v3=(List.set x2 ((x0).toNat) v1)) (v4:List bz) (h4:v4=(List.set v3 ((x1).toNat) v2)) (v5:Int) (h5:v5=(IntKind.i64.wrap (x0+(1:Int)))) (v6:Int) (h6:v6=(IntKind.i64.wrap (x1 - (1:Int)))),cond (decide (x0<x1))
  (ck (bD x1 (x2).length) (ck (decide ((x1).toNat<(x2).length)) (ck (bD x0 (x2).length) (ck (decide ((x0).toNat<(x2).length)) (ck (bD x0 (x2).length) (ck (decide ((x0).toNat<(x2).length)) (ck (bD x1 (v3).length) (ck (decide ((x1).toNat<(v3).length)) (cG.l1 v5 v6 v4)))))))))
  (some [(.sl .ss x2)])=ρ):cG.l1 x0 x1 x2=ρ:=((bV _ _ _ _ _ _ _).trans (by kernel_rfl)).trans (K _ rfl _ rfl _ rfl _ rfl _ rfl _ rfl)
theorem cG.bY (l:List bz) {ρ:OT} (K:∀(v1:Int) (h1:v1=(IntKind.i64.wrap (((l).length:Int) - (1:Int)))),cG.l1 (0:Int) v1 l=ρ):cG.F l=ρ:=Eq.trans (by kernel_rfl) (K _ rfl)
def eM.E:cr:=cL fC zs [(95,(iD.c,iD.sg))]
def eM.h:Hint := .o
def eM.F (v:Int):OT:=cI PG eM.E 56 eM.sg eM.h [(.i .i64 v)]
theorem eM.dW (v:Int):eM.F v=ck (Nr.i64 v&&decide (((10:Int))=10)) (some [(.s (Nr.itoa v))]):=by kernel_rfl
def fU.E:cr:=cL fC zs [(184,(de.c,de.sg)),(185,(dB.c,dB.sg))]
def fU.h:Hint := .o
def fU.F (a:List UInt16) (b:List UInt16) (k:Int):OT:=cI PG fU.E 152 fU.sg fU.h [(.sl .ws a),(.sl .ws b),(.i .i64 k)]
theorem fU.bY (a:List UInt16) (b:List UInt16) (k:Int) {ρ:OT} (K:∀(v1:List UInt16) (h1:v1=(Nt.of ((((10:Int))).toNat ^ (k).toNat))) (v2:List UInt16) (h2:v2=(Nt.of (Nt.val a * Nt.val v1))) (v3:List UInt16) (h3:v3=(Nt.of ((((10:Int))).toNat ^ (((IntKind.i64.wrap (0 - k)))).toNat))) (v4:List UInt16) (h4:v4=(Nt.of (Nt.val b * Nt.val v3))),cond (decide ((0:Int)≤k))
  (ck (decide (2≤((10:Int))∧((10:Int))≤65535∧0≤k∧k≤1000∧(((10:Int))).toNat ^ (k).toNat<2 ^ 4096)) (ck (Nt.is a&&Nt.is v1) (some [(.sl .ws v2),(.sl .ws b)])))
  (ck (decide (2≤((10:Int))∧((10:Int))≤65535∧0≤((IntKind.i64.wrap (0 - k)))∧((IntKind.i64.wrap (0 - k)))≤1000∧(((10:Int))).toNat ^ (((IntKind.i64.wrap (0 - k)))).toNat<2 ^ 4096)) (ck (Nt.is b&&Nt.is v3) (some [(.sl .ws a),(.sl .ws v4)])))=ρ):fU.F a b k=ρ:=Eq.trans (by kernel_rfl) (K _ rfl _ rfl _ rfl _ rfl)
def fH.E:cr:=cL fC zs [(152,(fU.c,fU.sg)),(153,(gD.c,gD.sg))]
def fH.h:Hint := .o
def fH.F (a:List UInt16) (b:List UInt16) (x:Int):OT:=cI PG fH.E 119 fH.sg fH.h [(.sl .ws a),(.sl .ws b),(.i .i64 x)]
theorem fH.bY (a:List UInt16) (b:List UInt16) (x:Int) {ρ:OT} (K:∀(v1:List UInt16) (h1:v1=(Nt.of (Sh.tA (Nt.val a) ((IntKind.i64.wrap (0 - x)))))) (v2:List UInt16) (h2:v2=(Nt.of (Sh.tB (Nt.val b) ((IntKind.i64.wrap (0 - x)))))) (v3:Int) (h3:v3=(Nt.cmp (Nt.val v1) (Nt.val v2))),ck (Nt.is a&&Nt.is b&&decide (-400≤((IntKind.i64.wrap (0 - x)))∧((IntKind.i64.wrap (0 - x)))≤400∧Nt.val a<2 ^ 1100∧Nt.val b<2 ^ 1100)) (ck (Nt.is v1&&Nt.is v2) (some [(.b (decide ((0:Int)≤v3)))]))=ρ):fH.F a b x=ρ:=Eq.trans (by kernel_rfl) (K _ rfl _ rfl _ rfl)
def fG.E:cr:=cL fC zs [(192,(dc.c,dc.sg)),(193,(gi.c,gi.sg)),(194,(eh.c,eh.sg))]
def fG.h:Hint := .o
def fG.F (b:UInt64) (a:List UInt16) (p:Int):OT:=cI PG fG.E 155 fG.sg fG.h [(.u64 b),(.sl .ws a),(.i .i64 p)]
theorem fG.bY (b:UInt64) (a:List UInt16) (p:Int) {ρ:OT} (K:∀(v1:Int) (h1:v1=(((Sh.qY (Nt.val a))).length:Int)) (v2:bz) (h2:v2=(Lib.trimRightS ((Sh.qY (Nt.val a))) (([48]:bz)))) (v3:UInt64) (h3:v3=(Nr.pat (Nr.read v2 ((IntKind.i64.wrap (v1+p)))))) (v4:Bool) (h4:v4=((Nr.read v2 ((IntKind.i64.wrap (v1+p)))).isSome)) (v5:Bool) (h5:v5=(cond (!v4) true (!decide (v3=b)))),ck (Nt.is a) (ck (decide ((((Sh.qY (Nt.val a)))).length≤1099511627776∧((([48]:bz))).length≤100)&&((([48]:bz))).all (fun b=>decide (b.toNat<128))) (ck (!(!(!v4)) || ((!(!v4))&&(!(!v4)))) (ck ((!v4) || (!(!v4))) (cond v5
  (some [(.s []),(.i .i64 0),(.b false)])
  (some [(.s v2),(.i .i64 (IntKind.i64.wrap (v1+p))),(.b true)])))))=ρ):fG.F b a p=ρ:=Eq.trans (by kernel_rfl) (K _ rfl _ rfl _ rfl _ rfl _ rfl)
def gJ.E:cr:=cL fC zs [(116,(fv.c,fv.sg)),(117,(iZ.c,iZ.sg)),(152,(fU.c,fU.sg)),(153,(gD.c,gD.sg)),(154,(iq.c,iq.sg)),(155,(fG.c,fG.sg)),(156,(cP.c,cP.sg))]
def gJ.h:Hint := .o
def gJ.F (b:UInt64) (p:List UInt16) (q:List UInt16) (x:Int) (n:Int):OT:=cI PG gJ.E 120 gJ.sg gJ.h [(.u64 b),(.sl .ws p),(.sl .ws q),(.i .i64 x),(.i .i64 n)]
theorem gJ.bY (b:UInt64) (p:List UInt16) (q:List UInt16) (x:Int) (n:Int) {ρ:OT} (K:∀(v1:List UInt16) (h1:v1=(Nt.of (Sh.tA (Nt.val p) ((IntKind.i64.wrap (n - x)))))) (v2:List UInt16) (h2:v2=(Nt.of (Sh.tB (Nt.val q) ((IntKind.i64.wrap (n - x)))))) (v3:List UInt16) (h3:v3=(Nt.of (Nt.val v1 / Nt.val v2))) (v4:List UInt16) (h4:v4=(Nt.of (Nt.val v1 % Nt.val v2))) (v5:bz) (h5:v5=(((Sh.kJ (b).toNat (Nt.val v3) ((IntKind.i64.wrap (x - n)))).getD ([],0)).1)) (v6:Int) (h6:v6=(((Sh.kJ (b).toNat (Nt.val v3) ((IntKind.i64.wrap (x - n)))).getD ([],0)).2)) (v7:Bool) (h7:v7=((Sh.kJ (b).toNat (Nt.val v3) ((IntKind.i64.wrap (x - n)))).isSome)) (v8:List UInt16) (h8:v8=(Nt.of (((1:UInt64))).toNat)) (v9:List UInt16) (h9:v9=(Nt.of (Nt.val v3+Nt.val v8))) (v10:bz) (iS:v10=(((Sh.kJ (b).toNat (Nt.val v9) ((IntKind.i64.wrap (x - n)))).getD ([],0)).1)) (v11:Int) (kA:v11=(((Sh.kJ (b).toNat (Nt.val v9) ((IntKind.i64.wrap (x - n)))).getD ([],0)).2)) (v12:Bool) (jM:v12=((Sh.kJ (b).toNat (Nt.val v9) ((IntKind.i64.wrap (x - n)))).isSome)) (kq:List UInt16) (nr:kq=(Nt.of (Nt.val v4 * 2 ^ (((1:Int))).toNat))) (jh:Int) (oa:jh=(Nt.cmp (Nt.val kq) (Nt.val v2))) (jb:Bool) (nV:jb=(cond (!v12) true (decide (jh<(0:Int))))) (lA:Bool) (sw:lA=((v7&&(!jb))&&(decide (jh=(0:Int))))) (tG:UInt16) (zS:tG=(List.getD v3 ((0:Int)).toNat (0:UInt16))) (tF:Bool) (wv:tF=(cond (decide (jh=(0:Int))) (decide ((tG % (2:UInt16))=(0:UInt16))) false)) (wX:Bool) (ET:wX=(cond v7 (cond jb true tF) false)),ck (Nt.is p&&Nt.is q&&decide (-400≤((IntKind.i64.wrap (n - x)))∧((IntKind.i64.wrap (n - x)))≤400∧Nt.val p<2 ^ 1100∧Nt.val q<2 ^ 1100)) (ck (Nt.is v1&&Nt.is v2&&decide (v2≠[])) (ck (Nt.is v3&&decide (-1000≤((IntKind.i64.wrap (x - n)))∧((IntKind.i64.wrap (x - n)))≤1000∧0<Nt.val v3∧Nt.val v3<10 ^ 200)) (ck (Nt.is v3&&Nt.is v8) (ck (Nt.is v9&&decide (-1000≤((IntKind.i64.wrap (x - n)))∧((IntKind.i64.wrap (x - n)))≤1000∧0<Nt.val v9∧Nt.val v9<10 ^ 200)) (ck (decide (0≤((1:Int))∧((1:Int))≤4096)&&Nt.is v4) (ck (Nt.is kq&&Nt.is v2) (ck (!v7 || v7) (ck (!v7 || v7) (ck (!(v7&&(!(!v12))) || (v7&&(!(!v12)))) (ck (!v7 || (v7&&((!v12) || (v7&&(!(!v12)))))) (ck (!v7 || v7) (ck (!(v7&&(!jb)) || (v7&&(!jb))) (ck (!(v7&&(!jb)) || (v7&&(!jb))) (ck (!lA || (lA&&(bD (0:Int) (v3).length))) (ck (!lA || lA) (ck (!lA || (lA&&(!decide ((2:UInt16)=0)))) (ck (!lA || lA) (ck (!(v7&&(!jb)) || ((v7&&(!jb))&&(!(decide (jh=(0:Int))) || lA))) (ck (!v7 || (v7&&(jb || (v7&&(!jb))))) (ck (!v7 || v7) (cond wX
  (some [(.s v5),(.i .i64 v6),(.b true)])
  (some [(.s v10),(.i .i64 v11),(.b v12)]))))))))))))))))))))))=ρ):gJ.F b p q x n=ρ:=Eq.trans (by kernel_rfl) (K _ rfl _ rfl _ rfl _ rfl _ rfl _ rfl _ rfl _ rfl _ rfl _ rfl _ rfl _ rfl _ rfl _ rfl _ rfl _ rfl _ rfl _ rfl _ rfl)
def bM.E:cr:=cL fC zs [(51,(dN.c,dN.sg)),(116,(fv.c,fv.sg)),(117,(iZ.c,iZ.sg)),(118,(fY.c,fY.sg)),(119,(fH.c,fH.sg)),(120,(gJ.c,gJ.sg))]
def bM.h:Hint := .s .o (.s .o (.s .o (.s .o (.s .o (.j (sc [0,9,10]) .o (.s .o (.s (.b (.l (sc [0,3,9,10]) .o)) (.s .o (.b (.l (sc [0,3,9,10,11]) .o))))))))))
def bM.F (b:UInt64):OT:=cI PG bM.E 88 bM.sg bM.h [(.u64 b)]
def bM.j1 (x0:UInt64) (x1:List UInt16) (x2:List UInt16):OT:=eD PG bM.E 88 bM.sg bM.h 63 [(.u64 x0),(.sl .ws x1),(.sl .ws x2)]
def bM.l2 (x0:UInt64) (x1:Int) (x2:List UInt16) (x3:List UInt16):OT:=dL PG bM.E 88 bM.sg bM.h 639 [(.u64 x0),(.i .i64 x1),(.sl .ws x2),(.sl .ws x3)]
def bM.l3 (x0:UInt64) (x1:Int) (x2:List UInt16) (x3:List UInt16) (x4:Int):OT:=dL PG bM.E 88 bM.sg bM.h 1535 [(.u64 x0),(.i .i64 x1),(.sl .ws x2),(.sl .ws x3),(.i .i64 x4)]
theorem bM.iR (x0:UInt64) (x1:List UInt16) (x2:List UInt16) {ρ:OT} (K:∀(v1:Int) (h1:v1=((Nt.bits (Nt.val x1):Int))) (v2:Int) (h2:v2=((Nt.bits (Nt.val x2):Int))) (v3:Int) (h3:v3=(IntKind.i64.wrap ((IntKind.i64.wrap (v1 - v2)) * (30103:Int)))) (v4:Int) (h4:v4=(IntKind.i64.wrap (Int.tdiv v3 (100000:Int)))) (v5:Int) (h5:v5=(IntKind.i64.wrap (v4 - (2:Int)))),ck (Nt.is x1) (ck (Nt.is x2) (ck (!decide ((100000:Int)=0)) (bM.l2 x0 v5 x1 x2)))=ρ):bM.j1 x0 x1 x2=ρ:=((cp _ _ _ _ _ _ _).trans (by kernel_rfl)).trans (K _ rfl _ rfl _ rfl _ rfl _ rfl)
theorem bM.iu (x0:UInt64) (x1:Int) (x2:List UInt16) (x3:List UInt16) {ρ:OT} (K:∀(v1:Int) (h1:v1=(IntKind.i64.wrap (x1+(1:Int)))),ck (Nt.is x2&&Nt.is x3&&decide (-400≤x1∧x1≤400∧Nt.val x2<2 ^ 1100∧Nt.val x3<2 ^ 1100)) (cond (decide (Sh.tB (Nt.val x3) (-x1)≤Sh.tA (Nt.val x2) (-x1)))
  (bM.l2 x0 v1 x2 x3)
  (bM.l3 x0 x1 x2 x3 (1:Int)))=ρ):bM.l2 x0 x1 x2 x3=ρ:=((bV _ _ _ _ _ _ _).trans (by kernel_rfl)).trans (K _ rfl)
theorem bM.uH (x0:UInt64) (x1:Int) (x2:List UInt16) (x3:List UInt16) (x4:Int) {ρ:OT} (K:∀(v1:bz) (h1:v1=(((Sh.pA (x0).toNat (Nt.val x2) (Nt.val x3) x1 x4).getD ([],0)).1)) (v2:Int) (h2:v2=(((Sh.pA (x0).toNat (Nt.val x2) (Nt.val x3) x1 x4).getD ([],0)).2)) (v3:Bool) (h3:v3=((Sh.pA (x0).toNat (Nt.val x2) (Nt.val x3) x1 x4).isSome)) (v4:Int) (h4:v4=(IntKind.i64.wrap (x4+(1:Int)))),ck (Nt.is x2&&Nt.is x3&&Sh.oY (Nt.val x2) (Nt.val x3) x1 x4) (cond v3
  (some [(.s v1),(.i .i64 v2),(.b true)])
  (bM.l3 x0 x1 x2 x3 v4))=ρ):bM.l3 x0 x1 x2 x3 x4=ρ:=((bV _ _ _ _ _ _ _).trans (by kernel_rfl)).trans (K _ rfl _ rfl _ rfl _ rfl)
theorem bM.bY (b:UInt64) {ρ:OT} (K:∀(v1:UInt64) (h1:v1=(b &&& ~~~(9223372036854775808:UInt64))) (v2:List UInt16) (h2:v2=(Nt.of ((((Nr.split b).2.2.1))).toNat)) (v3:List UInt16) (h3:v3=(Nt.of (((1:UInt64))).toNat)) (v4:List UInt16) (h4:v4=(Nt.of (Nt.val v2 * 2 ^ ((((Nr.split b).2.2.2))).toNat))) (v5:Int) (h5:v5=(IntKind.i64.wrap (0 - ((Nr.split b).2.2.2)))) (v6:List UInt16) (h6:v6=(Nt.of (Nt.val v3 * 2 ^ (v5).toNat))),cond (!decide (((Nr.split b).1)=(2:Int)))
  (some [(.s []),(.i .i64 0),(.b false)])
  (cond (decide ((0:Int)≤((Nr.split b).2.2.2)))
  (ck (decide (0≤(((Nr.split b).2.2.2))∧(((Nr.split b).2.2.2))≤4096)&&Nt.is v2) (bM.j1 v1 v4 v3))
  (ck (decide (0≤v5∧v5≤4096)&&Nt.is v3) (bM.j1 v1 v2 v6)))=ρ):bM.F b=ρ:=Eq.trans (by kernel_rfl) (K _ rfl _ rfl _ rfl _ rfl _ rfl _ rfl)
def dY.E:cr:=cL fC zs [(56,(eM.c,eM.sg)),(121,(fS.c,fS.sg))]
def dY.h:Hint := .s .o (.s .o (.s .o (.s .o (.j (sc [1,6]) .o .o))))
def dY.F (d:bz) (x:Int):OT:=cI PG dY.E 89 dY.sg dY.h [(.s d),(.i .i64 x)]
def dY.j1 (x0:Int) (x1:bz):OT:=eD PG dY.E 89 dY.sg dY.h 31 [(.i .i64 x0),(.s x1)]
theorem dY.iR (x0:Int) (x1:bz) {ρ:OT} (K:∀(v1:Int) (h1:v1=(IntKind.i64.wrap ((1:Int) - x0))) (v2:bz) (h2:v2=((x1++([101,45]:bz))++(Nr.itoa v1))) (v3:Int) (h3:v3=(IntKind.i64.wrap (x0 - (1:Int)))) (v4:bz) (h4:v4=((x1++([101,43]:bz))++(Nr.itoa v3))),cond (decide (x0<(1:Int)))
  (ck (decide ((x1).length+(([101,45]:bz)).length≤9223372036854775807)) (ck (Nr.i64 v1) (ck (decide (((x1++([101,45]:bz))).length+((Nr.itoa v1)).length≤9223372036854775807)) (some [(.s v2)]))))
  (ck (decide ((x1).length+(([101,43]:bz)).length≤9223372036854775807)) (ck (Nr.i64 v3) (ck (decide (((x1++([101,43]:bz))).length+((Nr.itoa v3)).length≤9223372036854775807)) (some [(.s v4)]))))=ρ):dY.j1 x0 x1=ρ:=((cp _ _ _ _ _ _ _).trans (by kernel_rfl)).trans (K _ rfl _ rfl _ rfl _ rfl)
theorem dY.bY (d:bz) (x:Int) {ρ:OT} (K:∀(v1:Bool) (h1:v1=(cond (decide ((1:Int)≤x)) (decide (x≤(21:Int))) false)) (v2:Bool) (h2:v2=(cond v1 (decide (((d).length:Int)≤x)) false)) (v3:Int) (h3:v3=(IntKind.i64.wrap (x - ((d).length:Int)))) (v4:bz) (h4:v4=((List.take (x).toNat d)++([46]:bz))) (v5:bz) (h5:v5=(v4++(List.drop (x).toNat d))) (v6:Bool) (h6:v6=(cond (decide ((-5:Int)≤x)) (decide (x≤(0:Int))) false)) (v7:bz) (h7:v7=(Sh.eK ((IntKind.i64.wrap (0 - x))))) (v8:bz) (h8:v8=((([48,46]:bz)++v7)++d)) (v9:bz) (h9:v9=(List.take ((1:Int)).toNat d)) (v10:bz) (iS:v10=(List.drop ((1:Int)).toNat d)) (v11:bz) (kA:v11=(v9++(([46]:bz)++v10))),ck (!(decide ((1:Int)≤x)) || (decide ((1:Int)≤x))) (ck (!(decide ((1:Int)≤x)) || (decide ((1:Int)≤x))) (ck (!v1 || (v1&&v1)) (ck (!v1 || v1) (cond v2
  (ck (decide ((([48]:bz))=[48]∧0≤v3∧v3≤100)) (ck (decide ((d).length+((Sh.eK v3)).length≤9223372036854775807)) (some [(.s (d++(Sh.eK v3)))])))
  (ck (!(decide ((1:Int)≤x)) || (decide ((1:Int)≤x))) (ck (!(decide ((1:Int)≤x)) || (decide ((1:Int)≤x))) (cond v1
  (ck (gY 0 x (d).length) (ck (decide (((List.take (x).toNat d)).length+(([46]:bz)).length≤9223372036854775807)) (ck (gY x (d).length (d).length) (ck (decide ((v4).length+((List.drop (x).toNat d)).length≤9223372036854775807)) (some [(.s v5)])))))
  (ck (!(decide ((-5:Int)≤x)) || (decide ((-5:Int)≤x))) (ck (!(decide ((-5:Int)≤x)) || (decide ((-5:Int)≤x))) (cond v6
  (ck (decide ((([48]:bz))=[48]∧0≤((IntKind.i64.wrap (0 - x)))∧((IntKind.i64.wrap (0 - x)))≤100)) (ck (decide ((([48,46]:bz)).length+(v7).length≤9223372036854775807)) (ck (decide (((([48,46]:bz)++v7)).length+(d).length≤9223372036854775807)) (some [(.s v8)]))))
  (ck (gY 0 (1:Int) (d).length) (cond (decide ((1:Int)<((d).length:Int)))
  (ck (gY (1:Int) (d).length (d).length) (ck (decide ((([46]:bz)).length+(v10).length≤9223372036854775807)) (ck (decide ((v9).length+((([46]:bz)++v10)).length≤9223372036854775807)) (dY.j1 x v11))))
  (dY.j1 x v9)))))))))))))=ρ):dY.F d x=ρ:=Eq.trans (by kernel_rfl) (K _ rfl _ rfl _ rfl _ rfl _ rfl _ rfl _ rfl _ rfl _ rfl _ rfl _ rfl)
def dD.E:cr:=cL fC zs [(51,(dN.c,dN.sg)),(88,(bM.c,bM.sg)),(89,(dY.c,dY.sg))]
def dD.h:Hint := .s .o (.s .o (.s .o (.j (sc [4,7]) .o .o)))
def dD.F (b:UInt64):OT:=cI PG dD.E 52 dD.sg dD.h [(.u64 b)]
def dD.j1 (x0:Bool) (x1:bz):OT:=eD PG dD.E 52 dD.sg dD.h 15 [(.b x0),(.s x1)]
theorem dD.lg (x0:Bool) (x1:bz):dD.j1 x0 x1=cond x0
  (ck (decide ((([45]:bz)).length+(x1).length≤9223372036854775807)) (some [(.s (([45]:bz)++x1))]))
  (some [(.s x1)]):=((cp _ _ _ _ _ _ _).trans (by kernel_rfl))
theorem dD.bY (b:UInt64) {ρ:OT} (K:∀(v1:bz) (h1:v1=(Sh.CG (((Sh.dg b).1)) (((Sh.dg b).2.1)))),cond (decide (((Nr.split b).1)=(4:Int)))
  (some [(.s ([78,97,78]:bz))])
  (cond (decide (((Nr.split b).1)=(3:Int)))
  (dD.j1 ((Nr.split b).2.1) ([73,110,102,105,110,105,116,121]:bz))
  (cond (decide (((Nr.split b).1)=(1:Int)))
  (dD.j1 ((Nr.split b).2.1) ([48]:bz))
  (ck (decide (1≤((((Sh.dg b).1))).length∧((((Sh.dg b).1))).length≤17∧-900≤(((Sh.dg b).2.1))∧(((Sh.dg b).2.1))≤900)) (dD.j1 ((Nr.split b).2.1) v1))))=ρ):dD.F b=ρ:=Eq.trans (by kernel_rfl) (K _ rfl)
end
end Go.Eng
set_option maxRecDepth 100000
namespace Go.Eng
open Go.Proofs
noncomputable section
def cY.E:cr:=cL fC zs [(270,(mw.c,mw.sg))]
def cY.h:Hint := .o
def cY.F (v:UInt64) (b:Int):OT:=cI PG cY.E 255 cY.sg cY.h [(.u64 v),(.i .i64 b)]
theorem cY.dW (v:UInt64) (b:Int):cY.F v b=ck (decide (b=10)) (some [(.s (Nr.dec (v).toNat))]):=by kernel_rfl
def dj.E:cr:=cL fC zs []
def dj.h:Hint := .o
def dj.F (s:bz) (t:bz):OT:=cI PG dj.E 102 dj.sg dj.h [(.s s),(.s t)]
theorem dj.bY (s:bz) (t:bz) {ρ:OT} (K:∀(v1:bz) (h1:v1=(List.take (((t).length:Int)).toNat s)) (v2:Bool) (h2:v2=(cond (decide (((t).length:Int)≤((s).length:Int))) (decide (v1=t)) false)),ck (!(decide (((t).length:Int)≤((s).length:Int))) || (decide (((t).length:Int)≤((s).length:Int)))) (ck (!(decide (((t).length:Int)≤((s).length:Int))) || (((decide (((t).length:Int)≤((s).length:Int)))&&(decide (((t).length:Int)≤((s).length:Int))))&&(gY 0 ((t).length:Int) (s).length))) (ck (!(decide (((t).length:Int)≤((s).length:Int))) || ((decide (((t).length:Int)≤((s).length:Int)))&&(decide (((t).length:Int)≤((s).length:Int))))) (ck (!(decide (((t).length:Int)≤((s).length:Int))) || (decide (((t).length:Int)≤((s).length:Int)))) (some [(.b v2)]))))=ρ):dj.F s t=ρ:=Eq.trans (by kernel_rfl) (K _ rfl _ rfl)
def cS.E:cr:=cL fC zs [(102,(dj.c,dj.sg))]
def cS.h:Hint := .o
def cS.F (s:bz) (t:bz):OT:=cI PG cS.E 65 cS.sg cS.h [(.s s),(.s t)]
theorem cS.dW (s:bz) (t:bz):cS.F s t=some [(.b (List.isPrefixOf t s))]:=by kernel_rfl
def di.E:cr:=cL fC zs [(183,(cT.c,cT.sg))]
def di.h:Hint := .o
def di.F (s:bz) (c:UInt8):OT:=cI PG di.E 146 di.sg di.h [(.s s),(.u8 c)]
theorem di.dW (s:bz) (c:UInt8):di.F s c=some [(.i .i64 (Lib.indexByte s c))]:=by kernel_rfl
def fJ.E:cr:=cL fC zs []
def fJ.h:Hint := .o
def fJ.F (a:UInt64) (b:UInt64):OT:=cI PG fJ.E 196 fJ.sg fJ.h [(.u64 a),(.u64 b)]
theorem fJ.bY (a:UInt64) (b:UInt64) {ρ:OT} (K:∀(v1:UInt64) (h1:v1=(a &&& (4294967295:UInt64))) (v2:UInt64) (h2:v2=(dQ a (((32:UInt64)).toNat))) (v3:UInt64) (h3:v3=(b &&& (4294967295:UInt64))) (v4:UInt64) (h4:v4=(dQ b (((32:UInt64)).toNat))) (v5:UInt64) (h5:v5=(dQ (v1 * v3) (((32:UInt64)).toNat))) (v6:UInt64) (h6:v6=(((v2 * v3)+v5) &&& (4294967295:UInt64))) (v7:UInt64) (h7:v7=(dQ ((v2 * v3)+v5) (((32:UInt64)).toNat))) (v8:UInt64) (h8:v8=(dQ (v6+(v1 * v4)) (((32:UInt64)).toNat))),some [(.u64 (((v2 * v4)+v7)+v8)),(.u64 (a * b))]=ρ):fJ.F a b=ρ:=Eq.trans (by kernel_rfl) (K _ rfl _ rfl _ rfl _ rfl _ rfl _ rfl _ rfl _ rfl)
def eP.E:cr:=cL fC zs [(200,(bits_Len64.c,bits_Len64.sg))]
def eP.h:Hint := .o
def eP.F (v:UInt64):OT:=cI PG eP.E 277 eP.sg eP.h [(.u64 v)]
theorem eP.bY (v:UInt64) {ρ:OT} (K:∀(v1:Int) (h1:v1=(IntKind.i64.wrap ((64:Int) - ((Nt.bits (v).toNat:Int))))),some [(.i .i64 v1)]=ρ):eP.F v=ρ:=Eq.trans (by kernel_rfl) (K _ rfl)
def bI.E:cr:=cL fC zs [(277,(eP.c,eP.sg))]
def bI.h:Hint := .s .o (.j (sc [0,1,2]) .o (.j (sc [0,1,2]) .o (.s .o (.s .o (.s .o (.s .o (.s .o (.s .o (.s .o (.s .o (.s .o (.s .o (.s .o (.j (sc [2,8,9,10,11,13,14,15]) (.b (.l (sc [2,8,9,10,11,13,14,15,16]) .o)) (.s .o (.s .o (.s .o (.j (sc [2,8,14,15,17,18]) (.b (.l (sc [2,8,9,10,14,15,16,17,18]) .o)) .o))))))))))))))))))
def bI.F (a:UInt64) (b:UInt64) (y:UInt64):OT:=cI PG bI.E 269 bI.sg bI.h [(.u64 a),(.u64 b),(.u64 y)]
def bI.j1 (x0:UInt64) (x1:UInt64) (x2:UInt64):OT:=eD PG bI.E 269 bI.sg bI.h 3 [(.u64 x0),(.u64 x1),(.u64 x2)]
def bI.j2 (x0:UInt64) (x1:UInt64) (x2:UInt64):OT:=eD PG bI.E 269 bI.sg bI.h 7 [(.u64 x0),(.u64 x1),(.u64 x2)]
def bI.l3 (x0:UInt64) (x1:UInt64) (x2:UInt64) (x3:UInt64) (x4:UInt64) (x5:UInt64) (x6:UInt64) (x7:UInt64) (x8:UInt64):OT:=dL PG bI.E 269 bI.sg bI.h 81919 [(.u64 x0),(.u64 x1),(.u64 x2),(.u64 x3),(.u64 x4),(.u64 x5),(.u64 x6),(.u64 x7),(.u64 x8)]
def bI.j4 (x0:UInt64) (x1:UInt64) (x2:UInt64) (x3:UInt64) (x4:UInt64) (x5:UInt64) (x6:UInt64) (x7:UInt64):OT:=eD PG bI.E 269 bI.sg bI.h 32767 [(.u64 x0),(.u64 x1),(.u64 x2),(.u64 x3),(.u64 x4),(.u64 x5),(.u64 x6),(.u64 x7)]
def bI.l5 (x0:UInt64) (x1:UInt64) (x2:UInt64) (x3:UInt64) (x4:UInt64) (x5:UInt64) (x6:UInt64) (x7:UInt64) (x8:UInt64):OT:=dL PG bI.E 269 bI.sg bI.h 1310719 [(.u64 x0),(.u64 x1),(.u64 x2),(.u64 x3),(.u64 x4),(.u64 x5),(.u64 x6),(.u64 x7),(.u64 x8)]
def bI.j6 (x0:UInt64) (x1:UInt64) (x2:UInt64) (x3:UInt64) (x4:UInt64) (x5:UInt64):OT:=eD PG bI.E 269 bI.sg bI.h 524287 [(.u64 x0),(.u64 x1),(.u64 x2),(.u64 x3),(.u64 x4),(.u64 x5)]
theorem bI.lg (x0:UInt64) (x1:UInt64) (x2:UInt64):bI.j1 x0 x1 x2=cond (decide (x2≤x0))
  (none)
  (bI.j2 x0 x1 x2):=((cp _ _ _ _ _ _ _).trans (by kernel_rfl))
theorem bI.jx (x0:UInt64) (x1:UInt64) (x2:UInt64) {ρ:OT} (K:∀(v1:UInt64) (h1:v1=(jr x2 (((UInt64.ofInt (0))).toNat))) (v2:UInt64) (h2:v2=(dQ v1 (((32:UInt64)).toNat))) (v3:UInt64) (h3:v3=(v1 &&& (4294967295:UInt64))) (v4:UInt64) (h4:v4=(jr x0 (((UInt64.ofInt (0))).toNat))) (v5:UInt64) (h5:v5=((64:UInt64) - (UInt64.ofInt (0)))) (v6:UInt64) (h6:v6=(v4 ||| (dQ x1 ((v5).toNat)))) (v7:UInt64) (h7:v7=(jr x1 (((UInt64.ofInt (0))).toNat))) (v8:UInt64) (h8:v8=(dQ v7 (((32:UInt64)).toNat))) (v9:UInt64) (h9:v9=(v7 &&& (4294967295:UInt64))),cond (decide (x0=(0:UInt64)))
  (ck (!decide (x2=0)) (ck (!decide (x2=0)) (some [(.u64 (x1 / x2)),(.u64 (x1 % x2))])))
  (ck (decide (9223372036854775808≤(x2).toNat)) (ck (!decide (v2=0)) (bI.l3 v1 (UInt64.ofInt (0)) v2 v3 v6 v8 v9 (v6 / v2) (v6 - ((v6 / v2) * v2)))))=ρ):bI.j2 x0 x1 x2=ρ:=((cp _ _ _ _ _ _ _).trans (by kernel_rfl)).trans (K _ rfl _ rfl _ rfl _ rfl _ rfl _ rfl _ rfl _ rfl _ rfl)
theorem bI.uH (x0:UInt64) (x1:UInt64) (x2:UInt64) (x3:UInt64) (x4:UInt64) (x5:UInt64) (x6:UInt64) (x7:UInt64) (x8:UInt64) {ρ:OT} (K:∀(v1:UInt64) (h1:v1=(((4294967296:UInt64) * x8)+x5)) (v2:Bool) (h2:v2=(cond (decide ((4294967296:UInt64)≤x7)) true (decide (v1<(x7 * x3))))),ck (!(!(decide ((4294967296:UInt64)≤x7))) || ((!(decide ((4294967296:UInt64)≤x7)))&&(!(decide ((4294967296:UInt64)≤x7))))) (ck (!(!(decide ((4294967296:UInt64)≤x7))) || (!(decide ((4294967296:UInt64)≤x7)))) (ck (!(!(decide ((4294967296:UInt64)≤x7))) || ((!(decide ((4294967296:UInt64)≤x7)))&&(!(decide ((4294967296:UInt64)≤x7))))) (ck (!(!(decide ((4294967296:UInt64)≤x7))) || ((!(decide ((4294967296:UInt64)≤x7)))&&(!(decide ((4294967296:UInt64)≤x7))))) (ck ((decide ((4294967296:UInt64)≤x7)) || (!(decide ((4294967296:UInt64)≤x7)))) (cond v2
  (cond (decide ((4294967296:UInt64)≤(x8+x2)))
  (bI.j4 x0 x1 x2 x3 x4 x5 x6 (x7 - (1:UInt64)))
  (bI.l3 x0 x1 x2 x3 x4 x5 x6 (x7 - (1:UInt64)) (x8+x2)))
  (bI.j4 x0 x1 x2 x3 x4 x5 x6 x7))))))=ρ):bI.l3 x0 x1 x2 x3 x4 x5 x6 x7 x8=ρ:=((bV _ _ _ _ _ _ _).trans (by kernel_rfl)).trans (K _ rfl _ rfl)
theorem bI.Gs (x0:UInt64) (x1:UInt64) (x2:UInt64) (x3:UInt64) (x4:UInt64) (x5:UInt64) (x6:UInt64) (x7:UInt64) {ρ:OT} (K:∀(v1:UInt64) (h1:v1=((x4 * (4294967296:UInt64))+x5)) (v2:UInt64) (h2:v2=(((v1 - (x7 * x0)) / x2) * x2)),ck (!decide (x2=0)) (bI.l5 x0 x1 x2 x3 x6 x7 ((v1 - (x7 * x0)) - v2) (v1 - (x7 * x0)) ((v1 - (x7 * x0)) / x2))=ρ):bI.j4 x0 x1 x2 x3 x4 x5 x6 x7=ρ:=((cp _ _ _ _ _ _ _).trans (by kernel_rfl)).trans (K _ rfl _ rfl)
theorem bI.CH (x0:UInt64) (x1:UInt64) (x2:UInt64) (x3:UInt64) (x4:UInt64) (x5:UInt64) (x6:UInt64) (x7:UInt64) (x8:UInt64) {ρ:OT} (K:∀(v1:UInt64) (h1:v1=(((4294967296:UInt64) * x6)+x4)) (v2:Bool) (h2:v2=(cond (decide ((4294967296:UInt64)≤x8)) true (decide (v1<(x8 * x3))))),ck (!(!(decide ((4294967296:UInt64)≤x8))) || ((!(decide ((4294967296:UInt64)≤x8)))&&(!(decide ((4294967296:UInt64)≤x8))))) (ck (!(!(decide ((4294967296:UInt64)≤x8))) || (!(decide ((4294967296:UInt64)≤x8)))) (ck (!(!(decide ((4294967296:UInt64)≤x8))) || ((!(decide ((4294967296:UInt64)≤x8)))&&(!(decide ((4294967296:UInt64)≤x8))))) (ck (!(!(decide ((4294967296:UInt64)≤x8))) || ((!(decide ((4294967296:UInt64)≤x8)))&&(!(decide ((4294967296:UInt64)≤x8))))) (ck ((decide ((4294967296:UInt64)≤x8)) || (!(decide ((4294967296:UInt64)≤x8)))) (cond v2
  (cond (decide ((4294967296:UInt64)≤(x6+x2)))
  (bI.j6 x0 x1 x4 x5 x7 (x8 - (1:UInt64)))
  (bI.l5 x0 x1 x2 x3 x4 x5 (x6+x2) x7 (x8 - (1:UInt64))))
  (bI.j6 x0 x1 x4 x5 x7 x8))))))=ρ):bI.l5 x0 x1 x2 x3 x4 x5 x6 x7 x8=ρ:=((bV _ _ _ _ _ _ _).trans (by kernel_rfl)).trans (K _ rfl _ rfl)
theorem bI.Gq (x0:UInt64) (x1:UInt64) (x2:UInt64) (x3:UInt64) (x4:UInt64) (x5:UInt64) {ρ:OT} (K:∀(v1:UInt64) (h1:v1=((x3 * (4294967296:UInt64))+x5)) (v2:UInt64) (h2:v2=((x4 * (4294967296:UInt64))+x2)) (v3:UInt64) (h3:v3=(dQ (v2 - (x5 * x0)) ((x1).toNat))),some [(.u64 v1),(.u64 v3)]=ρ):bI.j6 x0 x1 x2 x3 x4 x5=ρ:=((cp _ _ _ _ _ _ _).trans (by kernel_rfl)).trans (K _ rfl _ rfl _ rfl)
theorem bI.dW (a:UInt64) (b:UInt64) (y:UInt64):bI.F a b y=cond (decide (y=(0:UInt64)))
  (none)
  (bI.j1 a b y):=by kernel_rfl
def ij.E:cr:=cL fC zs []
def ij.h:Hint := .o
def ij.F (a:dH) (b:dH):OT:=cI PG ij.E 252 ij.sg ij.h [(.ag (dH.cells a)),(.ag (dH.cells b))]
theorem ij.bY (a:dH) (b:dH) {ρ:OT} (K:∀(v1:Bool) (h1:v1=(decide ((dH.high a)=(dH.high b))&&decide ((dH.low a)=(dH.low b)))) (v2:Bool) (h2:v2=((!(decide ((dH.high a)<(dH.high b))))&&(decide ((dH.high a)=(dH.high b))))) (v3:Bool) (h3:v3=(cond (decide ((dH.high a)=(dH.high b))) (decide ((dH.low a)<(dH.low b))) false)) (v4:Bool) (h4:v4=(cond (decide ((dH.high a)<(dH.high b))) true v3)),cond v1
  (some [(.i .i64 0)])
  (ck (!(!(decide ((dH.high a)<(dH.high b)))) || (!(decide ((dH.high a)<(dH.high b))))) (ck (!(!(decide ((dH.high a)<(dH.high b)))) || (!(decide ((dH.high a)<(dH.high b))))) (ck (!(!(decide ((dH.high a)<(dH.high b)))) || ((!(decide ((dH.high a)<(dH.high b))))&&(!(decide ((dH.high a)<(dH.high b)))))) (ck (!(!(decide ((dH.high a)<(dH.high b)))) || (!(decide ((dH.high a)<(dH.high b))))) (ck (!v2 || v2) (ck (!v2 || v2) (ck (!v2 || (v2&&v2)) (ck (!(!(decide ((dH.high a)<(dH.high b)))) || ((!(decide ((dH.high a)<(dH.high b))))&&(!(decide ((dH.high a)=(dH.high b))) || v2))) (ck ((decide ((dH.high a)<(dH.high b))) || (!(decide ((dH.high a)<(dH.high b))))) (cond v4
  (some [(.i .i64 (-1))])
  (some [(.i .i64 1)])))))))))))=ρ):ij.F a b=ρ:=Eq.trans (by kernel_rfl) (K _ rfl _ rfl _ rfl _ rfl)
def iH.E:cr:=cL fC zs [(196,(fJ.c,fJ.sg))]
def iH.h:Hint := .o
def iH.F (a:UInt64) (b:UInt64):OT:=cI PG iH.E 268 iH.sg iH.h [(.u64 a),(.u64 b)]
theorem iH.bY (a:UInt64) (b:UInt64) {ρ:OT} (K:∀(v1:UInt64) (h1:v1=(UInt64.ofNat ((a).toNat * (b).toNat / 18446744073709551616))) (v2:UInt64) (h2:v2=(UInt64.ofNat ((a).toNat * (b).toNat))),some [(.ag [(.u64 v1),(.u64 v2)])]=ρ):iH.F a b=ρ:=Eq.trans (by kernel_rfl) (K _ rfl _ rfl)
def iI.E:cr:=cL fC zs [(269,(bI.c,bI.sg))]
def iI.h:Hint := .o
def iI.F (a:dH) (b:UInt64):OT:=cI PG iI.E 254 iI.sg iI.h [(.ag (dH.cells a)),(.u64 b)]
theorem iI.bY (a:dH) (b:UInt64) {ρ:OT} (K:∀(v1:UInt64) (h1:v1=(UInt64.ofNat (((((0:UInt64))).toNat * 18446744073709551616+(((dH.high a))).toNat) / (b).toNat))) (v2:UInt64) (h2:v2=(UInt64.ofNat (((((0:UInt64))).toNat * 18446744073709551616+(((dH.high a))).toNat) % (b).toNat))) (v3:UInt64) (h3:v3=(UInt64.ofNat (((v2).toNat * 18446744073709551616+(((dH.low a))).toNat) / (b).toNat))) (v4:UInt64) (h4:v4=(UInt64.ofNat (((v2).toNat * 18446744073709551616+(((dH.low a))).toNat) % (b).toNat))),cond (decide (b=(0:UInt64)))
  (some [(.ag [(.u64 0),(.u64 0)]),(.u64 0),(.b false)])
  (ck (decide (9223372036854775808≤(b).toNat∧(((0:UInt64))).toNat<(b).toNat)) (ck (decide (9223372036854775808≤(b).toNat∧(v2).toNat<(b).toNat)) (some [(.ag [(.u64 v1),(.u64 v3)]),(.u64 v4),(.b true)])))=ρ):iI.F a b=ρ:=Eq.trans (by kernel_rfl) (K _ rfl _ rfl _ rfl _ rfl)
def cZ.E:cr:=cL fC zs [(121,(fS.c,fS.sg)),(225,(gS.c,gS.sg)),(254,(iI.c,iI.sg)),(255,(cY.c,cY.sg))]
def cZ.h:Hint := .s .o (.s .o (.s (.b (.l [(1,.ptr 53 0),(3,.no),(53,.cl [])] .o)) (.j (sc [3]) .o .o)))
def cZ.F (a:dH):OT:=cI PG cZ.E 236 cZ.sg cZ.h [(.ag (dH.cells a))]
def cZ.l1 (x0:bz) (x1:UInt64) (x2:UInt64):OT:=dL PG cZ.E 236 cZ.sg cZ.h 19 [.pt,(.s x0),(.ag [(.u64 x1),(.u64 x2)])]
def cZ.j2 (x0:bz):OT:=eD PG cZ.E 236 cZ.sg cZ.h 15 [(.s x0)]
theorem cZ.bX (x0:bz) (x1:UInt64) (x2:UInt64) {ρ:OT} (K:∀(v1:dH) (h1:v1=(dH.of (dH.val (dH.mk x1 x2) / (((10000000000000000000:UInt64))).toNat))) (v2:UInt64) (h2:v2=(UInt64.ofNat (dH.val (dH.mk x1 x2) % (((10000000000000000000:UInt64))).toNat))) (v3:Int) (h3:v3=(((Nr.dec (v2).toNat)).length:Int)) (v4:Int) (h4:v4=(IntKind.i64.wrap ((19:Int) - v3))) (v5:bz) (h5:v5=((Sh.eK v4)++(Nr.dec (v2).toNat))) (v6:Bool) (h6:v6=(cond (decide (x0=([]:bz))) true (!decide (x2=(0:UInt64))))),cond (!decide (x1=(0:UInt64)))
  (ck (decide (9223372036854775808≤(((10000000000000000000:UInt64))).toNat)) (ck (decide (((10:Int))=10)) (ck (decide ((([48]:bz))=[48]∧0≤v4∧v4≤100)) (ck (decide (((Sh.eK v4)).length+((Nr.dec (v2).toNat)).length≤9223372036854775807)) (ck (decide ((v5).length+(x0).length≤9223372036854775807)) (cZ.l1 (v5++x0) (dH.high v1) (dH.low v1)))))))
  (ck (!(!(decide (x0=([]:bz)))) || (!(decide (x0=([]:bz))))) (ck (!(!(decide (x0=([]:bz)))) || (!(decide (x0=([]:bz))))) (ck ((decide (x0=([]:bz))) || (!(decide (x0=([]:bz))))) (cond v6
  (ck (decide (((10:Int))=10)) (ck (decide (((Nr.dec (x2).toNat)).length+(x0).length≤9223372036854775807)) (cZ.j2 ((Nr.dec (x2).toNat)++x0))))
  (cZ.j2 x0)))))=ρ):cZ.l1 x0 x1 x2=ρ:=((bV _ _ _ _ _ _ _).trans (by kernel_rfl)).trans (K _ rfl _ rfl _ rfl _ rfl _ rfl _ rfl)
theorem cZ.jx (x0:bz) {ρ:OT} (K:∀(v1:Int) (h1:v1=(IntKind.i64.wrap (((x0).length:Int) - (1:Int)))) (v2:bz) (h2:v2=(Lib.trimLeftS ((List.take (v1).toNat x0)) (([48]:bz)))) (v3:bz) (h3:v3=(v2++(List.drop (v1).toNat x0))),ck (gY 0 v1 (x0).length) (ck (decide ((((List.take (v1).toNat x0))).length≤1099511627776∧((([48]:bz))).length≤100)&&((([48]:bz))).all (fun b=>decide (b.toNat<128))) (ck (gY v1 (x0).length (x0).length) (ck (decide ((v2).length+((List.drop (v1).toNat x0)).length≤9223372036854775807)) (some [(.s v3)]))))=ρ):cZ.j2 x0=ρ:=((cp _ _ _ _ _ _ _).trans (by kernel_rfl)).trans (K _ rfl _ rfl _ rfl)
theorem cZ.dW (a:dH):cZ.F a=cZ.l1 ([]:bz) (dH.high a) (dH.low a):=by kernel_rfl
def fW.E:cr:=cL fC zs [(268,(iH.c,iH.sg))]
def fW.h:Hint := .o
def fW.F  : OT:=cI PG fW.E 253 fW.sg fW.h []
theorem fW.bY  {ρ:OT} (K:∀(v1:dH) (h1:v1=(dH.of ((((100000000000000000:UInt64))).toNat * (((100000000000000000:UInt64))).toNat))),some [(.ag (dH.cells v1))]=ρ):fW.F  = ρ:=Eq.trans (by kernel_rfl) (K _ rfl)
def dv.E:cr:=cL fC zs [(252,(ij.c,ij.sg)),(253,(fW.c,fW.sg))]
def dv.h:Hint := .s .o (.s .o (.s .o (.s .o (.s .o (.j [(0,.no),(5,.no),(6,.ptr 58 0),(58,.cl [])] .o .o)))))
def dv.F (h:UInt64) (l:UInt64):OT:=cI PG dv.E 233 dv.sg dv.h [(.u64 h),(.u64 l)]
def dv.j1 (x0:UInt64) (x1:Bool) (x2:UInt64) (x3:UInt64):OT:=eD PG dv.E 233 dv.sg dv.h 63 [(.u64 x0),(.b x1),.pt,(.ag [(.u64 x2),(.u64 x3)])]
theorem dv.iR (x0:UInt64) (x1:Bool) (x2:UInt64) (x3:UInt64) {ρ:OT} (K:∀(v1:UInt64) (h1:v1=(dQ x0 (((49:UInt64)).toNat))) (v2:Int) (h2:v2=(IntKind.i64.wrap (((v1 &&& (16383:UInt64))).toNat:Int))) (v3:Int) (h3:v3=(IntKind.i64.wrap (v2 - (6176:Int)))),some [(.i .i64 1),(.b x1),(.ag [(.u64 x2),(.u64 x3)]),(.i .i64 v3)]=ρ):dv.j1 x0 x1 x2 x3=ρ:=((cp _ _ _ _ _ _ _).trans (by kernel_rfl)).trans (K _ rfl _ rfl _ rfl)
theorem dv.bY (h:UInt64) (l:UInt64) {ρ:OT} (K:∀(v1:UInt64) (h1:v1=(dQ h (((63:UInt64)).toNat))) (v2:UInt64) (h2:v2=(dQ h (((58:UInt64)).toNat))) (v3:Bool) (h3:v3=(decide ((v2 &&& (31:UInt64))=(31:UInt64)))) (v4:Bool) (h4:v4=(decide ((v2 &&& (31:UInt64))=(30:UInt64)))) (v5:UInt64) (h5:v5=(dQ (v2 &&& (31:UInt64)) (((3:UInt64)).toNat))) (v6:UInt64) (h6:v6=(dQ h (((47:UInt64)).toNat))) (v7:Int) (h7:v7=(IntKind.i64.wrap (((v6 &&& (16383:UInt64))).toNat:Int))) (v8:Int) (h8:v8=(IntKind.i64.wrap (v7 - (6176:Int)))) (v9:UInt64) (h9:v9=(h &&& (562949953421311:UInt64))) (v10:Int) (iS:v10=(cond (decide (dH.val (dH.mk v9 l)=dH.val (Cn.ux))) 0 (cond (decide (dH.val (dH.mk v9 l)<dH.val (Cn.ux))) (-1) 1))),cond v3
  (some [(.i .i64 3),(.b (decide (v1=(1:UInt64)))),(.ag [(.u64 0),(.u64 0)]),(.i .i64 0)])
  (cond v4
  (some [(.i .i64 2),(.b (decide (v1=(1:UInt64)))),(.ag [(.u64 0),(.u64 0)]),(.i .i64 0)])
  (cond (decide (v5=(3:UInt64)))
  (some [(.i .i64 1),(.b (decide (v1=(1:UInt64)))),(.ag [(.u64 0),(.u64 0)]),(.i .i64 v8)])
  (cond (decide ((0:Int)≤v10))
  (dv.j1 h (decide (v1=(1:UInt64))) (0:UInt64) (0:UInt64))
  (dv.j1 h (decide (v1=(1:UInt64))) v9 l))))=ρ):dv.F h l=ρ:=Eq.trans (by kernel_rfl) (K _ rfl _ rfl _ rfl _ rfl _ rfl _ rfl _ rfl _ rfl _ rfl _ rfl)
def eH.E:cr:=cL fC zs [(252,(ij.c,ij.sg)),(253,(fW.c,fW.sg))]
def eH.h:Hint := .s .o (.s .o (.s .o (.j [(4,.ptr 38 0),(6,.no),(38,.cl [])] .o .o)))
def eH.F (n:Bool) (c:dH) (x:Int):OT:=cI PG eH.E 234 eH.sg eH.h [(.b n),(.ag (dH.cells c)),(.i .i64 x)]
def eH.j1 (x0:UInt64) (x1:UInt64) (x2:UInt64):OT:=eD PG eH.E 234 eH.sg eH.h 15 [.pt,(.u64 x0),(.ag [(.u64 x1),(.u64 x2)])]
theorem eH.lg (x0:UInt64) (x1:UInt64) (x2:UInt64):eH.j1 x0 x1 x2=some [(.u64 x0),(.u64 x2),(.b true)]:=((cp _ _ _ _ _ _ _).trans (by kernel_rfl))
theorem eH.bY (n:Bool) (c:dH) (x:Int) {ρ:OT} (K:∀(v1:Int) (h1:v1=(cond (decide (dH.val c=dH.val (Cn.ux))) 0 (cond (decide (dH.val c<dH.val (Cn.ux))) (-1) 1))) (v2:Bool) (h2:v2=(cond (decide ((0:Int)≤v1)) true (decide (x<(-6176:Int))))) (v3:Bool) (h3:v3=(cond v2 true (decide ((6111:Int)<x)))) (v4:Int) (h4:v4=(IntKind.i64.wrap (x+(6176:Int)))) (v5:UInt64) (h5:v5=(jr (UInt64.ofInt v4) (((49:UInt64)).toNat))) (v6:UInt64) (h6:v6=((v5 ||| (dH.high c)) ||| (9223372036854775808:UInt64))),ck (!(!(decide ((0:Int)≤v1))) || (!(decide ((0:Int)≤v1)))) (ck ((decide ((0:Int)≤v1)) || (!(decide ((0:Int)≤v1)))) (ck (!(!v2) || (!v2)) (ck (v2 || (!v2)) (cond v3
  (some [(.u64 0),(.u64 0),(.b false)])
  (cond n
  (eH.j1 v6 (dH.high c) (dH.low c))
  (eH.j1 (v5 ||| (dH.high c)) (dH.high c) (dH.low c)))))))=ρ):eH.F n c x=ρ:=Eq.trans (by kernel_rfl) (K _ rfl _ rfl _ rfl _ rfl _ rfl _ rfl)
def fN.E:cr:=cL fC zs [(233,(dv.c,dv.sg)),(234,(eH.c,eH.sg))]
def fN.h:Hint := .o
def fN.F (h:UInt64) (l:UInt64):OT:=cI PG fN.E 209 fN.sg fN.h [(.u64 h),(.u64 l)]
theorem fN.bY (h:UInt64) (l:UInt64) {ρ:OT} (K:∀(v1:Bool) (h1:v1=(cond (decide (h=(8935141660703064064:UInt64))) (decide (l=(0:UInt64))) false)) (v2:UInt64) (h2:v2=(h &&& ~~~(9223372036854775808:UInt64))) (v3:Bool) (h3:v3=(cond (decide (v2=(8646911284551352320:UInt64))) (decide (l=(0:UInt64))) false)) (v4:UInt64) (h4:v4=((Cn.join (((Cn.split h l).2.1)) ((Cn.split h l).2.2.1) (((Cn.split h l).2.2.2))).1)) (v5:UInt64) (h5:v5=((Cn.join (((Cn.split h l).2.1)) ((Cn.split h l).2.2.1) (((Cn.split h l).2.2.2))).2.1)) (v6:Bool) (h6:v6=((Cn.join (((Cn.split h l).2.1)) ((Cn.split h l).2.2.1) (((Cn.split h l).2.2.2))).2.2)) (v7:Bool) (h7:v7=(cond v6 (decide (v4=h)) false)) (v8:Bool) (h8:v8=(cond v7 (decide (v5=l)) false)),cond (decide (((Cn.split h l).1)=(3:Int)))
  (ck (!(decide (h=(8935141660703064064:UInt64))) || (decide (h=(8935141660703064064:UInt64)))) (ck (!(decide (h=(8935141660703064064:UInt64))) || (decide (h=(8935141660703064064:UInt64)))) (some [(.b v1)])))
  (cond (decide (((Cn.split h l).1)=(2:Int)))
  (ck (!(decide (v2=(8646911284551352320:UInt64))) || (decide (v2=(8646911284551352320:UInt64)))) (ck (!(decide (v2=(8646911284551352320:UInt64))) || (decide (v2=(8646911284551352320:UInt64)))) (some [(.b v3)])))
  (ck (Nr.i64 (((Cn.split h l).2.2.2))) (ck (!v6 || (v6&&v6)) (ck (!v6 || v6) (ck (!v7 || (v7&&v7)) (ck (!v7 || v7) (some [(.b v8)])))))))=ρ):fN.F h l=ρ:=Eq.trans (by kernel_rfl) (K _ rfl _ rfl _ rfl _ rfl _ rfl _ rfl _ rfl _ rfl)
def dt.E:cr:=cL fC zs [(103,(iC.c,iC.sg)),(121,(fS.c,fS.sg))]
def dt.h:Hint := .s .o (.s .o (.s .o (.s (.b (.s .o (.s .o (.s .o (.s (.j (sc [0,1,5]) .o .o) .o))))) (.s .o (.j (sc [6,7]) .o .o)))))
def dt.F (d:bz) (x:Int):OT:=cI PG dt.E 235 dt.sg dt.h [(.s d),(.i .i64 x)]
def dt.j1 (x0:bz) (x1:Int) (x2:Int):OT:=eD PG dt.E 235 dt.sg dt.h 743 [(.s x0),(.i .i64 x1),(.i .i64 x2)]
def dt.j2 (x0:Int) (x1:bz):OT:=eD PG dt.E 235 dt.sg dt.h 63 [(.i .i64 x0),(.s x1)]
theorem dt.iR (x0:bz) (x1:Int) (x2:Int) {ρ:OT} (K:∀(v1:bz) (h1:v1=(List.take ((IntKind.i64.wrap (x2+x1))).toNat x0)) (v2:bz) (h2:v2=(List.drop ((IntKind.i64.wrap (x2+x1))).toNat x0)),ck (gY 0 (IntKind.i64.wrap (x2+x1)) (x0).length) (ck (decide ((v1).length+(([46]:bz)).length≤9223372036854775807)) (ck (gY (IntKind.i64.wrap (x2+x1)) (x0).length (x0).length) (ck (decide (((v1++([46]:bz))).length+(v2).length≤9223372036854775807)) (some [(.s ((v1++([46]:bz))++v2))]))))=ρ):dt.j1 x0 x1 x2=ρ:=((cp _ _ _ _ _ _ _).trans (by kernel_rfl)).trans (K _ rfl _ rfl)
theorem dt.jx (x0:Int) (x1:bz) {ρ:OT} (K:∀(v1:bz) (h1:v1=(Nr.itoa ((IntKind.i64.wrap (0 - x0))))) (v2:bz) (h2:v2=((x1++([69,45]:bz))++v1)) (v3:bz) (h3:v3=((x1++([69,43]:bz))++(Nr.itoa x0))),cond (decide (x0<(0:Int)))
  (ck (decide ((x1).length+(([69,45]:bz)).length≤9223372036854775807)) (ck (Nr.i64 ((IntKind.i64.wrap (0 - x0)))) (ck (decide (((x1++([69,45]:bz))).length+(v1).length≤9223372036854775807)) (some [(.s v2)]))))
  (ck (decide ((x1).length+(([69,43]:bz)).length≤9223372036854775807)) (ck (Nr.i64 x0) (ck (decide (((x1++([69,43]:bz))).length+((Nr.itoa x0)).length≤9223372036854775807)) (some [(.s v3)]))))=ρ):dt.j2 x0 x1=ρ:=((cp _ _ _ _ _ _ _).trans (by kernel_rfl)).trans (K _ rfl _ rfl _ rfl)
theorem dt.bY (d:bz) (x:Int) {ρ:OT} (K:∀(v1:Int) (h1:v1=(IntKind.i64.wrap (x+((d).length:Int)))) (v2:Int) (h2:v2=(IntKind.i64.wrap (v1 - (1:Int)))) (v3:Bool) (h3:v3=(cond (decide (x<(0:Int))) (decide ((-6:Int)≤v2)) false)) (v4:Int) (h4:v4=(IntKind.i64.wrap ((1:Int) - x))) (v5:Int) (h5:v5=(IntKind.i64.wrap (v4 - ((d).length:Int)))) (v6:Int) (h6:v6=((((Sh.eK v5)++d)).length:Int)) (v7:bz) (h7:v7=(List.take ((1:Int)).toNat d)) (v8:bz) (h8:v8=(List.drop ((1:Int)).toNat d)),cond (decide (x=(0:Int)))
  (some [(.s d)])
  (ck (!(decide (x<(0:Int))) || (decide (x<(0:Int)))) (ck (!(decide (x<(0:Int))) || (decide (x<(0:Int)))) (cond v3
  (cond (decide (((d).length:Int)≤(IntKind.i64.wrap (0 - x))))
  (ck (decide ((([48]:bz))=[48]∧0≤v5∧v5≤100)) (ck (decide (((Sh.eK v5)).length+(d).length≤9223372036854775807)) (dt.j1 ((Sh.eK v5)++d) x v6)))
  (dt.j1 d x ((d).length:Int)))
  (ck (gY 0 (1:Int) (d).length) (cond (decide ((1:Int)<((d).length:Int)))
  (ck (gY (1:Int) (d).length (d).length) (ck (decide ((([46]:bz)).length+(v8).length≤9223372036854775807)) (ck (decide ((v7).length+((([46]:bz)++v8)).length≤9223372036854775807)) (dt.j2 v2 (v7++(([46]:bz)++v8))))))
  (dt.j2 v2 v7))))))=ρ):dt.F d x=ρ:=Eq.trans (by kernel_rfl) (K _ rfl _ rfl _ rfl _ rfl _ rfl _ rfl _ rfl _ rfl)
def eG.E:cr:=cL fC zs [(233,(dv.c,dv.sg)),(235,(dt.c,dt.sg)),(236,(cZ.c,cZ.sg))]
def eG.h:Hint := .s .o (.s .o (.s .o (.j (sc [6,9]) .o .o)))
def eG.F (h:UInt64) (l:UInt64):OT:=cI PG eG.E 210 eG.sg eG.h [(.u64 h),(.u64 l)]
def eG.j1 (x0:Bool) (x1:bz):OT:=eD PG eG.E 210 eG.sg eG.h 15 [(.b x0),(.s x1)]
theorem eG.lg (x0:Bool) (x1:bz):eG.j1 x0 x1=cond x0
  (ck (decide ((([45]:bz)).length+(x1).length≤9223372036854775807)) (some [(.s (([45]:bz)++x1))]))
  (some [(.s x1)]):=((cp _ _ _ _ _ _ _).trans (by kernel_rfl))
theorem eG.bY (h:UInt64) (l:UInt64) {ρ:OT} (K:∀(v1:bz) (h1:v1=(Nr.dec (dH.val ((Cn.split h l).2.2.1)))) (v2:bz) (h2:v2=(Cn.laid v1 (((Cn.split h l).2.2.2)))),cond (decide (((Cn.split h l).1)=(3:Int)))
  (some [(.s ([78,97,78]:bz))])
  (cond (decide (((Cn.split h l).1)=(2:Int)))
  (eG.j1 ((Cn.split h l).2.1) ([73,110,102,105,110,105,116,121]:bz))
  (ck (decide (1≤(v1).length∧(v1).length≤40∧-10000≤(((Cn.split h l).2.2.2))∧(((Cn.split h l).2.2.2))≤100000)) (eG.j1 ((Cn.split h l).2.1) v2)))=ρ):eG.F h l=ρ:=Eq.trans (by kernel_rfl) (K _ rfl _ rfl)
def db.E:cr:=cL fC zs []
def db.h:Hint := .s .o (.s .o (.s (.b (.l [(0,.no),(3,.fB 800000),(800000,.pv)] .o)) (.j [(3,.fB 800000),(800000,.pv)] .o .o)))
def db.F (b:List UInt8):OT:=cI PG db.E 211 db.sg db.h [(.sl .bs b)]
def db.l1 (x0:List UInt8) (x1:List UInt8):OT:=dL PG db.E 211 db.sg db.h 19 [(.sl .bs x0),.pt,(.sl .bs x1)]
def db.j2 (x0:List UInt8):OT:=eD PG db.E 211 db.sg db.h 15 [.pt,(.sl .bs x0)]
theorem db.bX (x0:List UInt8) (x1:List UInt8) {ρ:OT} (K:∀(v1:UInt8) (h1:v1=(List.getD x0 ((0:Int)).toNat (0:UInt8))) (v2:UInt8) (h2:v2=(lO v1 (((2:UInt64)).toNat))) (v3:UInt8) (h3:v3=(List.getD ([65,66,67,68,69,70,71,72,73,74,75,76,77,78,79,80,81,82,83,84,85,86,87,88,89,90,97,98,99,100,101,102,103,104,105,106,107,108,109,110,111,112,113,114,115,116,117,118,119,120,121,122,48,49,50,51,52,53,54,55,56,57,43,47]:bz) (((v2).toNat:Int)).toNat (0:UInt8))) (v4:UInt8) (h4:v4=(mj (v1 &&& (3:UInt8)) (((4:UInt64)).toNat))) (v5:UInt8) (h5:v5=(List.getD x0 ((1:Int)).toNat (0:UInt8))) (v6:UInt8) (h6:v6=(lO v5 (((4:UInt64)).toNat))) (v7:UInt8) (h7:v7=(List.getD ([65,66,67,68,69,70,71,72,73,74,75,76,77,78,79,80,81,82,83,84,85,86,87,88,89,90,97,98,99,100,101,102,103,104,105,106,107,108,109,110,111,112,113,114,115,116,117,118,119,120,121,122,48,49,50,51,52,53,54,55,56,57,43,47]:bz) ((((v4 ||| v6)).toNat:Int)).toNat (0:UInt8))) (v8:UInt8) (h8:v8=(mj (v5 &&& (15:UInt8)) (((2:UInt64)).toNat))) (v9:UInt8) (h9:v9=(List.getD x0 ((2:Int)).toNat (0:UInt8))) (v10:UInt8) (iS:v10=(lO v9 (((6:UInt64)).toNat))) (v11:UInt8) (kA:v11=(List.getD ([65,66,67,68,69,70,71,72,73,74,75,76,77,78,79,80,81,82,83,84,85,86,87,88,89,90,97,98,99,100,101,102,103,104,105,106,107,108,109,110,111,112,113,114,115,116,117,118,119,120,121,122,48,49,50,51,52,53,54,55,56,57,43,47]:bz) ((((v8 ||| v10)).toNat:Int)).toNat (0:UInt8))) (v12:UInt8) (jM:v12=(List.getD ([65,66,67,68,69,70,71,72,73,74,75,76,77,78,79,80,81,82,83,84,85,86,87,88,89,90,97,98,99,100,101,102,103,104,105,106,107,108,109,110,111,112,113,114,115,116,117,118,119,120,121,122,48,49,50,51,52,53,54,55,56,57,43,47]:bz) ((((v9 &&& (63:UInt8))).toNat:Int)).toNat (0:UInt8))) (kq:List UInt8) (nr:kq=([v3,v7,v11,v12]:List UInt8)) (jh:List UInt8) (oa:jh=(List.drop ((3:Int)).toNat x0)) (jb:UInt8) (nV:jb=(List.getD ([65,66,67,68,69,70,71,72,73,74,75,76,77,78,79,80,81,82,83,84,85,86,87,88,89,90,97,98,99,100,101,102,103,104,105,106,107,108,109,110,111,112,113,114,115,116,117,118,119,120,121,122,48,49,50,51,52,53,54,55,56,57,43,47]:bz) (((v4).toNat:Int)).toNat (0:UInt8))) (lA:List UInt8) (sw:lA=([v3,jb,(61:UInt8),(61:UInt8)]:List UInt8)) (tG:UInt8) (zS:tG=(List.getD ([65,66,67,68,69,70,71,72,73,74,75,76,77,78,79,80,81,82,83,84,85,86,87,88,89,90,97,98,99,100,101,102,103,104,105,106,107,108,109,110,111,112,113,114,115,116,117,118,119,120,121,122,48,49,50,51,52,53,54,55,56,57,43,47]:bz) (((v8).toNat:Int)).toNat (0:UInt8))) (tF:List UInt8) (wv:tF=([v3,v7,tG,(61:UInt8)]:List UInt8)),cond (decide ((3:Int)≤((x0).length:Int)))
  (ck (bD (0:Int) (x0).length) (ck (bD ((v2).toNat:Int) (([65,66,67,68,69,70,71,72,73,74,75,76,77,78,79,80,81,82,83,84,85,86,87,88,89,90,97,98,99,100,101,102,103,104,105,106,107,108,109,110,111,112,113,114,115,116,117,118,119,120,121,122,48,49,50,51,52,53,54,55,56,57,43,47]:bz)).length) (ck (bD (0:Int) (x0).length) (ck (bD (1:Int) (x0).length) (ck (bD (((v4 ||| v6)).toNat:Int) (([65,66,67,68,69,70,71,72,73,74,75,76,77,78,79,80,81,82,83,84,85,86,87,88,89,90,97,98,99,100,101,102,103,104,105,106,107,108,109,110,111,112,113,114,115,116,117,118,119,120,121,122,48,49,50,51,52,53,54,55,56,57,43,47]:bz)).length) (ck (bD (1:Int) (x0).length) (ck (bD (2:Int) (x0).length) (ck (bD (((v8 ||| v10)).toNat:Int) (([65,66,67,68,69,70,71,72,73,74,75,76,77,78,79,80,81,82,83,84,85,86,87,88,89,90,97,98,99,100,101,102,103,104,105,106,107,108,109,110,111,112,113,114,115,116,117,118,119,120,121,122,48,49,50,51,52,53,54,55,56,57,43,47]:bz)).length) (ck (bD (2:Int) (x0).length) (ck (bD (((v9 &&& (63:UInt8))).toNat:Int) (([65,66,67,68,69,70,71,72,73,74,75,76,77,78,79,80,81,82,83,84,85,86,87,88,89,90,97,98,99,100,101,102,103,104,105,106,107,108,109,110,111,112,113,114,115,116,117,118,119,120,121,122,48,49,50,51,52,53,54,55,56,57,43,47]:bz)).length) (ck (fi ((x1).length+(kq).length) 1) (ck (gY (3:Int) (x0).length (x0).length) (db.l1 jh (x1++kq))))))))))))))
  (cond (decide (((x0).length:Int)=(1:Int)))
  (ck (bD (0:Int) (x0).length) (ck (bD ((v2).toNat:Int) (([65,66,67,68,69,70,71,72,73,74,75,76,77,78,79,80,81,82,83,84,85,86,87,88,89,90,97,98,99,100,101,102,103,104,105,106,107,108,109,110,111,112,113,114,115,116,117,118,119,120,121,122,48,49,50,51,52,53,54,55,56,57,43,47]:bz)).length) (ck (bD (0:Int) (x0).length) (ck (bD ((v4).toNat:Int) (([65,66,67,68,69,70,71,72,73,74,75,76,77,78,79,80,81,82,83,84,85,86,87,88,89,90,97,98,99,100,101,102,103,104,105,106,107,108,109,110,111,112,113,114,115,116,117,118,119,120,121,122,48,49,50,51,52,53,54,55,56,57,43,47]:bz)).length) (ck (fi ((x1).length+(lA).length) 1) (db.j2 (x1++lA)))))))
  (cond (decide (((x0).length:Int)=(2:Int)))
  (ck (bD (0:Int) (x0).length) (ck (bD ((v2).toNat:Int) (([65,66,67,68,69,70,71,72,73,74,75,76,77,78,79,80,81,82,83,84,85,86,87,88,89,90,97,98,99,100,101,102,103,104,105,106,107,108,109,110,111,112,113,114,115,116,117,118,119,120,121,122,48,49,50,51,52,53,54,55,56,57,43,47]:bz)).length) (ck (bD (0:Int) (x0).length) (ck (bD (1:Int) (x0).length) (ck (bD (((v4 ||| v6)).toNat:Int) (([65,66,67,68,69,70,71,72,73,74,75,76,77,78,79,80,81,82,83,84,85,86,87,88,89,90,97,98,99,100,101,102,103,104,105,106,107,108,109,110,111,112,113,114,115,116,117,118,119,120,121,122,48,49,50,51,52,53,54,55,56,57,43,47]:bz)).length) (ck (bD (1:Int) (x0).length) (ck (bD ((v8).toNat:Int) (([65,66,67,68,69,70,71,72,73,74,75,76,77,78,79,80,81,82,83,84,85,86,87,88,89,90,97,98,99,100,101,102,103,104,105,106,107,108,109,110,111,112,113,114,115,116,117,118,119,120,121,122,48,49,50,51,52,53,54,55,56,57,43,47]:bz)).length) (ck (fi ((x1).length+(tF).length) 1) (db.j2 (x1++tF))))))))))
  (db.j2 x1)))=ρ):db.l1 x0 x1=ρ:=((bV _ _ _ _ _ _ _).trans (by kernel_rfl)).trans (K _ rfl _ rfl _ rfl _ rfl _ rfl _ rfl _ rfl _ rfl _ rfl _ rfl _ rfl _ rfl _ rfl _ rfl _ rfl _ rfl _ rfl _ rfl)
theorem db.lf (x0:List UInt8):db.j2 x0=some [(.s x0)]:=((cp _ _ _ _ _ _ _).trans (by kernel_rfl))
theorem db.dW (b:List UInt8):db.F b=db.l1 b ([]:List UInt8):=by kernel_rfl
def gB.E:cr:=cL fC zs []
def gB.h:Hint := .o
def gB.F (s:bz):OT:=cI PG gB.E 174 gB.sg gB.h [(.s s)]
theorem gB.dW (s:bz):gB.F s=some [(.ag [(.i .i64 5),(.s s),(.sl .ml ([]:List Mem))])]:=by kernel_rfl
def ik.E:cr:=cL fC zs [(56,(eM.c,eM.sg))]
def ik.h:Hint := .o
def ik.F (v:Int):OT:=cI PG ik.E 175 ik.sg ik.h [(.i .i64 v)]
theorem ik.dW (v:Int):ik.F v=ck (Nr.i64 v) (some [(.ag [(.i .i64 4),(.s (Nr.itoa v)),(.sl .ml ([]:List Mem))])]):=by kernel_rfl
def gC.E:cr:=cL fC zs []
def gC.h:Hint := .o
def gC.F (s:bz) (j:bP):OT:=cI PG gC.E 172 gC.sg gC.h [(.s s),(.ag (bP.cells j))]
theorem gC.bY (s:bz) (j:bP) {ρ:OT} (K:∀(v1:List Mem) (h1:v1=([(Mem.mk s (bP.kind j) (bP.text j) (bP.kids j))]:List Mem)),some [(.ag [(.i .i64 7),(.s []),(.sl .ml v1)])]=ρ):gC.F s j=ρ:=Eq.trans (by kernel_rfl) (K _ rfl)
def gA.E:cr:=cL fC zs []
def gA.h:Hint := .o
def gA.F (s:bz) (j:bP) (t:bz) (k:bP):OT:=cI PG gA.E 173 gA.sg gA.h [(.s s),(.ag (bP.cells j)),(.s t),(.ag (bP.cells k))]
theorem gA.bY (s:bz) (j:bP) (t:bz) (k:bP) {ρ:OT} (K:∀(v1:List Mem) (h1:v1=([(Mem.mk s (bP.kind j) (bP.text j) (bP.kids j)),(Mem.mk t (bP.kind k) (bP.text k) (bP.kids k))]:List Mem)),some [(.ag [(.i .i64 7),(.s []),(.sl .ml v1)])]=ρ):gA.F s j t k=ρ:=Eq.trans (by kernel_rfl) (K _ rfl)
def dR.E:cr:=cL fC zs [(147,(cD.c,cD.sg))]
def dR.h:Hint := .s .o (.s .o (.s (.s .o (.b (.l [(0,.no),(3,.fB 800000),(4,.no),(800000,.pv)] .o))) .o))
def dR.F (v:UInt64):OT:=cI PG dR.E 208 dR.sg dR.h [(.u64 v)]
def dR.l1 (x0:UInt64) (x1:Int) (x2:List UInt8):OT:=dL PG dR.E 208 dR.sg dR.h 43 [(.u64 x0),.pt,(.i .i64 x1),(.sl .bs x2)]
theorem dR.bX (x0:UInt64) (x1:Int) (x2:List UInt8) {ρ:OT} (K:∀(v1:UInt8) (h1:v1=(UInt8.ofInt (((dQ x0 ((x1).toNat))).toNat:Int))) (v2:Int) (h2:v2=(IntKind.i64.wrap (x1 - (8:Int)))),cond (decide ((0:Int)≤x1))
  (ck (decide (0≤x1)) (ck (fi ((x2).length+(([v1]:List UInt8)).length) 1) (dR.l1 x0 v2 (x2++([v1]:List UInt8)))))
  (ck (decide (x2.length≤1099511627776)) (some [(.s (mN.text x2))]))=ρ):dR.l1 x0 x1 x2=ρ:=((bV _ _ _ _ _ _ _).trans (by kernel_rfl)).trans (K _ rfl _ rfl)
theorem dR.dW (v:UInt64):dR.F v=dR.l1 v (56:Int) ([]:List UInt8):=by kernel_rfl
end
end Go.Eng
