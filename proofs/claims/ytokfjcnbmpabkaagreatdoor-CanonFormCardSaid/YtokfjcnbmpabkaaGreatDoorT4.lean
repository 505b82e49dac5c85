/- Texts of my own, one behind the other: CnG5, CnG6, CnG, CnLA, CnL1, CnL2, CnNtP, CnP1, CnP2, CnV, CnJ, CnShelf, CnFmt, CnDec, CnHand, CnLib, CnQ1, CnQ2, CnQ3, CnN1, CnP3, CnP4, CnP5, CnP6, CnP7, CnP8, CnP9, CnP10. -/
import Derived.Test.YtokfjcnbmpabkaaGreatDoorT3
import Derived.Ground.Names7Prog
import Derived.Shelf.Strings.SlTrimAscii
import Derived.Shelf.Strings.Search1
import Derived.Shelf.Strings.Search2
import Derived.Shelf.Spec.TrailingZeros
import Derived.Shelf.Strings.OnBuilder
import Derived.Shelf.Strings.Repeat
import Derived.Shelf.LaysM
import Derived.Shelf.Strconv.Itoa3
import Derived.Shelf.Strconv.Itoa4
import Derived.Test.YtokfjcnbmpabkaaGreatDoorProg
import Derived.Shelf.Strconv.Itoa1
import Derived.Shelf.Strconv.Itoa2
import Derived.Lib.Walk
import Derived.Lib.ItoaMem
import Derived.WalkKit
import Derived.WalkSpells
import Derived.BigCall
import Derived.BigGuard
import Derived.Lib.Mul64
set_option linter.unusedVariables false
set_option linter.unusedSimpArgs false
set_option maxRecDepth 100000
namespace Go.Eng
open Go.Proofs
noncomputable section
def eh.E:cC:=cT fQ zs [(51,(fV.c,fV.sg)),(53,(fT.c,fT.sg)),(54,(fU.c,fU.sg)),(55,(gJ.c,gJ.sg)),(85,(eY.c,eY.sg)),(86,(dC.c,dC.sg)),(87,(dE.c,dE.sg)),(88,(fw.c,fw.sg)),(89,(dR.c,dR.sg))]
def eh.h:Hint := .o
def eh.F (v:Val):OT:=cR PG eh.E 56 eh.sg eh.h [(.ag (Val.cells v))]
theorem eh.bZ (v:Val) {ρ:OT} (K:∀(v1:Bool) (h1:v1=(cond (decide ((Sh.text ((Val.bits v)))=([78,97,78]:bz))) (!decide ((Val.bits v)=(9221120237041090560:UInt64))) false)) (v2:bM) (h2:v2=(Cn.str ((Cn.high ((Val.bits v)))))) (v3:bM) (h3:v3=(Cn.one (([36,100,111,117,98,108,101,66,105,116,115]:bz)) v2)) (v4:bM) (h4:v4=(Cn.str ((Sh.text ((Val.bits v)))))) (v5:bM) (h5:v5=(Cn.one (([36,110,117,109,98,101,114,68,111,117,98,108,101]:bz)) v4)) (v6:Int) (h6:v6=(IntKind.i64.wrap (((Val.bits v)).toNat:Int))) (v7:bM) (h7:v7=(Cn.one (([36,110,117,109,98,101,114,76,111,110,103]:bz)) (Cn.str ((Nr.itoa v6))))) (v8:bM) (h8:v8=(Cn.one (([36,100,97,116,101]:bz)) v7)) (v9:Int) (h9:v9=(IntKind.i32.wrap (((Val.bits v)).toNat:Int))) (v10:bz) (iA:v10=(Nr.itoa ((IntKind.i64.wrap v9)))) (v11:bM) (ki:v11=(Cn.one (([36,110,117,109,98,101,114,73,110,116]:bz)) (Cn.str v10))) (v12:UInt64) (jE:v12=(dD (Val.bits v) (((32:UInt64)).toNat))) (kW:Int) (nY:kW=(IntKind.i64.wrap ((v12).toNat:Int))) (jP:UInt64) (pA:jP=((Val.bits v) &&& (4294967295:UInt64))) (iD:Int) (o8:iD=(IntKind.i64.wrap ((jP).toNat:Int))) (mS:bM) (tO:mS=(Cn.two (([116]:bz)) (Cn.num kW) (([105]:bz)) (Cn.num iD))) (nT:bM) (xI:nT=(Cn.one (([36,116,105,109,101,115,116,97,109,112]:bz)) mS)) (lO:Bool) (wi:lO=(Cn.pX ((Val.high v)) ((Val.low v)))) (qJ:bz) (BU:qJ=(Cn.sW ((Val.high v)) ((Val.low v)))) (v20:bM) (zF:v20=(Cn.one (([36,110,117,109,98,101,114,68,101,99,105,109,97,108]:bz)) (Cn.str qJ))) (v21:bz) (KS:v21=((Cn.high ((Val.high v)))++(Cn.high ((Val.low v))))) (v22:bM) (KR:v22=(Cn.one (([36,100,101,99,105,109,97,108,66,105,116,115]:bz)) (Cn.str v21))),cond (decide ((Val.kind v)=(1:Int)))
  (ck (!(decide ((Sh.text ((Val.bits v)))=([78,97,78]:bz))) || (decide ((Sh.text ((Val.bits v)))=([78,97,78]:bz)))) (ck (!(decide ((Sh.text ((Val.bits v)))=([78,97,78]:bz))) || (decide ((Sh.text ((Val.bits v)))=([78,97,78]:bz)))) (ck (!(decide ((Sh.text ((Val.bits v)))=([78,97,78]:bz))) || (decide ((Sh.text ((Val.bits v)))=([78,97,78]:bz)))) (cond v1
  (some [(.ag (bM.cells v3)),(.b true)])
  (some [(.ag (bM.cells v5)),(.b true)])))))
  (cond (decide ((Val.kind v)=(9:Int)))
  (ck (Nr.i64 v6) (some [(.ag (bM.cells v8)),(.b true)]))
  (cond (decide ((Val.kind v)=(16:Int)))
  (ck (Nr.i64 ((IntKind.i64.wrap v9))) (some [(.ag (bM.cells v11)),(.b true)]))
  (cond (decide ((Val.kind v)=(18:Int)))
  (ck (Nr.i64 v6) (some [(.ag (bM.cells v7)),(.b true)]))
  (cond (decide ((Val.kind v)=(17:Int)))
  (ck (Nr.i64 kW) (ck (Nr.i64 iD) (some [(.ag (bM.cells nT)),(.b true)])))
  (cond (decide ((Val.kind v)=(19:Int)))
  (cond lO
  (some [(.ag (bM.cells v20)),(.b true)])
  (ck (decide (((Cn.high ((Val.high v)))).length+((Cn.high ((Val.low v)))).length≤9223372036854775807)) (some [(.ag (bM.cells v22)),(.b true)])))
  (some [(.ag [(.i .i64 0),(.s []),(.sl .ml ([]:List Mem))]),(.b false)]))))))=ρ):eh.F v=ρ:=Eq.trans (by kernel_rfl) (K _ rfl _ rfl _ rfl _ rfl _ rfl _ rfl _ rfl _ rfl _ rfl _ rfl _ rfl _ rfl _ rfl _ rfl _ rfl _ rfl _ rfl _ rfl _ rfl _ rfl _ rfl _ rfl)
def gm.E:cC:=cT fQ zs [(51,(fV.c,fV.sg)),(53,(fT.c,fT.sg)),(54,(fU.c,fU.sg)),(90,(cQ.c,cQ.sg)),(91,(cd.c,cd.sg))]
def gm.h:Hint := .o
def gm.F (v:Val):OT:=cR PG gm.E 57 gm.sg gm.h [(.ag (Val.cells v))]
theorem gm.bZ (v:Val) {ρ:OT} (K:∀(v1:bM) (h1:v1=(Cn.str ((Cn.base ((Val.bytes v)))))) (v2:List UInt8) (h2:v2=([(UInt8.ofInt (Val.sub v))]:List UInt8)) (v3:bM) (h3:v3=(Cn.two (([98,97,115,101,54,52]:bz)) v1 (([115,117,98,84,121,112,101]:bz)) (Cn.str ((lE.text v2))))) (v4:bM) (h4:v4=(Cn.one (([36,98,105,110,97,114,121]:bz)) v3)) (v5:bM) (h5:v5=(Cn.str ((lE.text ((Val.bytes v)))))) (v6:bM) (h6:v6=(Cn.one (([36,111,105,100]:bz)) v5)) (v7:bM) (h7:v7=(Cn.two (([112,97,116,116,101,114,110]:bz)) (Cn.str ((Val.text v))) (([111,112,116,105,111,110,115]:bz)) (Cn.str ((Val.more v))))) (v8:bM) (h8:v8=(Cn.one (([36,114,101,103,117,108,97,114,69,120,112,114,101,115,115,105,111,110]:bz)) v7)) (v9:bM) (h9:v9=(Cn.two (([36,114,101,102]:bz)) (Cn.str ((Val.text v))) (([36,105,100]:bz)) v6)) (v10:bM) (iA:v10=(Cn.one (([36,100,98,80,111,105,110,116,101,114]:bz)) v9)) (v11:bM) (ki:v11=(Cn.one (([36,99,111,100,101]:bz)) (Cn.str ((Val.text v))))) (v12:bM) (jE:v12=(Cn.one (([36,115,121,109,98,111,108]:bz)) (Cn.str ((Val.text v))))),cond (decide ((Val.kind v)=(5:Int)))
  (ck (decide ((((Val.bytes v))).length≤1099511627776)) (ck (decide (v2.length≤1099511627776)) (some [(.ag (bM.cells v4))])))
  (cond (decide ((Val.kind v)=(7:Int)))
  (ck (decide (((Val.bytes v)).length≤1099511627776)) (some [(.ag (bM.cells v6))]))
  (cond (decide ((Val.kind v)=(11:Int)))
  (some [(.ag (bM.cells v8))])
  (cond (decide ((Val.kind v)=(12:Int)))
  (ck (decide (((Val.bytes v)).length≤1099511627776)) (some [(.ag (bM.cells v10))]))
  (cond (decide ((Val.kind v)=(13:Int)))
  (some [(.ag (bM.cells v11))])
  (cond (decide ((Val.kind v)=(14:Int)))
  (some [(.ag (bM.cells v12))])
  (some [(.ag (bM.cells (Cn.str ((Val.text v)))))]))))))=ρ):gm.F v=ρ:=Eq.trans (by kernel_rfl) (K _ rfl _ rfl _ rfl _ rfl _ rfl _ rfl _ rfl _ rfl _ rfl _ rfl _ rfl _ rfl)
def cD.E (n:Nat):cC:=cT fQ zs [(36,(di.cn n,di.sg))] [51]
def cD.h:Hint := .s .o (.s .o (.s (.s .o (.b (.l [(2,.ptr 28 0),(3,.ptr 29 0),(7,.no),(8,.no),(9,.no),(28,.cl [(2,800000)]),(29,.cl [(2,800001)]),(800000,.pv),(800001,.pv)] .o))) .o))
def cD.F (n:Nat) (l:List bJ):OT:=cR PG (cD.E n) 21 cD.sg cD.h [(.sl .fl l)]
def cD.l1 (n:Nat) (x0:List bJ) (x1:Int) (x2:Int) (x3:Int) (x4:bz) (x5:Int) (x6:bz) (x7:List Mem) (x8:List Mem):OT:=dQ PG (cD.E n) 21 cD.sg cD.h 43 [.pt,.pt,(.sl .fl x0),(.i .i64 x1),(.i .i64 x2),(.ag [(.i .i64 x3),(.s x4),.pt]),(.ag [(.i .i64 x5),(.s x6),.pt]),(.sl .ml x7),(.sl .ml x8)]
theorem cD.bV (n:Nat) (x0:List bJ) (x1:Int) (x2:Int) (x3:Int) (x4:bz) (x5:Int) (x6:bz) (x7:List Mem) (x8:List Mem) {ρ:OT} (K:∀(v1:bJ) (h1:v1=(List.getD x0 (x2).toNat (fe.gk .fl))) (v2:Int) (h2:v2=(bM.kind (Cn.wv (bJ.val v1)))) (v3:bz) (h3:v3=(bM.text (Cn.wv (bJ.val v1)))) (v4:List Mem) (h4:v4=(bM.kids (Cn.wv (bJ.val v1)))) (v5:List Mem) (h5:v5=([(Mem.mk (bJ.name v1) v2 v3 v4)]:List Mem)) (v6:Int) (h6:v6=(IntKind.i64.wrap (x2+(1:Int)))),cond (decide (x2<x1))
  (ck (bB x2 (x0).length) (ck ((decide (bJ.bO (bJ.of [] (bJ.val v1))≤1099511627776))&&decide ((2 * bJ.bO (bJ.of [] (bJ.val v1)))<n)) (ck (fC ((x8).length+(v5).length) 64) (cD.l1 n x0 x1 v6 x3 x4 x5 x6 x7 (x8++v5)))))
  (some [(.ag [(.i .i64 x5),(.s x6),(.sl .ml x8)])])=ρ):cD.l1 n x0 x1 x2 x3 x4 x5 x6 x7 x8=ρ:=((bU _ _ _ _ _ _ _).trans (by kernel_rfl)).trans (K _ rfl _ rfl _ rfl _ rfl _ rfl _ rfl)
theorem cD.eJ (n:Nat) (l:List bJ):cD.F n l=cD.l1 n l ((l).length:Int) (0:Int) (0:Int) ([]:bz) (7:Int) ([]:bz) ([]:List Mem) ([]:List Mem):=by kernel_rfl
def di.E (n:Nat):cC:=cT fQ zs [(21,(cD.cn n,cD.sg)),(50,(cY.c,cY.sg)),(51,(fV.c,fV.sg)),(52,(bN.c,bN.sg)),(53,(fT.c,fT.sg)),(54,(fU.c,fU.sg)),(55,(gJ.c,gJ.sg)),(56,(eh.c,eh.sg)),(57,(gm.c,gm.sg))]
def di.h:Hint := .s .o (.s (.s .o (.b (.s .o (.s .o (.s .o (.s (.s .o (.s .o (.s .o (.s (.s .o (.b (.l [(2,.ptr 97 0),(3,.ptr 98 0),(44,.no),(45,.no),(97,.cl [(2,800000)]),(98,.cl [(2,800001)]),(800000,.pv),(800001,.pv)] .o))) .o)))) .o)))))) .o)
def di.F (n:Nat) (v:Val):OT:=cR PG (di.E n) 36 di.sg di.h [(.ag (Val.cells v))]
def di.l1 (n:Nat) (x0:Int) (x1:Int) (x2:Int) (x3:bz) (x4:Int) (x5:bz) (x6:List Mem) (x7:List Mem):OT:=dQ PG (di.E n) 36 di.sg di.h 22389 [.pt,.pt,(.i .i64 x0),(.i .i64 x1),(.ag [(.i .i64 x2),(.s x3),.pt]),(.ag [(.i .i64 x4),(.s x5),.pt]),(.sl .ml x6),(.sl .ml x7)]
theorem di.bV (n:Nat) (x0:Int) (x1:Int) (x2:Int) (x3:bz) (x4:Int) (x5:bz) (x6:List Mem) (x7:List Mem) {ρ:OT} (K:∀(v1:List Mem) (h1:v1=(List.set x7 ((x1).toNat) (Mem.mk ([]:bz) (Mem.kind (List.getD x7 ((x1).toNat) (fe.gk .ml))) (Mem.text (List.getD x7 ((x1).toNat) (fe.gk .ml))) (Mem.kids (List.getD x7 ((x1).toNat) (fe.gk .ml)))))) (v2:Int) (h2:v2=(IntKind.i64.wrap (x1+(1:Int)))),cond (decide (x1<x0))
  (ck (bB x1 (x7).length) (ck (decide ((x1).toNat<(x7).length)) (di.l1 n x0 v2 x2 x3 x4 x5 x6 v1)))
  (some [(.ag [(.i .i64 x4),(.s x5),(.sl .ml x7)])])=ρ):di.l1 n x0 x1 x2 x3 x4 x5 x6 x7=ρ:=((bU _ _ _ _ _ _ _).trans (by kernel_rfl)).trans (K _ rfl _ rfl)
theorem di.bZ (n:Nat) (v:Val) {ρ:OT} (K:∀(v1:Int) (h1:v1=(((Val.kids v)).length:Int)) (v2:bJ) (h2:v2=(List.getD (Val.kids v) ((0:Int)).toNat (fe.gk .fl))) (v3:Bool) (h3:v3=(List.isPrefixOf (([36]:bz)) ((bJ.name v2)))) (v4:Bool) (h4:v4=(cond (decide ((0:Int)<v1)) v3 false)) (v5:List Mem) (h5:v5=(bM.kids (Cn.oA ((Val.kids v))))) (v6:Int) (h6:v6=(bM.kind (Cn.oA ((Val.kids v))))) (v7:bz) (h7:v7=(bM.text (Cn.oA ((Val.kids v))))) (v8:bM) (h8:v8=(Cn.one (([36,100,111,99,117,109,101,110,116]:bz)) (bM.mk v6 v7 v5))) (v9:Bool) (h9:v9=(Tree.regular ((Val.kids v)))) (v10:bM) (iA:v10=(Cn.one (([36,97,114,114,97,121]:bz)) (bM.mk v6 v7 v5))) (v11:bM) (ki:v11=(Cn.two (([36,99,111,100,101]:bz)) (Cn.str ((Val.text v))) (([36,115,99,111,112,101]:bz)) (bM.mk v6 v7 v5))) (v12:bM) (jE:v12=(Cn.one (([36,117,110,100,101,102,105,110,101,100]:bz)) (bM.mk (3:Int) ([]:bz) ([]:List Mem)))) (kW:Int) (nY:kW=(IntKind.i64.wrap (((Val.bits v)).toNat:Int))) (jP:Int) (pA:jP=(IntKind.i64.wrap ((2:Int)+kW))) (iD:bM) (o8:iD=(Cn.one (([36,109,105,110,75,101,121]:bz)) (Cn.num ((1:Int))))) (mS:bM) (tO:mS=(Cn.one (([36,109,97,120,75,101,121]:bz)) (Cn.num ((1:Int))))),cond (decide ((Val.kind v)=(3:Int)))
  (ck (!(decide ((0:Int)<v1)) || (decide ((0:Int)<v1))) (ck (!(decide ((0:Int)<v1)) || ((decide ((0:Int)<v1))&&(bB (0:Int) ((Val.kids v)).length))) (ck (!(decide ((0:Int)<v1)) || (decide ((0:Int)<v1))) (ck (!(decide ((0:Int)<v1)) || (decide ((0:Int)<v1))) (ck (!(decide ((0:Int)<v1)) || (decide ((0:Int)<v1))) (ck (!(decide ((0:Int)<v1)) || (decide ((0:Int)<v1))) (cond v4
  (ck ((decide (bJ.cM ((Val.kids v))≤1099511627776))&&decide ((2 * bJ.cM ((Val.kids v))+1)<n)) (some [(.ag (bM.cells v8))]))
  (ck ((decide (bJ.cM ((Val.kids v))≤1099511627776))&&decide ((2 * bJ.cM ((Val.kids v))+1)<n)) (some [(.ag [(.i .i64 v6),(.s v7),(.sl .ml v5)])])))))))))
  (cond (decide ((Val.kind v)=(4:Int)))
  (ck ((decide (bJ.cM ((Val.kids v))≤1099511627776))&&decide ((2 * bJ.cM ((Val.kids v))+1)<n)) (ck (decide (((Val.kids v)).length≤1099511627776)) (cond (!v9)
  (some [(.ag (bM.cells v10))])
  (di.l1 n ((v5).length:Int) (0:Int) (0:Int) ([]:bz) (6:Int) v7 ([]:List Mem) v5))))
  (cond (decide ((Val.kind v)=(15:Int)))
  (ck ((decide (bJ.cM ((Val.kids v))≤1099511627776))&&decide ((2 * bJ.cM ((Val.kids v))+1)<n)) (some [(.ag (bM.cells v11))]))
  (cond (decide ((Val.kind v)=(6:Int)))
  (some [(.ag (bM.cells v12))])
  (cond (decide ((Val.kind v)=(8:Int)))
  (some [(.ag [(.i .i64 jP),(.s []),(.sl .ml ([]:List Mem))])])
  (cond (decide ((Val.kind v)=(10:Int)))
  (some [(.ag [(.i .i64 1),(.s []),(.sl .ml ([]:List Mem))])])
  (cond (decide ((Val.kind v)=(255:Int)))
  (ck (Nr.i64 ((1:Int))) (some [(.ag (bM.cells iD))]))
  (cond (decide ((Val.kind v)=(127:Int)))
  (ck (Nr.i64 ((1:Int))) (some [(.ag (bM.cells mS))]))
  (cond ((Cn.nW v).2)
  (some [(.ag (bM.cells ((Cn.nW v).1)))])
  (ck (decide (bJ.bO (bJ.of [] v)≤1099511627776)) (some [(.ag (bM.cells (Cn.qM v)))]))))))))))=ρ):di.F n v=ρ:=Eq.trans (by kernel_rfl) (K _ rfl _ rfl _ rfl _ rfl _ rfl _ rfl _ rfl _ rfl _ rfl _ rfl _ rfl _ rfl _ rfl _ rfl _ rfl _ rfl)
def fF.E:cC:=cT fQ zs [(20,(dH.c,dH.sg)),(21,(cD.c,cD.sg))]
def fF.h:Hint := .o
def fF.F (v:Val):OT:=cR PG fF.E 9 fF.sg fF.h [(.ag (Val.cells v))]
theorem fF.bZ (v:Val) {ρ:OT} (K:∀(v1:List Int) (h1:v1=((Tree.iT (bJ.of [] v) []).1)) (v2:Int) (h2:v2=((Tree.iT (bJ.of [] v) []).2)) (v3:List Mem) (h3:v3=(bM.kids (Cn.oA ((Val.kids v))))) (v4:Int) (h4:v4=(bM.kind (Cn.oA ((Val.kids v))))) (v5:bz) (h5:v5=(bM.text (Cn.oA ((Val.kids v))))),ck (decide (bJ.bO (bJ.of [] v)≤1099511627776)) (cond (!decide (v2=(0:Int)))
  (some [(.ag [(.i .i64 0),(.s []),(.sl .ml ([]:List Mem))]),(.ag [(.i .i64 v2),(.i .i64 0),(.sl .is v1)])])
  (cond (!decide ((Val.kind v)=(3:Int)))
  (some [(.ag [(.i .i64 0),(.s []),(.sl .ml ([]:List Mem))]),(.ag [(.i .i64 5),(.i .i64 0),(.sl .is ([]:List Int))])])
  (ck (decide (bJ.cM ((Val.kids v))≤1099511627776)) (some [(.ag [(.i .i64 v4),(.s v5),(.sl .ml v3)]),(.ag [(.i .i64 0),(.i .i64 0),(.sl .is ([]:List Int))])]))))=ρ):fF.F v=ρ:=Eq.trans (by kernel_rfl) (K _ rfl _ rfl _ rfl _ rfl _ rfl)
def iH.E:cC:=cT fQ zs [(81,(dJ.c,dJ.sg))]
def iH.h:Hint := .o
def iH.F (s:bz):OT:=cR PG iH.E 74 iH.sg iH.h [(.s s)]
theorem iH.eJ (s:bz):iH.F s=ck (qT (s).length) (ck (decide (s.length≤1099511627776)) (some [(.b (fy.whole s))])):=by kernel_rfl
def bP.E (n:Nat):cC:=cT fQ zs [(39,(bP.cn n,bP.sg)),(73,(bD.c,bD.sg)),(74,(iH.c,iH.sg))]
def bP.h:Hint := .s .o (.s .o (.s (.s .o (.b (.l [(1,.ptr 105 0),(47,.no),(48,.no),(49,.no),(105,.cl [])] .o))) (.s .o (.s .o (.s (.s .o (.b (.l (sc [87,88,89]) .o))) .o)))))
def bP.F (n:Nat) (j:bM):OT:=cR PG (bP.E n) 39 bP.sg bP.h [(.ag (bM.cells j))]
def bP.l1 (n:Nat) (x0:List Mem) (x1:Int) (x2:Int) (x3:bM):OT:=dQ PG (bP.E n) 39 bP.sg bP.h 43 [.pt,(.sl .ml x0),(.i .i64 x1),(.i .i64 x2),(.ag (bM.cells x3))]
def bP.l2 (n:Nat) (x0:List Mem) (x1:Int) (x2:Int):OT:=dQ PG (bP.E n) 39 bP.sg bP.h 351 [(.sl .ml x0),(.i .i64 x1),(.i .i64 x2)]
theorem bP.bV (n:Nat) (x0:List Mem) (x1:Int) (x2:Int) (x3:bM) {ρ:OT} (K:∀(v1:Mem) (h1:v1=(List.getD x0 (x2).toNat (fe.gk .ml))) (v2:Bool) (h2:v2=(cond (decide ((bM.kind x3)=(6:Int))) (!decide ((Mem.name v1)=([]:bz))) false)) (v3:Int) (h3:v3=(IntKind.i64.wrap (x2+(1:Int)))) (v4:Bool) (h4:v4=((decide ((bM.kind x3)=(4:Int)))&&(!(decide ((Nr.iX ((bM.text x3)))=(0:Int)))))) (v5:Int) (h5:v5=(((bM.text x3)).length:Int)) (v6:Bool) (h6:v6=(cond (decide ((Nr.iX ((bM.text x3)))=(0:Int))) true (decide ((300:Int)<v5)))) (v7:Bool) (h7:v7=(cond (decide ((bM.kind x3)=(4:Int))) v6 false)) (v8:Bool) (h8:v8=(!(fy.whole ((bM.text x3))))) (v9:Bool) (h9:v9=(cond (decide ((bM.kind x3)=(5:Int))) v8 false)) (v10:Int) (iA:v10=(((bM.kids x3)).length:Int)),cond (decide (x2<x1))
  (ck (bB x2 (x0).length) (ck (!(decide ((bM.kind x3)=(6:Int))) || (decide ((bM.kind x3)=(6:Int)))) (ck (!(decide ((bM.kind x3)=(6:Int))) || (decide ((bM.kind x3)=(6:Int)))) (ck (!(decide ((bM.kind x3)=(6:Int))) || (decide ((bM.kind x3)=(6:Int)))) (cond v2
  (some [(.i .i64 1)])
  (bP.l1 n x0 x1 v3 x3))))))
  (ck (!(decide ((bM.kind x3)=(4:Int))) || (decide ((bM.kind x3)=(4:Int)))) (ck (!(decide ((bM.kind x3)=(4:Int))) || ((decide ((bM.kind x3)=(4:Int)))&&(decide ((((bM.text x3))).length≤1099511627776)))) (ck (!(decide ((bM.kind x3)=(4:Int))) || (decide ((bM.kind x3)=(4:Int)))) (ck (!(decide ((bM.kind x3)=(4:Int))) || (decide ((bM.kind x3)=(4:Int)))) (ck (!v4 || v4) (ck (!v4 || v4) (ck (!v4 || v4) (ck (!(decide ((bM.kind x3)=(4:Int))) || ((decide ((bM.kind x3)=(4:Int)))&&((decide ((Nr.iX ((bM.text x3)))=(0:Int))) || v4))) (ck (!(decide ((bM.kind x3)=(4:Int))) || (decide ((bM.kind x3)=(4:Int)))) (cond v7
  (some [(.i .i64 10)])
  (ck (!(decide ((bM.kind x3)=(5:Int))) || (decide ((bM.kind x3)=(5:Int)))) (ck (!(decide ((bM.kind x3)=(5:Int))) || ((decide ((bM.kind x3)=(5:Int)))&&(decide ((((bM.text x3))).length≤1099511627776)))) (ck (!(decide ((bM.kind x3)=(5:Int))) || (decide ((bM.kind x3)=(5:Int)))) (ck (!(decide ((bM.kind x3)=(5:Int))) || (decide ((bM.kind x3)=(5:Int)))) (cond v9
  (some [(.i .i64 4)])
  (bP.l2 n (bM.kids x3) v10 (0:Int)))))))))))))))))=ρ):bP.l1 n x0 x1 x2 x3=ρ:=((bU _ _ _ _ _ _ _).trans (by kernel_rfl)).trans (K _ rfl _ rfl _ rfl _ rfl _ rfl _ rfl _ rfl _ rfl _ rfl _ rfl)
theorem bP.iw (n:Nat) (x0:List Mem) (x1:Int) (x2:Int) {ρ:OT} (K:∀(v1:Mem) (h1:v1=(List.getD x0 (x2).toNat (fe.gk .ml))) (v2:Bool) (h2:v2=(!(fy.whole ((Mem.name v1))))) (v3:Int) (h3:v3=(IntKind.i64.wrap (x2+(1:Int)))),cond (decide (x2<x1))
  (ck (bB x2 (x0).length) (ck (decide ((((Mem.name v1))).length≤1099511627776)) (cond v2
  (some [(.i .i64 4)])
  (ck ((decide (bM.bO (Mem.val v1)≤1099511627776))&&decide ((bM.bO (Mem.val v1))<n)) (cond (!decide ((Cn.mE (Mem.val v1))=(0:Int)))
  (some [(.i .i64 (Cn.mE (Mem.val v1)))])
  (bP.l2 n x0 x1 v3))))))
  (some [(.i .i64 0)])=ρ):bP.l2 n x0 x1 x2=ρ:=((bU _ _ _ _ _ _ _).trans (by kernel_rfl)).trans (K _ rfl _ rfl _ rfl)
theorem bP.bZ (n:Nat) (j:bM) {ρ:OT} (K:∀(v1:Bool) (h1:v1=(cond (decide ((bM.kind j)<(1:Int))) true (decide ((7:Int)<(bM.kind j))))) (v2:Int) (h2:v2=(((bM.kids j)).length:Int)) (v3:Bool) (h3:v3=(cond (decide ((0:Int)<v2)) (!decide ((bM.kind j)=(6:Int))) false)) (v4:Bool) (h4:v4=(cond v3 (!decide ((bM.kind j)=(7:Int))) false)) (v5:Bool) (h5:v5=(cond (!decide ((bM.text j)=([]:bz))) (!decide ((bM.kind j)=(4:Int))) false)) (v6:Bool) (h6:v6=(cond v5 (!decide ((bM.kind j)=(5:Int))) false)),ck (!(!(decide ((bM.kind j)<(1:Int)))) || (!(decide ((bM.kind j)<(1:Int))))) (ck (!(!(decide ((bM.kind j)<(1:Int)))) || (!(decide ((bM.kind j)<(1:Int))))) (ck ((decide ((bM.kind j)<(1:Int))) || (!(decide ((bM.kind j)<(1:Int))))) (cond v1
  (some [(.i .i64 1)])
  (ck (!(decide ((0:Int)<v2)) || (decide ((0:Int)<v2))) (ck (!(decide ((0:Int)<v2)) || (decide ((0:Int)<v2))) (ck (!(decide ((0:Int)<v2)) || (decide ((0:Int)<v2))) (ck (!v3 || v3) (ck (!v3 || v3) (ck (!v3 || v3) (cond v4
  (some [(.i .i64 1)])
  (ck (!(!decide ((bM.text j)=([]:bz))) || (!decide ((bM.text j)=([]:bz)))) (ck (!(!decide ((bM.text j)=([]:bz))) || (!decide ((bM.text j)=([]:bz)))) (ck (!(!decide ((bM.text j)=([]:bz))) || (!decide ((bM.text j)=([]:bz)))) (ck (!v5 || v5) (ck (!v5 || v5) (ck (!v5 || v5) (cond v6
  (some [(.i .i64 1)])
  (bP.l1 n (bM.kids j) v2 (0:Int) j))))))))))))))))))=ρ):bP.F n j=ρ:=Eq.trans (by kernel_rfl) (K _ rfl _ rfl _ rfl _ rfl _ rfl _ rfl)
def cm.E:cC:=cT fQ zs [(74,(iH.c,iH.sg)),(91,(cd.c,cd.sg)),(134,(cX.c,cX.sg))]
def cm.h:Hint := .s .o (.s .o (.s .o (.s (.s .o (.b (.l [(0,.no),(4,.fA 800000),(13,.no),(14,.no),(800000,.pv)] (.s .o (.s .o (.j [(0,.no),(4,.fA 800000),(13,.no),(14,.no),(800000,.pv)] .o .o)))))) .o)))
def cm.F (s:bz):OT:=cR PG cm.E 106 cm.sg cm.h [(.s s)]
def cm.l1 (x0:bz) (x1:Int) (x2:Int) (x3:List UInt8):OT:=dQ PG cm.E 106 cm.sg cm.h 87 [(.s x0),.pt,(.i .i64 x1),(.i .i64 x2),(.sl .bs x3)]
def cm.j2 (x0:bz) (x1:Int) (x2:Int) (x3:List UInt8):OT:=eD PG cm.E 106 cm.sg cm.h 919 [(.s x0),.pt,(.i .i64 x1),(.i .i64 x2),(.sl .bs x3)]
theorem cm.bV (x0:bz) (x1:Int) (x2:Int) (x3:List UInt8) {ρ:OT} (K:∀(v1:UInt8) (h1:v1=(List.getD x0 (x2).toNat (0:UInt8))) (v2:Int) (h2:v2=(Lib.indexByte (([34,92,8,12,10,13,9]:bz)) v1)) (v3:UInt8) (h3:v3=(List.getD ([34,92,98,102,110,114,116]:bz) (v2).toNat (0:UInt8))) (v4:List UInt8) (h4:v4=([(92:UInt8),v3]:List UInt8)) (v5:List UInt8) (h5:v5=(x3++([92,117,48,48]:bz))) (v6:bz) (h6:v6=(lE.text (([v1]:List UInt8)))) (v7:List UInt8) (h7:v7=([(34:UInt8)]:List UInt8)),cond (decide (x2<x1))
  (ck (bB x2 (x0).length) (cond (decide ((0:Int)≤v2))
  (ck (bB v2 (([34,92,98,102,110,114,116]:bz)).length) (ck (fC ((x3).length+(v4).length) 1) (cm.j2 x0 x1 x2 (x3++v4))))
  (cond (decide (v1<(32:UInt8)))
  (ck (fC ((x3).length+(([92,117,48,48]:bz)).length) 1) (ck (decide ((([v1]:List UInt8)).length≤1099511627776)) (ck (fC ((v5).length+(v6).length) 1) (cm.j2 x0 x1 x2 (v5++v6)))))
  (ck (fC ((x3).length+(([v1]:List UInt8)).length) 1) (cm.j2 x0 x1 x2 (x3++([v1]:List UInt8)))))))
  (ck (fC ((x3).length+(v7).length) 1) (some [(.s (x3++v7)),(.b true)]))=ρ):cm.l1 x0 x1 x2 x3=ρ:=((bU _ _ _ _ _ _ _).trans (by kernel_rfl)).trans (K _ rfl _ rfl _ rfl _ rfl _ rfl _ rfl _ rfl)
theorem cm.jg (x0:bz) (x1:Int) (x2:Int) (x3:List UInt8) {ρ:OT} (K:∀(v1:Int) (h1:v1=(IntKind.i64.wrap (x2+(1:Int)))),cm.l1 x0 x1 v1 x3=ρ):cm.j2 x0 x1 x2 x3=ρ:=((b9 _ _ _ _ _ _ _).trans (by kernel_rfl)).trans (K _ rfl)
theorem cm.bZ (s:bz) {ρ:OT} (K:∀(v1:List UInt8) (h1:v1=([(34:UInt8)]:List UInt8)),ck (decide ((s).length≤1099511627776)) (cond (!(fy.whole s))
  (some [(.s []),(.b false)])
  (cm.l1 s ((s).length:Int) (0:Int) v1))=ρ):cm.F s=ρ:=Eq.trans (by kernel_rfl) (K _ rfl)
def jo_quoted.E:cC:=cT fQ zs [(106,(cm.c,cm.sg))]
def jo_quoted.h:Hint := .o
def jo_quoted.F (b:List UInt8) (s:bz):OT:=cR PG jo_quoted.E 75 jo_quoted.sg jo_quoted.h [(.sl .bs b),(.s s)]
theorem jo_quoted.eJ (b:List UInt8) (s:bz):jo_quoted.F b s=ck (decide ((s).length≤1000000000000)) (ck (fC ((b).length+((Cn.jx s)).length) 1) (some [(.sl .bs (b++(Cn.jx s)))])):=by kernel_rfl
def bY.E (n:Nat):cC:=cT fQ zs [(40,(bY.cn n,bY.sg)),(75,(jo_quoted.c,jo_quoted.sg))]
def bY.h:Hint := .s .o (.s .o (.s .o (.j [(0,.fA 1000000),(3,.ptr 76 0),(5,.no),(6,.no),(76,.cl []),(1000000,.pv)] .o (.s .o (.s (.s .o (.b (.l [(0,.fA 800000),(3,.ptr 76 0),(6,.no),(43,.no),(44,.no),(45,.no),(76,.cl []),(800000,.pv)] (.s .o (.s .o (.s (.b (.s .o (.j [(0,.fA 800000),(3,.ptr 76 0),(6,.no),(8,.ptr 81 0),(43,.no),(44,.no),(45,.no),(76,.cl []),(81,.cl []),(800000,.pv)] .o (.j [(0,.fA 800000),(3,.ptr 76 0),(6,.no),(8,.ptr 81 0),(43,.no),(44,.no),(45,.no),(76,.cl []),(81,.cl []),(800000,.pv)] .o .o)))) .o)))))) .o)))))
def bY.F (n:Nat) (b:List UInt8) (j:bM):OT:=cR PG (bY.E n) 40 bY.sg bY.h [(.sl .bs b),(.ag (bM.cells j))]
def bY.j1 (n:Nat) (x0:UInt8) (x1:UInt8) (x2:bM) (x3:List UInt8):OT:=eD PG (bY.E n) 40 bY.sg bY.h 15 [.pt,.pt,(.u8 x0),(.u8 x1),(.ag (bM.cells x2)),(.sl .bs x3)]
def bY.l2 (n:Nat) (x0:UInt8) (x1:List Mem) (x2:Int) (x3:Int) (x4:bM) (x5:List UInt8):OT:=dQ PG (bY.E n) 40 bY.sg bY.h 351 [.pt,.pt,(.u8 x0),(.sl .ml x1),(.i .i64 x2),(.i .i64 x3),(.ag (bM.cells x4)),(.sl .bs x5)]
def bY.j3 (n:Nat) (x0:UInt8) (x1:List Mem) (x2:Int) (x3:Int) (x4:bM) (x5:Mem) (x6:List UInt8):OT:=eD PG (bY.E n) 40 bY.sg bY.h 26207 [.pt,.pt,(.u8 x0),.pt,(.sl .ml x1),(.i .i64 x2),(.i .i64 x3),(.ag (bM.cells x4)),(.ag (Mem.cells x5)),(.sl .bs x6)]
def bY.j4 (n:Nat) (x0:UInt8) (x1:List Mem) (x2:Int) (x3:Int) (x4:bM) (x5:Mem) (x6:List UInt8):OT:=eD PG (bY.E n) 40 bY.sg bY.h 58975 [.pt,.pt,(.u8 x0),.pt,(.sl .ml x1),(.i .i64 x2),(.i .i64 x3),(.ag (bM.cells x4)),(.ag (Mem.cells x5)),(.sl .bs x6)]
theorem bY.iI (n:Nat) (x0:UInt8) (x1:UInt8) (x2:bM) (x3:List UInt8) {ρ:OT} (K:∀(v1:Int) (h1:v1=(((bM.kids x2)).length:Int)),ck (fC ((x3).length+(([x0]:List UInt8)).length) 1) (bY.l2 n x1 (bM.kids x2) v1 (0:Int) x2 (x3++([x0]:List UInt8)))=ρ):bY.j1 n x0 x1 x2 x3=ρ:=((b9 _ _ _ _ _ _ _).trans (by kernel_rfl)).trans (K _ rfl)
theorem bY.iw (n:Nat) (x0:UInt8) (x1:List Mem) (x2:Int) (x3:Int) (x4:bM) (x5:List UInt8) {ρ:OT} (K:∀(v1:Mem) (h1:v1=(List.getD x1 (x3).toNat (fe.gk .ml))) (v2:List UInt8) (h2:v2=([(44:UInt8)]:List UInt8)),cond (decide (x3<x2))
  (ck (bB x3 (x1).length) (cond (decide ((0:Int)<x3))
  (ck (fC ((x5).length+(v2).length) 1) (bY.j3 n x0 x1 x2 x3 x4 v1 (x5++v2)))
  (bY.j3 n x0 x1 x2 x3 x4 v1 x5)))
  (ck (fC ((x5).length+(([x0]:List UInt8)).length) 1) (some [(.sl .bs (x5++([x0]:List UInt8)))]))=ρ):bY.l2 n x0 x1 x2 x3 x4 x5=ρ:=((bU _ _ _ _ _ _ _).trans (by kernel_rfl)).trans (K _ rfl _ rfl)
theorem bY.oY (n:Nat) (x0:UInt8) (x1:List Mem) (x2:Int) (x3:Int) (x4:bM) (x5:Mem) (x6:List UInt8) {ρ:OT} (K:∀(v1:List UInt8) (h1:v1=((x6++Cn.jx ((Mem.name x5))))) (v2:List UInt8) (h2:v2=([(58:UInt8)]:List UInt8)),cond (decide ((bM.kind x4)=(7:Int)))
  (ck (decide ((x6).length+6 * (((Mem.name x5))).length≤5000000000000)) (ck (fC ((v1).length+(v2).length) 1) (bY.j4 n x0 x1 x2 x3 x4 x5 (v1++v2))))
  (bY.j4 n x0 x1 x2 x3 x4 x5 x6)=ρ):bY.j3 n x0 x1 x2 x3 x4 x5 x6=ρ:=((b9 _ _ _ _ _ _ _).trans (by kernel_rfl)).trans (K _ rfl _ rfl)
theorem bY.DO (n:Nat) (x0:UInt8) (x1:List Mem) (x2:Int) (x3:Int) (x4:bM) (x5:Mem) (x6:List UInt8) {ρ:OT} (K:∀(v1:List UInt8) (h1:v1=((x6++Cn.tJ (Mem.val x5)))) (v2:Int) (h2:v2=(IntKind.i64.wrap (x3+(1:Int)))),ck ((decide ((x6).length+12 * bM.bO (Mem.val x5)≤4000000000000))&&decide ((bM.bO (Mem.val x5))<n)) (bY.l2 n x0 x1 x2 v2 x4 v1)=ρ):bY.j4 n x0 x1 x2 x3 x4 x5 x6=ρ:=((b9 _ _ _ _ _ _ _).trans (by kernel_rfl)).trans (K _ rfl _ rfl)
theorem bY.bZ (n:Nat) (b:List UInt8) (j:bM) {ρ:OT} (K:∀(v1:List UInt8) (h1:v1=(b++([110,117,108,108]:bz))) (v2:List UInt8) (h2:v2=(b++([102,97,108,115,101]:bz))) (v3:List UInt8) (h3:v3=(b++([116,114,117,101]:bz))) (v4:List UInt8) (h4:v4=((b++Cn.jx ((bM.text j))))),cond (decide ((bM.kind j)=(1:Int)))
  (ck (fC ((b).length+(([110,117,108,108]:bz)).length) 1) (some [(.sl .bs v1)]))
  (cond (decide ((bM.kind j)=(2:Int)))
  (ck (fC ((b).length+(([102,97,108,115,101]:bz)).length) 1) (some [(.sl .bs v2)]))
  (cond (decide ((bM.kind j)=(3:Int)))
  (ck (fC ((b).length+(([116,114,117,101]:bz)).length) 1) (some [(.sl .bs v3)]))
  (cond (decide ((bM.kind j)=(4:Int)))
  (ck (fC ((b).length+((bM.text j)).length) 1) (some [(.sl .bs (b++(bM.text j)))]))
  (cond (decide ((bM.kind j)=(5:Int)))
  (ck (decide ((b).length+6 * (((bM.text j))).length≤5000000000000)) (some [(.sl .bs v4)]))
  (cond (decide ((bM.kind j)=(7:Int)))
  (bY.j1 n (123:UInt8) (125:UInt8) j b)
  (bY.j1 n (91:UInt8) (93:UInt8) j b))))))=ρ):bY.F n b j=ρ:=Eq.trans (by kernel_rfl) (K _ rfl _ rfl _ rfl _ rfl)
def ft.E:cC:=cT fQ zs [(39,(bP.c,bP.sg)),(40,(bY.c,bY.sg))]
def ft.h:Hint := .o
def ft.F (j:bM):OT:=cR PG ft.E 24 ft.sg ft.h [(.ag (bM.cells j))]
theorem ft.bZ (j:bM) {ρ:OT} (K:∀(v1:List UInt8) (h1:v1=(((([]:List UInt8))++Cn.tJ j))),ck (decide (bM.bO j≤1099511627776)) (cond (!decide ((Cn.mE j)=(0:Int)))
  (some [(.s []),(.i .i64 (Cn.mE j))])
  (ck (decide (((([]:List UInt8))).length+12 * bM.bO j≤4000000000000)) (some [(.s v1),(.i .i64 0)])))=ρ):ft.F j=ρ:=Eq.trans (by kernel_rfl) (K _ rfl)
def gn.E:cC:=cT fQ zs [(9,(fF.c,fF.sg)),(24,(ft.c,ft.sg))]
def gn.h:Hint := .o
def gn.F (v:Val):OT:=cR PG gn.E 11 gn.sg gn.h [(.ag (Val.cells v))]
theorem gn.eJ (v:Val):gn.F v=ck (decide (bJ.bO (bJ.of [] v)≤1099511627776)) (cond (!decide ((Cn.jv v).2=(0:Int)))
  (some [(.s []),(.ag [(.i .i64 (Cn.jv v).2),(.i .i64 0),(.sl .is (Cn.jv v).1)])])
  (ck (decide (12 * bM.bO (Cn.jf v)≤1000000000000)) (some [(.s (Cn.pW (Cn.jf v))),(.ag [(.i .i64 (Cn.mE (Cn.jf v))),(.i .i64 0),(.sl .is ([]:List Int))])]))):=by kernel_rfl
def r22_Same.E (n:Nat):cC:=cT fQ zs [(14,(r22_Same.cn n,r22_Same.sg))]
def r22_Same.h:Hint := .s .o (.s .o (.s (.s .o (.b (.l [(2,.ptr 65 0),(3,.ptr 66 0),(5,.no),(65,.cl []),(66,.cl [])] .o))) .o))
def r22_Same.F (n:Nat) (a:bM) (b:bM):OT:=cR PG (r22_Same.E n) 14 r22_Same.sg r22_Same.h [(.ag (bM.cells a)),(.ag (bM.cells b))]
def r22_Same.l1 (n:Nat) (x0:Int) (x1:bM) (x2:bM):OT:=dQ PG (r22_Same.E n) 14 r22_Same.sg r22_Same.h 43 [.pt,.pt,(.i .i64 x0),(.ag (bM.cells x1)),(.ag (bM.cells x2))]
theorem r22_Same.bV (n:Nat) (x0:Int) (x1:bM) (x2:bM) {ρ:OT} (K:∀(v1:Int) (h1:v1=(((bM.kids x1)).length:Int)) (v2:Mem) (h2:v2=(List.getD (bM.kids x1) (x0).toNat (fe.gk .ml))) (v3:Mem) (h3:v3=(List.getD (bM.kids x2) (x0).toNat (fe.gk .ml))) (v4:Bool) (h4:v4=(!(!decide ((Mem.name v2)=(Mem.name v3))))) (v5:Bool) (h5:v5=(Cn.mW (Mem.val v2) (Mem.val v3))) (v6:Bool) (h6:v6=(cond (!decide ((Mem.name v2)=(Mem.name v3))) true (!v5))) (v7:Int) (h7:v7=(IntKind.i64.wrap (x0+(1:Int)))),cond (decide (x0<v1))
  (ck (bB x0 ((bM.kids x1)).length) (ck (bB x0 ((bM.kids x2)).length) (ck (!v4 || v4) (ck (!v4 || ((v4&&v4)&&(bB x0 ((bM.kids x1)).length))) (ck (!v4 || v4) (ck (!v4 || v4) (ck (!v4 || v4) (ck (!v4 || ((v4&&v4)&&(bB x0 ((bM.kids x2)).length))) (ck (!v4 || v4) (ck (!v4 || v4) (ck (!v4 || ((v4&&v4)&&((decide (bM.bO (Mem.val v2)≤1099511627776))&&decide ((bM.bO (Mem.val v2))<n)))) (ck (!v4 || v4) (ck ((!decide ((Mem.name v2)=(Mem.name v3))) || v4) (cond v6
  (some [(.b false)])
  (r22_Same.l1 n v7 x1 x2)))))))))))))))
  (some [(.b true)])=ρ):r22_Same.l1 n x0 x1 x2=ρ:=((bU _ _ _ _ _ _ _).trans (by kernel_rfl)).trans (K _ rfl _ rfl _ rfl _ rfl _ rfl _ rfl _ rfl)
theorem r22_Same.bZ (n:Nat) (a:bM) (b:bM) {ρ:OT} (K:∀(v1:Bool) (h1:v1=(!(!decide ((bM.kind a)=(bM.kind b))))) (v2:Bool) (h2:v2=(cond (!decide ((bM.kind a)=(bM.kind b))) true (!decide ((bM.text a)=(bM.text b))))) (v3:Int) (h3:v3=(((bM.kids a)).length:Int)) (v4:Int) (h4:v4=(((bM.kids b)).length:Int)) (v5:Bool) (h5:v5=(cond v2 true (!decide (v3=v4)))),ck (!v1 || v1) (ck (!v1 || v1) (ck (!v1 || (v1&&v1)) (ck ((!decide ((bM.kind a)=(bM.kind b))) || v1) (ck (!(!v2) || (!v2)) (ck (!(!v2) || (!v2)) (ck (!(!v2) || (!v2)) (ck (!(!v2) || (!v2)) (ck (!(!v2) || ((!v2)&&(!v2))) (ck (v2 || (!v2)) (cond v5
  (some [(.b false)])
  (r22_Same.l1 n (0:Int) a b)))))))))))=ρ):r22_Same.F n a b=ρ:=Eq.trans (by kernel_rfl) (K _ rfl _ rfl _ rfl _ rfl _ rfl)
def VF.E:cC:=cT fQ zs []
def VF.h:Hint := .o
def VF.F (c:UInt8):OT:=cR PG VF.E 77 VF.sg VF.h [(.u8 c)]
theorem VF.bZ (c:UInt8) {ρ:OT} (K:∀(v1:Bool) (h1:v1=(cond (decide (c=(9:UInt8))) true (decide (c=(10:UInt8))))) (v2:Bool) (h2:v2=(cond v1 true (decide (c=(13:UInt8))))) (v3:Bool) (h3:v3=(cond v2 true (decide (c=(32:UInt8))))),ck (!(!(decide (c=(9:UInt8)))) || (!(decide (c=(9:UInt8))))) (ck ((decide (c=(9:UInt8))) || (!(decide (c=(9:UInt8))))) (ck (!(!v1) || (!v1)) (ck (v1 || (!v1)) (ck (!(!v2) || (!v2)) (ck (v2 || (!v2)) (some [(.b v3)]))))))=ρ):VF.F c=ρ:=Eq.trans (by kernel_rfl) (K _ rfl _ rfl _ rfl)
def VD.E:cC:=cT fQ zs []
def VD.h:Hint := .o
def VD.F (c:UInt8):OT:=cR PG VD.E 79 VD.sg VD.h [(.u8 c)]
theorem VD.bZ (c:UInt8) {ρ:OT} (K:∀(v1:Bool) (h1:v1=(cond (decide ((48:UInt8)≤c)) (decide (c≤(57:UInt8))) false)) (v2:Bool) (h2:v2=(cond v1 true (decide (c=(43:UInt8))))) (v3:Bool) (h3:v3=(cond v2 true (decide (c=(45:UInt8))))) (v4:Bool) (h4:v4=(cond v3 true (decide (c=(46:UInt8))))) (v5:Bool) (h5:v5=(cond v4 true (decide (c=(101:UInt8))))) (v6:Bool) (h6:v6=(cond v5 true (decide (c=(69:UInt8))))),ck (!(decide ((48:UInt8)≤c)) || (decide ((48:UInt8)≤c))) (ck (!(decide ((48:UInt8)≤c)) || (decide ((48:UInt8)≤c))) (ck (!(!v1) || (!v1)) (ck (v1 || (!v1)) (ck (!(!v2) || (!v2)) (ck (v2 || (!v2)) (ck (!(!v3) || (!v3)) (ck (v3 || (!v3)) (ck (!(!v4) || (!v4)) (ck (v4 || (!v4)) (ck (!(!v5) || (!v5)) (ck (v5 || (!v5)) (some [(.b v6)]))))))))))))=ρ):VD.F c=ρ:=Eq.trans (by kernel_rfl) (K _ rfl _ rfl _ rfl _ rfl _ rfl _ rfl)
def Vl.E:cC:=cT fQ zs []
def Vl.h:Hint := .s .o (.s .o (.s .o (.s (.s .o (.b (.l [(0,.no),(3,.no),(4,.fA 800000),(5,.no),(800000,.pv)] .o))) .o)))
def Vl.F (c:UInt8):OT:=cR PG Vl.E 109 Vl.sg Vl.h [(.u8 c)]
def Vl.l1 (x0:UInt8) (x1:bz) (x2:Int) (x3:List Int):OT:=dQ PG Vl.E 109 Vl.sg Vl.h 87 [(.u8 x0),(.s x1),.pt,(.i .i64 x2),(.sl .is x3)]
theorem Vl.bV (x0:UInt8) (x1:bz) (x2:Int) (x3:List Int) {ρ:OT} (K:∀(v1:UInt8) (h1:v1=(List.getD x1 (x2).toNat (0:UInt8))) (v2:Int) (h2:v2=(List.getD x3 ((x2).toNat) (0:Int))) (v3:Int) (h3:v3=(IntKind.i64.wrap (x2+(1:Int)))),cond (decide (x2<((x1).length:Int)))
  (ck (bB x2 (x1).length) (cond (decide (v1=x0))
  (ck (bB x2 (x3).length) (ck (decide ((x2).toNat<(x3).length)) (some [(.i .i64 v2)])))
  (Vl.l1 x0 x1 v3 x3)))
  (some [(.i .i64 (-1))])=ρ):Vl.l1 x0 x1 x2 x3=ρ:=((bU _ _ _ _ _ _ _).trans (by kernel_rfl)).trans (K _ rfl _ rfl _ rfl)
theorem Vl.bZ (c:UInt8) {ρ:OT} (K:∀(v1:List Int) (h1:v1=([(34:Int),(92:Int),(47:Int),(8:Int),(12:Int),(10:Int),(13:Int),(9:Int)]:List Int)),Vl.l1 c ([34,92,47,98,102,110,114,116]:bz) (0:Int) v1=ρ):Vl.F c=ρ:=Eq.trans (by kernel_rfl) (K _ rfl)
def Vy.E:cC:=cT fQ zs [(135,(Vk.c,Vk.sg))]
def Vy.h:Hint := .s .o (.s .o (.s (.s .o (.b (.l (sc [0,1,5,6]) .o))) .o))
def Vy.F (s:bz) (a:Int):OT:=cR PG Vy.E 107 Vy.sg Vy.h [(.s s),(.i .i64 a)]
def Vy.l1 (x0:bz) (x1:Int) (x2:Int) (x3:Int):OT:=dQ PG Vy.E 107 Vy.sg Vy.h 43 [(.s x0),(.i .i64 x1),(.i .i64 x2),(.i .i64 x3)]
theorem Vy.bV (x0:bz) (x1:Int) (x2:Int) (x3:Int) {ρ:OT} (K:∀(v1:Int) (h1:v1=(IntKind.i64.wrap ((IntKind.i64.wrap (x1+x3))+(1:Int)))) (v2:bz) (h2:v2=(List.drop ((IntKind.i64.wrap (x1+x3))).toNat (List.take (v1).toNat x0))) (v3:List UInt8) (h3:v3=((lE.bytes ((([48]:bz)++v2))).getD [])) (v4:Bool) (h4:v4=((lE.bytes ((([48]:bz)++v2))).isSome)) (v5:Int) (h5:v5=(IntKind.i64.wrap (x2 * (16:Int)))) (v6:UInt8) (h6:v6=(List.getD v3 ((0:Int)).toNat (0:UInt8))) (v7:Int) (h7:v7=(IntKind.i64.wrap ((v6).toNat:Int))) (v8:Int) (h8:v8=(IntKind.i64.wrap (x3+(1:Int)))),cond (decide (x3<(4:Int)))
  (cond (decide (((x0).length:Int)≤(IntKind.i64.wrap (x1+x3))))
  (some [(.i .i64 (-2))])
  (ck (gA (IntKind.i64.wrap (x1+x3)) v1 (x0).length) (ck (decide ((([48]:bz)).length+(v2).length≤9223372036854775807)) (ck (decide (((([48]:bz)++v2)).length≤1099511627776)) (cond (!v4)
  (some [(.i .i64 (-1))])
  (ck (bB (0:Int) (v3).length) (Vy.l1 x0 x1 (IntKind.i64.wrap (v5+v7)) v8)))))))
  (some [(.i .i64 x2)])=ρ):Vy.l1 x0 x1 x2 x3=ρ:=((bU _ _ _ _ _ _ _).trans (by kernel_rfl)).trans (K _ rfl _ rfl _ rfl _ rfl _ rfl _ rfl _ rfl _ rfl)
theorem Vy.eJ (s:bz) (a:Int):Vy.F s a=Vy.l1 s a (0:Int) (0:Int):=by kernel_rfl
def VM.E:cC:=cT fQ zs []
def VM.h:Hint := .o
def VM.F (r:Int):OT:=cR PG VM.E 136 VM.sg VM.h [(.i .i64 r)]
theorem VM.bZ (r:Int) {ρ:OT} (K:∀(v1:Bool) (h1:v1=(cond (decide ((0:Int)≤r)) (decide (r≤(1114111:Int))) false)) (v2:Bool) (h2:v2=(v1&&(!(decide (r<(55296:Int)))))) (v3:Bool) (h3:v3=(cond (decide (r<(55296:Int))) true (decide ((57343:Int)<r)))),ck (!(decide ((0:Int)≤r)) || (decide ((0:Int)≤r))) (ck (!(decide ((0:Int)≤r)) || (decide ((0:Int)≤r))) (ck (!v1 || v1) (ck (!v1 || v1) (ck (!v2 || v2) (ck (!v1 || (v1&&((decide (r<(55296:Int))) || v2))) (ck (!v1 || v1) (some [(.b (cond v1 v3 false))])))))))=ρ):VM.F r=ρ:=Eq.trans (by kernel_rfl) (K _ rfl _ rfl _ rfl)
def VK.E:cC:=cT fQ zs [(136,(VM.c,VM.sg))]
def VK.h:Hint := .o
def VK.F (r:Int):OT:=cR PG VK.E 108 VK.sg VK.h [(.i .i64 r)]
theorem VK.bZ (r:Int) {ρ:OT} (K:∀(v1:List UInt8) (h1:v1=([(UInt8.ofInt r)]:List UInt8)) (v2:Int) (h2:v2=(IntKind.i64.wrap (Int.tdiv r (64:Int)))) (v3:Int) (h3:v3=(IntKind.i64.wrap ((192:Int)+v2))) (v4:Int) (h4:v4=(IntKind.i64.wrap ((128:Int)+(Int.tmod r (64:Int))))) (v5:List UInt8) (h5:v5=([(UInt8.ofInt v3),(UInt8.ofInt v4)]:List UInt8)) (v6:Int) (h6:v6=(IntKind.i64.wrap (Int.tdiv r (4096:Int)))) (v7:Int) (h7:v7=(IntKind.i64.wrap ((224:Int)+v6))) (v8:Int) (h8:v8=(IntKind.i64.wrap ((128:Int)+(Int.tmod v2 (64:Int))))) (v9:List UInt8) (h9:v9=([(UInt8.ofInt v7),(UInt8.ofInt v8),(UInt8.ofInt v4)]:List UInt8)) (v10:Int) (iA:v10=(IntKind.i64.wrap (Int.tdiv r (262144:Int)))) (v11:Int) (ki:v11=(IntKind.i64.wrap ((240:Int)+v10))) (v12:Int) (jE:v12=(IntKind.i64.wrap ((128:Int)+(Int.tmod v6 (64:Int))))) (kW:List UInt8) (nY:kW=([(UInt8.ofInt v11),(UInt8.ofInt v12),(UInt8.ofInt v8),(UInt8.ofInt v4)]:List UInt8)),cond (!(fy.mA r))
  (some [(.sl .bs ([]:List UInt8)),(.b false)])
  (cond (decide (r<(128:Int)))
  (some [(.sl .bs v1),(.b true)])
  (cond (decide (r<(2048:Int)))
  (ck (!decide ((64:Int)=0)) (ck (!decide ((64:Int)=0)) (some [(.sl .bs v5),(.b true)])))
  (cond (decide (r<(65536:Int)))
  (ck (!decide ((4096:Int)=0)) (ck (!decide ((64:Int)=0)) (ck (!decide ((64:Int)=0)) (ck (!decide ((64:Int)=0)) (some [(.sl .bs v9),(.b true)])))))
  (ck (!decide ((262144:Int)=0)) (ck (!decide ((4096:Int)=0)) (ck (!decide ((64:Int)=0)) (ck (!decide ((64:Int)=0)) (ck (!decide ((64:Int)=0)) (ck (!decide ((64:Int)=0)) (some [(.sl .bs kW),(.b true)]))))))))))=ρ):VK.F r=ρ:=Eq.trans (by kernel_rfl) (K _ rfl _ rfl _ rfl _ rfl _ rfl _ rfl _ rfl _ rfl _ rfl _ rfl _ rfl _ rfl _ rfl)
def Vr.E:cC:=cT fQ zs [(80,(Vg.c,Vg.sg)),(107,(Vy.c,Vy.sg)),(108,(VK.c,VK.sg)),(109,(Vl.c,Vl.sg))]
def Vr.h:Hint := .s .o (.s .o (.s .o (.s (.s .o (.b (.l [(0,.no),(1,.no),(4,.ptr 187 0),(5,.ptr 188 0),(6,.ptr 189 0),(7,.fA 800000),(8,.no),(187,.cl []),(188,.cl []),(189,.cl []),(800000,.pv)] (.s .o (.b (.s .o (.b (.s .o (.s .o (.s .o (.s .o (.s .o (.s .o (.s .o (.s .o (.s .o (.s (.s .o (.s .o (.s .o (.s .o (.j [(0,.no),(1,.no),(4,.ptr 187 0),(5,.ptr 188 0),(6,.ptr 189 0),(7,.fA 800000),(8,.no),(12,.no),(13,.no),(187,.cl []),(188,.cl []),(189,.cl []),(800000,.pv)] .o .o))))) .o))))))))))))))))) .o)))
def Vr.F (s:bz) (a:Int):OT:=cR PG Vr.E 78 Vr.sg Vr.h [(.s s),(.i .i64 a)]
def Vr.l1 (x0:bz) (x1:Int) (x2:Int) (x3:Tok) (x4:Rp) (x5:Rp) (x6:List UInt8):OT:=dQ PG Vr.E 78 Vr.sg Vr.h 87 [(.s x0),(.i .i64 x1),.pt,.pt,.pt,.pt,(.i .i64 x2),(.ag (Tok.cells x3)),(.ag (Rp.cells x4)),(.ag (Rp.cells x5)),(.sl .bs x6)]
def Vr.j2 (x0:bz) (x1:Int) (x2:Int) (x3:Int) (x4:Int) (x5:Tok) (x6:Rp) (x7:Rp) (x8:List UInt8):OT:=eD PG Vr.E 78 Vr.sg Vr.h 66058903 [(.s x0),(.i .i64 x1),.pt,.pt,.pt,.pt,(.i .i64 x2),(.i .i64 x3),(.i .i64 x4),(.ag (Tok.cells x5)),(.ag (Rp.cells x6)),(.ag (Rp.cells x7)),(.sl .bs x8)]
theorem Vr.bV (x0:bz) (x1:Int) (x2:Int) (x3:Tok) (x4:Rp) (x5:Rp) (x6:List UInt8) {ρ:OT} (K:∀(v1:UInt8) (h1:v1=(List.getD x0 (x2).toNat (0:UInt8))) (v2:Int) (h2:v2=(IntKind.i64.wrap (x2+(1:Int)))) (v3:Int) (h3:v3=(IntKind.i64.wrap (x2+(4:Int)))) (v4:Int) (h4:v4=(Gk v3 ((x0).length:Int))) (v5:bz) (h5:v5=(List.drop (x2).toNat (List.take (v4).toNat x0))) (v6:Int) (h6:v6=((fy.mi v5 ((0:Int))).1)) (v7:Int) (h7:v7=((fy.mi v5 ((0:Int))).2)) (v8:bz) (h8:v8=(List.drop (x2).toNat (List.take ((IntKind.i64.wrap (x2+v7))).toNat x0))) (v9:UInt8) (h9:v9=(List.getD x0 (v2).toNat (0:UInt8))) (v10:Int) (iA:v10=(IntKind.i64.wrap (x2+(2:Int)))) (v11:Int) (ki:v11=(Jp.four 4 0 (List.drop (v10).toNat x0))) (v12:Bool) (jE:v12=(cond (decide ((55296:Int)≤v11)) (decide (v11≤(56319:Int))) false)) (kW:Int) (nY:kW=(IntKind.i64.wrap (((x0).length:Int) - x2))) (jP:Bool) (pA:jP=(cond v12 (decide ((12:Int)≤kW)) false)) (iD:Int) (o8:iD=(IntKind.i64.wrap (x2+(6:Int)))) (mS:UInt8) (tO:mS=(List.getD x0 (iD).toNat (0:UInt8))) (nT:Bool) (xI:nT=(cond jP (decide (mS=(92:UInt8))) false)) (lO:Int) (wi:lO=(IntKind.i64.wrap (x2+(7:Int)))) (qJ:UInt8) (BU:qJ=(List.getD x0 (lO).toNat (0:UInt8))) (v20:Bool) (zF:v20=(cond nT (decide (qJ=(117:UInt8))) false)) (v21:Int) (KS:v21=(IntKind.i64.wrap (x2+(8:Int)))) (v22:Int) (KR:v22=(Jp.four 4 0 (List.drop (v21).toNat x0))) (Yg:Bool) (ZP:Yg=(cond (decide ((56320:Int)≤v22)) (decide (v22≤(57343:Int))) false)) (v24:Int) (Tq:v24=(IntKind.i64.wrap (v11 - (55296:Int)))) (v25:Int) (ZO:v25=(IntKind.i64.wrap (v24 * (1024:Int)))) (Wq:Int) (ZN:Wq=(IntKind.i64.wrap ((65536:Int)+v25))) (v27:Int) (ZS:v27=(IntKind.i64.wrap (Wq+v22))) (v28:Int) (ZM:v28=(IntKind.i64.wrap (v27 - (56320:Int)))) (Yx:List UInt8) (ZC:Yx=([(UInt8.ofInt (Jp.Xj v9))]:List UInt8)),cond (decide (x2<((x0).length:Int)))
  (ck (bB x2 (x0).length) (cond (decide (v1=(34:UInt8)))
  (some [(.ag [(.i .i64 8),(.i .i64 x1),(.i .i64 v2),(.s x6)]),(.ag [(.i .i64 0),(.i .i64 0),(.sl .is ([]:List Int))])])
  (cond (decide (v1<(32:UInt8)))
  (some [(.ag [(.i .i64 0),(.i .i64 0),(.i .i64 0),(.s [])]),(.ag [(.i .i64 3),(.i .i64 x2),(.sl .is ([]:List Int))])])
  (cond (!decide (v1=(92:UInt8)))
  (ck (gA x2 v4 (x0).length) (ck (qT (v5).length) (ck (decide (v5.length≤1099511627776)) (cond (decide (v7=(0:Int)))
  (some [(.ag [(.i .i64 0),(.i .i64 0),(.i .i64 0),(.s [])]),(.ag [(.i .i64 4),(.i .i64 x2),(.sl .is ([]:List Int))])])
  (ck (gA x2 (IntKind.i64.wrap (x2+v7)) (x0).length) (ck (fC ((x6).length+(v8).length) 1) (Vr.l1 x0 x1 (IntKind.i64.wrap (x2+v7)) x3 x4 x5 (x6++v8))))))))
  (cond (decide (v2=((x0).length:Int)))
  (some [(.ag [(.i .i64 0),(.i .i64 0),(.i .i64 0),(.s [])]),(.ag (Rp.cells x5))])
  (ck (bB v2 (x0).length) (cond (decide (v9=(117:UInt8)))
  (ck (decide ((x0).length≤1000000000000∧0≤v10∧v10≤2000000000000)) (cond (decide (v11=(-2:Int)))
  (some [(.ag [(.i .i64 0),(.i .i64 0),(.i .i64 0),(.s [])]),(.ag (Rp.cells x5))])
  (cond (decide (v11=(-1:Int)))
  (some [(.ag [(.i .i64 0),(.i .i64 0),(.i .i64 0),(.s [])]),(.ag [(.i .i64 3),(.i .i64 x2),(.sl .is ([]:List Int))])])
  (ck (!(decide ((55296:Int)≤v11)) || (decide ((55296:Int)≤v11))) (ck (!(decide ((55296:Int)≤v11)) || (decide ((55296:Int)≤v11))) (ck (!v12 || v12) (ck (!v12 || (v12&&v12)) (ck (!v12 || v12) (ck (!v12 || v12) (ck (!jP || jP) (ck (!jP || ((jP&&jP)&&(bB iD (x0).length))) (ck (!jP || jP) (ck (!jP || jP) (ck (!nT || nT) (ck (!nT || ((nT&&nT)&&(bB lO (x0).length))) (ck (!nT || nT) (ck (!nT || nT) (cond v20
  (ck (decide ((x0).length≤1000000000000∧0≤v21∧v21≤2000000000000)) (ck (!(decide ((56320:Int)≤v22)) || (decide ((56320:Int)≤v22))) (ck (!(decide ((56320:Int)≤v22)) || (decide ((56320:Int)≤v22))) (cond Yg
  (Vr.j2 x0 x1 x2 v28 (12:Int) x3 x4 x5 x6)
  (Vr.j2 x0 x1 x2 v11 (6:Int) x3 x4 x5 x6)))))
  (Vr.j2 x0 x1 x2 v11 (6:Int) x3 x4 x5 x6)))))))))))))))))))
  (ck (bB v2 (x0).length) (cond (decide ((Jp.Xj v9)<(0:Int)))
  (some [(.ag [(.i .i64 0),(.i .i64 0),(.i .i64 0),(.s [])]),(.ag [(.i .i64 3),(.i .i64 x2),(.sl .is ([]:List Int))])])
  (ck (fC ((x6).length+(Yx).length) 1) (Vr.l1 x0 x1 v10 x3 x4 x5 (x6++Yx))))))))))))
  (some [(.ag [(.i .i64 0),(.i .i64 0),(.i .i64 0),(.s [])]),(.ag (Rp.cells x5))])=ρ):Vr.l1 x0 x1 x2 x3 x4 x5 x6=ρ:=((bU _ _ _ _ _ _ _).trans (by kernel_rfl)).trans (K _ rfl _ rfl _ rfl _ rfl _ rfl _ rfl _ rfl _ rfl _ rfl _ rfl _ rfl _ rfl _ rfl _ rfl _ rfl _ rfl _ rfl _ rfl _ rfl _ rfl _ rfl _ rfl _ rfl _ rfl _ rfl _ rfl _ rfl _ rfl _ rfl)
theorem Vr.jg (x0:bz) (x1:Int) (x2:Int) (x3:Int) (x4:Int) (x5:Tok) (x6:Rp) (x7:Rp) (x8:List UInt8) {ρ:OT} (K:∀(v1:List UInt8) (h1:v1=(cond (fy.mA x3) (Jp.put x3) [])),cond (!(fy.mA x3))
  (some [(.ag [(.i .i64 0),(.i .i64 0),(.i .i64 0),(.s [])]),(.ag [(.i .i64 4),(.i .i64 x2),(.sl .is ([]:List Int))])])
  (ck (fC ((x8).length+(v1).length) 1) (Vr.l1 x0 x1 (IntKind.i64.wrap (x2+x4)) x5 x6 x7 (x8++v1)))=ρ):Vr.j2 x0 x1 x2 x3 x4 x5 x6 x7 x8=ρ:=((b9 _ _ _ _ _ _ _).trans (by kernel_rfl)).trans (K _ rfl)
theorem Vr.bZ (s:bz) (a:Int) {ρ:OT} (K:∀(v1:Int) (h1:v1=(IntKind.i64.wrap (a+(1:Int)))),Vr.l1 s a v1 (Tok.mk (0:Int) (0:Int) (0:Int) ([]:bz)) (Rp.mk 0 0 []) (Rp.mk 2 a []) ([]:List UInt8)=ρ):Vr.F s a=ρ:=Eq.trans (by kernel_rfl) (K _ rfl)
end
end Go.Eng
set_option maxRecDepth 100000
namespace Go.Eng
open Go.Proofs
noncomputable section
def nk.E:cC:=cT fQ zs [(32,(eF.c,eF.sg)),(77,(VF.c,VF.sg)),(78,(Vr.c,Vr.sg)),(79,(VD.c,VD.sg))]
def nk.h:Hint := .s .o (.s .o (.s (.b (.l [(0,.no),(1,.no),(4,.ptr 170 0),(5,.ptr 171 0),(170,.cl []),(171,.cl [])] .o)) (.s .o (.s .o (.s (.s .o (.b (.l [(0,.no),(1,.no),(4,.ptr 170 0),(5,.ptr 171 0),(6,.no),(7,.no),(170,.cl []),(171,.cl [])] .o))) (.s .o (.s (.s .o (.b (.l [(0,.no),(1,.no),(4,.ptr 170 0),(5,.ptr 171 0),(8,.fA 800000),(9,.no),(170,.cl []),(171,.cl []),(800000,.pv)] .o))) (.s .o (.s .o (.s .o (.s (.b (.l [(0,.no),(1,.no),(4,.ptr 170 0),(5,.ptr 171 0),(11,.no),(170,.cl []),(171,.cl [])] .o)) .o)))))))))))
def nk.F (s:bz) (a:Int):OT:=cR PG nk.E 42 nk.sg nk.h [(.s s),(.i .i64 a)]
def nk.l1 (x0:bz) (x1:Int) (x2:Tok) (x3:Rp):OT:=dQ PG nk.E 42 nk.sg nk.h 19 [(.s x0),(.i .i64 x1),.pt,.pt,(.ag (Tok.cells x2)),(.ag (Rp.cells x3))]
def nk.l2 (x0:bz) (x1:Int) (x2:bz) (x3:Int) (x4:Tok) (x5:Rp):OT:=dQ PG nk.E 42 nk.sg nk.h 351 [(.s x0),(.i .i64 x1),.pt,.pt,(.s x2),(.i .i64 x3),(.ag (Tok.cells x4)),(.ag (Rp.cells x5))]
def nk.l3 (x0:bz) (x1:Int) (x2:Int) (x3:Tok) (x4:Rp) (x5:List bz):OT:=dQ PG nk.E 42 nk.sg nk.h 1407 [(.s x0),(.i .i64 x1),.pt,.pt,.pt,(.i .i64 x2),(.ag (Tok.cells x3)),(.ag (Rp.cells x4)),(.sl .ss x5)]
def nk.l4 (x0:bz) (x1:Int) (x2:Int) (x3:Tok) (x4:Rp):OT:=dQ PG nk.E 42 nk.sg nk.h 10239 [(.s x0),(.i .i64 x1),.pt,.pt,(.i .i64 x2),(.ag (Tok.cells x3)),(.ag (Rp.cells x4))]
theorem nk.bV (x0:bz) (x1:Int) (x2:Tok) (x3:Rp) {ρ:OT} (K:∀(v1:UInt8) (h1:v1=(List.getD x0 (x1).toNat (0:UInt8))) (v2:Bool) (h2:v2=(cond (decide (x1<((x0).length:Int))) (Jp.blank v1) false)) (v3:Int) (h3:v3=(IntKind.i64.wrap (x1+(1:Int)))),ck (!(decide (x1<((x0).length:Int))) || (((decide (x1<((x0).length:Int)))&&(decide (x1<((x0).length:Int))))&&(bB x1 (x0).length))) (ck (!(decide (x1<((x0).length:Int))) || (decide (x1<((x0).length:Int)))) (ck (!(decide (x1<((x0).length:Int))) || (decide (x1<((x0).length:Int)))) (cond v2
  (nk.l1 x0 v3 x2 x3)
  (cond (decide (x1=((x0).length:Int)))
  (some [(.ag [(.i .i64 1),(.i .i64 x1),(.i .i64 x1),(.s [])]),(.ag [(.i .i64 0),(.i .i64 0),(.sl .is ([]:List Int))])])
  (nk.l2 x0 x1 ([123,125,91,93,58,44]:bz) (0:Int) x2 x3)))))=ρ):nk.l1 x0 x1 x2 x3=ρ:=((bU _ _ _ _ _ _ _).trans (by kernel_rfl)).trans (K _ rfl _ rfl _ rfl)
theorem nk.iw (x0:bz) (x1:Int) (x2:bz) (x3:Int) (x4:Tok) (x5:Rp) {ρ:OT} (K:∀(v1:UInt8) (h1:v1=(List.getD x0 (x1).toNat (0:UInt8))) (v2:UInt8) (h2:v2=(List.getD x2 (x3).toNat (0:UInt8))) (v3:Int) (h3:v3=(IntKind.i64.wrap ((2:Int)+x3))) (v4:Int) (h4:v4=(IntKind.i64.wrap (x1+(1:Int)))) (v5:Int) (h5:v5=(IntKind.i64.wrap (x3+(1:Int)))) (v6:List bz) (h6:v6=([([116,114,117,101]:bz),([102,97,108,115,101]:bz),([110,117,108,108]:bz)]:List bz)),cond (decide (x3<((x2).length:Int)))
  (ck (bB x1 (x0).length) (ck (bB x3 (x2).length) (cond (decide (v1=v2))
  (some [(.ag [(.i .i64 v3),(.i .i64 x1),(.i .i64 v4),(.s [])]),(.ag [(.i .i64 0),(.i .i64 0),(.sl .is ([]:List Int))])])
  (nk.l2 x0 x1 x2 v5 x4 x5))))
  (nk.l3 x0 x1 (0:Int) x4 x5 v6)=ρ):nk.l2 x0 x1 x2 x3 x4 x5=ρ:=((bU _ _ _ _ _ _ _).trans (by kernel_rfl)).trans (K _ rfl _ rfl _ rfl _ rfl _ rfl _ rfl)
theorem nk.sJ (x0:bz) (x1:Int) (x2:Int) (x3:Tok) (x4:Rp) (x5:List bz) {ρ:OT} (K:∀(v1:bz) (h1:v1=(List.getD x5 ((x2).toNat) ([]:bz))) (v2:Int) (h2:v2=(IntKind.i64.wrap (((x0).length:Int) - x1))) (v3:Int) (h3:v3=(IntKind.i64.wrap (x1+((v1).length:Int)))) (v4:bz) (h4:v4=(List.drop (x1).toNat (List.take (v3).toNat x0))) (v5:Bool) (h5:v5=(cond (decide (((v1).length:Int)≤v2)) (decide (v4=v1)) false)) (v6:Int) (h6:v6=(IntKind.i64.wrap ((10:Int)+x2))) (v7:Int) (h7:v7=(IntKind.i64.wrap (x2+(1:Int)))) (v8:UInt8) (h8:v8=(List.getD x0 (x1).toNat (0:UInt8))) (v9:Bool) (h9:v9=((!decide (v8=(45:UInt8)))&&(!(decide (v8<(48:UInt8)))))) (v10:Bool) (iA:v10=(cond (decide (v8<(48:UInt8))) true (decide ((57:UInt8)<v8)))) (v11:Bool) (ki:v11=(cond (!decide (v8=(45:UInt8))) v10 false)),cond (decide (x2<((x5).length:Int)))
  (ck (bB x2 (x5).length) (ck (decide ((x2).toNat<(x5).length)) (ck (!(decide (((v1).length:Int)≤v2)) || ((decide (((v1).length:Int)≤v2))&&(decide (((v1).length:Int)≤v2)))) (ck (!(decide (((v1).length:Int)≤v2)) || (((decide (((v1).length:Int)≤v2))&&((decide (((v1).length:Int)≤v2))&&(decide (((v1).length:Int)≤v2))))&&(gA x1 v3 (x0).length))) (ck (!(decide (((v1).length:Int)≤v2)) || (((decide (((v1).length:Int)≤v2))&&(decide (((v1).length:Int)≤v2)))&&(bB x2 (x5).length))) (ck (!(decide (((v1).length:Int)≤v2)) || ((decide (((v1).length:Int)≤v2))&&(decide ((x2).toNat<(x5).length)))) (ck (!(decide (((v1).length:Int)≤v2)) || ((decide (((v1).length:Int)≤v2))&&(decide (((v1).length:Int)≤v2)))) (ck (!(decide (((v1).length:Int)≤v2)) || (decide (((v1).length:Int)≤v2))) (cond v5
  (some [(.ag [(.i .i64 v6),(.i .i64 x1),(.i .i64 v3),(.s [])]),(.ag [(.i .i64 0),(.i .i64 0),(.sl .is ([]:List Int))])])
  (nk.l3 x0 x1 v7 x3 x4 x5))))))))))
  (ck (bB x1 (x0).length) (cond (decide (v8=(34:UInt8)))
  (ck (decide ((x0).length≤1000000000000∧0≤x1∧x1<(x0).length)) (some [(.ag (Tok.cells ((Jp.W5 x0 x1).1))),(.ag [(.i .i64 (Jp.W5 x0 x1).2.1),(.i .i64 (Jp.W5 x0 x1).2.2),(.sl .is ([]:List Int))])]))
  (ck (bB x1 (x0).length) (ck (!(!decide (v8=(45:UInt8))) || (((!decide (v8=(45:UInt8)))&&(!decide (v8=(45:UInt8))))&&(bB x1 (x0).length))) (ck (!(!decide (v8=(45:UInt8))) || (!decide (v8=(45:UInt8)))) (ck (!(!decide (v8=(45:UInt8))) || (!decide (v8=(45:UInt8)))) (ck (!v9 || ((v9&&v9)&&(bB x1 (x0).length))) (ck (!v9 || v9) (ck (!(!decide (v8=(45:UInt8))) || ((!decide (v8=(45:UInt8)))&&((decide (v8<(48:UInt8))) || v9))) (ck (!(!decide (v8=(45:UInt8))) || (!decide (v8=(45:UInt8)))) (cond v11
  (some [(.ag [(.i .i64 0),(.i .i64 0),(.i .i64 0),(.s [])]),(.ag [(.i .i64 3),(.i .i64 x1),(.sl .is ([]:List Int))])])
  (nk.l4 x0 x1 x1 x3 x4))))))))))))=ρ):nk.l3 x0 x1 x2 x3 x4 x5=ρ:=((bU _ _ _ _ _ _ _).trans (by kernel_rfl)).trans (K _ rfl _ rfl _ rfl _ rfl _ rfl _ rfl _ rfl _ rfl _ rfl _ rfl _ rfl)
theorem nk.xv (x0:bz) (x1:Int) (x2:Int) (x3:Tok) (x4:Rp) {ρ:OT} (K:∀(v1:UInt8) (h1:v1=(List.getD x0 (x2).toNat (0:UInt8))) (v2:Bool) (h2:v2=(cond (decide (x2<((x0).length:Int))) (Jp.VX v1) false)) (v3:Int) (h3:v3=(IntKind.i64.wrap (x2+(1:Int)))) (v4:bz) (h4:v4=(List.drop (x1).toNat (List.take (x2).toNat x0))),ck (!(decide (x2<((x0).length:Int))) || (((decide (x2<((x0).length:Int)))&&(decide (x2<((x0).length:Int))))&&(bB x2 (x0).length))) (ck (!(decide (x2<((x0).length:Int))) || (decide (x2<((x0).length:Int)))) (ck (!(decide (x2<((x0).length:Int))) || (decide (x2<((x0).length:Int)))) (cond v2
  (nk.l4 x0 x1 v3 x3 x4)
  (ck (gA x1 x2 (x0).length) (ck (decide ((v4).length≤1099511627776)) (cond (decide ((Nr.iX v4)=(0:Int)))
  (some [(.ag [(.i .i64 0),(.i .i64 0),(.i .i64 0),(.s [])]),(.ag [(.i .i64 3),(.i .i64 x1),(.sl .is ([]:List Int))])])
  (cond (decide ((300:Int)<(IntKind.i64.wrap (x2 - x1))))
  (some [(.ag [(.i .i64 0),(.i .i64 0),(.i .i64 0),(.s [])]),(.ag [(.i .i64 10),(.i .i64 x1),(.sl .is ([]:List Int))])])
  (ck (gA x1 x2 (x0).length) (some [(.ag [(.i .i64 9),(.i .i64 x1),(.i .i64 x2),(.s v4)]),(.ag [(.i .i64 0),(.i .i64 0),(.sl .is ([]:List Int))])])))))))))=ρ):nk.l4 x0 x1 x2 x3 x4=ρ:=((bU _ _ _ _ _ _ _).trans (by kernel_rfl)).trans (K _ rfl _ rfl _ rfl _ rfl)
theorem nk.bZ (s:bz) (a:Int) {ρ:OT} (K:∀(v1:Bool) (h1:v1=(cond (decide (a<(0:Int))) true (decide (((s).length:Int)<a)))),ck (!(!(decide (a<(0:Int)))) || (!(decide (a<(0:Int))))) (ck (!(!(decide (a<(0:Int)))) || ((!(decide (a<(0:Int))))&&(!(decide (a<(0:Int)))))) (ck ((decide (a<(0:Int))) || (!(decide (a<(0:Int))))) (cond v1
  (some [(.ag [(.i .i64 0),(.i .i64 0),(.i .i64 0),(.s [])]),(.ag [(.i .i64 1),(.i .i64 0),(.sl .is ([]:List Int))])])
  (nk.l1 s a (Tok.mk (0:Int) (0:Int) (0:Int) ([]:bz)) (Rp.mk 0 0 [])))))=ρ):nk.F s a=ρ:=Eq.trans (by kernel_rfl) (K _ rfl)
def VI.E:cC:=cT fQ zs [(42,(nk.c,nk.sg))]
def VI.h:Hint := .o
def VI.F (p:Rj):OT:=cR PG VI.E 29 VI.sg VI.h [(.ag (Rj.cells p))]
theorem VI.bZ (p:Rj) {ρ:OT} (K:∀(v1:Tok) (h1:v1=((Jp.next ((Rj.s p)) ((Rj.end_ p))).1)) (v2:Int) (h2:v2=((Jp.next ((Rj.s p)) ((Rj.end_ p))).2.1)) (v3:Int) (h3:v3=((Jp.next ((Rj.s p)) ((Rj.end_ p))).2.2)),ck (decide ((((Rj.s p))).length≤1000000000000)) (cond (decide ((Rj.err p)=(0:Int)))
  (some [(.ag [(.s (Rj.s p)),(.i .i64 (Rj.depth p)),(.i .i64 (Tok.kind v1)),(.i .i64 (Tok.at_ v1)),(.i .i64 (Tok.end_ v1)),(.s (Tok.text v1)),(.i .i64 v2),(.i .i64 v3),(.sl .is ([]:List Int))])])
  (some [(.ag (Rj.cells p))]))=ρ):VI.F p=ρ:=Eq.trans (by kernel_rfl) (K _ rfl _ rfl _ rfl)
def VG.E:cC:=cT fQ zs []
def VG.h:Hint := .s .o (.s (.j [(0,.ptr 1000000 0),(1,.no),(1000000,.cl [])] .o .o) .o)
def VG.F (p:Rj) (e:Int):OT:=cR PG VG.E 31 VG.sg VG.h [(.ag (Rj.cells p)),(.i .i64 e)]
def VG.j1 (x0:Int) (x1:Rj):OT:=eD PG VG.E 31 VG.sg VG.h 5 [.pt,(.i .i64 x0),(.ag (Rj.cells x1))]
theorem VG.lp (x0:Int) (x1:Rj):VG.j1 x0 x1=some [(.ag [(.s (Rj.s x1)),(.i .i64 (Rj.depth x1)),(.i .i64 (Rj.kind x1)),(.i .i64 (Rj.at_ x1)),(.i .i64 (Rj.end_ x1)),(.s (Rj.text x1)),(.i .i64 x0),(.i .i64 (Rj.at_ x1)),(.sl .is ([]:List Int))])]:=((b9 _ _ _ _ _ _ _).trans (by kernel_rfl))
theorem VG.eJ (p:Rj) (e:Int):VG.F p e=cond (decide ((Rj.err p)=(0:Int)))
  (cond (decide ((Rj.kind p)=(1:Int)))
  (VG.j1 (2:Int) p)
  (VG.j1 e p))
  (some [(.ag (Rj.cells p))]):=by kernel_rfl
def Vq.E (n:Nat):cC:=cT fQ zs [(29,(VI.c,VI.sg)),(31,(VG.c,VG.sg)),(43,(Vm.cn n,Vm.sg))]
def Vq.h:Hint := .s .o (.s .o (.s (.s .o (.b (.s .o (.s .o (.s .o (.s .o (.s .o (.s .o (.s .o (.s .o (.s .o (.s .o (.j [(0,.ptr 1000000 0),(1,.no),(4,.ptr 65 0),(5,.ptr 66 0),(41,.no),(65,.cl []),(66,.cl []),(1000000,.cl [])] .o .o))))))))))))) .o))
def Vq.F (n:Nat) (p:Rj) (w:Int):OT:=cR PG (Vq.E n) 30 Vq.sg Vq.h [(.ag (Rj.cells p)),(.i .i64 w)]
def Vq.j1 (n:Nat) (x0:Int) (x1:Bool) (x2:bM) (x3:Tok) (x4:Rj):OT:=eD PG (Vq.E n) 30 Vq.sg Vq.h 65515 [.pt,(.i .i64 x0),.pt,.pt,(.b x1),(.ag (bM.cells x2)),(.ag (Tok.cells x3)),(.ag (Rj.cells x4))]
theorem Vq.iI (n:Nat) (x0:Int) (x1:Bool) (x2:bM) (x3:Tok) (x4:Rj) {ρ:OT} (K:∀(v1:Rj) (h1:v1=((Rj.put x4 (Jp.V5 ((8:Int)) (Rj.st x4))))) (v2:Rj) (h2:v2=((Rj.put x4 (Jp.rr (x4).s (x4).depth ((Tok.kind x3)) (Rj.st x4) x0).2))) (v3:bM) (h3:v3=((Jp.rr (x4).s (x4).depth ((Tok.kind x3)) (Rj.st x4) x0).1)) (v4:Rj) (h4:v4=((Rj.put x4 (Jp.V5 ((3:Int)) (Rj.st x4))))),cond x1
  (cond (decide ((Rj.depth x4)≤x0))
  (ck (decide ((x4).path=[])) (some [(.ag [(.i .i64 0),(.s []),(.sl .ml ([]:List Mem))]),(.ag (Rj.cells v1))]))
  (ck ((decide ((x4).s.length≤1000000000000∧(x4).path=[]∧(x4).err=0∧(x4).Pw=0∧(x4).depth≤1000∧0≤x0∧x0<1000∧(((Tok.kind x3))=2∨((Tok.kind x3))=4)∧(x4).kind=((Tok.kind x3)))&&Jp.Wf (x4).s (Rj.st x4).1)&&decide ((2 * ((x4).s.length - ((x4).at_).toNat)+1)<n)) (some [(.ag (bM.cells v3)),(.ag (Rj.cells v2))])))
  (ck (decide ((x4).path=[])) (some [(.ag [(.i .i64 0),(.s []),(.sl .ml ([]:List Mem))]),(.ag (Rj.cells v4))]))=ρ):Vq.j1 n x0 x1 x2 x3 x4=ρ:=((b9 _ _ _ _ _ _ _).trans (by kernel_rfl)).trans (K _ rfl _ rfl _ rfl _ rfl)
theorem Vq.bZ (n:Nat) (p:Rj) (w:Int) {ρ:OT} (K:∀(v1:Rj) (h1:v1=((Rj.put p (Jp.step (p).s (Rj.st p))))),cond (decide ((Rj.kind p)=(8:Int)))
  (ck (decide ((p).s.length≤1000000000000∧(p).path=[])) (some [(.ag [(.i .i64 5),(.s (Rj.text p)),(.sl .ml ([]:List Mem))]),(.ag (Rj.cells v1))]))
  (cond (decide ((Rj.kind p)=(9:Int)))
  (ck (decide ((p).s.length≤1000000000000∧(p).path=[])) (some [(.ag [(.i .i64 4),(.s (Rj.text p)),(.sl .ml ([]:List Mem))]),(.ag (Rj.cells v1))]))
  (cond (decide ((Rj.kind p)=(10:Int)))
  (ck (decide ((p).s.length≤1000000000000∧(p).path=[])) (some [(.ag [(.i .i64 3),(.s []),(.sl .ml ([]:List Mem))]),(.ag (Rj.cells v1))]))
  (cond (decide ((Rj.kind p)=(11:Int)))
  (ck (decide ((p).s.length≤1000000000000∧(p).path=[])) (some [(.ag [(.i .i64 2),(.s []),(.sl .ml ([]:List Mem))]),(.ag (Rj.cells v1))]))
  (cond (decide ((Rj.kind p)=(12:Int)))
  (ck (decide ((p).s.length≤1000000000000∧(p).path=[])) (some [(.ag [(.i .i64 1),(.s []),(.sl .ml ([]:List Mem))]),(.ag (Rj.cells v1))]))
  (cond (decide ((Rj.kind p)=(2:Int)))
  (Vq.j1 n w (decide ((Rj.kind p)=(2:Int))) (bM.mk (0:Int) ([]:bz) ([]:List Mem)) (Tok.mk (Rj.kind p) (Rj.at_ p) (Rj.end_ p) (Rj.text p)) p)
  (Vq.j1 n w (decide ((Rj.kind p)=(4:Int))) (bM.mk (0:Int) ([]:bz) ([]:List Mem)) (Tok.mk (Rj.kind p) (Rj.at_ p) (Rj.end_ p) (Rj.text p)) p))))))=ρ):Vq.F n p w=ρ:=Eq.trans (by kernel_rfl) (K _ rfl)
def Vm.E (n:Nat):cC:=cT fQ zs [(29,(VI.c,VI.sg)),(30,(Vq.cn n,Vq.sg)),(31,(VG.c,VG.sg))]
def Vm.h:Hint := .s .o (.s .o (.j [(0,.ptr 1000000 0),(1,.no),(2,.no),(6,.ptr 122 0),(7,.ptr 123 0),(122,.cl [(2,800000)]),(123,.cl [(2,800001)]),(1000000,.cl []),(800000,.pv),(800001,.pv)] .o (.s .o (.s .o (.j [(6,.ptr 122 0),(7,.ptr 123 0),(122,.cl [(2,800000)]),(123,.cl [(2,800001)]),(1000000,.cl []),(800000,.pv),(800001,.pv)] (.b (.l [(0,.ptr 1000000 0),(1,.no),(2,.no),(6,.ptr 122 0),(7,.ptr 123 0),(122,.cl [(2,800000)]),(123,.cl [(2,800001)]),(1000000,.cl []),(800000,.pv),(800001,.pv)] (.s .o (.b (.s .o (.j [(0,.ptr 1000000 0),(1,.no),(2,.no),(6,.ptr 122 0),(7,.ptr 123 0),(8,.ptr 124 0),(122,.cl [(2,800000)]),(123,.cl [(2,800001)]),(124,.cl []),(1000000,.cl []),(800000,.pv),(800001,.pv)] .o .o)))))) .o)))))
def Vm.F (n:Nat) (p:Rj) (k:Int) (w:Int):OT:=cR PG (Vm.E n) 43 Vm.sg Vm.h [(.ag (Rj.cells p)),(.i .i64 k),(.i .i64 w)]
def Vm.j1 (n:Nat) (x0:Int) (x1:Int) (x2:Int) (x3:bz) (x4:Int) (x5:bz) (x6:Rj) (x7:List Mem) (x8:List Mem):OT:=eD PG (Vm.E n) 43 Vm.sg Vm.h 7 [.pt,(.i .i64 x0),(.i .i64 x1),.pt,.pt,(.ag [(.i .i64 x2),(.s x3),.pt]),(.ag [(.i .i64 x4),(.s x5),.pt]),(.ag (Rj.cells x6)),(.sl .ml x7),(.sl .ml x8)]
def Vm.l2 (n:Nat) (x0:Int) (x1:Int) (x2:Int) (x3:bz) (x4:Int) (x5:bz) (x6:Rj) (x7:List Mem) (x8:List Mem):OT:=dQ PG (Vm.E n) 43 Vm.sg Vm.h 159 [.pt,(.i .i64 x0),(.i .i64 x1),.pt,.pt,(.ag [(.i .i64 x2),(.s x3),.pt]),(.ag [(.i .i64 x4),(.s x5),.pt]),(.ag (Rj.cells x6)),(.sl .ml x7),(.sl .ml x8)]
def Vm.j3 (n:Nat) (x0:Int) (x1:bz) (x2:Int) (x3:bz) (x4:Rj) (x5:List Mem) (x6:List Mem):OT:=eD PG (Vm.E n) 43 Vm.sg Vm.h 63 [.pt,.pt,(.ag [(.i .i64 x0),(.s x1),.pt]),(.ag [(.i .i64 x2),(.s x3),.pt]),(.ag (Rj.cells x4)),(.sl .ml x5),(.sl .ml x6)]
def Vm.j4 (n:Nat) (x0:Int) (x1:Int) (x2:Int) (x3:bz) (x4:Int) (x5:bz) (x6:Mem) (x7:Rj) (x8:List Mem) (x9:List Mem):OT:=eD PG (Vm.E n) 43 Vm.sg Vm.h 3359 [.pt,(.i .i64 x0),(.i .i64 x1),.pt,.pt,.pt,(.ag [(.i .i64 x2),(.s x3),.pt]),(.ag [(.i .i64 x4),(.s x5),.pt]),(.ag (Mem.cells x6)),(.ag (Rj.cells x7)),(.sl .ml x8),(.sl .ml x9)]
theorem Vm.iI (n:Nat) (x0:Int) (x1:Int) (x2:Int) (x3:bz) (x4:Int) (x5:bz) (x6:Rj) (x7:List Mem) (x8:List Mem) {ρ:OT} (K:∀(v1:Rj) (h1:v1=((Rj.put x6 (Jp.step (x6).s (Rj.st x6))))) (v2:Int) (h2:v2=(IntKind.i64.wrap (x0+(1:Int)))) (v3:Bool) (h3:v3=(cond (decide ((Rj.err v1)=(0:Int))) (decide ((Rj.kind v1)=v2)) false)) (v4:Rj) (h4:v4=((Rj.put v1 (Jp.step (v1).s (Rj.st v1))))),ck (decide ((x6).s.length≤1000000000000∧(x6).path=[])) (ck (!(decide ((Rj.err v1)=(0:Int))) || (decide ((Rj.err v1)=(0:Int)))) (ck (!(decide ((Rj.err v1)=(0:Int))) || (decide ((Rj.err v1)=(0:Int)))) (ck (!(decide ((Rj.err v1)=(0:Int))) || (decide ((Rj.err v1)=(0:Int)))) (ck (!(decide ((Rj.err v1)=(0:Int))) || (decide ((Rj.err v1)=(0:Int)))) (ck (!(decide ((Rj.err v1)=(0:Int))) || (decide ((Rj.err v1)=(0:Int)))) (ck (!(decide ((Rj.err v1)=(0:Int))) || ((decide ((Rj.err v1)=(0:Int)))&&(decide ((Rj.err v1)=(0:Int))))) (ck (!(decide ((Rj.err v1)=(0:Int))) || (decide ((Rj.err v1)=(0:Int)))) (cond v3
  (ck (decide ((v1).s.length≤1000000000000∧(v1).path=[])) (some [(.ag [(.i .i64 x4),(.s x5),(.sl .ml x8)]),(.ag (Rj.cells v4))]))
  (Vm.l2 n x0 x1 x2 x3 x4 x5 v1 x7 x8)))))))))=ρ):Vm.j1 n x0 x1 x2 x3 x4 x5 x6 x7 x8=ρ:=((b9 _ _ _ _ _ _ _).trans (by kernel_rfl)).trans (K _ rfl _ rfl _ rfl _ rfl)
theorem Vm.iw (n:Nat) (x0:Int) (x1:Int) (x2:Int) (x3:bz) (x4:Int) (x5:bz) (x6:Rj) (x7:List Mem) (x8:List Mem) {ρ:OT} (K:∀(v1:Rj) (h1:v1=((Rj.put x6 (Jp.V5 ((3:Int)) (Rj.st x6))))) (v2:Rj) (h2:v2=((Rj.put x6 (Jp.step (x6).s (Rj.st x6))))) (v3:Rj) (h3:v3=((Rj.put v2 (Jp.V5 ((3:Int)) (Rj.st v2))))) (v4:Rj) (h4:v4=((Rj.put v2 (Jp.step (v2).s (Rj.st v2))))),cond (decide ((Rj.err x6)=(0:Int)))
  (cond (decide (x0=(2:Int)))
  (cond (!decide ((Rj.kind x6)=(8:Int)))
  (ck (decide ((x6).path=[])) (Vm.j3 n x2 x3 x4 x5 v1 x7 x8))
  (ck (decide ((x6).s.length≤1000000000000∧(x6).path=[])) (cond (!decide ((Rj.kind v2)=(6:Int)))
  (ck (decide ((v2).path=[])) (Vm.j3 n x2 x3 x4 x5 v3 x7 x8))
  (ck (decide ((v2).s.length≤1000000000000∧(v2).path=[])) (cond (!decide ((Rj.err v4)=(0:Int)))
  (Vm.j3 n x2 x3 x4 x5 v4 x7 x8)
  (Vm.j4 n x0 x1 x2 x3 x4 x5 (Mem.mk (Rj.text x6) (0:Int) ([]:bz) ([]:List Mem)) v4 x7 x8))))))
  (Vm.j4 n x0 x1 x2 x3 x4 x5 (Mem.mk ([]:bz) (0:Int) ([]:bz) ([]:List Mem)) x6 x7 x8))
  (Vm.j3 n x2 x3 x4 x5 x6 x7 x8)=ρ):Vm.l2 n x0 x1 x2 x3 x4 x5 x6 x7 x8=ρ:=((bU _ _ _ _ _ _ _).trans (by kernel_rfl)).trans (K _ rfl _ rfl _ rfl _ rfl)
theorem Vm.LC (n:Nat) (x0:Int) (x1:bz) (x2:Int) (x3:bz) (x4:Rj) (x5:List Mem) (x6:List Mem):Vm.j3 n x0 x1 x2 x3 x4 x5 x6=some [(.ag [(.i .i64 x2),(.s x3),(.sl .ml x6)]),(.ag (Rj.cells x4))]:=((b9 _ _ _ _ _ _ _).trans (by kernel_rfl))
theorem Vm.DO (n:Nat) (x0:Int) (x1:Int) (x2:Int) (x3:bz) (x4:Int) (x5:bz) (x6:Mem) (x7:Rj) (x8:List Mem) (x9:List Mem) {ρ:OT} (K:∀(v1:Int) (h1:v1=(IntKind.i64.wrap (x1+(1:Int)))) (v2:Rj) (h2:v2=((Rj.put x7 (Jp.rv (x7).s (x7).depth (Rj.st x7) v1).2))) (v3:bM) (h3:v3=((Jp.rv (x7).s (x7).depth (Rj.st x7) v1).1)) (v4:List Mem) (h4:v4=([(Mem.mk (Mem.name x6) (bM.kind v3) (bM.text v3) (bM.kids v3))]:List Mem)) (v5:Int) (h5:v5=(IntKind.i64.wrap (x0+(1:Int)))) (v6:Bool) (h6:v6=(cond (decide ((Rj.err v2)=(0:Int))) (decide ((Rj.kind v2)=v5)) false)) (v7:Rj) (h7:v7=((Rj.put v2 (Jp.step (v2).s (Rj.st v2))))) (v8:Rj) (h8:v8=((Rj.put v2 (Jp.V5 ((3:Int)) (Rj.st v2))))),ck ((decide ((x7).s.length≤1000000000000∧(x7).path=[]∧(x7).err=0∧(x7).Pw=0∧(x7).depth≤1000∧0≤v1∧v1≤1000)&&Jp.Wf (x7).s (Rj.st x7).1)&&decide ((2 * ((x7).s.length - ((x7).at_).toNat)+2)<n)) (ck (fC ((x9).length+(v4).length) 64) (ck (!(decide ((Rj.err v2)=(0:Int))) || (decide ((Rj.err v2)=(0:Int)))) (ck (!(decide ((Rj.err v2)=(0:Int))) || (decide ((Rj.err v2)=(0:Int)))) (ck (!(decide ((Rj.err v2)=(0:Int))) || (decide ((Rj.err v2)=(0:Int)))) (ck (!(decide ((Rj.err v2)=(0:Int))) || (decide ((Rj.err v2)=(0:Int)))) (ck (!(decide ((Rj.err v2)=(0:Int))) || (decide ((Rj.err v2)=(0:Int)))) (ck (!(decide ((Rj.err v2)=(0:Int))) || ((decide ((Rj.err v2)=(0:Int)))&&(decide ((Rj.err v2)=(0:Int))))) (ck (!(decide ((Rj.err v2)=(0:Int))) || (decide ((Rj.err v2)=(0:Int)))) (cond v6
  (ck (decide ((v2).s.length≤1000000000000∧(v2).path=[])) (some [(.ag [(.i .i64 x4),(.s x5),(.sl .ml (x9++v4))]),(.ag (Rj.cells v7))]))
  (cond (!decide ((Rj.kind v2)=(7:Int)))
  (ck (decide ((v2).path=[])) (Vm.j3 n x2 x3 x4 x5 v8 x8 (x9++v4)))
  (ck (decide ((v2).s.length≤1000000000000∧(v2).path=[])) (Vm.l2 n x0 x1 x2 x3 x4 x5 v7 x8 (x9++v4)))))))))))))=ρ):Vm.j4 n x0 x1 x2 x3 x4 x5 x6 x7 x8 x9=ρ:=((b9 _ _ _ _ _ _ _).trans (by kernel_rfl)).trans (K _ rfl _ rfl _ rfl _ rfl _ rfl _ rfl _ rfl _ rfl)
theorem Vm.eJ (n:Nat) (p:Rj) (k:Int) (w:Int):Vm.F n p k w=cond (decide (k=(4:Int)))
  (Vm.j1 n k w (0:Int) ([]:bz) (6:Int) ([]:bz) p ([]:List Mem) ([]:List Mem))
  (Vm.j1 n k w (0:Int) ([]:bz) (7:Int) ([]:bz) p ([]:List Mem) ([]:List Mem)):=by kernel_rfl
def Vw.E:cC:=cT fQ zs [(29,(VI.c,VI.sg)),(30,(Vq.c,Vq.sg)),(31,(VG.c,VG.sg))]
def Vw.h:Hint := .s .o (.s .o (.s .o (.s .o (.s .o (.s .o (.j [(4,.ptr 68 0),(5,.ptr 69 0),(6,.ptr 83 0),(7,.ptr 71 0),(68,.cl []),(69,.cl []),(71,.cl []),(83,.cl [])] .o .o))))))
def Vw.F (s:bz) (d:Int):OT:=cR PG Vw.E 17 Vw.sg Vw.h [(.s s),(.i .i64 d)]
def Vw.j1 (x0:bM) (x1:Rp) (x2:bM) (x3:Rj):OT:=eD PG Vw.E 17 Vw.sg Vw.h 127 [.pt,.pt,.pt,.pt,(.ag (bM.cells x0)),(.ag (Rp.cells x1)),(.ag (bM.cells x2)),(.ag (Rj.cells x3))]
theorem Vw.lp (x0:bM) (x1:Rp) (x2:bM) (x3:Rj):Vw.j1 x0 x1 x2 x3=cond (!decide ((Rj.err x3)=(0:Int)))
  (some [(.ag [(.i .i64 0),(.s []),(.sl .ml ([]:List Mem))]),(.ag [(.i .i64 (Rj.err x3)),(.i .i64 (Rj.Pw x3)),(.sl .is (Rj.path x3))])])
  (some [(.ag (bM.cells x2)),(.ag [(.i .i64 0),(.i .i64 0),(.sl .is ([]:List Int))])]):=((b9 _ _ _ _ _ _ _).trans (by kernel_rfl))
theorem Vw.bZ (s:bz) (d:Int) {ρ:OT} (K:∀(v1:Bool) (h1:v1=(cond (decide (d<(0:Int))) true (decide ((1000:Int)<d)))) (v2:Rj) (h2:v2=((Rj.put (Rj.mk s d (0:Int) (0:Int) (0:Int) ([]:bz) (0:Int) (0:Int) ([]:List Int)) (Jp.step ((Rj.mk s d (0:Int) (0:Int) (0:Int) ([]:bz) (0:Int) (0:Int) ([]:List Int))).s (Rj.st (Rj.mk s d (0:Int) (0:Int) (0:Int) ([]:bz) (0:Int) (0:Int) ([]:List Int))))))) (v3:Rj) (h3:v3=((Rj.put v2 (Jp.rv (v2).s (v2).depth (Rj.st v2) ((0:Int))).2))) (v4:bM) (h4:v4=((Jp.rv (v2).s (v2).depth (Rj.st v2) ((0:Int))).1)) (v5:Bool) (h5:v5=(cond (decide ((Rj.err v3)=(0:Int))) (!decide ((Rj.kind v3)=(1:Int))) false)) (v6:Rj) (h6:v6=((Rj.put v3 (Jp.V5 ((7:Int)) (Rj.st v3))))),ck (!(!(decide (d<(0:Int)))) || (!(decide (d<(0:Int))))) (ck ((decide (d<(0:Int))) || (!(decide (d<(0:Int))))) (cond v1
  (some [(.ag [(.i .i64 0),(.s []),(.sl .ml ([]:List Mem))]),(.ag [(.i .i64 1),(.i .i64 0),(.sl .is ([]:List Int))])])
  (ck (decide (((Rj.mk s d (0:Int) (0:Int) (0:Int) ([]:bz) (0:Int) (0:Int) ([]:List Int))).s.length≤1000000000000∧((Rj.mk s d (0:Int) (0:Int) (0:Int) ([]:bz) (0:Int) (0:Int) ([]:List Int))).path=[])) (cond (!decide ((Rj.err v2)=(0:Int)))
  (some [(.ag [(.i .i64 0),(.s []),(.sl .ml ([]:List Mem))]),(.ag [(.i .i64 (Rj.err v2)),(.i .i64 (Rj.Pw v2)),(.sl .is (Rj.path v2))])])
  (ck (decide ((v2).s.length≤1000000000000∧(v2).path=[]∧(v2).err=0∧(v2).Pw=0∧(v2).depth≤1000∧0≤((0:Int))∧((0:Int))≤1000)&&Jp.Wf (v2).s (Rj.st v2).1) (ck (!(decide ((Rj.err v3)=(0:Int))) || (decide ((Rj.err v3)=(0:Int)))) (ck (!(decide ((Rj.err v3)=(0:Int))) || (decide ((Rj.err v3)=(0:Int)))) (ck (!(decide ((Rj.err v3)=(0:Int))) || (decide ((Rj.err v3)=(0:Int)))) (ck (!(decide ((Rj.err v3)=(0:Int))) || (decide ((Rj.err v3)=(0:Int)))) (ck (!(decide ((Rj.err v3)=(0:Int))) || (decide ((Rj.err v3)=(0:Int)))) (ck (!(decide ((Rj.err v3)=(0:Int))) || (decide ((Rj.err v3)=(0:Int)))) (cond v5
  (ck (decide ((v3).path=[])) (Vw.j1 (bM.mk (0:Int) ([]:bz) ([]:List Mem)) (Rp.mk 0 0 []) v4 v6))
  (Vw.j1 (bM.mk (0:Int) ([]:bz) ([]:List Mem)) (Rp.mk 0 0 []) v4 v3)))))))))))))=ρ):Vw.F s d=ρ:=Eq.trans (by kernel_rfl) (K _ rfl _ rfl _ rfl _ rfl _ rfl _ rfl)
def s4.E (n:Nat):cC:=cT fQ zs [(18,(s4.cn n,s4.sg)),(32,(eF.c,eF.sg)),(33,(Vv.c,Vv.sg))]
def s4.h:Hint := .s .o (.s .o (.s .o (.s (.s .o (.b (.l [(1,.ptr 121 0),(5,.no),(121,.cl [])] .o))) (.s .o (.s .o (.s (.s .o (.b (.l [(1,.ptr 121 0),(6,.no),(121,.cl [])] .o))) .o))))))
def s4.F (n:Nat) (j:bM):OT:=cR PG (s4.E n) 18 s4.sg s4.h [(.ag (bM.cells j))]
def s4.l1 (n:Nat) (x0:Int) (x1:bM):OT:=dQ PG (s4.E n) 18 s4.sg s4.h 87 [.pt,(.i .i64 x0),(.ag (bM.cells x1))]
def s4.l2 (n:Nat) (x0:Int) (x1:bM):OT:=dQ PG (s4.E n) 18 s4.sg s4.h 703 [.pt,(.i .i64 x0),(.ag (bM.cells x1))]
theorem s4.bV (n:Nat) (x0:Int) (x1:bM) {ρ:OT} (K:∀(v1:Int) (h1:v1=(((bM.kids x1)).length:Int)) (v2:Bool) (h2:v2=(cond (decide (x0<v1)) (decide ((bM.kind x1)=(6:Int))) false)) (v3:Mem) (h3:v3=(List.getD (bM.kids x1) (x0).toNat (fe.gk .ml))) (v4:Int) (h4:v4=(IntKind.i64.wrap (x0+(1:Int)))) (v5:Bool) (h5:v5=((decide ((bM.kind x1)=(4:Int)))&&(!(decide ((Nr.iX ((bM.text x1)))=(0:Int)))))) (v6:Int) (h6:v6=(((bM.text x1)).length:Int)) (v7:Bool) (h7:v7=(cond (decide ((Nr.iX ((bM.text x1)))=(0:Int))) true (decide ((300:Int)<v6)))) (v8:Bool) (h8:v8=(cond (decide ((bM.kind x1)=(4:Int))) v7 false)) (v9:Bool) (h9:v9=(!(fy.whole ((bM.text x1))))) (v10:Bool) (iA:v10=(cond (decide ((bM.kind x1)=(5:Int))) v9 false)),ck (!(decide (x0<v1)) || (decide (x0<v1))) (ck (!(decide (x0<v1)) || (decide (x0<v1))) (ck (!(decide (x0<v1)) || (decide (x0<v1))) (cond v2
  (ck (bB x0 ((bM.kids x1)).length) (cond (!decide ((Mem.name v3)=([]:bz)))
  (some [(.i .i64 1)])
  (s4.l1 n v4 x1)))
  (ck (!(decide ((bM.kind x1)=(4:Int))) || (decide ((bM.kind x1)=(4:Int)))) (ck (!(decide ((bM.kind x1)=(4:Int))) || ((decide ((bM.kind x1)=(4:Int)))&&(decide ((((bM.text x1))).length≤1099511627776)))) (ck (!(decide ((bM.kind x1)=(4:Int))) || (decide ((bM.kind x1)=(4:Int)))) (ck (!(decide ((bM.kind x1)=(4:Int))) || (decide ((bM.kind x1)=(4:Int)))) (ck (!v5 || v5) (ck (!v5 || v5) (ck (!v5 || v5) (ck (!(decide ((bM.kind x1)=(4:Int))) || ((decide ((bM.kind x1)=(4:Int)))&&((decide ((Nr.iX ((bM.text x1)))=(0:Int))) || v5))) (ck (!(decide ((bM.kind x1)=(4:Int))) || (decide ((bM.kind x1)=(4:Int)))) (cond v8
  (some [(.i .i64 10)])
  (ck (!(decide ((bM.kind x1)=(5:Int))) || (decide ((bM.kind x1)=(5:Int)))) (ck (!(decide ((bM.kind x1)=(5:Int))) || ((decide ((bM.kind x1)=(5:Int)))&&(decide (((bM.text x1)).length≤1099511627776)))) (ck (!(decide ((bM.kind x1)=(5:Int))) || (decide ((bM.kind x1)=(5:Int)))) (ck (!(decide ((bM.kind x1)=(5:Int))) || (decide ((bM.kind x1)=(5:Int)))) (cond v10
  (some [(.i .i64 4)])
  (s4.l2 n (0:Int) x1)))))))))))))))))))=ρ):s4.l1 n x0 x1=ρ:=((bU _ _ _ _ _ _ _).trans (by kernel_rfl)).trans (K _ rfl _ rfl _ rfl _ rfl _ rfl _ rfl _ rfl _ rfl _ rfl _ rfl)
theorem s4.iw (n:Nat) (x0:Int) (x1:bM) {ρ:OT} (K:∀(v1:Int) (h1:v1=(((bM.kids x1)).length:Int)) (v2:Mem) (h2:v2=(List.getD (bM.kids x1) (x0).toNat (fe.gk .ml))) (v3:Bool) (h3:v3=(!(fy.whole ((Mem.name v2))))) (v4:Int) (h4:v4=(IntKind.i64.wrap (x0+(1:Int)))),cond (decide (x0<v1))
  (ck (bB x0 ((bM.kids x1)).length) (ck (decide (((Mem.name v2)).length≤1099511627776)) (cond v3
  (some [(.i .i64 4)])
  (ck (bB x0 ((bM.kids x1)).length) (ck ((decide (bM.bO (Mem.val v2)≤1099511627776))&&decide ((bM.bO (Mem.val v2))<n)) (cond (!decide ((Cn.mE (Mem.val v2))=(0:Int)))
  (some [(.i .i64 (Cn.mE (Mem.val v2)))])
  (s4.l2 n v4 x1)))))))
  (some [(.i .i64 0)])=ρ):s4.l2 n x0 x1=ρ:=((bU _ _ _ _ _ _ _).trans (by kernel_rfl)).trans (K _ rfl _ rfl _ rfl _ rfl)
theorem s4.bZ (n:Nat) (j:bM) {ρ:OT} (K:∀(v1:Bool) (h1:v1=(cond (decide ((bM.kind j)=(4:Int))) true (decide ((bM.kind j)=(5:Int))))) (v2:Bool) (h2:v2=(cond (decide ((bM.kind j)=(6:Int))) true (decide ((bM.kind j)=(7:Int))))) (v3:Bool) (h3:v3=(cond (decide ((bM.kind j)<(1:Int))) true (decide ((7:Int)<(bM.kind j))))) (v4:Int) (h4:v4=(((bM.kids j)).length:Int)) (v5:Bool) (h5:v5=(cond (!v2) (decide ((0:Int)<v4)) false)) (v6:Bool) (h6:v6=((!(cond v3 true v5))&&(!v1))) (v7:Bool) (h7:v7=(cond (!v1) (!decide ((bM.text j)=([]:bz))) false)) (v8:Bool) (h8:v8=(cond (cond v3 true v5) true v7)),ck (!(!(decide ((bM.kind j)=(4:Int)))) || (!(decide ((bM.kind j)=(4:Int))))) (ck (!(!(decide ((bM.kind j)=(4:Int)))) || (!(decide ((bM.kind j)=(4:Int))))) (ck ((decide ((bM.kind j)=(4:Int))) || (!(decide ((bM.kind j)=(4:Int))))) (ck (!(!(decide ((bM.kind j)=(6:Int)))) || (!(decide ((bM.kind j)=(6:Int))))) (ck (!(!(decide ((bM.kind j)=(6:Int)))) || (!(decide ((bM.kind j)=(6:Int))))) (ck ((decide ((bM.kind j)=(6:Int))) || (!(decide ((bM.kind j)=(6:Int))))) (ck (!(!(decide ((bM.kind j)<(1:Int)))) || (!(decide ((bM.kind j)<(1:Int))))) (ck (!(!(decide ((bM.kind j)<(1:Int)))) || (!(decide ((bM.kind j)<(1:Int))))) (ck ((decide ((bM.kind j)<(1:Int))) || (!(decide ((bM.kind j)<(1:Int))))) (ck (!(!v3) || (!v3)) (ck (!(!v3) || (!v3)) (ck (!((!v3)&&(!v2)) || ((!v3)&&(!v2))) (ck (!((!v3)&&(!v2)) || ((!v3)&&(!v2))) (ck (!((!v3)&&(!v2)) || ((!v3)&&(!v2))) (ck (!(!v3) || ((!v3)&&(!(!v2) || ((!v3)&&(!v2))))) (ck (v3 || (!v3)) (ck (!(!(cond v3 true v5)) || (!(cond v3 true v5))) (ck (!(!(cond v3 true v5)) || (!(cond v3 true v5))) (ck (!v6 || v6) (ck (!v6 || v6) (ck (!(!(cond v3 true v5)) || ((!(cond v3 true v5))&&(!(!v1) || v6))) (ck ((cond v3 true v5) || (!(cond v3 true v5))) (cond v8
  (some [(.i .i64 1)])
  (s4.l1 n (0:Int) j)))))))))))))))))))))))=ρ):s4.F n j=ρ:=Eq.trans (by kernel_rfl) (K _ rfl _ rfl _ rfl _ rfl _ rfl _ rfl _ rfl _ rfl)
end
end Go.Eng
set_option maxRecDepth 100000
namespace Go.Eng
open Go.Proofs
noncomputable section
def dw.sg:bW:={}
def dw.c:eS:=fun l=>match l with
 | [] => .ok [(.b (true))]
 | _ => .err
def dw.E:cC:=cT fQ zs [(11,(gn.c,gn.sg))]
def dw.h:Hint := .o
def dw.F  : OT:=cR PG dw.E 7 dw.sg dw.h []
theorem dw.bZ  {ρ:OT} (K:∀(v1:List bJ) (h1:v1=([(bJ.mk ([97]:bz) 16 1 0 0 [] [] 0 [] [])]:List bJ)) (v2:bz) (h2:v2=(Cn.tV (Val.mk 3 0 0 0 [] [] 0 [] v1))) (v3:Int) (h3:v3=((Cn.oG (Val.mk 3 0 0 0 [] [] 0 [] v1)).2)) (v4:List Int) (h4:v4=((Cn.oG (Val.mk 3 0 0 0 [] [] 0 [] v1)).1)) (v5:Bool) (h5:v5=(decide (v2=([123,34,97,34,58,123,34,36,110,117,109,98,101,114,73,110,116,34,58,34,49,34,125,125]:bz)))) (v6:Bool) (h6:v6=(cond (decide (v3=(0:Int))) v5 false)),ck (decide (bJ.bO (bJ.of [] (Val.mk 3 0 0 0 [] [] 0 [] v1))≤100000)) (ck (!(decide (v3=(0:Int))) || (decide (v3=(0:Int)))) (ck (!(decide (v3=(0:Int))) || (decide (v3=(0:Int)))) (some [(.b v6)])))=ρ):dw.F  = ρ:=Eq.trans (by kernel_rfl) (K _ rfl _ rfl _ rfl _ rfl _ rfl _ rfl)
end
end Go.Eng
set_option maxRecDepth 20000
namespace Go.Eng
open Go.IntWalk
namespace Nr
theorem Af:run []=0:=rfl
theorem C3 (c:UInt8) (r:bz):run (c :: r)=if dV c then run r+1 else 0:=by
 unfold run
 rw [List.takeWhile_cons]
 split <;> rfl
theorem run_le (s:bz):run s≤s.length:=(List.takeWhile_sublist _).length_le
theorem zC (c:UInt8):dV c=cond (decide ((48:UInt8)≤c)) (decide (c≤(57:UInt8))) false:=by
 unfold dV
 rw [Bool.decide_and]
 cases decide ((48:UInt8)≤c) <;> rfl
end Nr
theorem ja.goal (s:bz) (at_:Int) (c d:UInt8) (hp:(decide (s.length≤1099511627776)&&decide (0≤at_))=true):ja.F s at_ c d=some [.b (decide (at_<s.length)&&(decide (s.getD at_.toNat 0=c) || decide (s.getD at_.toNat 0=d)))]:=by
 simp only [ah,aA] at hp
 refine ja.bZ _ _ _ _ ?_
 intro v1 h1 v2 h2 v3 h3 v4 h4
 by_cases c0:at_<s.length
 ·have ht:decide (at_<(s.length:Int))=true:=aa c0
  have hi:bB at_ s.length=true:=bK hp.2 c0
  rw [ht] at h2 h4
  have e4:v4=(true&&(decide (s.getD at_.toNat 0=c) || decide (s.getD at_.toNat 0=d))):=by
   rw [h4,h3,ai,←h1];cases decide (v1=c) <;> rfl
  rw [ht,hi,h2,e4,←h1]
  cases decide (v1=c) <;> rfl
 ·have ht:decide (at_<(s.length:Int))=false:=ab c0
  rw [ht] at h2 h4
  have e2:v2=false:=h2
  have e4:v4=false:=h4
  rw [ht,e2,e4];rfl
theorem cK.cW (s:bz) (hs:s.length≤1099511627776):∀(m i:Nat),s.length≤i+m→i≤1099511627776→cK.l1 s i=some [.i .i64 (i+(Nr.run (s.drop i):Int))]:=by
 intro m
 induction m with
 | zero =>
  intro i hi _
  refine cK.bV _ _ ?_
  intro v1 h1 v2 h2 v3 h3 v4 h4
  have ht:decide ((i:Int)<(s.length:Int))=false:=ab (by omega)
  rw [ht] at h2
  have e2:v2=false:=h2
  have e3:v3=false:=by rw [h3,e2];rfl
  rw [ht,e2,e3,aE (by omega),Nr.Af]
  simp [ck]
 | succ m ih =>
  intro i hi hb
  refine cK.bV _ _ ?_
  intro v1 h1 v2 h2 v3 h3 v4 h4
  by_cases c:i<s.length
  ·have ht:decide ((i:Int)<(s.length:Int))=true:=aa (by omega)
   have hx:bB (i:Int) s.length=true:=bK (by omega) (by omega)
   rw [ht,ai] at h2
   rw [aj] at h1
   have e3:v3=Nr.dV v1:=by rw [h3,h2,Nr.zC]
   have e4:v4=((i+1:Nat):Int):=by rw [h4,i64_in _ (by omega)];omega
   have hc:∀b:Bool,(!b || (b&&true))=true:=by decide
   rw [ht,hx,drop_cons c 0,Nr.C3,←h1,e3]
   simp only [aR,bm,aY,aH,Bool.false_or,hc,bQ]
   cases hd:Nr.dV v1
   ·rw [ae,au (by decide)];simp [ck]
   ·rw [ai,aw rfl,e4,ih (i+1) (by omega) (by omega)]
    rw [show ((i+1:Nat):Int)+(Nr.run (s.drop (i+1)):Int)=(i:Int)+((Nr.run (s.drop (i+1))+1:Nat):Int) by omega]
  ·have ht:decide ((i:Int)<(s.length:Int))=false:=ab (by omega)
   rw [ht] at h2
   have e2:v2=false:=h2
   have e3:v3=false:=by rw [h3,e2];rfl
   rw [ht,e2,e3,aE (by omega),Nr.Af]
   simp [ck]
theorem cK.goal (s:bz) (at_:Int) (hp:(decide (s.length≤1099511627776)&&decide (0≤at_∧at_≤1099511627776))=true):cK.F s at_=some [.i .i64 (at_+(Nr.run (s.drop at_.toNat):Int))]:=by
 simp only [ah,aA] at hp
 obtain ⟨i,rfl⟩:=Int.eq_ofNat_of_zero_le hp.2.1
 rw [cK.eJ]
 exact cK.cW s hp.1 s.length i (by omega) (by omega)
theorem VJ.cW (s:bz) (hs:s.length≤1099511627776):∀(m i:Nat),s.length=i+m→VJ.l1 s i=some [.i .i64 (i+(Nr.run (s.drop i):Int))]:=by
 intro m
 induction m with
 | zero =>
  intro i hi
  refine VJ.bV _ _ ?_
  intro v1 h1 v2 h2 v3 h3 v4 h4
  have ht:decide ((i:Int)<(s.length:Int))=false:=ab (by omega)
  rw [ht] at h2
  have e2:v2=false:=h2
  have e3:v3=false:=by rw [h3,e2];rfl
  rw [ht,e2,e3,aE (by omega),Nr.Af]
  simp [ck]
 | succ m ih =>
  intro i hi
  refine VJ.bV _ _ ?_
  intro v1 h1 v2 h2 v3 h3 v4 h4
  have c:i<s.length:=by omega
  have ht:decide ((i:Int)<(s.length:Int))=true:=aa (by omega)
  have hx:bB (i:Int) s.length=true:=bK (by omega) (by omega)
  rw [ht,ai] at h2
  rw [aj] at h1
  have e3:v3=Nr.dV v1:=by rw [h3,h2,Nr.zC]
  have e4:v4=((i+1:Nat):Int):=by rw [h4,i64_in _ (by omega)];omega
  have hc:∀b:Bool,(!b || (b&&true))=true:=by decide
  rw [ht,hx,drop_cons c 0,Nr.C3,←h1,e3]
  simp only [aR,bm,aY,aH,Bool.false_or,hc,bQ]
  cases hd:Nr.dV v1
  ·rw [ae,au (by decide)];simp [ck]
  ·rw [ai,aw rfl,e4,ih (i+1) (by omega)]
   rw [show ((i+1:Nat):Int)+(Nr.run (s.drop (i+1)):Int)=(i:Int)+((Nr.run (s.drop (i+1))+1:Nat):Int) by omega]
theorem VJ.goal (s:bz) (hp:decide (s.length≤1099511627776)=true):VJ.F s=some [.i .i64 (Nr.run s)]:=by
 rw [VJ.eJ]
 have:=VJ.cW s (ar hp) s.length 0 (by omega)
 rw [bh] at this
 simpa using this
theorem bD.DN (s:bz) (i:Nat) (k:Int) (hi:i≤s.length):bD.j4 s i k=some [.i .i64 (if s.drop i=[] then k else 0)]:=by
 rw [bD.uy]
 by_cases c:i=s.length
 ·rw [aa (by omega),aw (by rw [aE (by omega)])];rfl
 ·rw [ab (by omega),au (by intro e;have:=congrArg List.length e;simp at this;omega)];rfl
theorem mC (t:bz) (n:Nat):t.drop n=[] ↔ t.length≤n:=by
 rw [←List.length_eq_zero_iff,aU];omega
theorem bD.uz (s:bz) (hs:s.length≤1099511627776) (i:Nat) (hi:i≤s.length):bD.j3 s i 2=some [.i .i64 (if Nr.run (s.drop i)=0∨Nr.run (s.drop i)<(s.drop i).length then 0 else 2)]:=by
 refine bD.oY _ _ _ ?_
 intro v1 h1
 rw [aj] at h1
 have hr:=Nr.run_le (s.drop i)
 rw [aa hs,aa (show (0:Int)≤i∧(i:Int)≤1099511627776 by omega)]
 refine (bw rfl).trans ?_
 by_cases c:Nr.run (s.drop i)=0
 ·rw [aa (by omega),ai,aw (.inl c)]
 ·rw [aU] at hr
  have e1:v1=((i+Nr.run (s.drop i):Nat):Int):=by omega
  rw [ab (by omega),ae,e1,bD.DN s _ _ (by omega),←List.drop_drop]
  by_cases c2:Nr.run (s.drop i)<(s.drop i).length
  ·rw [au (by rw [mC];omega),aw (.inr c2)]
  ·rw [aw (by rw [mC];omega),au (by omega)]
theorem Nr.xh (c:UInt8) (r:bz) (k:Int):Nr.ot (c :: r) k=if c=101∨c=69 then (if Nr.run (Nr.signed r)=0∨Nr.run (Nr.signed r)<(Nr.signed r).length then 0 else 2) else 0:=by
 cases r <;> rfl
theorem Nr.mU (c:UInt8) (r:bz):Nr.signed (c :: r)=if c=43∨c=45 then r else c :: r:=rfl
theorem Q4 (a b:Prop) [Decidable a] [Decidable b]:(decide a || decide b)=decide (a∨b):=(Bool.decide_or a b).symm
theorem bD.sL (s:bz) (hs:s.length≤1099511627776) (i:Nat) (hi:i≤s.length) (k:Int):bD.j2 s i k=some [.i .i64 (Nr.ot (s.drop i) k)]:=by
 refine bD.jg _ _ _ ?_
 intro v1 h1 v2 h2 v3 h3 v4 h4
 have e2:v2=((i+1:Nat):Int):=by rw [h2,i64_in _ (by omega)];omega
 have e4:v4=((i+1+1:Nat):Int):=by rw [h4,e2,i64_in _ (by omega)];omega
 rw [aa hs,aa (show (0:Int)≤i by omega)]
 refine (bw rfl).trans ?_
 rw [Q4,aj] at h1
 by_cases c:i<s.length
 ·rw [aa (show (i:Int)<s.length by omega),Bool.true_and] at h1
  rw [drop_cons c 0,Nr.xh]
  by_cases c1:s.getD i 0=101∨s.getD i 0=69
  ·have e1:v1=true:=by rw [h1];exact aa c1
   rw [e1,ai,aw c1,e2,aa (show (0:Int)≤((i+1:Nat):Int) by omega)]
   refine (bw rfl).trans ?_
   rw [Q4,e2,aj] at h3
   by_cases c2:i+1<s.length
   ·rw [aa (show ((i+1:Nat):Int)<s.length by omega),Bool.true_and] at h3
    rw [drop_cons c2 0,Nr.mU]
    by_cases c3:s.getD (i+1) 0=43∨s.getD (i+1) 0=45
    ·have e3:v3=true:=by rw [h3];exact aa c3
     rw [e3,ai,e4,aw c3]
     exact bD.uz s hs (i+1+1) (by omega)
    ·have e3:v3=false:=by rw [h3];exact ab c3
     rw [e3,ae,au c3,bD.uz s hs (i+1) (by omega),drop_cons c2 0]
   ·rw [ab (show ¬((i+1:Nat):Int)<s.length by omega),Bool.false_and] at h3
    rw [h3,ae,bD.uz s hs (i+1) (by omega),aE (i:=i+1) (by omega)];rfl
  ·have e1:v1=false:=by rw [h1];exact ab c1
   rw [e1,ae,au c1,bD.DN s i k hi,au (by rw [mC];omega)]
 ·rw [ab (show ¬(i:Int)<s.length by omega),Bool.false_and] at h1
  rw [h1,ae,bD.DN s i k hi,aE (by omega),aw rfl];rfl
theorem Nr.xg (r:bz):Nr.ll (46 :: r)=if Nr.run r=0 then 0 else Nr.ot (r.drop (Nr.run r)) 2:=rfl
theorem Nr.tI {t:bz} (h:¬(0<t.length∧t.getD 0 0=46)):Nr.ll t=Nr.ot t 1:=by
 unfold Nr.ll
 split
 ·exact (h ⟨by simp,rfl⟩).elim
 ·rfl
theorem bD.gM (s:bz) (hs:s.length≤1099511627776) (i:Nat) (hi:i≤s.length):bD.j1 s i 1=some [.i .i64 (if Nr.run (s.drop i)=0∨((s.drop i).getD 0 0=48∧1<Nr.run (s.drop i)) then 0 else Nr.ll ((s.drop i).drop (Nr.run (s.drop i))))]:=by
 refine bD.iI _ _ _ ?_
 intro v1 h1 v2 h2 v3 h3 v4 h4 v5 h5 v6 h6 v7 h7 v8 h8 v9 h9
 rw [aj] at h1 h2
 have hr:=Nr.run_le (s.drop i)
 rw [aU] at hr
 have e1:v1=((i+Nr.run (s.drop i):Nat):Int):=by omega
 have e4:v4=((i+1:Nat):Int):=by rw [h4,i64_in _ (by omega)];omega
 rw [aa hs,aa (show (0:Int)≤i∧(i:Int)≤1099511627776 by omega)]
 refine (bw rfl).trans ?_
 by_cases c0:Nr.run (s.drop i)=0
 ·have hd:decide (v1=(i:Int))=true:=aa (by omega)
  rw [hd] at h3 h6
  have e3:v3=false:=h3
  have e6:v6=true:=h6
  rw [hd,e3,e6,aw (.inl c0)];rfl
 ·have hd:decide (v1=(i:Int))=false:=ab (by omega)
  have hx:bB (i:Int) s.length=true:=bK (by omega) (by omega)
  rw [hd] at h3 h6
  rw [ae] at h6
  have g2:(s.drop i).getD 0 0=v2:=by rw [drop_cons (show i<s.length by omega) 0,h2];rfl
  have e5:v5=decide (v2=48∧1<Nr.run (s.drop i)):=by
   rw [h5,Bool.decide_and]
   have:decide (v4<v1)=decide (1<Nr.run (s.drop i)):=by
    rw [e4,e1]
    by_cases c:1<Nr.run (s.drop i)
    ·rw [aa c,aa (by omega)]
    ·rw [ab c,ab (by omega)]
   rw [this]
   cases decide (v2=48) <;> rfl
  rw [hd,hx,h6,g2,h3,bw (by rfl),bw (by rfl),bw (by rfl),bw (by cases decide (v2=48) <;> rfl),bw (by cases decide (v2=48) <;> rfl),bw (by cases decide (v2=48) <;> rfl),bw (by rfl)]
  by_cases c1:v2=48∧1<Nr.run (s.drop i)
  ·rw [e5,aa c1,ai,aw (.inr c1)]
  ·rw [e5,ab c1,ae,au (by simp [c0,c1]),List.drop_drop,e1,aa (show (0:Int)≤((i+Nr.run (s.drop i):Nat):Int) by omega)]
   refine (bw rfl).trans ?_
   generalize hj:i+Nr.run (s.drop i)=j at *
   have e8:v8=((j+1:Nat):Int):=by rw [h8,e1,i64_in _ (by omega)];omega
   rw [Bool.or_self,e1,aj] at h7
   rw [e8,aj] at h9
   by_cases c2:j<s.length∧s.getD j 0=46
   ·have e7:v7=true:=by rw [h7,aa (show (j:Int)<s.length by omega),aa c2.2];rfl
    rw [e7,ai,e8,aa (show (0:Int)≤((j+1:Nat):Int)∧((j+1:Nat):Int)≤1099511627776 by omega)]
    refine (bw rfl).trans ?_
    rw [drop_cons c2.1 0,c2.2,Nr.xg]
    have Sy:=Nr.run_le (s.drop (j+1))
    rw [aU] at Sy
    by_cases c3:Nr.run (s.drop (j+1))=0
    ·rw [aa (by omega),ai,aw c3]
    ·have e9:v9=((j+1+Nr.run (s.drop (j+1)):Nat):Int):=by omega
     rw [ab (by omega),ae,au c3,e9,bD.sL s hs _ (by omega),List.drop_drop]
   ·have e7:v7=false:=by
     rw [h7,←Bool.decide_and];exact ab (fun h=>c2 ⟨by omega,h.2⟩)
    rw [e7,ae,bD.sL s hs _ (by omega),Nr.tI (t:=s.drop j)]
    intro h
    rw [aU,af,List.getElem?_drop,←af] at h
    exact c2 ⟨by omega,h.2⟩
theorem Nr.zr (r:bz):Nr.iX (45 :: r)=if Nr.run r=0∨(r.getD 0 0=48∧1<Nr.run r) then 0 else Nr.ll (r.drop (Nr.run r)):=rfl
theorem Nr.zq {t:bz} (h:¬(0<t.length∧t.getD 0 0=45)):Nr.iX t=if Nr.run t=0∨(t.getD 0 0=48∧1<Nr.run t) then 0 else Nr.ll (t.drop (Nr.run t)):=by
 unfold Nr.iX
 split
 ·exact (h ⟨by simp,rfl⟩).elim
 ·rfl
theorem bD.goal (s:bz) (hp:decide (s.length≤1099511627776)=true):bD.F s=some [.i .i64 (Nr.iX s)]:=by
 have hs:=ar hp
 refine bD.bZ _ ?_
 intro v1 h1 v2 h2
 rw [hp]
 refine (bw rfl).trans ?_
 have e2:v2=((1:Nat):Int):=by rw [h2,i64_in _ (by omega)];rfl
 rw [Bool.or_self] at h1
 have h1:v1=(decide ((0:Int)<s.length)&&decide (s.getD 0 0=45)):=h1
 by_cases c:0<s.length∧s.getD 0 0=45
 ·have e1:v1=true:=by rw [h1,aa (show (0:Int)<s.length by omega),aa c.2];rfl
  rw [e1,ai,e2,bD.gM s hs 1 (by omega)]
  cases s with
  | nil=>simp at c
  | cons d r =>
   have:d=45:=c.2
   subst this
   rw [Nr.zr];rfl
 ·have e1:v1=false:=by rw [h1,←Bool.decide_and];exact ab (fun h=>c ⟨by omega,h.2⟩)
  rw [e1,ae,Nr.zq c]
  exact bD.gM s hs 0 (by omega)
end Go.Eng
set_option maxRecDepth 20000
namespace Go.Eng
open Go.IntWalk
theorem eF.DN (t:bz) (k:Int):eF.j4 t k=some [.i .i64 (if t=[] then k else 0)]:=by
 rw [eF.uy]
 by_cases c:t=[]
 ·rw [aa c,aw c];rfl
 ·rw [ab c,au c];rfl
theorem eF.uz (t:bz) (hs:t.length≤1099511627776):eF.j3 t=some [.i .i64 (if Nr.run t=0∨Nr.run t<t.length then 0 else 2)]:=by
 refine eF.oY _ ?_
 intro v1 h1
 have hr:=Nr.run_le t
 rw [aj] at h1
 rw [bw (aa hs)]
 by_cases c:Nr.run t=0
 ·rw [aa (by omega),ai,aw (.inl c)]
 ·rw [ab (by omega),ae,bw (jm (by omega) (by omega) (by omega)),eF.DN,h1]
  by_cases c2:Nr.run t<t.length
  ·rw [au (by rw [mC];omega),aw (.inr c2)]
  ·rw [aw (by rw [mC];omega),au (by omega)]
theorem eF.sL (t:bz) (hs:t.length≤1099511627776) (k:Int):eF.j2 t k=some [.i .i64 (Nr.ot t k)]:=by
 refine eF.jg _ _ ?_
 intro v1 h1 v2 h2 v3 h3 v4 h4 v5 h5 v6 h6 v7 h7 v8 h8 v9 h9 v10 iA
 cases t with
 | nil =>
  have e2:v2=false:=h2
  have e4:v4=false:=h4
  rw [e2,e4,ae,eF.DN];rfl
 | cons c r =>
  have ht:decide ((0:Int)<((c :: r).length:Int))=true:=aa (by rw [ay];omega)
  have hx:bB (0:Int) (c :: r).length=true:=bK (by omega) (by rw [ay];omega)
  have e1:v1=c:=h1
  have e5:v5=r:=h5
  rw [ht] at h2 h4
  have e4:v4=decide (c=101∨c=69):=by
   rw [h4,h3,e1,Bool.decide_or];cases decide (c=101) <;> rfl
  rw [ht,hx,h2,bw (by rfl),bw (by rfl),bw (by rfl),bw (by cases decide (v1=101) <;> rfl),bw (by cases decide (v1=101) <;> rfl),bw (by cases decide (v1=101) <;> rfl),bw (by rfl),Nr.xh,e4]
  rw [ay] at hs
  by_cases c1:c=101∨c=69
  ·rw [aa c1,ai,aw c1,bw (jm (by omega) (by rw [ay];omega) (by omega)),e5]
   cases r with
   | nil =>
    rw [e5] at h7 h9
    have e7:v7=false:=h7
    have e9:v9=false:=h9
    rw [e7,e9,ae,eF.uz [] (by simp)];rfl
   | cons d q =>
    have ht2:decide ((0:Int)<((d :: q).length:Int))=true:=aa (by rw [ay];omega)
    have KE:bB (0:Int) (d :: q).length=true:=bK (by omega) (by rw [ay];omega)
    rw [e5] at h6 h7 h9 iA
    have e6:v6=d:=h6
    have xX:v10=q:=iA
    rw [ht2] at h7 h9
    have e9:v9=decide (d=43∨d=45):=by
     rw [h9,h8,e6,Bool.decide_or];cases decide (d=43) <;> rfl
    rw [ht2,KE,h7,bw (by rfl),bw (by rfl),bw (by rfl),bw (by cases decide (v6=43) <;> rfl),bw (by cases decide (v6=43) <;> rfl),bw (by cases decide (v6=43) <;> rfl),bw (by rfl),e9,Nr.mU]
    rw [ay] at hs
    by_cases c2:d=43∨d=45
    ·rw [aa c2,ai,bw (jm (by omega) (by rw [ay];omega) (by omega)),xX,aw c2]
     exact eF.uz q (by omega)
    ·rw [ab c2,ae,au c2]
     exact eF.uz (d :: q) (by rw [ay];omega)
  ·rw [ab c1,ae,au c1,eF.DN,au (by simp)]
theorem eF.gM (t:bz) (hs:t.length≤1099511627776):eF.j1 t 1=some [.i .i64 (if Nr.run t=0∨(t.getD 0 0=48∧1<Nr.run t) then 0 else Nr.ll (t.drop (Nr.run t)))]:=by
 refine eF.iI _ _ ?_
 intro v1 h1 v2 h2 v3 h3 v4 h4 v5 h5 v6 h6 v7 h7 v8 h8 v9 h9
 have hr:=Nr.run_le t
 rw [aj] at h5
 rw [bw (aa hs)]
 have h1:v1=t.getD 0 0:=h1
 by_cases c0:Nr.run t=0
 ·have hd:decide ((Nr.run t:Int)=0)=true:=aa (by omega)
  rw [hd] at h2 h4
  have e2:v2=false:=h2
  have e4:v4=true:=h4
  rw [hd,e2,e4,aw (.inl c0)];rfl
 ·have hd:decide ((Nr.run t:Int)=0)=false:=ab (by omega)
  have hx:bB (0:Int) t.length=true:=bK (by omega) (by omega)
  rw [hd] at h2 h4
  rw [ae] at h4
  have e4:v4=decide (v1=48∧1<Nr.run t):=by
   have:decide ((1:Int)<(Nr.run t:Int))=decide (1<Nr.run t):=by
    by_cases c:1<Nr.run t
    ·rw [aa c,aa (by omega)]
    ·rw [ab c,ab (by omega)]
   rw [h4,h3,this,Bool.decide_and];cases decide (v1=48) <;> rfl
  rw [hd,hx,h2,bw (by rfl),bw (by rfl),bw (by rfl),bw (by cases decide (v1=48) <;> rfl),bw (by cases decide (v1=48) <;> rfl),bw (by rfl),e4,←h1]
  by_cases c1:v1=48∧1<Nr.run t
  ·rw [aa c1,ai,aw (.inr c1)]
  ·rw [ab c1,ae,au (by simp [c0,c1]),bw (jm (by omega) (by omega) (by omega)),←h5]
   have hl:v5.length≤1099511627776:=by rw [h5,aU];omega
   cases hv:v5 with
   | nil =>
    rw [hv] at h7
    have e7:v7=false:=h7
    rw [e7,ae,←hv,eF.sL v5 hl,hv];rfl
   | cons c r =>
    have ht2:decide ((0:Int)<((c :: r).length:Int))=true:=aa (by rw [ay];omega)
    have KE:bB (0:Int) (c :: r).length=true:=bK (by omega) (by rw [ay];omega)
    rw [hv] at h6 h7 h8 hl
    rw [ay] at hl
    have e6:v6=c:=h6
    have e8:v8=r:=h8
    rw [ht2,ai,e6] at h7
    rw [ht2,KE,bw (by rfl),bw (by rfl),bw (by rfl),h7]
    have Sy:=Nr.run_le r
    by_cases c2:c=46
    ·have e9:v9=((1+Nr.run r:Nat):Int):=by rw [h9,e8,i64_in _ (by omega)];omega
     subst c2
     rw [aa rfl,ai,bw (jm (by omega) (by rw [ay];omega) (by omega)),e8,bw (aa (by omega)),Nr.xg]
     by_cases c3:Nr.run r=0
     ·rw [aa (by omega),ai,aw c3]
     ·rw [ab (by omega),ae,au c3,e9,bw (jm (by omega) (by rw [ay];omega) (by omega)),aj,Nat.add_comm 1,List.drop_succ_cons]
      exact eF.sL _ (by rw [aU];omega) 2
    ·rw [ab c2,ae,Nr.tI (t:=c :: r) (fun h=>c2 h.2)]
     exact eF.sL _ (by rw [ay];omega) 1
theorem eF.goal (s:bz) (hp:decide (s.length≤1099511627776)=true):eF.F s=some [.i .i64 (Nr.iX s)]:=by
 have hs:=ar hp
 refine eF.bZ _ ?_
 intro v1 h1 v2 h2 v3 h3
 cases s with
 | nil =>
  have e2:v2=false:=h2
  rw [e2,ae,eF.gM [] hs];rfl
 | cons c r =>
  have ht2:decide ((0:Int)<((c :: r).length:Int))=true:=aa (by rw [ay];omega)
  have KE:bB (0:Int) (c :: r).length=true:=bK (by omega) (by rw [ay];omega)
  have e1:v1=c:=h1
  have e3:v3=r:=h3
  rw [ht2,ai,e1] at h2
  rw [ht2,KE,bw (by rfl),bw (by rfl),bw (by rfl),h2]
  by_cases c2:c=45
  ·subst c2
   rw [aa rfl,ai,bw (jm (by omega) (by rw [ay];omega) (by omega)),e3,Nr.zr]
   exact eF.gM r (by rw [ay] at hs;omega)
  ·rw [ab c2,ae,Nr.zq (t:=c :: r) (fun h=>c2 h.2)]
   exact eF.gM _ hs
theorem Nr.kB {n:Nat} (h:n<10):Nr.dec n=[UInt8.ofNat (48+n)]:=by rw [Nr.dec,aw h]
theorem Nr.pq {n:Nat} (h:¬n<10):Nr.dec n=Nr.dec (n / 10)++[UInt8.ofNat (48+n % 10)]:=by rw [Nr.dec,au h]
theorem Nr.ik:∀(k n:Nat),n<10 ^ k→1≤k→(Nr.dec n).length≤k:=by
 intro k
 induction k with
 | zero=>intro n _ h;omega
 | succ k ih =>
  intro n h _
  by_cases c:n<10
  ·rw [Nr.kB c];simp
  ·rw [Nr.pq c,ao,az]
   rw [Nat.pow_succ] at h
   have hk:1≤k:=by
    by_cases hk:k=0
    ·subst hk;simp at h;omega
    ·omega
   have:=ih (n / 10) (by omega) hk
   omega
theorem sO (c d:UInt8) (r:bz):Lib.indexByte (d :: r) c=if (d == c)=true then 0 else if (Lib.indexByte r c == -1)=true then -1 else Lib.indexByte r c+1:=by
 rw [Lib.indexByte]
end Go.Eng
set_option maxRecDepth 20000
namespace Go.Eng
namespace Nt
theorem dz (n:Nat):(UInt16.ofNat n).toNat=n % 65536:=by simp
theorem vb (d:UInt16):d.toNat<65536:=d.toNat_lt
theorem ij:of 0=[]:=by rw [of];rfl
theorem kG {n:Nat} (h:0<n):of n=UInt16.ofNat n :: of (n / 65536):=by rw [of,au (by omega)]
theorem val_of (n:Nat):val (of n)=n:=by
 induction n using Nat.strongRecOn with
 | _ n ih =>
  by_cases h:n=0
  ·subst h;rw [ij];rfl
  ·rw [kG (by omega),val,ih _ (Nat.div_lt_self (by omega) (by omega)),dz]
   omega
theorem jN:∀(k n:Nat),(fix k n).length=k
 | 0,_=>rfl
 | k+1,n=>by rw [fix,ay,jN]
theorem nG:∀(k n:Nat),val (fix k n)=n % 65536 ^ k
 | 0,n=>by rw [fix,val,Nat.pow_zero,Nat.mod_one]
 | k+1,n=>by
  rw [fix,val,nG,dz,Nat.pow_succ,Nat.mul_comm (65536 ^ k),Nat.mod_mul]
theorem fJ:∀(a b:List UInt16),val (a++b)=val a+65536 ^ a.length * val b
 | [],b=>by simp [val]
 | d :: r,b=>by rw [List.cons_append,val,val,fJ r b,ay,Nat.pow_succ,Nat.mul_add,←Nat.mul_assoc,Nat.mul_comm 65536 (65536 ^ r.length),Nat.add_assoc]
theorem gW:∀a:List UInt16,val a<65536 ^ a.length
 | []=>by simp [val]
 | d :: r=>by
  rw [val,ay,Nat.pow_succ]
  have h1:=gW r
  have h2:=vb d
  omega
theorem val_inj:∀{a b:List UInt16},a.length=b.length→val a=val b→a=b
 | [],[],_,_=>rfl
 | [],_ :: _,h,_=>by simp at h
 | _ :: _,[],h,_=>by simp at h
 | d :: r,e :: s,h,hv=>by
  rw [val,val] at hv
  have h1:=vb d
  have h2:=vb e
  have h3:d=e:=UInt16.toNat_inj.1 (by omega)
  rw [h3,val_inj (by simpa using h) (show val r=val s by omega)]
theorem lT (a:List UInt16) (d:UInt16):norm (a++[d])=decide (d≠0):=by
 unfold norm;simp
theorem nL {d:UInt16} {r:List UInt16} (h:r≠[]):norm (d :: r)=norm r:=by
 unfold norm
 cases r with
 | nil=>exact (h rfl).elim
 | cons e s=>rw [List.getLast?_cons_cons]
theorem oR {a:List UInt16} (h:norm a=true) (h0:a≠[]):0<val a:=by
 induction a with
 | nil=>exact (h0 rfl).elim
 | cons d r ih =>
  rw [val]
  by_cases hr:r=[]
  ·subst hr
   have hd:d≠0:=by simpa [norm] using h
   have:d.toNat≠0:=fun e=>hd (UInt16.toNat_inj.1 e)
   omega
  ·rw [nL hr] at h
   have:=ih h hr
   omega
theorem of_val {a:List UInt16} (h:norm a=true):of (val a)=a:=by
 induction a with
 | nil=>exact ij
 | cons d r ih =>
  have hp:=oR h (by simp)
  rw [kG hp]
  have h1:=vb d
  have e1:val (d :: r) / 65536=val r:=by rw [val];omega
  have e2:UInt16.ofNat (val (d :: r))=d:=UInt16.toNat_inj.1 (by rw [dz,val];omega)
  rw [e1,e2]
  by_cases hr:r=[]
  ·subst hr;rw [val,ij]
  ·rw [nL hr] at h;rw [ih h]
theorem oS (n:Nat):norm (of n)=true:=by
 induction n using Nat.strongRecOn with
 | _ n ih =>
  by_cases h:n=0
  ·subst h;rw [ij];rfl
  ·rw [kG (by omega)]
   by_cases h2:n / 65536=0
   ·rw [h2,ij]
    have:UInt16.ofNat n≠0:=fun e=>by
     have:=congrArg UInt16.toNat e
     rw [dz] at this
     have e0:(0:UInt16).toNat=0:=rfl
     omega
    simp [norm,this]
   ·rw [nL,ih _ (Nat.div_lt_self (by omega) (by omega))]
    rw [kG (by omega)];simp
theorem js (n k:Nat):(of n).length≤k ↔ n<65536 ^ k:=by
 constructor
 ·intro h
  have:=gW (of n)
  rw [val_of] at this
  exact Nat.lt_of_lt_of_le this (Nat.pow_le_pow_right (by omega) h)
 ·intro h
  induction k generalizing n with
  | zero=>simp at h;subst h;rw [ij];simp
  | succ k ih =>
   by_cases h0:n=0
   ·subst h0;rw [ij];simp
   ·rw [kG (by omega),ay]
    have:=ih (n / 65536) (by rw [Nat.pow_succ] at h;omega)
    omega
theorem C9:(65536:Nat) ^ 256=2 ^ 4096:=by decide +kernel
theorem oe {n:Nat} (h:n<2 ^ 4096):is (of n)=true:=by
 unfold is
 rw [oS,Bool.and_true]
 exact aa ((js n 256).2 (by rewrite [C9];exact h))
theorem is_lt {a:List UInt16} (h:is a=true):val a<2 ^ 4096:=by
 unfold is at h
 simp only [ah,aA] at h
 have:=(js (val a) 256).1 (by rw [of_val h.2];exact h.1)
 rewrite [C9] at this
 exact this
theorem iY {a:List UInt16} (h:is a=true):a.length≤256:=by
 unfold is at h
 simp only [ah,aA] at h
 exact h.1
theorem iS {a:List UInt16} (h:is a=true):norm a=true:=by
 unfold is at h
 simp only [ah,aA] at h
 exact h.2
theorem pH (a:List UInt16):val (a++[0])=val a:=by rw [fJ];simp [val]
theorem qf {a b:List UInt16} (hb:norm b=true) (h:a.length<b.length):val a<val b:=by
 have h1:=gW a
 have og:b≠[]:=by intro e;subst e;simp at h
 have h2:¬val b<65536 ^ a.length:=fun h2=>by
  have:=(js (val b) a.length).2 h2
  rw [of_val hb] at this
  omega
 omega
end Nt
end Go.Eng
set_option maxRecDepth 20000
namespace Go.Eng
open Go.IntWalk
theorem vr {n:Nat} (h:n≤1099511627776):IntKind.i64.wrap ((n:Int) - 1)=(n:Int) - 1:=i64_in _ (by omega)
theorem qn {α:Type} (a:List α) (d e:α):(a++[d]).getD a.length e=d:=by simp [af]
theorem da.cW:∀(n:Nat) (a:List UInt16),a.length=n→n≤1099511627776→da.l1 a=some [.sl .ws (Nt.of (Nt.val a))]:=by
 intro n
 induction n with
 | zero =>
  intro a ha hn
  have:a=[]:=bc ha
  subst this
  refine da.bV _ ?_
  intro v1 h1 v2 h2 v3 h3
  have e3:v3=false:=by rw [h3];rfl
  rw [e3]
  rw [show Nt.val []=0 from rfl,Nt.ij]
  rfl
 | succ n ih =>
  intro a ha hn
  refine da.bV _ ?_
  intro v1 h1 v2 h2 v3 h3
  rw [ha,vr (by omega)] at h1
  have e1:v1=(n:Int):=by omega
  subst e1
  rw [aj] at h2 ⊢
  rw [aa (show (0:Int)<(a.length:Int) by omega),ai] at h3
  simp only [aR,aY,bQ]
  rw [aa (show (0:Int)<(a.length:Int) by omega),aH,Bool.false_or,Bool.true_and,bw (bK (by omega) (by omega))]
  obtain ⟨b,d,rfl⟩:∃b d,a=b++[d]:=⟨a.dropLast,a.getLast (by intro e;subst e;simp at ha),(List.dropLast_concat_getLast _).symm⟩
  have hb:b.length=n:=by simpa using ha
  have e2:v2=d:=by rw [h2,←hb,qn]
  subst e2
  by_cases hd:v2=0
  ·subst hd
   rw [h3,aa rfl,ai,bw (jm (by omega) (by omega) (by omega)),←hb,List.take_left',Nt.pH]
   ·exact ih b hb (by omega)
   ·rfl
  ·rw [h3,ab hd,ae,Nt.of_val (by rw [Nt.lT];exact aa hd)]
theorem da.goal (a:List UInt16) (hp:decide (a.length≤1099511627776)=true):da.F a=some [.sl .ws (Nt.of (Nt.val a))]:=by
 rw [da.eJ];exact da.cW _ a rfl (ar hp)
theorem lV {a:List UInt16} (h:a≠[]):Nt.norm a=!decide (a.getD (a.length - 1) 0=0):=by
 obtain ⟨b,d,rfl⟩:∃b d,a=b++[d]:=⟨a.dropLast,a.getLast h,(List.dropLast_concat_getLast _).symm⟩
 rw [Nt.lT,ao,az,Nat.add_sub_cancel,qn]
 simp
theorem bg_Is.goal (a:List UInt16) (hp:decide (a.length≤1099511627776)=true):bg_Is.F a=some [.b (Nt.is a)]:=by
 have h:=ar hp
 refine bg_Is.bZ _ ?_
 intro v1 h1 v2 h2 v3 h3 v4 h4 v5 h5
 simp only [aR,aY,bQ]
 rw [vr h] at h2
 by_cases c1:a.length≤256
 ·have d1:decide ((a.length:Int)≤256)=true:=aa (by omega)
  rw [d1] at h1 h5 ⊢
  by_cases c2:a=[]
  ·subst c2
   have e1:v1=false:=by rw [h1];rfl
   have e5:v5=true:=by rw [h5,h4];rfl
   rw [e1,e5];rfl
  ·have hl:0<a.length:=List.length_pos_iff.2 c2
   have d2:decide ((a.length:Int)=0)=false:=ab (by omega)
   rw [d2] at h1 h4 ⊢
   have e1:v1=true:=h1
   rw [e1,aH,Bool.false_or,Bool.true_and,bw (bK (by omega) (by omega))]
   have e2:v2.toNat=a.length - 1:=by omega
   have e5:v5=Nt.is a:=by
    rw [h5,ai,h4,ae,h3,e2,Nt.is,aa c1,Bool.true_and,lV c2]
   rw [e5];rfl
 ·have d1:decide ((a.length:Int)≤256)=false:=ab (by omega)
  rw [d1] at h1 h5 ⊢
  have e1:v1=false:=h1
  have e5:v5=Nt.is a:=by rw [h5,ae,Nt.is,ab c1,Bool.false_and]
  rw [e1,e5];rfl
theorem wG (x:UInt64):(dD x 16).toNat=x.toNat / 65536:=by
 rw [dD,UInt64.toNat_ofNat']
 have:=x.toNat_lt
 omega
theorem mf (x:Nat):UInt16.ofInt (x:Int)=UInt16.ofNat x:=by
 apply UInt16.toNat_inj.1
 have h:=pL (x:Int)
 rw [iQ] at h
 rw [Nt.dz];omega
theorem eW.cW:∀(k:Nat) (v:UInt64) (acc:List UInt16),v.toNat<65536 ^ k→acc.length+k≤100→eW.l1 v acc=some [.sl .ws (acc++Nt.of v.toNat)]:=by
 intro k
 induction k with
 | zero =>
  intro v acc hv ha
  refine eW.bV _ _ ?_
  intro v1 h1 v2 h2
  have hn:v.toNat=0:=by simpa using hv
  have c:v=0:=bn.1 hn
  rw [c,ab (by decide),ae,show (0:UInt64).toNat=0 from rfl,Nt.ij,bj]
 | succ k ih =>
  intro v acc hv ha
  refine eW.bV _ _ ?_
  intro v1 h1 v2 h2
  by_cases c:v=0
  ·rw [c,ab (by decide),ae,show (0:UInt64).toNat=0 from rfl,Nt.ij,bj]
  ·have oy:0<v.toNat:=Nat.pos_of_ne_zero fun e=>c (bn.1 e)
   have fO:(0:UInt64)<v:=by rw [aV];exact oy
   have e2:v2.toNat=v.toNat / 65536:=by rw [h2];exact wG v
   have e1:v1=UInt16.ofNat v.toNat:=by rw [h1,mf]
   rw [Nat.pow_succ] at hv
   rw [aa fO,ai,bw (dW (by simp;omega) (by simp;omega)),ih v2 _ (by rw [e2];omega) (by simp;omega),e2,Nt.kG oy,e1]
   simp
theorem eW.goal (v:UInt64):eW.F v=some [.sl .ws (Nt.of v.toNat)]:=by
 rw [eW.eJ,eW.cW 4 v [] (by have:=v.toNat_lt;simpa using this) (by simp),bq]
theorem Nt.iO {n:Nat} (h:0<n):2 ^ (Nt.bits n - 1)≤n∧n<2 ^ Nt.bits n∧0<Nt.bits n:=by
 unfold Nt.bits
 rw [au (by omega)]
 exact ⟨by rw [Nat.add_sub_cancel];exact Nat.log2_self_le (by omega),Nat.lt_log2_self,by omega⟩
theorem Nt.jT {n k:Nat} (h:n<2 ^ k):Nt.bits n≤k:=by
 by_cases h0:n=0
 ·subst h0;simp [Nt.bits]
 ·obtain ⟨h1,_,_⟩:=Nt.iO (n:=n) (by omega)
  have:2 ^ (Nt.bits n - 1)<2 ^ k:=by omega
  have:=(Nat.pow_lt_pow_iff_right (by omega:1<2)).1 this
  omega
theorem Nt.AW {n k:Nat} (h1:2 ^ k≤n) (h2:n<2 ^ (k+1)):Nt.bits n=k+1:=by
 have h0:0<n:=Nat.lt_of_lt_of_le (Nat.two_pow_pos k) h1
 obtain ⟨_,h3,_⟩:=Nt.iO h0
 have h4:=Nt.jT h2
 have:2 ^ k<2 ^ Nt.bits n:=by omega
 have:=(Nat.pow_lt_pow_iff_right (by omega:1<2)).1 this
 omega
theorem Nt.kU {n k:Nat} (h:2 ^ k≤n):Nt.bits n=Nt.bits (n / 2 ^ k)+k:=by
 have h0:0<n / 2 ^ k:=Nat.div_pos h (Nat.two_pow_pos k)
 obtain ⟨h1,h2,h3⟩:=Nt.iO h0
 have e:Nt.bits (n / 2 ^ k)+k=(Nt.bits (n / 2 ^ k) - 1+k)+1:=by omega
 rw [e]
 refine Nt.AW ?_ ?_
 ·rw [Nat.pow_add]
  exact (Nat.le_div_iff_mul_le (Nat.two_pow_pos k)).1 h1
 ·rw [show Nt.bits (n / 2 ^ k) - 1+k+1=Nt.bits (n / 2 ^ k)+k by omega,Nat.pow_add]
  exact (Nat.div_lt_iff_lt_mul (Nat.two_pow_pos k)).1 h2
def len8:bz:=[0,1,2,2,3,3,3,3,4,4,4,4,4,4,4,4,5,5,5,5,5,5,5,5,5,5,5,5,5,5,5,5]++List.replicate 32 6++List.replicate 64 7++List.replicate 128 8
theorem Ay:∀n,n<256→(len8.getD n 0).toNat=Nt.bits n:=by decide +kernel
end Go.Eng
set_option maxRecDepth 20000
namespace Go.Eng
open Go.IntWalk
theorem ur:([0,1,2,2,3,3,3,3,4,4,4,4,4,4,4,4,5,5,5,5,5,5,5,5,5,5,5,5,5,5,5,5,6,6,6,6,6,6,6,6,6,6,6,6,6,6,6,6,6,6,6,6,6,6,6,6,6,6,6,6,6,6,6,6,7,7,7,7,7,7,7,7,7,7,7,7,7,7,7,7,7,7,7,7,7,7,7,7,7,7,7,7,7,7,7,7,7,7,7,7,7,7,7,7,7,7,7,7,7,7,7,7,7,7,7,7,7,7,7,7,7,7,7,7,7,7,7,7,8,8,8,8,8,8,8,8,8,8,8,8,8,8,8,8,8,8,8,8,8,8,8,8,8,8,8,8,8,8,8,8,8,8,8,8,8,8,8,8,8,8,8,8,8,8,8,8,8,8,8,8,8,8,8,8,8,8,8,8,8,8,8,8,8,8,8,8,8,8,8,8,8,8,8,8,8,8,8,8,8,8,8,8,8,8,8,8,8,8,8,8,8,8,8,8,8,8,8,8,8,8,8,8,8,8,8,8,8,8,8,8,8,8,8,8,8,8,8,8,8,8,8,8,8,8,8,8]:bz)=len8:=by decide +kernel
theorem xk:len8.length=256:=by decide +kernel
theorem bX.gM (x0:UInt16) (x1:Int) (h:x0.toNat<256) (h1:0≤x1) (h2:x1≤1000):bX.j1 x0 x1=some [.i .i64 (x1+Nt.bits x0.toNat)]:=by
 refine bX.iI _ _ ?_
 intro v1 h1 v2 h2 v3 h3
 rw [ur] at h2 ⊢
 have e1:v1.toNat=x0.toNat:=by rw [h1,Cy,Nat.mod_eq_of_lt h]
 have hb:=Nt.jT (n:=x0.toNat) (k:=8) h
 rw [aj,e1] at h2
 have e2:=Ay _ h
 rw [←h2] at e2
 have e3:v3=(Nt.bits x0.toNat:Int):=by rw [h3,i64_in _ (by omega),e2]
 rw [bw (bK (by omega) (by rw [xk];omega)),e3,i64_in _ (by omega)]
theorem bX.goal (x:UInt16):bX.F x=some [.i .i64 (Nt.bits x.toNat)]:=by
 refine bX.bZ _ ?_
 intro v1 h1
 have hx:=x.toNat_lt
 by_cases c:x.toNat<256
 ·rw [ab (by rw [UInt16.le_iff_toNat_le];show ¬256≤x.toNat;omega),ae,bX.gM _ _ c (by omega) (by omega),Int.zero_add]
 ·have e1:v1.toNat=x.toNat / 2 ^ 8:=by
   rw [h1,oH,UInt16.toNat_ofNat',show (8:UInt64).toNat=8 from rfl];omega
  rw [aa (by rw [UInt16.le_iff_toNat_le];show 256≤x.toNat;omega),ai,bX.gM _ _ (by omega) (by omega) (by omega),e1,Nt.kU (n:=x.toNat) (k:=8) (by omega)]
  exact congrArg (fun z:Int=>some [TV.i .i64 z]) (by omega)
theorem bits_Len64.uz (x0:UInt64) (x1:Int) (h:x0.toNat<256) (h1:0≤x1) (h2:x1≤1000):bits_Len64.j3 x0 x1=some [.i .i64 (x1+Nt.bits x0.toNat)]:=by
 refine bits_Len64.oY _ _ ?_
 intro v1 h1 v2 h2 v3 h3
 rw [ur] at h2 ⊢
 have e1:v1.toNat=x0.toNat:=by rw [h1,Cy,Nat.mod_eq_of_lt h]
 have hb:=Nt.jT (n:=x0.toNat) (k:=8) h
 rw [aj,e1] at h2
 have e2:=Ay _ h
 rw [←h2] at e2
 have e3:v3=(Nt.bits x0.toNat:Int):=by rw [h3,i64_in _ (by omega),e2]
 rw [bw (bK (by omega) (by rw [xk];omega)),e3,i64_in _ (by omega)]
theorem gQ (x:UInt64) (k:Nat):(dD x k).toNat=x.toNat / 2 ^ k:=by
 rw [dD,UInt64.toNat_ofNat']
 exact Nat.mod_eq_of_lt (Nat.lt_of_le_of_lt (Nat.div_le_self _ _) x.toNat_lt)
theorem bits_Len64.sL (x0:UInt64) (x1:Int) (h:x0.toNat<65536) (h1:0≤x1) (h2:x1≤900):bits_Len64.j2 x0 x1=some [.i .i64 (x1+Nt.bits x0.toNat)]:=by
 refine bits_Len64.jg _ _ ?_
 intro v1 h1 v2 h2
 by_cases c:x0.toNat<256
 ·rw [ab (by rw [aI];show ¬256≤x0.toNat;omega),ae,bits_Len64.uz _ _ c (by omega) (by omega)]
 ·have e1:v1.toNat=x0.toNat / 2 ^ 8:=by rw [h1];exact gQ _ _
  have e2:v2=x1+8:=by rw [h2,i64_in _ (by omega)]
  rw [aa (by rw [aI];show 256≤x0.toNat;omega),ai,bits_Len64.uz _ _ (by omega) (by omega) (by omega),e1,e2,Nt.kU (n:=x0.toNat) (k:=8) (by omega)]
  exact congrArg (fun z:Int=>some [TV.i .i64 z]) (by omega)
theorem bits_Len64.gM (x0:UInt64) (x1:Int) (h:x0.toNat<4294967296) (h1:0≤x1) (h2:x1≤800):bits_Len64.j1 x0 x1=some [.i .i64 (x1+Nt.bits x0.toNat)]:=by
 refine bits_Len64.iI _ _ ?_
 intro v1 h1 v2 h2
 by_cases c:x0.toNat<65536
 ·rw [ab (by rw [aI];show ¬65536≤x0.toNat;omega),ae,bits_Len64.sL _ _ c (by omega) (by omega)]
 ·have e1:v1.toNat=x0.toNat / 2 ^ 16:=by rw [h1];exact gQ _ _
  have e2:v2=x1+16:=by rw [h2,i64_in _ (by omega)]
  rw [aa (by rw [aI];show 65536≤x0.toNat;omega),ai,bits_Len64.sL _ _ (by omega) (by omega) (by omega),e1,e2,Nt.kU (n:=x0.toNat) (k:=16) (by omega)]
  exact congrArg (fun z:Int=>some [TV.i .i64 z]) (by omega)
theorem bits_Len64.goal (x:UInt64):bits_Len64.F x=some [.i .i64 (Nt.bits x.toNat)]:=by
 refine bits_Len64.bZ _ ?_
 intro v1 h1
 have hx:=x.toNat_lt
 by_cases c:x.toNat<4294967296
 ·rw [ab (by rw [aI];show ¬4294967296≤x.toNat;omega),ae,bits_Len64.gM _ _ c (by omega) (by omega),Int.zero_add]
 ·have e1:v1.toNat=x.toNat / 2 ^ 32:=by rw [h1];exact gQ _ _
  rw [aa (by rw [aI];show 4294967296≤x.toNat;omega),ai,bits_Len64.gM _ _ (by rw [e1];omega) (by omega) (by omega),e1,Nt.kU (n:=x.toNat) (k:=32) (by omega)]
  exact congrArg (fun z:Int=>some [TV.i .i64 z]) (by omega)
theorem dn (a:List UInt16) (i:Nat) (h:i<a.length):Nt.val (a.take (i+1))=Nt.val (a.take i)+65536 ^ i * (a.getD i 0).toNat:=by
 rw [List.take_add_one,Nt.fJ,aq h,aF,Nat.min_eq_left (by omega),af,aq h]
 simp [Nt.val]
theorem gB (d:UInt16):(UInt64.ofInt (d.toNat:Int)).toNat=d.toNat:=by
 rw [zZ,Nat.mod_eq_of_lt (by have:=d.toNat_lt;omega)]
theorem dj.cW (a:List UInt16) (h4:a.length≤4):∀(m i:Nat) (v:UInt64),i+m=a.length→v.toNat=Nt.val (a.take i)→dj.l1 v a a.length i=some [.u64 (UInt64.ofNat (Nt.val a)),.b true]:=by
 intro m
 induction m with
 | zero =>
  intro i v hi hv
  refine dj.bV _ _ _ _ ?_
  intro v1 h1 v2 h2 v3 h3 v4 h4 v5 h5
  rw [ab (by omega),ae]
  rw [List.take_of_length_le (by omega)] at hv
  rw [←hv,UInt64.ofNat_toNat]
 | succ m ih =>
  intro i v hi hv
  refine dj.bV _ _ _ _ ?_
  intro v1 h1 v2 h2 v3 h3 v4 h4 v5 h5
  rw [aj] at h1
  have e3:v3=((16 * i:Nat):Int):=by rw [h3,i64_in _ (by omega)];omega
  have e5:v5=((i+1:Nat):Int):=by rw [h5,i64_in _ (by omega)];omega
  rw [aa (by omega),ai,bw (bK (by omega) (by omega)),bw (aa (by omega)),e5]
  refine ih (i+1) v4 (by omega) ?_
  rw [dn a i (by omega),←h1,h4,e3,aj,UInt64.toNat_or,iK,UInt64.toNat_ofNat',h2,gB,hv]
  have fO:Nt.val (a.take i)<2 ^ (16 * i):=by
   have:=Nt.gW (a.take i)
   rw [aF,Nat.min_eq_left (by omega),show (65536:Nat)=2 ^ 16 by decide,←Nat.pow_mul] at this
   exact this
  have hd:=v1.toNat_lt
  have UT:i≤3:=by omega
  have hm:v1.toNat * 2 ^ (16 * i)<2 ^ 64:=by
   have:2 ^ (16 * i)≤2 ^ 48:=Nat.pow_le_pow_right (by omega) (by omega)
   have h1:v1.toNat * 2 ^ (16 * i)≤v1.toNat * 2 ^ 48:=Nat.mul_le_mul_left _ this
   omega
  rw [Nat.mod_eq_of_lt hm,Nat.or_comm,mr fO,show (65536:Nat)=2 ^ 16 by decide,←Nat.pow_mul,Nat.mul_comm (2 ^ (16 * i)),Nat.add_comm]
theorem dj.goal (a:List UInt16) (hp:decide (Nt.is a=true∧a.length≤4)=true):dj.F a=some [.u64 (UInt64.ofNat (Nt.val a)),.b true]:=by
 obtain ⟨h1,h2⟩:=ar hp
 refine dj.bZ _ ?_
 intro v1 hv
 have e1:v1=false:=by rw [hv,h1,aH,ae];exact ab (by omega)
 rw [bw (aa (by omega)),h1,e1]
 exact dj.cW a h2 a.length 0 0 (by omega) rfl
theorem lU {a:List UInt16} (h:Nt.norm a=true) (h0:a≠[]):1≤(a.getD (a.length - 1) 0).toNat∧Nt.val a=Nt.val (a.take (a.length - 1))+65536 ^ (a.length - 1) * (a.getD (a.length - 1) 0).toNat:=by
 have hl:=List.length_pos_iff.2 h0
 rw [lV h0] at h
 simp only [Bool.not_eq_true',decide_eq_false_iff_not] at h
 refine ⟨Nat.pos_of_ne_zero fun e=>h (UInt16.toNat_inj.1 e),?_⟩
 have:=dn a (a.length - 1) (by omega)
 rwa [show a.length - 1+1=a.length by omega,List.take_length] at this
theorem EU {a:List UInt16} (h:Nt.norm a=true) (h0:a≠[]):Nt.bits (Nt.val a)=16 * (a.length - 1)+Nt.bits (a.getD (a.length - 1) 0).toNat:=by
 obtain ⟨h1,h2⟩:=lU h h0
 generalize (a.getD (a.length - 1) 0).toNat=t at h1 h2 ⊢
 have fO:=Nt.gW (a.take (a.length - 1))
 rw [aF,Nat.min_eq_left (by omega)] at fO
 rw [show (65536:Nat)=2 ^ 16 by decide,←Nat.pow_mul] at h2 fO
 generalize 16 * (a.length - 1)=k at *
 have hd:Nt.val a / 2 ^ k=t:=by
  rw [h2,Nat.add_mul_div_left _ _ (Nat.two_pow_pos k),Nat.div_eq_of_lt fO,Nat.zero_add]
 rw [Nt.kU (k:=k) (by rw [h2];have:=Nat.mul_le_mul_left (2 ^ k) h1;omega),hd,Nat.add_comm]
theorem fH.goal (a:List UInt16) (hp:(Nt.is a)=true):fH.F a=some [.i .i64 (Nt.bits (Nt.val a))]:=by
 have hl:=Nt.iY hp
 refine fH.bZ _ ?_
 intro v1 h1 v2 h2 v3 h3 v4 h4 v5 h5
 rw [hp,aH,ae] at h1
 rw [bw (aa (by omega)),hp]
 by_cases c:a=[]
 ·subst c
  have e1:v1=true:=by rw [h1];rfl
  rw [e1];rfl
 ·have Nn:=List.length_pos_iff.2 c
  have e1:v1=false:=by rw [h1];exact ab (by omega)
  rw [i64_in _ (by omega)] at h2
  have e2:v2=((a.length - 1:Nat):Int):=by omega
  have e3:v3=((16 * (a.length - 1):Nat):Int):=by rw [h3,i64_in _ (by omega)];omega
  rw [e2,aj] at h4
  have hb:=Nt.jT (n:=v4.toNat) (k:=16) v4.toNat_lt
  have e5:v5=(Nt.bits (Nt.val a):Int):=by
   rw [h5,i64_in _ (by omega),e3,EU (Nt.iS hp) c,←h4];omega
  rw [e1,e5]
  show ck true (ck true (ck true (ck (bB v2 a.length) _)))=_
  rw [bQ,bQ,bQ,bw (bK (by omega) (by omega))]
end Go.Eng
set_option maxRecDepth 20000
namespace Go.Eng
open Go.IntWalk
namespace Nr
def V (p:Nat):Nat:=mG p * 2 ^ sh p
theorem sD (p:Nat):mG p<9007199254740992:=by unfold mG;split <;> omega
theorem vX (p:Nat):V (p+1)=(mG p+1) * 2 ^ sh p:=by
 by_cases c0:p=4503599627370495
 ·subst c0;decide +kernel
 unfold V mG sh
 by_cases c:p<4503599627370496
 ·have e1:p / 4503599627370496=0:=by omega
  rw [aw c,aw (show p+1<4503599627370496 by omega),e1,show (p+1) / 4503599627370496=0 by omega]
 ·rw [au c,au (show ¬p+1<4503599627370496 by omega)]
  by_cases d:(p+1) % 4503599627370496=0
  ·rw [d,show (p+1) / 4503599627370496 - 1=(p / 4503599627370496 - 1)+1 by omega,show p % 4503599627370496=4503599627370495 by omega,Nat.pow_succ]
   generalize 2 ^ (p / 4503599627370496 - 1)=t
   omega
  ·have e:(p+1) % 4503599627370496+4503599627370496=p % 4503599627370496+4503599627370496+1:=by omega
   rw [show (p+1) / 4503599627370496=p / 4503599627370496 by omega,e]
theorem tm (p:Nat):V (p+1)=V p+2 ^ sh p:=by rw [vX,Nat.add_mul,Nat.one_mul];rfl
theorem kC (p:Nat):V p<V (p+1):=by rw [tm];have:=Nat.two_pow_pos (sh p);omega
theorem yA {p q:Nat} (h:p<q):V p<V q:=by
 induction q with
 | zero=>omega
 | succ q ih =>
  have:=kC q
  by_cases c:p=q
  ·subst c;exact this
  ·have:=ih (by omega);omega
theorem MK {p q:Nat} (h:p≤q):V p≤V q:=by
 rcases Nat.lt_or_eq_of_le h with c | c
 ·exact Nat.le_of_lt (yA c)
 ·rw [c];exact Nat.le_refl _
theorem Ic {p q:Nat} (h:V p=V q):p=q:=by
 rcases Nat.lt_trichotomy p q with c | c | c
 ·have:=yA c;omega
 ·exact c
 ·have:=yA c;omega
theorem kH (p:Nat):mK p=V p+V (p+1):=by
 rw [tm];unfold mK V;rw [Nat.add_mul,Nat.mul_assoc,Nat.one_mul];omega
theorem Fg {M E:Nat} (h1:4503599627370496≤M) (h2:M<9007199254740992):mG ((E+1) * 4503599627370496+(M - 4503599627370496))=M∧sh ((E+1) * 4503599627370496+(M - 4503599627370496))=E:=by
 unfold mG sh
 rw [au (by omega),show ((E+1) * 4503599627370496+(M - 4503599627370496)) % 4503599627370496=M - 4503599627370496 by omega,show ((E+1) * 4503599627370496+(M - 4503599627370496)) / 4503599627370496=E+1 by omega]
 omega
theorem Ib {M:Nat} (h:M<4503599627370496):V M=M:=by
 unfold V mG sh
 rw [aw h,show M / 4503599627370496=0 by omega];simp
theorem yV {p:Nat} (h:p≤top):sh p≤2045:=by unfold sh;unfold top at h;omega
theorem join_some {p m:Nat} {e:Int} (neg:Bool) (hp:p≤top) (h:V p * 2 ^ (-(e+1074)).toNat=m * 2 ^ (e+1074).toNat):join neg m e=some (p+if neg then 9223372036854775808 else 0):=by
 classical
 have hx:∃p,p≤top∧mG p * 2 ^ sh p * 2 ^ (-(e+1074)).toNat=m * 2 ^ (e+1074).toNat:=⟨p,hp,h⟩
 unfold join
 rw [dif_pos hx]
 have hc:=hx.choose_spec.2
 have:hx.choose=p:=Ic (Nat.eq_of_mul_eq_mul_right (Nat.two_pow_pos _) (hc.trans h.symm))
 rw [this]
theorem join_none {m:Nat} {e:Int} (neg:Bool) (h:∀p,p≤top→V p * 2 ^ (-(e+1074)).toNat≠m * 2 ^ (e+1074).toNat):join neg m e=none:=by
 classical
 unfold join
 rw [dif_neg]
 rintro ⟨p,h1,h2⟩
 exact h p h1 h2
theorem I2 (neg:Bool) (e:Int):join neg 0 e=some (0+if neg then 9223372036854775808 else 0):=join_some neg (Nat.zero_le _) (by rw [Ib (by omega),Nat.zero_mul,Nat.zero_mul])
def enc (m' k:Nat):Nat:=if k+Nt.bits m'≤52 then m' * 2 ^ k else (k - (53 - Nt.bits m')+1) * 4503599627370496+(m' * 2 ^ (53 - Nt.bits m') - 4503599627370496)
theorem bits_mul {m':Nat} (h0:0<m') (j:Nat):2 ^ (Nt.bits m' - 1+j)≤m' * 2 ^ j∧m' * 2 ^ j<2 ^ (Nt.bits m'+j):=by
 obtain ⟨h1,h2,h3⟩:=Nt.iO h0
 rw [Nat.pow_add,Nat.pow_add]
 exact ⟨ak _ h1,Nat.mul_lt_mul_of_pos_right h2 (Nat.two_pow_pos j)⟩
theorem AX {m':Nat} (h0:0<m') (hL:Nt.bits m'≤53):4503599627370496≤m' * 2 ^ (53 - Nt.bits m')∧m' * 2 ^ (53 - Nt.bits m')<9007199254740992:=by
 obtain ⟨h1,h2⟩:=bits_mul h0 (53 - Nt.bits m')
 obtain ⟨_,_,h3⟩:=Nt.iO h0
 rw [show Nt.bits m' - 1+(53 - Nt.bits m')=52 by omega] at h1
 rw [show Nt.bits m'+(53 - Nt.bits m')=53 by omega] at h2
 exact ⟨h1,h2⟩
theorem Ew {m' k:Nat} (h0:0<m') (hL:Nt.bits m'≤53) (hk:k+Nt.bits m'≤2098):enc m' k≤top∧V (enc m' k)=m' * 2 ^ k:=by
 obtain ⟨b1,b2⟩:=AX h0 hL
 unfold enc
 split
 ·rename_i c
  have:=(bits_mul h0 k).2
  have Tp:m' * 2 ^ k<4503599627370496:=Nat.lt_of_lt_of_le this (by
   rw [show (4503599627370496:Nat)=2 ^ 52 by decide];exact Nat.pow_le_pow_right (by omega) (by omega))
  exact ⟨by unfold top;omega,Ib Tp⟩
 ·rename_i c
  obtain ⟨v1,v2⟩:=Fg (E:=k - (53 - Nt.bits m')) b1 b2
  refine ⟨by unfold top;omega,?_⟩
  unfold V
  rw [v1,v2,Nat.mul_assoc,←Nat.pow_add,show 53 - Nt.bits m'+(k - (53 - Nt.bits m'))=k by omega]
theorem DL {m m' n k:Nat} {e:Int} (neg:Bool) (hm:m=m' * 2 ^ n) (h0:0<m') (hk:e+n+1074=k) (hL:Nt.bits m'≤53) (ql:k+Nt.bits m'≤2098):join neg m e=some (enc m' k+if neg then 9223372036854775808 else 0):=by
 obtain ⟨h1,h2⟩:=Ew h0 hL ql
 refine join_some neg h1 ?_
 rw [h2,hm,Nat.mul_assoc,Nat.mul_assoc,←Nat.pow_add,←Nat.pow_add,show k+(-(e+1074)).toNat=n+(e+1074).toNat by omega]
theorem Ga {a b x y:Nat} (ha:a % 2=1) (h:a * 2 ^ x=b * 2 ^ y):y≤x∧b=a * 2 ^ (x - y):=by
 have Sk:y≤x:=by
  rcases Nat.lt_or_ge x y with c | c
  ·have e:y=x+(y - x - 1)+1:=by omega
   rw [e,Nat.pow_succ,Nat.pow_add,←Nat.mul_assoc,←Nat.mul_assoc] at h
   have h2:a=b * 2 ^ (y - x - 1) * 2:=by
    refine Nat.eq_of_mul_eq_mul_right (Nat.two_pow_pos x) ?_
    rw [h,Nat.mul_right_comm b,Nat.mul_right_comm (b * _)]
   omega
  ·exact c
 refine ⟨Sk,Nat.eq_of_mul_eq_mul_right (Nat.two_pow_pos y) ?_⟩
 rw [←h,Nat.mul_assoc,←Nat.pow_add,show x - y+y=x by omega]
theorem DK {m m' n:Nat} {e:Int} (neg:Bool) (hm:m=m' * 2 ^ n) (ho:m' % 2=1) (h:e+n+1074<0∨53<Nt.bits m'∨2098<e+n+1074+Nt.bits m'):join neg m e=none:=by
 refine join_none neg fun p hp hv=>?_
 have h0:0<m':=by omega
 rw [hm,Nat.mul_assoc,←Nat.pow_add] at hv
 unfold V at hv
 rw [Nat.mul_assoc,←Nat.pow_add] at hv
 obtain ⟨q1,q2⟩:=Ga ho hv.symm
 have hs:=yV hp
 have BR:=sD p
 obtain ⟨r1,r2⟩:=bits_mul h0 (n+(e+1074).toNat - (sh p+(-(e+1074)).toNat))
 obtain ⟨_,_,r3⟩:=Nt.iO h0
 rw [←q2] at r1 r2
 have r4:2 ^ (Nt.bits m' - 1+(n+(e+1074).toNat - (sh p+(-(e+1074)).toNat)))<2 ^ 53:=Nat.lt_of_le_of_lt r1 (by rw [show (2:Nat) ^ 53=9007199254740992 by decide];exact BR)
 have r5:=(Nat.pow_lt_pow_iff_right (by omega:1<2)).1 r4
 omega
theorem J1 (m' k:Nat) (h:enc m' k≤top):enc m' k<9223372036854775808:=by unfold top at h;omega
end Nr
theorem mV (x:UInt64) (k:Nat):(iK x k).toNat=x.toNat * 2 ^ k % 18446744073709551616:=by unfold iK;simp
theorem fI {a b:UInt64} (h:a.toNat=b.toNat):a=b:=bn.1 h
theorem fc (n:Nat):(UInt64.ofNat n).toNat=n % 18446744073709551616:=by simp
theorem Dt (x:UInt64):(x &&& (4503599627370495:UInt64)).toNat=x.toNat % 4503599627370496:=by
 rw [UInt64.toNat_and]
 exact Nat.and_two_pow_sub_one_eq_mod x.toNat 52
def FW (n:Bool):UInt64:=cond n 9223372036854775808 0
theorem nK (n:Bool):(FW n).toNat=if n then 9223372036854775808 else 0:=by cases n <;> rfl
theorem CX (n:Bool) (x:UInt64) (h:x.toNat<9223372036854775808):(FW n ||| x).toNat=x.toNat+(FW n).toNat:=by
 rw [UInt64.toNat_or,nK]
 cases n
 ·simp
 ·have:=mr (a:=1) (k:=63) (b:=x.toNat) h
  rw [aw rfl]
  rw [show (9223372036854775808:Nat)=1 * 2 ^ 63 by decide,this];omega
theorem wU (p:Nat) (n:Bool) (h:p<9223372036854775808):Nr.pat (some (p+if n then 9223372036854775808 else 0))=UInt64.ofNat (p+(FW n).toNat):=by rw [nK];rfl
theorem dM.gM (n:Bool) (m:UInt64) (e:Int) (he : -1100≤e∧e≤2000):dM.j1 m e (FW n)=some [.u64 (Nr.pat (Nr.join n m.toNat e)),.b (Nr.join n m.toNat e).isSome]:=by
 refine dM.iI _ _ _ ?_
 intro v1 h1 v2 h2 v3 h3 v4 h4 v5 h5 v6 h6 v7 h7 v8 h8 v9 h9 v10 iA v11 ki v12 jE kW nY jP pA iD o8
 by_cases c0:m=0
 ·subst c0
  rw [aa rfl,ai]
  have:(0:UInt64).toNat=0:=rfl
  rw [this,Nr.I2,wU _ _ (by omega)]
  congr 2
  cases n <;> rfl
 ·have OY:0<m.toNat:=by
   have:m.toNat≠0:=fun h=>c0 (fI h)
   omega
  have fO:=m.toNat_lt
  obtain ⟨q,hq,hc⟩:=Lib.ctzFrom_spec 64 m.toNat OY (by rw [show (2:Nat) ^ 64=18446744073709551616 by decide];exact fO)
  have S5:Lib.ctz 64 m.toNat=Lib.ctzFrom 64 m.toNat:=by unfold Lib.ctz;rw [au (by omega)]
  generalize hz:Lib.ctzFrom 64 m.toNat=z at *
  rw [S5] at h2
  have BS:m.toNat=(2 * q+1) * 2 ^ z:=by rw [hq,Nat.mul_comm]
  have Jg:(dD m v2.toNat).toNat=2 * q+1:=by
   rw [gQ,h2,aj,BS,Nat.mul_div_cancel _ (Nat.two_pow_pos z)]
  have hL:=Nt.jT (n:=2 * q+1) (k:=64) (by rw [←Jg];exact (dD m v2.toNat).toNat_lt)
  obtain ⟨_,_,Ti⟩:=Nt.iO (n:=2 * q+1) (by omega)
  rw [Jg] at h3
  generalize QJ:Nt.bits (2 * q+1)=L at *
  have ew:IntKind.i64.wrap (e+v2)=e+z:=by rw [h2,i64_in _ (by omega)]
  rw [ew] at h4 h5 h8 jE
  have e5:v5=e+z+L:=by rw [h5,h3,i64_in _ (by omega)]
  have e7:v7=e+z+L - 1:=by rw [h7,e5,i64_in _ (by omega)]
  have e8:v8=e+z+1074:=by rw [h8,i64_in _ (by omega)]
  have xX:v10=53 - L:=by rw [iA,h3,i64_in _ (by omega)]
  have GZ:v12=e+z - (53 - L):=by rw [jE,xX,i64_in _ (by omega)]
  have Mu:kW=e+z - (53 - L)+1075:=by rw [nY,GZ,i64_in _ (by omega)]
  have e1:v1=false:=by rw [h1,ab (show ¬e < -2000 by omega),ab (show ¬2000<e by omega)];rfl
  have e4:v4=decide (53<L∨e+z < -1074):=by
   rw [h4,h3,Bool.decide_or]
   have:decide ((53:Int)<(L:Int))=decide (53<L):=by
    by_cases c:53<L
    ·rw [aa c,aa (by omega)]
    ·rw [ab c,ab (by omega)]
   rw [this];cases decide (53<L) <;> rfl
  have e6:v6=decide (53<L∨e+z < -1074∨1024<e+z+L):=by
   rw [h6,e4,e5]
   by_cases c:53<L∨e+z < -1074
   ·rw [aa c,ai,aa (by omega)]
   ·rw [ab c,ae]
    by_cases d:1024<e+z+L
    ·rw [aa d,aa (by omega)]
    ·rw [ab d,ab (by omega)]
  have nX:∀b:Bool,(!(!b) || !b)=true∧(b || !b)=true∧(!(!b) || (!b&&!b))=true:=by decide
  rw [ab c0,ae,e1,bw (nX _).1,bw (nX _).2.1,ae,bw (aa (by omega)),bw (nX _).1,bw (nX _).2.1,bw (nX _).2.2,bw (nX _).1,bw (nX _).2.1,e6]
  by_cases c:53<L∨e+z < -1074∨1024<e+z+L
  ·rw [aa c,ai,Nr.DK (m':=2 * q+1) (n:=z) n BS (by omega) (by omega)];rfl
  ·rw [ab c,ae]
   obtain ⟨k,hk⟩:=Int.eq_ofNat_of_zero_le (show 0≤e+z+1074 by omega)
   obtain ⟨t1,t2⟩:=Nr.Ew (m':=2 * q+1) (k:=k) (by omega) (by omega) (by omega)
   have t3:=Nr.J1 _ _ t1
   rw [Nr.DL (m':=2 * q+1) (n:=z) (k:=k) n BS (by omega) hk (by omega) (by omega),wU _ _ t3]
   by_cases d:e+z+L - 1 < -1022
   ·rw [e7,aa d,ai,bw (aa (by omega))]
    have O8:Nr.enc (2 * q+1) k=(2 * q+1) * 2 ^ k:=by unfold Nr.enc;rw [aw (by omega)]
    rw [O8] at t3 ⊢
    have e9:v9.toNat=(2 * q+1) * 2 ^ k:=by
     rw [h9,mV,Jg,e8,hk,aj];omega
    have:FW n ||| v9=UInt64.ofNat ((2 * q+1) * 2 ^ k+(FW n).toNat):=by
     apply fI
     rw [CX _ _ (by omega),e9,fc,nK]
     cases n
     ·simp;omega
     ·simp;omega
    rw [this];rfl
   ·rw [e7,ab d,ae,bw (aa (by omega))]
    obtain ⟨b1,b2⟩:=Nr.AX (m':=2 * q+1) (by omega) (by omega)
    have O8:Nr.enc (2 * q+1) k=(k - (53 - L)+1) * 4503599627370496+((2 * q+1) * 2 ^ (53 - L) - 4503599627370496):=by unfold Nr.enc;rw [au (by omega),QJ]
    rw [QJ] at b1 b2
    have PC:v10.toNat=53 - L:=by omega
    have KY:v11.toNat=(2 * q+1) * 2 ^ (53 - L):=by rw [ki,mV,Jg,PC];omega
    have NC:iD.toNat=(2 * q+1) * 2 ^ (53 - L) - 4503599627370496:=by rw [o8,Dt,KY];omega
    have PA:kW=((k - (53 - L)+1:Nat):Int):=by omega
    have J4:jP.toNat=(k - (53 - L)+1) * 4503599627370496:=by
     rw [pA,mV,PA,zZ]
     have:(k - (53 - L)+1)<2048:=by omega
     show (k - (53 - L)+1) % 18446744073709551616 * 4503599627370496 % 18446744073709551616=_
     omega
    have Tn:(jP ||| iD).toNat=Nr.enc (2 * q+1) k:=by
     rw [UInt64.toNat_or,J4,NC,O8]
     exact mr (k:=52) (by omega)
    have:(FW n ||| jP) ||| iD=UInt64.ofNat (Nr.enc (2 * q+1) k+(FW n).toNat):=by
     apply fI
     rw [UInt64.or_assoc,CX _ _ (by omega),Tn,fc,nK]
     cases n
     ·simp;omega
     ·simp;omega
    rw [this];rfl
theorem dM.goal (n:Bool) (m:UInt64) (e:Int) (hp:decide (-1100≤e∧e≤2000)=true):dM.F n m e=some [.u64 (Nr.pat (Nr.join n m.toNat e)),.b (Nr.join n m.toNat e).isSome]:=by
 rw [dM.eJ]
 cases n
 ·exact dM.gM false m e (ar hp)
 ·exact dM.gM true m e (ar hp)
end Go.Eng
set_option maxRecDepth 20000
namespace Go.Eng
open Go.IntWalk
theorem IU (x:UInt64):(x &&& (2047:UInt64)).toNat=x.toNat % 2048:=by
 rw [UInt64.toNat_and]
 exact Nat.and_two_pow_sub_one_eq_mod x.toNat 11
end Go.Eng
namespace Go.Proofs
open Go.Shelf
def Tryz.zu:Go.Shelf.Ren:=⟨fun | 29=>217 | n=>n,fun | 22=>22 | 3=>3 | 4=>4 | 25=>98 | 54=>246 | 0=>0 | 5=>5 | n=>n,fun | 1=>5 | n=>n⟩
theorem Tryz.IX:Go.Proofs.Lays7.n29 Tryz.prog Tryz.zu:={
 mixed:=by kernel_rfl
 f29:=Tryz.func217.trans (congrArg some (by kernel_rfl))
 t0:=Tryz.underlying0
 a0:=Tryz.isAgg0
 z0:=Tryz.sizeOf0
 v0:=Tryz.zeroValue0
 i0:=by kernel_rfl
 t3:=Tryz.underlying3
 a3:=Tryz.isAgg3
 z3:=Tryz.sizeOf3
 v3:=Tryz.zeroValue3
 i3:=by kernel_rfl
 t4:=Tryz.underlying4
 a4:=Tryz.isAgg4
 z4:=Tryz.sizeOf4
 v4:=Tryz.zeroValue4
 i4:=by kernel_rfl
 t5:=Tryz.underlying5
 a5:=Tryz.isAgg5
 z5:=Tryz.sizeOf5
 v5:=Tryz.zeroValue5
 i5:=by kernel_rfl
 t22:=Tryz.underlying22
 a22:=Tryz.isAgg22
 z22:=Tryz.sizeOf22
 v22:=Tryz.zeroValue22
 i22:=by kernel_rfl
 t25:=Tryz.underlying98
 a25:=Tryz.isAgg98
 z25:=Tryz.sizeOf98
 v25:=Tryz.zeroValue98
 i25:=by kernel_rfl
 t54:=Tryz.underlying246
 a54:=Tryz.isAgg246
 z54:=Tryz.sizeOf246
 g1:=by kernel_rfl }
def Tryz.xq:Go.Shelf.Ren:=⟨fun | 160=>226 | 232=>223 | 231=>182 | 227=>183 | 234=>224 | 233=>184 | 236=>225 | 235=>185 | 228=>211 | 271=>240 | 151=>213 | 197=>212 | 120=>250 | 152=>232 | 260=>231 | 137=>134 | 119=>243 | 224=>160 | 225=>159 | 217=>156 | 266=>188 | n=>n,fun | 9=>9 | 4=>4 | 3=>3 | 5=>5 | 117=>196 | 116=>195 | 0=>0 | 124=>199 | 21=>21 | 105=>221 | 46=>98 | 119=>259 | 139=>262 | 138=>261 | n=>n,fun | 3=>6 | 4=>7 | n=>n⟩
theorem Tryz.Gs:Go.Proofs.Lays.n160 Tryz.prog Tryz.xq:={
 mixed:=by kernel_rfl
 f119:=Tryz.func243.trans (congrArg some (by kernel_rfl))
 f120:=Tryz.func250.trans (congrArg some (by kernel_rfl))
 f137:=Tryz.func134.trans (congrArg some (by kernel_rfl))
 f151:=Tryz.func213.trans (congrArg some (by kernel_rfl))
 f152:=Tryz.func232.trans (congrArg some (by kernel_rfl))
 f160:=Tryz.func226.trans (congrArg some (by kernel_rfl))
 f197:=Tryz.func212.trans (congrArg some (by kernel_rfl))
 f217:=Tryz.func156.trans (congrArg some (by kernel_rfl))
 f224:=Tryz.func160.trans (congrArg some (by kernel_rfl))
 f225:=Tryz.func159.trans (congrArg some (by kernel_rfl))
 f227:=Tryz.func183.trans (congrArg some (by kernel_rfl))
 f228:=Tryz.func211.trans (congrArg some (by kernel_rfl))
 f231:=Tryz.func182.trans (congrArg some (by kernel_rfl))
 f232:=Tryz.func223.trans (congrArg some (by kernel_rfl))
 f233:=Tryz.func184.trans (congrArg some (by kernel_rfl))
 f234:=Tryz.func224.trans (congrArg some (by kernel_rfl))
 f235:=Tryz.func185.trans (congrArg some (by kernel_rfl))
 f236:=Tryz.func225.trans (congrArg some (by kernel_rfl))
 f260:=Tryz.func231.trans (congrArg some (by kernel_rfl))
 f266:=Tryz.func188.trans (congrArg some (by kernel_rfl))
 f271:=Tryz.func240.trans (congrArg some (by kernel_rfl))
 t0:=Tryz.underlying0
 a0:=Tryz.isAgg0
 z0:=Tryz.sizeOf0
 v0:=Tryz.zeroValue0
 t3:=Tryz.underlying3
 a3:=Tryz.isAgg3
 z3:=Tryz.sizeOf3
 v3:=Tryz.zeroValue3
 t4:=Tryz.underlying4
 a4:=Tryz.isAgg4
 z4:=Tryz.sizeOf4
 v4:=Tryz.zeroValue4
 t5:=Tryz.underlying5
 a5:=Tryz.isAgg5
 z5:=Tryz.sizeOf5
 v5:=Tryz.zeroValue5
 t9:=Tryz.underlying9
 a9:=Tryz.isAgg9
 z9:=Tryz.sizeOf9
 v9:=Tryz.zeroValue9
 t21:=Tryz.underlying21
 a21:=Tryz.isAgg21
 z21:=Tryz.sizeOf21
 v21:=Tryz.zeroValue21
 t46:=Tryz.underlying98
 a46:=Tryz.isAgg98
 z46:=Tryz.sizeOf98
 v46:=Tryz.zeroValue98
 t105:=Tryz.underlying221
 a105:=Tryz.isAgg221
 z105:=Tryz.sizeOf221
 v105:=Tryz.zeroValue221
 t116:=Tryz.underlying195
 a116:=Tryz.isAgg195
 z116:=Tryz.sizeOf195
 t117:=Tryz.underlying196
 a117:=Tryz.isAgg196
 z117:=Tryz.sizeOf196
 v117:=Tryz.zeroValue196
 t119:=Tryz.underlying259
 a119:=Tryz.isAgg259
 z119:=Tryz.sizeOf259
 t124:=Tryz.underlying199
 a124:=Tryz.isAgg199
 z124:=Tryz.sizeOf199
 v124:=Tryz.zeroValue199
 t138:=Tryz.underlying261
 a138:=Tryz.isAgg261
 z138:=Tryz.sizeOf261
 v138:=Tryz.zeroValue261
 t139:=Tryz.underlying262
 a139:=Tryz.isAgg262
 z139:=Tryz.sizeOf262
 v139:=Tryz.zeroValue262
 g3:=by kernel_rfl
 g4:=by kernel_rfl }
def Tryz.xp:Go.Shelf.Ren:=⟨fun | 161=>150 | 231=>182 | 227=>183 | 233=>184 | 235=>185 | 228=>211 | 197=>212 | 151=>213 | 260=>231 | 152=>232 | 137=>134 | 119=>243 | 224=>160 | 225=>159 | 217=>156 | 266=>188 | n=>n,fun | 9=>9 | 4=>4 | 3=>3 | 5=>5 | 117=>196 | 116=>195 | 0=>0 | 124=>199 | 105=>221 | 21=>21 | 119=>259 | 46=>98 | 139=>262 | 138=>261 | n=>n,fun | 3=>6 | 4=>7 | n=>n⟩
theorem Tryz.Gr:Go.Proofs.Lays.n161 Tryz.prog Tryz.xp:={
 mixed:=by kernel_rfl
 f119:=Tryz.func243.trans (congrArg some (by kernel_rfl))
 f137:=Tryz.func134.trans (congrArg some (by kernel_rfl))
 f151:=Tryz.func213.trans (congrArg some (by kernel_rfl))
 f152:=Tryz.func232.trans (congrArg some (by kernel_rfl))
 f161:=Tryz.func150.trans (congrArg some (by kernel_rfl))
 f197:=Tryz.func212.trans (congrArg some (by kernel_rfl))
 f217:=Tryz.func156.trans (congrArg some (by kernel_rfl))
 f224:=Tryz.func160.trans (congrArg some (by kernel_rfl))
 f225:=Tryz.func159.trans (congrArg some (by kernel_rfl))
 f227:=Tryz.func183.trans (congrArg some (by kernel_rfl))
 f228:=Tryz.func211.trans (congrArg some (by kernel_rfl))
 f231:=Tryz.func182.trans (congrArg some (by kernel_rfl))
 f233:=Tryz.func184.trans (congrArg some (by kernel_rfl))
 f235:=Tryz.func185.trans (congrArg some (by kernel_rfl))
 f260:=Tryz.func231.trans (congrArg some (by kernel_rfl))
 f266:=Tryz.func188.trans (congrArg some (by kernel_rfl))
 t0:=Tryz.underlying0
 a0:=Tryz.isAgg0
 z0:=Tryz.sizeOf0
 v0:=Tryz.zeroValue0
 t3:=Tryz.underlying3
 a3:=Tryz.isAgg3
 z3:=Tryz.sizeOf3
 v3:=Tryz.zeroValue3
 t4:=Tryz.underlying4
 a4:=Tryz.isAgg4
 z4:=Tryz.sizeOf4
 v4:=Tryz.zeroValue4
 t5:=Tryz.underlying5
 a5:=Tryz.isAgg5
 z5:=Tryz.sizeOf5
 v5:=Tryz.zeroValue5
 t9:=Tryz.underlying9
 a9:=Tryz.isAgg9
 z9:=Tryz.sizeOf9
 v9:=Tryz.zeroValue9
 t21:=Tryz.underlying21
 a21:=Tryz.isAgg21
 z21:=Tryz.sizeOf21
 v21:=Tryz.zeroValue21
 t46:=Tryz.underlying98
 a46:=Tryz.isAgg98
 z46:=Tryz.sizeOf98
 v46:=Tryz.zeroValue98
 t105:=Tryz.underlying221
 a105:=Tryz.isAgg221
 z105:=Tryz.sizeOf221
 v105:=Tryz.zeroValue221
 t116:=Tryz.underlying195
 a116:=Tryz.isAgg195
 z116:=Tryz.sizeOf195
 t117:=Tryz.underlying196
 a117:=Tryz.isAgg196
 z117:=Tryz.sizeOf196
 v117:=Tryz.zeroValue196
 t119:=Tryz.underlying259
 a119:=Tryz.isAgg259
 z119:=Tryz.sizeOf259
 t124:=Tryz.underlying199
 a124:=Tryz.isAgg199
 z124:=Tryz.sizeOf199
 v124:=Tryz.zeroValue199
 t138:=Tryz.underlying261
 a138:=Tryz.isAgg261
 z138:=Tryz.sizeOf261
 v138:=Tryz.zeroValue261
 t139:=Tryz.underlying262
 a139:=Tryz.isAgg262
 z139:=Tryz.sizeOf262
 v139:=Tryz.zeroValue262
 g3:=by kernel_rfl
 g4:=by kernel_rfl }
def Tryz.xo:Go.Shelf.Ren:=⟨fun | 162=>204 | 232=>223 | 227=>183 | 234=>224 | 236=>225 | 228=>211 | 271=>240 | 151=>213 | 120=>250 | 197=>212 | 152=>232 | 260=>231 | 137=>134 | 119=>243 | 224=>160 | 225=>159 | 217=>156 | 266=>188 | n=>n,fun | 9=>9 | 4=>4 | 3=>3 | 5=>5 | 117=>196 | 116=>195 | 0=>0 | 124=>199 | 21=>21 | 105=>221 | 46=>98 | 119=>259 | 139=>262 | 138=>261 | n=>n,fun | 3=>6 | 4=>7 | n=>n⟩
theorem Tryz.Gq:Go.Proofs.Lays.n162 Tryz.prog Tryz.xo:={
 mixed:=by kernel_rfl
 f119:=Tryz.func243.trans (congrArg some (by kernel_rfl))
 f120:=Tryz.func250.trans (congrArg some (by kernel_rfl))
 f137:=Tryz.func134.trans (congrArg some (by kernel_rfl))
 f151:=Tryz.func213.trans (congrArg some (by kernel_rfl))
 f152:=Tryz.func232.trans (congrArg some (by kernel_rfl))
 f162:=Tryz.func204.trans (congrArg some (by kernel_rfl))
 f197:=Tryz.func212.trans (congrArg some (by kernel_rfl))
 f217:=Tryz.func156.trans (congrArg some (by kernel_rfl))
 f224:=Tryz.func160.trans (congrArg some (by kernel_rfl))
 f225:=Tryz.func159.trans (congrArg some (by kernel_rfl))
 f227:=Tryz.func183.trans (congrArg some (by kernel_rfl))
 f228:=Tryz.func211.trans (congrArg some (by kernel_rfl))
 f232:=Tryz.func223.trans (congrArg some (by kernel_rfl))
 f234:=Tryz.func224.trans (congrArg some (by kernel_rfl))
 f236:=Tryz.func225.trans (congrArg some (by kernel_rfl))
 f260:=Tryz.func231.trans (congrArg some (by kernel_rfl))
 f266:=Tryz.func188.trans (congrArg some (by kernel_rfl))
 f271:=Tryz.func240.trans (congrArg some (by kernel_rfl))
 t0:=Tryz.underlying0
 a0:=Tryz.isAgg0
 z0:=Tryz.sizeOf0
 v0:=Tryz.zeroValue0
 t3:=Tryz.underlying3
 a3:=Tryz.isAgg3
 z3:=Tryz.sizeOf3
 v3:=Tryz.zeroValue3
 t4:=Tryz.underlying4
 a4:=Tryz.isAgg4
 z4:=Tryz.sizeOf4
 v4:=Tryz.zeroValue4
 t5:=Tryz.underlying5
 a5:=Tryz.isAgg5
 z5:=Tryz.sizeOf5
 v5:=Tryz.zeroValue5
 t9:=Tryz.underlying9
 a9:=Tryz.isAgg9
 z9:=Tryz.sizeOf9
 v9:=Tryz.zeroValue9
 t21:=Tryz.underlying21
 a21:=Tryz.isAgg21
 z21:=Tryz.sizeOf21
 v21:=Tryz.zeroValue21
 t46:=Tryz.underlying98
 a46:=Tryz.isAgg98
 z46:=Tryz.sizeOf98
 v46:=Tryz.zeroValue98
 t105:=Tryz.underlying221
 a105:=Tryz.isAgg221
 z105:=Tryz.sizeOf221
 v105:=Tryz.zeroValue221
 t116:=Tryz.underlying195
 a116:=Tryz.isAgg195
 z116:=Tryz.sizeOf195
 t117:=Tryz.underlying196
 a117:=Tryz.isAgg196
 z117:=Tryz.sizeOf196
 v117:=Tryz.zeroValue196
 t119:=Tryz.underlying259
 a119:=Tryz.isAgg259
 z119:=Tryz.sizeOf259
 t124:=Tryz.underlying199
 a124:=Tryz.isAgg199
 z124:=Tryz.sizeOf199
 v124:=Tryz.zeroValue199
 t138:=Tryz.underlying261
 a138:=Tryz.isAgg261
 z138:=Tryz.sizeOf261
 v138:=Tryz.zeroValue261
 t139:=Tryz.underlying262
 a139:=Tryz.isAgg262
 z139:=Tryz.sizeOf262
 v139:=Tryz.zeroValue262
 g3:=by kernel_rfl
 g4:=by kernel_rfl }
def Tryz.qV:Go.Shelf.Ren:=⟨fun | 105=>145 | 212=>174 | 99=>50 | 165=>175 | 166=>176 | 170=>177 | 169=>178 | 263=>206 | 264=>207 | 206=>83 | 240=>208 | 241=>209 | 276=>229 | 277=>230 | n=>n,fun | 9=>9 | 3=>3 | 4=>4 | 20=>20 | 0=>0 | 46=>98 | 109=>178 | 5=>5 | 72=>182 | 76=>186 | 51=>144 | 146=>203 | 53=>22 | 148=>191 | 70=>180 | 37=>23 | 75=>185 | 127=>220 | 164=>236 | 80=>189 | n=>n,fun | n=>n⟩
theorem Tryz.Gt:Go.Proofs.Lays.n105 Tryz.prog Tryz.qV:={
 mixed:=by kernel_rfl
 f99:=Tryz.func50.trans (congrArg some (by kernel_rfl))
 f105:=Tryz.func145.trans (congrArg some (by kernel_rfl))
 f165:=Tryz.func175.trans (congrArg some (by kernel_rfl))
 f166:=Tryz.func176.trans (congrArg some (by kernel_rfl))
 f169:=Tryz.func178.trans (congrArg some (by kernel_rfl))
 f170:=Tryz.func177.trans (congrArg some (by kernel_rfl))
 f206:=Tryz.func83.trans (congrArg some (by kernel_rfl))
 f212:=Tryz.func174.trans (congrArg some (by kernel_rfl))
 f240:=Tryz.func208.trans (congrArg some (by kernel_rfl))
 f241:=Tryz.func209.trans (congrArg some (by kernel_rfl))
 f263:=Tryz.func206.trans (congrArg some (by kernel_rfl))
 f264:=Tryz.func207.trans (congrArg some (by kernel_rfl))
 f276:=Tryz.func229.trans (congrArg some (by kernel_rfl))
 f277:=Tryz.func230.trans (congrArg some (by kernel_rfl))
 t0:=Tryz.underlying0
 a0:=Tryz.isAgg0
 z0:=Tryz.sizeOf0
 v0:=Tryz.zeroValue0
 t3:=Tryz.underlying3
 a3:=Tryz.isAgg3
 z3:=Tryz.sizeOf3
 v3:=Tryz.zeroValue3
 t4:=Tryz.underlying4
 a4:=Tryz.isAgg4
 z4:=Tryz.sizeOf4
 v4:=Tryz.zeroValue4
 t5:=Tryz.underlying5
 a5:=Tryz.isAgg5
 z5:=Tryz.sizeOf5
 v5:=Tryz.zeroValue5
 t9:=Tryz.underlying9
 a9:=Tryz.isAgg9
 z9:=Tryz.sizeOf9
 v9:=Tryz.zeroValue9
 t20:=Tryz.underlying20
 a20:=Tryz.isAgg20
 z20:=Tryz.sizeOf20
 v20:=Tryz.zeroValue20
 t37:=Tryz.underlying23
 a37:=Tryz.isAgg23
 z37:=Tryz.sizeOf23
 v37:=Tryz.zeroValue23
 t46:=Tryz.underlying98
 a46:=Tryz.isAgg98
 z46:=Tryz.sizeOf98
 v46:=Tryz.zeroValue98
 t51:=Tryz.underlying144
 a51:=Tryz.isAgg144
 z51:=Tryz.sizeOf144
 v51:=Tryz.zeroValue144
 t53:=Tryz.underlying22
 a53:=Tryz.isAgg22
 z53:=Tryz.sizeOf22
 v53:=Tryz.zeroValue22
 t70:=Tryz.underlying180
 a70:=Tryz.isAgg180
 z70:=Tryz.sizeOf180
 v70:=Tryz.zeroValue180
 t72:=Tryz.underlying182
 a72:=Tryz.isAgg182
 z72:=Tryz.sizeOf182
 v72:=Tryz.zeroValue182
 t75:=Tryz.underlying185
 a75:=Tryz.isAgg185
 z75:=Tryz.sizeOf185
 v75:=Tryz.zeroValue185
 t76:=Tryz.underlying186
 a76:=Tryz.isAgg186
 z76:=Tryz.sizeOf186
 v76:=Tryz.zeroValue186
 t109:=Tryz.underlying178
 a109:=Tryz.isAgg178
 z109:=Tryz.sizeOf178
 v109:=Tryz.zeroValue178
 t127:=Tryz.underlying220
 a127:=Tryz.isAgg220
 z127:=Tryz.sizeOf220
 v127:=Tryz.zeroValue220
 t146:=Tryz.underlying203
 a146:=Tryz.isAgg203
 z146:=Tryz.sizeOf203
 v146:=Tryz.zeroValue203
 t148:=Tryz.underlying191
 a148:=Tryz.isAgg191
 z148:=Tryz.sizeOf191
 v148:=Tryz.zeroValue191
 t164:=Tryz.underlying236
 a164:=Tryz.isAgg236
 z164:=Tryz.sizeOf236
 v164:=Tryz.zeroValue236 }
theorem Tryz.FD:Builder.Extra Tryz.prog Tryz.qV:={
 sizeBuilder:=by kernel_rfl
 liesBuilder:=by kernel_rfl
 t5:=Tryz.underlying5
 a5:=Tryz.isAgg5
 z5:=Tryz.sizeOf5
 v5:=Tryz.zeroValue5
 infoByte:=by kernel_rfl
 cellsByte:=by kernel_rfl
 sizeByte:=by kernel_rfl
 neB5:=by decide }
def Tryz.qU:Go.Shelf.Ren:=⟨fun | 156=>222 | 165=>175 | 166=>176 | 169=>178 | 240=>208 | 241=>209 | 276=>229 | 277=>230 | n=>n,fun | 31=>103 | 9=>9 | 3=>3 | 4=>4 | 0=>0 | 20=>20 | 72=>182 | 76=>186 | 70=>180 | 37=>23 | 75=>185 | 127=>220 | 164=>236 | 5=>5 | 80=>189 | n=>n,fun | n=>n⟩
theorem Tryz.Az:Go.Proofs.Lays.n156 Tryz.prog Tryz.qU:={
 mixed:=by kernel_rfl
 f156:=Tryz.func222.trans (congrArg some (by kernel_rfl))
 f165:=Tryz.func175.trans (congrArg some (by kernel_rfl))
 f166:=Tryz.func176.trans (congrArg some (by kernel_rfl))
 f169:=Tryz.func178.trans (congrArg some (by kernel_rfl))
 f240:=Tryz.func208.trans (congrArg some (by kernel_rfl))
 f241:=Tryz.func209.trans (congrArg some (by kernel_rfl))
 f276:=Tryz.func229.trans (congrArg some (by kernel_rfl))
 f277:=Tryz.func230.trans (congrArg some (by kernel_rfl))
 t0:=Tryz.underlying0
 a0:=Tryz.isAgg0
 z0:=Tryz.sizeOf0
 v0:=Tryz.zeroValue0
 t3:=Tryz.underlying3
 a3:=Tryz.isAgg3
 z3:=Tryz.sizeOf3
 v3:=Tryz.zeroValue3
 t4:=Tryz.underlying4
 a4:=Tryz.isAgg4
 z4:=Tryz.sizeOf4
 v4:=Tryz.zeroValue4
 t9:=Tryz.underlying9
 a9:=Tryz.isAgg9
 z9:=Tryz.sizeOf9
 v9:=Tryz.zeroValue9
 t20:=Tryz.underlying20
 a20:=Tryz.isAgg20
 z20:=Tryz.sizeOf20
 v20:=Tryz.zeroValue20
 t31:=Tryz.underlying103
 a31:=Tryz.isAgg103
 z31:=Tryz.sizeOf103
 v31:=Tryz.zeroValue103
 t37:=Tryz.underlying23
 a37:=Tryz.isAgg23
 z37:=Tryz.sizeOf23
 v37:=Tryz.zeroValue23
 t70:=Tryz.underlying180
 a70:=Tryz.isAgg180
 z70:=Tryz.sizeOf180
 v70:=Tryz.zeroValue180
 t72:=Tryz.underlying182
 a72:=Tryz.isAgg182
 z72:=Tryz.sizeOf182
 v72:=Tryz.zeroValue182
 t75:=Tryz.underlying185
 a75:=Tryz.isAgg185
 z75:=Tryz.sizeOf185
 v75:=Tryz.zeroValue185
 t76:=Tryz.underlying186
 a76:=Tryz.isAgg186
 z76:=Tryz.sizeOf186
 v76:=Tryz.zeroValue186
 t127:=Tryz.underlying220
 a127:=Tryz.isAgg220
 z127:=Tryz.sizeOf220
 v127:=Tryz.zeroValue220
 t164:=Tryz.underlying236
 a164:=Tryz.isAgg236
 z164:=Tryz.sizeOf236
 v164:=Tryz.zeroValue236 }
theorem Tryz.Hj:Builder.Extra Tryz.prog Tryz.qU:={
 sizeBuilder:=by kernel_rfl
 liesBuilder:=by kernel_rfl
 t5:=Tryz.underlying5
 a5:=Tryz.isAgg5
 z5:=Tryz.sizeOf5
 v5:=Tryz.zeroValue5
 infoByte:=by kernel_rfl
 cellsByte:=by kernel_rfl
 sizeByte:=by kernel_rfl
 neB5:=by decide }
def Tryz.vv:Go.Shelf.Ren:=⟨fun | 171=>84 | 243=>112 | 246=>139 | 283=>162 | 284=>163 | 285=>164 | 286=>165 | 129=>191 | 317=>190 | 318=>192 | 319=>193 | 320=>194 | 337=>216 | 338=>217 | n=>n,fun | 3=>3 | 9=>9 | 2=>2 | 4=>4 | 171=>163 | 0=>0 | 53=>22 | 37=>23 | 5=>5 | 173=>166 | 212=>206 | 51=>144 | 20=>20 | 213=>207 | 46=>98 | 232=>245 | 233=>246 | n=>n,fun | 17=>1 | 18=>4 | 19=>5 | n=>n⟩
theorem Tryz.DB:Go.Proofs.LaysM.n171 Tryz.prog Tryz.vv:={
 mixed:=by kernel_rfl
 f129:=Tryz.func191.trans (congrArg some (by kernel_rfl))
 f171:=Tryz.func84.trans (congrArg some (by kernel_rfl))
 f243:=Tryz.func112.trans (congrArg some (by kernel_rfl))
 f246:=Tryz.func139.trans (congrArg some (by kernel_rfl))
 f283:=Tryz.func162.trans (congrArg some (by kernel_rfl))
 f284:=Tryz.func163.trans (congrArg some (by kernel_rfl))
 f285:=Tryz.func164.trans (congrArg some (by kernel_rfl))
 f286:=Tryz.func165.trans (congrArg some (by kernel_rfl))
 f317:=Tryz.func190.trans (congrArg some (by kernel_rfl))
 f318:=Tryz.func192.trans (congrArg some (by kernel_rfl))
 f319:=Tryz.func193.trans (congrArg some (by kernel_rfl))
 f320:=Tryz.func194.trans (congrArg some (by kernel_rfl))
 f337:=Tryz.func216.trans (congrArg some (by kernel_rfl))
 f338:=Tryz.func217.trans (congrArg some (by kernel_rfl))
 t0:=Tryz.underlying0
 a0:=Tryz.isAgg0
 z0:=Tryz.sizeOf0
 v0:=Tryz.zeroValue0
 t2:=Tryz.underlying2
 a2:=Tryz.isAgg2
 z2:=Tryz.sizeOf2
 v2:=Tryz.zeroValue2
 t3:=Tryz.underlying3
 a3:=Tryz.isAgg3
 z3:=Tryz.sizeOf3
 v3:=Tryz.zeroValue3
 t4:=Tryz.underlying4
 a4:=Tryz.isAgg4
 z4:=Tryz.sizeOf4
 v4:=Tryz.zeroValue4
 t5:=Tryz.underlying5
 a5:=Tryz.isAgg5
 z5:=Tryz.sizeOf5
 v5:=Tryz.zeroValue5
 t9:=Tryz.underlying9
 a9:=Tryz.isAgg9
 z9:=Tryz.sizeOf9
 v9:=Tryz.zeroValue9
 t20:=Tryz.underlying20
 a20:=Tryz.isAgg20
 z20:=Tryz.sizeOf20
 v20:=Tryz.zeroValue20
 t37:=Tryz.underlying23
 a37:=Tryz.isAgg23
 z37:=Tryz.sizeOf23
 v37:=Tryz.zeroValue23
 t46:=Tryz.underlying98
 a46:=Tryz.isAgg98
 z46:=Tryz.sizeOf98
 v46:=Tryz.zeroValue98
 t51:=Tryz.underlying144
 a51:=Tryz.isAgg144
 z51:=Tryz.sizeOf144
 v51:=Tryz.zeroValue144
 t53:=Tryz.underlying22
 a53:=Tryz.isAgg22
 z53:=Tryz.sizeOf22
 v53:=Tryz.zeroValue22
 t171:=Tryz.underlying163
 a171:=Tryz.isAgg163
 z171:=Tryz.sizeOf163
 v171:=Tryz.zeroValue163
 t173:=Tryz.underlying166
 a173:=Tryz.isAgg166
 z173:=Tryz.sizeOf166
 v173:=Tryz.zeroValue166
 t212:=Tryz.underlying206
 a212:=Tryz.isAgg206
 z212:=Tryz.sizeOf206
 v212:=Tryz.zeroValue206
 t213:=Tryz.underlying207
 a213:=Tryz.isAgg207
 z213:=Tryz.sizeOf207
 t232:=Tryz.underlying245
 a232:=Tryz.isAgg245
 z232:=Tryz.sizeOf245
 v232:=Tryz.zeroValue245
 t233:=Tryz.underlying246
 a233:=Tryz.isAgg246
 z233:=Tryz.sizeOf246
 v233:=Tryz.zeroValue246
 g17:=by kernel_rfl
 g18:=by kernel_rfl
 g19:=by kernel_rfl
 i0:=by kernel_rfl
 i2:=by kernel_rfl
 i3:=by kernel_rfl
 i4:=by kernel_rfl
 i5:=by kernel_rfl
 i9:=by kernel_rfl
 i20:=by kernel_rfl
 i37:=by kernel_rfl
 i46:=by kernel_rfl
 i51:=by kernel_rfl
 i53:=by kernel_rfl
 i171:=by kernel_rfl
 i173:=by kernel_rfl
 i212:=by kernel_rfl
 i232:=by kernel_rfl
 i233:=by kernel_rfl
 m17:=by kernel_rfl
 m18:=by kernel_rfl
 m19:=by kernel_rfl }
def Tryz.vu:Go.Shelf.Ren:=⟨fun | 173=>113 | 246=>139 | 283=>162 | 284=>163 | 285=>164 | 286=>165 | 129=>191 | 317=>190 | 318=>192 | 319=>193 | 320=>194 | 337=>216 | 338=>217 | n=>n,fun | 2=>2 | 3=>3 | 9=>9 | 4=>4 | 171=>163 | 0=>0 | 53=>22 | 37=>23 | 5=>5 | 173=>166 | 212=>206 | 51=>144 | 20=>20 | 213=>207 | 46=>98 | 232=>245 | 233=>246 | n=>n,fun | 17=>1 | 18=>4 | 19=>5 | n=>n⟩
theorem Tryz.DA:Go.Proofs.LaysM.n173 Tryz.prog Tryz.vu:={
 mixed:=by kernel_rfl
 f129:=Tryz.func191.trans (congrArg some (by kernel_rfl))
 f173:=Tryz.func113.trans (congrArg some (by kernel_rfl))
 f246:=Tryz.func139.trans (congrArg some (by kernel_rfl))
 f283:=Tryz.func162.trans (congrArg some (by kernel_rfl))
 f284:=Tryz.func163.trans (congrArg some (by kernel_rfl))
 f285:=Tryz.func164.trans (congrArg some (by kernel_rfl))
 f286:=Tryz.func165.trans (congrArg some (by kernel_rfl))
 f317:=Tryz.func190.trans (congrArg some (by kernel_rfl))
 f318:=Tryz.func192.trans (congrArg some (by kernel_rfl))
 f319:=Tryz.func193.trans (congrArg some (by kernel_rfl))
 f320:=Tryz.func194.trans (congrArg some (by kernel_rfl))
 f337:=Tryz.func216.trans (congrArg some (by kernel_rfl))
 f338:=Tryz.func217.trans (congrArg some (by kernel_rfl))
 t0:=Tryz.underlying0
 a0:=Tryz.isAgg0
 z0:=Tryz.sizeOf0
 v0:=Tryz.zeroValue0
 t2:=Tryz.underlying2
 a2:=Tryz.isAgg2
 z2:=Tryz.sizeOf2
 v2:=Tryz.zeroValue2
 t3:=Tryz.underlying3
 a3:=Tryz.isAgg3
 z3:=Tryz.sizeOf3
 v3:=Tryz.zeroValue3
 t4:=Tryz.underlying4
 a4:=Tryz.isAgg4
 z4:=Tryz.sizeOf4
 v4:=Tryz.zeroValue4
 t5:=Tryz.underlying5
 a5:=Tryz.isAgg5
 z5:=Tryz.sizeOf5
 v5:=Tryz.zeroValue5
 t9:=Tryz.underlying9
 a9:=Tryz.isAgg9
 z9:=Tryz.sizeOf9
 v9:=Tryz.zeroValue9
 t20:=Tryz.underlying20
 a20:=Tryz.isAgg20
 z20:=Tryz.sizeOf20
 v20:=Tryz.zeroValue20
 t37:=Tryz.underlying23
 a37:=Tryz.isAgg23
 z37:=Tryz.sizeOf23
 v37:=Tryz.zeroValue23
 t46:=Tryz.underlying98
 a46:=Tryz.isAgg98
 z46:=Tryz.sizeOf98
 v46:=Tryz.zeroValue98
 t51:=Tryz.underlying144
 a51:=Tryz.isAgg144
 z51:=Tryz.sizeOf144
 v51:=Tryz.zeroValue144
 t53:=Tryz.underlying22
 a53:=Tryz.isAgg22
 z53:=Tryz.sizeOf22
 v53:=Tryz.zeroValue22
 t171:=Tryz.underlying163
 a171:=Tryz.isAgg163
 z171:=Tryz.sizeOf163
 v171:=Tryz.zeroValue163
 t173:=Tryz.underlying166
 a173:=Tryz.isAgg166
 z173:=Tryz.sizeOf166
 v173:=Tryz.zeroValue166
 t212:=Tryz.underlying206
 a212:=Tryz.isAgg206
 z212:=Tryz.sizeOf206
 v212:=Tryz.zeroValue206
 t213:=Tryz.underlying207
 a213:=Tryz.isAgg207
 z213:=Tryz.sizeOf207
 t232:=Tryz.underlying245
 a232:=Tryz.isAgg245
 z232:=Tryz.sizeOf245
 v232:=Tryz.zeroValue245
 t233:=Tryz.underlying246
 a233:=Tryz.isAgg246
 z233:=Tryz.sizeOf246
 v233:=Tryz.zeroValue246
 g17:=by kernel_rfl
 g18:=by kernel_rfl
 g19:=by kernel_rfl
 i0:=by kernel_rfl
 i2:=by kernel_rfl
 i3:=by kernel_rfl
 i4:=by kernel_rfl
 i5:=by kernel_rfl
 i9:=by kernel_rfl
 i20:=by kernel_rfl
 i37:=by kernel_rfl
 i46:=by kernel_rfl
 i51:=by kernel_rfl
 i53:=by kernel_rfl
 i171:=by kernel_rfl
 i173:=by kernel_rfl
 i212:=by kernel_rfl
 i232:=by kernel_rfl
 i233:=by kernel_rfl
 m17:=by kernel_rfl
 m18:=by kernel_rfl
 m19:=by kernel_rfl }
def Tryz.xn:Go.Shelf.Ren:=⟨fun | 283=>162 | n=>n,fun | 3=>3 | 9=>9 | 4=>4 | n=>n,fun | n=>n⟩
theorem Tryz.Gp:Go.Proofs.Lays.n283 Tryz.prog Tryz.xn:={
 mixed:=by kernel_rfl
 f283:=Tryz.func162.trans (congrArg some (by kernel_rfl))
 t3:=Tryz.underlying3
 a3:=Tryz.isAgg3
 z3:=Tryz.sizeOf3
 v3:=Tryz.zeroValue3
 t4:=Tryz.underlying4
 a4:=Tryz.isAgg4
 z4:=Tryz.sizeOf4
 v4:=Tryz.zeroValue4
 t9:=Tryz.underlying9
 a9:=Tryz.isAgg9
 z9:=Tryz.sizeOf9
 v9:=Tryz.zeroValue9 }
def Tryz.vt:Go.Shelf.Ren:=⟨fun | 284=>163 | 129=>191 | 317=>190 | 318=>192 | n=>n,fun | 53=>22 | 3=>3 | 212=>206 | 0=>0 | 4=>4 | 46=>98 | 5=>5 | 9=>9 | n=>n,fun | 17=>1 | n=>n⟩
theorem Tryz.Dz:Go.Proofs.LaysM.n284 Tryz.prog Tryz.vt:={
 mixed:=by kernel_rfl
 f129:=Tryz.func191.trans (congrArg some (by kernel_rfl))
 f284:=Tryz.func163.trans (congrArg some (by kernel_rfl))
 f317:=Tryz.func190.trans (congrArg some (by kernel_rfl))
 f318:=Tryz.func192.trans (congrArg some (by kernel_rfl))
 t0:=Tryz.underlying0
 a0:=Tryz.isAgg0
 z0:=Tryz.sizeOf0
 v0:=Tryz.zeroValue0
 t3:=Tryz.underlying3
 a3:=Tryz.isAgg3
 z3:=Tryz.sizeOf3
 v3:=Tryz.zeroValue3
 t4:=Tryz.underlying4
 a4:=Tryz.isAgg4
 z4:=Tryz.sizeOf4
 v4:=Tryz.zeroValue4
 t5:=Tryz.underlying5
 a5:=Tryz.isAgg5
 z5:=Tryz.sizeOf5
 v5:=Tryz.zeroValue5
 t9:=Tryz.underlying9
 a9:=Tryz.isAgg9
 z9:=Tryz.sizeOf9
 v9:=Tryz.zeroValue9
 t46:=Tryz.underlying98
 a46:=Tryz.isAgg98
 z46:=Tryz.sizeOf98
 v46:=Tryz.zeroValue98
 t53:=Tryz.underlying22
 a53:=Tryz.isAgg22
 z53:=Tryz.sizeOf22
 v53:=Tryz.zeroValue22
 t212:=Tryz.underlying206
 a212:=Tryz.isAgg206
 z212:=Tryz.sizeOf206
 v212:=Tryz.zeroValue206
 g17:=by kernel_rfl
 i0:=by kernel_rfl
 i3:=by kernel_rfl
 i4:=by kernel_rfl
 i5:=by kernel_rfl
 i9:=by kernel_rfl
 i46:=by kernel_rfl
 i53:=by kernel_rfl
 i212:=by kernel_rfl
 m17:=by kernel_rfl }
def Tryz.xm:Go.Shelf.Ren:=⟨fun | 285=>164 | n=>n,fun | 37=>23 | 53=>22 | 3=>3 | 4=>4 | 51=>144 | 9=>9 | 5=>5 | 0=>0 | n=>n,fun | n=>n⟩
theorem Tryz.Gn:Go.Proofs.Lays.n285 Tryz.prog Tryz.xm:={
 mixed:=by kernel_rfl
 f285:=Tryz.func164.trans (congrArg some (by kernel_rfl))
 t0:=Tryz.underlying0
 a0:=Tryz.isAgg0
 z0:=Tryz.sizeOf0
 v0:=Tryz.zeroValue0
 t3:=Tryz.underlying3
 a3:=Tryz.isAgg3
 z3:=Tryz.sizeOf3
 v3:=Tryz.zeroValue3
 t4:=Tryz.underlying4
 a4:=Tryz.isAgg4
 z4:=Tryz.sizeOf4
 v4:=Tryz.zeroValue4
 t5:=Tryz.underlying5
 a5:=Tryz.isAgg5
 z5:=Tryz.sizeOf5
 v5:=Tryz.zeroValue5
 t9:=Tryz.underlying9
 a9:=Tryz.isAgg9
 z9:=Tryz.sizeOf9
 v9:=Tryz.zeroValue9
 t37:=Tryz.underlying23
 a37:=Tryz.isAgg23
 z37:=Tryz.sizeOf23
 v37:=Tryz.zeroValue23
 t51:=Tryz.underlying144
 a51:=Tryz.isAgg144
 z51:=Tryz.sizeOf144
 v51:=Tryz.zeroValue144
 t53:=Tryz.underlying22
 a53:=Tryz.isAgg22
 z53:=Tryz.sizeOf22
 v53:=Tryz.zeroValue22 }
end Go.Proofs
namespace Go.Proofs
open Go.Shelf Go.RowKit Go.Sort Go.Lib
set_option maxHeartbeats 6400000
set_option maxRecDepth 100000
theorem xC (w:World) (T:TypeId) (nd:Nat) (hs:nd≤24):Holds (fun (b:UInt8)=>Value.int .u8 (b.toNat:Int)) (w.alloc (.cells Lib.zeros24 T)) w.heap.size 0 (Array.replicate nd (0:UInt8)):=fun j hj=>by
 have tM:j<nd:=by simpa using hj
 refine ⟨?_,World.frozen?_alloc_new _ _ _ _⟩
 rw [World.cell?_alloc_new,Lib.zeros24_at _ (by omega),getElem!_pos _ j hj]
 simp
theorem Ee (w:World) (o:Obj) (dk:Array UInt8) (k:Nat):∃os,(putRow (fun (b:UInt8)=>Value.int .u8 (b.toNat:Int)) (w.alloc o) w.heap.size 0 dk).drewN k=grow (w.drewN k) os:=by
 rw [alloc_eq_grow]
 obtain ⟨R5,_,e⟩:=putRow_grow_new (fun (b:UInt8)=>Value.int .u8 (b.toNat:Int)) w #[o] w.heap.size 0 dk (Nat.le_refl _)
 exact ⟨R5,by rw [e];rfl⟩
theorem Tryz.GN (u:Nat) (Je:u<18446744073709551616) (w:World) (OD:Lib.TabIs Tryz.prog w "internal/strconv.uint64pow10" .u64 Lib.pow10Tab) :
  Calls Tryz.prog 181 #[.int .u64 u,.int .i64 10] w fun e w'=>e = .returned (.string ⟨(Lib.decDigits u).toArray⟩)∧∃k os,w'=grow (w.drewN k) os:=by
 by_cases hs:u<100
 ·go_enter Tryz.func181,Tryz.ntmps181
  go_wp2_with (go_at_call 162;refine (Any.internal_strconv_small Tryz.Gp u hs _).mono ?_;rintro e w' ⟨rfl,rfl⟩)
  go_ret
  exact ⟨rfl,0,#[],by simp [World.drewN_zero]⟩
 ·have HH:1≤u:=by omega
  have Qg:Lib.nDigits u≤20:=by have:=Lib.numDigits_eq u HH Je;split at this <;> omega
  have KN:Lib.nDigits u≤24:=by omega
  have Pf:Tryz.prog.arrayLen 163=24:=by kernel_rfl
  have Su:∀W,(Instr.sliceAt 163 (.pointer (some ⟨w.heap.size,0,none⟩)) none (some (.int .i64 (Lib.nDigits u:Int))) none).run Tryz.prog W = .ok (.slice (some ⟨w.heap.size,0,none⟩) (Lib.nDigits u) 24) W:=fun W=>by
   rw [run_sliceAt_array_h W 163 ⟨w.heap.size,0,none⟩ (by kernel_rfl) .i64 (Lib.nDigits u:Int) (by omega) (by rw [Pf];omega)]
   go_simp
  have Po:=xC w 163 (Lib.nDigits u) (by omega)
  have LX:=Any.internal_strconv_formatBase10 Tryz.Gn w.heap.size 0 24 u (Array.replicate (Lib.nDigits u) 0) (w.alloc (.cells Lib.zeros24 163)) Po (by rw [Array.size_replicate];exact Lib.lt_pow_nDigits u) Je (by rw [Array.size_replicate];omega)
  rw [Array.size_replicate] at LX
  have TI:=Lib.hid Po
  clear Po Pf
  go_enter Tryz.func181,Tryz.ntmps181
  go_wp2_with (first
   | (go_at_call 163;refine (Any.internal_strconv_numDigits Tryz.Dz u HH Je _ (Lib.tabIs_alloc OD _)).mono ?_;rintro e w' ⟨rfl,rfl⟩))
  go_at_call 164
  refine LX.mono ?_
  rintro e w' ⟨rfl,k,v',dk,rfl,hF⟩
  have UU:(convert 23 9 (.slice (some ⟨w.heap.size,0,none⟩) (Lib.nDigits u) 24)).run Tryz.prog ((putRow (fun (b:UInt8)=>Value.int .u8 (b.toNat:Int)) (w.alloc (.cells Lib.zeros24 163)) w.heap.size 0 dk).drewN k) = .ok (.string ⟨(Lib.decDigits u).toArray⟩) ((putRow (fun (b:UInt8)=>Value.int .u8 (b.toNat:Int)) (w.alloc (.cells Lib.zeros24 163)) w.heap.size 0 dk).drewN k):=by
   have h:=run_convert_bytes_back (P:=Tryz.prog) ((putRow (fun (b:UInt8)=>Value.int .u8 (b.toNat:Int)) (w.alloc (.cells Lib.zeros24 163)) w.heap.size 0 dk).drewN k) 23 9 5 ⟨w.heap.size,0,none⟩ 24 (Lib.decDigits u) (by kernel_rfl) (by kernel_rfl) (by kernel_rfl) (fun j hj=>by
    rw [Lib.row_is_numeral hF j hj,Lib.add_plain,World.cell?_drewN]
    exact cell?_putRow (fun (b:UInt8)=>Value.int .u8 (b.toNat:Int)) _ w.heap.size 0 _ dk TI.out (by rw [hF.size,Array.size_replicate]) j (by rw [hF.size];rw [Lib.decDigits_length] at hj;exact hj))
   rw [Lib.decDigits_length] at h
   exact h
  go_wp2
  go_ret
  obtain ⟨os,eo⟩:=Ee w (.cells Lib.zeros24 163) dk k
  exact ⟨rfl,k,os,eo⟩
end Go.Proofs
namespace Go.Eng
theorem ED (n:Nat):Nr.dec n=ie n:=by
 induction n using Nat.strongRecOn with
 | _ n ih =>
  rw [Nr.dec,ie]
  by_cases h:n<10
  ·rw [aw h,dif_pos h]
  ·rw [au h,dif_neg h,ih (n / 10) (by omega)]
theorem zp (n:Nat):Lib.decDigits n=Nr.dec n:=by rw [yb,ED]
theorem vq (v:Int):Lib.itoa v=Nr.itoa v:=by
 rw [Nr.nN]
 unfold Lib.itoa
 by_cases h:v<0
 ·rw [aw h,aw h,zp]
 ·rw [au h,au h,zp,show v.toNat=v.natAbs by omega]
end Go.Eng
set_option maxRecDepth 20000
namespace Go.Eng
open Go.RowKit Go.Proofs Go.Sort
theorem qH {c:bz} (h:c.all (fun b=>decide (b.toNat<128))=true):∀(j:Nat) b,(⟨⟨c⟩⟩:ByteArray).data.toList[j]?=some b→b.toNat<128:=fun j b hb=>ar (aC.1 h b (aK (by simpa using hb)))
theorem rP {s c:bz} (h:(decide (s.length≤1099511627776∧c.length≤100)&&c.all (fun b=>decide (b.toNat<128)))=true):(⟨⟨s⟩⟩:ByteArray).size≤9223372036854775807∧(⟨⟨c⟩⟩:ByteArray).size<4294967281∧c.all (fun b=>decide (b.toNat<128))=true:=by
 simp only [ah,aA] at h
 refine ⟨?_,?_,by simpa using h.2⟩
 ·show (⟨s⟩:Array UInt8).size≤_
  rw [List.size_toArray];omega
 ·show (⟨c⟩:Array UInt8).size<_
  rw [List.size_toArray];omega
theorem vj {w:World} {R:Reach} (hG:GlOK cnGl R w):Lib.TabIs Tryz.prog w "internal/strconv.uint64pow10" .u64 Lib.pow10Tab:=by
 have e:cnGl 1=some (tD .u64 (Lib.pow10Tab.headD 0 :: Lib.pow10Tab.tail)):=rfl
 exact Iz hG e (by kernel_rfl)
theorem oL:∀c:Nat,Lib.repeatL [48] c=Sh.dU c
 | 0=>rfl
 | c+1=>by
  rw [Lib.repeatL,oL c]
  unfold Sh.dU
  rw [aj,aj,List.replicate_succ];rfl
theorem kZ.ok:bA PG cnGl 226 (kZ.c,kZ.sg):=gY (by kernel_rfl) fun ti nI w R xs hc ha hR hG=>by
 unfold kZ.c at hc
 split at hc
 ·rename_i s c
  obtain ⟨hp,rfl⟩:=hc
  obtain rfl:=jd ha rfl
  obtain ⟨p1,p2,p3⟩:=rP hp
  refine (Any.strings_Trim_laid Tryz.Gs (by kernel_rfl) _ _ w p1 p2 (qH p3)).mono ?_
  rintro e w' ⟨rfl,hb⟩
  exact ⟨_,rfl,hb,fun R w'=>mZ oM⟩
 ·exact hc.elim
theorem gq.ok:bA PG cnGl 150 (gq.c,gq.sg):=gY (by kernel_rfl) fun ti nI w R xs hc ha hR hG=>by
 unfold gq.c at hc
 split at hc
 ·rename_i s c
  obtain ⟨hp,rfl⟩:=hc
  obtain rfl:=jd ha rfl
  obtain ⟨p1,p2,p3⟩:=rP hp
  refine (Any.strings_TrimLeft_laid Tryz.Gr (by kernel_rfl) _ _ w p2 (qH p3)).mono ?_
  rintro e w' ⟨rfl,hb⟩
  exact ⟨_,rfl,hb,fun R w'=>mZ oM⟩
 ·exact hc.elim
theorem fK.ok:bA PG cnGl 204 (fK.c,fK.sg):=gY (by kernel_rfl) fun ti nI w R xs hc ha hR hG=>by
 unfold fK.c at hc
 split at hc
 ·rename_i s c
  obtain ⟨hp,rfl⟩:=hc
  obtain rfl:=jd ha rfl
  obtain ⟨p1,p2,p3⟩:=rP hp
  refine (Any.strings_TrimRight_laid Tryz.Gq (by kernel_rfl) _ _ w p1 p2 (qH p3)).mono ?_
  rintro e w' ⟨rfl,hb⟩
  exact ⟨_,rfl,hb,fun R w'=>mZ oM⟩
 ·exact hc.elim
theorem lx.ok:bA PG cnGl 217 (lx.c,lx.sg):=gY (by kernel_rfl) fun ti nI w R xs hc ha hR hG=>by
 unfold lx.c at hc
 split at hc
 ·rename_i x
  cases hc
  obtain rfl:=jd ha rfl
  refine (Any7.bits_TrailingZeros64 Tryz.IX x.toNat x.toNat_lt w fun _ j hj=>?_).mono ?_
  ·have:=(hG 5 (tD .u8 (Lib.deBruijn64tab.map Int.ofNat)) rfl j).2
   rw [tD,List.map_map,br,aq hj] at this
   rw [af,aq hj]
   exact this
  ·rintro e w' ⟨rfl,rfl⟩
   exact ⟨_,rfl,Below.refl _ _,fun R w'=>mZ Ll⟩
 ·exact hc.elim
theorem iG.ok:bA PG cnGl 84 (iG.c,iG.sg):=gY (by kernel_rfl) fun ti nI w R xs hc ha hR hG=>by
 unfold iG.c at hc
 split at hc
 ·rename_i n
  obtain ⟨hp,rfl⟩:=hc
  obtain rfl:=jd ha rfl
  have hp:=ar (Nr.DS hp)
  refine (Any.strconv_Itoa Tryz.DB n hp.1 hp.2 w (vj hG)).mono ?_
  rintro e w' ⟨rfl,q,os,rfl⟩
  exact ⟨_,rfl,oB _ _ _,fun R w'=>by rw [vq];exact mZ oM⟩
 ·exact hc.elim
theorem gR.ok:bA PG cnGl 113 (gR.c,gR.sg):=gY (by kernel_rfl) fun ti nI w R xs hc ha hR hG=>by
 unfold gR.c at hc
 split at hc
 ·rename_i n b
  obtain ⟨hp,rfl⟩:=hc
  obtain rfl:=jd ha rfl
  rw [ah] at hp
  obtain ⟨hp,hb⟩:=hp
  have hp:=ar (Nr.DS hp)
  obtain rfl:=ar hb
  refine (Any.strconv_FormatInt_10 Tryz.DA n hp.1 hp.2 w (vj hG)).mono ?_
  rintro e w' ⟨rfl,q,os,rfl⟩
  exact ⟨_,rfl,oB _ _ _,fun R w'=>by rw [vq];exact mZ oM⟩
 ·exact hc.elim
theorem lf.ok:bA PG cnGl 181 (lf.c,lf.sg):=gY (by kernel_rfl) fun ti nI w R xs hc ha hR hG=>by
 unfold lf.c at hc
 split at hc
 ·rename_i v b
  obtain ⟨hp,rfl⟩:=hc
  obtain rfl:=jd ha rfl
  obtain rfl:=ar hp
  refine (Tryz.GN v.toNat v.toNat_lt w (vj hG)).mono ?_
  rintro e w' ⟨rfl,q,os,rfl⟩
  exact ⟨_,rfl,oB _ _ _,fun R w'=>by rw [zp];exact mZ oM⟩
 ·exact hc.elim
theorem fB.ok:bA PG cnGl 145 (fB.c,fB.sg):=gY (by kernel_rfl) fun ti nI w R xs hc ha hR hG=>by
 unfold fB.c at hc
 split at hc
 ·rename_i s n
  obtain ⟨hp,rfl⟩:=hc
  obtain rfl:=jd ha rfl
  obtain ⟨rfl,h1,h2⟩:=ar hp
  obtain ⟨c,rfl⟩:=Int.eq_ofNat_of_zero_le h1
  refine (Any.strings_Repeat Tryz.Gt Tryz.FD ⟨#[48]⟩ c w (by omega) (by show 1 * c≤_;omega)).mono ?_
  rintro e w' ⟨rfl,hb⟩
  refine ⟨_,rfl,hb,fun R w'=>?_⟩
  have e:Lib.repeatL (⟨#[48]⟩:ByteArray).data.toList c=Sh.dU c:=oL c
  rw [e]
  exact mZ oM
 ·exact hc.elim
theorem si {R:Reach} {w:World} {b:Nat}:∀{l:List bz} {off:Nat},iz R w 1 (l.map (fe.tv .ss)) b off→∀j x,l[j]?=some x→R b (off+j)∧w.cell? ⟨b,off+j,none⟩=some (.string ⟨⟨x⟩⟩)
 | [],_,_,j,x,h=>by simp at h
 | s :: r,off,h,j,x,hx=>by
  rw [aX] at h
  cases h with
  | cons h1 h2 =>
   cases h1 with
   | one a b c d e =>
    obtain rfl:=e.of_val rfl
    cases j with
    | zero=>simp at hx;subst hx;exact ⟨b,c⟩
    | succ j =>
     have:=si h2 j x (by simpa using hx)
     rw [show off+1+j=off+(j+1) by omega] at this
     exact this
theorem BK (xs:List ByteArray):Lib.join (xs.map (·.data.toList)) []=(xs.map (·.data.toList)).flatten:=by
 unfold Lib.join
 induction xs with
 | nil=>rfl
 | cons x r ih =>
  cases r with
  | nil=>simp [List.intercalate]
  | cons y r=>simp [List.intercalate,List.intersperse] at ih ⊢;exact ih
theorem st_Join.ok:bA PG cnGl 222 (st_Join.c,st_Join.sg):=gY (by kernel_rfl) fun ti nI w R xs hc ha hR hG=>by
 unfold st_Join.c at hc
 split at hc
 ·rename_i l s
  obtain ⟨hp,rfl⟩:=hc
  obtain ⟨rfl,h1,h2⟩:=ar hp
  cases ha with
  | cons hs ht =>
   cases ht with
   | cons hq ht =>
    obtain rfl:=hq.of_val rfl
    cases ht
    have none_:∀(a:Option Addr) (c:Nat),l=[]→Calls Tryz.prog 222 ⟨[.slice a 0 c,.string ⟨⟨[]⟩⟩]⟩ w fun e w'=>∃x,e = .returned x∧Below w.heap.size w w'∧∀R w',iB R w' [.s l.flatten] [x]:=fun a c h0=>by
     refine (Any.strings_Join_none Tryz.Az Tryz.Hj a c ⟨#[]⟩ w).mono ?_
     rintro e w' ⟨rfl,rfl⟩
     refine ⟨_,rfl,Below.refl _ _,fun R w'=>?_⟩
     rw [h0];exact mZ oM
    cases hs with
    | sc h=>cases h
    | sn=>exact none_ _ _ rfl
    | em _ hc=>exact none_ _ _ rfl
    | @sl _ _ b off n cap e1 e2 e3 hE =>
     subst e1
     by_cases h0:l=[]
     ·rw [h0];rw [h0] at none_;exact none_ _ _ rfl
     ·have iZ:=si hE
      have hb:b<w.heap.size:=by
       obtain ⟨x,hx⟩:∃x,l[0]?=some x:=⟨l[0]'(List.length_pos_iff.2 h0),aq _⟩
       exact hR _ _ (iZ 0 x hx).1
      have ed:(l.map fun s=>(⟨⟨s⟩⟩:ByteArray)).map (·.data.toList)=l:=by rw [List.map_map];exact List.map_id l
      have hj:=BK (l.map fun s=>(⟨⟨s⟩⟩:ByteArray))
      rw [ed] at hj
      have:=Any.strings_Join Tryz.Az Tryz.Hj b off cap (l.map fun s=>(⟨⟨s⟩⟩:ByteArray)) ⟨#[]⟩ w (fun j x hx=>by
       rw [br] at hx
       cases hl:l[j]? with
       | none=>rw [hl] at hx;cases hx
       | some y=>rw [hl] at hx;cases hx;exact (iZ j y hl).2) hb (by rw [bf];omega) (by rw [bf];exact e2) (by rw [ed];show (Lib.join l []).length≤_;rw [hj];omega)
      rw [bf] at this
      refine this.mono ?_
      rintro e w' ⟨rfl,Fy⟩
      refine ⟨_,rfl,Fy,fun R w'=>?_⟩
      rw [ed]
      have e9:Lib.join l (⟨#[]⟩:ByteArray).data.toList=l.flatten:=hj
      rw [e9]
      exact mZ oM
 ·exact hc.elim
end Go.Eng
set_option maxRecDepth 20000
namespace Go.Eng
open Go.IntWalk
theorem s9 {R:Type} {b p:Bool} {x y:Option R} (hp:p=true) (h:b=true→x=y):cond b (both x (ck p y)) (ck p y)=y:=by
 subst hp
 cases b with
 | false=>rfl
 | true=>rw [h rfl];exact Cf _
theorem eI.goal (a:List UInt16) (hp:fC a.length 2=true):eI.F a=some [.sl .ws a]:=by
 rw [eI.eJ]
 exact s9 (by simpa using hp) fun h=>by rw [List.isEmpty_iff.1 h];rfl
theorem fx.goal (l:List Int) (hp:fC l.length 8=true):fx.F l=some [.sl .is l,.sl .is l]:=by
 rw [fx.eJ]
 exact s9 (by simpa using hp) fun h=>by rw [List.isEmpty_iff.1 h];rfl
theorem cN.goal (v:UInt64) (b:Int) (hp:decide (b=10)=true):cN.F v b=some [.s (Nr.dec v.toNat)]:=by
 rw [cN.eJ,hp];rfl
theorem ends {α:Type}:∀m:List α,m=[]∨(∃x,m=[x])∨∃x r y,m=x :: (r++[y])
 | [] => .inl rfl
 | [x] => .inr (.inl ⟨x,rfl⟩)
 | x :: y :: r => .inr (.inr ⟨x,(y :: r).dropLast,(y :: r).getLast (by simp),by rw [List.dropLast_concat_getLast]⟩)
theorem sl_Reverse.cW:∀(n:Nat) (a m b:List bz),m.length≤n→(a++m++b).length≤100000→sl_Reverse.l1 (a.length:Int) ((a.length:Int)+m.length - 1) (a++m++b)=some [.sl .ss (a++m.reverse++b)]:=by
 intro n
 induction n with
 | zero =>
  intro a m b hm hb
  obtain rfl:=List.length_eq_zero_iff.1 (Nat.le_zero.1 hm)
  refine sl_Reverse.bV _ _ _ ?_
  intro v1 h1 v2 h2 v3 h3 v4 h4 v5 h5 v6 h6
  rw [ab (by simp;omega),ae];rfl
 | succ n ih =>
  intro a m b hm hb
  refine sl_Reverse.bV _ _ _ ?_
  intro v1 h1 v2 h2 v3 h3 v4 h4 v5 h5 v6 h6
  rcases ends m with rfl | ⟨x,rfl⟩ | ⟨x,r,y,rfl⟩
  ·rw [ab (by simp;omega),ae];rfl
  ·rw [ab (by simp),ae];rfl
  ·simp only [ao,ay,aB] at hm hb
   have ei:((a.length:Int)).toNat=a.length:=by omega
   have ej:((a.length:Int)+((x :: (r++[y])).length:Int) - 1).toNat=a.length+1+r.length:=by simp;omega
   have hl:(a++(x :: (r++[y]))++b).length=a.length+(r.length+2)+b.length:=by simp;omega
   rw [ej] at h1 h4
   rw [ei] at h2 h3
   have e1:v1=y:=by
    rw [h1,show a++(x :: (r++[y]))++b=(a++x :: r)++y :: b by simp,af,aS (by simp;omega)]
    simp [show a.length+1+r.length - (a.length+(r.length+1))=0 by omega]
   have e2:v2=x:=by
    rw [h2,aG,af,aS (Nat.le_refl _)]
    simp
   have e3:v3=a++(y :: (r++[y]))++b:=by
    rw [h3,e1,aG,aG,List.set_append_right _ _ (Nat.le_refl _)]
    simp
   have e4:v4=(a++[y])++r++(x :: b):=by
    rw [h4,e3,e2,show a++(y :: (r++[y]))++b=(a++y :: r)++y :: b by simp,List.set_append_right _ _ (by simp;omega)]
    simp [show a.length+1+r.length - (a.length+(r.length+1))=0 by omega]
   have e5:v5=((a++[y]).length:Int):=by rw [h5,i64_in _ (by omega)];simp
   have e6:v6=((a++[y]).length:Int)+r.length - 1:=by rw [h6,i64_in _ (by simp;omega)];simp;omega
   have UR:(v3.length:Int)=a.length+(r.length+2)+b.length:=by rw [e3];simp;omega
   have:=ih (a++[y]) r (x :: b) (by omega) (by simp;omega)
   have LQ:((x :: (r++[y])).length:Int)=r.length+2:=by simp;omega
   have OU:v3.length=a.length+(r.length+2)+b.length:=by omega
   rw [aa (by omega),ai,ei,ej,hl,OU,bw (bK (by omega) (by omega)),bw (aa (by omega)),bw (bK (by omega) (by omega)),bw (aa (by omega)),bw (bK (by omega) (by omega)),bw (aa (by omega)),bw (bK (by omega) (by omega)),bw (aa (by omega))]
   rw [e4,e5,e6,this]
   simp
theorem sl_Reverse.goal (l:List bz) (hp:decide (l.length≤100000)=true):sl_Reverse.F l=some [.sl .ss l.reverse]:=by
 refine sl_Reverse.bZ _ ?_
 intro v1 h1
 have hp:=ar hp
 have:=sl_Reverse.cW l.length [] l [] (Nat.le_refl _) (by simpa using hp)
 rw [h1,i64_in _ (by omega)]
 simpa using this
end Go.Eng
set_option maxRecDepth 20000
namespace Go.Eng
open Go.IntWalk
theorem iJ (a:Bool):(!a || a)=true:=by cases a <;> rfl
theorem H4 (a:Bool):(a || !a)=true:=by cases a <;> rfl
theorem wT {t s:bz} (h:t.length≤s.length):List.isPrefixOf t s=decide (s.take t.length=t):=by
 rw [aQ,List.isPrefixOf_iff_prefix,aA,List.prefix_iff_eq_take]
 exact ⟨fun h=>h.symm,fun h=>h.symm⟩
theorem cZ.goal (s t:bz):cZ.F s t=some [.b (List.isPrefixOf t s)]:=by
 refine cZ.bZ _ _ ?_
 intro v1 h1 v2 h2
 rw [bw (iJ _),bw ?_,bw ?_,bw (iJ _)]
 ·congr 3
  rw [h2,h1]
  by_cases h:t.length≤s.length
  ·rw [aa (by omega),ai,wT h];rfl
  ·rw [ab (by omega),ae]
   cases hb:List.isPrefixOf t s with
   | false=>rfl
   | true=>exact absurd (List.isPrefixOf_iff_prefix.1 hb).length_le h
 ·cases decide ((t.length:Int)≤s.length) <;> rfl
 ·by_cases h:t.length≤s.length
  ·rw [jm (by omega) (by omega) (by omega)];cases decide ((t.length:Int)≤s.length) <;> rfl
  ·rw [ab (by omega)];rfl
theorem cY.goal (s t:bz):cY.F s t=some [.b (List.isPrefixOf t s)]:=cY.eJ s t
theorem cX.goal (s:bz) (c:UInt8):cX.F s c=some [.i .i64 (Lib.indexByte s c)]:=cX.eJ s c
theorem yy (x:UInt64):(x &&& (4294967295:UInt64)).toNat=x.toNat % 4294967296:=by
 rw [UInt64.toNat_and]
 exact Nat.and_two_pow_sub_one_eq_mod x.toNat 32
theorem rX (x:UInt64):(dD x (32:UInt64).toNat).toNat=x.toNat / 4294967296:=gQ x 32
theorem fq.goal (a b:UInt64):fq.F a b=some [.u64 (UInt64.ofNat (a.toNat * b.toNat / 18446744073709551616)),.u64 (UInt64.ofNat (a.toNat * b.toNat))]:=by
 refine fq.bZ _ _ ?_
 intro v1 h1 v2 h2 v3 h3 v4 h4 v5 h5 v6 h6 v7 h7 v8 h8
 have ha:=a.toNat_lt
 have hb:=b.toNat_lt
 obtain ⟨k1,k2,k3,k4⟩:=Lib.mul64_hi a.toNat b.toNat ha hb
 have e1:v1.toNat=a.toNat % 4294967296:=by rw [h1,yy]
 have e2:v2.toNat=a.toNat / 4294967296:=by rw [h2,rX]
 have e3:v3.toNat=b.toNat % 4294967296:=by rw [h3,yy]
 have e4:v4.toNat=b.toNat / 4294967296:=by rw [h4,rX]
 have m:∀x y:UInt64,x.toNat≤4294967295→y.toNat≤4294967295→(x * y).toNat=x.toNat * y.toNat:=fun x y hx hy=>by
  rw [UInt64.toNat_mul,Nat.mod_eq_of_lt]
  have:=Lib.half_mul_le hx hy
  omega
 have e5:v5.toNat=a.toNat % 4294967296 * (b.toNat % 4294967296) / 4294967296:=by rw [h5,rX,m _ _ (by omega) (by omega),e1,e3]
 have Q2:(v2 * v3+v5).toNat=a.toNat / 4294967296 * (b.toNat % 4294967296)+a.toNat % 4294967296 * (b.toNat % 4294967296) / 4294967296:=by
  rw [UInt64.toNat_add,m _ _ (by omega) (by omega),e2,e3,e5];exact Nat.mod_eq_of_lt k2
 have e6:v6.toNat=(a.toNat / 4294967296 * (b.toNat % 4294967296)+a.toNat % 4294967296 * (b.toNat % 4294967296) / 4294967296) % 4294967296:=by rw [h6,yy,Q2]
 have e7:v7.toNat=(a.toNat / 4294967296 * (b.toNat % 4294967296)+a.toNat % 4294967296 * (b.toNat % 4294967296) / 4294967296) / 4294967296:=by rw [h7,rX,Q2]
 have e8:v8.toNat=((a.toNat / 4294967296 * (b.toNat % 4294967296)+a.toNat % 4294967296 * (b.toNat % 4294967296) / 4294967296) % 4294967296+a.toNat % 4294967296 * (b.toNat / 4294967296)) / 4294967296:=by
  rw [h8,rX,UInt64.toNat_add,m _ _ (by omega) (by omega),e6,e1,e4]
  congr 1
  exact Nat.mod_eq_of_lt k3
 have hi:((v2 * v4)+v7)+v8=UInt64.ofNat (a.toNat * b.toNat / 18446744073709551616):=by
  apply fI
  rw [UInt64.toNat_add,UInt64.toNat_add,m _ _ (by omega) (by omega),e2,e4,e7,e8,fc,←k4]
  omega
 have lo:a * b=UInt64.ofNat (a.toNat * b.toNat):=by
  apply fI
  rw [UInt64.toNat_mul,fc]
 rw [hi,lo]
theorem Le {a b:dy}:dy.val a=dy.val b ↔ a.high=b.high∧a.low=b.low:=by
 rw [dy.jH,dy.jH]
 have:=a.low.toNat_lt
 have:=b.low.toNat_lt
 exact ⟨fun h=>⟨fI (by omega),fI (by omega)⟩,fun h=>by rw [h.1,h.2]⟩
theorem Ld {a b:dy}:dy.val a<dy.val b ↔ a.high<b.high∨(a.high=b.high∧a.low<b.low):=by
 rw [dy.jH,dy.jH,aV,aV,←bn]
 have:=a.low.toNat_lt
 have:=b.low.toNat_lt
 omega
theorem gI.goal (a b:dy):gI.F a b=some [.i .i64 (cond (decide (dy.val a=dy.val b)) 0 (cond (decide (dy.val a<dy.val b)) (-1) 1))]:=by
 refine gI.bZ _ _ ?_
 intro v1 h1 v2 h2 v3 h3 v4 h4
 have c6:(!(!decide (a.high<b.high)) || ((!decide (a.high<b.high))&&(!decide (a.high=b.high) || v2)))=true:=by
  rw [h2];cases decide (a.high<b.high) <;> cases decide (a.high=b.high) <;> rfl
 have c7:(!v2 || (v2&&v2))=true:=by cases v2 <;> rfl
 have c8:∀x:Bool,(!(!x) || ((!x)&&(!x)))=true:=by decide
 rw [bw (iJ _),bw (iJ _),bw (c8 _),bw (iJ _),bw (iJ _),bw (iJ _),bw c7,bw c6,bw (H4 _)]
 have hv1:v1=decide (dy.val a=dy.val b):=by rw [h1,aZ.2 Le,Bool.decide_and]
 have hv4:v4=decide (dy.val a<dy.val b):=by
  rw [h4,h3,aZ.2 Ld,Bool.decide_or,Bool.decide_and]
  cases decide (a.high<b.high) <;> cases decide (a.high=b.high) <;> rfl
 rw [hv1,hv4]
 cases decide (dy.val a=dy.val b) <;> cases decide (dy.val a<dy.val b) <;> rfl
theorem gU.goal (a b:UInt64):gU.F a b=some [.ag (dy.cells (dy.of (a.toNat * b.toNat)))]:=by
 refine gU.bZ _ _ ?_
 intro v1 h1 v2 h2
 rw [h1,h2];rfl
theorem Lb {n:Nat} (h:n<340282366920938463463374607431768211456):(dy.of n).val=n:=by
 rw [dy.jH];unfold dy.of;simp only [fc];omega
theorem Lc {x v:UInt64} {z:Nat} (_:x.toNat<18446744073709551616) (hz:z<18446744073709551616) (h:v=UInt64.ofNat z):dy.of (x.toNat * 18446744073709551616+z)=⟨x,v⟩:=by
 have h1:UInt64.ofNat ((x.toNat * 18446744073709551616+z) / 18446744073709551616)=x:=by apply fI;rw [fc];omega
 have h2:UInt64.ofNat (x.toNat * 18446744073709551616+z)=v:=by rw [h];apply fI;rw [fc,fc];omega
 unfold dy.of
 rw [h1,h2]
theorem gV.goal (a:dy) (b:UInt64) (hp:(decide (9223372036854775808≤b.toNat))=true):gV.F a b=some [.ag (dy.cells (dy.of (dy.val a / b.toNat))),.u64 (UInt64.ofNat (dy.val a % b.toNat)),.b true]:=by
 have hb:=ar hp
 refine gV.bZ _ _ ?_
 intro v1 h1 v2 h2 v3 h3 v4 h4
 have hl:=b.toNat_lt
 have ha:=a.high.toNat_lt
 have yG:=a.low.toNat_lt
 have h0:(0:UInt64).toNat=0:=rfl
 rw [h0,Nat.zero_mul,Nat.zero_add] at h1 h2
 have e2:v2.toNat=a.high.toNat % b.toNat:=by rw [h2,fc];have:=Nat.mod_lt a.high.toNat (show 0<b.toNat by omega);omega
 have e1:v1.toNat=a.high.toNat / b.toNat:=by rw [h1,fc];exact Nat.mod_eq_of_lt (Nat.lt_of_le_of_lt (Nat.div_le_self ..) ha)
 have hr:=Nat.mod_lt a.high.toNat (show 0<b.toNat by omega)
 rw [ab (fun h=>by rw [h] at hb;simp at hb),ae,bw (aa (by rw [h0];omega)),bw (aa (by rw [e2];omega))]
 have key:dy.val a=b.toNat * (a.high.toNat / b.toNat * 18446744073709551616)+(a.high.toNat % b.toNat * 18446744073709551616+a.low.toNat):=by
  rw [dy.jH]
  conv=>lhs;rw [←Nat.div_add_mod a.high.toNat b.toNat,Nat.add_mul,Nat.mul_assoc]
  omega
 have kd:dy.val a / b.toNat=a.high.toNat / b.toNat * 18446744073709551616+(a.high.toNat % b.toNat * 18446744073709551616+a.low.toNat) / b.toNat:=by
  rw [key,Nat.mul_add_div (by omega)]
 have km:dy.val a % b.toNat=(a.high.toNat % b.toNat * 18446744073709551616+a.low.toNat) % b.toNat:=by
  rw [key,Nat.mul_add_mod]
 have hq:(a.high.toNat % b.toNat * 18446744073709551616+a.low.toNat) / b.toNat<18446744073709551616:=by
  rw [Nat.div_lt_iff_lt_mul (by omega)]
  have:(a.high.toNat % b.toNat+1) * 18446744073709551616≤b.toNat * 18446744073709551616:=ak _ hr
  omega
 rw [e2] at h3 h4
 rw [h4,←km]
 have hd:=Nat.lt_of_le_of_lt (Nat.div_le_self a.high.toNat b.toNat) ha
 rw [←e1] at kd hd
 have ew:dy.of (dy.val a / b.toNat)=⟨v1,v3⟩:=by rw [kd];exact Lc hd hq h3
 rw [ew];rfl
end Go.Eng
set_option maxRecDepth 20000
namespace Go.Eng
open Go.IntWalk
theorem dZ.goal (v:UInt64) (hp:(decide (9223372036854775808≤v.toNat))=true):dZ.F v=some [.i .i64 0]:=by
 have hb:=ar hp
 refine dZ.bZ _ ?_
 intro v1 h1
 have hl:=v.toNat_lt
 have e:Nt.bits v.toNat=64:=Nt.AW (k:=63) hb hl
 rw [h1,e];rfl
section
variable {B u d yh yl q r:Nat}
theorem zA:q * (yh * B+yl)=q * yh * B+q * yl:=by rw [Nat.mul_add,Nat.mul_assoc]
theorem rq (hp:0<yh * B+yl) (hu:u=q * yh+r) (hq:(u * B+d) / (yh * B+yl)≤q) (h:q * yl≤r * B+d):(u * B+d) / (yh * B+yl)=q:=by
 refine Nat.le_antisymm hq ((Nat.le_div_iff_mul_le hp).2 ?_)
 rw [zA,hu,Nat.add_mul];omega
theorem Hx (hp:0<yh * B+yl) (hd:d<B) (HG:u<yh * B+yl) (hu:u=q * yh+r) (h:B≤q∨r * B+d<q * yl) :
  1≤q∧u=(q - 1) * yh+(r+yh)∧(u * B+d) / (yh * B+yl)≤q - 1:=by
 have AI:1≤q:=by
  rcases h with h | h
  ·omega
  ·rcases Nat.eq_zero_or_pos q with e | e
   ·rw [e] at h;omega
   ·exact e
 refine ⟨AI,?_,?_⟩
 ·have:q * yh=(q - 1) * yh+yh:=by
   conv=>lhs;rw [show q=q - 1+1 by omega,Nat.add_mul,Nat.one_mul]
  omega
 ·refine Nat.le_sub_one_of_lt ?_
  rw [Nat.div_lt_iff_lt_mul hp]
  rcases h with h | h
  ·have h1:B * (yh * B+yl)≤q * (yh * B+yl):=ak _ h
   have h2:(u+1) * B≤(yh * B+yl) * B:=ak _ HG
   rw [Nat.mul_comm (yh * B+yl) B] at h2
   rw [Nat.add_mul] at h2
   omega
  ·rw [zA,hu,Nat.add_mul];omega
theorem IY (hy:B≤2 * yh) (KD:yl<B) (HG:u<yh * B+yl):u / yh≤B+1:=by
 refine Nat.le_of_lt_succ ?_
 have hp:0<yh:=by omega
 rw [Nat.div_lt_iff_lt_mul hp]
 have e:(B+1+1) * yh=yh * B+2 * yh:=by rw [Nat.add_assoc,Nat.add_mul,Nat.mul_comm B yh]
 show u<(B+1+1) * yh
 rw [e];omega
theorem DH (hp:0<yh) (hB:0<B) (hd:d<B):(u * B+d) / (yh * B+yl)≤u / yh:=by
 refine Nat.le_of_lt_succ ?_
 have hm:0<yh * B:=Nat.mul_pos hp hB
 rw [Nat.div_lt_iff_lt_mul (by omega)]
 have h:=Nat.lt_mul_div_succ u hp
 have h2:(u+1) * B≤yh * (u / yh+1) * B:=ak _ h
 rw [Nat.add_mul] at h2
 show _<(u / yh+1) * (yh * B+yl)
 rw [zA,Nat.mul_comm (u / yh+1) yh]
 omega
end
theorem bF.LA {Q u:Nat}:∀(k:Nat) (x0 x1 x2 x3 x4 x5 x6 x7 x8:UInt64),4294967296≤x8.toNat+k→2147483648≤x2.toNat→x3.toNat<4294967296→x5.toNat<4294967296→u<x2.toNat * 4294967296+x3.toNat→x8.toNat<4294967296 →
  x2.toNat<4294967296→x7.toNat≤4294967297→u=x7.toNat * x2.toNat+x8.toNat→(u * 4294967296+x5.toNat) / (x2.toNat * 4294967296+x3.toNat)≤x7.toNat→Q=(u * 4294967296+x5.toNat) / (x2.toNat * 4294967296+x3.toNat) →
  bF.l3 x0 x1 x2 x3 x4 x5 x6 x7 x8=bF.j4 x0 x1 x2 x3 x4 x5 x6 (UInt64.ofNat Q):=by
 intro k
 induction k with
 | zero=>intro x0 x1 x2 x3 x4 x5 x6 x7 x8 hk;intros;omega
 | succ k ih =>
  intro x0 x1 x2 x3 x4 x5 x6 x7 x8 hk hy KD hd HG hr BO hq hu hQ eQ
  refine bF.sJ _ _ _ _ _ _ _ _ _ ?_
  intro v1 h1 v2 h2
  have hv1:v1.toNat=x8.toNat * 4294967296+x5.toNat:=by
   rw [h1,UInt64.toNat_add,UInt64.toNat_mul,show (4294967296:UInt64).toNat=4294967296 from rfl];omega
  have hm:(x7 * x3).toNat=x7.toNat * x3.toNat:=by
   rw [UInt64.toNat_mul]
   refine Nat.mod_eq_of_lt ?_
   have:=Nat.mul_le_mul hq (show x3.toNat≤4294967295 by omega)
   omega
  have c1:∀b:Bool,(!(!b) || ((!b)&&(!b)))=true:=by decide
  rw [bw (c1 _),bw (iJ _),bw (c1 _),bw (c1 _),bw (H4 _)]
  have hB:((4294967296:UInt64)≤x7) ↔ 4294967296≤x7.toNat:=aI
  have hL:v1<x7 * x3 ↔ x8.toNat * 4294967296+x5.toNat<x7.toNat * x3.toNat:=by rw [aV,hv1,hm]
  have hv2:v2=decide (4294967296≤x7.toNat∨x8.toNat * 4294967296+x5.toNat<x7.toNat * x3.toNat):=by
   rw [h2,aZ.2 hB,aZ.2 hL,Bool.decide_or]
   cases decide (4294967296≤x7.toNat) <;> rfl
  have hp:0<x2.toNat * 4294967296+x3.toNat:=by omega
  by_cases c:4294967296≤x7.toNat∨x8.toNat * 4294967296+x5.toNat<x7.toNat * x3.toNat
  ·rw [hv2,aa c,ai]
   obtain ⟨g1,g2,g3⟩:=Hx hp hd HG hu c
   have AI:(x7 - (1:UInt64)).toNat=x7.toNat - 1:=by exact UInt64.toNat_sub_of_le _ _ (aI.2 (show (1:UInt64).toNat≤_ from g1))
   have Ck:(x8+x2).toNat=x8.toNat+x2.toNat:=by rw [UInt64.toNat_add];omega
   by_cases c2:4294967296≤x8.toNat+x2.toNat
   ·rw [aa (aI.2 (by rw [Ck];exact c2)),ai]
    have h3:(x7.toNat - 1) * x3.toNat≤(x8.toNat+x2.toNat) * 4294967296+x5.toNat:=by
     have:=Nat.mul_le_mul (show x7.toNat - 1≤4294967296 by omega) (show x3.toNat≤4294967296 by omega)
     have:=ak 4294967296 c2
     omega
    have:=rq hp g2 g3 h3
    rw [show x7 - (1:UInt64)=UInt64.ofNat Q from fI (by rw [AI,fc,eQ,this];omega)]
   ·rw [ab (fun h=>c2 (by have:=aI.1 h;rwa [Ck] at this)),ae]
    exact ih x0 x1 x2 x3 x4 x5 x6 _ _ (by rw [Ck];omega) hy KD hd HG (by rw [Ck];omega) BO (by rw [AI];omega) (by rw [AI,Ck];exact g2) (by rw [AI];exact g3) eQ
  ·rw [hv2,ab c,ae]
   have:=rq hp hu hQ (by omega)
   rw [show x7=UInt64.ofNat Q from fI (by rw [fc,eQ,this];omega)]
theorem bF.Lz {Q u:Nat}:∀(k:Nat) (x0 x1 x2 x3 x4 x5 x6 x7 x8:UInt64),4294967296≤x6.toNat+k→2147483648≤x2.toNat→x3.toNat<4294967296→x4.toNat<4294967296→u<x2.toNat * 4294967296+x3.toNat→x6.toNat<4294967296 →
  x2.toNat<4294967296→x8.toNat≤4294967297→u=x8.toNat * x2.toNat+x6.toNat→(u * 4294967296+x4.toNat) / (x2.toNat * 4294967296+x3.toNat)≤x8.toNat→Q=(u * 4294967296+x4.toNat) / (x2.toNat * 4294967296+x3.toNat) →
  bF.l5 x0 x1 x2 x3 x4 x5 x6 x7 x8=bF.j6 x0 x1 x4 x5 x7 (UInt64.ofNat Q):=by
 intro k
 induction k with
 | zero=>intro x0 x1 x2 x3 x4 x5 x6 x7 x8 hk;intros;omega
 | succ k ih =>
  intro x0 x1 x2 x3 x4 x5 x6 x7 x8 hk hy KD hd HG hr BO hq hu hQ eQ
  refine bF.AB _ _ _ _ _ _ _ _ _ ?_
  intro v1 h1 v2 h2
  have hv1:v1.toNat=x6.toNat * 4294967296+x4.toNat:=by
   rw [h1,UInt64.toNat_add,UInt64.toNat_mul,show (4294967296:UInt64).toNat=4294967296 from rfl];omega
  have hm:(x8 * x3).toNat=x8.toNat * x3.toNat:=by
   rw [UInt64.toNat_mul]
   refine Nat.mod_eq_of_lt ?_
   have:=Nat.mul_le_mul hq (show x3.toNat≤4294967295 by omega)
   omega
  have c1:∀b:Bool,(!(!b) || ((!b)&&(!b)))=true:=by decide
  rw [bw (c1 _),bw (iJ _),bw (c1 _),bw (c1 _),bw (H4 _)]
  have hB:((4294967296:UInt64)≤x8) ↔ 4294967296≤x8.toNat:=aI
  have hL:v1<x8 * x3 ↔ x6.toNat * 4294967296+x4.toNat<x8.toNat * x3.toNat:=by rw [aV,hv1,hm]
  have hv2:v2=decide (4294967296≤x8.toNat∨x6.toNat * 4294967296+x4.toNat<x8.toNat * x3.toNat):=by
   rw [h2,aZ.2 hB,aZ.2 hL,Bool.decide_or]
   cases decide (4294967296≤x8.toNat) <;> rfl
  have hp:0<x2.toNat * 4294967296+x3.toNat:=by omega
  by_cases c:4294967296≤x8.toNat∨x6.toNat * 4294967296+x4.toNat<x8.toNat * x3.toNat
  ·rw [hv2,aa c,ai]
   obtain ⟨g1,g2,g3⟩:=Hx hp hd HG hu c
   have AI:(x8 - (1:UInt64)).toNat=x8.toNat - 1:=by exact UInt64.toNat_sub_of_le _ _ (aI.2 (show (1:UInt64).toNat≤_ from g1))
   have Ck:(x6+x2).toNat=x6.toNat+x2.toNat:=by rw [UInt64.toNat_add];omega
   by_cases c2:4294967296≤x6.toNat+x2.toNat
   ·rw [aa (aI.2 (by rw [Ck];exact c2)),ai]
    have h3:(x8.toNat - 1) * x3.toNat≤(x6.toNat+x2.toNat) * 4294967296+x4.toNat:=by
     have:=Nat.mul_le_mul (show x8.toNat - 1≤4294967296 by omega) (show x3.toNat≤4294967296 by omega)
     have:=ak 4294967296 c2
     omega
    have:=rq hp g2 g3 h3
    rw [show x8 - (1:UInt64)=UInt64.ofNat Q from fI (by rw [AI,fc,eQ,this];omega)]
   ·rw [ab (fun h=>c2 (by have:=aI.1 h;rwa [Ck] at this)),ae]
    exact ih x0 x1 x2 x3 x4 x5 _ x7 _ (by rw [Ck];omega) hy KD hd HG (by rw [Ck];omega) BO (by rw [AI];omega) (by rw [AI,Ck];exact g2) (by rw [AI];exact g3) eQ
  ·rw [hv2,ab c,ae]
   have:=rq hp hu hQ (by omega)
   rw [show x8=UInt64.ofNat Q from fI (by rw [fc,eQ,this];omega)]
theorem IE (x:UInt64):iK x (UInt64.ofInt 0).toNat=x:=by
 apply fI;unfold iK;rw [fc,show (UInt64.ofInt 0).toNat=0 from rfl];have:=x.toNat_lt;omega
theorem Ob (x:UInt64):dD x (UInt64.ofInt 0).toNat=x:=by
 apply fI;rw [gQ,show (UInt64.ofInt 0).toNat=0 from rfl];omega
theorem Dy {a d q y:UInt64} {N Q t:Nat} (hN:N=a.toNat * 4294967296+d.toNat) (hQ:q.toNat=Q) (ht:N=Q * y.toNat+t) (h:t<18446744073709551616):(((a * (4294967296:UInt64))+d) - (q * y)).toNat=t:=by
 have e1:((a * (4294967296:UInt64))+d).toNat=N % 18446744073709551616:=by
  rw [UInt64.toNat_add,UInt64.toNat_mul,show (4294967296:UInt64).toNat=4294967296 from rfl,hN];omega
 have e2:(q * y).toNat=(Q * y.toNat) % 18446744073709551616:=by rw [UInt64.toNat_mul,hQ]
 rw [UInt64.toNat_sub,e1,e2,ht]
 generalize Q * y.toNat=P
 omega
theorem FN {x y:UInt64}:(x - x / y * y).toNat=x.toNat % y.toNat:=by
 have h:=Nat.div_add_mod x.toNat y.toNat
 rw [Nat.mul_comm] at h
 have hl:=x.toNat_lt
 have e:(x / y * y).toNat=x.toNat / y.toNat * y.toNat:=by
  rw [UInt64.toNat_mul,UInt64.toNat_div];exact Nat.mod_eq_of_lt (by omega)
 rw [UInt64.toNat_sub_of_le _ _ (aI.2 (by rw [e];omega)),e]
 omega
theorem HZ {n y q:Nat} (hy:0<y) (h:n / y=q):∃t,n=q * y+t∧t<y:=⟨n % y,by rw [←h,Nat.mul_comm];exact (Nat.div_add_mod ..).symm,Nat.mod_lt _ hy⟩
theorem Mz {x z:Nat} (hx:x<4294967296) (hz:z<4294967296):UInt64.ofNat x * (4294967296:UInt64)+UInt64.ofNat z=UInt64.ofNat (x * 4294967296+z):=by
 apply fI
 rw [UInt64.toNat_add,UInt64.toNat_mul,show (4294967296:UInt64).toNat=4294967296 from rfl]
 simp only [fc]
 omega
theorem FI {N hi b d1 d0 y q1 q0 t1 t0:Nat} (h1:hi * 4294967296+d1=q1 * y+t1) (h0:t1 * 4294967296+d0=q0 * y+t0) (ht:t0<y) (hb:b=d1 * 4294967296+d0) (hN:N=hi * 18446744073709551616+b):N / y=q1 * 4294967296+q0∧N % y=t0:=by
 have e:N=y * (q1 * 4294967296+q0)+t0:=by
  have x2:∀B:Nat,y * (q1 * B+q0)=q1 * y * B+q0 * y:=fun B=>by
   rw [Nat.mul_add,Nat.mul_comm y q0,←Nat.mul_assoc,Nat.mul_comm y q1]
  have x3:=x2 4294967296
  omega
 rw [e,Nat.mul_add_div (by omega),Nat.div_eq_of_lt ht,Nat.add_zero,Nat.mul_add_mod,Nat.mod_eq_of_lt ht]
 exact ⟨rfl,rfl⟩
theorem bF.goal (a b y:UInt64) (hp:(decide (9223372036854775808≤y.toNat∧a.toNat<y.toNat))=true):bF.F a b y=some [.u64 (UInt64.ofNat ((a.toNat * 18446744073709551616+b.toNat) / y.toNat)),.u64 (UInt64.ofNat ((a.toNat * 18446744073709551616+b.toNat) % y.toNat))]:=by
 obtain ⟨hy,ha⟩:=ar hp
 have KD:=y.toNat_lt
 have Fy:=b.toNat_lt
 rw [bF.eJ,ab (fun h=>by rw [h] at hy;exact absurd hy (by decide)),ae,bF.lp,ab (fun h=>by have:=aI.1 h;omega),ae]
 refine bF.jg _ _ _ ?_
 intro v1 h1 v2 h2 v3 h3 v4 h4 v5 h5 v6 h6 v7 h7 v8 h8 v9 h9
 have P5:(!decide (y=0))=true:=by rw [ab (fun h=>by rw [h] at hy;exact absurd hy (by decide))];rfl
 by_cases c:a=0
 ·rw [aa c,ai,bw P5,c,show (0:UInt64).toNat=0 from rfl,Nat.zero_mul,Nat.zero_add]
  rw [show b / y=UInt64.ofNat (b.toNat / y.toNat) from fI (by rw [UInt64.toNat_div,fc];exact (Nat.mod_eq_of_lt (Nat.lt_of_le_of_lt (Nat.div_le_self ..) Fy)).symm),
   show b % y=UInt64.ofNat (b.toNat % y.toNat) from fI (by rw [UInt64.toNat_mod,fc];exact (Nat.mod_eq_of_lt (Nat.lt_of_le_of_lt (Nat.mod_le ..) Fy)).symm),bw P5]
 rw [ab c,ae,bw (aa hy)]
 have e1:v1=y:=by rw [h1,IE]
 have e4:v4=a:=by rw [h4,IE]
 have e7:v7=b:=by rw [h7,IE]
 have e5:v5.toNat=64:=by rw [h5];rfl
 have e6:v6=a:=by
  rw [h6,e4,e5]
  have:dD b 64=0:=by apply fI;rw [gQ];show _=0;omega
  rw [this];apply fI;rw [UInt64.toNat_or];exact Nat.or_zero _
 have n2:v2.toNat=y.toNat / 4294967296:=by rw [h2,e1,rX]
 have n3:v3.toNat=y.toNat % 4294967296:=by rw [h3,e1,yy]
 have n8:v8.toNat=b.toNat / 4294967296:=by rw [h8,e7,rX]
 have n9:v9.toNat=b.toNat % 4294967296:=by rw [h9,e7,yy]
 have hv2:(!decide (v2=0))=true:=by
  rw [ab (fun h=>by rw [h] at n2;have:(0:UInt64).toNat=0:=rfl;omega)];rfl
 have hY:v2.toNat * 4294967296+v3.toNat=y.toNat:=by omega
 have QT:v8.toNat<4294967296:=by omega
 have QS:v9.toNat<4294967296:=by omega
 have Pu:v3.toNat<4294967296:=by omega
 have QV:v2.toNat<4294967296:=by omega
 have QW:2147483648≤v2.toNat:=by omega
 have first:∀(u:UInt64) (d:Nat),u.toNat<y.toNat→d<4294967296→(u / v2).toNat≤4294967297∧u.toNat=(u / v2).toNat * v2.toNat+(u - u / v2 * v2).toNat∧(u.toNat * 4294967296+d) / (v2.toNat * 4294967296+v3.toNat)≤(u / v2).toNat∧(u - u / v2 * v2).toNat<4294967296:=fun u d hu hd=>by
  rw [FN,UInt64.toNat_div]
  refine ⟨IY (B:=4294967296) (by omega) Pu (by rw [hY];exact hu),?_,DH (by omega) (by omega) hd,?_⟩
  ·rw [Nat.mul_comm];exact (Nat.div_add_mod ..).symm
  ·have:=Nat.mod_lt u.toNat (show 0<v2.toNat by omega);omega
 rw [bw hv2,e1,e6]
 obtain ⟨f1,f2,f3,f4⟩:=first a v8.toNat ha QT
 obtain ⟨Q1,Pm⟩:∃q,(a.toNat * 4294967296+v8.toNat) / y.toNat=q:=⟨_,rfl⟩
 rw [bF.LA (Q:=Q1) (u:=a.toNat) 4294967296 y (UInt64.ofInt 0) v2 v3 a v8 v9 (a / v2) (a - a / v2 * v2) (by omega) QW Pu QT (by rw [hY];exact ha) f4 QV f1 f2 f3 (by rw [hY,Pm])]
 refine bF.DO _ _ _ _ _ _ _ _ ?_
 intro w1 g1 w2 g2
 have RY:Q1<4294967296:=by
  rw [←Pm,Nat.div_lt_iff_lt_mul (by omega)]
  have:=ak 4294967296 (show a.toNat+1≤y.toNat from ha)
  rw [Nat.mul_comm 4294967296 y.toNat];omega
 obtain ⟨t1,QI,ht1⟩:=HZ (show 0<y.toNat by omega) Pm
 have HH:(w1 - UInt64.ofNat Q1 * y).toNat=t1:=by rw [g1];exact Dy rfl (by rw [fc];omega) QI (by omega)
 rw [bw hv2,g2]
 obtain ⟨u1,hu⟩:∃u,w1 - UInt64.ofNat Q1 * y=u:=⟨_,rfl⟩
 rw [hu] at HH ⊢
 obtain ⟨k1,k2,k3,k4⟩:=first u1 v9.toNat (by rw [HH];exact ht1) QS
 obtain ⟨Q0,JG⟩:∃q,(t1 * 4294967296+v9.toNat) / y.toNat=q:=⟨_,rfl⟩
 rw [bF.Lz (Q:=Q0) (u:=u1.toNat) 4294967296 y (UInt64.ofInt 0) v2 v3 v9 (UInt64.ofNat Q1) (u1 - u1 / v2 * v2) u1 (u1 / v2) (by omega) QW Pu QS (by rw [hY,HH];exact ht1) k4 QV k1 k2 k3 (by rw [hY,HH,JG])]
 refine bF.DM _ _ _ _ _ _ ?_
 intro z1 j1 z2 j2 z3 j3
 have RZ:Q0<4294967296:=by
  rw [←JG,Nat.div_lt_iff_lt_mul (by omega)]
  have:=ak 4294967296 (show t1+1≤y.toNat from ht1)
  rw [Nat.mul_comm 4294967296 y.toNat];omega
 obtain ⟨t0,HT,ht0⟩:=HZ (show 0<y.toNat by omega) JG
 have hr:z3.toNat=t0:=by
  rw [j3,Ob,j2]
  exact Dy (N:=t1 * 4294967296+v9.toNat) (by rw [HH]) (by rw [fc];omega) HT (by omega)
 rw [j1,Mz RY RZ,show z3=UInt64.ofNat t0 from fI (by rw [hr,fc];omega)]
 obtain ⟨x1,x2⟩:=FI (hi:=a.toNat) (b:=b.toNat) QI HT ht0 (by omega) rfl
 rw [x1,x2]
end Go.Eng
set_option maxRecDepth 20000
namespace Go.Eng
open Go.IntWalk
theorem fE.goal:fE.F=some [.ag (dy.cells Cn.sB)]:=by
 refine fE.bZ ?_
 intro v1 h1
 have:dy.of ((100000000000000000:UInt64).toNat * (100000000000000000:UInt64).toNat)=Cn.sB:=by kernel_rfl
 rw [h1,this]
theorem Dr:dy.val Cn.sB=10000000000000000000000000000000000:=by
 rw [dy.jH];rfl
theorem Kc {a b:Nat}:(0:Int)≤cond (decide (a=b)) 0 (cond (decide (a<b)) (-1) 1) ↔ b≤a:=by
 by_cases h:a=b
 ·rw [aa h];simp;omega
 ·rw [ab h,ae]
  by_cases h2:a<b
  ·rw [aa h2,ai];omega
  ·rw [ab h2,ae];omega
theorem m14 (x:UInt64):((x &&& (16383:UInt64)).toNat:Int)<16384:=by
 rw [UInt64.toNat_and,show (16383:UInt64).toNat=2 ^ 14 - 1 from rfl,Nat.and_two_pow_sub_one_eq_mod];omega
theorem Ej (x:UInt64):IntKind.i64.wrap (IntKind.i64.wrap ((x &&& (16383:UInt64)).toNat:Int) - 6176)=((x &&& (16383:UInt64)).toNat:Int) - 6176:=by
 have:=m14 x
 rw [show IntKind.i64.wrap ((x &&& (16383:UInt64)).toNat:Int)=((x &&& (16383:UInt64)).toNat:Int) from i64_in _ (by omega),i64_in _ (by omega)]
theorem yg (a:Nat):decide ((0:Int)≤cond (decide (a=dy.val Cn.sB)) 0 (cond (decide (a<dy.val Cn.sB)) (-1) 1))=decide (10000000000000000000000000000000000≤a):=aZ.2 (Kc.trans (by rw [Dr]))
theorem uV (a b:Bool):cond a b false=(a&&b):=by cases a <;> rfl
theorem dh.goal (h l:UInt64):dh.F h l=some [.i .i64 (Cn.split h l).1,.b (Cn.split h l).2.1,.ag (dy.cells (Cn.split h l).2.2.1),.i .i64 (Cn.split h l).2.2.2]:=by
 refine dh.bZ _ _ ?_
 intro v1 h1 v2 h2 v3 h3 v4 h4 v5 h5 v6 h6 v7 h7 v8 h8 v9 h9 v10 iA
 rw [Cn.split_eq]
 unfold Cn.pO
 simp only
 have e1:v1=dD h 63:=h1
 have e2:v2=dD h 58:=h2
 have e6:v6=dD h 47:=h6
 have e8:v8=((dD h 47 &&& 16383).toNat:Int) - 6176:=by rw [h8,h7,e6];exact Ej _
 have e5:v5=dD (dD h 58 &&& 31) 3:=by rw [h5,e2];rfl
 rw [h3,h4,e1,e2,e5,e8]
 by_cases c1:dD h 58 &&& 31=31
 ·rw [aa c1,ai,aw c1];rfl
 rw [ab c1,ae,au c1]
 by_cases c2:dD h 58 &&& 31=30
 ·rw [aa c2,ai,aw c2];rfl
 rw [ab c2,ae,au c2]
 by_cases c3:dD (dD h 58 &&& 31) 3=3
 ·rw [aa c3,ai,aw c3];rfl
 rw [ab c3,ae,au c3,iA,yg,h9]
 by_cases c4:dy.val ⟨h &&& 562949953421311,l⟩<10000000000000000000000000000000000
 ·rw [ab (by omega),ae,aw c4]
  refine dh.iI _ _ _ _ ?_
  intro w1 g1 w2 g2 w3 g3
  rw [g3,g2,Ej,g1];rfl
 ·rw [aa (by omega),ai,au c4]
  refine dh.iI _ _ _ _ ?_
  intro w1 g1 w2 g2 w3 g3
  rw [g3,g2,Ej,g1];rfl
theorem dS.goal (n:Bool) (c:dy) (x:Int) (hp:(Nr.i64 x)=true):dS.F n c x=some [.u64 (Cn.join n c x).1,.u64 (Cn.join n c x).2.1,.b (Cn.join n c x).2.2]:=by
 refine dS.bZ _ _ _ ?_
 intro v1 h1 v2 h2 v3 h3 v4 h4 v5 h5 v6 h6
 have c1:∀b:Bool,(!(!b) || (!b))=true:=by decide
 rw [bw (c1 _),bw (H4 _),bw (c1 _),bw (H4 _)]
 rw [Cn.join_eq]
 unfold Cn.AD
 have e3:v3=decide (10000000000000000000000000000000000≤c.val∨x < -6176∨6111<x):=by
  rw [h3,h2,h1,yg,Bool.decide_or,Bool.decide_or]
  cases decide (10000000000000000000000000000000000≤c.val) <;> cases decide (x < -6176) <;> rfl
 rw [e3]
 by_cases k:10000000000000000000000000000000000≤c.val∨x < -6176∨6111<x
 ·rw [aa k,ai,aw k]
 ·rw [ab k,ae,au k]
  have e4:v4=x+6176:=by rw [h4,i64_in _ (by omega)]
  have e5:v5=iK (UInt64.ofInt (x+6176)) 49:=by rw [h5,e4];rfl
  rw [dS.lp,dS.lp,h6,e5]
  cases n <;> rfl
theorem sR (x:Int):Nr.i64 (IntKind.i64.wrap x)=true:=by
 have h:=IntKind.wrap_i64 x
 unfold Nr.i64
 exact aa (by omega)
theorem pN (h l:UInt64) : -6176≤(Cn.split h l).2.2.2∧(Cn.split h l).2.2.2<16384:=by
 rw [Cn.split_eq]
 unfold Cn.pO
 simp only
 have:=m14 (dD h 47)
 have:=m14 (dD h 49)
 split
 ·exact ⟨show (-6176:Int)≤0 by decide,show (0:Int)<16384 by decide⟩
 split
 ·exact ⟨show (-6176:Int)≤0 by decide,show (0:Int)<16384 by decide⟩
 split <;> dsimp only <;> omega
theorem fw.goal (h l:UInt64):fw.F h l=some [.b (Cn.pX h l)]:=by
 refine fw.bZ _ _ ?_
 intro v1 h1 v2 h2 v3 h3 v4 h4 v5 h5 v6 h6 v7 h7 v8 h8
 have c6:∀x:Bool,(!x || (x&&x))=true:=by decide
 have hx:=pN h l
 have Sm:Nr.i64 (Cn.split h l).2.2.2=true:=aa (by omega)
 rw [bw (iJ _),bw (iJ _),bw (iJ _),bw (iJ _),bw Sm,bw (c6 _),bw (iJ _),bw (c6 _),bw (iJ _)]
 unfold Cn.pX
 simp only
 by_cases c1:(Cn.split h l).1=3
 ·rw [aa c1,ai,aw c1,h1,uV]
 rw [ab c1,ae,au c1]
 by_cases c2:(Cn.split h l).1=2
 ·rw [aa c2,ai,aw c2,h3,h2,uV]
 rw [ab c2,ae,au c2,h8,h7,h6,h5,h4,uV,uV]
end Go.Eng
set_option maxRecDepth 20000
namespace Go.Eng
namespace Nr
theorem IT {p q:Nat} (h:p<q):mK p<mK q:=by
 rw [kH,kH]
 have h1:=yA h
 have h2:=yA (show p+1<q+1 by omega)
 omega
theorem th {a b p q:Nat} (hb:0<b) (h:fZ a b p) (hq:q<p):fZ a b q:=by
 have h1:mK q * b<mK p * b:=Nat.mul_lt_mul_of_pos_right (IT hq) hb
 rcases h with h | ⟨h,_⟩
 ·exact .inl (Nat.lt_trans h1 h)
 ·exact .inl (by omega)
theorem lW {a b p:Nat} (hb:0<b) (hp:p≤top) (h1:¬fZ a b p) (h2:p=0∨fZ a b (p - 1)):gZ a b=some p:=by
 classical
 have Me:∀q,q<p→fZ a b q:=fun q hq=>by
  rcases h2 with h2 | h2
  ·omega
  ·by_cases c:q=p - 1
   ·rw [c];exact h2
   ·exact th hb h2 (by omega)
 have hx:∃p,p≤top∧¬fZ a b p∧∀q,q<p→fZ a b q:=⟨p,hp,h1,Me⟩
 unfold gZ
 rw [dif_pos hx]
 obtain ⟨_,c2,c3⟩:=hx.choose_spec
 congr 1
 rcases Nat.lt_trichotomy hx.choose p with c | c | c
 ·exact (c2 (Me _ c)).elim
 ·exact c
 ·exact (h1 (c3 _ c)).elim
theorem qc {a b:Nat} (hb:0<b) (h:fZ a b top):gZ a b=none:=by
 classical
 unfold gZ
 rw [dif_neg]
 rintro ⟨p,h1,h2,_⟩
 rcases Nat.lt_or_eq_of_le h1 with c | c
 ·exact h2 (th hb h c)
 ·exact h2 (by rw [c];exact h)
theorem yz {a b c p:Nat} (hc:0<c):fZ (a * c) (b * c) p ↔ fZ a b p:=by
 unfold fZ
 rw [←Nat.mul_assoc,Nat.mul_right_comm a c]
 constructor
 ·rintro (h | ⟨h,o⟩)
  ·exact .inl (Nat.lt_of_mul_lt_mul_right h)
  ·exact .inr ⟨Nat.eq_of_mul_eq_mul_right hc h,o⟩
 ·rintro (h | ⟨h,o⟩)
  ·exact .inl (Nat.mul_lt_mul_of_pos_right h hc)
  ·exact .inr ⟨by rw [h],o⟩
theorem sA {a b c:Nat} (hc:0<c):gZ (a * c) (b * c)=gZ a b:=by
 have e:fZ (a * c) (b * c)=fZ a b:=funext fun p=>propext (yz hc)
 unfold gZ
 rw [e]
theorem zl {a b c d:Nat} (hb:0<b) (hd:0<d) (h:a * d=c * b):gZ a b=gZ c d:=by
 rw [←sA (a:=a) (b:=b) hd,h,Nat.mul_comm b d,sA hb]
theorem wQ {a b c d:Nat} (h:a+b=c+d):2 ^ a * 2 ^ b=2 ^ c * 2 ^ d:=by rw [←Nat.pow_add,h,Nat.pow_add]
theorem mul_two {a T U:Nat} (h:U=2 * T):a * U=2 * (a * T):=by rw [h,Nat.mul_left_comm]
theorem II (k:Nat):2 ^ (6+k)=64 * 2 ^ k:=by rw [Nat.pow_add]
theorem Dq {n b p q r s:Nat} (h:p * q=r * s):n * p * b * q=n * (b * r) * s:=by
 rw [Nat.mul_assoc n p,Nat.mul_assoc n,Nat.mul_right_comm p,h,Nat.mul_assoc n,Nat.mul_comm (r * s),Nat.mul_assoc b]
theorem jJ:ig=2 * 2 ^ 1074:=by decide +kernel
theorem BC {p q b a:Nat} (h:p * b≤a):p * q * b≤a * q:=by
 rw [Nat.mul_right_comm];exact ak _ h
theorem LJ {v p q b a:Nat} (hv:v=p * q) (h:p * b≤a):v * b≤a * q:=by subst hv;exact BC h
theorem Gg {a b p:Nat} (hb:0<b) (h1:V p * b≤a * 2 ^ 1074) (h2:a * 2 ^ 1074<V (p+1) * b) (hp:p≤top) [Decidable (fZ a b p)] :
  gZ a b=if fZ a b p then (if p+1≤top then some (p+1) else none) else some p:=by
 have e:a * ig=2 * (a * 2 ^ 1074):=mul_two jJ
 split
 ·rename_i h
  split
  ·rename_i ht
   refine lW hb ht ?_ (.inr h)
   unfold fZ
   rw [e,kH,Nat.add_mul]
   have:=Nat.mul_lt_mul_of_pos_right (kC (p+1)) hb
   omega
  ·rename_i ht
   have:p=top:=by omega
   exact qc hb (this ▸ h)
 ·rename_i h
  refine lW hb hp h ?_
  by_cases c:p=0
  ·exact .inl c
  ·refine .inr (.inl ?_)
   rw [e,kH,Nat.add_mul,show p - 1+1=p by omega]
   have:=Nat.mul_lt_mul_of_pos_right (yA (show p - 1<p by omega)) hb
   omega
theorem Dp {a b p:Nat} (hb:0<b) (h1:V p * b≤a * 2 ^ 1074) (hp:top<p):gZ a b=none:=by
 refine qc hb (.inl ?_)
 have e:a * ig=2 * (a * 2 ^ 1074):=mul_two jJ
 rw [e,kH,Nat.add_mul]
 have h3:=Nat.mul_lt_mul_of_pos_right (yA (show top<p by omega)) hb
 have h4:=ak b (MK (show top+1≤p by omega))
 omega
theorem By (b:Nat) (hb:0<b):gZ 0 b=some 0:=by
 refine lW hb (Nat.zero_le _) ?_ (.inl rfl)
 unfold fZ
 rw [Nat.zero_mul]
 have:0<mK 0 * b:=Nat.mul_pos (by decide) hb
 omega
theorem Dn {a b:Nat} (hb:0<b) (h:a * ig≤b):gZ a b=some 0:=by
 refine lW hb (Nat.zero_le _) ?_ (.inl rfl)
 unfold fZ
 have e:mK 0 * b=b:=by rw [show mK 0=1 by decide,Nat.one_mul]
 rw [e]
 omega
def vc:Nat:=2 ^ 1024
theorem Kr:V (top+1)=vc * 2 ^ 1074:=by decide +kernel
theorem Bz {a b:Nat} (hb:0<b) (h:vc * b≤a):gZ a b=none:=by
 refine qc hb (.inl ?_)
 rw [kH,Nat.add_mul]
 have h3:=Nat.mul_lt_mul_of_pos_right (kC top) hb
 have h4:V (top+1) * b≤a * 2 ^ 1074:=by
  exact LJ Kr h
 have e:a * ig=2 * (a * 2 ^ 1074):=mul_two jJ
 omega
theorem Gi {a b p:Nat} (h:gZ a b=some p):p≤top:=by
 unfold gZ at h
 split at h
 ·rename_i hx
  have:=hx.choose_spec.1
  injection h with h
  rw [h] at this;exact this
 ·cases h
end Nr
end Go.Eng
set_option maxRecDepth 20000
namespace Go.Eng
open Go.IntWalk
theorem wB {a b:List UInt16} (i:Nat) (ha:i<a.length) (hb:i<b.length) (h:(a.getD i 0).toNat<(b.getD i 0).toNat):Nt.val (a.take (i+1))<Nt.val (b.take (i+1)):=by
 rw [dn a i ha,dn b i hb]
 have h1:=Nt.gW (a.take i)
 rw [aF,Nat.min_eq_left (by omega)] at h1
 generalize (a.getD i 0).toNat=x at *
 generalize (b.getD i 0).toNat=y at *
 have:65536 ^ i * x+65536 ^ i≤65536 ^ i * y:=by
  rw [←Nat.mul_succ];exact Nat.mul_le_mul_left _ (by omega)
 omega
theorem vN {a b:List UInt16} (hl:a.length=b.length) (i:Nat) (h:a.drop i=b.drop i):(Nt.val a<Nt.val b ↔ Nt.val (a.take i)<Nt.val (b.take i))∧(Nt.val a=Nt.val b ↔ Nt.val (a.take i)=Nt.val (b.take i)):=by
 have e1:Nt.val a=Nt.val (a.take i)+65536 ^ (a.take i).length * Nt.val (a.drop i):=by rw [←Nt.fJ,List.take_append_drop]
 have e2:Nt.val b=Nt.val (b.take i)+65536 ^ (b.take i).length * Nt.val (b.drop i):=by rw [←Nt.fJ,List.take_append_drop]
 have e3:(b.take i).length=(a.take i).length:=by rw [aF,aF,hl]
 rw [e3,←h] at e2
 omega
theorem eC.cW (a b:List UInt16) (hl:a.length=b.length) (hb:a.length≤1099511627776):∀(n:Nat),n≤a.length→a.drop n=b.drop n→eC.l1 a b ((n:Int) - 1)=some [.i .i64 (Nt.cmp (Nt.val a) (Nt.val b))]:=by
 intro n
 induction n with
 | zero =>
  intro hn hd
  refine eC.bV _ _ _ ?_
  intro v1 h1 v2 h2 v3 h3
  simp only [bh] at hd
  rw [ab (by omega),ae,hd,Nt.cmp,au (by omega),aw rfl]
 | succ n ih =>
  intro hn hd
  refine eC.bV _ _ _ ?_
  intro v1 h1 v2 h2 v3 h3
  have e:((n+1:Nat):Int) - 1=(n:Int):=by omega
  rw [e] at h1 h2 h3 ⊢
  rw [aj] at h1 h2
  rw [aa (by omega),ai,bw (bK (by omega) (by omega)),bw (bK (by omega) (by omega))]
  obtain ⟨d1,d2⟩:=vN hl (n+1) hd
  by_cases c:v1=v2
  ·rw [aa c,aH,ae,h3,i64_in _ (by omega)]
   refine ih (by omega) ?_
   rw [drop_cons (show n<a.length by omega) 0,drop_cons (show n<b.length by omega) 0,hd,←h1,←h2,c]
  ·rw [ab c,aM,ai,bw (bK (by omega) (by omega)),bw (bK (by omega) (by omega))]
   by_cases c2:v1<v2
   ·have:=wB (a:=a) (b:=b) n (by omega) (by omega) (by rw [←h1,←h2];exact UInt16.lt_iff_toNat_lt.1 c2)
    rw [aa c2,ai,Nt.cmp,aw (d1.2 this)]
   ·have h4:v2.toNat<v1.toNat:=by
     have h5:v1.toNat≠v2.toNat:=fun e=>c (UInt16.toNat_inj.1 e)
     rw [UInt16.lt_iff_toNat_lt] at c2;omega
    have:=wB (a:=b) (b:=a) n (by omega) (by omega) (by rw [←h1,←h2];exact h4)
    rw [ab c2,ae,Nt.cmp,au (fun e=>by have:=d1.1 e;omega),au (fun e=>by have:=d2.1 e;omega)]
theorem eC.goal (a b:List UInt16) (hp:(decide (a.length≤1099511627776∧b.length≤1099511627776)&&(Nt.norm a&&Nt.norm b))=true):eC.F a b=some [.i .i64 (Nt.cmp (Nt.val a) (Nt.val b))]:=by
 simp only [ah,aA] at hp
 obtain ⟨⟨l1,l2⟩,n1,n2⟩:=hp
 refine eC.bZ _ _ ?_
 intro v1 h1
 rcases Nat.lt_trichotomy a.length b.length with c | c | c
 ·have:=Nt.qf n2 c
  rw [ab (show ¬(a.length:Int)=b.length by omega),aM,ai,aa (by omega),ai,Nt.cmp,aw this]
 ·rw [aa (show (a.length:Int)=b.length by omega),aH,ae,h1,vr l1]
  exact eC.cW a b c l1 a.length (Nat.le_refl _) (by rw [List.drop_length,c,List.drop_length])
 ·have:=Nt.qf n1 c
  rw [ab (show ¬(a.length:Int)=b.length by omega),aM,ai,ab (by omega),ae,Nt.cmp,au (by omega),au (by omega)]
theorem fW.goal (a b:List UInt16) (hp:(Nt.is a&&Nt.is b)=true):fW.F a b=some [.i .i64 (Nt.cmp (Nt.val a) (Nt.val b))]:=by
 simp only [ah] at hp
 have l1:=Nt.iY hp.1
 have l2:=Nt.iY hp.2
 refine fW.bZ _ _ ?_
 intro v1 h1 v2 h2
 rw [hp.1,hp.2] at h1
 rw [hp.1]
 have e1:v1=false:=h1
 have d1:decide (a.length≤1099511627776)=true:=aa (by omega)
 have d2:decide (b.length≤1099511627776)=true:=aa (by omega)
 have d3:decide (a.length≤1099511627776∧b.length≤1099511627776)=true:=aa ⟨by omega,by omega⟩
 rw [d1,d2,d3,e1,h2,Nt.iS hp.1,Nt.iS hp.2]
 rfl
theorem cq.cW (a:List UInt16) (ha:a.length≤256):∀(m i:Nat) (acc:List Int),i+m=a.length→acc.length=a.length→(acc.take i)=(a.take i).map (fun d=>(d.toNat:Int))→cq.l1 a a.length i acc=some [.sl .is (a.map fun d=>(d.toNat:Int))]:=by
 intro m
 induction m with
 | zero =>
  intro i acc hi hl ht
  refine cq.bV _ _ _ _ ?_
  intro v1 h1 v2 h2 v3 h3 v4 h4
  rw [List.take_of_length_le (by omega),List.take_of_length_le (by omega)] at ht
  rw [ab (by omega),ae,ht]
 | succ m ih =>
  intro i acc hi hl ht
  refine cq.bV _ _ _ _ ?_
  intro v1 h1 v2 h2 v3 h3 v4 h4
  rw [aj] at h1 h3
  have hv:=v1.toNat_lt
  rw [i64_in _ (by omega)] at h2
  have e4:v4=((i+1:Nat):Int):=by rw [h4,i64_in _ (by omega)];omega
  rw [aa (by omega),ai,bw (bK (by omega) (by omega)),bw (bK (by omega) (by omega)),bw (aa (by rw [aj];omega)),e4]
  refine ih (i+1) v3 (by omega) (by rw [h3,List.length_set];exact hl) ?_
  have HN:i<a.length:=by omega
  rw [h3,List.take_set,List.take_add_one,List.take_add_one,List.map_append,ht.symm]
  have LW:i<acc.length:=by omega
  rw [aq LW,aq HN]
  have fO:(acc.take i).length=i:=by rw [aF];omega
  simp only [Option.toList_some,aX,List.map_nil]
  rw [List.set_append_right _ _ (by omega),fO,Nat.sub_self,List.set_cons_zero,h2,h1,af,aq HN]
  rfl
theorem cq.goal (a:List UInt16) (hp:decide (a.length≤256)=true):cq.F a=some [.sl .is (a.map fun d=>(d.toNat:Int))]:=by
 have h:=ar hp
 refine cq.bZ _ ?_
 intro v1 h1
 rw [aj] at h1
 rw [bw (jY.2 ⟨by omega,by omega,by omega,by rw [iR];omega⟩)]
 exact cq.cW a h a.length 0 v1 (by omega) (by rw [h1];simp) (by simp)
end Go.Eng
set_option maxRecDepth 20000
namespace Go.Eng
open Go.IntWalk
theorem Nt.xS (k n:Nat):Nt.fix (k+1) n=Nt.fix k n++[UInt16.ofNat (n / 65536 ^ k)]:=by
 induction k generalizing n with
 | zero=>simp [Nt.fix]
 | succ k ih =>
  rw [Nt.fix,ih (n / 65536),Nt.fix,List.cons_append,Nat.div_div_eq_div_mul,Nat.pow_succ,Nat.mul_comm 65536]
theorem Nt.IN {k n:Nat} (h1:n<65536 ^ k) (h2:k=0∨65536 ^ (k - 1)≤n):Nt.of n=Nt.fix k n:=by
 have e:Nt.val (Nt.fix k n)=n:=by rw [Nt.nG,Nat.mod_eq_of_lt h1]
 conv=>lhs;rw [←e]
 refine Nt.of_val ?_
 rcases h2 with rfl | h2
 ·rfl
 ·cases k with
  | zero=>rfl
  | succ k =>
   rw [Nt.xS,Nt.lT]
   rw [Nat.add_sub_cancel] at h2
   refine aa fun e0=>?_
   have:=congrArg UInt16.toNat e0
   rw [Nt.dz] at this
   have h3:n / 65536 ^ k<65536:=(Nat.div_lt_iff_lt_mul (Nat.pow_pos (by omega))).2 (by rw [Nat.pow_succ,Nat.mul_comm] at h1;exact h1)
   have h4:0<n / 65536 ^ k:=Nat.div_pos h2 (Nat.pow_pos (by omega))
   have e0:(0:UInt16).toNat=0:=rfl
   omega
theorem mT (n:Nat):UInt16.ofInt (n:Int)=UInt16.ofNat n:=mf n
theorem vJ (n:Nat):Int.fdiv (n:Int) (2 ^ (min (16:UInt64).toNat IntKind.i64.bits))=((n / 65536:Nat):Int):=by
 rw [show (2:Int) ^ (min (16:UInt64).toNat IntKind.i64.bits)=65536 by decide,Int.fdiv_eq_ediv_of_nonneg _ (by omega)]
 omega
theorem cP.cW (a:List UInt16) (b c:Nat) (ha:a.length≤1000000) (hb:1≤b∧b≤65535) (hc:c≤65535) (hn:Nt.norm a=true):∀(m i:Nat) (acc:List UInt16) (k:Nat),i+m=a.length→acc.length=i→k≤65535→Nt.val acc+65536 ^ i * k=Nt.val (a.take i) * b+c →
  cP.l1 b acc k a a.length i=some [.sl .ws (Nt.of (Nt.val a * b+c))]:=by
 intro m
 induction m with
 | zero =>
  intro i acc k hi hl hk hv
  refine cP.bV _ _ _ _ _ _ ?_
  intro v1 h1 v2 h2 v3 h3 v4 h4 v5 h5 v6 h6 v7 h7
  rw [List.take_of_length_le (by omega)] at hv
  rw [ab (by omega),ae]
  have HN:i=a.length:=by omega
  by_cases c0:k=0
  ·subst c0
   rw [ab (by omega),ae,cP.jZ,←hv,Nat.mul_zero,Nat.add_zero,Nt.of_val]
   by_cases h0:a=[]
   ·subst h0
    have:acc=[]:=bc (by rw [hl,HN];rfl)
    rw [this];rfl
   ·-- the last digit is no Oj
    have oy:=lU hn h0
    have Nn:=List.length_pos_iff.2 h0
    have Pv:acc≠[]:=by intro e;subst e;simp at hl;omega
    rw [lV Pv]
    simp only [Bool.not_eq_true',decide_eq_false_iff_not]
    intro e0
    have Ft:=dn acc (acc.length - 1) (by omega)
    rw [show acc.length - 1+1=acc.length by omega,List.take_length,e0] at Ft
    have fO:=Nt.gW (acc.take (acc.length - 1))
    rw [aF,Nat.min_eq_left (by omega),hl,HN] at fO
    rw [hl,HN] at Ft
    have h5:65536 ^ (a.length - 1) * 1≤65536 ^ (a.length - 1) * (a.getD (a.length - 1) 0).toNat:=Nat.mul_le_mul_left _ oy.1
    have h6:Nt.val a * 1≤Nt.val a * b:=Nat.mul_le_mul_left _ hb.1
    have Mv:(0:UInt16).toNat=0:=rfl
    rw [Mv] at Ft
    omega
  ·have e7:v7=[UInt16.ofNat k]:=by rw [h7,mT]
   rw [aa (by omega),ai,bw (dW (by rw [e7,az];omega) (by rw [e7,az];omega)),cP.jZ,e7,←hv]
   have e8:Nt.val (acc++[UInt16.ofNat k])=Nt.val acc+65536 ^ i * k:=by
    rw [Nt.fJ,hl];simp only [Nt.val,Nat.mul_zero,Nat.add_zero,Nt.dz];rw [Nat.mod_eq_of_lt (by omega)]
   rw [←e8,Nt.of_val]
   rw [Nt.lT]
   refine aa fun e=>?_
   have:=congrArg UInt16.toNat e
   rw [Nt.dz] at this
   have e0:(0:UInt16).toNat=0:=rfl
   omega
 | succ m ih =>
  intro i acc k hi hl hk hv
  refine cP.bV _ _ _ _ _ _ ?_
  intro v1 h1 v2 h2 v3 h3 v4 h4 v5 h5 v6 h6 v7 h7
  rw [aj] at h1
  have hd:=v1.toNat_lt
  rw [i64_in _ (by omega)] at h2
  have hm:v1.toNat * b≤65535 * 65535:=Nat.mul_le_mul (by omega) hb.2
  have e3:v3=((k+v1.toNat * b:Nat):Int):=by
   have e:v2 * (b:Int)=((v1.toNat * b:Nat):Int):=by rw [h2,Int.natCast_mul]
   rw [h3,e,i64_in ((v1.toNat * b:Nat):Int) (by omega),i64_in _ (by omega)];omega
  have e4:v4=[UInt16.ofNat (k+v1.toNat * b)]:=by rw [h4,e3,mT]
  have e5:v5=(((k+v1.toNat * b) / 65536:Nat):Int):=by rw [h5,e3,vJ]
  have e6:v6=((i+1:Nat):Int):=by rw [h6,i64_in _ (by omega)];omega
  rw [aa (by omega),ai,bw (bK (by omega) (by omega)),bw (dW (by rw [e4,az];omega) (by rw [e4,az];omega)),e5,e6,e4]
  refine ih (i+1) _ _ (by omega) (by rw [ao,hl];rfl) (by omega) ?_
  rw [dn a i (by omega),←h1,Nt.fJ,hl]
  simp only [Nt.val,Nat.mul_zero,Nat.add_zero,Nt.dz]
  generalize hq:k+v1.toNat * b=q
  rw [Nat.pow_succ,Nat.mul_assoc,Nat.add_assoc,←Nat.mul_add]
  have:q % 65536+65536 * (q / 65536)=q:=Nat.mod_add_div q 65536
  rw [this,←hq,Nat.mul_add,Nat.add_mul,←Nat.mul_assoc]
  omega
theorem cP.goal (a:List UInt16) (b c:Int) (hp:(decide (a.length≤1000000∧1≤b∧b≤65535∧0≤c∧c≤65535)&&Nt.norm a)=true):cP.F a b c=some [.sl .ws (Nt.of (Nt.val a * b.toNat+c.toNat))]:=by
 simp only [ah,aA] at hp
 obtain ⟨⟨l1,b1,b2,c1,c2⟩,n1⟩:=hp
 refine cP.bZ _ _ _ ?_
 intro v1 h1 v2 h2
 have e1:v1=((a.length+1:Nat):Int):=by rw [h1,i64_in _ (by omega)];omega
 rw [e1,bw (jY.2 ⟨by omega,by omega,by omega,by rw [iR];omega⟩)]
 have eb:(b.toNat:Int)=b:=by omega
 have ec:(c.toNat:Int)=c:=by omega
 have:=cP.cW a b.toNat c.toNat l1 ⟨by omega,by omega⟩ (by omega) n1 a.length 0 v2 c.toNat (by omega) (by rw [h2];rfl) (by omega) (by rw [h2];simp [Nt.val])
 rw [eb,ec] at this
 exact this
end Go.Eng
set_option maxRecDepth 20000
namespace Go.Eng
open Go.IntWalk
theorem cU.cW (b E:Nat) (hb:2≤b∧b≤65535) (hE:E≤1000) (fO:b ^ E<2 ^ 4096):∀(m:Nat),m≤E→cU.l1 b m (Nt.of (b ^ (E - m)))=some [.sl .ws (Nt.of (b ^ E)),.b true]:=by
 intro m
 induction m with
 | zero =>
  intro hm
  refine cU.bV _ _ _ ?_
  intro v1 h1 v2 h2
  rw [ab (by omega),ae,Nat.sub_zero]
 | succ m ih =>
  intro hm
  refine cU.bV _ _ _ ?_
  intro v1 h1 v2 h2
  have hle:∀j,j≤E→b ^ j<2 ^ 4096:=fun j hj=>Nat.lt_of_le_of_lt (Nat.pow_le_pow_right (by omega) hj) fO
  have hi:=Nt.oe (hle (E - (m+1)) (by omega))
  have hl:=Nt.iY hi
  have e1:v1=Nt.of (b ^ (E - m)):=by
   rw [h1,Nt.val_of,aj,show (0:Int).toNat=0 from rfl,Nat.add_zero,←Nat.pow_succ]
   congr 2;omega
  have Np:=Nt.oe (hle (E - m) (by omega))
  have Jv:=Nt.iY Np
  rw [aa (by omega),ai,Nt.oS,bw (by rw [Bool.and_true];exact aa (by omega)),e1,bw (aa (by omega)),Np,aH,ae,h2,i64_in _ (by omega)]
  rw [show ((m+1:Nat):Int) - 1=(m:Int) by omega]
  exact ih (by omega)
theorem cU.goal (b e:Int) (hp:decide (2≤b∧b≤65535∧0≤e∧e≤1000∧b.toNat ^ e.toNat<2 ^ 4096)=true):cU.F b e=some [.sl .ws (Nt.of (b.toNat ^ e.toNat)),.b true]:=by
 obtain ⟨b1,b2,e1,e2,fO⟩:=ar hp
 refine cU.bZ _ _ ?_
 intro v1 h1 v2 h2 v3 h3 v4 h4
 have d1:v1=false:=by rw [h1,ab (by omega),ae];exact ab (by omega)
 have d2:v2=false:=by rw [h2,d1,ae];exact ab (by omega)
 simp only [aR,bm,Bool.not_not,bQ]
 rw [d2,ae]
 by_cases c:e=0
 ·have d3:v3=true:=by rw [h3,aa c,ai]
  rw [d3,ai,c,h4,show (0:Int).toNat=0 from rfl,Nat.pow_zero];rfl
 ·have d3:v3=false:=by rw [h3,ab c,ae];exact ab (by omega)
  rw [d3,ae,ab (by omega),ae]
  have:=cU.cW b.toNat e.toNat ⟨by omega,by omega⟩ (by omega) fO e.toNat (Nat.le_refl _)
  rw [Nat.sub_self,Nat.pow_zero,show ((b.toNat:Nat):Int)=b by omega,show ((e.toNat:Nat):Int)=e by omega] at this
  rw [h4];exact this
theorem Nr.sv (d:bz) (c:UInt8):Nr.num (d++[c])=10 * Nr.num d+(c.toNat - 48):=by
 unfold Nr.num;rw [List.foldl_append];rfl
theorem Nr.ky {c:UInt8}:Nr.dV c=true ↔ 48≤c.toNat∧c.toNat≤57:=by
 simp only [Nr.dV,aA,UInt8.le_iff_toNat_le];exact Iff.rfl
theorem Nr.IS (d:bz) (h:d.all Nr.dV=true):∀n:Nat,d.foldl (fun n c=>10 * n+(c.toNat - 48)) n<(n+1) * 10 ^ d.length:=by
 induction d with
 | nil=>intro n;simp
 | cons c d ih =>
  intro n
  rw [List.all_cons,ah,Nr.ky] at h
  rw [List.foldl_cons,ay,Nat.pow_succ]
  refine Nat.lt_of_lt_of_le (ih h.2 _) ?_
  rw [Nat.mul_comm (10 ^ d.length),←Nat.mul_assoc]
  exact ak _ (by omega)
theorem Nr.sw (d:bz) (h:d.all Nr.dV=true):Nr.num d<10 ^ d.length:=by
 have:=Nr.IS d h 0
 rwa [Nat.zero_add,Nat.one_mul] at this
theorem A6 {s:bz} {i:Nat} (h:i<s.length):s.take (i+1)=s.take i++[s.getD i 0]:=by
 rw [List.take_add_one,aq h,af,aq h];rfl
theorem Fb {s:bz} {i:Nat} (hs:s.all Nr.dV=true) (h:i<s.length):48≤(s.getD i 0).toNat∧(s.getD i 0).toNat≤57:=by
 rw [af,aq h]
 have:=aC.1 hs _ (List.getElem_mem h)
 simp only [Nr.dV,aA] at this
 exact ⟨UInt8.le_iff_toNat_le.1 this.1,UInt8.le_iff_toNat_le.1 this.2⟩
theorem Iv (k:Nat) (h:k≤300):10 ^ k<2 ^ 4096:=by
 have hk:∀n:Nat,n=300→10 ^ k≤10 ^ n:=fun n hn=>Nat.pow_le_pow_right (by omega) (by omega)
 exact Nat.lt_of_le_of_lt (hk 300 rfl) (by decide +kernel)
theorem dm.cW (s:bz) (hs:s.all Nr.dV=true) (hl:s.length≤300):∀(m i:Nat),i+m=s.length→dm.l1 s (Nt.of (Nr.num (s.take i))) s.length i=some [.sl .ws (Nt.of (Nr.num s)),.b true]:=by
 have fO:∀i,Nr.num (s.take i)<2 ^ 4096:=fun i=>by
  have h1:=Nr.sw (s.take i) (by rw [aC] at hs ⊢;exact fun x hx=>hs x (List.mem_of_mem_take hx))
  have h2:(s.take i).length≤300:=by rw [aF];omega
  exact Nat.lt_of_lt_of_le h1 (Nat.le_of_lt (Iv _ h2))
 intro m
 induction m with
 | zero =>
  intro i hi
  have No:=Nt.oe (fO i)
  refine dm.bV _ _ _ _ ?_
  intro v1 h1 v2 h2 v3 h3 v4 h4 v5 h5
  have Nl:=Nt.iY No
  rw [ab (by omega),ae,bw (aa (by omega)),No,aH,ae,List.take_of_length_le (by omega)]
 | succ m ih =>
  intro i hi
  have No:=Nt.oe (fO i)
  refine dm.bV _ _ _ _ ?_
  intro v1 h1 v2 h2 v3 h3 v4 h4 v5 h5
  have Nl:=Nt.iY No
  rw [aj] at h1
  obtain ⟨c1,c2⟩:=Fb hs (show i<s.length by omega)
  rw [←h1] at c1 c2
  have f1:decide (v1<(48:UInt8))=false:=ab fun e=>by
   have:=UInt8.lt_iff_toNat_lt.1 e
   have e0:(48:UInt8).toNat=48:=rfl
   omega
  have f2:decide ((57:UInt8)<v1)=false:=ab fun e=>by
   have:=UInt8.lt_iff_toNat_lt.1 e
   have e0:(57:UInt8).toNat=57:=rfl
   omega
  have e2:v2=false:=by rw [h2,f1,ae,f2]
  have e3:v3=((v1.toNat - 48:Nat):Int):=by
   have e:(v1 - 48).toNat=v1.toNat - 48:=UInt8.toNat_sub_of_le v1 48 (UInt8.le_iff_toNat_le.2 c1)
   rw [h3,e,i64_in _ (by omega)]
  have e5:v5=((i+1:Nat):Int):=by rw [h5,i64_in _ (by omega)];omega
  have e4:v4=Nt.of (Nr.num (s.take (i+1))):=by
   rw [h4,Nt.val_of,A6 (by omega),Nr.sv,←h1,e3,aj,show (10:Int).toNat=10 from rfl,Nat.mul_comm]
  have hx:bB (i:Int) s.length=true:=bK (by omega) (by omega)
  have hc:decide ((Nt.of (Nr.num (s.take i))).length≤1000000∧1≤(10:Int)∧(10:Int)≤65535∧0≤v3∧v3≤65535)=true:=aa (by omega)
  rw [aa (show (i:Int)<s.length by omega)]
  simp only [f1,e2,hx,hc,Nt.oS,aM,aH,Bool.false_or,Bool.or_true,Bool.true_or,aY,bQ,ae,ai]
  rw [e4,e5]
  exact ih (i+1) (by omega)
theorem dm.goal (s:bz) (hp:(decide (1≤s.length∧s.length≤300∧s.getD 0 0≠48)&&s.all Nr.dV)=true):dm.F s=some [.sl .ws (Nt.of (Nr.num s)),.b true]:=by
 simp only [ah,aA] at hp
 obtain ⟨⟨l1,l2,l3⟩,hs⟩:=hp
 refine dm.bZ _ ?_
 intro v1 h1 v2 h2 v3 h3 v4 h4
 have lB:s≠[]:=by intro e;subst e;simp at l1
 have d0:decide (s=([]:bz))=false:=ab lB
 have d1:v1=false:=by rw [h1,d0,ae];exact ab (by omega)
 have d2:decide (v2=(48:UInt8))=false:=by rw [h2];exact ab l3
 rw [d2] at h3 h4 ⊢
 have d3:v3=false:=by rw [h3,d1];rfl
 have d4:v4=false:=h4
 have hx:bB 0 s.length=true:=bK (by omega) (by omega)
 simp only [d0,d1,d3,d4,hx,aM,aH,Bool.false_or,Bool.or_true,Bool.true_or,aY,bQ,ae,ai]
 have:=dm.cW s hs l2 s.length 0 (by omega)
 rw [List.take_zero,show Nr.num []=0 from rfl,Nt.ij] at this
 exact this
theorem Gu {a acc:List UInt16} {b c k:Nat} (hn:Nt.norm a=true) (hl:acc.length=a.length) (hb:1≤b) (hk:k≤65535) (hv:Nt.val acc+65536 ^ a.length * k=Nt.val a * b+c) :
  (k=0→Nt.of (Nt.val a * b+c)=acc)∧(k≠0→Nt.of (Nt.val a * b+c)=acc++[UInt16.ofNat k]):=by
 refine ⟨fun c0=>?_,fun c0=>?_⟩
 ·subst c0
  rw [←hv,Nat.mul_zero,Nat.add_zero,Nt.of_val]
  by_cases h0:a=[]
  ·subst h0
   have:acc=[]:=bc hl
   rw [this];rfl
  ·have oy:=lU hn h0
   have Nn:=List.length_pos_iff.2 h0
   have Pv:acc≠[]:=by intro e;subst e;simp at hl;omega
   rw [lV Pv]
   simp only [Bool.not_eq_true',decide_eq_false_iff_not]
   intro e0
   have Ft:=dn acc (acc.length - 1) (by omega)
   rw [show acc.length - 1+1=acc.length by omega,List.take_length,e0] at Ft
   have fO:=Nt.gW (acc.take (acc.length - 1))
   rw [aF,Nat.min_eq_left (by omega),hl] at fO
   rw [hl] at Ft
   have h5:65536 ^ (a.length - 1) * 1≤65536 ^ (a.length - 1) * (a.getD (a.length - 1) 0).toNat:=Nat.mul_le_mul_left _ oy.1
   have h6:Nt.val a * 1≤Nt.val a * b:=Nat.mul_le_mul_left _ hb
   have Mv:(0:UInt16).toNat=0:=rfl
   rw [Mv] at Ft
   omega
 ·have e8:Nt.val (acc++[UInt16.ofNat k])=Nt.val acc+65536 ^ a.length * k:=by
   rw [Nt.fJ,hl];simp only [Nt.val,Nat.mul_zero,Nat.add_zero,Nt.dz];rw [Nat.mod_eq_of_lt (by omega)]
  rw [←hv,←e8,Nt.of_val]
  rw [Nt.lT]
  refine aa fun e=>?_
  have:=congrArg UInt16.toNat e
  rw [Nt.dz] at this
  have e0:(0:UInt16).toNat=0:=rfl
  omega
theorem jI (d:UInt16):(UInt32.ofInt (d.toNat:Int)).toNat=d.toNat:=by
 have h:=tU (d.toNat:Int)
 rw [wrap_u32'] at h
 have:=d.toNat_lt
 omega
theorem jk (x:UInt32):UInt16.ofInt (x.toNat:Int)=UInt16.ofNat x.toNat:=mf _
theorem eO.cW (a:List UInt16) (n:Nat) (ha:a.length≤1000000) (hn:Nt.norm a=true) (SK:n<16):∀(m i:Nat) (acc:List UInt16) (k:UInt32),i+m=a.length→acc.length=i→k.toNat<2 ^ n→Nt.val acc+65536 ^ i * k.toNat=Nt.val (a.take i) * 2 ^ n →
  eO.l1 n acc k a a.length i=some [.sl .ws (Nt.of (Nt.val a * 2 ^ n))]:=by
 have ON:2 ^ n≤32768:=Nat.pow_le_pow_right (n:=2) (by omega) (show n≤15 by omega)
 have Jn:=Nat.two_pow_pos n
 intro m
 induction m with
 | zero =>
  intro i acc k hi hl hk hv
  refine eO.bV _ _ _ _ _ _ ?_
  intro v1 h1 v2 h2 v3 h3 v4 h4 v5 h5 v6 h6 v7 h7
  rw [List.take_of_length_le (by omega)] at hv
  rw [ab (by omega),ae]
  have HN:i=a.length:=by omega
  have he:=Gu (a:=a) (acc:=acc) (b:=2 ^ n) (c:=0) (k:=k.toNat) hn (by omega) Jn (by omega) (by rw [←HN,Nat.add_zero];exact hv)
  rw [Nat.add_zero] at he
  by_cases c0:k=0
  ·rw [c0,ab (by decide),ae,eO.jZ,he.1 (by rw [c0];rfl)]
  ·have SP:k.toNat≠0:=fun e=>c0 (UInt32.toNat_inj.1 e)
   have e7:v7=UInt16.ofNat k.toNat:=by rw [h7,jk]
   rw [aa (by rw [UInt32.lt_iff_toNat_lt];show 0<k.toNat;omega),ai,bw (dW (by rw [az];omega) (by rw [az];omega)),eO.jZ,e7,he.2 SP]
 | succ m ih =>
  intro i acc k hi hl hk hv
  refine eO.bV _ _ _ _ _ _ ?_
  intro v1 h1 v2 h2 v3 h3 v4 h4 v5 h5 v6 h6 v7 h7
  rw [aj] at h1 h3
  have hd:=v1.toNat_lt
  have hm:v1.toNat * 2 ^ n≤65535 * 32768:=Nat.mul_le_mul (by omega) ON
  have e3:v3.toNat=k.toNat+v1.toNat * 2 ^ n:=by
   rw [h3,UInt32.toNat_or,oI,UInt32.toNat_ofNat',h2,jI,Nat.mod_eq_of_lt (by omega),Nat.or_comm,mr hk,Nat.add_comm]
  have e4:v4=UInt16.ofNat (k.toNat+v1.toNat * 2 ^ n):=by rw [h4,jk,e3]
  have e5:v5.toNat=(k.toNat+v1.toNat * 2 ^ n) / 65536:=by
   rw [h5,rW,UInt32.toNat_ofNat',e3,show (16:UInt64).toNat=16 from rfl];omega
  have e6:v6=((i+1:Nat):Int):=by rw [h6,i64_in _ (by omega)];omega
  rw [aa (by omega),ai,bw (bK (by omega) (by omega)),bw (aa (by omega)),bw (dW (by rw [az];omega) (by rw [az];omega)),e6,e4]
  refine ih (i+1) _ v5 (by omega) (by rw [ao,hl];rfl) ?_ ?_
  ·rw [e5]
   have:(k.toNat+v1.toNat * 2 ^ n)<65536 * 2 ^ n:=by
    have:v1.toNat * 2 ^ n≤65535 * 2 ^ n:=ak _ (by omega)
    omega
   exact (Nat.div_lt_iff_lt_mul (by omega)).2 (by rw [Nat.mul_comm (2 ^ n) 65536];exact this)
  ·rw [dn a i (by omega),←h1,Nt.fJ,hl,e5]
   simp only [Nt.val,Nat.mul_zero,Nat.add_zero,Nt.dz]
   generalize hq:k.toNat+v1.toNat * 2 ^ n=q
   rw [Nat.pow_succ,Nat.mul_assoc,Nat.add_assoc,←Nat.mul_add]
   have:q % 65536+65536 * (q / 65536)=q:=Nat.mod_add_div q 65536
   rw [this,←hq,Nat.mul_add,Nat.add_mul,←Nat.mul_assoc]
   omega
theorem eO.goal (a:List UInt16) (n:Int) (hp:(decide (a.length≤1000000∧0≤n∧n<16)&&Nt.norm a)=true):eO.F a n=some [.sl .ws (Nt.of (Nt.val a * 2 ^ n.toNat))]:=by
 simp only [ah,aA] at hp
 obtain ⟨⟨l1,n1,n2⟩,hn⟩:=hp
 rw [eO.eJ]
 have:=eO.cW a n.toNat l1 hn (by omega) a.length 0 [] 0 (by omega) rfl (by show 0<2 ^ n.toNat;exact Nat.two_pow_pos _) (by simp [Nt.val])
 rw [show ((n.toNat:Nat):Int)=n by omega] at this
 exact this
end Go.Eng
set_option maxRecDepth 20000
namespace Go.Eng
open Go.IntWalk
theorem Hr:(65536:Nat) ^ 257=65536 ^ 256 * 65536:=by decide +kernel
theorem mR:∀k,Nt.val (List.replicate k 0)=0
 | 0=>rfl
 | k+1=>by rw [List.replicate_succ,Nt.val,mR k];rfl
theorem ir.goal (a:List UInt16) (n:Int) (hp:(decide (0≤n∧n≤4096)&&Nt.is a)=true):ir.F a n=some [.sl .ws (Nt.of (Nt.val a * 2 ^ n.toNat))]:=by
 simp only [ah,aA] at hp
 obtain ⟨⟨n1,n2⟩,ha⟩:=hp
 have hl:=Nt.iY ha
 have hn:=Nt.iS ha
 refine ir.bZ _ _ ?_
 intro v1 h1 v2 h2 v3 h3 v4 h4 v5 h5 v6 h6
 have d1:v1=false:=by rw [h1,ha,aH,ae];exact ab (by omega)
 have d2:v2=false:=by rw [h2,d1,ae];exact ab (by omega)
 rw [d2,ae] at h3
 obtain ⟨N,rfl⟩:∃N:Nat,n=N:=⟨n.toNat,by omega⟩
 have e4:v4=((N / 16:Nat):Int):=by
  rw [h4,i64_in _ (by rw [Int.tdiv_eq_ediv_of_nonneg (by omega)];omega),Int.tdiv_eq_ediv_of_nonneg (by omega)];omega
 have em:Int.tmod (N:Int) 16=((N % 16:Nat):Int):=by rw [Int.tmod_eq_emod_of_nonneg (by omega)];omega
 rw [em,aj] at h6
 rw [em]
 rw [e4,aj] at h5
 have Qk:v6.length≤257:=by
  rw [h6]
  refine (Nt.js _ 257).2 ?_
  have h7:=Nt.gW a
  have h8:65536 ^ a.length≤65536 ^ 256:=Nat.pow_le_pow_right (by omega) hl
  have h9:2 ^ (N % 16)≤65536:=Nat.pow_le_pow_right (n:=2) (by omega) (show N % 16≤16 by omega)
  rewrite [Hr]
  have iA:Nt.val a * 2 ^ (N % 16)≤Nt.val a * 65536:=Nat.mul_le_mul_left _ h9
  omega
 have m1:oq v4 v4 2=true:=jY.2 ⟨by omega,by omega,by omega,by rw [iR];omega⟩
 have m2:decide (a.length≤1000000∧0≤((N % 16:Nat):Int)∧((N % 16:Nat):Int)<16)=true:=aa (by omega)
 have m3:fC (v5.length+v6.length) 2=true:=dW (by rw [h5,List.length_replicate];omega) (by rw [h5,List.length_replicate];omega)
 have m4:decide (a.length≤1099511627776)=true:=aa (by omega)
 simp only [d1,d2,ha,m1,m2,m3,m4,hn,aM,aH,Bool.false_or,Bool.or_true,Bool.true_or,aY,bQ,aj]
 by_cases c:a=[]
 ·have d3:v3=true:=by rw [h3,c];rfl
  rw [d3,ai,c,show Nt.val []=0 from rfl,Nat.zero_mul,Nt.ij]
 ·have Nn:=List.length_pos_iff.2 c
  have d3:v3=false:=by rw [h3];exact ab (by omega)
  rw [d3,ae,show (!decide ((16:Int)=0))=true from rfl,bQ,bQ]
  have e:Nt.val (v5++v6)=Nt.val a * 2 ^ N:=by
   rw [Nt.fJ,h5,mR,List.length_replicate,h6,Nt.val_of,Nat.zero_add,show (65536:Nat)=2 ^ 16 by decide,←Nat.pow_mul,Nat.mul_left_comm,←Nat.pow_add]
   congr 2;omega
  rw [←e,Nt.of_val]
  have oy:=Bw hn c
  have To:v6≠[]:=by
   rw [h6,Nt.kG]
   ·simp
   ·exact Nat.mul_pos oy (Nat.two_pow_pos _)
  have:∀x y:List UInt16,y≠[]→Nt.norm (x++y)=Nt.norm y:=by
   intro x y hy
   induction x with
   | nil=>rfl
   | cons d x ih=>rw [List.cons_append,Nt.nL (by simp [hy]),ih]
  rw [this _ _ To,h6,Nt.oS]
where
 Bw {a:List UInt16} (h:Nt.norm a=true) (h0:a≠[]):0<Nt.val a:=Nt.oR h h0
def ma (n:Nat):List UInt16→List UInt16
 | []=>[]
 | d :: r=>UInt16.ofNat (d.toNat / 2 ^ n+(r.getD 0 0).toNat * 2 ^ (16 - n)) :: ma n r
theorem kq (n:Nat):∀a,(ma n a).length=a.length
 | []=>rfl
 | d :: r=>by rw [ma,ay,ay,kq n r]
theorem uK {n:Nat} (hn:n<16):∀a,Nt.val (ma n a)=Nt.val a / 2 ^ n
 | []=>by simp [ma,Nt.val]
 | d :: r=>by
  have ih:=uK hn r
  rw [ma,Nt.val,ih,Nt.val,Nt.dz]
  have hp:=Nat.two_pow_pos n
  have hd:=d.toNat_lt
  have hP:(2:Nat) ^ n * 2 ^ (16 - n)=65536:=by rw [←Nat.pow_add,show n+(16 - n)=16 by omega]
  have hR:∃h R,Nt.val r=h+65536 * R∧(r.getD 0 0).toNat=h∧h<65536:=by
   cases r with
   | nil=>exact ⟨0,0,rfl,rfl,by omega⟩
   | cons e s=>exact ⟨e.toNat,Nt.val s,rfl,rfl,e.toNat_lt⟩
  obtain ⟨h,R,e1,e2,e3⟩:=hR
  rw [e1,e2]
  generalize d.toNat=x at *
  have hq:x / 2 ^ n<2 ^ (16 - n):=(Nat.div_lt_iff_lt_mul hp).2 (by rw [Nat.mul_comm,hP];omega)
  have U3:=Nat.two_pow_pos (16 - n)
  generalize hA:(2:Nat) ^ n=A at *
  generalize hB:(2:Nat) ^ (16 - n)=B at *
  -- left: ((x / A+h * B) % 65536)+65536 * ((h+65536 * R) / A)
  have k1:(h+65536 * R) / A=h / A+B * R:=by
   rw [←hP,Nat.mul_assoc,Nat.add_mul_div_left _ _ hp]
  have k2:(x+65536 * (h+65536 * R)) / A=x / A+B * (h+65536 * R):=by
   conv=>lhs;rw [←hP,Nat.mul_assoc]
   rw [Nat.add_mul_div_left _ _ hp,hP]
  have k3:(x / A+h * B) % 65536+65536 * (h / A)=x / A+h * B:=by
   have h1:h=A * (h / A)+h % A:=(Nat.div_add_mod h A).symm
   have h2:=Nat.mod_lt h hp
   have h3:h * B=65536 * (h / A)+(h % A) * B:=by
    conv=>lhs;rw [h1]
    rw [Nat.add_mul,Nat.mul_right_comm,hP]
   have h4:(h % A+1) * B≤A * B:=ak _ h2
   rw [hP,Nat.succ_mul] at h4
   rw [h3,←Nat.add_assoc,Nat.add_right_comm,Nat.add_mul_mod_self_left,Nat.mod_eq_of_lt (by omega)]
  rw [k1,k2,Nat.mul_add,Nat.mul_add,←Nat.add_assoc,k3,Nat.mul_comm h B,Nat.mul_left_comm 65536 B R]
  omega
theorem uL {n:Nat}:∀(a:List UInt16) (i:Nat),i<a.length→(ma n a).getD i 0=UInt16.ofNat ((a.getD i 0).toNat / 2 ^ n+(a.getD (i+1) 0).toNat * 2 ^ (16 - n))
 | [],i,h=>by simp at h
 | d :: r,0,h=>by simp [ma]
 | d :: r,i+1,h=>by
  have:=uL (n:=n) r i (by simpa using h)
  simpa [ma] using this
theorem getD_set_ne {α:Type} (l:List α) (i:Nat) (x d:α) (h:i<l.length):(l.set i x).getD i d=x:=by
 simp [af,h]
theorem tC {α:Type} (l:List α) (i:Nat) (x d:α) (h:i<l.length):(l.set i x).take (i+1)=l.take i++[x]:=by
 rw [List.take_add_one,List.take_set_of_le (Nat.le_refl _)]
 simp [h]
theorem cV.cW (a:List UInt16) (n:Nat) (ha:a.length≤1000000) (hn:n<16):∀(m i:Nat) (acc:List UInt16),i+m=a.length→acc.length=a.length→acc.take i=(ma n a).take i →
  cV.l1 a n a a.length i acc=some [.sl .ws (Nt.of (Nt.val a / 2 ^ n))]:=by
 intro m
 induction m with
 | zero =>
  intro i acc hi hl ht
  refine cV.bV _ _ _ _ _ _ ?_
  intro v1 h1 v2 h2 v3 h3 v4 h4 v5 h5 v6 h6 v7 h7 v8 h8 v9 h9
  rw [List.take_of_length_le (by omega),List.take_of_length_le (by rw [kq];omega)] at ht
  rw [ab (by omega),ae,bw (aa (by omega)),ht,uK hn]
 | succ m ih =>
  intro i acc hi hl ht
  refine cV.bV _ _ _ _ _ _ ?_
  intro v1 h1 v2 h2 v3 h3 v4 h4 v5 h5 v6 h6 v7 h7 v8 h8 v9 h9
  rw [aj] at h1 h2 h4 h9
  rw [aj] at h2
  have e3:v3=((i+1:Nat):Int):=by rw [h3,i64_in _ (by omega)];omega
  have e7:v7=((16 - n:Nat):Int):=by rw [h7,i64_in _ (by omega)];omega
  rw [e3,aj] at h5
  rw [e7,aj] at h8
  have Jv:v2.length=a.length:=by rw [h2,List.length_set];exact hl
  have e4:v4=oH v1 n:=by rw [h4,h2,getD_set_ne _ _ _ _ (by omega)]
  have hx:∀l:List UInt16,l.length=a.length→bB (i:Int) l.length=true:=fun l h=>bK (by omega) (by omega)
  rw [aa (show (i:Int)<(a.length:Int) by omega),ai,bw (hx a rfl),bw (aa (by omega)),bw (hx acc hl),bw (aa (by rw [aj];omega))]
  have hd1:=v1.toNat_lt
  have hs:(oH v1 n).toNat=v1.toNat / 2 ^ n:=by
   rw [oH,UInt16.toNat_ofNat']
   exact Nat.mod_eq_of_lt (Nat.lt_of_le_of_lt (Nat.div_le_self _ _) hd1)
  have Jx:=uL (n:=n) a i (by omega)
  rw [←h1] at Jx
  have Nh:∀(l:List UInt16) (x:UInt16),l.length=a.length→l.take i=acc.take i→x=(ma n a).getD i 0→(l.set i x).take (i+1)=(ma n a).take (i+1):=by
   intro l x h1 h2 h3
   rw [tC l i x 0 (by omega),h2,ht,List.take_add_one (l:=ma n a),aq (by rw [kq];omega),h3,af,aq (by rw [kq];omega)]
   rfl
  by_cases c:i+1<a.length
  ·rw [e3,aa (show ((i+1:Nat):Int)<(a.length:Int) by omega),ai,bw (hx v2 Jv),bw (aa (by rw [aj];omega)),bw (bK (by omega) (by omega)),bw (aa (by omega)),bw (hx v2 Jv),bw (aa (by rw [aj];omega))]
   refine cV.jg _ _ _ _ _ _ ?_
   intro u1 g1
   rw [g1,i64_in _ (by omega),show (i:Int)+1=((i+1:Nat):Int) by omega]
   refine ih (i+1) v9 (by omega) (by rw [h9,List.length_set,Jv]) ?_
   rw [h9]
   refine Nh v2 _ Jv (by rw [h2,List.take_set_of_le (Nat.le_refl _)]) ?_
   rw [Jx,←h5,e4]
   apply UInt16.toNat_inj.1
   have hq:v1.toNat / 2 ^ n<2 ^ (16 - n):=(Nat.div_lt_iff_lt_mul (Nat.two_pow_pos n)).2 (by rw [←Nat.pow_add,show 16 - n+n=16 by omega];exact hd1)
   have e8:v8.toNat=v5.toNat * 2 ^ (16 - n) % 65536:=by
    rw [h8,jk,Nt.dz,oI,UInt32.toNat_ofNat',h6,jI];omega
   rw [UInt16.toNat_or,hs,e8,Nt.dz]
   have e9:v5.toNat * 2 ^ (16 - n) % 65536=(v5.toNat % 2 ^ n) * 2 ^ (16 - n):=by
    conv=>lhs;rw [show (65536:Nat)=2 ^ n * 2 ^ (16 - n) by rw [←Nat.pow_add,show n+(16 - n)=16 by omega]]
    rw [Nat.mul_mod_mul_right]
   have xX:(v5.toNat % 2 ^ n) * 2 ^ (16 - n)+v1.toNat / 2 ^ n<65536:=by
    have h1:=Nat.mod_lt v5.toNat (Nat.two_pow_pos n)
    have h2:(v5.toNat % 2 ^ n+1) * 2 ^ (16 - n)≤2 ^ n * 2 ^ (16 - n):=ak _ h1
    rw [←Nat.pow_add,show n+(16 - n)=16 by omega,Nat.succ_mul] at h2
    omega
   have ki:v1.toNat / 2 ^ n % 65536=v1.toNat / 2 ^ n:=Nat.mod_eq_of_lt (by omega)
   have GZ:(v1.toNat / 2 ^ n+v5.toNat * 2 ^ (16 - n)) % 65536=(v5.toNat % 2 ^ n) * 2 ^ (16 - n)+v1.toNat / 2 ^ n:=by
    rw [Nat.add_mod,ki,e9,Nat.add_comm,Nat.mod_eq_of_lt xX]
   rw [GZ,e9,Nat.or_comm,mr hq]
  ·rw [e3,ab (show ¬((i+1:Nat):Int)<(a.length:Int) by omega),ae]
   refine cV.jg _ _ _ _ _ _ ?_
   intro u1 g1
   rw [g1,i64_in _ (by omega),show (i:Int)+1=((i+1:Nat):Int) by omega]
   refine ih (i+1) v2 (by omega) Jv ?_
   rw [h2]
   refine Nh acc _ hl rfl ?_
   rw [Jx]
   apply UInt16.toNat_inj.1
   have:a.getD (i+1) 0=0:=by rw [af,List.getElem?_eq_none (by omega)];rfl
   rw [hs,this,Nt.dz,show (0:UInt16).toNat=0 from rfl,Nat.zero_mul,Nat.add_zero,Nat.mod_eq_of_lt (Nat.lt_of_le_of_lt (Nat.div_le_self _ _) hd1)]
theorem cV.goal (a:List UInt16) (n:Int) (hp:decide (a.length≤1000000∧0≤n∧n<16)=true):cV.F a n=some [.sl .ws (Nt.of (Nt.val a / 2 ^ n.toNat))]:=by
 obtain ⟨l1,n1,n2⟩:=ar hp
 refine cV.bZ _ _ ?_
 intro v1 h1
 rw [aj] at h1
 rw [bw (jY.2 ⟨by omega,by omega,by omega,by rw [iR];omega⟩)]
 have:=cV.cW a n.toNat l1 (by omega) a.length 0 v1 (by omega) (by rw [h1];simp) (by simp)
 rw [show ((n.toNat:Nat):Int)=n by omega] at this
 exact this
end Go.Eng
set_option maxRecDepth 20000
namespace Go.Eng
open Go.IntWalk
theorem oE (a:List UInt16) (i:Nat) (h:i<a.length):Nt.val (a.drop i)=(a.getD i 0).toNat+65536 * Nt.val (a.drop (i+1)):=by
 rw [drop_cons h 0,Nt.val]
theorem ez.cW (a:List UInt16) (d:UInt16) (ha:a.length≤1000000) (hd:0<d.toNat):∀(n:Nat) (q:List UInt16) (r:UInt32),n≤a.length→q.length=a.length→Nt.val (q.drop n)=Nt.val (a.drop n) / d.toNat→r.toNat=Nt.val (a.drop n) % d.toNat →
  ez.l1 a d r ((n:Int) - 1) q=some [.sl .ws (Nt.of (Nt.val a / d.toNat)),.u16 (UInt16.ofNat (Nt.val a % d.toNat))]:=by
 intro n
 induction n with
 | zero =>
  intro q r hn hl hq hr
  refine ez.bV _ _ _ _ _ ?_
  intro v1 h1 v2 h2 v3 h3 v4 h4 v5 h5 v6 h6 v7 h7 v8 h8
  rw [bh,bh] at hq
  rw [bh] at hr
  rw [ab (by omega),ae,bw (aa (by omega)),hq,h8,jk,hr]
 | succ n ih =>
  intro q r hn hl hq hr
  refine ez.bV _ _ _ _ _ ?_
  intro v1 h1 v2 h2 v3 h3 v4 h4 v5 h5 v6 h6 v7 h7 v8 h8
  have e:((n+1:Nat):Int) - 1=(n:Int):=by omega
  rw [e] at h2 h6 h7 ⊢
  rw [aj] at h2 h6
  have hd2:=d.toNat_lt
  have hv2:=v2.toNat_lt
  have Ji:r.toNat<d.toNat:=by rw [hr];exact Nat.mod_lt _ hd
  have e4:v4.toNat=d.toNat:=by rw [h4,jI]
  have e3:v3.toNat=v2.toNat:=by rw [h3,jI]
  have e1:v1.toNat=r.toNat * 65536:=by
   rw [h1,oI,UInt32.toNat_ofNat',show (16:UInt64).toNat=16 from rfl];omega
  have Mu:(v1 ||| v3).toNat=r.toNat * 65536+v2.toNat:=by
   rw [UInt32.toNat_or,e1,e3]
   exact mr (a:=r.toNat) (b:=v2.toNat) (k:=16) hv2
  have hv4:v4≠0:=fun e0=>by
   have:=congrArg UInt32.toNat e0
   rw [e4] at this
   have U8:(0:UInt32).toNat=0:=rfl
   omega
  have Tu:v5.toNat=(r.toNat * 65536+v2.toNat) / d.toNat:=by
   rw [h5,jk,Nt.dz,UInt32.toNat_div,Mu,e4]
   refine Nat.mod_eq_of_lt ((Nat.div_lt_iff_lt_mul hd).2 ?_)
   have:(r.toNat+1) * 65536≤d.toNat * 65536:=ak _ Ji
   rw [Nat.mul_comm d.toNat 65536] at this
   omega
  have er:((v1 ||| v3) % v4).toNat=(r.toNat * 65536+v2.toNat) % d.toNat:=by
   rw [UInt32.toNat_mod,Mu,e4]
  have hx:bB (n:Int) a.length=true:=bK (by omega) (by omega)
  have KE:bB (n:Int) q.length=true:=bK (by omega) (by omega)
  rw [aa (by omega),ai,bw hx,ab hv4,aM,bQ,bw KE,bw (aa (by rw [aj];omega)),bQ,h7,i64_in _ (by omega)]
  have hH:=oE a n (by omega)
  rw [←h2] at hH
  generalize Nt.val (a.drop (n+1))=H at hq hr hH
  have Tk:H=d.toNat * (H / d.toNat)+r.toNat:=by rw [hr];exact (Nat.div_add_mod H d.toNat).symm
  have LK:v2.toNat+65536 * H=(r.toNat * 65536+v2.toNat)+d.toNat * (65536 * (H / d.toNat)):=by
   conv=>lhs;rw [Tk]
   rw [Nat.mul_add,Nat.mul_left_comm];omega
  refine ih v6 _ (by omega) (by rw [h6,List.length_set];exact hl) ?_ ?_
  ·rw [oE v6 n (by rw [h6,List.length_set];omega),h6,getD_set_ne _ _ _ _ (by omega),Tu,List.drop_set_of_lt (by omega),hq,hH,LK,Nat.add_mul_div_left _ _ hd]
  ·rw [er,hH,LK,Nat.add_mul_mod_self_left]
theorem ez.goal (a:List UInt16) (d:UInt16) (hp:decide (a.length≤1000000∧d≠0)=true):ez.F a d=some [.sl .ws (Nt.of (Nt.val a / d.toNat)),.u16 (UInt16.ofNat (Nt.val a % d.toNat))]:=by
 obtain ⟨l1,d0⟩:=ar hp
 have hd:0<d.toNat:=Nat.pos_of_ne_zero fun e=>d0 (UInt16.toNat_inj.1 e)
 refine ez.bZ _ _ ?_
 intro v1 h1 v2 h2
 rw [aj] at h1
 rw [bw (jY.2 ⟨by omega,by omega,by omega,by rw [iR];omega⟩),h2,i64_in _ (by omega)]
 exact ez.cW a d l1 hd a.length v1 0 (Nat.le_refl _) (by rw [h1];simp) (by simp [Nt.val,h1]) (by simp [Nt.val])
theorem gK.goal (a b:List UInt16) (hp:(Nt.is a&&Nt.is b&&decide (b≠[]))=true):gK.F a b=some [.sl .ws (Nt.of (Nt.val a / Nt.val b)),.sl .ws (Nt.of (Nt.val a % Nt.val b)),.b true]:=by
 simp only [ah,aA] at hp
 obtain ⟨⟨ha,hb⟩,og⟩:=hp
 have la:=Nt.iY ha
 have lb:=Nt.iY hb
 have na:=Nt.iS ha
 have nb:=Nt.iS hb
 have UD:=List.length_pos_iff.2 og
 have pb:=Nt.oR nb og
 refine gK.bZ _ _ ?_
 intro v1 h1 v2 h2 v3 h3 v4 h4 v5 h5 v6 h6 v7 h7 v8 h8 v9 h9 v10 iA v11 ki v12 jE kW nY jP pA iD o8
 rw [ha,hb] at h1
 have d1:v1=false:=h1
 have d2:v2=false:=by rw [h2,d1,ae];exact ab (by omega)
 have m1:decide (a.length≤1099511627776)=true:=aa (by omega)
 have m2:decide (b.length≤1099511627776)=true:=aa (by omega)
 have m3:decide (a.length≤1099511627776∧b.length≤1099511627776)=true:=aa ⟨by omega,by omega⟩
 simp only [d1,d2,ha,m1,m2,m3,na,nb,aM,aH,Bool.false_or,Bool.or_true,Bool.true_or,aY,bQ,ae]
 by_cases c1:Nt.val a<Nt.val b
 ·have e3:v3=-1:=by rw [h3,Nt.cmp,aw c1]
  rw [e3,aa (by omega),ai,bw (dW (by omega) (by omega)),Nat.div_eq_of_lt c1,Nt.ij,Nat.mod_eq_of_lt c1,Nt.of_val na]
 ·have e3:¬v3<0:=by rw [h3,Nt.cmp,au c1];split <;> omega
  rw [ab e3,ae]
  by_cases c2:b.length=1
  ·obtain ⟨d,rfl⟩:∃d,b=[d]:=List.length_eq_one_iff.1 c2
   have hd0:d≠0:=by simpa [Nt.norm] using nb
   have e4:v4=d:=by rw [h4];rfl
   have ev:Nt.val [d]=d.toNat:=by simp [Nt.val]
   rw [aa (by rw [c2];rfl),ai,bw (bK (by omega) (by rw [c2];omega)),e4,bw (aa ⟨by omega,hd0⟩),h5,h7,h6,e4,ev,gB,Nt.dz]
   have hm:Nt.val a % d.toNat<d.toNat:=Nat.mod_lt _ (Nat.pos_of_ne_zero fun e=>hd0 (UInt16.toNat_inj.1 e))
   have:=d.toNat_lt
   rw [Nat.mod_eq_of_lt (show Nt.val a % d.toNat<65536 by omega)]
  ·have l2:2≤b.length:=by omega
   rw [ab (by omega),ae]
   rw [i64_in _ (by omega)] at h8
   have e8:v8=((b.length - 1:Nat):Int):=by omega
   rw [e8,aj] at h9
   obtain ⟨t1,t2⟩:=lU nb og
   rw [←h9] at t1 t2
   have Sp:=v9.toNat_lt
   obtain ⟨p1,p2,p3⟩:=Nt.iO (n:=v9.toNat) (by omega)
   have pl:=Nt.jT (n:=v9.toNat) (k:=16) Sp
   obtain ⟨s,hs⟩:∃s,s=16 - Nt.bits v9.toNat:=⟨_,rfl⟩
   have xX:v10=(s:Int):=by rw [iA,i64_in _ (by omega)];omega
   have Sv:s<16:=by omega
   rw [xX,aj] at ki jE o8
   -- the Nc
   have UW:v9.toNat * 2 ^ s<65536:=by
    have:v9.toNat * 2 ^ s<2 ^ Nt.bits v9.toNat * 2 ^ s:=Nat.mul_lt_mul_of_pos_right p2 (Nat.two_pow_pos s)
    rw [←Nat.pow_add,show Nt.bits v9.toNat+s=16 by omega] at this
    exact this
   have Pd:32768≤v9.toNat * 2 ^ s:=by
    have:2 ^ (Nt.bits v9.toNat - 1) * 2 ^ s≤v9.toNat * 2 ^ s:=ak _ p1
    rw [←Nat.pow_add,show Nt.bits v9.toNat - 1+s=15 by omega] at this
    exact this
   have yG:=Nt.gW (b.take (b.length - 1))
   rw [aF,Nat.min_eq_left (by omega)] at yG
   generalize hP:65536 ^ (b.length - 1)=P at t2 yG
   have QG:65536 ^ b.length=65536 * P:=by rw [←hP,Nat.mul_comm,←Nat.pow_succ];congr 1;omega
   generalize hL:Nt.val (b.take (b.length - 1))=Lo at t2 yG
   have QB:Nt.val b * 2 ^ s=Lo * 2 ^ s+P * (v9.toNat * 2 ^ s):=by rw [t2,Nat.add_mul,Nat.mul_assoc]
   have Mg:Nt.val b * 2 ^ s<65536 ^ b.length:=by
    have h1:(v9.toNat+1) * 2 ^ s≤65536:=by
     have:(v9.toNat+1) * 2 ^ s≤2 ^ Nt.bits v9.toNat * 2 ^ s:=ak _ p2
     rw [←Nat.pow_add,show Nt.bits v9.toNat+s=16 by omega] at this
     exact this
    have h2:Lo * 2 ^ s+P * (v9.toNat * 2 ^ s)<P * ((v9.toNat+1) * 2 ^ s):=by
     rw [Nat.add_mul,Nat.one_mul,Nat.mul_add]
     have:Lo * 2 ^ s<P * 2 ^ s:=Nat.mul_lt_mul_of_pos_right yG (Nat.two_pow_pos s)
     omega
    have h3:P * ((v9.toNat+1) * 2 ^ s)≤P * 65536:=Nat.mul_le_mul_left _ h1
    rw [QB,QG,Nat.mul_comm 65536 P]
    omega
   have Ph:32768 * P≤Nt.val b * 2 ^ s:=by
    have:P * 32768≤P * (v9.toNat * 2 ^ s):=Nat.mul_le_mul_left _ Pd
    rw [QB,Nat.mul_comm 32768 P];omega
   have L0:v12=Nt.fix b.length (Nt.val b * 2 ^ s):=by
    rw [jE]
    refine Nt.IN Mg (.inr ?_)
    rw [hP];omega
   have O0:v12.length=b.length:=by rw [L0,Nt.jN]
   have DV:Nt.val v12=Nt.val b * 2 ^ s:=by rw [jE,Nt.val_of]
   have Jd:Nt.val v11=Nt.val a * 2 ^ s:=by rw [ki,Nt.val_of]
   have D0:Nt.val v12≤Nt.val v11:=by rw [DV,Jd];exact ak _ (by omega)
   have O1:v12.length≤v11.length:=by
    rcases Nat.lt_or_ge v11.length v12.length with h | h
    ·have:=Nt.qf (a:=v11) (b:=v12) (by rw [jE];exact Nt.oS _) h
     omega
    ·exact h
   have Ql:v11.length≤257:=by
    rw [ki]
    refine (Nt.js _ 257).2 ?_
    have h7:=Nt.gW a
    have h8:65536 ^ a.length≤65536 ^ 256:=Nat.pow_le_pow_right (by omega) la
    have h9:2 ^ s≤65536:=Nat.pow_le_pow_right (n:=2) (by omega) (show s≤16 by omega)
    rewrite [Hr]
    have iA:Nt.val a * 2 ^ s≤Nt.val a * 65536:=Nat.mul_le_mul_left _ h9
    omega
   have qj:32768≤(v12.getLast?.getD 0).toNat:=by
    have:v12.getLast?.getD 0=UInt16.ofNat (Nt.val b * 2 ^ s / 65536 ^ (b.length - 1)):=by
     rw [L0]
     conv=>lhs;rw [show b.length=b.length - 1+1 by omega]
     rw [Nt.xS]
     simp
    rw [this,Nt.dz,hP]
    have h1:Nt.val b * 2 ^ s / P<65536:=(Nat.div_lt_iff_lt_mul (by rw [←hP];exact Nat.pow_pos (by omega))).2 (by rw [←QG];exact Mg)
    have h2:32768≤Nt.val b * 2 ^ s / P:=(Nat.le_div_iff_mul_le (by rw [←hP];exact Nat.pow_pos (by omega))).2 Ph
    rw [Nat.mod_eq_of_lt h1];exact h2
   have m4:bB v8 b.length=true:=bK (by omega) (by omega)
   have m5:decide (a.length≤1000000∧0≤v10∧v10<16)=true:=aa (by omega)
   have m6:decide (b.length≤1000000∧0≤v10∧v10<16)=true:=aa (by omega)
   have m7:decide (v11.length≤1000000∧2≤v12.length∧v12.length≤v11.length∧32768≤(v12.getLast?.getD 0).toNat)=true:=aa ⟨by omega,by omega,O1,qj⟩
   have UF:kW.length=v11.length+1 - v12.length:=by rw [nY,Nt.jN]
   have UE:jP.length=v12.length:=by rw [pA,Nt.jN]
   have m8:decide (kW.length≤1099511627776)=true:=aa (by omega)
   have m9:decide (jP.length≤1099511627776)=true:=aa (by omega)
   have hq:Nt.val v11 / Nt.val v12=Nt.val a / Nt.val b:=by rw [Jd,DV,Nat.mul_div_mul_right _ _ (Nat.two_pow_pos s)]
   have hr:Nt.val v11 % Nt.val v12=Nt.val a % Nt.val b * 2 ^ s:=by rw [Jd,DV,Nat.mul_mod_mul_right]
   have J4:Nt.val jP=Nt.val a % Nt.val b * 2 ^ s:=by
    rw [pA,Nt.nG,hr,Nat.mod_eq_of_lt]
    have h1:Nt.val a % Nt.val b * 2 ^ s<Nt.val b * 2 ^ s:=Nat.mul_lt_mul_of_pos_right (Nat.mod_lt _ pb) (Nat.two_pow_pos s)
    rw [O0];omega
   have Mu:Nt.val kW=Nt.val a / Nt.val b:=by
    rw [nY,Nt.nG,hq,Nat.mod_eq_of_lt]
    have h1:=Nt.gW v11
    rw [←hq]
    refine (Nat.div_lt_iff_lt_mul (by rw [DV];exact Nat.mul_pos pb (Nat.two_pow_pos s))).2 ?_
    have h2:65536 ^ (v11.length+1 - v12.length) * P≤65536 ^ (v11.length+1 - v12.length) * Nt.val v12:=Nat.mul_le_mul_left _ (by rw [DV];omega)
    rw [←hP,←Nat.pow_add,show v11.length+1 - v12.length+(b.length - 1)=v11.length by omega] at h2
    omega
   have m10:decide ((Nt.of (Nt.val jP)).length≤1000000∧0≤v10∧v10<16)=true:=by
    refine aa ⟨?_,by omega,by omega⟩
    have:=(Nt.js (Nt.val jP) jP.length).2 (Nt.gW jP)
    omega
   rw [bw m4,bw (by rw [m5];rfl),bw (by rw [m6];rfl),bw m7,bw m8,bw m9,bw m10,Mu,o8,Nt.val_of,J4,Nat.mul_div_cancel _ (Nat.two_pow_pos s)]
end Go.Eng
set_option maxRecDepth 20000
namespace Go.Eng
open Go.IntWalk
theorem BV {B v1 v2 top u2 g r V T P:Nat} (hP:0<P) (qj:top=g * v1+r) (h:r * B+u2<g * v2) (hV:(v1 * B+v2) * P≤V) (hT:T<(top * B+u2+1) * P):T / V<g:=by
 have h1:top * B+u2+1≤g * (v1 * B+v2):=by
  rw [qj,Nat.add_mul,Nat.mul_add,Nat.mul_assoc];omega
 have h2:(top * B+u2+1) * P≤g * V:=by
  have:=ak P h1
  rw [Nat.mul_assoc] at this
  exact Nat.le_trans this (Nat.mul_le_mul_left _ hV)
 have yH:0<V:=by
  rcases Nat.eq_zero_or_pos V with e | e
  ·subst e;simp at h2;omega
  ·exact e
 exact (Nat.div_lt_iff_lt_mul yH).2 (by omega)
theorem zG {B v1 v2 top u2 g r V T P:Nat} (hB:g≤B) (qj:top=g * v1+r) (h:g * v2≤r * B+u2) (JF:V<(v1 * B+v2+1) * P) (KO:B * P≤V) (hT:(top * B+u2) * P≤T) (yH:0<V):g≤T / V+1:=by
 rcases Nat.eq_zero_or_pos g with e | hg
 ·rw [e];exact Nat.zero_le _
 have h1:g * (v1 * B+v2)≤top * B+u2:=by
  rw [qj,Nat.add_mul,Nat.mul_add,Nat.mul_assoc];omega
 have h2:g * V<(g * (v1 * B+v2)+g) * P:=by
  have:=Nat.mul_lt_mul_of_pos_left JF hg
  rw [←Nat.mul_assoc,Nat.mul_add,Nat.mul_one] at this
  exact this
 have h3:(g * (v1 * B+v2)) * P≤(top * B+u2) * P:=ak _ h1
 have h4:g * P≤B * P:=ak _ hB
 rw [Nat.add_mul] at h2
 have h5:g * V<T+V:=by omega
 have h6:(g - 1) * V≤T:=by
  have:g * V=(g - 1) * V+V:=by rw [←Nat.succ_mul];congr 1;omega
  omega
 have:=(Nat.le_div_iff_mul_le yH).2 h6
 omega
theorem xJ {B v1 top g r V T P:Nat} (hg:g≤B) (qj:top=g * v1+r) (hr:B≤r) (hV:V≤(v1+1) * P) (yH:0<V) (hT:top * P≤T):g≤T / V:=by
 refine (Nat.le_div_iff_mul_le yH).2 ?_
 have h1:g * V≤g * ((v1+1) * P):=Nat.mul_le_mul_left _ hV
 have h2:g * ((v1+1) * P)=(g * v1+g) * P:=by rw [←Nat.mul_assoc,Nat.mul_add,Nat.mul_one]
 have h3:(g * v1+g) * P≤top * P:=ak _ (by omega)
 omega
theorem wH {x:UInt64} (h:x.toNat<65536 * 65536):(iK x 16).toNat=x.toNat * 65536:=by
 rw [iK,UInt64.toNat_ofNat'];omega
theorem Ls {a b:UInt64} {x:Nat} (ha:a.toNat=x * 65536) (hb:b.toNat<65536):(a ||| b).toNat=x * 65536+b.toNat:=by
 rw [UInt64.toNat_or,ha];exact mr (a:=x) (b:=b.toNat) (k:=16) hb
theorem wx {g:UInt64} (h:0<g.toNat):(g - 1).toNat=g.toNat - 1:=by
 have:=UInt64.toNat_sub_of_le g 1 (aI.2 h)
 exact this
theorem bE.ju (v w qs:List UInt16) (n j:Nat) (hn:n=v.length) (h2:2≤n) (hj:j+n<w.length) (hl:w.length≤1000001) {V T P top:Nat} (hP:0<P)
  (hv1:32768≤(v.getD (n - 1) 0).toNat) (qj:top=(w.getD (j+n) 0).toNat * 65536+(w.getD (j+n - 1) 0).toNat)
  (JE:((v.getD (n - 1) 0).toNat * 65536+(v.getD (n - 2) 0).toNat) * P≤V) (Nu:V<((v.getD (n - 1) 0).toNat * 65536+(v.getD (n - 2) 0).toNat+1) * P)
  (Nx:(top * 65536+(w.getD (j+n - 2) 0).toNat) * P≤T) (Nw:T<(top * 65536+(w.getD (j+n - 2) 0).toNat+1) * P) (hq:T / V≤65535) :
  ∀(m:Nat) (g r:UInt64),g.toNat≤m→g.toNat≤65537→top=g.toNat * (v.getD (n - 1) 0).toNat+r.toNat→r.toNat≤65535→T / V≤g.toNat →
   ∃g':UInt64,T / V≤g'.toNat∧g'.toNat≤T / V+1∧g'.toNat≤65535∧bE.l2 v n j g r w qs=bE.j3 v n j g' w qs:=by
 intro m
 induction m with
 | zero =>
  intro g r hg hg2 ht hr OJ
  -- nothing is left to take TB
  have g0:g.toNat=0:=by omega
  refine ⟨g,OJ,by rw [g0];exact Nat.zero_le _,by omega,?_⟩
  refine bE.iw _ _ _ _ _ _ _ ?_
  intro u1 h1 u2 GK u3 h3 u4 h4 u5 h5 u6 h6 u7 h7 u8 h8 u9 h9 N6 iA RT ki yD jE
  have f1:decide ((65535:UInt64)<g)=false:=ab fun e=>by
   have:=aV.1 e
   have e0:(65535:UInt64).toNat=65535:=rfl
   omega
  have e1:u1=((n - 2:Nat):Int):=by rw [h1,i64_in _ (by omega)];omega
  have e5:u5=((j+n - 2:Nat):Int):=by rw [h5,i64_in ((j:Int)+n) (by omega),i64_in _ (by omega)];omega
  have x1:bB u1 v.length=true:=bK (by omega) (by omega)
  have x2:bB u5 w.length=true:=bK (by omega) (by omega)
  have x3:decide (u5.toNat<w.length)=true:=aa (by omega)
  have e8:u8=false:=by
   rw [h8]
   refine ab fun e=>?_
   have:=aV.1 e
   rw [UInt64.toNat_mul,g0,Nat.zero_mul,Nat.zero_mod] at this
   omega
  have e9:u9=false:=by rw [h9,f1,ae,e8]
  simp only [f1,e9,x1,x2,x3,aM,aH,Bool.false_or,Bool.or_true,Bool.true_or,aY,bQ,ae]
 | succ m ih =>
  intro g r hg hg2 ht hr OJ
  have hB:(65535:UInt64).toNat=65535:=rfl
  have w1:=(v.getD (n - 1) 0).toNat_lt
  have w2:=(v.getD (n - 2) 0).toNat_lt
  have w3:=(w.getD (j+n - 2) 0).toNat_lt
  have step:∀ρ:OT,(∀(u9:Bool),u9=decide (65535<g.toNat∨r.toNat * 65536+(w.getD (j+n - 2) 0).toNat<g.toNat * (v.getD (n - 2) 0).toNat)→∀yD:UInt64,yD.toNat=(v.getD (n - 1) 0).toNat →
    cond u9 (cond (decide ((65535:UInt64)<(r+yD))) (bE.j3 v n j (g - 1) w qs) (bE.l2 v n j (g - 1) (r+yD) w qs)) (bE.j3 v n j g w qs)=ρ)→bE.l2 v n j g r w qs=ρ:=by
   intro ρ Jb
   refine bE.iw _ _ _ _ _ _ _ ?_
   intro u1 h1 u2 GK u3 h3 u4 h4 u5 h5 u6 h6 u7 h7 u8 h8 u9 h9 N6 iA RT ki yD jE
   have e1:u1=((n - 2:Nat):Int):=by rw [h1,i64_in _ (by omega)];omega
   have e5:u5=((j+n - 2:Nat):Int):=by rw [h5,i64_in ((j:Int)+n) (by omega),i64_in _ (by omega)];omega
   have xX:N6=((n - 1:Nat):Int):=by rw [iA,i64_in _ (by omega)];omega
   rw [e1,aj] at GK
   rw [e5,aj] at h6
   rw [xX,aj] at ki
   have x1:bB u1 v.length=true:=bK (by omega) (by omega)
   have x2:bB u5 w.length=true:=bK (by omega) (by omega)
   have x3:decide (u5.toNat<w.length)=true:=aa (by omega)
   have x4:bB N6 v.length=true:=bK (by omega) (by omega)
   have f3:u3.toNat=(v.getD (n - 2) 0).toNat:=by rw [h3,gB,GK]
   have f7:u7.toNat=(w.getD (j+n - 2) 0).toNat:=by rw [h7,gB,h6]
   have f12:yD.toNat=(v.getD (n - 1) 0).toNat:=by rw [jE,gB,ki]
   have f4:u4.toNat=r.toNat * 65536:=by rw [h4];exact wH (by omega)
   have f47:=Ls f4 (b:=u7) (by omega)
   have hm:g.toNat * (v.getD (n - 2) 0).toNat≤65537 * 65535:=Nat.mul_le_mul hg2 (by omega)
   have fm:(g * u3).toNat=g.toNat * (v.getD (n - 2) 0).toNat:=by rw [UInt64.toNat_mul,f3,Nat.mod_eq_of_lt (by omega)]
   have Qa:=Jb u9 (by
    rw [h9,h8,aQ]
    simp only [aV,hB,f47,fm,f7]
    by_cases c:65535<g.toNat
    ·simp [c]
    ·simp [c]) yD f12
   cases hb:decide ((65535:UInt64)<g) with
   | true =>
    rw [hb,ai] at h9
    simp only [x1,x2,x3,x4,aM,aH,Bool.false_or,Bool.or_true,Bool.true_or,aY,Bool.or_self,aR,bm,bQ]
    exact Qa
   | false =>
    simp only [x1,x2,x3,x4,aM,aH,Bool.false_or,Bool.or_true,Bool.true_or,aY,Bool.or_self,aR,bm,bQ]
    exact Qa
  by_cases c:65535<g.toNat∨r.toNat * 65536+(w.getD (j+n - 2) 0).toNat<g.toNat * (v.getD (n - 2) 0).toNat
  ·have fO:T / V<g.toNat:=by
    rcases c with c | c
    ·omega
    ·exact BV hP ht c JE Nw
   have hg0:0<g.toNat:=Nat.lt_of_le_of_lt (Nat.zero_le _) fO
   have gs:=wx (g:=g) hg0
   have Ni:top=(g.toNat - 1) * (v.getD (n - 1) 0).toNat+(r.toNat+(v.getD (n - 1) 0).toNat):=by
    have:g.toNat * (v.getD (n - 1) 0).toNat=(g.toNat - 1) * (v.getD (n - 1) 0).toNat+(v.getD (n - 1) 0).toNat:=by rw [←Nat.succ_mul];congr 1;omega
    omega
   by_cases c2:65535<r.toNat+(v.getD (n - 1) 0).toNat
   ·have yH:0<V:=Nat.lt_of_lt_of_le (Nat.mul_pos (by omega) hP) JE
    have hle:g.toNat - 1≤T / V:=by
     refine xJ (B:=65536) (P:=65536 * P) (by omega) Ni (by omega) ?_ yH ?_
     ·have e:((v.getD (n - 1) 0).toNat+1) * (65536 * P)=(((v.getD (n - 1) 0).toNat+1) * 65536) * P:=by rw [Nat.mul_assoc]
      rw [e]
      refine Nat.le_trans (Nat.le_of_lt Nu) (ak _ (by omega))
     ·have e:top * (65536 * P)=(top * 65536) * P:=by rw [Nat.mul_assoc]
      rw [e]
      exact Nat.le_trans (ak _ (by omega)) Nx
    refine ⟨g - 1,by omega,by rw [gs];exact Nat.le_succ_of_le hle,by omega,step _ fun u9 h9 yD jE=>?_⟩
    have e:(r+yD).toNat=r.toNat+(v.getD (n - 1) 0).toNat:=by rw [UInt64.toNat_add,jE,Nat.mod_eq_of_lt (by omega)]
    rw [h9,aa c,ai,aa (by rw [aV,e,hB];exact c2),ai]
   ·have e:∀yD:UInt64,yD.toNat=(v.getD (n - 1) 0).toNat→(r+yD).toNat=r.toNat+(v.getD (n - 1) 0).toNat:=fun yD jE=>by rw [UInt64.toNat_add,jE,Nat.mod_eq_of_lt (by omega)]
    obtain ⟨g',i1,i2,i3,i4⟩:=ih (g - 1) (r+UInt64.ofInt ((v.getD (n - 1) 0).toNat:Int)) (by omega) (by omega) (by rw [gs,e _ (gB _)];exact Ni) (by rw [e _ (gB _)];omega) (by omega)
    refine ⟨g',i1,i2,i3,step _ fun u9 h9 yD jE=>?_⟩
    have GZ:yD=UInt64.ofInt ((v.getD (n - 1) 0).toNat:Int):=bn.1 (by rw [jE,gB])
    rw [h9,aa c,ai,ab (by rw [aV,e _ jE,hB];exact c2),ae,GZ]
    exact i4
  ·have c1:g.toNat≤65535:=by omega
   refine ⟨g,OJ,zG (B:=65536) (by omega) ht (by omega) Nu ?_ Nx (Nat.lt_of_lt_of_le (Nat.mul_pos (by omega) hP) JE),c1,step _ fun u9 h9 yD jE=>?_⟩
   ·refine Nat.le_trans (ak _ ?_) JE
    omega
   ·rw [h9,ab c,ae]
end Go.Eng
set_option maxRecDepth 20000
namespace Go.Eng
open Go.IntWalk
theorem nC {α:Type} (l:List α) (j i:Nat) (x:α):(l.set (j+i) x).drop j=(l.drop j).set i x:=by
 rw [List.drop_set,au (by omega)];congr 1;omega
theorem jU (w:List UInt16) (j i:Nat) (h:j+i<w.length):Nt.val ((w.drop j).take (i+1))=Nt.val ((w.drop j).take i)+65536 ^ i * (w.getD (j+i) 0).toNat:=by
 have:=dn (w.drop j) i (by rw [aU];omega)
 rw [this]
 congr 3
 simp [af]
theorem va (w:List UInt16) (j i:Nat) (d:UInt16) (h:j+i<w.length):Nt.val (((w.set (j+i) d).drop j).take (i+1))=Nt.val ((w.drop j).take i)+65536 ^ i * d.toNat:=by
 rw [jU _ _ _ (by rw [List.length_set];exact h),getD_set_ne _ _ _ _ h,nC,List.take_set_of_le (Nat.le_refl _)]
theorem yK (w:List UInt16) (j i:Nat):Nt.val ((w.drop j).take i)<65536 ^ i:=by
 refine Nat.lt_of_lt_of_le (Nt.gW _) (Nat.pow_le_pow_right (by omega) ?_)
 rw [aF];omega
theorem GU (x:Int):Int.fdiv x (2 ^ (min (16:UInt64).toNat IntKind.i64.bits))=x / 65536:=by
 rw [show (2:Int) ^ (min (16:UInt64).toNat IntKind.i64.bits)=65536 by decide,Int.fdiv_eq_ediv_of_nonneg _ (by omega)]
theorem yx (x:Int) (h:x=0∨x=-1∨x=-2):cI .and .i64 x 1=x % 2:=by
 rcases h with rfl | rfl | rfl <;> decide
theorem u16_ofInt_nat (x:Int):(UInt16.ofInt x).toNat=(x % 65536).toNat:=by
 have h:=pL x
 rw [iQ] at h
 omega
theorem bE.Ly (v w0 qs:List UInt16) (n j:Nat) (g:UInt64) (hn:n=v.length) (hj:j+n<w0.length) (hl:w0.length≤1000001):∀(m i:Nat) (c:UInt32) (w:List UInt16),i+m=n→c.toNat≤1→w.length=w0.length→w.take j=w0.take j→w.drop (j+i)=w0.drop (j+i) →
   Nt.val ((w0.drop j).take i)+Nt.val (v.take i)=Nt.val ((w.drop j).take i)+65536 ^ i * c.toNat →
   ∃(c':Nat) (w':List UInt16),c'≤1∧w'.length=w0.length∧w'.take j=w0.take j∧w'.drop (j+n+1)=w0.drop (j+n+1)∧Nt.val ((w0.drop j).take n)+Nt.val v=Nt.val ((w'.drop j).take n)+65536 ^ n * c' ∧
    (w'.getD (j+n) 0).toNat=((w0.getD (j+n) 0).toNat+c') % 65536∧bE.l5 v n j g c n i w qs=bE.j6 v n j g w' qs:=by
 intro m
 induction m with
 | zero =>
  intro i c w hi hc Gy ht hd hv
  obtain rfl:i=n:=by omega
  rw [List.take_of_length_le (l:=v) (by omega)] at hv
  have fO:j+i<w.length:=by omega
  refine ⟨c.toNat,w.set (j+i) (w.getD (j+i) 0+UInt16.ofNat c.toNat),hc,by rw [List.length_set];exact Gy,by rw [List.take_set_of_le (by omega)];exact ht,?_,?_,?_,?_⟩
  ·rw [List.drop_set_of_lt (by omega),show j+i+1=(j+i)+1 from rfl,←List.drop_drop (l:=w),hd,List.drop_drop]
  ·rw [nC,List.take_set_of_le (Nat.le_refl _)];exact hv
  ·rw [getD_set_ne _ _ _ _ fO,UInt16.toNat_add,Nt.dz,Nat.add_mod_mod]
   congr 3
   have e1:w.getD (j+i) 0=(w.drop (j+i)).getD 0 0:=by simp [af]
   have e2:w0.getD (j+i) 0=(w0.drop (j+i)).getD 0 0:=by simp [af]
   rw [e1,e2,hd]
  ·refine bE.AB _ _ _ _ _ _ _ _ _ ?_
   intro v1 h1 v2 h2 v3 h3 v4 h4 v5 h5 v6 h6 v7 h7 v8 h8 v9 h9 v10 iA v11 ki v12 jE
   have Ey:IntKind.i64.wrap ((j:Int)+(i:Int))=((j+i:Nat):Int):=by rw [i64_in _ (by omega)];omega
   rw [Ey,aj] at h9
   rw [h9] at iA jE
   rw [ab (by omega),ae,Ey,bw (bK (by omega) (by omega)),bw (aa (by omega)),bw (bK (by omega) (by omega)),bw (aa (by omega)),jE,iA,ki,jk]
 | succ m ih =>
  intro i c w hi hc Gy ht hd hv
  have fO:j+i<w.length:=by omega
  have w1:=(w.getD (j+i) 0).toNat_lt
  have w2:=(v.getD i 0).toNat_lt
  have ew:w.getD (j+i) 0=w0.getD (j+i) 0:=by
   have e1:w.getD (j+i) 0=(w.drop (j+i)).getD 0 0:=by simp [af]
   have e2:w0.getD (j+i) 0=(w0.drop (j+i)).getD 0 0:=by simp [af]
   rw [e1,e2,hd]
  obtain ⟨s,hs⟩:∃s,s=c.toNat+((w.getD (j+i) 0).toNat+(v.getD i 0).toNat):=⟨_,rfl⟩
  obtain ⟨c',w',r1,r2,r3,r4,r5,r6,r7⟩:=ih (i+1) (UInt32.ofNat (s / 65536)) (w.set (j+i) (UInt16.ofNat s)) (by omega) (by simp;omega) (by rw [List.length_set];exact Gy) (by rw [List.take_set_of_le (by omega)];exact ht)
   (by rw [List.drop_set_of_lt (by omega),show j+(i+1)=(j+i)+1 from rfl,←List.drop_drop (l:=w),hd,List.drop_drop]) (by
    rw [jU w0 j i (by omega),va w j i _ fO,dn v i (by omega),Nt.dz]
    have e:(UInt32.ofNat (s / 65536)).toNat=s / 65536:=by simp;omega
    rw [e,Nat.pow_succ,Nat.mul_assoc,Nat.add_assoc (Nt.val ((w.drop j).take i)),←Nat.mul_add,Nat.mod_add_div,hs,←ew,Nat.mul_add,Nat.mul_add]
    omega)
  refine ⟨c',w',r1,r2,r3,r4,r5,r6,?_⟩
  rw [←r7]
  refine bE.AB _ _ _ _ _ _ _ _ _ ?_
  intro v1 h1 v2 h2 v3 h3 v4 h4 v5 h5 v6 h6 v7 h7 v8 h8 v9 h9 v10 iA v11 ki v12 jE
  have Ey:IntKind.i64.wrap ((i:Int)+(j:Int))=((j+i:Nat):Int):=by rw [i64_in _ (by omega)];omega
  rw [Ey,aj] at h1
  rw [h1] at h2
  rw [aj] at h4
  have es:(c+(v3+v5)).toNat=s:=by
   rw [UInt32.toNat_add,UInt32.toNat_add,h3,h5,jI,jI,h2,h4,hs];omega
  have e6:v6=UInt16.ofNat s:=by rw [h6,jk,es]
  have e7:v7=UInt32.ofNat (s / 65536):=by
   apply UInt32.toNat_inj.1
   rw [h7,rW,es,show (16:UInt64).toNat=16 from rfl]
  have e8:v8=((i+1:Nat):Int):=by rw [h8,i64_in _ (by omega)];omega
  rw [aa (by omega),ai,Ey,bw (bK (by omega) (by omega)),bw (aa (by omega)),bw (bK (by omega) (by omega)),bw (bK (by omega) (by omega)),bw (aa (by omega)),e6,e7,e8,h1]
end Go.Eng
set_option maxRecDepth 20000
namespace Go.Eng
open Go.IntWalk
theorem ME (x:UInt64):(x &&& 65535).toNat=x.toNat % 65536:=by
 rw [UInt64.toNat_and,show (65535:UInt64).toNat=2 ^ 16 - 1 from rfl,Nat.and_two_pow_sub_one_eq_mod]
theorem o9 {w w0:List UInt16} {k:Nat} (h:w.drop k=w0.drop k):w.getD k 0=w0.getD k 0:=by
 have e1:w.getD k 0=(w.drop k).getD 0 0:=by simp [af]
 have e2:w0.getD k 0=(w0.drop k).getD 0 0:=by simp [af]
 rw [e1,e2,h]
theorem qv {w w0:List UInt16} {k:Nat} (x:UInt16) (h:w.drop k=w0.drop k):(w.set k x).drop (k+1)=w0.drop (k+1):=by
 rw [List.drop_set_of_lt (by omega),←List.drop_drop (l:=w),h,List.drop_drop]
theorem bE.DF (v w0 qs:List UInt16) (n j:Nat) (g:UInt64) (hn:n=v.length) (hj:j+n<w0.length) (hl:w0.length≤1000001) (hg:g.toNat≤65535) {T:Nat} (hT:T=Nt.val ((w0.drop j).take (n+1))) (yH:0<Nt.val v) (hg1:T / Nt.val v≤g.toNat) (hg2:g.toNat≤T / Nt.val v+1) :
  ∀(m i b:Nat) (c:UInt64) (w:List UInt16),i+m=n→b≤1→c.toNat≤65535→w.length=w0.length→w.take j=w0.take j→w.drop (j+i)=w0.drop (j+i) →
   Nt.val ((w0.drop j).take i)+65536 ^ i * (b+c.toNat)=Nt.val ((w.drop j).take i)+g.toNat * Nt.val (v.take i) →
   ∃(q:UInt64) (w':List UInt16),q.toNat=T / Nt.val v∧w'.length=w0.length∧w'.take j=w0.take j∧w'.drop (j+n+1)=w0.drop (j+n+1)∧Nt.val ((w'.drop j).take (n+1))=T % Nt.val v∧bE.l4 v n j g b c n i w qs=bE.j6 v n j q w' qs:=by
 have S9:Nt.val v<65536 ^ n:=by rw [hn];exact Nt.gW v
 intro m
 induction m with
 | zero =>
  intro i b c w hi hb hc Gy ht hd hv
  obtain rfl:i=n:=by omega
  rw [List.take_of_length_le (l:=v) (by omega)] at hv
  have fO:j+i<w.length:=by omega
  have So:=yK w j i
  have ew:=o9 hd
  have Mh:=jU w0 j i (by omega)
  rw [←hT,←ew] at Mh
  have w1:=(w.getD (j+i) 0).toNat_lt
  have JC:=Nat.div_add_mod T (Nt.val v)
  have hR:=Nat.mod_lt T yH
  generalize T / Nt.val v=q at *
  generalize UZ:T % Nt.val v=R at *
  generalize Ta:Nt.val v=V at *
  generalize QN:65536 ^ i=P at *
  generalize hx:Nt.val ((w.drop j).take i)=X at *
  generalize UH:Nt.val ((w0.drop j).take i)=X0 at *
  generalize hy:(w.getD (j+i) 0).toNat=y at *
  -- the top digit,less NY is taken
  have DY:(V * q+R)+P * (b+c.toNat)=X+g.toNat * V+P * y:=by rw [JC,Mh];omega
  have step:∀ρ:OT,(∀v20:List UInt16,v20=w.set (j+i) (UInt16.ofInt ((y:Int) - b - c.toNat))→cond (decide ((y:Int) - b - c.toNat<0)) (bE.l5 v i j (g - 1) 0 i 0 v20 qs) (bE.j6 v i j g v20 qs)=ρ)→bE.l4 v i j g b c i i w qs=ρ:=by
   intro ρ Jb
   refine bE.xv _ _ _ _ _ _ _ _ _ _ ?_
   intro v1 h1 v2 h2 v3 h3 v4 h4 v5 h5 v6 h6 v7 h7 v8 h8 v9 h9 v10 iA v11 ki v12 jE kW nY jP pA iD o8 mS tO nT xI lO wi qJ BU v20 zF
   have Ey:IntKind.i64.wrap ((j:Int)+(i:Int))=((j+i:Nat):Int):=by rw [i64_in _ (by omega)];omega
   rw [Ey,aj] at pA
   rw [pA] at o8 zF
   rw [o8,hy,i64_in _ (by omega)] at tO
   have KX:lO=(c.toNat:Int):=by rw [wi,i64_in _ (by omega)]
   have Mt:nT=(y:Int) - b:=by rw [xI,i64_in _ (by omega),tO]
   have Cs:qJ=(y:Int) - b - c.toNat:=by rw [BU,i64_in _ (by omega),Mt,KX]
   rw [ab (by omega),ae,Ey,bw (bK (by omega) (by omega)),bw (aa (by omega)),bw (bK (by omega) (by omega)),bw (aa (by omega)),Cs]
   exact Jb v20 (by rw [zF,Cs])
  by_cases cg:g.toNat=q
  ·-- the Mk is right
   have e0:y=b+c.toNat:=by
    rw [cg,Nat.mul_comm q V] at DY
    rcases Nat.lt_trichotomy y (b+c.toNat) with h | h | h
    ·have:P * (y+1)≤P * (b+c.toNat):=Nat.mul_le_mul_left _ h
     rw [Nat.mul_add,Nat.mul_one] at this
     omega
    ·exact h
    ·have:P * (b+c.toNat+1)≤P * y:=Nat.mul_le_mul_left _ h
     rw [Nat.mul_add,Nat.mul_one] at this
     omega
   have eR:X=R:=by
    rw [cg,Nat.mul_comm q V,e0] at DY
    omega
   refine ⟨g,w.set (j+i) 0,cg,by rw [List.length_set];exact Gy,by rw [List.take_set_of_le (by omega)];exact ht,qv 0 hd,?_,step _ fun v20 zF=>?_⟩
   ·rw [va w j i 0 fO,hx,eR];simp
   ·rw [ab (by omega),ae,zF,show (y:Int) - b - c.toNat=0 by omega];rfl
  ·-- the Mk is one Ux QX
   have TA:g.toNat=q+1:=by omega
   have AI:g.toNat * V=V * q+V:=by rw [TA,Nat.succ_mul,Nat.mul_comm]
   rw [AI] at DY
   have e0:y+1=b+c.toNat:=by
    rcases Nat.lt_trichotomy (y+1) (b+c.toNat) with h | h | h
    ·have:P * (y+2)≤P * (b+c.toNat):=Nat.mul_le_mul_left _ h
     rw [Nat.mul_add] at this
     omega
    ·exact h
    ·have:P * (b+c.toNat)≤P * y:=Nat.mul_le_mul_left _ (by omega)
     omega
   have eX:X+V=R+P:=by
    have:P * (b+c.toNat)=P * y+P:=by rw [←e0,Nat.mul_add,Nat.mul_one]
    omega
   have UJ:(w.set (j+i) (65535:UInt16)).length=w.length:=List.length_set
   obtain ⟨c',w',r1,r2,r3,r4,r5,r6,r7⟩:=bE.Ly v (w.set (j+i) 65535) qs i j (g - 1) hn (by omega) (by omega) i 0 0 (w.set (j+i) 65535) (by omega) (by decide) rfl rfl rfl (by simp [Nt.val])
   rw [nC,List.take_set_of_le (Nat.le_refl _),hx,Ta,QN] at r5
   have LG:=yK w' j i
   rw [QN] at LG
   have ec:c'=1:=by
    rcases Nat.lt_or_ge c' 1 with h | h
    ·obtain rfl:c'=0:=by omega
     rw [Nat.mul_zero] at r5;omega
    ·omega
   rw [ec,Nat.mul_one] at r5
   rw [getD_set_ne _ _ _ _ fO,ec,show ((65535:UInt16).toNat+1) % 65536=0 from rfl] at r6
   refine ⟨g - 1,w',by rw [wx (by omega)];omega,by omega,by rw [r3,List.take_set_of_le (by omega)];exact ht,by rw [r4];exact qv _ hd,?_,step _ fun v20 zF=>?_⟩
   ·rw [jU w' j i (by omega),r6,Nat.mul_zero,Nat.add_zero];omega
   ·rw [aa (by omega),ai,zF,show (y:Int) - b - c.toNat=-1 by omega]
    exact r7
 | succ m ih =>
  intro i b c w hi hb hc Gy ht hd hv
  have fO:j+i<w.length:=by omega
  have w1:=(w.getD (j+i) 0).toNat_lt
  have w2:=(v.getD i 0).toNat_lt
  have ew:=o9 hd
  have hm:g.toNat * (v.getD i 0).toNat≤65535 * 65535:=Nat.mul_le_mul hg (by omega)
  obtain ⟨p,hp⟩:∃p,p=g.toNat * (v.getD i 0).toNat+c.toNat:=⟨_,rfl⟩
  obtain ⟨y,hy⟩:∃y,y=(w.getD (j+i) 0).toNat:=⟨_,rfl⟩
  obtain ⟨z,hz⟩:∃z:Int,z=(y:Int) - b - ((p % 65536:Nat):Int):=⟨_,rfl⟩
  obtain ⟨b',kg⟩:∃b':Nat,b'=if z<0 then 1 else 0:=⟨_,rfl⟩
  have Ow:((z % 65536).toNat:Int)=z+65536 * b':=by
   rw [kg];split <;> omega
  have HS:b'≤1:=by rw [kg];split <;> omega
  have ec:(UInt64.ofNat (p / 65536)).toNat=p / 65536:=by rw [UInt64.toNat_ofNat'];omega
  obtain ⟨q,w',r1,r2,r3,r4,r5,r6⟩:=ih (i+1) b' (UInt64.ofNat (p / 65536)) (w.set (j+i) (UInt16.ofInt z)) (by omega) HS (by rw [ec];omega) (by rw [List.length_set];exact Gy) (by rw [List.take_set_of_le (by omega)];exact ht) (qv _ hd) (by
   rw [jU w0 j i (by omega),va w j i _ fO,dn v i (by omega),ec,u16_ofInt_nat,←ew,←hy,Nat.pow_succ,Nat.mul_assoc]
   have e1:y+65536 * b'=(z % 65536).toNat+b+p % 65536:=by omega
   have e2:p % 65536+65536 * (p / 65536)=p:=Nat.mod_add_div p 65536
   have e3:y+65536 * (b'+p / 65536)=(z % 65536).toNat+b+p:=by omega
   rw [Nat.add_assoc,←Nat.mul_add,e3,Nat.mul_add,Nat.mul_add,hp,Nat.mul_add]
   have e4:65536 ^ i * (b+c.toNat)=65536 ^ i * b+65536 ^ i * c.toNat:=Nat.mul_add _ _ _
   have e5:g.toNat * (Nt.val (v.take i)+65536 ^ i * (v.getD i 0).toNat)=g.toNat * Nt.val (v.take i)+65536 ^ i * (g.toNat * (v.getD i 0).toNat):=by rw [Nat.mul_add,Nat.mul_left_comm]
   omega)
  refine ⟨q,w',r1,r2,r3,r4,r5,?_⟩
  rw [←r6]
  refine bE.xv _ _ _ _ _ _ _ _ _ _ ?_
  intro v1 h1 v2 h2 v3 h3 v4 h4 v5 h5 v6 h6 v7 h7 v8 h8 v9 h9 v10 iA v11 ki v12 jE kW nY jP pA iD o8 mS tO nT xI lO wi qJ BU v20 zF
  have Ey:IntKind.i64.wrap ((i:Int)+(j:Int))=((j+i:Nat):Int):=by rw [i64_in _ (by omega)];omega
  rw [Ey,aj] at h4
  rw [h4] at h5 jE
  rw [aj] at h1
  have f2:v2.toNat=(v.getD i 0).toNat:=by rw [h2,gB,h1]
  have fp:(g * v2+c).toNat=p:=by rw [UInt64.toNat_add,UInt64.toNat_mul,f2,hp];omega
  have f3:v3=UInt64.ofNat (p / 65536):=by
   apply bn.1
   rw [h3,ec]
   exact (wG _).trans (by rw [fp])
  have f6:v6=(y:Int):=by rw [h6,h5,i64_in _ (by omega),hy]
  have f7:v7.toNat=p % 65536:=by rw [h7,ME,fp]
  have f8:v8=((p % 65536:Nat):Int):=by rw [h8,f7,i64_in _ (by omega)]
  have f9:v9=z:=by rw [h9,f6,f8,i64_in ((y:Int) - b) (by omega),i64_in _ (by omega),hz]
  have f10:v10=-(b':Int):=by rw [iA,f9,GU,kg];split <;> omega
  have f11:v11=(b':Int):=by rw [ki,f10,yx _ (by omega)];omega
  have f13:kW=((i+1:Nat):Int):=by rw [nY,i64_in _ (by omega)];omega
  rw [aa (by omega),ai,Ey,bw (bK (by omega) (by omega)),bw (bK (by omega) (by omega)),bw (aa (by omega)),bw (bK (by omega) (by omega)),bw (aa (by omega)),f11,f3,f13,jE,f9]
end Go.Eng
