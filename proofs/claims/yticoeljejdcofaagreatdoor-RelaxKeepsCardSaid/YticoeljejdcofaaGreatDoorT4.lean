/- Texts of my own, one behind the other: RxG5, RxG6, RxG, RxLA, RxShelf, RxFmt, RxDec, RxHand, RxNtP, RxP1, RxLib, RxL1, RxL2, RxP2, RxV, RxJ, RxN1, RxP3, RxP4, RxP5, RxP6, RxP7, RxP8, RxP9, RxP10, RxP11. -/
import Derived.Test.YticoeljejdcofaaGreatDoorT3
import Derived.Ground.Names7Prog
import Derived.Shelf.Strings.SlTrimAscii
import Derived.Shelf.Strings.Search1
import Derived.Shelf.Strings.Search2
import Derived.Shelf.Spec.TrailingZeros
import Derived.Shelf.Strings.OnBuilder
import Derived.Shelf.Strings.Repeat
import Derived.Shelf.LaysM
import Derived.Shelf.Strconv.Itoa3
import Derived.Shelf.Strconv.Itoa4
import Derived.Shelf.LaysC
import Derived.Shelf.Strconv.ParseIntPublic10
import Derived.Test.YticoeljejdcofaaGreatDoorProg
import Derived.Shelf.Strconv.Itoa1
import Derived.Shelf.Strconv.Itoa2
import Derived.Lib.Walk
import Derived.Lib.ItoaMem
import Derived.WalkKit
import Derived.WalkSpells
import Derived.BigCall
import Derived.BigGuard
set_option linter.unusedVariables false
set_option linter.unusedSimpArgs false
set_option maxRecDepth 100000
namespace Go.Eng
open Go.Proofs
noncomputable section
def eT.E:cr:=cL fC zs [(52,(dD.c,dD.sg)),(56,(eM.c,eM.sg)),(172,(gC.c,gC.sg)),(173,(gA.c,gA.sg)),(174,(gB.c,gB.sg)),(175,(ik.c,ik.sg)),(208,(dR.c,dR.sg)),(209,(fN.c,fN.sg)),(210,(eG.c,eG.sg))]
def eT.h:Hint := .o
def eT.F (v:Val):OT:=cI PG eT.E 176 eT.sg eT.h [(.ag (Val.cells v))]
theorem eT.bY (v:Val) {ρ:OT} (K:∀(v1:Bool) (h1:v1=(cond (decide ((Sh.text ((Val.bits v)))=([78,97,78]:bz))) (!decide ((Val.bits v)=(9221120237041090560:UInt64))) false)) (v2:bP) (h2:v2=(Cn.str ((Cn.high ((Val.bits v)))))) (v3:bP) (h3:v3=(Cn.one (([36,100,111,117,98,108,101,66,105,116,115]:bz)) v2)) (v4:bP) (h4:v4=(Cn.str ((Sh.text ((Val.bits v)))))) (v5:bP) (h5:v5=(Cn.one (([36,110,117,109,98,101,114,68,111,117,98,108,101]:bz)) v4)) (v6:Int) (h6:v6=(IntKind.i64.wrap (((Val.bits v)).toNat:Int))) (v7:bP) (h7:v7=(Cn.one (([36,110,117,109,98,101,114,76,111,110,103]:bz)) (Cn.str ((Nr.itoa v6))))) (v8:bP) (h8:v8=(Cn.one (([36,100,97,116,101]:bz)) v7)) (v9:Int) (h9:v9=(IntKind.i32.wrap (((Val.bits v)).toNat:Int))) (v10:bz) (iS:v10=(Nr.itoa ((IntKind.i64.wrap v9)))) (v11:bP) (kA:v11=(Cn.one (([36,110,117,109,98,101,114,73,110,116]:bz)) (Cn.str v10))) (v12:UInt64) (jM:v12=(dQ (Val.bits v) (((32:UInt64)).toNat))) (kq:Int) (nr:kq=(IntKind.i64.wrap ((v12).toNat:Int))) (jh:UInt64) (oa:jh=((Val.bits v) &&& (4294967295:UInt64))) (jb:Int) (nV:jb=(IntKind.i64.wrap ((jh).toNat:Int))) (lA:bP) (sw:lA=(Cn.two (([116]:bz)) (Cn.num kq) (([105]:bz)) (Cn.num jb))) (tG:bP) (zS:tG=(Cn.one (([36,116,105,109,101,115,116,97,109,112]:bz)) lA)) (tF:Bool) (wv:tF=(Cn.ri ((Val.high v)) ((Val.low v)))) (wX:bz) (ET:wX=(Cn.uS ((Val.high v)) ((Val.low v)))) (v20:bP) (CR:v20=(Cn.one (([36,110,117,109,98,101,114,68,101,99,105,109,97,108]:bz)) (Cn.str wX))) (v21:bz) (Pf:v21=((Cn.high ((Val.high v)))++(Cn.high ((Val.low v))))) (v22:bP) (Pe:v22=(Cn.one (([36,100,101,99,105,109,97,108,66,105,116,115]:bz)) (Cn.str v21))),cond (decide ((Val.kind v)=(1:Int)))
  (ck (!(decide ((Sh.text ((Val.bits v)))=([78,97,78]:bz))) || (decide ((Sh.text ((Val.bits v)))=([78,97,78]:bz)))) (ck (!(decide ((Sh.text ((Val.bits v)))=([78,97,78]:bz))) || (decide ((Sh.text ((Val.bits v)))=([78,97,78]:bz)))) (ck (!(decide ((Sh.text ((Val.bits v)))=([78,97,78]:bz))) || (decide ((Sh.text ((Val.bits v)))=([78,97,78]:bz)))) (cond v1
  (some [(.ag (bP.cells v3)),(.b true)])
  (some [(.ag (bP.cells v5)),(.b true)])))))
  (cond (decide ((Val.kind v)=(9:Int)))
  (ck (Nr.i64 v6) (some [(.ag (bP.cells v8)),(.b true)]))
  (cond (decide ((Val.kind v)=(16:Int)))
  (ck (Nr.i64 ((IntKind.i64.wrap v9))) (some [(.ag (bP.cells v11)),(.b true)]))
  (cond (decide ((Val.kind v)=(18:Int)))
  (ck (Nr.i64 v6) (some [(.ag (bP.cells v7)),(.b true)]))
  (cond (decide ((Val.kind v)=(17:Int)))
  (ck (Nr.i64 kq) (ck (Nr.i64 jb) (some [(.ag (bP.cells tG)),(.b true)])))
  (cond (decide ((Val.kind v)=(19:Int)))
  (cond tF
  (some [(.ag (bP.cells v20)),(.b true)])
  (ck (decide (((Cn.high ((Val.high v)))).length+((Cn.high ((Val.low v)))).length≤9223372036854775807)) (some [(.ag (bP.cells v22)),(.b true)])))
  (some [(.ag [(.i .i64 0),(.s []),(.sl .ml ([]:List Mem))]),(.b false)]))))))=ρ):eT.F v=ρ:=Eq.trans (by kernel_rfl) (K _ rfl _ rfl _ rfl _ rfl _ rfl _ rfl _ rfl _ rfl _ rfl _ rfl _ rfl _ rfl _ rfl _ rfl _ rfl _ rfl _ rfl _ rfl _ rfl _ rfl _ rfl _ rfl)
def gO.E:cr:=cL fC zs [(147,(cD.c,cD.sg)),(172,(gC.c,gC.sg)),(173,(gA.c,gA.sg)),(174,(gB.c,gB.sg)),(211,(db.c,db.sg))]
def gO.h:Hint := .o
def gO.F (v:Val):OT:=cI PG gO.E 177 gO.sg gO.h [(.ag (Val.cells v))]
theorem gO.bY (v:Val) {ρ:OT} (K:∀(v1:bP) (h1:v1=(Cn.str ((Cn.base ((Val.bytes v)))))) (v2:List UInt8) (h2:v2=([(UInt8.ofInt (Val.sub v))]:List UInt8)) (v3:bP) (h3:v3=(Cn.two (([98,97,115,101,54,52]:bz)) v1 (([115,117,98,84,121,112,101]:bz)) (Cn.str ((mN.text v2))))) (v4:bP) (h4:v4=(Cn.one (([36,98,105,110,97,114,121]:bz)) v3)) (v5:bP) (h5:v5=(Cn.str ((mN.text ((Val.bytes v)))))) (v6:bP) (h6:v6=(Cn.one (([36,111,105,100]:bz)) v5)) (v7:bP) (h7:v7=(Cn.two (([112,97,116,116,101,114,110]:bz)) (Cn.str ((Val.text v))) (([111,112,116,105,111,110,115]:bz)) (Cn.str ((Val.more v))))) (v8:bP) (h8:v8=(Cn.one (([36,114,101,103,117,108,97,114,69,120,112,114,101,115,115,105,111,110]:bz)) v7)) (v9:bP) (h9:v9=(Cn.two (([36,114,101,102]:bz)) (Cn.str ((Val.text v))) (([36,105,100]:bz)) v6)) (v10:bP) (iS:v10=(Cn.one (([36,100,98,80,111,105,110,116,101,114]:bz)) v9)) (v11:bP) (kA:v11=(Cn.one (([36,99,111,100,101]:bz)) (Cn.str ((Val.text v))))) (v12:bP) (jM:v12=(Cn.one (([36,115,121,109,98,111,108]:bz)) (Cn.str ((Val.text v))))),cond (decide ((Val.kind v)=(5:Int)))
  (ck (decide ((((Val.bytes v))).length≤1099511627776)) (ck (decide (v2.length≤1099511627776)) (some [(.ag (bP.cells v4))])))
  (cond (decide ((Val.kind v)=(7:Int)))
  (ck (decide (((Val.bytes v)).length≤1099511627776)) (some [(.ag (bP.cells v6))]))
  (cond (decide ((Val.kind v)=(11:Int)))
  (some [(.ag (bP.cells v8))])
  (cond (decide ((Val.kind v)=(12:Int)))
  (ck (decide (((Val.bytes v)).length≤1099511627776)) (some [(.ag (bP.cells v10))]))
  (cond (decide ((Val.kind v)=(13:Int)))
  (some [(.ag (bP.cells v11))])
  (cond (decide ((Val.kind v)=(14:Int)))
  (some [(.ag (bP.cells v12))])
  (some [(.ag (bP.cells (Cn.str ((Val.text v)))))]))))))=ρ):gO.F v=ρ:=Eq.trans (by kernel_rfl) (K _ rfl _ rfl _ rfl _ rfl _ rfl _ rfl _ rfl _ rfl _ rfl _ rfl _ rfl _ rfl)
def cN.E (n:Nat):cr:=cL fC zs [(133,(cn_value.cn n,cn_value.sg))] [51]
def cN.h:Hint := .s .o (.s .o (.s (.s .o (.b (.l [(2,.ptr 28 0),(3,.ptr 29 0),(7,.no),(8,.no),(9,.no),(28,.cl [(2,800000)]),(29,.cl [(2,800001)]),(800000,.pv),(800001,.pv)] .o))) .o))
def cN.F (n:Nat) (l:List bA):OT:=cI PG (cN.E n) 104 cN.sg cN.h [(.sl .fl l)]
def cN.l1 (n:Nat) (x0:List bA) (x1:Int) (x2:Int) (x3:Int) (x4:bz) (x5:Int) (x6:bz) (x7:List Mem) (x8:List Mem):OT:=dL PG (cN.E n) 104 cN.sg cN.h 43 [.pt,.pt,(.sl .fl x0),(.i .i64 x1),(.i .i64 x2),(.ag [(.i .i64 x3),(.s x4),.pt]),(.ag [(.i .i64 x5),(.s x6),.pt]),(.sl .ml x7),(.sl .ml x8)]
theorem cN.bX (n:Nat) (x0:List bA) (x1:Int) (x2:Int) (x3:Int) (x4:bz) (x5:Int) (x6:bz) (x7:List Mem) (x8:List Mem) {ρ:OT} (K:∀(v1:bA) (h1:v1=(List.getD x0 (x2).toNat (fx.gm .fl))) (v2:Int) (h2:v2=(bP.kind (Cn.yy (bA.val v1)))) (v3:bz) (h3:v3=(bP.text (Cn.yy (bA.val v1)))) (v4:List Mem) (h4:v4=(bP.kids (Cn.yy (bA.val v1)))) (v5:List Mem) (h5:v5=([(Mem.mk (bA.name v1) v2 v3 v4)]:List Mem)) (v6:Int) (h6:v6=(IntKind.i64.wrap (x2+(1:Int)))),cond (decide (x2<x1))
  (ck (bD x2 (x0).length) (ck ((decide (bA.bJ (bA.of [] (bA.val v1))≤1099511627776))&&decide ((2 * bA.bJ (bA.of [] (bA.val v1)))<n)) (ck (fi ((x8).length+(v5).length) 64) (cN.l1 n x0 x1 v6 x3 x4 x5 x6 x7 (x8++v5)))))
  (some [(.ag [(.i .i64 x5),(.s x6),(.sl .ml x8)])])=ρ):cN.l1 n x0 x1 x2 x3 x4 x5 x6 x7 x8=ρ:=((bV _ _ _ _ _ _ _).trans (by kernel_rfl)).trans (K _ rfl _ rfl _ rfl _ rfl _ rfl _ rfl)
theorem cN.dW (n:Nat) (l:List bA):cN.F n l=cN.l1 n l ((l).length:Int) (0:Int) (0:Int) ([]:bz) (7:Int) ([]:bz) ([]:List Mem) ([]:List Mem):=by kernel_rfl
def cn_value.E (n:Nat):cr:=cL fC zs [(65,(cS.c,cS.sg)),(66,(bS.c,bS.sg)),(104,(cN.cn n,cN.sg)),(172,(gC.c,gC.sg)),(173,(gA.c,gA.sg)),(174,(gB.c,gB.sg)),(175,(ik.c,ik.sg)),(176,(eT.c,eT.sg)),(177,(gO.c,gO.sg))]
def cn_value.h:Hint := .s .o (.s (.s .o (.b (.s .o (.s .o (.s .o (.s (.s .o (.s .o (.s .o (.s (.s .o (.b (.l [(2,.ptr 97 0),(3,.ptr 98 0),(44,.no),(45,.no),(97,.cl [(2,800000)]),(98,.cl [(2,800001)]),(800000,.pv),(800001,.pv)] .o))) .o)))) .o)))))) .o)
def cn_value.F (n:Nat) (v:Val):OT:=cI PG (cn_value.E n) 133 cn_value.sg cn_value.h [(.ag (Val.cells v))]
def cn_value.l1 (n:Nat) (x0:Int) (x1:Int) (x2:Int) (x3:bz) (x4:Int) (x5:bz) (x6:List Mem) (x7:List Mem):OT:=dL PG (cn_value.E n) 133 cn_value.sg cn_value.h 22389 [.pt,.pt,(.i .i64 x0),(.i .i64 x1),(.ag [(.i .i64 x2),(.s x3),.pt]),(.ag [(.i .i64 x4),(.s x5),.pt]),(.sl .ml x6),(.sl .ml x7)]
theorem cn_value.bX (n:Nat) (x0:Int) (x1:Int) (x2:Int) (x3:bz) (x4:Int) (x5:bz) (x6:List Mem) (x7:List Mem) {ρ:OT} (K:∀(v1:List Mem) (h1:v1=(List.set x7 ((x1).toNat) (Mem.mk ([]:bz) (Mem.kind (List.getD x7 ((x1).toNat) (fx.gm .ml))) (Mem.text (List.getD x7 ((x1).toNat) (fx.gm .ml))) (Mem.kids (List.getD x7 ((x1).toNat) (fx.gm .ml)))))) (v2:Int) (h2:v2=(IntKind.i64.wrap (x1+(1:Int)))),cond (decide (x1<x0))
  (ck (bD x1 (x7).length) (ck (decide ((x1).toNat<(x7).length)) (cn_value.l1 n x0 v2 x2 x3 x4 x5 x6 v1)))
  (some [(.ag [(.i .i64 x4),(.s x5),(.sl .ml x7)])])=ρ):cn_value.l1 n x0 x1 x2 x3 x4 x5 x6 x7=ρ:=((bV _ _ _ _ _ _ _).trans (by kernel_rfl)).trans (K _ rfl _ rfl)
theorem cn_value.bY (n:Nat) (v:Val) {ρ:OT} (K:∀(v1:Int) (h1:v1=(((Val.kids v)).length:Int)) (v2:bA) (h2:v2=(List.getD (Val.kids v) ((0:Int)).toNat (fx.gm .fl))) (v3:Bool) (h3:v3=(List.isPrefixOf (([36]:bz)) ((bA.name v2)))) (v4:Bool) (h4:v4=(cond (decide ((0:Int)<v1)) v3 false)) (v5:List Mem) (h5:v5=(bP.kids (Cn.rP ((Val.kids v))))) (v6:Int) (h6:v6=(bP.kind (Cn.rP ((Val.kids v))))) (v7:bz) (h7:v7=(bP.text (Cn.rP ((Val.kids v))))) (v8:bP) (h8:v8=(Cn.one (([36,100,111,99,117,109,101,110,116]:bz)) (bP.mk v6 v7 v5))) (v9:Bool) (h9:v9=(Tree.regular ((Val.kids v)))) (v10:bP) (iS:v10=(Cn.one (([36,97,114,114,97,121]:bz)) (bP.mk v6 v7 v5))) (v11:bP) (kA:v11=(Cn.two (([36,99,111,100,101]:bz)) (Cn.str ((Val.text v))) (([36,115,99,111,112,101]:bz)) (bP.mk v6 v7 v5))) (v12:bP) (jM:v12=(Cn.one (([36,117,110,100,101,102,105,110,101,100]:bz)) (bP.mk (3:Int) ([]:bz) ([]:List Mem)))) (kq:Int) (nr:kq=(IntKind.i64.wrap (((Val.bits v)).toNat:Int))) (jh:Int) (oa:jh=(IntKind.i64.wrap ((2:Int)+kq))) (jb:bP) (nV:jb=(Cn.one (([36,109,105,110,75,101,121]:bz)) (Cn.num ((1:Int))))) (lA:bP) (sw:lA=(Cn.one (([36,109,97,120,75,101,121]:bz)) (Cn.num ((1:Int))))),cond (decide ((Val.kind v)=(3:Int)))
  (ck (!(decide ((0:Int)<v1)) || (decide ((0:Int)<v1))) (ck (!(decide ((0:Int)<v1)) || ((decide ((0:Int)<v1))&&(bD (0:Int) ((Val.kids v)).length))) (ck (!(decide ((0:Int)<v1)) || (decide ((0:Int)<v1))) (ck (!(decide ((0:Int)<v1)) || (decide ((0:Int)<v1))) (ck (!(decide ((0:Int)<v1)) || (decide ((0:Int)<v1))) (ck (!(decide ((0:Int)<v1)) || (decide ((0:Int)<v1))) (cond v4
  (ck ((decide (bA.cm ((Val.kids v))≤1099511627776))&&decide ((2 * bA.cm ((Val.kids v))+1)<n)) (some [(.ag (bP.cells v8))]))
  (ck ((decide (bA.cm ((Val.kids v))≤1099511627776))&&decide ((2 * bA.cm ((Val.kids v))+1)<n)) (some [(.ag [(.i .i64 v6),(.s v7),(.sl .ml v5)])])))))))))
  (cond (decide ((Val.kind v)=(4:Int)))
  (ck ((decide (bA.cm ((Val.kids v))≤1099511627776))&&decide ((2 * bA.cm ((Val.kids v))+1)<n)) (ck (decide (((Val.kids v)).length≤1099511627776)) (cond (!v9)
  (some [(.ag (bP.cells v10))])
  (cn_value.l1 n ((v5).length:Int) (0:Int) (0:Int) ([]:bz) (6:Int) v7 ([]:List Mem) v5))))
  (cond (decide ((Val.kind v)=(15:Int)))
  (ck ((decide (bA.cm ((Val.kids v))≤1099511627776))&&decide ((2 * bA.cm ((Val.kids v))+1)<n)) (some [(.ag (bP.cells v11))]))
  (cond (decide ((Val.kind v)=(6:Int)))
  (some [(.ag (bP.cells v12))])
  (cond (decide ((Val.kind v)=(8:Int)))
  (some [(.ag [(.i .i64 jh),(.s []),(.sl .ml ([]:List Mem))])])
  (cond (decide ((Val.kind v)=(10:Int)))
  (some [(.ag [(.i .i64 1),(.s []),(.sl .ml ([]:List Mem))])])
  (cond (decide ((Val.kind v)=(255:Int)))
  (ck (Nr.i64 ((1:Int))) (some [(.ag (bP.cells jb))]))
  (cond (decide ((Val.kind v)=(127:Int)))
  (ck (Nr.i64 ((1:Int))) (some [(.ag (bP.cells lA))]))
  (cond ((Cn.oD v).2)
  (some [(.ag (bP.cells ((Cn.oD v).1)))])
  (ck (decide (bA.bJ (bA.of [] v)≤1099511627776)) (some [(.ag (bP.cells (Cn.pz v)))]))))))))))=ρ):cn_value.F n v=ρ:=Eq.trans (by kernel_rfl) (K _ rfl _ rfl _ rfl _ rfl _ rfl _ rfl _ rfl _ rfl _ rfl _ rfl _ rfl _ rfl _ rfl _ rfl _ rfl _ rfl)
def gP.E:cr:=cL fC zs [(25,(dC.c,dC.sg)),(104,(cN.c,cN.sg))]
def gP.h:Hint := .o
def gP.F (v:Val):OT:=cI PG gP.E 67 gP.sg gP.h [(.ag (Val.cells v))]
theorem gP.bY (v:Val) {ρ:OT} (K:∀(v1:List Int) (h1:v1=((Tree.gQ (bA.of [] v) []).1)) (v2:Int) (h2:v2=((Tree.gQ (bA.of [] v) []).2)) (v3:List Mem) (h3:v3=(bP.kids (Cn.rP ((Val.kids v))))) (v4:Int) (h4:v4=(bP.kind (Cn.rP ((Val.kids v))))) (v5:bz) (h5:v5=(bP.text (Cn.rP ((Val.kids v))))),ck (decide (bA.bJ (bA.of [] v)≤1099511627776)) (cond (!decide (v2=(0:Int)))
  (some [(.ag [(.i .i64 0),(.s []),(.sl .ml ([]:List Mem))]),(.ag [(.i .i64 v2),(.i .i64 0),(.sl .is v1)])])
  (cond (!decide ((Val.kind v)=(3:Int)))
  (some [(.ag [(.i .i64 0),(.s []),(.sl .ml ([]:List Mem))]),(.ag [(.i .i64 5),(.i .i64 0),(.sl .is ([]:List Int))])])
  (ck (decide (bA.cm ((Val.kids v))≤1099511627776)) (some [(.ag [(.i .i64 v4),(.s v5),(.sl .ml v3)]),(.ag [(.i .i64 0),(.i .i64 0),(.sl .is ([]:List Int))])]))))=ρ):gP.F v=ρ:=Eq.trans (by kernel_rfl) (K _ rfl _ rfl _ rfl _ rfl _ rfl)
def jo.E:cr:=cL fC zs [(97,(dX.c,dX.sg))]
def jo.h:Hint := .o
def jo.F (s:bz):OT:=cI PG jo.E 80 jo.sg jo.h [(.s s)]
theorem jo.dW (s:bz):jo.F s=ck (so (s).length) (ck (decide (s.length≤1099511627776)) (some [(.b (fR.whole s))])):=by kernel_rfl
def bZ.E (n:Nat):cr:=cL fC zs [(44,(bZ.cn n,bZ.sg)),(54,(bF.c,bF.sg)),(80,(jo.c,jo.sg))]
def bZ.h:Hint := .s .o (.s .o (.s (.s .o (.b (.l [(1,.ptr 105 0),(47,.no),(48,.no),(49,.no),(105,.cl [])] .o))) (.s .o (.s .o (.s (.s .o (.b (.l (sc [87,88,89]) .o))) .o)))))
def bZ.F (n:Nat) (j:bP):OT:=cI PG (bZ.E n) 44 bZ.sg bZ.h [(.ag (bP.cells j))]
def bZ.l1 (n:Nat) (x0:List Mem) (x1:Int) (x2:Int) (x3:bP):OT:=dL PG (bZ.E n) 44 bZ.sg bZ.h 43 [.pt,(.sl .ml x0),(.i .i64 x1),(.i .i64 x2),(.ag (bP.cells x3))]
def bZ.l2 (n:Nat) (x0:List Mem) (x1:Int) (x2:Int):OT:=dL PG (bZ.E n) 44 bZ.sg bZ.h 351 [(.sl .ml x0),(.i .i64 x1),(.i .i64 x2)]
theorem bZ.bX (n:Nat) (x0:List Mem) (x1:Int) (x2:Int) (x3:bP) {ρ:OT} (K:∀(v1:Mem) (h1:v1=(List.getD x0 (x2).toNat (fx.gm .ml))) (v2:Bool) (h2:v2=(cond (decide ((bP.kind x3)=(6:Int))) (!decide ((Mem.name v1)=([]:bz))) false)) (v3:Int) (h3:v3=(IntKind.i64.wrap (x2+(1:Int)))) (v4:Bool) (h4:v4=((decide ((bP.kind x3)=(4:Int)))&&(!(decide ((Nr.jf ((bP.text x3)))=(0:Int)))))) (v5:Int) (h5:v5=(((bP.text x3)).length:Int)) (v6:Bool) (h6:v6=(cond (decide ((Nr.jf ((bP.text x3)))=(0:Int))) true (decide ((300:Int)<v5)))) (v7:Bool) (h7:v7=(cond (decide ((bP.kind x3)=(4:Int))) v6 false)) (v8:Bool) (h8:v8=(!(fR.whole ((bP.text x3))))) (v9:Bool) (h9:v9=(cond (decide ((bP.kind x3)=(5:Int))) v8 false)) (v10:Int) (iS:v10=(((bP.kids x3)).length:Int)),cond (decide (x2<x1))
  (ck (bD x2 (x0).length) (ck (!(decide ((bP.kind x3)=(6:Int))) || (decide ((bP.kind x3)=(6:Int)))) (ck (!(decide ((bP.kind x3)=(6:Int))) || (decide ((bP.kind x3)=(6:Int)))) (ck (!(decide ((bP.kind x3)=(6:Int))) || (decide ((bP.kind x3)=(6:Int)))) (cond v2
  (some [(.i .i64 1)])
  (bZ.l1 n x0 x1 v3 x3))))))
  (ck (!(decide ((bP.kind x3)=(4:Int))) || (decide ((bP.kind x3)=(4:Int)))) (ck (!(decide ((bP.kind x3)=(4:Int))) || ((decide ((bP.kind x3)=(4:Int)))&&(decide ((((bP.text x3))).length≤1099511627776)))) (ck (!(decide ((bP.kind x3)=(4:Int))) || (decide ((bP.kind x3)=(4:Int)))) (ck (!(decide ((bP.kind x3)=(4:Int))) || (decide ((bP.kind x3)=(4:Int)))) (ck (!v4 || v4) (ck (!v4 || v4) (ck (!v4 || v4) (ck (!(decide ((bP.kind x3)=(4:Int))) || ((decide ((bP.kind x3)=(4:Int)))&&((decide ((Nr.jf ((bP.text x3)))=(0:Int))) || v4))) (ck (!(decide ((bP.kind x3)=(4:Int))) || (decide ((bP.kind x3)=(4:Int)))) (cond v7
  (some [(.i .i64 10)])
  (ck (!(decide ((bP.kind x3)=(5:Int))) || (decide ((bP.kind x3)=(5:Int)))) (ck (!(decide ((bP.kind x3)=(5:Int))) || ((decide ((bP.kind x3)=(5:Int)))&&(decide ((((bP.text x3))).length≤1099511627776)))) (ck (!(decide ((bP.kind x3)=(5:Int))) || (decide ((bP.kind x3)=(5:Int)))) (ck (!(decide ((bP.kind x3)=(5:Int))) || (decide ((bP.kind x3)=(5:Int)))) (cond v9
  (some [(.i .i64 4)])
  (bZ.l2 n (bP.kids x3) v10 (0:Int)))))))))))))))))=ρ):bZ.l1 n x0 x1 x2 x3=ρ:=((bV _ _ _ _ _ _ _).trans (by kernel_rfl)).trans (K _ rfl _ rfl _ rfl _ rfl _ rfl _ rfl _ rfl _ rfl _ rfl _ rfl)
theorem bZ.iu (n:Nat) (x0:List Mem) (x1:Int) (x2:Int) {ρ:OT} (K:∀(v1:Mem) (h1:v1=(List.getD x0 (x2).toNat (fx.gm .ml))) (v2:Bool) (h2:v2=(!(fR.whole ((Mem.name v1))))) (v3:Int) (h3:v3=(IntKind.i64.wrap (x2+(1:Int)))),cond (decide (x2<x1))
  (ck (bD x2 (x0).length) (ck (decide ((((Mem.name v1))).length≤1099511627776)) (cond v2
  (some [(.i .i64 4)])
  (ck ((decide (bP.bJ (Mem.val v1)≤1099511627776))&&decide ((bP.bJ (Mem.val v1))<n)) (cond (!decide ((Cn.mq (Mem.val v1))=(0:Int)))
  (some [(.i .i64 (Cn.mq (Mem.val v1)))])
  (bZ.l2 n x0 x1 v3))))))
  (some [(.i .i64 0)])=ρ):bZ.l2 n x0 x1 x2=ρ:=((bV _ _ _ _ _ _ _).trans (by kernel_rfl)).trans (K _ rfl _ rfl _ rfl)
theorem bZ.bY (n:Nat) (j:bP) {ρ:OT} (K:∀(v1:Bool) (h1:v1=(cond (decide ((bP.kind j)<(1:Int))) true (decide ((7:Int)<(bP.kind j))))) (v2:Int) (h2:v2=(((bP.kids j)).length:Int)) (v3:Bool) (h3:v3=(cond (decide ((0:Int)<v2)) (!decide ((bP.kind j)=(6:Int))) false)) (v4:Bool) (h4:v4=(cond v3 (!decide ((bP.kind j)=(7:Int))) false)) (v5:Bool) (h5:v5=(cond (!decide ((bP.text j)=([]:bz))) (!decide ((bP.kind j)=(4:Int))) false)) (v6:Bool) (h6:v6=(cond v5 (!decide ((bP.kind j)=(5:Int))) false)),ck (!(!(decide ((bP.kind j)<(1:Int)))) || (!(decide ((bP.kind j)<(1:Int))))) (ck (!(!(decide ((bP.kind j)<(1:Int)))) || (!(decide ((bP.kind j)<(1:Int))))) (ck ((decide ((bP.kind j)<(1:Int))) || (!(decide ((bP.kind j)<(1:Int))))) (cond v1
  (some [(.i .i64 1)])
  (ck (!(decide ((0:Int)<v2)) || (decide ((0:Int)<v2))) (ck (!(decide ((0:Int)<v2)) || (decide ((0:Int)<v2))) (ck (!(decide ((0:Int)<v2)) || (decide ((0:Int)<v2))) (ck (!v3 || v3) (ck (!v3 || v3) (ck (!v3 || v3) (cond v4
  (some [(.i .i64 1)])
  (ck (!(!decide ((bP.text j)=([]:bz))) || (!decide ((bP.text j)=([]:bz)))) (ck (!(!decide ((bP.text j)=([]:bz))) || (!decide ((bP.text j)=([]:bz)))) (ck (!(!decide ((bP.text j)=([]:bz))) || (!decide ((bP.text j)=([]:bz)))) (ck (!v5 || v5) (ck (!v5 || v5) (ck (!v5 || v5) (cond v6
  (some [(.i .i64 1)])
  (bZ.l1 n (bP.kids j) v2 (0:Int) j))))))))))))))))))=ρ):bZ.F n j=ρ:=Eq.trans (by kernel_rfl) (K _ rfl _ rfl _ rfl _ rfl _ rfl _ rfl)
def cF.E:cr:=cL fC zs [(80,(jo.c,jo.sg)),(146,(di.c,di.sg)),(147,(cD.c,cD.sg))]
def cF.h:Hint := .s .o (.s .o (.s .o (.s (.s .o (.b (.l [(0,.no),(4,.fB 800000),(13,.no),(14,.no),(800000,.pv)] (.s .o (.s .o (.j [(0,.no),(4,.fB 800000),(13,.no),(14,.no),(800000,.pv)] .o .o)))))) .o)))
def cF.F (s:bz):OT:=cI PG cF.E 112 cF.sg cF.h [(.s s)]
def cF.l1 (x0:bz) (x1:Int) (x2:Int) (x3:List UInt8):OT:=dL PG cF.E 112 cF.sg cF.h 87 [(.s x0),.pt,(.i .i64 x1),(.i .i64 x2),(.sl .bs x3)]
def cF.j2 (x0:bz) (x1:Int) (x2:Int) (x3:List UInt8):OT:=eD PG cF.E 112 cF.sg cF.h 919 [(.s x0),.pt,(.i .i64 x1),(.i .i64 x2),(.sl .bs x3)]
theorem cF.bX (x0:bz) (x1:Int) (x2:Int) (x3:List UInt8) {ρ:OT} (K:∀(v1:UInt8) (h1:v1=(List.getD x0 (x2).toNat (0:UInt8))) (v2:Int) (h2:v2=(Lib.indexByte (([34,92,8,12,10,13,9]:bz)) v1)) (v3:UInt8) (h3:v3=(List.getD ([34,92,98,102,110,114,116]:bz) (v2).toNat (0:UInt8))) (v4:List UInt8) (h4:v4=([(92:UInt8),v3]:List UInt8)) (v5:List UInt8) (h5:v5=(x3++([92,117,48,48]:bz))) (v6:bz) (h6:v6=(mN.text (([v1]:List UInt8)))) (v7:List UInt8) (h7:v7=([(34:UInt8)]:List UInt8)),cond (decide (x2<x1))
  (ck (bD x2 (x0).length) (cond (decide ((0:Int)≤v2))
  (ck (bD v2 (([34,92,98,102,110,114,116]:bz)).length) (ck (fi ((x3).length+(v4).length) 1) (cF.j2 x0 x1 x2 (x3++v4))))
  (cond (decide (v1<(32:UInt8)))
  (ck (fi ((x3).length+(([92,117,48,48]:bz)).length) 1) (ck (decide ((([v1]:List UInt8)).length≤1099511627776)) (ck (fi ((v5).length+(v6).length) 1) (cF.j2 x0 x1 x2 (v5++v6)))))
  (ck (fi ((x3).length+(([v1]:List UInt8)).length) 1) (cF.j2 x0 x1 x2 (x3++([v1]:List UInt8)))))))
  (ck (fi ((x3).length+(v7).length) 1) (some [(.s (x3++v7)),(.b true)]))=ρ):cF.l1 x0 x1 x2 x3=ρ:=((bV _ _ _ _ _ _ _).trans (by kernel_rfl)).trans (K _ rfl _ rfl _ rfl _ rfl _ rfl _ rfl _ rfl)
theorem cF.jx (x0:bz) (x1:Int) (x2:Int) (x3:List UInt8) {ρ:OT} (K:∀(v1:Int) (h1:v1=(IntKind.i64.wrap (x2+(1:Int)))),cF.l1 x0 x1 v1 x3=ρ):cF.j2 x0 x1 x2 x3=ρ:=((cp _ _ _ _ _ _ _).trans (by kernel_rfl)).trans (K _ rfl)
theorem cF.bY (s:bz) {ρ:OT} (K:∀(v1:List UInt8) (h1:v1=([(34:UInt8)]:List UInt8)),ck (decide ((s).length≤1099511627776)) (cond (!(fR.whole s))
  (some [(.s []),(.b false)])
  (cF.l1 s ((s).length:Int) (0:Int) v1))=ρ):cF.F s=ρ:=Eq.trans (by kernel_rfl) (K _ rfl)
def eS.E:cr:=cL fC zs [(112,(cF.c,cF.sg))]
def eS.h:Hint := .o
def eS.F (b:List UInt8) (s:bz):OT:=cI PG eS.E 81 eS.sg eS.h [(.sl .bs b),(.s s)]
theorem eS.dW (b:List UInt8) (s:bz):eS.F b s=ck (decide ((s).length≤1000000000000)) (ck (fi ((b).length+((Cn.ku s)).length) 1) (some [(.sl .bs (b++(Cn.ku s)))])):=by kernel_rfl
def cz.E (n:Nat):cr:=cL fC zs [(45,(cz.cn n,cz.sg)),(81,(eS.c,eS.sg))]
def cz.h:Hint := .s .o (.s .o (.s .o (.j [(0,.fB 1000000),(3,.ptr 76 0),(5,.no),(6,.no),(76,.cl []),(1000000,.pv)] .o (.s .o (.s (.s .o (.b (.l [(0,.fB 800000),(3,.ptr 76 0),(6,.no),(43,.no),(44,.no),(45,.no),(76,.cl []),(800000,.pv)] (.s .o (.s .o (.s (.b (.s .o (.j [(0,.fB 800000),(3,.ptr 76 0),(6,.no),(8,.ptr 81 0),(43,.no),(44,.no),(45,.no),(76,.cl []),(81,.cl []),(800000,.pv)] .o (.j [(0,.fB 800000),(3,.ptr 76 0),(6,.no),(8,.ptr 81 0),(43,.no),(44,.no),(45,.no),(76,.cl []),(81,.cl []),(800000,.pv)] .o .o)))) .o)))))) .o)))))
def cz.F (n:Nat) (b:List UInt8) (j:bP):OT:=cI PG (cz.E n) 45 cz.sg cz.h [(.sl .bs b),(.ag (bP.cells j))]
def cz.j1 (n:Nat) (x0:UInt8) (x1:UInt8) (x2:bP) (x3:List UInt8):OT:=eD PG (cz.E n) 45 cz.sg cz.h 15 [.pt,.pt,(.u8 x0),(.u8 x1),(.ag (bP.cells x2)),(.sl .bs x3)]
def cz.l2 (n:Nat) (x0:UInt8) (x1:List Mem) (x2:Int) (x3:Int) (x4:bP) (x5:List UInt8):OT:=dL PG (cz.E n) 45 cz.sg cz.h 351 [.pt,.pt,(.u8 x0),(.sl .ml x1),(.i .i64 x2),(.i .i64 x3),(.ag (bP.cells x4)),(.sl .bs x5)]
def cz.j3 (n:Nat) (x0:UInt8) (x1:List Mem) (x2:Int) (x3:Int) (x4:bP) (x5:Mem) (x6:List UInt8):OT:=eD PG (cz.E n) 45 cz.sg cz.h 26207 [.pt,.pt,(.u8 x0),.pt,(.sl .ml x1),(.i .i64 x2),(.i .i64 x3),(.ag (bP.cells x4)),(.ag (Mem.cells x5)),(.sl .bs x6)]
def cz.j4 (n:Nat) (x0:UInt8) (x1:List Mem) (x2:Int) (x3:Int) (x4:bP) (x5:Mem) (x6:List UInt8):OT:=eD PG (cz.E n) 45 cz.sg cz.h 58975 [.pt,.pt,(.u8 x0),.pt,(.sl .ml x1),(.i .i64 x2),(.i .i64 x3),(.ag (bP.cells x4)),(.ag (Mem.cells x5)),(.sl .bs x6)]
theorem cz.iR (n:Nat) (x0:UInt8) (x1:UInt8) (x2:bP) (x3:List UInt8) {ρ:OT} (K:∀(v1:Int) (h1:v1=(((bP.kids x2)).length:Int)),ck (fi ((x3).length+(([x0]:List UInt8)).length) 1) (cz.l2 n x1 (bP.kids x2) v1 (0:Int) x2 (x3++([x0]:List UInt8)))=ρ):cz.j1 n x0 x1 x2 x3=ρ:=((cp _ _ _ _ _ _ _).trans (by kernel_rfl)).trans (K _ rfl)
theorem cz.iu (n:Nat) (x0:UInt8) (x1:List Mem) (x2:Int) (x3:Int) (x4:bP) (x5:List UInt8) {ρ:OT} (K:∀(v1:Mem) (h1:v1=(List.getD x1 (x3).toNat (fx.gm .ml))) (v2:List UInt8) (h2:v2=([(44:UInt8)]:List UInt8)),cond (decide (x3<x2))
  (ck (bD x3 (x1).length) (cond (decide ((0:Int)<x3))
  (ck (fi ((x5).length+(v2).length) 1) (cz.j3 n x0 x1 x2 x3 x4 v1 (x5++v2)))
  (cz.j3 n x0 x1 x2 x3 x4 v1 x5)))
  (ck (fi ((x5).length+(([x0]:List UInt8)).length) 1) (some [(.sl .bs (x5++([x0]:List UInt8)))]))=ρ):cz.l2 n x0 x1 x2 x3 x4 x5=ρ:=((bV _ _ _ _ _ _ _).trans (by kernel_rfl)).trans (K _ rfl _ rfl)
theorem cz.qw (n:Nat) (x0:UInt8) (x1:List Mem) (x2:Int) (x3:Int) (x4:bP) (x5:Mem) (x6:List UInt8) {ρ:OT} (K:∀(v1:List UInt8) (h1:v1=((x6++Cn.ku ((Mem.name x5))))) (v2:List UInt8) (h2:v2=([(58:UInt8)]:List UInt8)),cond (decide ((bP.kind x4)=(7:Int)))
  (ck (decide ((x6).length+6 * (((Mem.name x5))).length≤5000000000000)) (ck (fi ((v1).length+(v2).length) 1) (cz.j4 n x0 x1 x2 x3 x4 x5 (v1++v2))))
  (cz.j4 n x0 x1 x2 x3 x4 x5 x6)=ρ):cz.j3 n x0 x1 x2 x3 x4 x5 x6=ρ:=((cp _ _ _ _ _ _ _).trans (by kernel_rfl)).trans (K _ rfl _ rfl)
theorem cz.Gs (n:Nat) (x0:UInt8) (x1:List Mem) (x2:Int) (x3:Int) (x4:bP) (x5:Mem) (x6:List UInt8) {ρ:OT} (K:∀(v1:List UInt8) (h1:v1=((x6++Cn.uF (Mem.val x5)))) (v2:Int) (h2:v2=(IntKind.i64.wrap (x3+(1:Int)))),ck ((decide ((x6).length+12 * bP.bJ (Mem.val x5)≤4000000000000))&&decide ((bP.bJ (Mem.val x5))<n)) (cz.l2 n x0 x1 x2 v2 x4 v1)=ρ):cz.j4 n x0 x1 x2 x3 x4 x5 x6=ρ:=((cp _ _ _ _ _ _ _).trans (by kernel_rfl)).trans (K _ rfl _ rfl)
theorem cz.bY (n:Nat) (b:List UInt8) (j:bP) {ρ:OT} (K:∀(v1:List UInt8) (h1:v1=(b++([110,117,108,108]:bz))) (v2:List UInt8) (h2:v2=(b++([102,97,108,115,101]:bz))) (v3:List UInt8) (h3:v3=(b++([116,114,117,101]:bz))) (v4:List UInt8) (h4:v4=((b++Cn.ku ((bP.text j))))),cond (decide ((bP.kind j)=(1:Int)))
  (ck (fi ((b).length+(([110,117,108,108]:bz)).length) 1) (some [(.sl .bs v1)]))
  (cond (decide ((bP.kind j)=(2:Int)))
  (ck (fi ((b).length+(([102,97,108,115,101]:bz)).length) 1) (some [(.sl .bs v2)]))
  (cond (decide ((bP.kind j)=(3:Int)))
  (ck (fi ((b).length+(([116,114,117,101]:bz)).length) 1) (some [(.sl .bs v3)]))
  (cond (decide ((bP.kind j)=(4:Int)))
  (ck (fi ((b).length+((bP.text j)).length) 1) (some [(.sl .bs (b++(bP.text j)))]))
  (cond (decide ((bP.kind j)=(5:Int)))
  (ck (decide ((b).length+6 * (((bP.text j))).length≤5000000000000)) (some [(.sl .bs v4)]))
  (cond (decide ((bP.kind j)=(7:Int)))
  (cz.j1 n (123:UInt8) (125:UInt8) j b)
  (cz.j1 n (91:UInt8) (93:UInt8) j b))))))=ρ):cz.F n b j=ρ:=Eq.trans (by kernel_rfl) (K _ rfl _ rfl _ rfl _ rfl)
def fK.E:cr:=cL fC zs [(44,(bZ.c,bZ.sg)),(45,(cz.c,cz.sg))]
def fK.h:Hint := .o
def fK.F (j:bP):OT:=cI PG fK.E 28 fK.sg fK.h [(.ag (bP.cells j))]
theorem fK.bY (j:bP) {ρ:OT} (K:∀(v1:List UInt8) (h1:v1=(((([]:List UInt8))++Cn.uF j))),ck (decide (bP.bJ j≤1099511627776)) (cond (!decide ((Cn.mq j)=(0:Int)))
  (some [(.s []),(.i .i64 (Cn.mq j))])
  (ck (decide (((([]:List UInt8))).length+12 * bP.bJ j≤4000000000000)) (some [(.s v1),(.i .i64 0)])))=ρ):fK.F j=ρ:=Eq.trans (by kernel_rfl) (K _ rfl)
def Nx.E (n:Nat):cr:=cL fC zs [(46,(Nx.cn n,Nx.sg)),(82,(YZ.c,YZ.sg)),(83,(Ln.c,Ln.sg))]
def Nx.h:Hint := .s .o (.s .o (.s .o (.s (.s .o (.b (.l [(1,.ptr 121 0),(5,.no),(121,.cl [])] .o))) (.s .o (.s .o (.s (.s .o (.b (.l [(1,.ptr 121 0),(6,.no),(121,.cl [])] .o))) .o))))))
def Nx.F (n:Nat) (j:bP):OT:=cI PG (Nx.E n) 46 Nx.sg Nx.h [(.ag (bP.cells j))]
def Nx.l1 (n:Nat) (x0:Int) (x1:bP):OT:=dL PG (Nx.E n) 46 Nx.sg Nx.h 87 [.pt,(.i .i64 x0),(.ag (bP.cells x1))]
def Nx.l2 (n:Nat) (x0:Int) (x1:bP):OT:=dL PG (Nx.E n) 46 Nx.sg Nx.h 703 [.pt,(.i .i64 x0),(.ag (bP.cells x1))]
theorem Nx.bX (n:Nat) (x0:Int) (x1:bP) {ρ:OT} (K:∀(v1:Int) (h1:v1=(((bP.kids x1)).length:Int)) (v2:Bool) (h2:v2=(cond (decide (x0<v1)) (decide ((bP.kind x1)=(6:Int))) false)) (v3:Mem) (h3:v3=(List.getD (bP.kids x1) (x0).toNat (fx.gm .ml))) (v4:Int) (h4:v4=(IntKind.i64.wrap (x0+(1:Int)))) (v5:Bool) (h5:v5=((decide ((bP.kind x1)=(4:Int)))&&(!(decide ((Nr.jf ((bP.text x1)))=(0:Int)))))) (v6:Int) (h6:v6=(((bP.text x1)).length:Int)) (v7:Bool) (h7:v7=(cond (decide ((Nr.jf ((bP.text x1)))=(0:Int))) true (decide ((300:Int)<v6)))) (v8:Bool) (h8:v8=(cond (decide ((bP.kind x1)=(4:Int))) v7 false)) (v9:Bool) (h9:v9=(!(fR.whole ((bP.text x1))))) (v10:Bool) (iS:v10=(cond (decide ((bP.kind x1)=(5:Int))) v9 false)),ck (!(decide (x0<v1)) || (decide (x0<v1))) (ck (!(decide (x0<v1)) || (decide (x0<v1))) (ck (!(decide (x0<v1)) || (decide (x0<v1))) (cond v2
  (ck (bD x0 ((bP.kids x1)).length) (cond (!decide ((Mem.name v3)=([]:bz)))
  (some [(.i .i64 1)])
  (Nx.l1 n v4 x1)))
  (ck (!(decide ((bP.kind x1)=(4:Int))) || (decide ((bP.kind x1)=(4:Int)))) (ck (!(decide ((bP.kind x1)=(4:Int))) || ((decide ((bP.kind x1)=(4:Int)))&&(decide ((((bP.text x1))).length≤1099511627776)))) (ck (!(decide ((bP.kind x1)=(4:Int))) || (decide ((bP.kind x1)=(4:Int)))) (ck (!(decide ((bP.kind x1)=(4:Int))) || (decide ((bP.kind x1)=(4:Int)))) (ck (!v5 || v5) (ck (!v5 || v5) (ck (!v5 || v5) (ck (!(decide ((bP.kind x1)=(4:Int))) || ((decide ((bP.kind x1)=(4:Int)))&&((decide ((Nr.jf ((bP.text x1)))=(0:Int))) || v5))) (ck (!(decide ((bP.kind x1)=(4:Int))) || (decide ((bP.kind x1)=(4:Int)))) (cond v8
  (some [(.i .i64 10)])
  (ck (!(decide ((bP.kind x1)=(5:Int))) || (decide ((bP.kind x1)=(5:Int)))) (ck (!(decide ((bP.kind x1)=(5:Int))) || ((decide ((bP.kind x1)=(5:Int)))&&(decide (((bP.text x1)).length≤1099511627776)))) (ck (!(decide ((bP.kind x1)=(5:Int))) || (decide ((bP.kind x1)=(5:Int)))) (ck (!(decide ((bP.kind x1)=(5:Int))) || (decide ((bP.kind x1)=(5:Int)))) (cond v10
  (some [(.i .i64 4)])
  (Nx.l2 n (0:Int) x1)))))))))))))))))))=ρ):Nx.l1 n x0 x1=ρ:=((bV _ _ _ _ _ _ _).trans (by kernel_rfl)).trans (K _ rfl _ rfl _ rfl _ rfl _ rfl _ rfl _ rfl _ rfl _ rfl _ rfl)
theorem Nx.iu (n:Nat) (x0:Int) (x1:bP) {ρ:OT} (K:∀(v1:Int) (h1:v1=(((bP.kids x1)).length:Int)) (v2:Mem) (h2:v2=(List.getD (bP.kids x1) (x0).toNat (fx.gm .ml))) (v3:Bool) (h3:v3=(!(fR.whole ((Mem.name v2))))) (v4:Int) (h4:v4=(IntKind.i64.wrap (x0+(1:Int)))),cond (decide (x0<v1))
  (ck (bD x0 ((bP.kids x1)).length) (ck (decide (((Mem.name v2)).length≤1099511627776)) (cond v3
  (some [(.i .i64 4)])
  (ck (bD x0 ((bP.kids x1)).length) (ck ((decide (bP.bJ (Mem.val v2)≤1099511627776))&&decide ((bP.bJ (Mem.val v2))<n)) (cond (!decide ((Cn.mq (Mem.val v2))=(0:Int)))
  (some [(.i .i64 (Cn.mq (Mem.val v2)))])
  (Nx.l2 n v4 x1)))))))
  (some [(.i .i64 0)])=ρ):Nx.l2 n x0 x1=ρ:=((bV _ _ _ _ _ _ _).trans (by kernel_rfl)).trans (K _ rfl _ rfl _ rfl _ rfl)
theorem Nx.bY (n:Nat) (j:bP) {ρ:OT} (K:∀(v1:Bool) (h1:v1=(cond (decide ((bP.kind j)=(4:Int))) true (decide ((bP.kind j)=(5:Int))))) (v2:Bool) (h2:v2=(cond (decide ((bP.kind j)=(6:Int))) true (decide ((bP.kind j)=(7:Int))))) (v3:Bool) (h3:v3=(cond (decide ((bP.kind j)<(1:Int))) true (decide ((7:Int)<(bP.kind j))))) (v4:Int) (h4:v4=(((bP.kids j)).length:Int)) (v5:Bool) (h5:v5=(cond (!v2) (decide ((0:Int)<v4)) false)) (v6:Bool) (h6:v6=((!(cond v3 true v5))&&(!v1))) (v7:Bool) (h7:v7=(cond (!v1) (!decide ((bP.text j)=([]:bz))) false)) (v8:Bool) (h8:v8=(cond (cond v3 true v5) true v7)),ck (!(!(decide ((bP.kind j)=(4:Int)))) || (!(decide ((bP.kind j)=(4:Int))))) (ck (!(!(decide ((bP.kind j)=(4:Int)))) || (!(decide ((bP.kind j)=(4:Int))))) (ck ((decide ((bP.kind j)=(4:Int))) || (!(decide ((bP.kind j)=(4:Int))))) (ck (!(!(decide ((bP.kind j)=(6:Int)))) || (!(decide ((bP.kind j)=(6:Int))))) (ck (!(!(decide ((bP.kind j)=(6:Int)))) || (!(decide ((bP.kind j)=(6:Int))))) (ck ((decide ((bP.kind j)=(6:Int))) || (!(decide ((bP.kind j)=(6:Int))))) (ck (!(!(decide ((bP.kind j)<(1:Int)))) || (!(decide ((bP.kind j)<(1:Int))))) (ck (!(!(decide ((bP.kind j)<(1:Int)))) || (!(decide ((bP.kind j)<(1:Int))))) (ck ((decide ((bP.kind j)<(1:Int))) || (!(decide ((bP.kind j)<(1:Int))))) (ck (!(!v3) || (!v3)) (ck (!(!v3) || (!v3)) (ck (!((!v3)&&(!v2)) || ((!v3)&&(!v2))) (ck (!((!v3)&&(!v2)) || ((!v3)&&(!v2))) (ck (!((!v3)&&(!v2)) || ((!v3)&&(!v2))) (ck (!(!v3) || ((!v3)&&(!(!v2) || ((!v3)&&(!v2))))) (ck (v3 || (!v3)) (ck (!(!(cond v3 true v5)) || (!(cond v3 true v5))) (ck (!(!(cond v3 true v5)) || (!(cond v3 true v5))) (ck (!v6 || v6) (ck (!v6 || v6) (ck (!(!(cond v3 true v5)) || ((!(cond v3 true v5))&&(!(!v1) || v6))) (ck ((cond v3 true v5) || (!(cond v3 true v5))) (cond v8
  (some [(.i .i64 1)])
  (Nx.l1 n (0:Int) j)))))))))))))))))))))))=ρ):Nx.F n j=ρ:=Eq.trans (by kernel_rfl) (K _ rfl _ rfl _ rfl _ rfl _ rfl _ rfl _ rfl _ rfl)
def fP.E:cr:=cL fC zs []
def fP.h:Hint := .o
def fP.F (a:List UInt8):OT:=cI PG fP.E 32 fP.sg fP.h [(.sl .bs a)]
theorem fP.dW (a:List UInt8):fP.F a=cond (List.isEmpty a)
  (both (some [(.sl .bs ([]:List UInt8))]) (ck (fi ((([]:List UInt8)).length+(a).length) 1) (some [(.sl .bs (([]:List UInt8)++a))])))
  (ck (fi ((([]:List UInt8)).length+(a).length) 1) (some [(.sl .bs (([]:List UInt8)++a))])):=by kernel_rfl
def fO.E:cr:=cL fC zs []
def fO.h:Hint := .o
def fO.F (b:UInt64):OT:=cI PG fO.E 90 fO.sg fO.h [(.u64 b)]
theorem fO.bY (b:UInt64) {ρ:OT} (K:∀(v1:UInt64) (h1:v1=(b &&& ~~~(9223372036854775808:UInt64))) (v2:Int) (h2:v2=(IntKind.i64.wrap ((v1).toNat:Int))) (v3:UInt64) (h3:v3=(dQ b (((63:UInt64)).toNat))),cond (decide (v3=(1:UInt64)))
  (some [(.i .i64 (IntKind.i64.wrap (0 - v2)))])
  (some [(.i .i64 v2)])=ρ):fO.F b=ρ:=Eq.trans (by kernel_rfl) (K _ rfl _ rfl _ rfl)
def iP.E:cr:=cL fC zs [(51,(dN.c,dN.sg)),(90,(fO.c,fO.sg))]
def iP.h:Hint := .o
def iP.F (a:UInt64) (b:UInt64):OT:=cI PG iP.E 53 iP.sg iP.h [(.u64 a),(.u64 b)]
theorem iP.bY (a:UInt64) (b:UInt64) {ρ:OT} (K:∀(v1:Bool) (h1:v1=(cond (decide (((Nr.split a).1)=(4:Int))) true (decide (((Nr.split b).1)=(4:Int))))),ck (!(!(decide (((Nr.split a).1)=(4:Int)))) || (!(decide (((Nr.split a).1)=(4:Int))))) (ck ((decide (((Nr.split a).1)=(4:Int))) || (!(decide (((Nr.split a).1)=(4:Int))))) (cond v1
  (some [(.i .i64 0),(.b false)])
  (cond (decide ((Rl.order a)<(Rl.order b)))
  (some [(.i .i64 (-1)),(.b true)])
  (cond (decide ((Rl.order b)<(Rl.order a)))
  (some [(.i .i64 1),(.b true)])
  (some [(.i .i64 0),(.b true)])))))=ρ):iP.F a b=ρ:=Eq.trans (by kernel_rfl) (K _ rfl)
def iN.E:cr:=cL fC zs []
def iN.h:Hint := .o
def iN.F (t:bz):OT:=cI PG iN.E 62 iN.sg iN.h [(.s t)]
theorem iN.dW (t:bz):iN.F t=some [(.ag [(.i .i64 4),(.s t),(.sl .ml ([]:List Mem))])]:=by kernel_rfl
def dZ.E:cr:=cL fC zs [(51,(dN.c,dN.sg)),(52,(dD.c,dD.sg)),(53,(iP.c,iP.sg)),(54,(bF.c,bF.sg))]
def dZ.h:Hint := .o
def dZ.F (b:UInt64):OT:=cI PG dZ.E 33 dZ.sg dZ.h [(.u64 b)]
theorem dZ.bY (b:UInt64) {ρ:OT} (K:∀(v1:UInt64) (h1:v1=(b &&& ~~~(9223372036854775808:UInt64))) (v2:Int) (h2:v2=((Rl.Aj v1 ((4845873199050653696:UInt64))).1)) (v3:Bool) (h3:v3=((Rl.Aj v1 ((4845873199050653696:UInt64))).2)) (v4:Bool) (h4:v4=(cond (decide (v2<(0:Int))) true (decide ((Nr.jf ((Sh.text b)))=(2:Int))))),cond (decide (((Nr.split b).1)=(1:Int)))
  (some [(.s ([48]:bz)),(.b (!((Nr.split b).2.1)))])
  (cond (!decide (((Nr.split b).1)=(2:Int)))
  (some [(.s []),(.b false)])
  (ck (!(!(decide (v2<(0:Int)))) || ((!(decide (v2<(0:Int))))&&(decide ((((Sh.text b))).length≤1099511627776)))) (ck (!(!(decide (v2<(0:Int)))) || (!(decide (v2<(0:Int))))) (ck ((decide (v2<(0:Int))) || (!(decide (v2<(0:Int))))) (some [(.s (Sh.text b)),(.b v4)])))))=ρ):dZ.F b=ρ:=Eq.trans (by kernel_rfl) (K _ rfl _ rfl _ rfl _ rfl)
def iM.E:cr:=cL fC zs [] [19]
def iM.h:Hint := .o
def iM.F (s:bz) (j:bP):OT:=cI PG iM.E 64 iM.sg iM.h [(.s s),(.ag (bP.cells j))]
theorem iM.bY (s:bz) (j:bP) {ρ:OT} (K:∀(v1:List Mem) (h1:v1=([(Mem.mk s (bP.kind j) (bP.text j) (bP.kids j))]:List Mem)),some [(.ag [(.i .i64 7),(.s []),(.sl .ml v1)])]=ρ):iM.F s j=ρ:=Eq.trans (by kernel_rfl) (K _ rfl)
def bT.E (n:Nat):cr:=cL fC zs [(16,(bT.cn n,bT.sg)),(32,(fP.c,fP.sg)),(33,(dZ.c,dZ.sg)),(34,(kS.c,kS.sg))]
def bT.h:Hint := .s .o (.s .o (.s .o (.s (.s .o (.b (.l [(1,.ptr 76 0),(2,.ptr 77 0),(17,.no),(18,.no),(19,.no),(76,.cl [(8,800000)]),(77,.cl [(8,800001)]),(800000,.pv),(800001,.pv)] .o))) (.s .o (.j [(1,.ptr 76 0),(2,.ptr 77 0),(6,.no),(7,.no),(76,.cl [(8,800000)]),(77,.cl [(8,800001)]),(800000,.pv),(800001,.pv)] .o (.j [(1,.ptr 76 0),(2,.ptr 77 0),(76,.cl [(8,800000)]),(77,.cl [(8,800001)]),(800000,.pv),(800001,.pv)] .o .o))))))
def bT.F (n:Nat) (v:Val):OT:=cI PG (bT.E n) 16 bT.sg bT.h [(.ag (Val.cells v))]
def bT.l1 (n:Nat) (x0:List bA) (x1:Int) (x2:Int) (x3:Int) (x4:UInt64) (x5:UInt64) (x6:UInt64) (x7:bz) (x8:bz) (x9:Int) (mP:List UInt8) (kC:Int) (nY:UInt64) (nT:UInt64) (mO:UInt64) (qa:bz) (sK:bz) (tx:Int) (vz:List UInt8) (yt:List bA) (Ia:List bA):OT:=dL PG (bT.E n) 16 bT.sg bT.h 87 [.pt,.pt,(.sl .fl x0),(.i .i64 x1),(.i .i64 x2),(.ag [(.i .i64 x3),(.u64 x4),(.u64 x5),(.u64 x6),(.s x7),(.s x8),(.i .i64 x9),(.sl .bs mP),.pt]),(.ag [(.i .i64 kC),(.u64 nY),(.u64 nT),(.u64 mO),(.s qa),(.s sK),(.i .i64 tx),(.sl .bs vz),.pt]),(.sl .fl yt),(.sl .fl Ia)]
def bT.j2 (n:Nat) (x0:Int) (x1:Bool) (x2:Int) (x3:UInt64) (x4:UInt64) (x5:UInt64) (x6:bz) (x7:bz) (x8:Int) (x9:List UInt8) (mP:Int) (kC:UInt64) (nY:UInt64) (nT:UInt64) (mO:bz) (qa:bz) (sK:Int) (tx:List UInt8) (vz:List bA) (yt:List bA):OT:=eD PG (bT.E n) 16 bT.sg bT.h 63 [.pt,.pt,(.i .i64 x0),(.b x1),(.ag [(.i .i64 x2),(.u64 x3),(.u64 x4),(.u64 x5),(.s x6),(.s x7),(.i .i64 x8),(.sl .bs x9),.pt]),(.ag [(.i .i64 mP),(.u64 kC),(.u64 nY),(.u64 nT),(.s mO),(.s qa),(.i .i64 sK),(.sl .bs tx),.pt]),(.sl .fl vz),(.sl .fl yt)]
def bT.j3 (n:Nat) (x0:Int) (x1:UInt64) (x2:UInt64) (x3:UInt64) (x4:bz) (x5:bz) (x6:Int) (x7:List UInt8) (x8:Int) (x9:UInt64) (mP:UInt64) (kC:UInt64) (nY:bz) (nT:bz) (mO:Int) (qa:List UInt8) (sK:List bA) (tx:List bA):OT:=eD PG (bT.E n) 16 bT.sg bT.h 127 [.pt,.pt,(.ag [(.i .i64 x0),(.u64 x1),(.u64 x2),(.u64 x3),(.s x4),(.s x5),(.i .i64 x6),(.sl .bs x7),.pt]),(.ag [(.i .i64 x8),(.u64 x9),(.u64 mP),(.u64 kC),(.s nY),(.s nT),(.i .i64 mO),(.sl .bs qa),.pt]),(.sl .fl sK),(.sl .fl tx)]
theorem bT.bX (n:Nat) (x0:List bA) (x1:Int) (x2:Int) (x3:Int) (x4:UInt64) (x5:UInt64) (x6:UInt64) (x7:bz) (x8:bz) (x9:Int) (mP:List UInt8) (kC:Int) (nY:UInt64) (nT:UInt64) (mO:UInt64) (qa:bz) (sK:bz) (tx:Int) (vz:List UInt8) (yt:List bA) (Ia:List bA) {ρ:OT} (K:∀(v1:bA) (h1:v1=(List.getD x0 (x2).toNat (fx.gm .fl))) (v2:Int) (h2:v2=(Val.kind (Rl.ie (bA.val v1)))) (v3:UInt64) (h3:v3=(Val.bits (Rl.ie (bA.val v1)))) (v4:UInt64) (h4:v4=(Val.high (Rl.ie (bA.val v1)))) (v5:UInt64) (h5:v5=(Val.low (Rl.ie (bA.val v1)))) (v6:bz) (h6:v6=(Val.text (Rl.ie (bA.val v1)))) (v7:bz) (h7:v7=(Val.more (Rl.ie (bA.val v1)))) (v8:Int) (h8:v8=(Val.sub (Rl.ie (bA.val v1)))) (v9:List UInt8) (h9:v9=(Val.bytes (Rl.ie (bA.val v1)))) (v10:List bA) (iS:v10=(Val.kids (Rl.ie (bA.val v1)))) (v11:List bA) (kA:v11=([(bA.mk (bA.name v1) v2 v3 v4 v5 v6 v7 v8 v9 v10)]:List bA)) (v12:Int) (jM:v12=(IntKind.i64.wrap (x2+(1:Int)))) (kq:Int) (nr:kq=(IntKind.i64.wrap ((x4).toNat:Int))) (jh:Int) (oa:jh=((Rl.iW (((Rl.number x4).1))).getD 0)) (jb:Bool) (nV:jb=((Rl.iW (((Rl.number x4).1))).isSome)),cond (decide (x2<x1))
  (ck (bD x2 (x0).length) (ck ((decide (bA.bJ (bA.of [] (bA.val v1))≤1000000000000))&&decide ((bA.bJ (bA.of [] (bA.val v1)))<n)) (ck (fi ((yt).length+(v11).length) 136) (bT.l1 n x0 x1 v12 x3 x4 x5 x6 x7 x8 x9 mP kC nY nT mO qa sK tx vz (yt++v11) Ia))))
  (cond (decide (x3=(1:Int)))
  (cond ((Rl.number x4).2)
  (ck (decide (((((Rl.number x4).1))).length≤281474976710656)) (bT.j2 n jh jb x3 x4 x5 x6 x7 x8 x9 mP kC nY nT mO qa sK tx vz yt Ia))
  (bT.j2 n kq (decide (x3=(18:Int))) x3 x4 x5 x6 x7 x8 x9 mP kC nY nT mO qa sK tx vz yt Ia))
  (bT.j2 n kq (decide (x3=(18:Int))) x3 x4 x5 x6 x7 x8 x9 mP kC nY nT mO qa sK tx vz yt Ia))=ρ):bT.l1 n x0 x1 x2 x3 x4 x5 x6 x7 x8 x9 mP kC nY nT mO qa sK tx vz yt Ia=ρ:=((bV _ _ _ _ _ _ _).trans (by kernel_rfl)).trans (K _ rfl _ rfl _ rfl _ rfl _ rfl _ rfl _ rfl _ rfl _ rfl _ rfl _ rfl _ rfl _ rfl _ rfl _ rfl)
theorem bT.jx (n:Nat) (x0:Int) (x1:Bool) (x2:Int) (x3:UInt64) (x4:UInt64) (x5:UInt64) (x6:bz) (x7:bz) (x8:Int) (x9:List UInt8) (mP:Int) (kC:UInt64) (nY:UInt64) (nT:UInt64) (mO:bz) (qa:bz) (sK:Int) (tx:List UInt8) (vz:List bA) (yt:List bA) {ρ:OT} (K:∀(v1:Int) (h1:v1=(IntKind.i64.wrap (IntKind.i32.wrap x0))) (v2:UInt64) (h2:v2=(UInt64.ofInt (((UInt32.ofInt x0)).toNat:Int))),cond (!x1)
  (bT.j3 n x2 x3 x4 x5 x6 x7 x8 x9 mP kC nY nT mO qa sK tx vz yt)
  (cond (decide (x0=v1))
  (bT.j3 n (16:Int) v2 x4 x5 x6 x7 x8 x9 mP kC nY nT mO qa sK tx vz yt)
  (bT.j3 n (18:Int) (UInt64.ofInt x0) x4 x5 x6 x7 x8 x9 mP kC nY nT mO qa sK tx vz yt))=ρ):bT.j2 n x0 x1 x2 x3 x4 x5 x6 x7 x8 x9 mP kC nY nT mO qa sK tx vz yt=ρ:=((cp _ _ _ _ _ _ _).trans (by kernel_rfl)).trans (K _ rfl _ rfl)
theorem bT.su (n:Nat) (x0:Int) (x1:UInt64) (x2:UInt64) (x3:UInt64) (x4:bz) (x5:bz) (x6:Int) (x7:List UInt8) (x8:Int) (x9:UInt64) (mP:UInt64) (kC:UInt64) (nY:bz) (nT:bz) (mO:Int) (qa:List UInt8) (sK:List bA) (tx:List bA):bT.j3 n x0 x1 x2 x3 x4 x5 x6 x7 x8 x9 mP kC nY nT mO qa sK tx=some [(.ag [(.i .i64 x0),(.u64 x1),(.u64 x2),(.u64 x3),(.s x4),(.s x5),(.i .i64 x6),(.sl .bs x7),(.sl .fl sK)])]:=((cp _ _ _ _ _ _ _).trans (by kernel_rfl))
theorem bT.bY (n:Nat) (v:Val) {ρ:OT} (K:∀(v1:Int) (h1:v1=(((Val.kids v)).length:Int)),ck (fi (((Val.bytes v))).length 1) (bT.l1 n (Val.kids v) v1 (0:Int) (Val.kind v) (Val.bits v) (Val.high v) (Val.low v) (Val.text v) (Val.more v) (Val.sub v) (((Val.bytes v))) (0:Int) (0:UInt64) (0:UInt64) (0:UInt64) ([]:bz) ([]:bz) (0:Int) ([]:List UInt8) ([]:List bA) ([]:List bA))=ρ):bT.F n v=ρ:=Eq.trans (by kernel_rfl) (K _ rfl)
def fI.E:cr:=cL fC zs [(128,(fQ.c,fQ.sg))]
def fI.h:Hint := .o
def fI.F (a:Val) (b:Val):OT:=cI PG fI.E 96 fI.sg fI.h [(.ag (Val.cells a)),(.ag (Val.cells b))]
theorem fI.bY (a:Val) (b:Val) {ρ:OT} (K:∀(v1:Bool) (h1:v1=(cond (decide ((Val.kind a)=(Val.kind b))) (decide ((Val.bits a)=(Val.bits b))) false)) (v2:Bool) (h2:v2=(cond v1 (decide ((Val.high a)=(Val.high b))) false)) (v3:Bool) (h3:v3=(cond v2 (decide ((Val.low a)=(Val.low b))) false)) (v4:Bool) (h4:v4=(cond v3 (decide ((Val.text a)=(Val.text b))) false)) (v5:Bool) (h5:v5=(cond v4 (decide ((Val.more a)=(Val.more b))) false)) (v6:Bool) (h6:v6=(cond v5 (decide ((Val.sub a)=(Val.sub b))) false)) (v7:Bool) (h7:v7=(cond v6 (decide (((Val.bytes a))=((Val.bytes b)))) false)),ck (!(decide ((Val.kind a)=(Val.kind b))) || (decide ((Val.kind a)=(Val.kind b)))) (ck (!(decide ((Val.kind a)=(Val.kind b))) || (decide ((Val.kind a)=(Val.kind b)))) (ck (!(decide ((Val.kind a)=(Val.kind b))) || ((decide ((Val.kind a)=(Val.kind b)))&&(decide ((Val.kind a)=(Val.kind b))))) (ck (!(decide ((Val.kind a)=(Val.kind b))) || (decide ((Val.kind a)=(Val.kind b)))) (ck (!v1 || v1) (ck (!v1 || v1) (ck (!v1 || (v1&&v1)) (ck (!v1 || v1) (ck (!v2 || v2) (ck (!v2 || v2) (ck (!v2 || (v2&&v2)) (ck (!v2 || v2) (ck (!v3 || v3) (ck (!v3 || v3) (ck (!v3 || (v3&&v3)) (ck (!v3 || v3) (ck (!v4 || v4) (ck (!v4 || v4) (ck (!v4 || (v4&&v4)) (ck (!v4 || v4) (ck (!v5 || v5) (ck (!v5 || v5) (ck (!v5 || (v5&&v5)) (ck (!v5 || v5) (ck (!v6 || v6) (ck (!v6 || v6) (ck (!v6 || (v6&&v6)) (ck (!v6 || v6) (some [(.b v7)]))))))))))))))))))))))))))))=ρ):fI.F a b=ρ:=Eq.trans (by kernel_rfl) (K _ rfl _ rfl _ rfl _ rfl _ rfl _ rfl _ rfl)
def bR.E (n:Nat):cr:=cL fC zs [(57,(bR.cn n,bR.sg)),(59,(fg.c,fg.sg)),(96,(fI.c,fI.sg))] [126]
def bR.h:Hint := .s .o (.s .o (.j [(0,.fB 800000),(3,.fB 1000003),(5,.ptr 72 0),(6,.ptr 73 0),(72,.cl []),(73,.cl []),(800000,.pv),(1000003,.pv)] .o (.s (.s .o (.b (.l [(0,.fB 800000),(3,.fB 1000003),(6,.ptr 73 0),(30,.no),(31,.no),(32,.no),(73,.cl []),(800000,.pv),(1000003,.pv)] .o))) .o)))
def bR.F (n:Nat) (o:List (List Int)) (a:Val) (b:Val) (p:List Int):OT:=cI PG (bR.E n) 57 bR.sg bR.h [(.sl .od o),(.ag (Val.cells a)),(.ag (Val.cells b)),(.sl .is p)]
def bR.j1 (n:Nat) (x0:Val) (x1:Val) (x2:List (List Int)) (x3:List Int):OT:=eD PG (bR.E n) 57 bR.sg bR.h 7 [.pt,.pt,.pt,.pt,(.ag (Val.cells x0)),(.ag (Val.cells x1)),(.sl .od x2),(.sl .is x3)]
def bR.l2 (n:Nat) (x0:List bA) (x1:Int) (x2:Int) (x3:Val) (x4:List (List Int)) (x5:List Int):OT:=dL PG (bR.E n) 57 bR.sg bR.h 87 [.pt,.pt,.pt,(.sl .fl x0),(.i .i64 x1),(.i .i64 x2),(.ag (Val.cells x3)),(.sl .od x4),(.sl .is x5)]
theorem bR.iR (n:Nat) (x0:Val) (x1:Val) (x2:List (List Int)) (x3:List Int) {ρ:OT} (K:∀(v1:Int) (h1:v1=(((Val.kids x0)).length:Int)),bR.l2 n (Val.kids x0) v1 (0:Int) x1 x2 x3=ρ):bR.j1 n x0 x1 x2 x3=ρ:=((cp _ _ _ _ _ _ _).trans (by kernel_rfl)).trans (K _ rfl)
theorem bR.iu (n:Nat) (x0:List bA) (x1:Int) (x2:Int) (x3:Val) (x4:List (List Int)) (x5:List Int) {ρ:OT} (K:∀(v1:bA) (h1:v1=(List.getD x0 (x2).toNat (fx.gm .fl))) (v2:bA) (h2:v2=(List.getD (Val.kids x3) (x2).toNat (fx.gm .fl))) (v3:List (List Int)) (h3:v3=((Rl.pV x4 (bA.val v1) (bA.val v2) ((x5++([x2]:List Int)))).1)) (v4:Bool) (h4:v4=((Rl.pV x4 (bA.val v1) (bA.val v2) ((x5++([x2]:List Int)))).2)) (v5:Int) (h5:v5=(IntKind.i64.wrap (x2+(1:Int)))),cond (decide (x2<x1))
  (ck (bD x2 (x0).length) (ck (bD x2 ((Val.kids x3)).length) (cond (!decide ((bA.name v1)=(bA.name v2)))
  (some [(.sl .od ([]:List (List Int))),(.b false),(.sl .is x5)])
  (ck (bD x2 ((Val.kids x3)).length) (ck (fi ((x5).length+(([x2]:List Int)).length) 8) (ck ((decide ((x4).length+bA.bJ (bA.of [] (bA.val v1))≤1000000000∧(((x5++([x2]:List Int)))).length+bA.bJ (bA.of [] (bA.val v1))≤1000000000))&&decide ((bA.bJ (bA.of [] (bA.val v1)))<n)) (cond (!v4)
  (some [(.sl .od ([]:List (List Int))),(.b false),(.sl .is x5)])
  (bR.l2 n x0 x1 v5 x3 v3 x5))))))))
  (some [(.sl .od x4),(.b true),(.sl .is x5)])=ρ):bR.l2 n x0 x1 x2 x3 x4 x5=ρ:=((bV _ _ _ _ _ _ _).trans (by kernel_rfl)).trans (K _ rfl _ rfl _ rfl _ rfl _ rfl)
theorem bR.bY (n:Nat) (o:List (List Int)) (a:Val) (b:Val) (p:List Int) {ρ:OT} (K:∀(v1:Int) (h1:v1=(((Val.kids a)).length:Int)) (v2:Int) (h2:v2=(((Val.kids b)).length:Int)) (v3:List (List Int)) (h3:v3=(o++([(p)]:List (List Int)))),cond (!decide (v1=v2))
  (some [(.sl .od ([]:List (List Int))),(.b false),(.sl .is p)])
  (cond (!(Tree.nD a b))
  (ck (fi (p).length 8) (ck (fi ((o).length+(([(p)]:List (List Int))).length) 24) (bR.j1 n a b v3 p)))
  (bR.j1 n a b o p))=ρ):bR.F n o a b p=ρ:=Eq.trans (by kernel_rfl) (K _ rfl _ rfl _ rfl)
end
end Go.Eng
set_option maxRecDepth 100000
namespace Go.Eng
open Go.Proofs
noncomputable section
def gM.E:cr:=cL fC zs [(57,(bR.c,bR.sg))]
def gM.h:Hint := .o
def gM.F (a:Val) (b:Val):OT:=cI PG gM.E 36 gM.sg gM.h [(.ag (Val.cells a)),(.ag (Val.cells b))]
theorem gM.bY (a:Val) (b:Val) {ρ:OT} (K:∀(v1:List (List Int)) (h1:v1=((Rl.pV (([]:List (List Int))) a b (([]:List Int))).1)) (v2:Bool) (h2:v2=((Rl.pV (([]:List (List Int))) a b (([]:List Int))).2)),ck (decide (((([]:List (List Int)))).length+bA.bJ (bA.of [] a)≤1000000000∧((([]:List Int))).length+bA.bJ (bA.of [] a)≤1000000000)) (some [(.sl .od v1),(.b v2)])=ρ):gM.F a b=ρ:=Eq.trans (by kernel_rfl) (K _ rfl _ rfl)
def gK.E:cr:=cL fC zs [(16,(bT.c,bT.sg)),(36,(gM.c,gM.sg))]
def gK.h:Hint := .o
def gK.F (v:Val):OT:=cI PG gK.E 19 gK.sg gK.h [(.ag (Val.cells v))]
theorem gK.bY (v:Val) {ρ:OT} (K:∀(v1:List (List Int)) (h1:v1=((Rl.diff v (Rl.ie v)).getD [])) (v2:Bool) (h2:v2=((Rl.diff v (Rl.ie v)).isSome)),ck (decide (bA.bJ (bA.of [] v)≤1000000000000)) (ck (decide (bA.bJ (bA.of [] v)≤100000000)) (some [(.sl .od v1)]))=ρ):gK.F v=ρ:=Eq.trans (by kernel_rfl) (K _ rfl _ rfl)
def gH.E:cr:=cL fC zs []
def gH.h:Hint := .o
def gH.F (y:Int):OT:=cI PG gH.E 131 gH.sg gH.h [(.i .i64 y)]
theorem gH.bY (y:Int) {ρ:OT} (K:∀(v1:Bool) (h1:v1=((decide ((Int.tmod y (4:Int))=(0:Int)))&&(!(!decide ((Int.tmod y (100:Int))=(0:Int)))))) (v2:Bool) (h2:v2=(cond (!decide ((Int.tmod y (100:Int))=(0:Int))) true (decide ((Int.tmod y (400:Int))=(0:Int))))) (v3:Bool) (h3:v3=(cond (decide ((Int.tmod y (4:Int))=(0:Int))) v2 false)),ck (!decide ((4:Int)=0)) (ck (!(decide ((Int.tmod y (4:Int))=(0:Int))) || ((decide ((Int.tmod y (4:Int))=(0:Int)))&&(!decide ((100:Int)=0)))) (ck (!(decide ((Int.tmod y (4:Int))=(0:Int))) || (decide ((Int.tmod y (4:Int))=(0:Int)))) (ck (!(decide ((Int.tmod y (4:Int))=(0:Int))) || (decide ((Int.tmod y (4:Int))=(0:Int)))) (ck (!v1 || (v1&&(!decide ((400:Int)=0)))) (ck (!v1 || v1) (ck (!(decide ((Int.tmod y (4:Int))=(0:Int))) || ((decide ((Int.tmod y (4:Int))=(0:Int)))&&((!decide ((Int.tmod y (100:Int))=(0:Int))) || v1))) (ck (!(decide ((Int.tmod y (4:Int))=(0:Int))) || (decide ((Int.tmod y (4:Int))=(0:Int)))) (some [(.b v3)]))))))))=ρ):gH.F y=ρ:=Eq.trans (by kernel_rfl) (K _ rfl _ rfl _ rfl)
def dn.E:cr:=cL fC zs [(131,(gH.c,gH.sg))]
def dn.h:Hint := .s .o (.s (.s .o (.b (.j (sc [0,5,6]) .o .o))) .o)
def dn.F (y:Int) (m:Int):OT:=cI PG dn.E 100 dn.sg dn.h [(.i .i64 y),(.i .i64 m)]
def dn.j1 (x0:Int) (x1:Int) (x2:Bool):OT:=eD PG dn.E 100 dn.sg dn.h 21 [(.i .i64 x0),(.i .i64 x1),(.b x2)]
theorem dn.lg (x0:Int) (x1:Int) (x2:Bool):dn.j1 x0 x1 x2=cond x2
  (some [(.i .i64 30)])
  (cond (decide (x1=(2:Int)))
  (ck (decide (0≤x0∧x0≤100000)) (cond (Rl.D4 x0)
  (some [(.i .i64 29)])
  (some [(.i .i64 28)])))
  (some [(.i .i64 31)])):=((cp _ _ _ _ _ _ _).trans (by kernel_rfl))
theorem dn.dW (y:Int) (m:Int):dn.F y m=cond (decide (m=(4:Int)))
  (dn.j1 y m (decide (m=(4:Int))))
  (cond (decide (m=(6:Int)))
  (dn.j1 y m (decide (m=(6:Int))))
  (cond (decide (m=(9:Int)))
  (dn.j1 y m (decide (m=(9:Int))))
  (dn.j1 y m (decide (m=(11:Int)))))):=by kernel_rfl
def fD.E:cr:=cL fC zs []
def fD.h:Hint := .o
def fD.F (y:Int):OT:=cI PG fD.E 99 fD.sg fD.h [(.i .i64 y)]
theorem fD.bY (y:Int) {ρ:OT} (K:∀(v1:Int) (h1:v1=(IntKind.i64.wrap (y - (1:Int)))) (v2:Int) (h2:v2=(IntKind.i64.wrap (v1 * (365:Int)))) (v3:Int) (h3:v3=(IntKind.i64.wrap (Int.tdiv v1 (4:Int)))) (v4:Int) (h4:v4=(IntKind.i64.wrap (Int.tdiv v1 (100:Int)))) (v5:Int) (h5:v5=(IntKind.i64.wrap ((IntKind.i64.wrap (v2+v3)) - v4))) (v6:Int) (h6:v6=(IntKind.i64.wrap (Int.tdiv v1 (400:Int)))) (v7:Int) (h7:v7=(IntKind.i64.wrap ((IntKind.i64.wrap (v5+v6)) - (719162:Int)))),ck (!decide ((4:Int)=0)) (ck (!decide ((100:Int)=0)) (ck (!decide ((400:Int)=0)) (some [(.i .i64 v7)])))=ρ):fD.F y=ρ:=Eq.trans (by kernel_rfl) (K _ rfl _ rfl _ rfl _ rfl _ rfl _ rfl _ rfl)
def fk.E:cr:=cL fC zs [(103,(iC.c,iC.sg))]
def fk.h:Hint := .s .o (.s .o (.s (.b (.l (sc [1,5]) .o)) .o))
def fk.F (n:Int) (l:Int):OT:=cI PG fk.E 101 fk.sg fk.h [(.i .i64 n),(.i .i64 l)]
def fk.l1 (x0:Int) (x1:bz):OT:=dL PG fk.E 101 fk.sg fk.h 19 [(.i .i64 x0),(.s x1)]
theorem fk.zD (x0:Int) (x1:bz):fk.l1 x0 x1=cond (decide (((x1).length:Int)<x0))
  (ck (decide ((([48]:bz)).length+(x1).length≤9223372036854775807)) (fk.l1 x0 (([48]:bz)++x1)))
  (some [(.s x1)]):=((bV _ _ _ _ _ _ _).trans (by kernel_rfl))
theorem fk.dW (n:Int) (l:Int):fk.F n l=ck (Nr.i64 n) (fk.l1 l (Nr.itoa n)):=by kernel_rfl
def cq.E:cr:=cL fC zs [(99,(fD.c,fD.sg)),(100,(dn.c,dn.sg)),(101,(fk.c,fk.sg))]
def cq.h:Hint := .s .o (.s .o (.s .o (.s .o (.s (.b (.l (sc [4,5,6]) .o)) (.s .o (.s .o (.s (.b (.l (sc [5,6,7,8]) .o)) (.s .o (.s .o (.j (sc [10]) .o .o))))))))))
def cq.F (t:Int):OT:=cI PG cq.E 63 cq.sg cq.h [(.i .i64 t)]
def cq.l1 (x0:Int) (x1:Int) (x2:Int):OT:=dL PG cq.E 63 cq.sg cq.h 79 [(.i .i64 x0),(.i .i64 x1),(.i .i64 x2)]
def cq.l2 (x0:Int) (x1:Int) (x2:Int) (x3:Int):OT:=dL PG cq.E 63 cq.sg cq.h 639 [(.i .i64 x0),(.i .i64 x1),(.i .i64 x2),(.i .i64 x3)]
def cq.j3 (x0:bz):OT:=eD PG cq.E 63 cq.sg cq.h 2047 [(.s x0)]
theorem cq.bX (x0:Int) (x1:Int) (x2:Int) {ρ:OT} (K:∀(v1:Int) (h1:v1=(IntKind.i64.wrap (x2+(1:Int)))) (v2:Int) (h2:v2=(IntKind.i64.wrap (x0 - (Rl.ahead x2)))),ck (decide (1≤v1∧v1≤100000)) (cond (decide ((Rl.ahead v1)≤x0))
  (cq.l1 x0 x1 v1)
  (ck (decide (1≤x2∧x2≤100000)) (cq.l2 x1 x2 v2 (1:Int))))=ρ):cq.l1 x0 x1 x2=ρ:=((bV _ _ _ _ _ _ _).trans (by kernel_rfl)).trans (K _ rfl _ rfl)
theorem cq.iu (x0:Int) (x1:Int) (x2:Int) (x3:Int) {ρ:OT} (K:∀(v1:Int) (h1:v1=(IntKind.i64.wrap (x2 - (Rl.month x1 x3)))) (v2:Int) (h2:v2=(IntKind.i64.wrap (x3+(1:Int)))) (v3:Int) (h3:v3=(IntKind.i64.wrap (Int.tdiv x0 (1000:Int)))) (v4:bz) (h4:v4=((Rl.pad x1 ((4:Int)))++([45]:bz))) (v5:bz) (h5:v5=(v4++(Rl.pad x3 ((2:Int))))) (v6:Int) (h6:v6=(IntKind.i64.wrap (x2+(1:Int)))) (v7:bz) (h7:v7=((v5++([45]:bz))++(Rl.pad v6 ((2:Int))))) (v8:Int) (h8:v8=(IntKind.i64.wrap (Int.tdiv v3 (3600:Int)))) (v9:bz) (h9:v9=((v7++([84]:bz))++(Rl.pad v8 ((2:Int))))) (v10:Int) (iS:v10=(IntKind.i64.wrap (Int.tdiv v3 (60:Int)))) (v11:bz) (kA:v11=(Rl.pad ((Int.tmod v10 (60:Int))) ((2:Int)))) (v12:bz) (jM:v12=((v9++([58]:bz))++v11)) (kq:bz) (nr:kq=(Rl.pad ((Int.tmod v3 (60:Int))) ((2:Int)))) (jh:bz) (oa:jh=((v12++([58]:bz))++kq)) (jb:bz) (nV:jb=(Rl.pad ((Int.tmod x0 (1000:Int))) ((3:Int)))) (lA:bz) (sw:lA=(jh++(([46]:bz)++jb))),ck (decide (0≤x1∧x1≤100000)) (cond (decide ((Rl.month x1 x3)≤x2))
  (ck (decide (0≤x1∧x1≤100000)) (cq.l2 x0 x1 v1 v2))
  (ck (!decide ((1000:Int)=0)) (ck (decide (0≤x1∧x1≤1000000∧0≤((4:Int))∧((4:Int))≤10)) (ck (decide (((Rl.pad x1 ((4:Int)))).length+(([45]:bz)).length≤9223372036854775807)) (ck (decide (0≤x3∧x3≤1000000∧0≤((2:Int))∧((2:Int))≤10)) (ck (decide ((v4).length+((Rl.pad x3 ((2:Int)))).length≤9223372036854775807)) (ck (decide ((v5).length+(([45]:bz)).length≤9223372036854775807)) (ck (decide (0≤v6∧v6≤1000000∧0≤((2:Int))∧((2:Int))≤10)) (ck (decide (((v5++([45]:bz))).length+((Rl.pad v6 ((2:Int)))).length≤9223372036854775807)) (ck (decide ((v7).length+(([84]:bz)).length≤9223372036854775807)) (ck (!decide ((3600:Int)=0)) (ck (decide (0≤v8∧v8≤1000000∧0≤((2:Int))∧((2:Int))≤10)) (ck (decide (((v7++([84]:bz))).length+((Rl.pad v8 ((2:Int)))).length≤9223372036854775807)) (ck (decide ((v9).length+(([58]:bz)).length≤9223372036854775807)) (ck (!decide ((60:Int)=0)) (ck (!decide ((60:Int)=0)) (ck (decide (0≤((Int.tmod v10 (60:Int)))∧((Int.tmod v10 (60:Int)))≤1000000∧0≤((2:Int))∧((2:Int))≤10)) (ck (decide (((v9++([58]:bz))).length+(v11).length≤9223372036854775807)) (ck (decide ((v12).length+(([58]:bz)).length≤9223372036854775807)) (ck (!decide ((60:Int)=0)) (ck (decide (0≤((Int.tmod v3 (60:Int)))∧((Int.tmod v3 (60:Int)))≤1000000∧0≤((2:Int))∧((2:Int))≤10)) (ck (decide (((v12++([58]:bz))).length+(kq).length≤9223372036854775807)) (ck (!decide ((1000:Int)=0)) (cond (!decide ((Int.tmod x0 (1000:Int))=(0:Int)))
  (ck (!decide ((1000:Int)=0)) (ck (decide (0≤((Int.tmod x0 (1000:Int)))∧((Int.tmod x0 (1000:Int)))≤1000000∧0≤((3:Int))∧((3:Int))≤10)) (ck (decide ((([46]:bz)).length+(jb).length≤9223372036854775807)) (ck (decide ((jh).length+((([46]:bz)++jb)).length≤9223372036854775807)) (cq.j3 lA)))))
  (cq.j3 jh)))))))))))))))))))))))))=ρ):cq.l2 x0 x1 x2 x3=ρ:=((bV _ _ _ _ _ _ _).trans (by kernel_rfl)).trans (K _ rfl _ rfl _ rfl _ rfl _ rfl _ rfl _ rfl _ rfl _ rfl _ rfl _ rfl _ rfl _ rfl _ rfl _ rfl _ rfl)
theorem cq.su (x0:bz):cq.j3 x0=ck (decide ((x0).length+(([90]:bz)).length≤9223372036854775807)) (some [(.s (x0++([90]:bz))),(.b true)]):=((cp _ _ _ _ _ _ _).trans (by kernel_rfl))
theorem cq.bY (t:Int) {ρ:OT} (K:∀(v1:Bool) (h1:v1=(cond (decide (t<(0:Int))) true (decide ((253402300799999:Int)<t)))) (v2:Int) (h2:v2=(IntKind.i64.wrap (Int.tdiv t (86400000:Int)))) (v3:Int) (h3:v3=(Int.tmod t (86400000:Int))) (v4:Int) (h4:v4=(IntKind.i64.wrap (Int.tdiv v2 (366:Int)))) (v5:Int) (h5:v5=(IntKind.i64.wrap ((1970:Int)+v4))),ck (!(!(decide (t<(0:Int)))) || (!(decide (t<(0:Int))))) (ck ((decide (t<(0:Int))) || (!(decide (t<(0:Int))))) (cond v1
  (some [(.s []),(.b false)])
  (ck (!decide ((86400000:Int)=0)) (ck (!decide ((86400000:Int)=0)) (ck (!decide ((366:Int)=0)) (cq.l1 v2 v3 v5))))))=ρ):cq.F t=ρ:=Eq.trans (by kernel_rfl) (K _ rfl _ rfl _ rfl _ rfl _ rfl)
def cM.E (n:Nat):cr:=cL fC zs [(42,(cC.cn n,cC.sg))] [51]
def cM.h:Hint := .s .o (.s .o (.s (.s .o (.b (.l [(2,.ptr 28 0),(3,.ptr 29 0),(7,.no),(8,.no),(9,.no),(28,.cl [(2,800000)]),(29,.cl [(2,800001)]),(800000,.pv),(800001,.pv)] .o))) .o))
def cM.F (n:Nat) (l:List bA):OT:=cI PG (cM.E n) 26 cM.sg cM.h [(.sl .fl l)]
def cM.l1 (n:Nat) (x0:List bA) (x1:Int) (x2:Int) (x3:Int) (x4:bz) (x5:Int) (x6:bz) (x7:List Mem) (x8:List Mem):OT:=dL PG (cM.E n) 26 cM.sg cM.h 43 [.pt,.pt,(.sl .fl x0),(.i .i64 x1),(.i .i64 x2),(.ag [(.i .i64 x3),(.s x4),.pt]),(.ag [(.i .i64 x5),(.s x6),.pt]),(.sl .ml x7),(.sl .ml x8)]
theorem cM.bX (n:Nat) (x0:List bA) (x1:Int) (x2:Int) (x3:Int) (x4:bz) (x5:Int) (x6:bz) (x7:List Mem) (x8:List Mem) {ρ:OT} (K:∀(v1:bA) (h1:v1=(List.getD x0 (x2).toNat (fx.gm .fl))) (v2:bP) (h2:v2=(Rl.lj Rl.date (bA.of [] (bA.val v1)))) (v3:List Mem) (h3:v3=([(Mem.mk (bA.name v1) (bP.kind v2) (bP.text v2) (bP.kids v2))]:List Mem)) (v4:Int) (h4:v4=(IntKind.i64.wrap (x2+(1:Int)))),cond (decide (x2<x1))
  (ck (bD x2 (x0).length) (ck ((decide (bA.bJ (bA.of [] (bA.val v1))≤1000000000000)&&decide ((Tree.gQ (bA.of [] (bA.val v1)) []).2=0))&&decide ((2 * bA.bJ (bA.of [] (bA.val v1)))<n)) (ck (fi ((x8).length+(v3).length) 64) (cM.l1 n x0 x1 v4 x3 x4 x5 x6 x7 (x8++v3)))))
  (some [(.ag [(.i .i64 x5),(.s x6),(.sl .ml x8)])])=ρ):cM.l1 n x0 x1 x2 x3 x4 x5 x6 x7 x8=ρ:=((bV _ _ _ _ _ _ _).trans (by kernel_rfl)).trans (K _ rfl _ rfl _ rfl _ rfl)
theorem cM.dW (n:Nat) (l:List bA):cM.F n l=cM.l1 n l ((l).length:Int) (0:Int) (0:Int) ([]:bz) (7:Int) ([]:bz) ([]:List Mem) ([]:List Mem):=by kernel_rfl
def cC.E (n:Nat):cr:=cL fC zs [(26,(cM.cn n,cM.sg)),(33,(dZ.c,dZ.sg)),(56,(eM.c,eM.sg)),(62,(iN.c,iN.sg)),(63,(cq.c,cq.sg)),(64,(iM.c,iM.sg)),(65,(cS.c,cS.sg)),(66,(bS.c,bS.sg)),(67,(gP.c,gP.sg))]
def cC.h:Hint := .s .o (.j [(1,.ptr 129 0),(2,.ptr 130 0),(129,.cl []),(130,.cl [(2,800000)]),(800000,.pv)] (.s .o (.b (.s .o (.s .o (.s .o (.s .o (.s .o (.s .o (.s .o (.s .o (.s .o (.s .o (.s .o (.s (.s .o (.s .o (.s .o (.s (.s .o (.b (.l [(2,.ptr 130 0),(7,.ptr 135 0),(88,.no),(89,.no),(130,.cl [(2,800000)]),(135,.cl [(2,800001)]),(800000,.pv),(800001,.pv)] .o))) .o)))) .o)))))))))))))) .o)
def cC.F (n:Nat) (v:Val):OT:=cI PG (cC.E n) 42 cC.sg cC.h [(.ag (Val.cells v))]
def cC.j1 (n:Nat) (x0:Val) (x1:Int) (x2:bz) (x3:List Mem):OT:=eD PG (cC.E n) 42 cC.sg cC.h 3 [.pt,.pt,(.ag (Val.cells x0)),(.ag [(.i .i64 x1),(.s x2),.pt]),(.sl .ml x3)]
def cC.l2 (n:Nat) (x0:Int) (x1:Int) (x2:Int) (x3:bz) (x4:Int) (x5:bz) (x6:List Mem) (x7:List Mem):OT:=dL PG (cC.E n) 42 cC.sg cC.h 5734389 [.pt,.pt,(.i .i64 x0),(.i .i64 x1),(.ag [(.i .i64 x2),(.s x3),.pt]),(.ag [(.i .i64 x4),(.s x5),.pt]),(.sl .ml x6),(.sl .ml x7)]
theorem cC.iR (n:Nat) (x0:Val) (x1:Int) (x2:bz) (x3:List Mem) {ρ:OT} (K:∀(v1:List bA) (h1:v1=([(bA.mk [] (Val.kind x0) (Val.bits x0) (Val.high x0) (Val.low x0) (Val.text x0) (Val.more x0) (Val.sub x0) (Val.bytes x0) (Val.kids x0))]:List bA)) (v2:bP) (h2:v2=(Cn.zF (Val.mk 3 0 0 0 [] [] 0 [] v1))) (v3:Int) (h3:v3=((Cn.iO (Val.mk 3 0 0 0 [] [] 0 [] v1)).2)) (v4:List Int) (h4:v4=((Cn.iO (Val.mk 3 0 0 0 [] [] 0 [] v1)).1)) (v5:Mem) (h5:v5=(List.getD (bP.kids v2) ((0:Int)).toNat (fx.gm .ml))),ck (decide (bA.bJ (bA.of [] (Val.mk 3 0 0 0 [] [] 0 [] v1))≤1099511627776)) (ck (bD (0:Int) ((bP.kids v2)).length) (some [(.ag (bP.cells (Mem.val v5)))]))=ρ):cC.j1 n x0 x1 x2 x3=ρ:=((cp _ _ _ _ _ _ _).trans (by kernel_rfl)).trans (K _ rfl _ rfl _ rfl _ rfl _ rfl)
theorem cC.iu (n:Nat) (x0:Int) (x1:Int) (x2:Int) (x3:bz) (x4:Int) (x5:bz) (x6:List Mem) (x7:List Mem) {ρ:OT} (K:∀(v1:List Mem) (h1:v1=(List.set x7 ((x1).toNat) (Mem.mk ([]:bz) (Mem.kind (List.getD x7 ((x1).toNat) (fx.gm .ml))) (Mem.text (List.getD x7 ((x1).toNat) (fx.gm .ml))) (Mem.kids (List.getD x7 ((x1).toNat) (fx.gm .ml)))))) (v2:Int) (h2:v2=(IntKind.i64.wrap (x1+(1:Int)))),cond (decide (x1<x0))
  (ck (bD x1 (x7).length) (ck (decide ((x1).toNat<(x7).length)) (cC.l2 n x0 v2 x2 x3 x4 x5 x6 v1)))
  (some [(.ag [(.i .i64 x4),(.s x5),(.sl .ml x7)])])=ρ):cC.l2 n x0 x1 x2 x3 x4 x5 x6 x7=ρ:=((bV _ _ _ _ _ _ _).trans (by kernel_rfl)).trans (K _ rfl _ rfl)
theorem cC.bY (n:Nat) (v:Val) {ρ:OT} (K:∀(v1:Int) (h1:v1=(IntKind.i32.wrap (((Val.bits v)).toNat:Int))) (v2:bz) (h2:v2=(Nr.itoa ((IntKind.i64.wrap v1)))) (v3:Int) (h3:v3=(IntKind.i64.wrap (((Val.bits v)).toNat:Int))) (v4:bP) (h4:v4=((bP.mk 4 ((Nr.itoa v3)) []))) (v5:bz) (h5:v5=((Rl.number ((Val.bits v))).1)) (v6:Bool) (h6:v6=((Rl.number ((Val.bits v))).2)) (v7:List Mem) (h7:v7=(bP.kids (Cn.one (([36,100,97,116,101]:bz)) (bP.mk (5:Int) ((Rl.date v3).1) ([]:List Mem))))) (v8:Int) (h8:v8=(bP.kind (Cn.one (([36,100,97,116,101]:bz)) (bP.mk (5:Int) ((Rl.date v3).1) ([]:List Mem))))) (v9:bz) (h9:v9=(bP.text (Cn.one (([36,100,97,116,101]:bz)) (bP.mk (5:Int) ((Rl.date v3).1) ([]:List Mem))))) (v10:Int) (iS:v10=(((Val.kids v)).length:Int)) (v11:bA) (kA:v11=(List.getD (Val.kids v) ((0:Int)).toNat (fx.gm .fl))) (v12:Bool) (jM:v12=(List.isPrefixOf (([36]:bz)) ((bA.name v11)))) (kq:Bool) (nr:kq=(cond (decide ((0:Int)<v10)) v12 false)) (jh:List Mem) (oa:jh=(bP.kids (Rl.ob Rl.date ((Val.kids v))))) (jb:Int) (nV:jb=(bP.kind (Rl.ob Rl.date ((Val.kids v))))) (lA:bz) (sw:lA=(bP.text (Rl.ob Rl.date ((Val.kids v))))) (tG:List Mem) (zS:tG=(bP.kids (Cn.one (([36,100,111,99,117,109,101,110,116]:bz)) (bP.mk jb lA jh)))) (tF:Int) (wv:tF=(bP.kind (Cn.one (([36,100,111,99,117,109,101,110,116]:bz)) (bP.mk jb lA jh)))) (wX:bz) (ET:wX=(bP.text (Cn.one (([36,100,111,99,117,109,101,110,116]:bz)) (bP.mk jb lA jh)))) (v20:Bool) (CR:v20=(Tree.regular ((Val.kids v)))) (v21:List Mem) (Pf:v21=(bP.kids (Cn.one (([36,97,114,114,97,121]:bz)) (bP.mk jb lA jh)))) (v22:Int) (Pe:v22=(bP.kind (Cn.one (([36,97,114,114,97,121]:bz)) (bP.mk jb lA jh)))) (QT:bz) (TQ:QT=(bP.text (Cn.one (([36,97,114,114,97,121]:bz)) (bP.mk jb lA jh)))) (v24:List Mem) (Qt:v24=(bP.kids (Cn.one (([36,99,111,100,101]:bz)) (bP.mk (5:Int) (Val.text v) ([]:List Mem))))) (v25:Int) (TP:v25=(bP.kind (Cn.one (([36,99,111,100,101]:bz)) (bP.mk (5:Int) (Val.text v) ([]:List Mem))))) (QS:bz) (TN:QS=(bP.text (Cn.one (([36,99,111,100,101]:bz)) (bP.mk (5:Int) (Val.text v) ([]:List Mem))))) (v27:List Mem) (TM:v27=([(Mem.mk ([36,115,99,111,112,101]:bz) jb lA jh)]:List Mem)),cond (decide ((Val.kind v)=(16:Int)))
  (ck (Nr.i64 ((IntKind.i64.wrap v1))) (some [(.ag (bP.cells ((bP.mk 4 v2 []))))]))
  (cond (decide ((Val.kind v)=(18:Int)))
  (ck (Nr.i64 v3) (some [(.ag (bP.cells v4))]))
  (cond (decide ((Val.kind v)=(1:Int)))
  (cond v6
  (some [(.ag (bP.cells ((bP.mk 4 v5 []))))])
  (cC.j1 n v (0:Int) ([]:bz) ([]:List Mem)))
  (cond (decide ((Val.kind v)=(9:Int)))
  (ck (Nr.i64 v3) (cond ((Rl.date v3).2)
  (some [(.ag [(.i .i64 v8),(.s v9),(.sl .ml v7)])])
  (cC.j1 n v (0:Int) ([]:bz) ([]:List Mem))))
  (cond (decide ((Val.kind v)=(3:Int)))
  (ck (!(decide ((0:Int)<v10)) || (decide ((0:Int)<v10))) (ck (!(decide ((0:Int)<v10)) || ((decide ((0:Int)<v10))&&(bD (0:Int) ((Val.kids v)).length))) (ck (!(decide ((0:Int)<v10)) || (decide ((0:Int)<v10))) (ck (!(decide ((0:Int)<v10)) || (decide ((0:Int)<v10))) (ck (!(decide ((0:Int)<v10)) || (decide ((0:Int)<v10))) (ck (!(decide ((0:Int)<v10)) || (decide ((0:Int)<v10))) (cond kq
  (ck ((decide (bA.cm ((Val.kids v))≤1000000000000)&&decide ((Tree.ka ((Val.kids v)) 0 []).2=0))&&decide ((2 * bA.cm ((Val.kids v))+1)<n)) (some [(.ag [(.i .i64 tF),(.s wX),(.sl .ml tG)])]))
  (ck ((decide (bA.cm ((Val.kids v))≤1000000000000)&&decide ((Tree.ka ((Val.kids v)) 0 []).2=0))&&decide ((2 * bA.cm ((Val.kids v))+1)<n)) (some [(.ag [(.i .i64 jb),(.s lA),(.sl .ml jh)])])))))))))
  (cond (decide ((Val.kind v)=(4:Int)))
  (ck ((decide (bA.cm ((Val.kids v))≤1000000000000)&&decide ((Tree.ka ((Val.kids v)) 0 []).2=0))&&decide ((2 * bA.cm ((Val.kids v))+1)<n)) (ck (decide (((Val.kids v)).length≤1099511627776)) (cond (!v20)
  (some [(.ag [(.i .i64 v22),(.s QT),(.sl .ml v21)])])
  (cC.l2 n ((jh).length:Int) (0:Int) (0:Int) ([]:bz) (6:Int) lA ([]:List Mem) jh))))
  (cond (decide ((Val.kind v)=(15:Int)))
  (ck ((decide (bA.cm ((Val.kids v))≤1000000000000)&&decide ((Tree.ka ((Val.kids v)) 0 []).2=0))&&decide ((2 * bA.cm ((Val.kids v))+1)<n)) (ck (fi ((v24).length+(v27).length) 64) (some [(.ag [(.i .i64 v25),(.s QS),(.sl .ml (v24++v27))])])))
  (cC.j1 n v (0:Int) ([]:bz) ([]:List Mem))))))))=ρ):cC.F n v=ρ:=Eq.trans (by kernel_rfl) (K _ rfl _ rfl _ rfl _ rfl _ rfl _ rfl _ rfl _ rfl _ rfl _ rfl _ rfl _ rfl _ rfl _ rfl _ rfl _ rfl _ rfl _ rfl _ rfl _ rfl _ rfl _ rfl _ rfl _ rfl _ rfl _ rfl _ rfl)
def gL.E:cr:=cL fC zs [(25,(dC.c,dC.sg)),(26,(cM.c,cM.sg))]
def gL.h:Hint := .o
def gL.F (v:Val):OT:=cI PG gL.E 9 gL.sg gL.h [(.ag (Val.cells v))]
theorem gL.bY (v:Val) {ρ:OT} (K:∀(v1:List Int) (h1:v1=((Tree.gQ (bA.of [] v) []).1)) (v2:Int) (h2:v2=((Tree.gQ (bA.of [] v) []).2)) (v3:List Mem) (h3:v3=(bP.kids (Rl.ob Rl.date ((Val.kids v))))) (v4:Int) (h4:v4=(bP.kind (Rl.ob Rl.date ((Val.kids v))))) (v5:bz) (h5:v5=(bP.text (Rl.ob Rl.date ((Val.kids v))))),ck (decide (bA.bJ (bA.of [] v)≤1099511627776)) (cond (!decide (v2=(0:Int)))
  (some [(.ag [(.i .i64 0),(.s []),(.sl .ml ([]:List Mem))]),(.ag [(.i .i64 v2),(.i .i64 0),(.sl .is v1)])])
  (cond (!decide ((Val.kind v)=(3:Int)))
  (some [(.ag [(.i .i64 0),(.s []),(.sl .ml ([]:List Mem))]),(.ag [(.i .i64 5),(.i .i64 0),(.sl .is ([]:List Int))])])
  (ck (decide (bA.cm ((Val.kids v))≤1000000000000)&&decide ((Tree.ka ((Val.kids v)) 0 []).2=0)) (some [(.ag [(.i .i64 v4),(.s v5),(.sl .ml v3)]),(.ag [(.i .i64 0),(.i .i64 0),(.sl .is ([]:List Int))])]))))=ρ):gL.F v=ρ:=Eq.trans (by kernel_rfl) (K _ rfl _ rfl _ rfl _ rfl _ rfl)
def fV.E:cr:=cL fC zs [(9,(gL.c,gL.sg)),(28,(fK.c,fK.sg))]
def fV.h:Hint := .o
def fV.F (v:Val):OT:=cI PG fV.E 11 fV.sg fV.h [(.ag (Val.cells v))]
theorem fV.bY (v:Val) {ρ:OT} (K:∀(v1:bz) (h1:v1=(Cn.pK (Rl.ko Rl.date v))) (v2:Int) (h2:v2=(Cn.mq (Rl.ko Rl.date v))),ck (decide (bA.bJ (bA.of [] v)≤1000000000000)) (cond (!decide ((Cn.iO v).2=(0:Int)))
  (some [(.s []),(.ag [(.i .i64 (Cn.iO v).2),(.i .i64 0),(.sl .is (Cn.iO v).1)])])
  (ck (decide (12 * bP.bJ (Rl.ko Rl.date v)≤1000000000000)) (some [(.s v1),(.ag [(.i .i64 v2),(.i .i64 0),(.sl .is ([]:List Int))])])))=ρ):fV.F v=ρ:=Eq.trans (by kernel_rfl) (K _ rfl _ rfl)
def bL.E:cr:=cL fC zs [(30,(bQ.c,bQ.sg))]
def bL.h:Hint := .s .o (.s .o (.s (.s .o (.b (.l (sc [0,1,5]) .o))) .o))
def bL.F (a:List (List Int)) (b:List (List Int)):OT:=cI PG bL.E 18 bL.sg bL.h [(.sl .od a),(.sl .od b)]
def bL.l1 (x0:List (List Int)) (x1:List (List Int)) (x2:Int):OT:=dL PG bL.E 18 bL.sg bL.h 43 [(.sl .od x0),(.sl .od x1),(.i .i64 x2)]
theorem bL.bX (x0:List (List Int)) (x1:List (List Int)) (x2:Int) {ρ:OT} (K:∀(v1:List Int) (h1:v1=(List.getD x0 (x2).toNat ([]:List Int))) (v2:List Int) (h2:v2=(List.getD x1 (x2).toNat ([]:List Int))) (v3:Int) (h3:v3=(IntKind.i64.wrap (x2+(1:Int)))),cond (decide (x2<((x0).length:Int)))
  (ck (bD x2 (x0).length) (ck (bD x2 (x1).length) (ck (decide (v1.length≤1099511627776)) (cond (!(decide (v1=v2)))
  (some [(.b false)])
  (bL.l1 x0 x1 v3)))))
  (some [(.b true)])=ρ):bL.l1 x0 x1 x2=ρ:=((bV _ _ _ _ _ _ _).trans (by kernel_rfl)).trans (K _ rfl _ rfl _ rfl)
theorem bL.dW (a:List (List Int)) (b:List (List Int)):bL.F a b=cond (!decide (((a).length:Int)=((b).length:Int)))
  (some [(.b false)])
  (bL.l1 a b (0:Int)):=by kernel_rfl
def Y5.E:cr:=cL fC zs [(39,(Zi.c,Zi.sg))]
def Y5.h:Hint := .s .o (.s .o (.s .o (.s .o (.s (.b (.l (sc [5,6,7]) .o)) (.s (.b (.l (sc [5,6,7]) .o)) .o)))))
def Y5.F (b:UInt64):OT:=cI PG Y5.E 23 Y5.sg Y5.h [(.u64 b)]
def Y5.l1 (x0:Bool) (x1:UInt64) (x2:Int):OT:=dL PG Y5.E 23 Y5.sg Y5.h 79 [(.b x0),(.u64 x1),(.i .i64 x2)]
def Y5.l2 (x0:Bool) (x1:UInt64) (x2:Int):OT:=dL PG Y5.E 23 Y5.sg Y5.h 159 [(.b x0),(.u64 x1),(.i .i64 x2)]
theorem Y5.bX (x0:Bool) (x1:UInt64) (x2:Int) {ρ:OT} (K:∀(v1:Int) (h1:v1=(IntKind.i64.wrap (x2+(1:Int)))),cond (decide (x2<(0:Int)))
  (ck (!decide ((2:UInt64)=0)) (cond (!decide ((x1 % (2:UInt64))=(0:UInt64)))
  (some [(.i .i64 0),(.b false)])
  (ck (!decide ((2:UInt64)=0)) (Y5.l1 x0 (x1 / (2:UInt64)) v1))))
  (Y5.l2 x0 x1 x2)=ρ):Y5.l1 x0 x1 x2=ρ:=((bV _ _ _ _ _ _ _).trans (by kernel_rfl)).trans (K _ rfl)
theorem Y5.iu (x0:Bool) (x1:UInt64) (x2:Int) {ρ:OT} (K:∀(v1:Int) (h1:v1=(IntKind.i64.wrap (x2 - (1:Int)))) (v2:Bool) (h2:v2=(cond x0 (decide (x1≤(9223372036854775808:UInt64))) false)) (v3:Int) (h3:v3=(IntKind.i64.wrap (((x1 - (1:UInt64))).toNat:Int))) (v4:Int) (h4:v4=(IntKind.i64.wrap ((IntKind.i64.wrap (0 - v3)) - (1:Int)))) (v5:Bool) (h5:v5=(cond x0 true (decide ((9223372036854775808:UInt64)≤x1)))) (v6:Int) (h6:v6=(IntKind.i64.wrap ((x1).toNat:Int))),cond (decide ((0:Int)<x2))
  (Y5.l2 x0 (x1 * (2:UInt64)) v1)
  (ck (!x0 || x0) (ck (!x0 || x0) (cond v2
  (some [(.i .i64 v4),(.b true)])
  (ck (!(!x0) || (!x0)) (ck (x0 || (!x0)) (cond v5
  (some [(.i .i64 0),(.b false)])
  (some [(.i .i64 v6),(.b true)])))))))=ρ):Y5.l2 x0 x1 x2=ρ:=((bV _ _ _ _ _ _ _).trans (by kernel_rfl)).trans (K _ rfl _ rfl _ rfl _ rfl _ rfl _ rfl)
theorem Y5.bY (b:UInt64) {ρ:OT} (K:∀(v1:Bool) (h1:v1=(!(!decide (((Nr.split b).1)=(2:Int))))) (v2:Bool) (h2:v2=(cond (!decide (((Nr.split b).1)=(2:Int))) true (decide ((11:Int)<((Nr.split b).2.2.2))))),cond (decide (((Nr.split b).1)=(1:Int)))
  (some [(.i .i64 0),(.b true)])
  (ck (!v1 || v1) (ck ((!decide (((Nr.split b).1)=(2:Int))) || v1) (cond v2
  (some [(.i .i64 0),(.b false)])
  (Y5.l1 ((Nr.split b).2.1) ((Nr.split b).2.2.1) ((Nr.split b).2.2.2)))))=ρ):Y5.F b=ρ:=Eq.trans (by kernel_rfl) (K _ rfl _ rfl)
def Zg.E:cr:=cL fC zs []
def Zg.h:Hint := .o
def Zg.F (b:UInt64):OT:=cI PG Zg.E 38 Zg.sg Zg.h [(.u64 b)]
theorem Zg.bY (b:UInt64) {ρ:OT} (K:∀(v1:UInt32) (h1:v1=(UInt32.ofInt ((b).toNat:Int))) (v2:Int) (h2:v2=(IntKind.i32.wrap ((v1).toNat:Int))),some [(.i .i64 (IntKind.i64.wrap v2))]=ρ):Zg.F b=ρ:=Eq.trans (by kernel_rfl) (K _ rfl _ rfl)
def Y2.E (n:Nat):cr:=cL fC zs [(35,(Y2.cn n,Y2.sg)),(37,(Nv.c,Nv.sg)),(50,(Za.c,Za.sg))]
def Y2.h:Hint := .s .o (.s .o (.s .o (.j [(2,.no),(3,.ptr 77 0),(4,.ptr 78 0),(8,.fB 800000),(77,.cl []),(78,.cl []),(800000,.pv)] .o (.s (.s .o (.b (.l [(2,.no),(3,.ptr 77 0),(4,.ptr 78 0),(8,.fB 800000),(9,.no),(77,.cl []),(78,.cl []),(800000,.pv)] .o))) .o))))
def Y2.F (n:Nat) (a:Val) (b:Val) (p:List Int):OT:=cI PG (Y2.E n) 35 Y2.sg Y2.h [(.ag (Val.cells a)),(.ag (Val.cells b)),(.sl .is p)]
def Y2.j1 (n:Nat) (x0:List Int) (x1:Val) (x2:Val) (x3:List (List Int)):OT:=eD PG (Y2.E n) 35 Y2.sg Y2.h 15 [(.sl .is x0),.pt,.pt,.pt,(.ag (Val.cells x1)),(.ag (Val.cells x2)),(.sl .od x3)]
def Y2.l2 (n:Nat) (x0:List Int) (x1:Int) (x2:Val) (x3:Val) (x4:List (List Int)):OT:=dL PG (Y2.E n) 35 Y2.sg Y2.h 175 [(.sl .is x0),.pt,.pt,.pt,(.i .i64 x1),(.ag (Val.cells x2)),(.ag (Val.cells x3)),(.sl .od x4)]
theorem Y2.lg (n:Nat) (x0:List Int) (x1:Val) (x2:Val) (x3:List (List Int)):Y2.j1 n x0 x1 x2 x3=Y2.l2 n x0 (0:Int) x1 x2 x3:=((cp _ _ _ _ _ _ _).trans (by kernel_rfl))
theorem Y2.iu (n:Nat) (x0:List Int) (x1:Int) (x2:Val) (x3:Val) (x4:List (List Int)) {ρ:OT} (K:∀(v1:Int) (h1:v1=(((Val.kids x2)).length:Int)) (v2:bA) (h2:v2=(List.getD (Val.kids x2) (x1).toNat (fx.gm .fl))) (v3:bA) (h3:v3=(List.getD (Val.kids x3) (x1).toNat (fx.gm .fl))) (v4:List (List Int)) (h4:v4=((Rl.mG (bA.of [] (bA.val v2)) (bA.of [] (bA.val v3)) (((x0++[x1])))).getD [])) (v5:Bool) (h5:v5=((Rl.mG (bA.of [] (bA.val v2)) (bA.of [] (bA.val v3)) (((x0++[x1])))).isSome)) (v6:Bool) (h6:v6=(cond (!v5) true (!decide ((bA.name v2)=(bA.name v3))))) (v7:Int) (h7:v7=(IntKind.i64.wrap (x1+(1:Int)))),cond (decide (x1<v1))
  (ck (bD x1 ((Val.kids x2)).length) (ck (bD x1 ((Val.kids x3)).length) (ck (decide (x0.length≤1099511627776)) (ck ((decide (bA.bJ (bA.of [] (bA.val v2))+((((x0++[x1])))).length≤1000000000))&&decide ((bA.bJ (bA.of [] (bA.val v2)))<n)) (ck (!(!(!v5)) || (!(!v5))) (ck (!(!(!v5)) || (((!(!v5))&&(!(!v5)))&&(bD x1 ((Val.kids x2)).length))) (ck (!(!(!v5)) || (!(!v5))) (ck (!(!(!v5)) || (!(!v5))) (ck (!(!(!v5)) || (!(!v5))) (ck (!(!(!v5)) || (((!(!v5))&&(!(!v5)))&&(bD x1 ((Val.kids x3)).length))) (ck (!(!(!v5)) || (!(!v5))) (ck (!(!(!v5)) || (!(!v5))) (ck (!(!(!v5)) || ((!(!v5))&&(!(!v5)))) (ck ((!v5) || (!(!v5))) (cond v6
  (some [(.sl .od ([]:List (List Int))),(.b false)])
  (ck (fi ((x4).length+(v4).length) 24) (Y2.l2 n x0 v7 x2 x3 (x4++v4))))))))))))))))))
  (some [(.sl .od x4),(.b true)])=ρ):Y2.l2 n x0 x1 x2 x3 x4=ρ:=((bV _ _ _ _ _ _ _).trans (by kernel_rfl)).trans (K _ rfl _ rfl _ rfl _ rfl _ rfl _ rfl _ rfl)
theorem Y2.bY (n:Nat) (a:Val) (b:Val) (p:List Int) {ρ:OT} (K:∀(v1:Int) (h1:v1=(((Val.kids a)).length:Int)) (v2:Int) (h2:v2=(((Val.kids b)).length:Int)),cond (!decide (v1=v2))
  (some [(.sl .od ([]:List (List Int))),(.b false)])
  (cond (!(Tree.nD a b))
  (ck (fi (([p]:List (List Int))).length 24) (Y2.j1 n p a b ([p]:List (List Int))))
  (Y2.j1 n p a b ([]:List (List Int))))=ρ):Y2.F n a b p=ρ:=Eq.trans (by kernel_rfl) (K _ rfl _ rfl)
def Ze.E:cr:=cL fC zs [(35,(Y2.c,Y2.sg))]
def Ze.h:Hint := .o
def Ze.F (a:Val) (b:Val):OT:=cI PG Ze.E 17 Ze.sg Ze.h [(.ag (Val.cells a)),(.ag (Val.cells b))]
theorem Ze.bY (a:Val) (b:Val) {ρ:OT} (K:∀(v1:List (List Int)) (h1:v1=((Rl.mG (bA.of [] a) (bA.of [] b) (([]:List Int))).getD [])) (v2:Bool) (h2:v2=((Rl.mG (bA.of [] a) (bA.of [] b) (([]:List Int))).isSome)),ck (decide (bA.bJ (bA.of [] a)+((([]:List Int))).length≤1000000000)) (some [(.sl .od v1),(.b v2)])=ρ):Ze.F a b=ρ:=Eq.trans (by kernel_rfl) (K _ rfl _ rfl)
def Y9.E:cr:=cL fC zs []
def Y9.h:Hint := .s .o (.s (.s .o (.b (.l [(1,.no),(2,.ptr 41 0),(4,.ptr 43 0),(6,.no),(41,.cl []),(43,.cl [])] .o))) .o)
def Y9.F (v:Val) (p:List Int):OT:=cI PG Y9.E 21 Y9.sg Y9.h [(.ag (Val.cells v)),(.sl .is p)]
def Y9.l1 (x0:List Int) (x1:Int) (x2:Val) (x3:Val):OT:=dL PG Y9.E 21 Y9.sg Y9.h 21 [(.sl .is x0),.pt,.pt,(.i .i64 x1),(.ag (Val.cells x2)),(.ag (Val.cells x3))]
theorem Y9.bX (x0:List Int) (x1:Int) (x2:Val) (x3:Val) {ρ:OT} (K:∀(v1:Int) (h1:v1=(List.getD x0 (x1).toNat (0:Int))) (v2:Int) (h2:v2=(((Val.kids x2)).length:Int)) (v3:Bool) (h3:v3=(cond (decide (v1<(0:Int))) true (decide (v2≤v1)))) (v4:bA) (h4:v4=(List.getD (Val.kids x2) (v1).toNat (fx.gm .fl))) (v5:Int) (h5:v5=(IntKind.i64.wrap (x1+(1:Int)))),cond (decide (x1<((x0).length:Int)))
  (ck (bD x1 (x0).length) (ck (!(!(decide (v1<(0:Int)))) || (((!(decide (v1<(0:Int))))&&(!(decide (v1<(0:Int)))))&&(bD x1 (x0).length))) (ck (!(!(decide (v1<(0:Int)))) || (!(decide (v1<(0:Int))))) (ck (!(!(decide (v1<(0:Int)))) || (!(decide (v1<(0:Int))))) (ck (!(!(decide (v1<(0:Int)))) || (!(decide (v1<(0:Int))))) (ck (!(!(decide (v1<(0:Int)))) || ((!(decide (v1<(0:Int))))&&(!(decide (v1<(0:Int)))))) (ck ((decide (v1<(0:Int))) || (!(decide (v1<(0:Int))))) (cond v3
  (some [(.ag [(.i .i64 0),(.u64 0),(.u64 0),(.u64 0),(.s []),(.s []),(.i .i64 0),(.sl .bs ([]:List UInt8)),(.sl .fl ([]:List bA))]),(.b false)])
  (ck (bD x1 (x0).length) (ck (bD v1 ((Val.kids x2)).length) (Y9.l1 x0 v5 (bA.val v4) x3)))))))))))
  (some [(.ag (Val.cells x2)),(.b true)])=ρ):Y9.l1 x0 x1 x2 x3=ρ:=((bV _ _ _ _ _ _ _).trans (by kernel_rfl)).trans (K _ rfl _ rfl _ rfl _ rfl _ rfl)
theorem Y9.dW (v:Val) (p:List Int):Y9.F v p=Y9.l1 p (0:Int) v (Val.mk 0 0 0 0 [] [] 0 [] []):=by kernel_rfl
def Zb.E:cr:=cL fC zs [(23,(Y5.c,Y5.sg)),(38,(Zg.c,Zg.sg))]
def Zb.h:Hint := .o
def Zb.F (v:Val):OT:=cI PG Zb.E 22 Zb.sg Zb.h [(.ag (Val.cells v))]
theorem Zb.bY (v:Val) {ρ:OT} (K:∀(v1:Int) (h1:v1=(IntKind.i64.wrap (((Val.bits v)).toNat:Int))) (v2:Int) (h2:v2=((Rl.Zl ((Val.bits v))).getD 0)) (v3:Bool) (h3:v3=((Rl.Zl ((Val.bits v))).isSome)),cond (decide ((Val.kind v)=(16:Int)))
  (some [(.i .i64 (Cn.i32 ((Val.bits v)))),(.b true)])
  (cond (decide ((Val.kind v)=(18:Int)))
  (some [(.i .i64 v1),(.b true)])
  (cond (decide ((Val.kind v)=(1:Int)))
  (some [(.i .i64 v2),(.b v3)])
  (some [(.i .i64 0),(.b false)])))=ρ):Zb.F v=ρ:=Eq.trans (by kernel_rfl) (K _ rfl _ rfl _ rfl)
end
end Go.Eng
set_option maxRecDepth 100000
namespace Go.Eng
open Go.Proofs
noncomputable section
def dG.sg:bW:={}
def dG.c:eu:=fun l=>match l with
 | [] => .ok [(.b (true))]
 | _ => .err
def dG.E:cr:=cL fC zs [(11,(fV.c,fV.sg)),(18,(bL.c,bL.sg)),(19,(gK.c,gK.sg))] [77,78,79]
def dG.h:Hint := .o
def dG.F  : OT:=cI PG dG.E 7 dG.sg dG.h []
theorem dG.bY  {ρ:OT} (K:∀(v1:List bA) (h1:v1=([(bA.mk ([97]:bz) 1 4607182418800017408 0 0 [] [] 0 [] [])]:List bA)) (v2:bz) (h2:v2=(Rl.mT Rl.date (Val.mk 3 0 0 0 [] [] 0 [] v1))) (v3:Int) (h3:v3=((Rl.kW Rl.date (Val.mk 3 0 0 0 [] [] 0 [] v1)).2)) (v4:List Int) (h4:v4=((Rl.kW Rl.date (Val.mk 3 0 0 0 [] [] 0 [] v1)).1)) (v5:Bool) (h5:v5=(cond (decide (v3=(0:Int))) (decide (v2=([123,34,97,34,58,49,125]:bz))) false)) (v6:List (List Int)) (h6:v6=((Rl.diff (Val.mk 3 0 0 0 [] [] 0 [] v1) (Rl.ie (Val.mk 3 0 0 0 [] [] 0 [] v1))).getD [])) (v7:List (List Int)) (h7:v7=([([(0:Int)]:List Int)]:List (List Int))) (v8:Bool) (h8:v8=(cond v5 (decide (v6=v7)) false)),ck (decide (bA.bJ (bA.of [] (Val.mk 3 0 0 0 [] [] 0 [] v1))≤100000)) (ck (!(decide (v3=(0:Int))) || (decide (v3=(0:Int)))) (ck (!(decide (v3=(0:Int))) || (decide (v3=(0:Int)))) (ck (!v5 || (v5&&(decide (bA.bJ (bA.of [] (Val.mk 3 0 0 0 [] [] 0 [] v1))≤10000000)))) (ck v5 (ck v5 (ck (v5&&(v5&&(decide ((v6).length≤1000000000)&&(v6).all (fun l=>decide (l.length≤1099511627776))))) (some [(.b v8)])))))))=ρ):dG.F  = ρ:=Eq.trans (by kernel_rfl) (K _ rfl _ rfl _ rfl _ rfl _ rfl _ rfl _ rfl _ rfl)
end
end Go.Eng
namespace Go.Proofs
open Go.Shelf
def Tryz.Bu:Go.Shelf.Ren:=⟨fun | 29=>231 | n=>n,fun | 22=>22 | 3=>3 | 4=>4 | 25=>98 | 54=>268 | 0=>0 | 5=>5 | n=>n,fun | 1=>5 | n=>n⟩
theorem Tryz.LI:Go.Proofs.Lays7.n29 Tryz.prog Tryz.Bu:={
 mixed:=by kernel_rfl
 f29:=Tryz.func231.trans (congrArg some (by kernel_rfl))
 t0:=Tryz.underlying0
 a0:=Tryz.isAgg0
 z0:=Tryz.sizeOf0
 v0:=Tryz.zeroValue0
 i0:=by kernel_rfl
 t3:=Tryz.underlying3
 a3:=Tryz.isAgg3
 z3:=Tryz.sizeOf3
 v3:=Tryz.zeroValue3
 i3:=by kernel_rfl
 t4:=Tryz.underlying4
 a4:=Tryz.isAgg4
 z4:=Tryz.sizeOf4
 v4:=Tryz.zeroValue4
 i4:=by kernel_rfl
 t5:=Tryz.underlying5
 a5:=Tryz.isAgg5
 z5:=Tryz.sizeOf5
 v5:=Tryz.zeroValue5
 i5:=by kernel_rfl
 t22:=Tryz.underlying22
 a22:=Tryz.isAgg22
 z22:=Tryz.sizeOf22
 v22:=Tryz.zeroValue22
 i22:=by kernel_rfl
 t25:=Tryz.underlying98
 a25:=Tryz.isAgg98
 z25:=Tryz.sizeOf98
 v25:=Tryz.zeroValue98
 i25:=by kernel_rfl
 t54:=Tryz.underlying268
 a54:=Tryz.isAgg268
 z54:=Tryz.sizeOf268
 g1:=by kernel_rfl }
def Tryz.zu:Go.Shelf.Ren:=⟨fun | 160=>224 | 232=>220 | 231=>247 | 227=>221 | 234=>222 | 233=>248 | 236=>223 | 235=>249 | 228=>244 | 271=>245 | 151=>246 | 197=>265 | 120=>264 | 152=>266 | 260=>275 | 137=>146 | 119=>276 | 224=>206 | 225=>205 | 217=>183 | 266=>214 | n=>n,fun | 9=>9 | 4=>4 | 3=>3 | 5=>5 | 117=>237 | 116=>236 | 0=>0 | 124=>240 | 21=>21 | 105=>262 | 46=>98 | 119=>290 | 139=>293 | 138=>292 | n=>n,fun | 3=>9 | 4=>10 | n=>n⟩
theorem Tryz.Jj:Go.Proofs.Lays.n160 Tryz.prog Tryz.zu:={
 mixed:=by kernel_rfl
 f119:=Tryz.func276.trans (congrArg some (by kernel_rfl))
 f120:=Tryz.func264.trans (congrArg some (by kernel_rfl))
 f137:=Tryz.func146.trans (congrArg some (by kernel_rfl))
 f151:=Tryz.func246.trans (congrArg some (by kernel_rfl))
 f152:=Tryz.func266.trans (congrArg some (by kernel_rfl))
 f160:=Tryz.func224.trans (congrArg some (by kernel_rfl))
 f197:=Tryz.func265.trans (congrArg some (by kernel_rfl))
 f217:=Tryz.func183.trans (congrArg some (by kernel_rfl))
 f224:=Tryz.func206.trans (congrArg some (by kernel_rfl))
 f225:=Tryz.func205.trans (congrArg some (by kernel_rfl))
 f227:=Tryz.func221.trans (congrArg some (by kernel_rfl))
 f228:=Tryz.func244.trans (congrArg some (by kernel_rfl))
 f231:=Tryz.func247.trans (congrArg some (by kernel_rfl))
 f232:=Tryz.func220.trans (congrArg some (by kernel_rfl))
 f233:=Tryz.func248.trans (congrArg some (by kernel_rfl))
 f234:=Tryz.func222.trans (congrArg some (by kernel_rfl))
 f235:=Tryz.func249.trans (congrArg some (by kernel_rfl))
 f236:=Tryz.func223.trans (congrArg some (by kernel_rfl))
 f260:=Tryz.func275.trans (congrArg some (by kernel_rfl))
 f266:=Tryz.func214.trans (congrArg some (by kernel_rfl))
 f271:=Tryz.func245.trans (congrArg some (by kernel_rfl))
 t0:=Tryz.underlying0
 a0:=Tryz.isAgg0
 z0:=Tryz.sizeOf0
 v0:=Tryz.zeroValue0
 t3:=Tryz.underlying3
 a3:=Tryz.isAgg3
 z3:=Tryz.sizeOf3
 v3:=Tryz.zeroValue3
 t4:=Tryz.underlying4
 a4:=Tryz.isAgg4
 z4:=Tryz.sizeOf4
 v4:=Tryz.zeroValue4
 t5:=Tryz.underlying5
 a5:=Tryz.isAgg5
 z5:=Tryz.sizeOf5
 v5:=Tryz.zeroValue5
 t9:=Tryz.underlying9
 a9:=Tryz.isAgg9
 z9:=Tryz.sizeOf9
 v9:=Tryz.zeroValue9
 t21:=Tryz.underlying21
 a21:=Tryz.isAgg21
 z21:=Tryz.sizeOf21
 v21:=Tryz.zeroValue21
 t46:=Tryz.underlying98
 a46:=Tryz.isAgg98
 z46:=Tryz.sizeOf98
 v46:=Tryz.zeroValue98
 t105:=Tryz.underlying262
 a105:=Tryz.isAgg262
 z105:=Tryz.sizeOf262
 v105:=Tryz.zeroValue262
 t116:=Tryz.underlying236
 a116:=Tryz.isAgg236
 z116:=Tryz.sizeOf236
 t117:=Tryz.underlying237
 a117:=Tryz.isAgg237
 z117:=Tryz.sizeOf237
 v117:=Tryz.zeroValue237
 t119:=Tryz.underlying290
 a119:=Tryz.isAgg290
 z119:=Tryz.sizeOf290
 t124:=Tryz.underlying240
 a124:=Tryz.isAgg240
 z124:=Tryz.sizeOf240
 v124:=Tryz.zeroValue240
 t138:=Tryz.underlying292
 a138:=Tryz.isAgg292
 z138:=Tryz.sizeOf292
 v138:=Tryz.zeroValue292
 t139:=Tryz.underlying293
 a139:=Tryz.isAgg293
 z139:=Tryz.sizeOf293
 v139:=Tryz.zeroValue293
 g3:=by kernel_rfl
 g4:=by kernel_rfl }
def Tryz.zt:Go.Shelf.Ren:=⟨fun | 161=>225 | 231=>247 | 227=>221 | 233=>248 | 235=>249 | 228=>244 | 197=>265 | 151=>246 | 260=>275 | 152=>266 | 137=>146 | 119=>276 | 224=>206 | 225=>205 | 217=>183 | 266=>214 | n=>n,fun | 9=>9 | 4=>4 | 3=>3 | 5=>5 | 117=>237 | 116=>236 | 0=>0 | 124=>240 | 105=>262 | 21=>21 | 119=>290 | 46=>98 | 139=>293 | 138=>292 | n=>n,fun | 3=>9 | 4=>10 | n=>n⟩
theorem Tryz.Ji:Go.Proofs.Lays.n161 Tryz.prog Tryz.zt:={
 mixed:=by kernel_rfl
 f119:=Tryz.func276.trans (congrArg some (by kernel_rfl))
 f137:=Tryz.func146.trans (congrArg some (by kernel_rfl))
 f151:=Tryz.func246.trans (congrArg some (by kernel_rfl))
 f152:=Tryz.func266.trans (congrArg some (by kernel_rfl))
 f161:=Tryz.func225.trans (congrArg some (by kernel_rfl))
 f197:=Tryz.func265.trans (congrArg some (by kernel_rfl))
 f217:=Tryz.func183.trans (congrArg some (by kernel_rfl))
 f224:=Tryz.func206.trans (congrArg some (by kernel_rfl))
 f225:=Tryz.func205.trans (congrArg some (by kernel_rfl))
 f227:=Tryz.func221.trans (congrArg some (by kernel_rfl))
 f228:=Tryz.func244.trans (congrArg some (by kernel_rfl))
 f231:=Tryz.func247.trans (congrArg some (by kernel_rfl))
 f233:=Tryz.func248.trans (congrArg some (by kernel_rfl))
 f235:=Tryz.func249.trans (congrArg some (by kernel_rfl))
 f260:=Tryz.func275.trans (congrArg some (by kernel_rfl))
 f266:=Tryz.func214.trans (congrArg some (by kernel_rfl))
 t0:=Tryz.underlying0
 a0:=Tryz.isAgg0
 z0:=Tryz.sizeOf0
 v0:=Tryz.zeroValue0
 t3:=Tryz.underlying3
 a3:=Tryz.isAgg3
 z3:=Tryz.sizeOf3
 v3:=Tryz.zeroValue3
 t4:=Tryz.underlying4
 a4:=Tryz.isAgg4
 z4:=Tryz.sizeOf4
 v4:=Tryz.zeroValue4
 t5:=Tryz.underlying5
 a5:=Tryz.isAgg5
 z5:=Tryz.sizeOf5
 v5:=Tryz.zeroValue5
 t9:=Tryz.underlying9
 a9:=Tryz.isAgg9
 z9:=Tryz.sizeOf9
 v9:=Tryz.zeroValue9
 t21:=Tryz.underlying21
 a21:=Tryz.isAgg21
 z21:=Tryz.sizeOf21
 v21:=Tryz.zeroValue21
 t46:=Tryz.underlying98
 a46:=Tryz.isAgg98
 z46:=Tryz.sizeOf98
 v46:=Tryz.zeroValue98
 t105:=Tryz.underlying262
 a105:=Tryz.isAgg262
 z105:=Tryz.sizeOf262
 v105:=Tryz.zeroValue262
 t116:=Tryz.underlying236
 a116:=Tryz.isAgg236
 z116:=Tryz.sizeOf236
 t117:=Tryz.underlying237
 a117:=Tryz.isAgg237
 z117:=Tryz.sizeOf237
 v117:=Tryz.zeroValue237
 t119:=Tryz.underlying290
 a119:=Tryz.isAgg290
 z119:=Tryz.sizeOf290
 t124:=Tryz.underlying240
 a124:=Tryz.isAgg240
 z124:=Tryz.sizeOf240
 v124:=Tryz.zeroValue240
 t138:=Tryz.underlying292
 a138:=Tryz.isAgg292
 z138:=Tryz.sizeOf292
 v138:=Tryz.zeroValue292
 t139:=Tryz.underlying293
 a139:=Tryz.isAgg293
 z139:=Tryz.sizeOf293
 v139:=Tryz.zeroValue293
 g3:=by kernel_rfl
 g4:=by kernel_rfl }
def Tryz.zr:Go.Shelf.Ren:=⟨fun | 162=>193 | 232=>220 | 227=>221 | 234=>222 | 236=>223 | 228=>244 | 271=>245 | 151=>246 | 120=>264 | 197=>265 | 152=>266 | 260=>275 | 137=>146 | 119=>276 | 224=>206 | 225=>205 | 217=>183 | 266=>214 | n=>n,fun | 9=>9 | 4=>4 | 3=>3 | 5=>5 | 117=>237 | 116=>236 | 0=>0 | 124=>240 | 21=>21 | 105=>262 | 46=>98 | 119=>290 | 139=>293 | 138=>292 | n=>n,fun | 3=>9 | 4=>10 | n=>n⟩
theorem Tryz.Jh:Go.Proofs.Lays.n162 Tryz.prog Tryz.zr:={
 mixed:=by kernel_rfl
 f119:=Tryz.func276.trans (congrArg some (by kernel_rfl))
 f120:=Tryz.func264.trans (congrArg some (by kernel_rfl))
 f137:=Tryz.func146.trans (congrArg some (by kernel_rfl))
 f151:=Tryz.func246.trans (congrArg some (by kernel_rfl))
 f152:=Tryz.func266.trans (congrArg some (by kernel_rfl))
 f162:=Tryz.func193.trans (congrArg some (by kernel_rfl))
 f197:=Tryz.func265.trans (congrArg some (by kernel_rfl))
 f217:=Tryz.func183.trans (congrArg some (by kernel_rfl))
 f224:=Tryz.func206.trans (congrArg some (by kernel_rfl))
 f225:=Tryz.func205.trans (congrArg some (by kernel_rfl))
 f227:=Tryz.func221.trans (congrArg some (by kernel_rfl))
 f228:=Tryz.func244.trans (congrArg some (by kernel_rfl))
 f232:=Tryz.func220.trans (congrArg some (by kernel_rfl))
 f234:=Tryz.func222.trans (congrArg some (by kernel_rfl))
 f236:=Tryz.func223.trans (congrArg some (by kernel_rfl))
 f260:=Tryz.func275.trans (congrArg some (by kernel_rfl))
 f266:=Tryz.func214.trans (congrArg some (by kernel_rfl))
 f271:=Tryz.func245.trans (congrArg some (by kernel_rfl))
 t0:=Tryz.underlying0
 a0:=Tryz.isAgg0
 z0:=Tryz.sizeOf0
 v0:=Tryz.zeroValue0
 t3:=Tryz.underlying3
 a3:=Tryz.isAgg3
 z3:=Tryz.sizeOf3
 v3:=Tryz.zeroValue3
 t4:=Tryz.underlying4
 a4:=Tryz.isAgg4
 z4:=Tryz.sizeOf4
 v4:=Tryz.zeroValue4
 t5:=Tryz.underlying5
 a5:=Tryz.isAgg5
 z5:=Tryz.sizeOf5
 v5:=Tryz.zeroValue5
 t9:=Tryz.underlying9
 a9:=Tryz.isAgg9
 z9:=Tryz.sizeOf9
 v9:=Tryz.zeroValue9
 t21:=Tryz.underlying21
 a21:=Tryz.isAgg21
 z21:=Tryz.sizeOf21
 v21:=Tryz.zeroValue21
 t46:=Tryz.underlying98
 a46:=Tryz.isAgg98
 z46:=Tryz.sizeOf98
 v46:=Tryz.zeroValue98
 t105:=Tryz.underlying262
 a105:=Tryz.isAgg262
 z105:=Tryz.sizeOf262
 v105:=Tryz.zeroValue262
 t116:=Tryz.underlying236
 a116:=Tryz.isAgg236
 z116:=Tryz.sizeOf236
 t117:=Tryz.underlying237
 a117:=Tryz.isAgg237
 z117:=Tryz.sizeOf237
 v117:=Tryz.zeroValue237
 t119:=Tryz.underlying290
 a119:=Tryz.isAgg290
 z119:=Tryz.sizeOf290
 t124:=Tryz.underlying240
 a124:=Tryz.isAgg240
 z124:=Tryz.sizeOf240
 v124:=Tryz.zeroValue240
 t138:=Tryz.underlying292
 a138:=Tryz.isAgg292
 z138:=Tryz.sizeOf292
 v138:=Tryz.zeroValue292
 t139:=Tryz.underlying293
 a139:=Tryz.isAgg293
 z139:=Tryz.sizeOf293
 v139:=Tryz.zeroValue293
 g3:=by kernel_rfl
 g4:=by kernel_rfl }
def Tryz.sr:Go.Shelf.Ren:=⟨fun | 105=>121 | 212=>157 | 99=>65 | 165=>158 | 166=>159 | 170=>160 | 169=>161 | 263=>195 | 264=>196 | 206=>102 | 240=>197 | 241=>198 | 276=>228 | 277=>229 | n=>n,fun | 9=>9 | 3=>3 | 4=>4 | 20=>20 | 0=>0 | 46=>98 | 109=>174 | 5=>5 | 72=>178 | 76=>180 | 51=>74 | 146=>213 | 53=>22 | 148=>215 | 70=>176 | 37=>23 | 75=>93 | 127=>217 | 164=>243 | 80=>183 | n=>n,fun | n=>n⟩
theorem Tryz.Jk:Go.Proofs.Lays.n105 Tryz.prog Tryz.sr:={
 mixed:=by kernel_rfl
 f99:=Tryz.func65.trans (congrArg some (by kernel_rfl))
 f105:=Tryz.func121.trans (congrArg some (by kernel_rfl))
 f165:=Tryz.func158.trans (congrArg some (by kernel_rfl))
 f166:=Tryz.func159.trans (congrArg some (by kernel_rfl))
 f169:=Tryz.func161.trans (congrArg some (by kernel_rfl))
 f170:=Tryz.func160.trans (congrArg some (by kernel_rfl))
 f206:=Tryz.func102.trans (congrArg some (by kernel_rfl))
 f212:=Tryz.func157.trans (congrArg some (by kernel_rfl))
 f240:=Tryz.func197.trans (congrArg some (by kernel_rfl))
 f241:=Tryz.func198.trans (congrArg some (by kernel_rfl))
 f263:=Tryz.func195.trans (congrArg some (by kernel_rfl))
 f264:=Tryz.func196.trans (congrArg some (by kernel_rfl))
 f276:=Tryz.func228.trans (congrArg some (by kernel_rfl))
 f277:=Tryz.func229.trans (congrArg some (by kernel_rfl))
 t0:=Tryz.underlying0
 a0:=Tryz.isAgg0
 z0:=Tryz.sizeOf0
 v0:=Tryz.zeroValue0
 t3:=Tryz.underlying3
 a3:=Tryz.isAgg3
 z3:=Tryz.sizeOf3
 v3:=Tryz.zeroValue3
 t4:=Tryz.underlying4
 a4:=Tryz.isAgg4
 z4:=Tryz.sizeOf4
 v4:=Tryz.zeroValue4
 t5:=Tryz.underlying5
 a5:=Tryz.isAgg5
 z5:=Tryz.sizeOf5
 v5:=Tryz.zeroValue5
 t9:=Tryz.underlying9
 a9:=Tryz.isAgg9
 z9:=Tryz.sizeOf9
 v9:=Tryz.zeroValue9
 t20:=Tryz.underlying20
 a20:=Tryz.isAgg20
 z20:=Tryz.sizeOf20
 v20:=Tryz.zeroValue20
 t37:=Tryz.underlying23
 a37:=Tryz.isAgg23
 z37:=Tryz.sizeOf23
 v37:=Tryz.zeroValue23
 t46:=Tryz.underlying98
 a46:=Tryz.isAgg98
 z46:=Tryz.sizeOf98
 v46:=Tryz.zeroValue98
 t51:=Tryz.underlying74
 a51:=Tryz.isAgg74
 z51:=Tryz.sizeOf74
 v51:=Tryz.zeroValue74
 t53:=Tryz.underlying22
 a53:=Tryz.isAgg22
 z53:=Tryz.sizeOf22
 v53:=Tryz.zeroValue22
 t70:=Tryz.underlying176
 a70:=Tryz.isAgg176
 z70:=Tryz.sizeOf176
 v70:=Tryz.zeroValue176
 t72:=Tryz.underlying178
 a72:=Tryz.isAgg178
 z72:=Tryz.sizeOf178
 v72:=Tryz.zeroValue178
 t75:=Tryz.underlying93
 a75:=Tryz.isAgg93
 z75:=Tryz.sizeOf93
 v75:=Tryz.zeroValue93
 t76:=Tryz.underlying180
 a76:=Tryz.isAgg180
 z76:=Tryz.sizeOf180
 v76:=Tryz.zeroValue180
 t109:=Tryz.underlying174
 a109:=Tryz.isAgg174
 z109:=Tryz.sizeOf174
 v109:=Tryz.zeroValue174
 t127:=Tryz.underlying217
 a127:=Tryz.isAgg217
 z127:=Tryz.sizeOf217
 v127:=Tryz.zeroValue217
 t146:=Tryz.underlying213
 a146:=Tryz.isAgg213
 z146:=Tryz.sizeOf213
 v146:=Tryz.zeroValue213
 t148:=Tryz.underlying215
 a148:=Tryz.isAgg215
 z148:=Tryz.sizeOf215
 v148:=Tryz.zeroValue215
 t164:=Tryz.underlying243
 a164:=Tryz.isAgg243
 z164:=Tryz.sizeOf243
 v164:=Tryz.zeroValue243 }
theorem Tryz.It:Builder.Extra Tryz.prog Tryz.sr:={
 sizeBuilder:=by kernel_rfl
 liesBuilder:=by kernel_rfl
 t5:=Tryz.underlying5
 a5:=Tryz.isAgg5
 z5:=Tryz.sizeOf5
 v5:=Tryz.zeroValue5
 infoByte:=by kernel_rfl
 cellsByte:=by kernel_rfl
 sizeByte:=by kernel_rfl
 neB5:=by decide }
def Tryz.sq:Go.Shelf.Ren:=⟨fun | 156=>219 | 165=>158 | 166=>159 | 169=>161 | 240=>197 | 241=>198 | 276=>228 | 277=>229 | n=>n,fun | 31=>129 | 9=>9 | 3=>3 | 4=>4 | 0=>0 | 20=>20 | 72=>178 | 76=>180 | 70=>176 | 37=>23 | 75=>93 | 127=>217 | 164=>243 | 5=>5 | 80=>183 | n=>n,fun | n=>n⟩
theorem Tryz.CF:Go.Proofs.Lays.n156 Tryz.prog Tryz.sq:={
 mixed:=by kernel_rfl
 f156:=Tryz.func219.trans (congrArg some (by kernel_rfl))
 f165:=Tryz.func158.trans (congrArg some (by kernel_rfl))
 f166:=Tryz.func159.trans (congrArg some (by kernel_rfl))
 f169:=Tryz.func161.trans (congrArg some (by kernel_rfl))
 f240:=Tryz.func197.trans (congrArg some (by kernel_rfl))
 f241:=Tryz.func198.trans (congrArg some (by kernel_rfl))
 f276:=Tryz.func228.trans (congrArg some (by kernel_rfl))
 f277:=Tryz.func229.trans (congrArg some (by kernel_rfl))
 t0:=Tryz.underlying0
 a0:=Tryz.isAgg0
 z0:=Tryz.sizeOf0
 v0:=Tryz.zeroValue0
 t3:=Tryz.underlying3
 a3:=Tryz.isAgg3
 z3:=Tryz.sizeOf3
 v3:=Tryz.zeroValue3
 t4:=Tryz.underlying4
 a4:=Tryz.isAgg4
 z4:=Tryz.sizeOf4
 v4:=Tryz.zeroValue4
 t9:=Tryz.underlying9
 a9:=Tryz.isAgg9
 z9:=Tryz.sizeOf9
 v9:=Tryz.zeroValue9
 t20:=Tryz.underlying20
 a20:=Tryz.isAgg20
 z20:=Tryz.sizeOf20
 v20:=Tryz.zeroValue20
 t31:=Tryz.underlying129
 a31:=Tryz.isAgg129
 z31:=Tryz.sizeOf129
 v31:=Tryz.zeroValue129
 t37:=Tryz.underlying23
 a37:=Tryz.isAgg23
 z37:=Tryz.sizeOf23
 v37:=Tryz.zeroValue23
 t70:=Tryz.underlying176
 a70:=Tryz.isAgg176
 z70:=Tryz.sizeOf176
 v70:=Tryz.zeroValue176
 t72:=Tryz.underlying178
 a72:=Tryz.isAgg178
 z72:=Tryz.sizeOf178
 v72:=Tryz.zeroValue178
 t75:=Tryz.underlying93
 a75:=Tryz.isAgg93
 z75:=Tryz.sizeOf93
 v75:=Tryz.zeroValue93
 t76:=Tryz.underlying180
 a76:=Tryz.isAgg180
 z76:=Tryz.sizeOf180
 v76:=Tryz.zeroValue180
 t127:=Tryz.underlying217
 a127:=Tryz.isAgg217
 z127:=Tryz.sizeOf217
 v127:=Tryz.zeroValue217
 t164:=Tryz.underlying243
 a164:=Tryz.isAgg243
 z164:=Tryz.sizeOf243
 v164:=Tryz.zeroValue243 }
theorem Tryz.J4:Builder.Extra Tryz.prog Tryz.sq:={
 sizeBuilder:=by kernel_rfl
 liesBuilder:=by kernel_rfl
 t5:=Tryz.underlying5
 a5:=Tryz.isAgg5
 z5:=Tryz.sizeOf5
 v5:=Tryz.zeroValue5
 infoByte:=by kernel_rfl
 cellsByte:=by kernel_rfl
 sizeByte:=by kernel_rfl
 neB5:=by decide }
def Tryz.xv:Go.Shelf.Ren:=⟨fun | 171=>103 | 243=>132 | 246=>127 | 283=>166 | 284=>167 | 285=>168 | 286=>169 | 129=>200 | 317=>199 | 318=>201 | 319=>202 | 320=>203 | 337=>230 | 338=>231 | n=>n,fun | 3=>3 | 9=>9 | 2=>2 | 4=>4 | 171=>189 | 0=>0 | 53=>22 | 37=>23 | 5=>5 | 173=>192 | 212=>222 | 51=>74 | 20=>20 | 213=>223 | 46=>98 | 232=>267 | 233=>268 | n=>n,fun | 17=>2 | 18=>4 | 19=>5 | n=>n⟩
theorem Tryz.Gd:Go.Proofs.LaysM.n171 Tryz.prog Tryz.xv:={
 mixed:=by kernel_rfl
 f129:=Tryz.func200.trans (congrArg some (by kernel_rfl))
 f171:=Tryz.func103.trans (congrArg some (by kernel_rfl))
 f243:=Tryz.func132.trans (congrArg some (by kernel_rfl))
 f246:=Tryz.func127.trans (congrArg some (by kernel_rfl))
 f283:=Tryz.func166.trans (congrArg some (by kernel_rfl))
 f284:=Tryz.func167.trans (congrArg some (by kernel_rfl))
 f285:=Tryz.func168.trans (congrArg some (by kernel_rfl))
 f286:=Tryz.func169.trans (congrArg some (by kernel_rfl))
 f317:=Tryz.func199.trans (congrArg some (by kernel_rfl))
 f318:=Tryz.func201.trans (congrArg some (by kernel_rfl))
 f319:=Tryz.func202.trans (congrArg some (by kernel_rfl))
 f320:=Tryz.func203.trans (congrArg some (by kernel_rfl))
 f337:=Tryz.func230.trans (congrArg some (by kernel_rfl))
 f338:=Tryz.func231.trans (congrArg some (by kernel_rfl))
 t0:=Tryz.underlying0
 a0:=Tryz.isAgg0
 z0:=Tryz.sizeOf0
 v0:=Tryz.zeroValue0
 t2:=Tryz.underlying2
 a2:=Tryz.isAgg2
 z2:=Tryz.sizeOf2
 v2:=Tryz.zeroValue2
 t3:=Tryz.underlying3
 a3:=Tryz.isAgg3
 z3:=Tryz.sizeOf3
 v3:=Tryz.zeroValue3
 t4:=Tryz.underlying4
 a4:=Tryz.isAgg4
 z4:=Tryz.sizeOf4
 v4:=Tryz.zeroValue4
 t5:=Tryz.underlying5
 a5:=Tryz.isAgg5
 z5:=Tryz.sizeOf5
 v5:=Tryz.zeroValue5
 t9:=Tryz.underlying9
 a9:=Tryz.isAgg9
 z9:=Tryz.sizeOf9
 v9:=Tryz.zeroValue9
 t20:=Tryz.underlying20
 a20:=Tryz.isAgg20
 z20:=Tryz.sizeOf20
 v20:=Tryz.zeroValue20
 t37:=Tryz.underlying23
 a37:=Tryz.isAgg23
 z37:=Tryz.sizeOf23
 v37:=Tryz.zeroValue23
 t46:=Tryz.underlying98
 a46:=Tryz.isAgg98
 z46:=Tryz.sizeOf98
 v46:=Tryz.zeroValue98
 t51:=Tryz.underlying74
 a51:=Tryz.isAgg74
 z51:=Tryz.sizeOf74
 v51:=Tryz.zeroValue74
 t53:=Tryz.underlying22
 a53:=Tryz.isAgg22
 z53:=Tryz.sizeOf22
 v53:=Tryz.zeroValue22
 t171:=Tryz.underlying189
 a171:=Tryz.isAgg189
 z171:=Tryz.sizeOf189
 v171:=Tryz.zeroValue189
 t173:=Tryz.underlying192
 a173:=Tryz.isAgg192
 z173:=Tryz.sizeOf192
 v173:=Tryz.zeroValue192
 t212:=Tryz.underlying222
 a212:=Tryz.isAgg222
 z212:=Tryz.sizeOf222
 v212:=Tryz.zeroValue222
 t213:=Tryz.underlying223
 a213:=Tryz.isAgg223
 z213:=Tryz.sizeOf223
 t232:=Tryz.underlying267
 a232:=Tryz.isAgg267
 z232:=Tryz.sizeOf267
 v232:=Tryz.zeroValue267
 t233:=Tryz.underlying268
 a233:=Tryz.isAgg268
 z233:=Tryz.sizeOf268
 v233:=Tryz.zeroValue268
 g17:=by kernel_rfl
 g18:=by kernel_rfl
 g19:=by kernel_rfl
 i0:=by kernel_rfl
 i2:=by kernel_rfl
 i3:=by kernel_rfl
 i4:=by kernel_rfl
 i5:=by kernel_rfl
 i9:=by kernel_rfl
 i20:=by kernel_rfl
 i37:=by kernel_rfl
 i46:=by kernel_rfl
 i51:=by kernel_rfl
 i53:=by kernel_rfl
 i171:=by kernel_rfl
 i173:=by kernel_rfl
 i212:=by kernel_rfl
 i232:=by kernel_rfl
 i233:=by kernel_rfl
 m17:=by kernel_rfl
 m18:=by kernel_rfl
 m19:=by kernel_rfl }
def Tryz.xu:Go.Shelf.Ren:=⟨fun | 173=>95 | 246=>127 | 283=>166 | 284=>167 | 285=>168 | 286=>169 | 129=>200 | 317=>199 | 318=>201 | 319=>202 | 320=>203 | 337=>230 | 338=>231 | n=>n,fun | 2=>2 | 3=>3 | 9=>9 | 4=>4 | 171=>189 | 0=>0 | 53=>22 | 37=>23 | 5=>5 | 173=>192 | 212=>222 | 51=>74 | 20=>20 | 213=>223 | 46=>98 | 232=>267 | 233=>268 | n=>n,fun | 17=>2 | 18=>4 | 19=>5 | n=>n⟩
theorem Tryz.zo:Go.Proofs.LaysM.n173 Tryz.prog Tryz.xu:={
 mixed:=by kernel_rfl
 f129:=Tryz.func200.trans (congrArg some (by kernel_rfl))
 f173:=Tryz.func95.trans (congrArg some (by kernel_rfl))
 f246:=Tryz.func127.trans (congrArg some (by kernel_rfl))
 f283:=Tryz.func166.trans (congrArg some (by kernel_rfl))
 f284:=Tryz.func167.trans (congrArg some (by kernel_rfl))
 f285:=Tryz.func168.trans (congrArg some (by kernel_rfl))
 f286:=Tryz.func169.trans (congrArg some (by kernel_rfl))
 f317:=Tryz.func199.trans (congrArg some (by kernel_rfl))
 f318:=Tryz.func201.trans (congrArg some (by kernel_rfl))
 f319:=Tryz.func202.trans (congrArg some (by kernel_rfl))
 f320:=Tryz.func203.trans (congrArg some (by kernel_rfl))
 f337:=Tryz.func230.trans (congrArg some (by kernel_rfl))
 f338:=Tryz.func231.trans (congrArg some (by kernel_rfl))
 t0:=Tryz.underlying0
 a0:=Tryz.isAgg0
 z0:=Tryz.sizeOf0
 v0:=Tryz.zeroValue0
 t2:=Tryz.underlying2
 a2:=Tryz.isAgg2
 z2:=Tryz.sizeOf2
 v2:=Tryz.zeroValue2
 t3:=Tryz.underlying3
 a3:=Tryz.isAgg3
 z3:=Tryz.sizeOf3
 v3:=Tryz.zeroValue3
 t4:=Tryz.underlying4
 a4:=Tryz.isAgg4
 z4:=Tryz.sizeOf4
 v4:=Tryz.zeroValue4
 t5:=Tryz.underlying5
 a5:=Tryz.isAgg5
 z5:=Tryz.sizeOf5
 v5:=Tryz.zeroValue5
 t9:=Tryz.underlying9
 a9:=Tryz.isAgg9
 z9:=Tryz.sizeOf9
 v9:=Tryz.zeroValue9
 t20:=Tryz.underlying20
 a20:=Tryz.isAgg20
 z20:=Tryz.sizeOf20
 v20:=Tryz.zeroValue20
 t37:=Tryz.underlying23
 a37:=Tryz.isAgg23
 z37:=Tryz.sizeOf23
 v37:=Tryz.zeroValue23
 t46:=Tryz.underlying98
 a46:=Tryz.isAgg98
 z46:=Tryz.sizeOf98
 v46:=Tryz.zeroValue98
 t51:=Tryz.underlying74
 a51:=Tryz.isAgg74
 z51:=Tryz.sizeOf74
 v51:=Tryz.zeroValue74
 t53:=Tryz.underlying22
 a53:=Tryz.isAgg22
 z53:=Tryz.sizeOf22
 v53:=Tryz.zeroValue22
 t171:=Tryz.underlying189
 a171:=Tryz.isAgg189
 z171:=Tryz.sizeOf189
 v171:=Tryz.zeroValue189
 t173:=Tryz.underlying192
 a173:=Tryz.isAgg192
 z173:=Tryz.sizeOf192
 v173:=Tryz.zeroValue192
 t212:=Tryz.underlying222
 a212:=Tryz.isAgg222
 z212:=Tryz.sizeOf222
 v212:=Tryz.zeroValue222
 t213:=Tryz.underlying223
 a213:=Tryz.isAgg223
 z213:=Tryz.sizeOf223
 t232:=Tryz.underlying267
 a232:=Tryz.isAgg267
 z232:=Tryz.sizeOf267
 v232:=Tryz.zeroValue267
 t233:=Tryz.underlying268
 a233:=Tryz.isAgg268
 z233:=Tryz.sizeOf268
 v233:=Tryz.zeroValue268
 g17:=by kernel_rfl
 g18:=by kernel_rfl
 g19:=by kernel_rfl
 i0:=by kernel_rfl
 i2:=by kernel_rfl
 i3:=by kernel_rfl
 i4:=by kernel_rfl
 i5:=by kernel_rfl
 i9:=by kernel_rfl
 i20:=by kernel_rfl
 i37:=by kernel_rfl
 i46:=by kernel_rfl
 i51:=by kernel_rfl
 i53:=by kernel_rfl
 i171:=by kernel_rfl
 i173:=by kernel_rfl
 i212:=by kernel_rfl
 i232:=by kernel_rfl
 i233:=by kernel_rfl
 m17:=by kernel_rfl
 m18:=by kernel_rfl
 m19:=by kernel_rfl }
def Tryz.zq:Go.Shelf.Ren:=⟨fun | 283=>166 | n=>n,fun | 3=>3 | 9=>9 | 4=>4 | n=>n,fun | n=>n⟩
theorem Tryz.Jg:Go.Proofs.Lays.n283 Tryz.prog Tryz.zq:={
 mixed:=by kernel_rfl
 f283:=Tryz.func166.trans (congrArg some (by kernel_rfl))
 t3:=Tryz.underlying3
 a3:=Tryz.isAgg3
 z3:=Tryz.sizeOf3
 v3:=Tryz.zeroValue3
 t4:=Tryz.underlying4
 a4:=Tryz.isAgg4
 z4:=Tryz.sizeOf4
 v4:=Tryz.zeroValue4
 t9:=Tryz.underlying9
 a9:=Tryz.isAgg9
 z9:=Tryz.sizeOf9
 v9:=Tryz.zeroValue9 }
def Tryz.xt:Go.Shelf.Ren:=⟨fun | 284=>167 | 129=>200 | 317=>199 | 318=>201 | n=>n,fun | 53=>22 | 3=>3 | 212=>222 | 0=>0 | 4=>4 | 46=>98 | 5=>5 | 9=>9 | n=>n,fun | 17=>2 | n=>n⟩
theorem Tryz.Gc:Go.Proofs.LaysM.n284 Tryz.prog Tryz.xt:={
 mixed:=by kernel_rfl
 f129:=Tryz.func200.trans (congrArg some (by kernel_rfl))
 f284:=Tryz.func167.trans (congrArg some (by kernel_rfl))
 f317:=Tryz.func199.trans (congrArg some (by kernel_rfl))
 f318:=Tryz.func201.trans (congrArg some (by kernel_rfl))
 t0:=Tryz.underlying0
 a0:=Tryz.isAgg0
 z0:=Tryz.sizeOf0
 v0:=Tryz.zeroValue0
 t3:=Tryz.underlying3
 a3:=Tryz.isAgg3
 z3:=Tryz.sizeOf3
 v3:=Tryz.zeroValue3
 t4:=Tryz.underlying4
 a4:=Tryz.isAgg4
 z4:=Tryz.sizeOf4
 v4:=Tryz.zeroValue4
 t5:=Tryz.underlying5
 a5:=Tryz.isAgg5
 z5:=Tryz.sizeOf5
 v5:=Tryz.zeroValue5
 t9:=Tryz.underlying9
 a9:=Tryz.isAgg9
 z9:=Tryz.sizeOf9
 v9:=Tryz.zeroValue9
 t46:=Tryz.underlying98
 a46:=Tryz.isAgg98
 z46:=Tryz.sizeOf98
 v46:=Tryz.zeroValue98
 t53:=Tryz.underlying22
 a53:=Tryz.isAgg22
 z53:=Tryz.sizeOf22
 v53:=Tryz.zeroValue22
 t212:=Tryz.underlying222
 a212:=Tryz.isAgg222
 z212:=Tryz.sizeOf222
 v212:=Tryz.zeroValue222
 g17:=by kernel_rfl
 i0:=by kernel_rfl
 i3:=by kernel_rfl
 i4:=by kernel_rfl
 i5:=by kernel_rfl
 i9:=by kernel_rfl
 i46:=by kernel_rfl
 i53:=by kernel_rfl
 i212:=by kernel_rfl
 m17:=by kernel_rfl }
def Tryz.zp:Go.Shelf.Ren:=⟨fun | 285=>168 | n=>n,fun | 37=>23 | 53=>22 | 3=>3 | 4=>4 | 51=>74 | 9=>9 | 5=>5 | 0=>0 | n=>n,fun | n=>n⟩
theorem Tryz.Jf:Go.Proofs.Lays.n285 Tryz.prog Tryz.zp:={
 mixed:=by kernel_rfl
 f285:=Tryz.func168.trans (congrArg some (by kernel_rfl))
 t0:=Tryz.underlying0
 a0:=Tryz.isAgg0
 z0:=Tryz.sizeOf0
 v0:=Tryz.zeroValue0
 t3:=Tryz.underlying3
 a3:=Tryz.isAgg3
 z3:=Tryz.sizeOf3
 v3:=Tryz.zeroValue3
 t4:=Tryz.underlying4
 a4:=Tryz.isAgg4
 z4:=Tryz.sizeOf4
 v4:=Tryz.zeroValue4
 t5:=Tryz.underlying5
 a5:=Tryz.isAgg5
 z5:=Tryz.sizeOf5
 v5:=Tryz.zeroValue5
 t9:=Tryz.underlying9
 a9:=Tryz.isAgg9
 z9:=Tryz.sizeOf9
 v9:=Tryz.zeroValue9
 t37:=Tryz.underlying23
 a37:=Tryz.isAgg23
 z37:=Tryz.sizeOf23
 v37:=Tryz.zeroValue23
 t51:=Tryz.underlying74
 a51:=Tryz.isAgg74
 z51:=Tryz.sizeOf74
 v51:=Tryz.zeroValue74
 t53:=Tryz.underlying22
 a53:=Tryz.isAgg22
 z53:=Tryz.sizeOf22
 v53:=Tryz.zeroValue22 }
def Tryz.xw:Go.Shelf.Ren:=⟨fun | 174=>55 | 247=>93 | 245=>94 | 287=>122 | 279=>123 | 280=>124 | 281=>125 | 282=>126 | 321=>162 | 322=>163 | 316=>164 | 171=>103 | 205=>165 | 243=>132 | 246=>127 | 283=>166 | 284=>167 | 285=>168 | 286=>169 | 129=>200 | 317=>199 | 318=>201 | 319=>202 | 320=>203 | 337=>230 | 338=>231 | n=>n,fun | 9=>9 | 3=>3 | 2=>2 | 75=>93 | 85=>94 | 4=>4 | 167=>138 | 5=>5 | 53=>22 | 175=>139 | 46=>98 | 168=>141 | 37=>23 | 0=>0 | 210=>187 | 21=>21 | 127=>217 | 145=>220 | 143=>218 | 171=>189 | 173=>192 | 212=>222 | 51=>74 | 20=>20 | 213=>223 | 232=>267 | 233=>268 | 80=>183 | n=>n,fun | 15=>0 | 16=>1 | 17=>2 | 18=>4 | 19=>5 | n=>n⟩
theorem Tryz.uE:Go.Proofs.LaysC.n174 Tryz.prog Tryz.xw:={
 mixed:=by kernel_rfl
 f129:=Tryz.func200.trans (congrArg some (by kernel_rfl))
 f171:=Tryz.func103.trans (congrArg some (by kernel_rfl))
 f174:=Tryz.func55.trans (congrArg some (by kernel_rfl))
 f205:=Tryz.func165.trans (congrArg some (by kernel_rfl))
 f243:=Tryz.func132.trans (congrArg some (by kernel_rfl))
 f245:=Tryz.func94.trans (congrArg some (by kernel_rfl))
 f246:=Tryz.func127.trans (congrArg some (by kernel_rfl))
 f247:=Tryz.func93.trans (congrArg some (by kernel_rfl))
 f279:=Tryz.func123.trans (congrArg some (by kernel_rfl))
 f280:=Tryz.func124.trans (congrArg some (by kernel_rfl))
 f281:=Tryz.func125.trans (congrArg some (by kernel_rfl))
 f282:=Tryz.func126.trans (congrArg some (by kernel_rfl))
 f283:=Tryz.func166.trans (congrArg some (by kernel_rfl))
 f284:=Tryz.func167.trans (congrArg some (by kernel_rfl))
 f285:=Tryz.func168.trans (congrArg some (by kernel_rfl))
 f286:=Tryz.func169.trans (congrArg some (by kernel_rfl))
 f287:=Tryz.func122.trans (congrArg some (by kernel_rfl))
 f316:=Tryz.func164.trans (congrArg some (by kernel_rfl))
 f317:=Tryz.func199.trans (congrArg some (by kernel_rfl))
 f318:=Tryz.func201.trans (congrArg some (by kernel_rfl))
 f319:=Tryz.func202.trans (congrArg some (by kernel_rfl))
 f320:=Tryz.func203.trans (congrArg some (by kernel_rfl))
 f321:=Tryz.func162.trans (congrArg some (by kernel_rfl))
 f322:=Tryz.func163.trans (congrArg some (by kernel_rfl))
 f337:=Tryz.func230.trans (congrArg some (by kernel_rfl))
 f338:=Tryz.func231.trans (congrArg some (by kernel_rfl))
 t0:=Tryz.underlying0
 a0:=Tryz.isAgg0
 z0:=Tryz.sizeOf0
 v0:=Tryz.zeroValue0
 t2:=Tryz.underlying2
 a2:=Tryz.isAgg2
 z2:=Tryz.sizeOf2
 v2:=Tryz.zeroValue2
 t3:=Tryz.underlying3
 a3:=Tryz.isAgg3
 z3:=Tryz.sizeOf3
 v3:=Tryz.zeroValue3
 t4:=Tryz.underlying4
 a4:=Tryz.isAgg4
 z4:=Tryz.sizeOf4
 v4:=Tryz.zeroValue4
 t5:=Tryz.underlying5
 a5:=Tryz.isAgg5
 z5:=Tryz.sizeOf5
 v5:=Tryz.zeroValue5
 t9:=Tryz.underlying9
 a9:=Tryz.isAgg9
 z9:=Tryz.sizeOf9
 v9:=Tryz.zeroValue9
 t20:=Tryz.underlying20
 a20:=Tryz.isAgg20
 z20:=Tryz.sizeOf20
 v20:=Tryz.zeroValue20
 t21:=Tryz.underlying21
 a21:=Tryz.isAgg21
 z21:=Tryz.sizeOf21
 v21:=Tryz.zeroValue21
 t37:=Tryz.underlying23
 a37:=Tryz.isAgg23
 z37:=Tryz.sizeOf23
 v37:=Tryz.zeroValue23
 t46:=Tryz.underlying98
 a46:=Tryz.isAgg98
 z46:=Tryz.sizeOf98
 v46:=Tryz.zeroValue98
 t51:=Tryz.underlying74
 a51:=Tryz.isAgg74
 z51:=Tryz.sizeOf74
 v51:=Tryz.zeroValue74
 t53:=Tryz.underlying22
 a53:=Tryz.isAgg22
 z53:=Tryz.sizeOf22
 v53:=Tryz.zeroValue22
 t75:=Tryz.underlying93
 a75:=Tryz.isAgg93
 z75:=Tryz.sizeOf93
 v75:=Tryz.zeroValue93
 t85:=Tryz.underlying94
 a85:=Tryz.isAgg94
 z85:=Tryz.sizeOf94
 v85:=Tryz.zeroValue94
 t127:=Tryz.underlying217
 a127:=Tryz.isAgg217
 z127:=Tryz.sizeOf217
 v127:=Tryz.zeroValue217
 t143:=Tryz.underlying218
 a143:=Tryz.isAgg218
 z143:=Tryz.sizeOf218
 v143:=Tryz.zeroValue218
 t145:=Tryz.underlying220
 a145:=Tryz.isAgg220
 z145:=Tryz.sizeOf220
 v145:=Tryz.zeroValue220
 t167:=Tryz.underlying138
 a167:=Tryz.isAgg138
 z167:=Tryz.sizeOf138
 v167:=Tryz.zeroValue138
 t168:=Tryz.underlying141
 a168:=Tryz.isAgg141
 z168:=Tryz.sizeOf141
 v168:=Tryz.zeroValue141
 t171:=Tryz.underlying189
 a171:=Tryz.isAgg189
 z171:=Tryz.sizeOf189
 v171:=Tryz.zeroValue189
 t173:=Tryz.underlying192
 a173:=Tryz.isAgg192
 z173:=Tryz.sizeOf192
 v173:=Tryz.zeroValue192
 t175:=Tryz.underlying139
 a175:=Tryz.isAgg139
 z175:=Tryz.sizeOf139
 v175:=Tryz.zeroValue139
 t210:=Tryz.underlying187
 a210:=Tryz.isAgg187
 z210:=Tryz.sizeOf187
 v210:=Tryz.zeroValue187
 t212:=Tryz.underlying222
 a212:=Tryz.isAgg222
 z212:=Tryz.sizeOf222
 v212:=Tryz.zeroValue222
 t213:=Tryz.underlying223
 a213:=Tryz.isAgg223
 z213:=Tryz.sizeOf223
 t232:=Tryz.underlying267
 a232:=Tryz.isAgg267
 z232:=Tryz.sizeOf267
 v232:=Tryz.zeroValue267
 t233:=Tryz.underlying268
 a233:=Tryz.isAgg268
 z233:=Tryz.sizeOf268
 v233:=Tryz.zeroValue268
 g15:=by kernel_rfl
 g16:=by kernel_rfl
 g17:=by kernel_rfl
 g18:=by kernel_rfl
 g19:=by kernel_rfl
 t80:=Tryz.underlying183
 a80:=Tryz.isAgg183
 z80:=Tryz.sizeOf183
 v80:=Tryz.zeroValue183
 i0:=by kernel_rfl
 i2:=by kernel_rfl
 i3:=by kernel_rfl
 i4:=by kernel_rfl
 i5:=by kernel_rfl
 i9:=by kernel_rfl
 i20:=by kernel_rfl
 i21:=by kernel_rfl
 i37:=by kernel_rfl
 i46:=by kernel_rfl
 i51:=by kernel_rfl
 i53:=by kernel_rfl
 i75:=by kernel_rfl
 i80:=by kernel_rfl
 i85:=by kernel_rfl
 i127:=by kernel_rfl
 i143:=by kernel_rfl
 i145:=by kernel_rfl
 i167:=by kernel_rfl
 i168:=by kernel_rfl
 i171:=by kernel_rfl
 i173:=by kernel_rfl
 i175:=by kernel_rfl
 i210:=by kernel_rfl
 i212:=by kernel_rfl
 i232:=by kernel_rfl
 i233:=by kernel_rfl
 m15:=by kernel_rfl
 m16:=by kernel_rfl
 m17:=by kernel_rfl
 m18:=by kernel_rfl
 m19:=by kernel_rfl
 c0:=by kernel_rfl
 c2:=by kernel_rfl
 c3:=by kernel_rfl
 c4:=by kernel_rfl
 c5:=by kernel_rfl
 c9:=by kernel_rfl
 c20:=by kernel_rfl
 c21:=by kernel_rfl
 c37:=by kernel_rfl
 c46:=by kernel_rfl
 c51:=by kernel_rfl
 c53:=by kernel_rfl
 c75:=by kernel_rfl
 c80:=by kernel_rfl
 c85:=by kernel_rfl
 c127:=by kernel_rfl
 c143:=by kernel_rfl
 c145:=by kernel_rfl
 c167:=by kernel_rfl
 c168:=by kernel_rfl
 c171:=by kernel_rfl
 c173:=by kernel_rfl
 c175:=by kernel_rfl
 c210:=by kernel_rfl
 c212:=by kernel_rfl
 c213:=by kernel_rfl
 c232:=by kernel_rfl
 c233:=by kernel_rfl }
end Go.Proofs
namespace Go.Proofs
open Go.Shelf Go.RowKit Go.Sort Go.Lib
set_option maxHeartbeats 6400000
set_option maxRecDepth 100000
theorem zM (w:World) (T:TypeId) (nd:Nat) (hs:nd≤24):Holds (fun (b:UInt8)=>Value.int .u8 (b.toNat:Int)) (w.alloc (.cells Lib.zeros24 T)) w.heap.size 0 (Array.replicate nd (0:UInt8)):=fun j hj=>by
 have sv:j<nd:=by simpa using hj
 refine ⟨?_,World.frozen?_alloc_new _ _ _ _⟩
 rw [World.cell?_alloc_new,Lib.zeros24_at _ (by omega),getElem!_pos _ j hj]
 simp
theorem G6 (w:World) (o:Obj) (dk:Array UInt8) (k:Nat):∃os,(putRow (fun (b:UInt8)=>Value.int .u8 (b.toNat:Int)) (w.alloc o) w.heap.size 0 dk).drewN k=grow (w.drewN k) os:=by
 rw [alloc_eq_grow]
 obtain ⟨U6,_,e⟩:=putRow_grow_new (fun (b:UInt8)=>Value.int .u8 (b.toNat:Int)) w #[o] w.heap.size 0 dk (Nat.le_refl _)
 exact ⟨U6,by rw [e];rfl⟩
theorem Tryz.Jz (u:Nat) (L0:u<18446744073709551616) (w:World) (Rt:Lib.TabIs Tryz.prog w "internal/strconv.uint64pow10" .u64 Lib.pow10Tab) :
  Calls Tryz.prog 270 #[.int .u64 u,.int .i64 10] w fun e w'=>e = .returned (.string ⟨(Lib.decDigits u).toArray⟩)∧∃k os,w'=grow (w.drewN k) os:=by
 by_cases hs:u<100
 ·go_enter Tryz.func270,Tryz.ntmps270
  go_wp2_with (go_at_call 166;refine (Any.internal_strconv_small Tryz.Jg u hs _).mono ?_;rintro e w' ⟨rfl,rfl⟩)
  go_ret
  exact ⟨rfl,0,#[],by simp [World.drewN_zero]⟩
 ·have Ku:1≤u:=by omega
  have S7:Lib.nDigits u≤20:=by have:=Lib.numDigits_eq u Ku L0;split at this <;> omega
  have NJ:Lib.nDigits u≤24:=by omega
  have O9:Tryz.prog.arrayLen 189=24:=by kernel_rfl
  have Vr:∀W,(Instr.sliceAt 189 (.pointer (some ⟨w.heap.size,0,none⟩)) none (some (.int .i64 (Lib.nDigits u:Int))) none).run Tryz.prog W = .ok (.slice (some ⟨w.heap.size,0,none⟩) (Lib.nDigits u) 24) W:=fun W=>by
   rw [run_sliceAt_array_h W 189 ⟨w.heap.size,0,none⟩ (by kernel_rfl) .i64 (Lib.nDigits u:Int) (by omega) (by rw [O9];omega)]
   go_simp
  have Sg:=zM w 189 (Lib.nDigits u) (by omega)
  have OW:=Any.internal_strconv_formatBase10 Tryz.Jf w.heap.size 0 24 u (Array.replicate (Lib.nDigits u) 0) (w.alloc (.cells Lib.zeros24 189)) Sg (by rw [Array.size_replicate];exact Lib.lt_pow_nDigits u) L0 (by rw [Array.size_replicate];omega)
  rw [Array.size_replicate] at OW
  have Yb:=Lib.hid Sg
  clear Sg O9
  go_enter Tryz.func270,Tryz.ntmps270
  go_wp2_with (first
   | (go_at_call 167;refine (Any.internal_strconv_numDigits Tryz.Gc u Ku L0 _ (Lib.tabIs_alloc Rt _)).mono ?_;rintro e w' ⟨rfl,rfl⟩))
  go_at_call 168
  refine OW.mono ?_
  rintro e w' ⟨rfl,k,v',dk,rfl,hF⟩
  have Yx:(convert 23 9 (.slice (some ⟨w.heap.size,0,none⟩) (Lib.nDigits u) 24)).run Tryz.prog ((putRow (fun (b:UInt8)=>Value.int .u8 (b.toNat:Int)) (w.alloc (.cells Lib.zeros24 189)) w.heap.size 0 dk).drewN k) = .ok (.string ⟨(Lib.decDigits u).toArray⟩) ((putRow (fun (b:UInt8)=>Value.int .u8 (b.toNat:Int)) (w.alloc (.cells Lib.zeros24 189)) w.heap.size 0 dk).drewN k):=by
   have h:=run_convert_bytes_back (P:=Tryz.prog) ((putRow (fun (b:UInt8)=>Value.int .u8 (b.toNat:Int)) (w.alloc (.cells Lib.zeros24 189)) w.heap.size 0 dk).drewN k) 23 9 5 ⟨w.heap.size,0,none⟩ 24 (Lib.decDigits u) (by kernel_rfl) (by kernel_rfl) (by kernel_rfl) (fun j hj=>by
    rw [Lib.row_is_numeral hF j hj,Lib.add_plain,World.cell?_drewN]
    exact cell?_putRow (fun (b:UInt8)=>Value.int .u8 (b.toNat:Int)) _ w.heap.size 0 _ dk Yb.out (by rw [hF.size,Array.size_replicate]) j (by rw [hF.size];rw [Lib.decDigits_length] at hj;exact hj))
   rw [Lib.decDigits_length] at h
   exact h
  go_wp2
  go_ret
  obtain ⟨os,eo⟩:=G6 w (.cells Lib.zeros24 189) dk k
  exact ⟨rfl,k,os,eo⟩
end Go.Proofs
namespace Go.Eng
theorem Hq (n:Nat):Nr.dec n=iT n:=by
 induction n using Nat.strongRecOn with
 | _ n ih =>
  rw [Nr.dec,iT]
  by_cases h:n<10
  ·rw [au h,dif_pos h]
  ·rw [ao h,dif_neg h,ih (n / 10) (by omega)]
theorem Bq (n:Nat):Lib.decDigits n=Nr.dec n:=by rw [Ah,Hq]
theorem sU (v:Int):Lib.itoa v=Nr.itoa v:=by
 rw [Nr.lC]
 unfold Lib.itoa
 by_cases h:v<0
 ·rw [au h,au h,Bq]
 ·rw [ao h,ao h,Bq,show v.toNat=v.natAbs by omega]
end Go.Eng
set_option maxRecDepth 20000
namespace Go.Eng
open Go.RowKit Go.Proofs Go.Sort
variable {ee:Errs}
theorem r9 {c:bz} (h:c.all (fun b=>decide (b.toNat<128))=true):∀(j:Nat) b,(⟨⟨c⟩⟩:ByteArray).data.toList[j]?=some b→b.toNat<128:=fun j b hb=>aq (aD.1 h b (aK (by simpa using hb)))
theorem tO {s c:bz} (h:(decide (s.length≤1099511627776∧c.length≤100)&&c.all (fun b=>decide (b.toNat<128)))=true):(⟨⟨s⟩⟩:ByteArray).size≤9223372036854775807∧(⟨⟨c⟩⟩:ByteArray).size<4294967281∧c.all (fun b=>decide (b.toNat<128))=true:=by
 simp only [af,aA] at h
 refine ⟨?_,?_,by simpa using h.2⟩
 ·show (⟨s⟩:Array UInt8).size≤_
  rw [List.size_toArray];omega
 ·show (⟨c⟩:Array UInt8).size<_
  rw [List.size_toArray];omega
theorem sS {w:World} {R:Reach} (hG:GlOK (cnGl ee) R w):Lib.TabIs Tryz.prog w "internal/strconv.uint64pow10" .u64 Lib.pow10Tab:=by
 have e:(cnGl ee) 2=some (vm .u64 (Lib.pow10Tab.headD 0 :: Lib.pow10Tab.tail)):=rfl
 exact Ld hG e (by kernel_rfl)
theorem qi:∀c:Nat,Lib.repeatL [48] c=Sh.eK c
 | 0=>rfl
 | c+1=>by
  rw [Lib.repeatL,qi c]
  unfold Sh.eK
  rw [ak,ak,List.replicate_succ];rfl
theorem mu.ok:bC PG (cnGl ee) 224 (mu.c,mu.sg):=iL (by kernel_rfl) fun ti kV w R xs hc ha hR hG=>by
 unfold mu.c at hc
 split at hc
 ·rename_i s c
  obtain ⟨hp,rfl⟩:=hc
  obtain rfl:=jt ha rfl
  obtain ⟨p1,p2,p3⟩:=tO hp
  refine (Any.strings_Trim_laid Tryz.Jj (by kernel_rfl) _ _ w p1 p2 (r9 p3)).mono ?_
  rintro e w' ⟨rfl,hb⟩
  exact ⟨_,rfl,hb,fun R w'=>ox qj⟩
 ·exact hc.elim
theorem gS.ok:bC PG (cnGl ee) 225 (gS.c,gS.sg):=iL (by kernel_rfl) fun ti kV w R xs hc ha hR hG=>by
 unfold gS.c at hc
 split at hc
 ·rename_i s c
  obtain ⟨hp,rfl⟩:=hc
  obtain rfl:=jt ha rfl
  obtain ⟨p1,p2,p3⟩:=tO hp
  refine (Any.strings_TrimLeft_laid Tryz.Ji (by kernel_rfl) _ _ w p2 (r9 p3)).mono ?_
  rintro e w' ⟨rfl,hb⟩
  exact ⟨_,rfl,hb,fun R w'=>ox qj⟩
 ·exact hc.elim
theorem gi.ok:bC PG (cnGl ee) 193 (gi.c,gi.sg):=iL (by kernel_rfl) fun ti kV w R xs hc ha hR hG=>by
 unfold gi.c at hc
 split at hc
 ·rename_i s c
  obtain ⟨hp,rfl⟩:=hc
  obtain rfl:=jt ha rfl
  obtain ⟨p1,p2,p3⟩:=tO hp
  refine (Any.strings_TrimRight_laid Tryz.Jh (by kernel_rfl) _ _ w p1 p2 (r9 p3)).mono ?_
  rintro e w' ⟨rfl,hb⟩
  exact ⟨_,rfl,hb,fun R w'=>ox qj⟩
 ·exact hc.elim
theorem mH.ok:bC PG (cnGl ee) 231 (mH.c,mH.sg):=iL (by kernel_rfl) fun ti kV w R xs hc ha hR hG=>by
 unfold mH.c at hc
 split at hc
 ·rename_i x
  cases hc
  obtain rfl:=jt ha rfl
  refine (Any7.bits_TrailingZeros64 Tryz.LI x.toNat x.toNat_lt w fun _ j hj=>?_).mono ?_
  ·have:=(hG 5 (vm .u8 (Lib.deBruijn64tab.map Int.ofNat)) rfl j).2
   rw [vm,List.map_map,br,ar hj] at this
   rw [ai,ar hj]
   exact this
  ·rintro e w' ⟨rfl,rfl⟩
   exact ⟨_,rfl,Below.refl _ _,fun R w'=>ox Kd⟩
 ·exact hc.elim
theorem iC.ok:bC PG (cnGl ee) 103 (iC.c,iC.sg):=iL (by kernel_rfl) fun ti kV w R xs hc ha hR hG=>by
 unfold iC.c at hc
 split at hc
 ·rename_i n
  obtain ⟨hp,rfl⟩:=hc
  obtain rfl:=jt ha rfl
  have hp:=aq (Nr.BB hp)
  refine (Any.strconv_Itoa Tryz.Gd n hp.1 hp.2 w (sS hG)).mono ?_
  rintro e w' ⟨rfl,q,os,rfl⟩
  exact ⟨_,rfl,nR _ _ _,fun R w'=>by rw [sU];exact ox qj⟩
 ·exact hc.elim
theorem iD.ok:bC PG (cnGl ee) 95 (iD.c,iD.sg):=iL (by kernel_rfl) fun ti kV w R xs hc ha hR hG=>by
 unfold iD.c at hc
 split at hc
 ·rename_i n b
  obtain ⟨hp,rfl⟩:=hc
  obtain rfl:=jt ha rfl
  rw [af] at hp
  obtain ⟨hp,hb⟩:=hp
  have hp:=aq (Nr.BB hp)
  obtain rfl:=aq hb
  refine (Any.strconv_FormatInt_10 Tryz.zo n hp.1 hp.2 w (sS hG)).mono ?_
  rintro e w' ⟨rfl,q,os,rfl⟩
  exact ⟨_,rfl,nR _ _ _,fun R w'=>by rw [sU];exact ox qj⟩
 ·exact hc.elim
theorem mw.ok:bC PG (cnGl ee) 270 (mw.c,mw.sg):=iL (by kernel_rfl) fun ti kV w R xs hc ha hR hG=>by
 unfold mw.c at hc
 split at hc
 ·rename_i v b
  obtain ⟨hp,rfl⟩:=hc
  obtain rfl:=jt ha rfl
  obtain rfl:=aq hp
  refine (Tryz.Jz v.toNat v.toNat_lt w (sS hG)).mono ?_
  rintro e w' ⟨rfl,q,os,rfl⟩
  exact ⟨_,rfl,nR _ _ _,fun R w'=>by rw [Bq];exact ox qj⟩
 ·exact hc.elim
theorem fS.ok:bC PG (cnGl ee) 121 (fS.c,fS.sg):=iL (by kernel_rfl) fun ti kV w R xs hc ha hR hG=>by
 unfold fS.c at hc
 split at hc
 ·rename_i s n
  obtain ⟨hp,rfl⟩:=hc
  obtain rfl:=jt ha rfl
  obtain ⟨rfl,h1,h2⟩:=aq hp
  obtain ⟨c,rfl⟩:=Int.eq_ofNat_of_zero_le h1
  refine (Any.strings_Repeat Tryz.Jk Tryz.It ⟨#[48]⟩ c w (by omega) (by show 1 * c≤_;omega)).mono ?_
  rintro e w' ⟨rfl,hb⟩
  refine ⟨_,rfl,hb,fun R w'=>?_⟩
  have e:Lib.repeatL (⟨#[48]⟩:ByteArray).data.toList c=Sh.eK c:=qi c
  rw [e]
  exact ox qj
 ·exact hc.elim
theorem uf {R:Reach} {w:World} {b:Nat}:∀{l:List bz} {off:Nat},kf R w 1 (l.map (fx.tv .ss)) b off→∀j x,l[j]?=some x→R b (off+j)∧w.cell? ⟨b,off+j,none⟩=some (.string ⟨⟨x⟩⟩)
 | [],_,_,j,x,h=>by simp at h
 | s :: r,off,h,j,x,hx=>by
  rw [aX] at h
  cases h with
  | cons h1 h2 =>
   cases h1 with
   | one a b c d e =>
    obtain rfl:=e.dJ rfl
    cases j with
    | zero=>simp at hx;subst hx;exact ⟨b,c⟩
    | succ j =>
     have:=uf h2 j x (by simpa using hx)
     rw [show off+1+j=off+(j+1) by omega] at this
     exact this
theorem D6 (xs:List ByteArray):Lib.join (xs.map (·.data.toList)) []=(xs.map (·.data.toList)).flatten:=by
 unfold Lib.join
 induction xs with
 | nil=>rfl
 | cons x r ih =>
  cases r with
  | nil=>simp [List.intercalate]
  | cons y r=>simp [List.intercalate,List.intersperse] at ih ⊢;exact ih
theorem mv.ok:bC PG (cnGl ee) 219 (mv.c,mv.sg):=iL (by kernel_rfl) fun ti kV w R xs hc ha hR hG=>by
 unfold mv.c at hc
 split at hc
 ·rename_i l s
  obtain ⟨hp,rfl⟩:=hc
  obtain ⟨rfl,h1,h2⟩:=aq hp
  cases ha with
  | cons hs ht =>
   cases ht with
   | cons hq ht =>
    obtain rfl:=hq.dJ rfl
    cases ht
    have none_:∀(a:Option Addr) (c:Nat),l=[]→Calls Tryz.prog 219 ⟨[.slice a 0 c,.string ⟨⟨[]⟩⟩]⟩ w fun e w'=>∃x,e = .returned x∧Below w.heap.size w w'∧∀R w',iv R w' [.s l.flatten] [x]:=fun a c h0=>by
     refine (Any.strings_Join_none Tryz.CF Tryz.J4 a c ⟨#[]⟩ w).mono ?_
     rintro e w' ⟨rfl,rfl⟩
     refine ⟨_,rfl,Below.refl _ _,fun R w'=>?_⟩
     rw [h0];exact ox qj
    cases hs with
    | sc h=>cases h
    | sn=>exact none_ _ _ rfl
    | em _ hc=>exact none_ _ _ rfl
    | @sl _ _ b off n cap e1 e2 e3 hE =>
     subst e1
     by_cases h0:l=[]
     ·rw [h0];rw [h0] at none_;exact none_ _ _ rfl
     ·have jI:=uf hE
      have hb:b<w.heap.size:=by
       obtain ⟨x,hx⟩:∃x,l[0]?=some x:=⟨l[0]'(List.length_pos_iff.2 h0),ar _⟩
       exact hR _ _ (jI 0 x hx).1
      have ed:(l.map fun s=>(⟨⟨s⟩⟩:ByteArray)).map (·.data.toList)=l:=by rw [List.map_map];exact List.map_id l
      have hj:=D6 (l.map fun s=>(⟨⟨s⟩⟩:ByteArray))
      rw [ed] at hj
      have:=Any.strings_Join Tryz.CF Tryz.J4 b off cap (l.map fun s=>(⟨⟨s⟩⟩:ByteArray)) ⟨#[]⟩ w (fun j x hx=>by
       rw [br] at hx
       cases hl:l[j]? with
       | none=>rw [hl] at hx;cases hx
       | some y=>rw [hl] at hx;cases hx;exact (jI j y hl).2) hb (by rw [bc];omega) (by rw [bc];exact e2) (by rw [ed];show (Lib.join l []).length≤_;rw [hj];omega)
      rw [bc] at this
      refine this.mono ?_
      rintro e w' ⟨rfl,Eg⟩
      refine ⟨_,rfl,Eg,fun R w'=>?_⟩
      rw [ed]
      have e9:Lib.join l (⟨#[]⟩:ByteArray).data.toList=l.flatten:=hj
      rw [e9]
      exact ox qj
 ·exact hc.elim
end Go.Eng
set_option maxRecDepth 20000
namespace Go.Eng
namespace Nt
theorem dI (n:Nat):(UInt16.ofNat n).toNat=n % 65536:=by simp
theorem wY (d:UInt16):d.toNat<65536:=d.toNat_lt
theorem iU:of 0=[]:=by rw [of];rfl
theorem lR {n:Nat} (h:0<n):of n=UInt16.ofNat n :: of (n / 65536):=by rw [of,ao (by omega)]
theorem eY (n:Nat):val (of n)=n:=by
 induction n using Nat.strongRecOn with
 | _ n ih =>
  by_cases h:n=0
  ·subst h;rw [iU];rfl
  ·rw [lR (by omega),val,ih _ (Nat.div_lt_self (by omega) (by omega)),dI]
   omega
theorem kL:∀(k n:Nat),(fix k n).length=k
 | 0,_=>rfl
 | k+1,n=>by rw [fix,az,kL]
theorem oU:∀(k n:Nat),val (fix k n)=n % 65536 ^ k
 | 0,n=>by rw [fix,val,Nat.pow_zero,Nat.mod_one]
 | k+1,n=>by
  rw [fix,val,oU,dI,Nat.pow_succ,Nat.mul_comm (65536 ^ k),Nat.mod_mul]
theorem gh:∀(a b:List UInt16),val (a++b)=val a+65536 ^ a.length * val b
 | [],b=>by simp [val]
 | d :: r,b=>by rw [List.cons_append,val,val,gh r b,az,Nat.pow_succ,Nat.mul_add,←Nat.mul_assoc,Nat.mul_comm 65536 (65536 ^ r.length),Nat.add_assoc]
theorem iJ:∀a:List UInt16,val a<65536 ^ a.length
 | []=>by simp [val]
 | d :: r=>by
  rw [val,az,Nat.pow_succ]
  have h1:=iJ r
  have h2:=wY d
  omega
theorem val_inj:∀{a b:List UInt16},a.length=b.length→val a=val b→a=b
 | [],[],_,_=>rfl
 | [],_ :: _,h,_=>by simp at h
 | _ :: _,[],h,_=>by simp at h
 | d :: r,e :: s,h,hv=>by
  rw [val,val] at hv
  have h1:=wY d
  have h2:=wY e
  have h3:d=e:=UInt16.toNat_inj.1 (by omega)
  rw [h3,val_inj (by simpa using h) (show val r=val s by omega)]
theorem mV (a:List UInt16) (d:UInt16):norm (a++[d])=decide (d≠0):=by
 unfold norm;simp
theorem o7 {d:UInt16} {r:List UInt16} (h:r≠[]):norm (d :: r)=norm r:=by
 unfold norm
 cases r with
 | nil=>exact (h rfl).elim
 | cons e s=>rw [List.getLast?_cons_cons]
theorem qn {a:List UInt16} (h:norm a=true) (h0:a≠[]):0<val a:=by
 induction a with
 | nil=>exact (h0 rfl).elim
 | cons d r ih =>
  rw [val]
  by_cases hr:r=[]
  ·subst hr
   have hd:d≠0:=by simpa [norm] using h
   have:d.toNat≠0:=fun e=>hd (UInt16.toNat_inj.1 e)
   omega
  ·rw [o7 hr] at h
   have:=ih h hr
   omega
theorem dJ {a:List UInt16} (h:norm a=true):of (val a)=a:=by
 induction a with
 | nil=>exact iU
 | cons d r ih =>
  have hp:=qn h (by simp)
  rw [lR hp]
  have h1:=wY d
  have e1:val (d :: r) / 65536=val r:=by rw [val];omega
  have e2:UInt16.ofNat (val (d :: r))=d:=UInt16.toNat_inj.1 (by rw [dI,val];omega)
  rw [e1,e2]
  by_cases hr:r=[]
  ·subst hr;rw [val,iU]
  ·rw [o7 hr] at h;rw [ih h]
theorem qo (n:Nat):norm (of n)=true:=by
 induction n using Nat.strongRecOn with
 | _ n ih =>
  by_cases h:n=0
  ·subst h;rw [iU];rfl
  ·rw [lR (by omega)]
   by_cases h2:n / 65536=0
   ·rw [h2,iU]
    have:UInt16.ofNat n≠0:=fun e=>by
     have:=congrArg UInt16.toNat e
     rw [dI] at this
     have e0:(0:UInt16).toNat=0:=rfl
     omega
    simp [norm,this]
   ·rw [o7,ih _ (Nat.div_lt_self (by omega) (by omega))]
    rw [lR (by omega)];simp
theorem kj (n k:Nat):(of n).length≤k ↔ n<65536 ^ k:=by
 constructor
 ·intro h
  have:=iJ (of n)
  rw [eY] at this
  exact Nat.lt_of_lt_of_le this (Nat.pow_le_pow_right (by omega) h)
 ·intro h
  induction k generalizing n with
  | zero=>simp at h;subst h;rw [iU];simp
  | succ k ih =>
   by_cases h0:n=0
   ·subst h0;rw [iU];simp
   ·rw [lR (by omega),az]
    have:=ih (n / 65536) (by rw [Nat.pow_succ] at h;omega)
    omega
theorem FL:(65536:Nat) ^ 256=2 ^ 4096:=by decide +kernel
theorem pD {n:Nat} (h:n<2 ^ 4096):is (of n)=true:=by
 unfold is
 rw [qo,Bool.and_true]
 exact aa ((kj n 256).2 (by rewrite [FL];exact h))
theorem is_lt {a:List UInt16} (h:is a=true):val a<2 ^ 4096:=by
 unfold is at h
 simp only [af,aA] at h
 have:=(kj (val a) 256).1 (by rw [dJ h.2];exact h.1)
 rewrite [FL] at this
 exact this
theorem jH {a:List UInt16} (h:is a=true):a.length≤256:=by
 unfold is at h
 simp only [af,aA] at h
 exact h.1
theorem jB {a:List UInt16} (h:is a=true):norm a=true:=by
 unfold is at h
 simp only [af,aA] at h
 exact h.2
theorem qT (a:List UInt16):val (a++[0])=val a:=by rw [gh];simp [val]
theorem rB {a b:List UInt16} (hb:norm b=true) (h:a.length<b.length):val a<val b:=by
 have h1:=iJ a
 have pE:b≠[]:=by intro e;subst e;simp at h
 have h2:¬val b<65536 ^ a.length:=fun h2=>by
  have:=(kj (val b) a.length).2 h2
  rw [dJ hb] at this
  omega
 omega
end Nt
end Go.Eng
set_option maxRecDepth 20000
namespace Go.Eng
open Go.IntWalk
theorem xr {n:Nat} (h:n≤1099511627776):IntKind.i64.wrap ((n:Int) - 1)=(n:Int) - 1:=i64_in _ (by omega)
theorem rI {α:Type} (a:List α) (d e:α):(a++[d]).getD a.length e=d:=by simp [ai]
theorem dm.cO:∀(n:Nat) (a:List UInt16),a.length=n→n≤1099511627776→dm.l1 a=some [.sl .ws (Nt.of (Nt.val a))]:=by
 intro n
 induction n with
 | zero =>
  intro a ha hn
  have:a=[]:=bf ha
  subst this
  refine dm.bX _ ?_
  intro v1 h1 v2 h2 v3 h3
  have e3:v3=false:=by rw [h3];rfl
  rw [e3]
  rw [show Nt.val []=0 from rfl,Nt.iU]
  rfl
 | succ n ih =>
  intro a ha hn
  refine dm.bX _ ?_
  intro v1 h1 v2 h2 v3 h3
  rw [ha,xr (by omega)] at h1
  have e1:v1=(n:Int):=by omega
  subst e1
  rw [ak] at h2 ⊢
  rw [aa (show (0:Int)<(a.length:Int) by omega),ah] at h3
  simp only [aW,aZ,bU]
  rw [aa (show (0:Int)<(a.length:Int) by omega),aG,Bool.false_or,Bool.true_and,bx (bN (by omega) (by omega))]
  obtain ⟨b,d,rfl⟩:∃b d,a=b++[d]:=⟨a.dropLast,a.getLast (by intro e;subst e;simp at ha),(List.dropLast_concat_getLast _).symm⟩
  have hb:b.length=n:=by simpa using ha
  have e2:v2=d:=by rw [h2,←hb,rI]
  subst e2
  by_cases hd:v2=0
  ·subst hd
   rw [h3,aa rfl,ah,bx (j9 (by omega) (by omega) (by omega)),←hb,List.take_left',Nt.qT]
   ·exact ih b hb (by omega)
   ·rfl
  ·rw [h3,ab hd,ae,Nt.dJ (by rw [Nt.mV];exact aa hd)]
theorem dm.goal (a:List UInt16) (hp:decide (a.length≤1099511627776)=true):dm.F a=some [.sl .ws (Nt.of (Nt.val a))]:=by
 rw [dm.dW];exact dm.cO _ a rfl (aq hp)
theorem mX {a:List UInt16} (h:a≠[]):Nt.norm a=!decide (a.getD (a.length - 1) 0=0):=by
 obtain ⟨b,d,rfl⟩:∃b d,a=b++[d]:=⟨a.dropLast,a.getLast h,(List.dropLast_concat_getLast _).symm⟩
 rw [Nt.mV,aj,ay,Nat.add_sub_cancel,rI]
 simp
theorem fj.goal (a:List UInt16) (hp:decide (a.length≤1099511627776)=true):fj.F a=some [.b (Nt.is a)]:=by
 have h:=aq hp
 refine fj.bY _ ?_
 intro v1 h1 v2 h2 v3 h3 v4 h4 v5 h5
 simp only [aW,aZ,bU]
 rw [xr h] at h2
 by_cases c1:a.length≤256
 ·have d1:decide ((a.length:Int)≤256)=true:=aa (by omega)
  rw [d1] at h1 h5 ⊢
  by_cases c2:a=[]
  ·subst c2
   have e1:v1=false:=by rw [h1];rfl
   have e5:v5=true:=by rw [h5,h4];rfl
   rw [e1,e5];rfl
  ·have hl:0<a.length:=List.length_pos_iff.2 c2
   have d2:decide ((a.length:Int)=0)=false:=ab (by omega)
   rw [d2] at h1 h4 ⊢
   have e1:v1=true:=h1
   rw [e1,aG,Bool.false_or,Bool.true_and,bx (bN (by omega) (by omega))]
   have e2:v2.toNat=a.length - 1:=by omega
   have e5:v5=Nt.is a:=by
    rw [h5,ah,h4,ae,h3,e2,Nt.is,aa c1,Bool.true_and,mX c2]
   rw [e5];rfl
 ·have d1:decide ((a.length:Int)≤256)=false:=ab (by omega)
  rw [d1] at h1 h5 ⊢
  have e1:v1=false:=h1
  have e5:v5=Nt.is a:=by rw [h5,ae,Nt.is,ab c1,Bool.false_and]
  rw [e1,e5];rfl
theorem yN (x:UInt64):(dQ x 16).toNat=x.toNat / 65536:=by
 rw [dQ,UInt64.toNat_ofNat']
 have:=x.toNat_lt
 omega
theorem nu (x:Nat):UInt16.ofInt (x:Int)=UInt16.ofNat x:=by
 apply UInt16.toNat_inj.1
 have h:=qX (x:Int)
 rw [jz] at h
 rw [Nt.dI];omega
theorem fv.cO:∀(k:Nat) (v:UInt64) (acc:List UInt16),v.toNat<65536 ^ k→acc.length+k≤100→fv.l1 v acc=some [.sl .ws (acc++Nt.of v.toNat)]:=by
 intro k
 induction k with
 | zero =>
  intro v acc hv ha
  refine fv.bX _ _ ?_
  intro v1 h1 v2 h2
  have hn:v.toNat=0:=by simpa using hv
  have c:v=0:=bm.1 hn
  rw [c,ab (by decide),ae,show (0:UInt64).toNat=0 from rfl,Nt.iU,bj]
 | succ k ih =>
  intro v acc hv ha
  refine fv.bX _ _ ?_
  intro v1 h1 v2 h2
  by_cases c:v=0
  ·rw [c,ab (by decide),ae,show (0:UInt64).toNat=0 from rfl,Nt.iU,bj]
  ·have pT:0<v.toNat:=Nat.pos_of_ne_zero fun e=>c (bm.1 e)
   have gk:(0:UInt64)<v:=by rw [aT];exact pT
   have e2:v2.toNat=v.toNat / 65536:=by rw [h2];exact yN v
   have e1:v1=UInt16.ofNat v.toNat:=by rw [h1,nu]
   rw [Nat.pow_succ] at hv
   rw [aa gk,ah,bx (dP (by simp;omega) (by simp;omega)),ih v2 _ (by rw [e2];omega) (by simp;omega),e2,Nt.lR pT,e1]
   simp
theorem fv.goal (v:UInt64):fv.F v=some [.sl .ws (Nt.of v.toNat)]:=by
 rw [fv.dW,fv.cO 4 v [] (by have:=v.toNat_lt;simpa using this) (by simp),bq]
theorem Nt.jy {n:Nat} (h:0<n):2 ^ (Nt.bits n - 1)≤n∧n<2 ^ Nt.bits n∧0<Nt.bits n:=by
 unfold Nt.bits
 rw [ao (by omega)]
 exact ⟨by rw [Nat.add_sub_cancel];exact Nat.log2_self_le (by omega),Nat.lt_log2_self,by omega⟩
theorem Nt.kQ {n k:Nat} (h:n<2 ^ k):Nt.bits n≤k:=by
 by_cases h0:n=0
 ·subst h0;simp [Nt.bits]
 ·obtain ⟨h1,_,_⟩:=Nt.jy (n:=n) (by omega)
  have:2 ^ (Nt.bits n - 1)<2 ^ k:=by omega
  have:=(Nat.pow_lt_pow_iff_right (by omega:1<2)).1 this
  omega
theorem Nt.C9 {n k:Nat} (h1:2 ^ k≤n) (h2:n<2 ^ (k+1)):Nt.bits n=k+1:=by
 have h0:0<n:=Nat.lt_of_lt_of_le (Nat.two_pow_pos k) h1
 obtain ⟨_,h3,_⟩:=Nt.jy h0
 have h4:=Nt.kQ h2
 have:2 ^ k<2 ^ Nt.bits n:=by omega
 have:=(Nat.pow_lt_pow_iff_right (by omega:1<2)).1 this
 omega
theorem Nt.mh {n k:Nat} (h:2 ^ k≤n):Nt.bits n=Nt.bits (n / 2 ^ k)+k:=by
 have h0:0<n / 2 ^ k:=Nat.div_pos h (Nat.two_pow_pos k)
 obtain ⟨h1,h2,h3⟩:=Nt.jy h0
 have e:Nt.bits (n / 2 ^ k)+k=(Nt.bits (n / 2 ^ k) - 1+k)+1:=by omega
 rw [e]
 refine Nt.C9 ?_ ?_
 ·rw [Nat.pow_add]
  exact (Nat.le_div_iff_mul_le (Nat.two_pow_pos k)).1 h1
 ·rw [show Nt.bits (n / 2 ^ k) - 1+k+1=Nt.bits (n / 2 ^ k)+k by omega,Nat.pow_add]
  exact (Nat.div_lt_iff_lt_mul (Nat.two_pow_pos k)).1 h2
def len8:bz:=[0,1,2,2,3,3,3,3,4,4,4,4,4,4,4,4,5,5,5,5,5,5,5,5,5,5,5,5,5,5,5,5]++List.replicate 32 6++List.replicate 64 7++List.replicate 128 8
theorem CE:∀n,n<256→(len8.getD n 0).toNat=Nt.bits n:=by decide +kernel
end Go.Eng
set_option maxRecDepth 20000
namespace Go.Eng
open Go.IntWalk
theorem pZ {R:Type} {b p:Bool} {x y:Option R} (hp:p=true) (h:b=true→x=y):cond b (both x (ck p y)) (ck p y)=y:=by
 subst hp
 cases b with
 | false=>rfl
 | true=>rw [h rfl];exact EI _
theorem ff.goal (a:List UInt16) (hp:fi a.length 2=true):ff.F a=some [.sl .ws a]:=by
 rw [ff.dW]
 exact pZ (by simpa using hp) fun h=>by rw [List.isEmpty_iff.1 h];rfl
theorem fg.goal (l:List Int) (hp:fi l.length 8=true):fg.F l=some [.sl .is l,.sl .is l]:=by
 rw [fg.dW]
 exact pZ (by simpa using hp) fun h=>by rw [List.isEmpty_iff.1 h];rfl
theorem cY.goal (v:UInt64) (b:Int) (hp:decide (b=10)=true):cY.F v b=some [.s (Nr.dec v.toNat)]:=by
 rw [cY.dW,hp];rfl
theorem ends {α:Type}:∀m:List α,m=[]∨(∃x,m=[x])∨∃x r y,m=x :: (r++[y])
 | [] => .inl rfl
 | [x] => .inr (.inl ⟨x,rfl⟩)
 | x :: y :: r => .inr (.inr ⟨x,(y :: r).dropLast,(y :: r).getLast (by simp),by rw [List.dropLast_concat_getLast]⟩)
theorem cG.cO:∀(n:Nat) (a m b:List bz),m.length≤n→(a++m++b).length≤100000→cG.l1 (a.length:Int) ((a.length:Int)+m.length - 1) (a++m++b)=some [.sl .ss (a++m.reverse++b)]:=by
 intro n
 induction n with
 | zero =>
  intro a m b hm hb
  obtain rfl:=List.length_eq_zero_iff.1 (Nat.le_zero.1 hm)
  refine cG.bX _ _ _ ?_
  intro v1 h1 v2 h2 v3 h3 v4 h4 v5 h5 v6 h6
  rw [ab (by simp;omega),ae];rfl
 | succ n ih =>
  intro a m b hm hb
  refine cG.bX _ _ _ ?_
  intro v1 h1 v2 h2 v3 h3 v4 h4 v5 h5 v6 h6
  rcases ends m with rfl | ⟨x,rfl⟩ | ⟨x,r,y,rfl⟩
  ·rw [ab (by simp;omega),ae];rfl
  ·rw [ab (by simp),ae];rfl
  ·simp only [aj,az,aB] at hm hb
   have ei:((a.length:Int)).toNat=a.length:=by omega
   have ej:((a.length:Int)+((x :: (r++[y])).length:Int) - 1).toNat=a.length+1+r.length:=by simp;omega
   have hl:(a++(x :: (r++[y]))++b).length=a.length+(r.length+2)+b.length:=by simp;omega
   rw [ej] at h1 h4
   rw [ei] at h2 h3
   have e1:v1=y:=by
    rw [h1,show a++(x :: (r++[y]))++b=(a++x :: r)++y :: b by simp,ai,aR (by simp;omega)]
    simp [show a.length+1+r.length - (a.length+(r.length+1))=0 by omega]
   have e2:v2=x:=by
    rw [h2,aE,ai,aR (Nat.le_refl _)]
    simp
   have e3:v3=a++(y :: (r++[y]))++b:=by
    rw [h3,e1,aE,aE,List.set_append_right _ _ (Nat.le_refl _)]
    simp
   have e4:v4=(a++[y])++r++(x :: b):=by
    rw [h4,e3,e2,show a++(y :: (r++[y]))++b=(a++y :: r)++y :: b by simp,List.set_append_right _ _ (by simp;omega)]
    simp [show a.length+1+r.length - (a.length+(r.length+1))=0 by omega]
   have e5:v5=((a++[y]).length:Int):=by rw [h5,i64_in _ (by omega)];simp
   have e6:v6=((a++[y]).length:Int)+r.length - 1:=by rw [h6,i64_in _ (by simp;omega)];simp;omega
   have Yv:(v3.length:Int)=a.length+(r.length+2)+b.length:=by rw [e3];simp;omega
   have:=ih (a++[y]) r (x :: b) (by omega) (by simp;omega)
   have OJ:((x :: (r++[y])).length:Int)=r.length+2:=by simp;omega
   have RJ:v3.length=a.length+(r.length+2)+b.length:=by omega
   rw [aa (by omega),ah,ei,ej,hl,RJ,bx (bN (by omega) (by omega)),bx (aa (by omega)),bx (bN (by omega) (by omega)),bx (aa (by omega)),bx (bN (by omega) (by omega)),bx (aa (by omega)),bx (bN (by omega) (by omega)),bx (aa (by omega))]
   rw [e4,e5,e6,this]
   simp
theorem cG.goal (l:List bz) (hp:decide (l.length≤100000)=true):cG.F l=some [.sl .ss l.reverse]:=by
 refine cG.bY _ ?_
 intro v1 h1
 have hp:=aq hp
 have:=cG.cO l.length [] l [] (Nat.le_refl _) (by simpa using hp)
 rw [h1,i64_in _ (by omega)]
 simpa using this
end Go.Eng
set_option maxRecDepth 20000
namespace Go.Eng
open Go.IntWalk
namespace Nr
theorem Cd:run []=0:=rfl
theorem FF (c:UInt8) (r:bz):run (c :: r)=if eU c then run r+1 else 0:=by
 unfold run
 rw [List.takeWhile_cons]
 split <;> rfl
theorem Ba (s:bz):run s≤s.length:=(List.takeWhile_sublist _).length_le
theorem By (c:UInt8):eU c=cond (decide ((48:UInt8)≤c)) (decide (c≤(57:UInt8))) false:=by
 unfold eU
 rw [Bool.decide_and]
 cases decide ((48:UInt8)≤c) <;> rfl
end Nr
theorem jJ.goal (s:bz) (at_:Int) (c d:UInt8) (hp:(decide (s.length≤1099511627776)&&decide (0≤at_))=true):jJ.F s at_ c d=some [.b (decide (at_<s.length)&&(decide (s.getD at_.toNat 0=c) || decide (s.getD at_.toNat 0=d)))]:=by
 simp only [af,aA] at hp
 refine jJ.bY _ _ _ _ ?_
 intro v1 h1 v2 h2 v3 h3 v4 h4
 by_cases c0:at_<s.length
 ·have ht:decide (at_<(s.length:Int))=true:=aa c0
  have hi:bD at_ s.length=true:=bN hp.2 c0
  rw [ht] at h2 h4
  have e4:v4=(true&&(decide (s.getD at_.toNat 0=c) || decide (s.getD at_.toNat 0=d))):=by
   rw [h4,h3,ah,←h1];cases decide (v1=c) <;> rfl
  rw [ht,hi,h2,e4,←h1]
  cases decide (v1=c) <;> rfl
 ·have ht:decide (at_<(s.length:Int))=false:=ab c0
  rw [ht] at h2 h4
  have e2:v2=false:=h2
  have e4:v4=false:=h4
  rw [ht,e2,e4];rfl
theorem cW.cO (s:bz) (hs:s.length≤1099511627776):∀(m i:Nat),s.length≤i+m→i≤1099511627776→cW.l1 s i=some [.i .i64 (i+(Nr.run (s.drop i):Int))]:=by
 intro m
 induction m with
 | zero =>
  intro i hi _
  refine cW.bX _ _ ?_
  intro v1 h1 v2 h2 v3 h3 v4 h4
  have ht:decide ((i:Int)<(s.length:Int))=false:=ab (by omega)
  rw [ht] at h2
  have e2:v2=false:=h2
  have e3:v3=false:=by rw [h3,e2];rfl
  rw [ht,e2,e3,aC (by omega),Nr.Cd]
  simp [ck]
 | succ m ih =>
  intro i hi hb
  refine cW.bX _ _ ?_
  intro v1 h1 v2 h2 v3 h3 v4 h4
  by_cases c:i<s.length
  ·have ht:decide ((i:Int)<(s.length:Int))=true:=aa (by omega)
   have hx:bD (i:Int) s.length=true:=bN (by omega) (by omega)
   rw [ht,ah] at h2
   rw [ak] at h1
   have e3:v3=Nr.eU v1:=by rw [h3,h2,Nr.By]
   have e4:v4=((i+1:Nat):Int):=by rw [h4,i64_in _ (by omega)];omega
   have hc:∀b:Bool,(!b || (b&&true))=true:=by decide
   rw [ht,hx,drop_cons c 0,Nr.FF,←h1,e3]
   simp only [aW,bn,aZ,aG,Bool.false_or,hc,bU]
   cases hd:Nr.eU v1
   ·rw [ae,ao (by decide)];simp [ck]
   ·rw [ah,au rfl,e4,ih (i+1) (by omega) (by omega)]
    rw [show ((i+1:Nat):Int)+(Nr.run (s.drop (i+1)):Int)=(i:Int)+((Nr.run (s.drop (i+1))+1:Nat):Int) by omega]
  ·have ht:decide ((i:Int)<(s.length:Int))=false:=ab (by omega)
   rw [ht] at h2
   have e2:v2=false:=h2
   have e3:v3=false:=by rw [h3,e2];rfl
   rw [ht,e2,e3,aC (by omega),Nr.Cd]
   simp [ck]
theorem cW.goal (s:bz) (at_:Int) (hp:(decide (s.length≤1099511627776)&&decide (0≤at_∧at_≤1099511627776))=true):cW.F s at_=some [.i .i64 (at_+(Nr.run (s.drop at_.toNat):Int))]:=by
 simp only [af,aA] at hp
 obtain ⟨i,rfl⟩:=Int.eq_ofNat_of_zero_le hp.2.1
 rw [cW.dW]
 exact cW.cO s hp.1 s.length i (by omega) (by omega)
theorem Zh.cO (s:bz) (hs:s.length≤1099511627776):∀(m i:Nat),s.length=i+m→Zh.l1 s i=some [.i .i64 (i+(Nr.run (s.drop i):Int))]:=by
 intro m
 induction m with
 | zero =>
  intro i hi
  refine Zh.bX _ _ ?_
  intro v1 h1 v2 h2 v3 h3 v4 h4
  have ht:decide ((i:Int)<(s.length:Int))=false:=ab (by omega)
  rw [ht] at h2
  have e2:v2=false:=h2
  have e3:v3=false:=by rw [h3,e2];rfl
  rw [ht,e2,e3,aC (by omega),Nr.Cd]
  simp [ck]
 | succ m ih =>
  intro i hi
  refine Zh.bX _ _ ?_
  intro v1 h1 v2 h2 v3 h3 v4 h4
  have c:i<s.length:=by omega
  have ht:decide ((i:Int)<(s.length:Int))=true:=aa (by omega)
  have hx:bD (i:Int) s.length=true:=bN (by omega) (by omega)
  rw [ht,ah] at h2
  rw [ak] at h1
  have e3:v3=Nr.eU v1:=by rw [h3,h2,Nr.By]
  have e4:v4=((i+1:Nat):Int):=by rw [h4,i64_in _ (by omega)];omega
  have hc:∀b:Bool,(!b || (b&&true))=true:=by decide
  rw [ht,hx,drop_cons c 0,Nr.FF,←h1,e3]
  simp only [aW,bn,aZ,aG,Bool.false_or,hc,bU]
  cases hd:Nr.eU v1
  ·rw [ae,ao (by decide)];simp [ck]
  ·rw [ah,au rfl,e4,ih (i+1) (by omega)]
   rw [show ((i+1:Nat):Int)+(Nr.run (s.drop (i+1)):Int)=(i:Int)+((Nr.run (s.drop (i+1))+1:Nat):Int) by omega]
theorem Zh.goal (s:bz) (hp:decide (s.length≤1099511627776)=true):Zh.F s=some [.i .i64 (Nr.run s)]:=by
 rw [Zh.dW]
 have:=Zh.cO s (aq hp) s.length 0 (by omega)
 rw [bh] at this
 simpa using this
theorem bF.Gr (s:bz) (i:Nat) (k:Int) (hi:i≤s.length):bF.j4 s i k=some [.i .i64 (if s.drop i=[] then k else 0)]:=by
 rw [bF.wi]
 by_cases c:i=s.length
 ·rw [aa (by omega),au (by rw [aC (by omega)])];rfl
 ·rw [ab (by omega),ao (by intro e;have:=congrArg List.length e;simp at this;omega)];rfl
theorem nQ (t:bz) (n:Nat):t.drop n=[] ↔ t.length≤n:=by
 rw [←List.length_eq_zero_iff,aV];omega
theorem bF.wk (s:bz) (hs:s.length≤1099511627776) (i:Nat) (hi:i≤s.length):bF.j3 s i 2=some [.i .i64 (if Nr.run (s.drop i)=0∨Nr.run (s.drop i)<(s.drop i).length then 0 else 2)]:=by
 refine bF.qw _ _ _ ?_
 intro v1 h1
 rw [ak] at h1
 have hr:=Nr.Ba (s.drop i)
 rw [aa hs,aa (show (0:Int)≤i∧(i:Int)≤1099511627776 by omega)]
 refine (bx rfl).trans ?_
 by_cases c:Nr.run (s.drop i)=0
 ·rw [aa (by omega),ah,au (.inl c)]
 ·rw [aV] at hr
  have e1:v1=((i+Nr.run (s.drop i):Nat):Int):=by omega
  rw [ab (by omega),ae,e1,bF.Gr s _ _ (by omega),←List.drop_drop]
  by_cases c2:Nr.run (s.drop i)<(s.drop i).length
  ·rw [ao (by rw [nQ];omega),au (.inr c2)]
  ·rw [au (by rw [nQ];omega),ao (by omega)]
theorem Nr.zl (c:UInt8) (r:bz) (k:Int):Nr.pQ (c :: r) k=if c=101∨c=69 then (if Nr.run (Nr.signed r)=0∨Nr.run (Nr.signed r)<(Nr.signed r).length then 0 else 2) else 0:=by
 cases r <;> rfl
theorem Nr.oo (c:UInt8) (r:bz):Nr.signed (c :: r)=if c=43∨c=45 then r else c :: r:=rfl
theorem TX (a b:Prop) [Decidable a] [Decidable b]:(decide a || decide b)=decide (a∨b):=(Bool.decide_or a b).symm
theorem bF.nU (s:bz) (hs:s.length≤1099511627776) (i:Nat) (hi:i≤s.length) (k:Int):bF.j2 s i k=some [.i .i64 (Nr.pQ (s.drop i) k)]:=by
 refine bF.jx _ _ _ ?_
 intro v1 h1 v2 h2 v3 h3 v4 h4
 have e2:v2=((i+1:Nat):Int):=by rw [h2,i64_in _ (by omega)];omega
 have e4:v4=((i+1+1:Nat):Int):=by rw [h4,e2,i64_in _ (by omega)];omega
 rw [aa hs,aa (show (0:Int)≤i by omega)]
 refine (bx rfl).trans ?_
 rw [TX,ak] at h1
 by_cases c:i<s.length
 ·rw [aa (show (i:Int)<s.length by omega),Bool.true_and] at h1
  rw [drop_cons c 0,Nr.zl]
  by_cases c1:s.getD i 0=101∨s.getD i 0=69
  ·have e1:v1=true:=by rw [h1];exact aa c1
   rw [e1,ah,au c1,e2,aa (show (0:Int)≤((i+1:Nat):Int) by omega)]
   refine (bx rfl).trans ?_
   rw [TX,e2,ak] at h3
   by_cases c2:i+1<s.length
   ·rw [aa (show ((i+1:Nat):Int)<s.length by omega),Bool.true_and] at h3
    rw [drop_cons c2 0,Nr.oo]
    by_cases c3:s.getD (i+1) 0=43∨s.getD (i+1) 0=45
    ·have e3:v3=true:=by rw [h3];exact aa c3
     rw [e3,ah,e4,au c3]
     exact bF.wk s hs (i+1+1) (by omega)
    ·have e3:v3=false:=by rw [h3];exact ab c3
     rw [e3,ae,ao c3,bF.wk s hs (i+1) (by omega),drop_cons c2 0]
   ·rw [ab (show ¬((i+1:Nat):Int)<s.length by omega),Bool.false_and] at h3
    rw [h3,ae,bF.wk s hs (i+1) (by omega),aC (i:=i+1) (by omega)];rfl
  ·have e1:v1=false:=by rw [h1];exact ab c1
   rw [e1,ae,ao c1,bF.Gr s i k hi,ao (by rw [nQ];omega)]
 ·rw [ab (show ¬(i:Int)<s.length by omega),Bool.false_and] at h1
  rw [h1,ae,bF.Gr s i k hi,aC (by omega),au rfl];rfl
theorem Nr.zk (r:bz):Nr.mC (46 :: r)=if Nr.run r=0 then 0 else Nr.pQ (r.drop (Nr.run r)) 2:=rfl
theorem Nr.vq {t:bz} (h:¬(0<t.length∧t.getD 0 0=46)):Nr.mC t=Nr.pQ t 1:=by
 unfold Nr.mC
 split
 ·exact (h ⟨by simp,rfl⟩).elim
 ·rfl
theorem bF.iz (s:bz) (hs:s.length≤1099511627776) (i:Nat) (hi:i≤s.length):bF.j1 s i 1=some [.i .i64 (if Nr.run (s.drop i)=0∨((s.drop i).getD 0 0=48∧1<Nr.run (s.drop i)) then 0 else Nr.mC ((s.drop i).drop (Nr.run (s.drop i))))]:=by
 refine bF.iR _ _ _ ?_
 intro v1 h1 v2 h2 v3 h3 v4 h4 v5 h5 v6 h6 v7 h7 v8 h8 v9 h9
 rw [ak] at h1 h2
 have hr:=Nr.Ba (s.drop i)
 rw [aV] at hr
 have e1:v1=((i+Nr.run (s.drop i):Nat):Int):=by omega
 have e4:v4=((i+1:Nat):Int):=by rw [h4,i64_in _ (by omega)];omega
 rw [aa hs,aa (show (0:Int)≤i∧(i:Int)≤1099511627776 by omega)]
 refine (bx rfl).trans ?_
 by_cases c0:Nr.run (s.drop i)=0
 ·have hd:decide (v1=(i:Int))=true:=aa (by omega)
  rw [hd] at h3 h6
  have e3:v3=false:=h3
  have e6:v6=true:=h6
  rw [hd,e3,e6,au (.inl c0)];rfl
 ·have hd:decide (v1=(i:Int))=false:=ab (by omega)
  have hx:bD (i:Int) s.length=true:=bN (by omega) (by omega)
  rw [hd] at h3 h6
  rw [ae] at h6
  have g2:(s.drop i).getD 0 0=v2:=by rw [drop_cons (show i<s.length by omega) 0,h2];rfl
  have e5:v5=decide (v2=48∧1<Nr.run (s.drop i)):=by
   rw [h5,Bool.decide_and]
   have:decide (v4<v1)=decide (1<Nr.run (s.drop i)):=by
    rw [e4,e1]
    by_cases c:1<Nr.run (s.drop i)
    ·rw [aa c,aa (by omega)]
    ·rw [ab c,ab (by omega)]
   rw [this]
   cases decide (v2=48) <;> rfl
  rw [hd,hx,h6,g2,h3,bx (by rfl),bx (by rfl),bx (by rfl),bx (by cases decide (v2=48) <;> rfl),bx (by cases decide (v2=48) <;> rfl),bx (by cases decide (v2=48) <;> rfl),bx (by rfl)]
  by_cases c1:v2=48∧1<Nr.run (s.drop i)
  ·rw [e5,aa c1,ah,au (.inr c1)]
  ·rw [e5,ab c1,ae,ao (by simp [c0,c1]),List.drop_drop,e1,aa (show (0:Int)≤((i+Nr.run (s.drop i):Nat):Int) by omega)]
   refine (bx rfl).trans ?_
   generalize hj:i+Nr.run (s.drop i)=j at *
   have e8:v8=((j+1:Nat):Int):=by rw [h8,e1,i64_in _ (by omega)];omega
   rw [Bool.or_self,e1,ak] at h7
   rw [e8,ak] at h9
   by_cases c2:j<s.length∧s.getD j 0=46
   ·have e7:v7=true:=by rw [h7,aa (show (j:Int)<s.length by omega),aa c2.2];rfl
    rw [e7,ah,e8,aa (show (0:Int)≤((j+1:Nat):Int)∧((j+1:Nat):Int)≤1099511627776 by omega)]
    refine (bx rfl).trans ?_
    rw [drop_cons c2.1 0,c2.2,Nr.zk]
    have Vv:=Nr.Ba (s.drop (j+1))
    rw [aV] at Vv
    by_cases c3:Nr.run (s.drop (j+1))=0
    ·rw [aa (by omega),ah,au c3]
    ·have e9:v9=((j+1+Nr.run (s.drop (j+1)):Nat):Int):=by omega
     rw [ab (by omega),ae,ao c3,e9,bF.nU s hs _ (by omega),List.drop_drop]
   ·have e7:v7=false:=by
     rw [h7,←Bool.decide_and];exact ab (fun h=>c2 ⟨by omega,h.2⟩)
    rw [e7,ae,bF.nU s hs _ (by omega),Nr.vq (t:=s.drop j)]
    intro h
    rw [aV,ai,List.getElem?_drop,←ai] at h
    exact c2 ⟨by omega,h.2⟩
theorem Nr.Bs (r:bz):Nr.jf (45 :: r)=if Nr.run r=0∨(r.getD 0 0=48∧1<Nr.run r) then 0 else Nr.mC (r.drop (Nr.run r)):=rfl
theorem Nr.Br {t:bz} (h:¬(0<t.length∧t.getD 0 0=45)):Nr.jf t=if Nr.run t=0∨(t.getD 0 0=48∧1<Nr.run t) then 0 else Nr.mC (t.drop (Nr.run t)):=by
 unfold Nr.jf
 split
 ·exact (h ⟨by simp,rfl⟩).elim
 ·rfl
theorem bF.goal (s:bz) (hp:decide (s.length≤1099511627776)=true):bF.F s=some [.i .i64 (Nr.jf s)]:=by
 have hs:=aq hp
 refine bF.bY _ ?_
 intro v1 h1 v2 h2
 rw [hp]
 refine (bx rfl).trans ?_
 have e2:v2=((1:Nat):Int):=by rw [h2,i64_in _ (by omega)];rfl
 rw [Bool.or_self] at h1
 have h1:v1=(decide ((0:Int)<s.length)&&decide (s.getD 0 0=45)):=h1
 by_cases c:0<s.length∧s.getD 0 0=45
 ·have e1:v1=true:=by rw [h1,aa (show (0:Int)<s.length by omega),aa c.2];rfl
  rw [e1,ah,e2,bF.iz s hs 1 (by omega)]
  cases s with
  | nil=>simp at c
  | cons d r =>
   have:d=45:=c.2
   subst this
   rw [Nr.Bs];rfl
 ·have e1:v1=false:=by rw [h1,←Bool.decide_and];exact ab (fun h=>c ⟨by omega,h.2⟩)
  rw [e1,ae,Nr.Br c]
  exact bF.iz s hs 0 (by omega)
end Go.Eng
set_option maxRecDepth 20000
namespace Go.Eng
open Go.IntWalk
theorem YZ.Gr (t:bz) (k:Int):YZ.j4 t k=some [.i .i64 (if t=[] then k else 0)]:=by
 rw [YZ.wi]
 by_cases c:t=[]
 ·rw [aa c,au c];rfl
 ·rw [ab c,ao c];rfl
theorem YZ.wk (t:bz) (hs:t.length≤1099511627776):YZ.j3 t=some [.i .i64 (if Nr.run t=0∨Nr.run t<t.length then 0 else 2)]:=by
 refine YZ.qw _ ?_
 intro v1 h1
 have hr:=Nr.Ba t
 rw [ak] at h1
 rw [bx (aa hs)]
 by_cases c:Nr.run t=0
 ·rw [aa (by omega),ah,au (.inl c)]
 ·rw [ab (by omega),ae,bx (j9 (by omega) (by omega) (by omega)),YZ.Gr,h1]
  by_cases c2:Nr.run t<t.length
  ·rw [ao (by rw [nQ];omega),au (.inr c2)]
  ·rw [au (by rw [nQ];omega),ao (by omega)]
theorem YZ.nU (t:bz) (hs:t.length≤1099511627776) (k:Int):YZ.j2 t k=some [.i .i64 (Nr.pQ t k)]:=by
 refine YZ.jx _ _ ?_
 intro v1 h1 v2 h2 v3 h3 v4 h4 v5 h5 v6 h6 v7 h7 v8 h8 v9 h9 v10 iS
 cases t with
 | nil =>
  have e2:v2=false:=h2
  have e4:v4=false:=h4
  rw [e2,e4,ae,YZ.Gr];rfl
 | cons c r =>
  have ht:decide ((0:Int)<((c :: r).length:Int))=true:=aa (by rw [az];omega)
  have hx:bD (0:Int) (c :: r).length=true:=bN (by omega) (by rw [az];omega)
  have e1:v1=c:=h1
  have e5:v5=r:=h5
  rw [ht] at h2 h4
  have e4:v4=decide (c=101∨c=69):=by
   rw [h4,h3,e1,Bool.decide_or];cases decide (c=101) <;> rfl
  rw [ht,hx,h2,bx (by rfl),bx (by rfl),bx (by rfl),bx (by cases decide (v1=101) <;> rfl),bx (by cases decide (v1=101) <;> rfl),bx (by cases decide (v1=101) <;> rfl),bx (by rfl),Nr.zl,e4]
  rw [az] at hs
  by_cases c1:c=101∨c=69
  ·rw [aa c1,ah,au c1,bx (j9 (by omega) (by rw [az];omega) (by omega)),e5]
   cases r with
   | nil =>
    rw [e5] at h7 h9
    have e7:v7=false:=h7
    have e9:v9=false:=h9
    rw [e7,e9,ae,YZ.wk [] (by simp)];rfl
   | cons d q =>
    have ht2:decide ((0:Int)<((d :: q).length:Int))=true:=aa (by rw [az];omega)
    have Ks:bD (0:Int) (d :: q).length=true:=bN (by omega) (by rw [az];omega)
    rw [e5] at h6 h7 h9 iS
    have e6:v6=d:=h6
    have Ew:v10=q:=iS
    rw [ht2] at h7 h9
    have e9:v9=decide (d=43∨d=45):=by
     rw [h9,h8,e6,Bool.decide_or];cases decide (d=43) <;> rfl
    rw [ht2,Ks,h7,bx (by rfl),bx (by rfl),bx (by rfl),bx (by cases decide (v6=43) <;> rfl),bx (by cases decide (v6=43) <;> rfl),bx (by cases decide (v6=43) <;> rfl),bx (by rfl),e9,Nr.oo]
    rw [az] at hs
    by_cases c2:d=43∨d=45
    ·rw [aa c2,ah,bx (j9 (by omega) (by rw [az];omega) (by omega)),Ew,au c2]
     exact YZ.wk q (by omega)
    ·rw [ab c2,ae,ao c2]
     exact YZ.wk (d :: q) (by rw [az];omega)
  ·rw [ab c1,ae,ao c1,YZ.Gr,ao (by simp)]
theorem YZ.iz (t:bz) (hs:t.length≤1099511627776):YZ.j1 t 1=some [.i .i64 (if Nr.run t=0∨(t.getD 0 0=48∧1<Nr.run t) then 0 else Nr.mC (t.drop (Nr.run t)))]:=by
 refine YZ.iR _ _ ?_
 intro v1 h1 v2 h2 v3 h3 v4 h4 v5 h5 v6 h6 v7 h7 v8 h8 v9 h9
 have hr:=Nr.Ba t
 rw [ak] at h5
 rw [bx (aa hs)]
 have h1:v1=t.getD 0 0:=h1
 by_cases c0:Nr.run t=0
 ·have hd:decide ((Nr.run t:Int)=0)=true:=aa (by omega)
  rw [hd] at h2 h4
  have e2:v2=false:=h2
  have e4:v4=true:=h4
  rw [hd,e2,e4,au (.inl c0)];rfl
 ·have hd:decide ((Nr.run t:Int)=0)=false:=ab (by omega)
  have hx:bD (0:Int) t.length=true:=bN (by omega) (by omega)
  rw [hd] at h2 h4
  rw [ae] at h4
  have e4:v4=decide (v1=48∧1<Nr.run t):=by
   have:decide ((1:Int)<(Nr.run t:Int))=decide (1<Nr.run t):=by
    by_cases c:1<Nr.run t
    ·rw [aa c,aa (by omega)]
    ·rw [ab c,ab (by omega)]
   rw [h4,h3,this,Bool.decide_and];cases decide (v1=48) <;> rfl
  rw [hd,hx,h2,bx (by rfl),bx (by rfl),bx (by rfl),bx (by cases decide (v1=48) <;> rfl),bx (by cases decide (v1=48) <;> rfl),bx (by rfl),e4,←h1]
  by_cases c1:v1=48∧1<Nr.run t
  ·rw [aa c1,ah,au (.inr c1)]
  ·rw [ab c1,ae,ao (by simp [c0,c1]),bx (j9 (by omega) (by omega) (by omega)),←h5]
   have hl:v5.length≤1099511627776:=by rw [h5,aV];omega
   cases hv:v5 with
   | nil =>
    rw [hv] at h7
    have e7:v7=false:=h7
    rw [e7,ae,←hv,YZ.nU v5 hl,hv];rfl
   | cons c r =>
    have ht2:decide ((0:Int)<((c :: r).length:Int))=true:=aa (by rw [az];omega)
    have Ks:bD (0:Int) (c :: r).length=true:=bN (by omega) (by rw [az];omega)
    rw [hv] at h6 h7 h8 hl
    rw [az] at hl
    have e6:v6=c:=h6
    have e8:v8=r:=h8
    rw [ht2,ah,e6] at h7
    rw [ht2,Ks,bx (by rfl),bx (by rfl),bx (by rfl),h7]
    have Vv:=Nr.Ba r
    by_cases c2:c=46
    ·have e9:v9=((1+Nr.run r:Nat):Int):=by rw [h9,e8,i64_in _ (by omega)];omega
     subst c2
     rw [aa rfl,ah,bx (j9 (by omega) (by rw [az];omega) (by omega)),e8,bx (aa (by omega)),Nr.zk]
     by_cases c3:Nr.run r=0
     ·rw [aa (by omega),ah,au c3]
     ·rw [ab (by omega),ae,ao c3,e9,bx (j9 (by omega) (by rw [az];omega) (by omega)),ak,Nat.add_comm 1,List.drop_succ_cons]
      exact YZ.nU _ (by rw [aV];omega) 2
    ·rw [ab c2,ae,Nr.vq (t:=c :: r) (fun h=>c2 h.2)]
     exact YZ.nU _ (by rw [az];omega) 1
theorem YZ.goal (s:bz) (hp:decide (s.length≤1099511627776)=true):YZ.F s=some [.i .i64 (Nr.jf s)]:=by
 have hs:=aq hp
 refine YZ.bY _ ?_
 intro v1 h1 v2 h2 v3 h3
 cases s with
 | nil =>
  have e2:v2=false:=h2
  rw [e2,ae,YZ.iz [] hs];rfl
 | cons c r =>
  have ht2:decide ((0:Int)<((c :: r).length:Int))=true:=aa (by rw [az];omega)
  have Ks:bD (0:Int) (c :: r).length=true:=bN (by omega) (by rw [az];omega)
  have e1:v1=c:=h1
  have e3:v3=r:=h3
  rw [ht2,ah,e1] at h2
  rw [ht2,Ks,bx (by rfl),bx (by rfl),bx (by rfl),h2]
  by_cases c2:c=45
  ·subst c2
   rw [aa rfl,ah,bx (j9 (by omega) (by rw [az];omega) (by omega)),e3,Nr.Bs]
   exact YZ.iz r (by rw [az] at hs;omega)
  ·rw [ab c2,ae,Nr.Br (t:=c :: r) (fun h=>c2 h.2)]
   exact YZ.iz _ hs
theorem Nr.nn {n:Nat} (h:n<10):Nr.dec n=[UInt8.ofNat (48+n)]:=by rw [Nr.dec,au h]
theorem Nr.qH {n:Nat} (h:¬n<10):Nr.dec n=Nr.dec (n / 10)++[UInt8.ofNat (48+n % 10)]:=by rw [Nr.dec,ao h]
theorem Nr.iV:∀(k n:Nat),n<10 ^ k→1≤k→(Nr.dec n).length≤k:=by
 intro k
 induction k with
 | zero=>intro n _ h;omega
 | succ k ih =>
  intro n h _
  by_cases c:n<10
  ·rw [Nr.nn c];simp
  ·rw [Nr.qH c,aj,ay]
   rw [Nat.pow_succ] at h
   have hk:1≤k:=by
    by_cases hk:k=0
    ·subst hk;simp at h;omega
    ·omega
   have:=ih (n / 10) (by omega) hk
   omega
theorem uK (c d:UInt8) (r:bz):Lib.indexByte (d :: r) c=if (d == c)=true then 0 else if (Lib.indexByte r c == -1)=true then -1 else Lib.indexByte r c+1:=by
 rw [Lib.indexByte]
end Go.Eng
set_option maxRecDepth 20000
namespace Go.Eng
open Go.IntWalk
theorem wb:([0,1,2,2,3,3,3,3,4,4,4,4,4,4,4,4,5,5,5,5,5,5,5,5,5,5,5,5,5,5,5,5,6,6,6,6,6,6,6,6,6,6,6,6,6,6,6,6,6,6,6,6,6,6,6,6,6,6,6,6,6,6,6,6,7,7,7,7,7,7,7,7,7,7,7,7,7,7,7,7,7,7,7,7,7,7,7,7,7,7,7,7,7,7,7,7,7,7,7,7,7,7,7,7,7,7,7,7,7,7,7,7,7,7,7,7,7,7,7,7,7,7,7,7,7,7,7,7,8,8,8,8,8,8,8,8,8,8,8,8,8,8,8,8,8,8,8,8,8,8,8,8,8,8,8,8,8,8,8,8,8,8,8,8,8,8,8,8,8,8,8,8,8,8,8,8,8,8,8,8,8,8,8,8,8,8,8,8,8,8,8,8,8,8,8,8,8,8,8,8,8,8,8,8,8,8,8,8,8,8,8,8,8,8,8,8,8,8,8,8,8,8,8,8,8,8,8,8,8,8,8,8,8,8,8,8,8,8,8,8,8,8,8,8,8,8,8,8,8,8,8,8,8,8,8,8]:bz)=len8:=by decide +kernel
theorem zn:len8.length=256:=by decide +kernel
theorem cw.iz (x0:UInt16) (x1:Int) (h:x0.toNat<256) (h1:0≤x1) (h2:x1≤1000):cw.j1 x0 x1=some [.i .i64 (x1+Nt.bits x0.toNat)]:=by
 refine cw.iR _ _ ?_
 intro v1 h1 v2 h2 v3 h3
 rw [wb] at h2 ⊢
 have e1:v1.toNat=x0.toNat:=by rw [h1,E7,Nat.mod_eq_of_lt h]
 have hb:=Nt.kQ (n:=x0.toNat) (k:=8) h
 rw [ak,e1] at h2
 have e2:=CE _ h
 rw [←h2] at e2
 have e3:v3=(Nt.bits x0.toNat:Int):=by rw [h3,i64_in _ (by omega),e2]
 rw [bx (bN (by omega) (by rw [zn];omega)),e3,i64_in _ (by omega)]
theorem cw.goal (x:UInt16):cw.F x=some [.i .i64 (Nt.bits x.toNat)]:=by
 refine cw.bY _ ?_
 intro v1 h1
 have hx:=x.toNat_lt
 by_cases c:x.toNat<256
 ·rw [ab (by rw [UInt16.le_iff_toNat_le];show ¬256≤x.toNat;omega),ae,cw.iz _ _ c (by omega) (by omega),Int.zero_add]
 ·have e1:v1.toNat=x.toNat / 2 ^ 8:=by
   rw [h1,qe,UInt16.toNat_ofNat',show (8:UInt64).toNat=8 from rfl];omega
  rw [aa (by rw [UInt16.le_iff_toNat_le];show 256≤x.toNat;omega),ah,cw.iz _ _ (by omega) (by omega) (by omega),e1,Nt.mh (n:=x.toNat) (k:=8) (by omega)]
  exact congrArg (fun z:Int=>some [TV.i .i64 z]) (by omega)
theorem bits_Len64.wk (x0:UInt64) (x1:Int) (h:x0.toNat<256) (h1:0≤x1) (h2:x1≤1000):bits_Len64.j3 x0 x1=some [.i .i64 (x1+Nt.bits x0.toNat)]:=by
 refine bits_Len64.qw _ _ ?_
 intro v1 h1 v2 h2 v3 h3
 rw [wb] at h2 ⊢
 have e1:v1.toNat=x0.toNat:=by rw [h1,E7,Nat.mod_eq_of_lt h]
 have hb:=Nt.kQ (n:=x0.toNat) (k:=8) h
 rw [ak,e1] at h2
 have e2:=CE _ h
 rw [←h2] at e2
 have e3:v3=(Nt.bits x0.toNat:Int):=by rw [h3,i64_in _ (by omega),e2]
 rw [bx (bN (by omega) (by rw [zn];omega)),e3,i64_in _ (by omega)]
theorem ir (x:UInt64) (k:Nat):(dQ x k).toNat=x.toNat / 2 ^ k:=by
 rw [dQ,UInt64.toNat_ofNat']
 exact Nat.mod_eq_of_lt (Nat.lt_of_le_of_lt (Nat.div_le_self _ _) x.toNat_lt)
theorem bits_Len64.nU (x0:UInt64) (x1:Int) (h:x0.toNat<65536) (h1:0≤x1) (h2:x1≤900):bits_Len64.j2 x0 x1=some [.i .i64 (x1+Nt.bits x0.toNat)]:=by
 refine bits_Len64.jx _ _ ?_
 intro v1 h1 v2 h2
 by_cases c:x0.toNat<256
 ·rw [ab (by rw [aJ];show ¬256≤x0.toNat;omega),ae,bits_Len64.wk _ _ c (by omega) (by omega)]
 ·have e1:v1.toNat=x0.toNat / 2 ^ 8:=by rw [h1];exact ir _ _
  have e2:v2=x1+8:=by rw [h2,i64_in _ (by omega)]
  rw [aa (by rw [aJ];show 256≤x0.toNat;omega),ah,bits_Len64.wk _ _ (by omega) (by omega) (by omega),e1,e2,Nt.mh (n:=x0.toNat) (k:=8) (by omega)]
  exact congrArg (fun z:Int=>some [TV.i .i64 z]) (by omega)
theorem bits_Len64.iz (x0:UInt64) (x1:Int) (h:x0.toNat<4294967296) (h1:0≤x1) (h2:x1≤800):bits_Len64.j1 x0 x1=some [.i .i64 (x1+Nt.bits x0.toNat)]:=by
 refine bits_Len64.iR _ _ ?_
 intro v1 h1 v2 h2
 by_cases c:x0.toNat<65536
 ·rw [ab (by rw [aJ];show ¬65536≤x0.toNat;omega),ae,bits_Len64.nU _ _ c (by omega) (by omega)]
 ·have e1:v1.toNat=x0.toNat / 2 ^ 16:=by rw [h1];exact ir _ _
  have e2:v2=x1+16:=by rw [h2,i64_in _ (by omega)]
  rw [aa (by rw [aJ];show 65536≤x0.toNat;omega),ah,bits_Len64.nU _ _ (by omega) (by omega) (by omega),e1,e2,Nt.mh (n:=x0.toNat) (k:=16) (by omega)]
  exact congrArg (fun z:Int=>some [TV.i .i64 z]) (by omega)
theorem bits_Len64.goal (x:UInt64):bits_Len64.F x=some [.i .i64 (Nt.bits x.toNat)]:=by
 refine bits_Len64.bY _ ?_
 intro v1 h1
 have hx:=x.toNat_lt
 by_cases c:x.toNat<4294967296
 ·rw [ab (by rw [aJ];show ¬4294967296≤x.toNat;omega),ae,bits_Len64.iz _ _ c (by omega) (by omega),Int.zero_add]
 ·have e1:v1.toNat=x.toNat / 2 ^ 32:=by rw [h1];exact ir _ _
  rw [aa (by rw [aJ];show 4294967296≤x.toNat;omega),ah,bits_Len64.iz _ _ (by rw [e1];omega) (by omega) (by omega),e1,Nt.mh (n:=x.toNat) (k:=32) (by omega)]
  exact congrArg (fun z:Int=>some [TV.i .i64 z]) (by omega)
theorem dA (a:List UInt16) (i:Nat) (h:i<a.length):Nt.val (a.take (i+1))=Nt.val (a.take i)+65536 ^ i * (a.getD i 0).toNat:=by
 rw [List.take_add_one,Nt.gh,ar h,aF,Nat.min_eq_left (by omega),ai,ar h]
 simp [Nt.val]
theorem hO (d:UInt16):(UInt64.ofInt (d.toNat:Int)).toNat=d.toNat:=by
 rw [B4,Nat.mod_eq_of_lt (by have:=d.toNat_lt;omega)]
theorem dy.cO (a:List UInt16) (h4:a.length≤4):∀(m i:Nat) (v:UInt64),i+m=a.length→v.toNat=Nt.val (a.take i)→dy.l1 v a a.length i=some [.u64 (UInt64.ofNat (Nt.val a)),.b true]:=by
 intro m
 induction m with
 | zero =>
  intro i v hi hv
  refine dy.bX _ _ _ _ ?_
  intro v1 h1 v2 h2 v3 h3 v4 h4 v5 h5
  rw [ab (by omega),ae]
  rw [List.take_of_length_le (by omega)] at hv
  rw [←hv,UInt64.ofNat_toNat]
 | succ m ih =>
  intro i v hi hv
  refine dy.bX _ _ _ _ ?_
  intro v1 h1 v2 h2 v3 h3 v4 h4 v5 h5
  rw [ak] at h1
  have e3:v3=((16 * i:Nat):Int):=by rw [h3,i64_in _ (by omega)];omega
  have e5:v5=((i+1:Nat):Int):=by rw [h5,i64_in _ (by omega)];omega
  rw [aa (by omega),ah,bx (bN (by omega) (by omega)),bx (aa (by omega)),e5]
  refine ih (i+1) v4 (by omega) ?_
  rw [dA a i (by omega),←h1,h4,e3,ak,UInt64.toNat_or,jr,UInt64.toNat_ofNat',h2,hO,hv]
  have gk:Nt.val (a.take i)<2 ^ (16 * i):=by
   have:=Nt.iJ (a.take i)
   rw [aF,Nat.min_eq_left (by omega),show (65536:Nat)=2 ^ 16 by decide,←Nat.pow_mul] at this
   exact this
  have hd:=v1.toNat_lt
  have VT:i≤3:=by omega
  have hm:v1.toNat * 2 ^ (16 * i)<2 ^ 64:=by
   have:2 ^ (16 * i)≤2 ^ 48:=Nat.pow_le_pow_right (by omega) (by omega)
   have h1:v1.toNat * 2 ^ (16 * i)≤v1.toNat * 2 ^ 48:=Nat.mul_le_mul_left _ this
   omega
  rw [Nat.mod_eq_of_lt hm,Nat.or_comm,nE gk,show (65536:Nat)=2 ^ 16 by decide,←Nat.pow_mul,Nat.mul_comm (2 ^ (16 * i)),Nat.add_comm]
theorem dy.goal (a:List UInt16) (hp:decide (Nt.is a=true∧a.length≤4)=true):dy.F a=some [.u64 (UInt64.ofNat (Nt.val a)),.b true]:=by
 obtain ⟨h1,h2⟩:=aq hp
 refine dy.bY _ ?_
 intro v1 hv
 have e1:v1=false:=by rw [hv,h1,aG,ae];exact ab (by omega)
 rw [bx (aa (by omega)),h1,e1]
 exact dy.cO a h2 a.length 0 0 (by omega) rfl
theorem mW {a:List UInt16} (h:Nt.norm a=true) (h0:a≠[]):1≤(a.getD (a.length - 1) 0).toNat∧Nt.val a=Nt.val (a.take (a.length - 1))+65536 ^ (a.length - 1) * (a.getD (a.length - 1) 0).toNat:=by
 have hl:=List.length_pos_iff.2 h0
 rw [mX h0] at h
 simp only [Bool.not_eq_true',decide_eq_false_iff_not] at h
 refine ⟨Nat.pos_of_ne_zero fun e=>h (UInt16.toNat_inj.1 e),?_⟩
 have:=dA a (a.length - 1) (by omega)
 rwa [show a.length - 1+1=a.length by omega,List.take_length] at this
theorem HI {a:List UInt16} (h:Nt.norm a=true) (h0:a≠[]):Nt.bits (Nt.val a)=16 * (a.length - 1)+Nt.bits (a.getD (a.length - 1) 0).toNat:=by
 obtain ⟨h1,h2⟩:=mW h h0
 generalize (a.getD (a.length - 1) 0).toNat=t at h1 h2 ⊢
 have gk:=Nt.iJ (a.take (a.length - 1))
 rw [aF,Nat.min_eq_left (by omega)] at gk
 rw [show (65536:Nat)=2 ^ 16 by decide,←Nat.pow_mul] at h2 gk
 generalize 16 * (a.length - 1)=k at *
 have hd:Nt.val a / 2 ^ k=t:=by
  rw [h2,Nat.add_mul_div_left _ _ (Nat.two_pow_pos k),Nat.div_eq_of_lt gk,Nat.zero_add]
 rw [Nt.mh (k:=k) (by rw [h2];have:=Nat.mul_le_mul_left (2 ^ k) h1;omega),hd,Nat.add_comm]
theorem fY.goal (a:List UInt16) (hp:(Nt.is a)=true):fY.F a=some [.i .i64 (Nt.bits (Nt.val a))]:=by
 have hl:=Nt.jH hp
 refine fY.bY _ ?_
 intro v1 h1 v2 h2 v3 h3 v4 h4 v5 h5
 rw [hp,aG,ae] at h1
 rw [bx (aa (by omega)),hp]
 by_cases c:a=[]
 ·subst c
  have e1:v1=true:=by rw [h1];rfl
  rw [e1];rfl
 ·have Qh:=List.length_pos_iff.2 c
  have e1:v1=false:=by rw [h1];exact ab (by omega)
  rw [i64_in _ (by omega)] at h2
  have e2:v2=((a.length - 1:Nat):Int):=by omega
  have e3:v3=((16 * (a.length - 1):Nat):Int):=by rw [h3,i64_in _ (by omega)];omega
  rw [e2,ak] at h4
  have hb:=Nt.kQ (n:=v4.toNat) (k:=16) v4.toNat_lt
  have e5:v5=(Nt.bits (Nt.val a):Int):=by
   rw [h5,i64_in _ (by omega),e3,HI (Nt.jB hp) c,←h4];omega
  rw [e1,e5]
  show ck true (ck true (ck true (ck (bD v2 a.length) _)))=_
  rw [bU,bU,bU,bx (bN (by omega) (by omega))]
end Go.Eng
set_option maxRecDepth 20000
namespace Go.Eng
open Go.IntWalk
namespace Nr
def V (p:Nat):Nat:=nI p * 2 ^ sh p
theorem uy (p:Nat):nI p<9007199254740992:=by unfold nI;split <;> omega
theorem xZ (p:Nat):V (p+1)=(nI p+1) * 2 ^ sh p:=by
 by_cases c0:p=4503599627370495
 ·subst c0;decide +kernel
 unfold V nI sh
 by_cases c:p<4503599627370496
 ·have e1:p / 4503599627370496=0:=by omega
  rw [au c,au (show p+1<4503599627370496 by omega),e1,show (p+1) / 4503599627370496=0 by omega]
 ·rw [ao c,ao (show ¬p+1<4503599627370496 by omega)]
  by_cases d:(p+1) % 4503599627370496=0
  ·rw [d,show (p+1) / 4503599627370496 - 1=(p / 4503599627370496 - 1)+1 by omega,show p % 4503599627370496=4503599627370495 by omega,Nat.pow_succ]
   generalize 2 ^ (p / 4503599627370496 - 1)=t
   omega
  ·have e:(p+1) % 4503599627370496+4503599627370496=p % 4503599627370496+4503599627370496+1:=by omega
   rw [show (p+1) / 4503599627370496=p / 4503599627370496 by omega,e]
theorem vg (p:Nat):V (p+1)=V p+2 ^ sh p:=by rw [xZ,Nat.add_mul,Nat.one_mul];rfl
theorem pn (p:Nat):V p<V (p+1):=by rw [vg];have:=Nat.two_pow_pos (sh p);omega
theorem AF {p q:Nat} (h:p<q):V p<V q:=by
 induction q with
 | zero=>omega
 | succ q ih =>
  have:=pn q
  by_cases c:p=q
  ·subst c;exact this
  ·have:=ih (by omega);omega
theorem PH {p q:Nat} (h:p≤q):V p≤V q:=by
 rcases Nat.lt_or_eq_of_le h with c | c
 ·exact Nat.le_of_lt (AF c)
 ·rw [c];exact Nat.le_refl _
theorem KW {p q:Nat} (h:V p=V q):p=q:=by
 rcases Nat.lt_trichotomy p q with c | c | c
 ·have:=AF c;omega
 ·exact c
 ·have:=AF c;omega
theorem nH (p:Nat):pr p=V p+V (p+1):=by
 rw [vg];unfold pr V;rw [Nat.add_mul,Nat.mul_assoc,Nat.one_mul];omega
theorem H4 {M E:Nat} (h1:4503599627370496≤M) (h2:M<9007199254740992):nI ((E+1) * 4503599627370496+(M - 4503599627370496))=M∧sh ((E+1) * 4503599627370496+(M - 4503599627370496))=E:=by
 unfold nI sh
 rw [ao (by omega),show ((E+1) * 4503599627370496+(M - 4503599627370496)) % 4503599627370496=M - 4503599627370496 by omega,show ((E+1) * 4503599627370496+(M - 4503599627370496)) / 4503599627370496=E+1 by omega]
 omega
theorem KV {M:Nat} (h:M<4503599627370496):V M=M:=by
 unfold V nI sh
 rw [au h,show M / 4503599627370496=0 by omega];simp
theorem A4 {p:Nat} (h:p≤top):sh p≤2045:=by unfold sh;unfold top at h;omega
theorem join_some {p m:Nat} {e:Int} (neg:Bool) (hp:p≤top) (h:V p * 2 ^ (-(e+1074)).toNat=m * 2 ^ (e+1074).toNat):join neg m e=some (p+if neg then 9223372036854775808 else 0):=by
 classical
 have hx:∃p,p≤top∧nI p * 2 ^ sh p * 2 ^ (-(e+1074)).toNat=m * 2 ^ (e+1074).toNat:=⟨p,hp,h⟩
 unfold join
 rw [dif_pos hx]
 have hc:=hx.choose_spec.2
 have:hx.choose=p:=KW (Nat.eq_of_mul_eq_mul_right (Nat.two_pow_pos _) (hc.trans h.symm))
 rw [this]
theorem join_none {m:Nat} {e:Int} (neg:Bool) (h:∀p,p≤top→V p * 2 ^ (-(e+1074)).toNat≠m * 2 ^ (e+1074).toNat):join neg m e=none:=by
 classical
 unfold join
 rw [dif_neg]
 rintro ⟨p,h1,h2⟩
 exact h p h1 h2
theorem LN (neg:Bool) (e:Int):join neg 0 e=some (0+if neg then 9223372036854775808 else 0):=join_some neg (Nat.zero_le _) (by rw [KV (by omega),Nat.zero_mul,Nat.zero_mul])
def enc (m' k:Nat):Nat:=if k+Nt.bits m'≤52 then m' * 2 ^ k else (k - (53 - Nt.bits m')+1) * 4503599627370496+(m' * 2 ^ (53 - Nt.bits m') - 4503599627370496)
theorem uX {m':Nat} (h0:0<m') (j:Nat):2 ^ (Nt.bits m' - 1+j)≤m' * 2 ^ j∧m' * 2 ^ j<2 ^ (Nt.bits m'+j):=by
 obtain ⟨h1,h2,h3⟩:=Nt.jy h0
 rw [Nat.pow_add,Nat.pow_add]
 exact ⟨av _ h1,Nat.mul_lt_mul_of_pos_right h2 (Nat.two_pow_pos j)⟩
theorem Da {m':Nat} (h0:0<m') (hL:Nt.bits m'≤53):4503599627370496≤m' * 2 ^ (53 - Nt.bits m')∧m' * 2 ^ (53 - Nt.bits m')<9007199254740992:=by
 obtain ⟨h1,h2⟩:=uX h0 (53 - Nt.bits m')
 obtain ⟨_,_,h3⟩:=Nt.jy h0
 rw [show Nt.bits m' - 1+(53 - Nt.bits m')=52 by omega] at h1
 rw [show Nt.bits m'+(53 - Nt.bits m')=53 by omega] at h2
 exact ⟨h1,h2⟩
theorem Hk {m' k:Nat} (h0:0<m') (hL:Nt.bits m'≤53) (hk:k+Nt.bits m'≤2098):enc m' k≤top∧V (enc m' k)=m' * 2 ^ k:=by
 obtain ⟨b1,b2⟩:=Da h0 hL
 unfold enc
 split
 ·rename_i c
  have:=(uX h0 k).2
  have Wl:m' * 2 ^ k<4503599627370496:=Nat.lt_of_lt_of_le this (by
   rw [show (4503599627370496:Nat)=2 ^ 52 by decide];exact Nat.pow_le_pow_right (by omega) (by omega))
  exact ⟨by unfold top;omega,KV Wl⟩
 ·rename_i c
  obtain ⟨v1,v2⟩:=H4 (E:=k - (53 - Nt.bits m')) b1 b2
  refine ⟨by unfold top;omega,?_⟩
  unfold V
  rw [v1,v2,Nat.mul_assoc,←Nat.pow_add,show 53 - Nt.bits m'+(k - (53 - Nt.bits m'))=k by omega]
theorem Gp {m m' n k:Nat} {e:Int} (neg:Bool) (hm:m=m' * 2 ^ n) (h0:0<m') (hk:e+n+1074=k) (hL:Nt.bits m'≤53) (rG:k+Nt.bits m'≤2098):join neg m e=some (enc m' k+if neg then 9223372036854775808 else 0):=by
 obtain ⟨h1,h2⟩:=Hk h0 hL rG
 refine join_some neg h1 ?_
 rw [h2,hm,Nat.mul_assoc,Nat.mul_assoc,←Nat.pow_add,←Nat.pow_add,show k+(-(e+1074)).toNat=n+(e+1074).toNat by omega]
theorem I4 {a b x y:Nat} (ha:a % 2=1) (h:a * 2 ^ x=b * 2 ^ y):y≤x∧b=a * 2 ^ (x - y):=by
 have Vj:y≤x:=by
  rcases Nat.lt_or_ge x y with c | c
  ·have e:y=x+(y - x - 1)+1:=by omega
   rw [e,Nat.pow_succ,Nat.pow_add,←Nat.mul_assoc,←Nat.mul_assoc] at h
   have h2:a=b * 2 ^ (y - x - 1) * 2:=by
    refine Nat.eq_of_mul_eq_mul_right (Nat.two_pow_pos x) ?_
    rw [h,Nat.mul_right_comm b,Nat.mul_right_comm (b * _)]
   omega
  ·exact c
 refine ⟨Vj,Nat.eq_of_mul_eq_mul_right (Nat.two_pow_pos y) ?_⟩
 rw [←h,Nat.mul_assoc,←Nat.pow_add,show x - y+y=x by omega]
theorem Gn {m m' n:Nat} {e:Int} (neg:Bool) (hm:m=m' * 2 ^ n) (ho:m' % 2=1) (h:e+n+1074<0∨53<Nt.bits m'∨2098<e+n+1074+Nt.bits m'):join neg m e=none:=by
 refine join_none neg fun p hp hv=>?_
 have h0:0<m':=by omega
 rw [hm,Nat.mul_assoc,←Nat.pow_add] at hv
 unfold V at hv
 rw [Nat.mul_assoc,←Nat.pow_add] at hv
 obtain ⟨q1,q2⟩:=I4 ho hv.symm
 have hs:=A4 hp
 have Ed:=uy p
 obtain ⟨r1,r2⟩:=uX h0 (n+(e+1074).toNat - (sh p+(-(e+1074)).toNat))
 obtain ⟨_,_,r3⟩:=Nt.jy h0
 rw [←q2] at r1 r2
 have r4:2 ^ (Nt.bits m' - 1+(n+(e+1074).toNat - (sh p+(-(e+1074)).toNat)))<2 ^ 53:=Nat.lt_of_le_of_lt r1 (by rw [show (2:Nat) ^ 53=9007199254740992 by decide];exact Ed)
 have r5:=(Nat.pow_lt_pow_iff_right (by omega:1<2)).1 r4
 omega
theorem MQ (m' k:Nat) (h:enc m' k≤top):enc m' k<9223372036854775808:=by unfold top at h;omega
end Nr
theorem oq (x:UInt64) (k:Nat):(jr x k).toNat=x.toNat * 2 ^ k % 18446744073709551616:=by unfold jr;simp
theorem gf {a b:UInt64} (h:a.toNat=b.toNat):a=b:=bm.1 h
theorem fA (n:Nat):(UInt64.ofNat n).toNat=n % 18446744073709551616:=by simp
theorem F5 (x:UInt64):(x &&& (4503599627370495:UInt64)).toNat=x.toNat % 4503599627370496:=by
 rw [UInt64.toNat_and]
 exact Nat.and_two_pow_sub_one_eq_mod x.toNat 52
def IL (n:Bool):UInt64:=cond n 9223372036854775808 0
theorem oZ (n:Bool):(IL n).toNat=if n then 9223372036854775808 else 0:=by cases n <;> rfl
theorem FA (n:Bool) (x:UInt64) (h:x.toNat<9223372036854775808):(IL n ||| x).toNat=x.toNat+(IL n).toNat:=by
 rw [UInt64.toNat_or,oZ]
 cases n
 ·simp
 ·have:=nE (a:=1) (k:=63) (b:=x.toNat) h
  rw [au rfl]
  rw [show (9223372036854775808:Nat)=1 * 2 ^ 63 by decide,this];omega
theorem y6 (p:Nat) (n:Bool) (h:p<9223372036854775808):Nr.pat (some (p+if n then 9223372036854775808 else 0))=UInt64.ofNat (p+(IL n).toNat):=by rw [oZ];rfl
theorem et.iz (n:Bool) (m:UInt64) (e:Int) (he : -1100≤e∧e≤2000):et.j1 m e (IL n)=some [.u64 (Nr.pat (Nr.join n m.toNat e)),.b (Nr.join n m.toNat e).isSome]:=by
 refine et.iR _ _ _ ?_
 intro v1 h1 v2 h2 v3 h3 v4 h4 v5 h5 v6 h6 v7 h7 v8 h8 v9 h9 v10 iS v11 kA v12 jM kq nr jh oa jb nV
 by_cases c0:m=0
 ·subst c0
  rw [aa rfl,ah]
  have:(0:UInt64).toNat=0:=rfl
  rw [this,Nr.LN,y6 _ _ (by omega)]
  congr 2
  cases n <;> rfl
 ·have RO:0<m.toNat:=by
   have:m.toNat≠0:=fun h=>c0 (gf h)
   omega
  have gk:=m.toNat_lt
  obtain ⟨q,hq,hc⟩:=Lib.ctzFrom_spec 64 m.toNat RO (by rw [show (2:Nat) ^ 64=18446744073709551616 by decide];exact gk)
  have V0:Lib.ctz 64 m.toNat=Lib.ctzFrom 64 m.toNat:=by unfold Lib.ctz;rw [ao (by omega)]
  generalize hz:Lib.ctzFrom 64 m.toNat=z at *
  rw [V0] at h2
  have Ee:m.toNat=(2 * q+1) * 2 ^ z:=by rw [hq,Nat.mul_comm]
  have L2:(dQ m v2.toNat).toNat=2 * q+1:=by
   rw [ir,h2,ak,Ee,Nat.mul_div_cancel _ (Nat.two_pow_pos z)]
  have hL:=Nt.kQ (n:=2 * q+1) (k:=64) (by rw [←L2];exact (dQ m v2.toNat).toNat_lt)
  obtain ⟨_,_,We⟩:=Nt.jy (n:=2 * q+1) (by omega)
  rw [L2] at h3
  generalize Tz:Nt.bits (2 * q+1)=L at *
  have ew:IntKind.i64.wrap (e+v2)=e+z:=by rw [h2,i64_in _ (by omega)]
  rw [ew] at h4 h5 h8 jM
  have e5:v5=e+z+L:=by rw [h5,h3,i64_in _ (by omega)]
  have e7:v7=e+z+L - 1:=by rw [h7,e5,i64_in _ (by omega)]
  have e8:v8=e+z+1074:=by rw [h8,i64_in _ (by omega)]
  have Ew:v10=53 - L:=by rw [iS,h3,i64_in _ (by omega)]
  have JI:v12=e+z - (53 - L):=by rw [jM,Ew,i64_in _ (by omega)]
  have MR:kq=e+z - (53 - L)+1075:=by rw [nr,JI,i64_in _ (by omega)]
  have e1:v1=false:=by rw [h1,ab (show ¬e < -2000 by omega),ab (show ¬2000<e by omega)];rfl
  have e4:v4=decide (53<L∨e+z < -1074):=by
   rw [h4,h3,Bool.decide_or]
   have:decide ((53:Int)<(L:Int))=decide (53<L):=by
    by_cases c:53<L
    ·rw [aa c,aa (by omega)]
    ·rw [ab c,ab (by omega)]
   rw [this];cases decide (53<L) <;> rfl
  have e6:v6=decide (53<L∨e+z < -1074∨1024<e+z+L):=by
   rw [h6,e4,e5]
   by_cases c:53<L∨e+z < -1074
   ·rw [aa c,ah,aa (by omega)]
   ·rw [ab c,ae]
    by_cases d:1024<e+z+L
    ·rw [aa d,aa (by omega)]
    ·rw [ab d,ab (by omega)]
  have px:∀b:Bool,(!(!b) || !b)=true∧(b || !b)=true∧(!(!b) || (!b&&!b))=true:=by decide
  rw [ab c0,ae,e1,bx (px _).1,bx (px _).2.1,ae,bx (aa (by omega)),bx (px _).1,bx (px _).2.1,bx (px _).2.2,bx (px _).1,bx (px _).2.1,e6]
  by_cases c:53<L∨e+z < -1074∨1024<e+z+L
  ·rw [aa c,ah,Nr.Gn (m':=2 * q+1) (n:=z) n Ee (by omega) (by omega)];rfl
  ·rw [ab c,ae]
   obtain ⟨k,hk⟩:=Int.eq_ofNat_of_zero_le (show 0≤e+z+1074 by omega)
   obtain ⟨t1,t2⟩:=Nr.Hk (m':=2 * q+1) (k:=k) (by omega) (by omega) (by omega)
   have t3:=Nr.MQ _ _ t1
   rw [Nr.Gp (m':=2 * q+1) (n:=z) (k:=k) n Ee (by omega) hk (by omega) (by omega),y6 _ _ t3]
   by_cases d:e+z+L - 1 < -1022
   ·rw [e7,aa d,ah,bx (aa (by omega))]
    have RX:Nr.enc (2 * q+1) k=(2 * q+1) * 2 ^ k:=by unfold Nr.enc;rw [au (by omega)]
    rw [RX] at t3 ⊢
    have e9:v9.toNat=(2 * q+1) * 2 ^ k:=by
     rw [h9,oq,L2,e8,hk,ak];omega
    have:IL n ||| v9=UInt64.ofNat ((2 * q+1) * 2 ^ k+(IL n).toNat):=by
     apply gf
     rw [FA _ _ (by omega),e9,fA,oZ]
     cases n
     ·simp;omega
     ·simp;omega
    rw [this];rfl
   ·rw [e7,ab d,ae,bx (aa (by omega))]
    obtain ⟨b1,b2⟩:=Nr.Da (m':=2 * q+1) (by omega) (by omega)
    have RX:Nr.enc (2 * q+1) k=(k - (53 - L)+1) * 4503599627370496+((2 * q+1) * 2 ^ (53 - L) - 4503599627370496):=by unfold Nr.enc;rw [ao (by omega),Tz]
    rw [Tz] at b1 b2
    have Sv:v10.toNat=53 - L:=by omega
    have MS:v11.toNat=(2 * q+1) * 2 ^ (53 - L):=by rw [kA,oq,L2,Sv];omega
    have Ss:jb.toNat=(2 * q+1) * 2 ^ (53 - L) - 4503599627370496:=by rw [nV,F5,MS];omega
    have Su:kq=((k - (53 - L)+1:Nat):Int):=by omega
    have Hn:jh.toNat=(k - (53 - L)+1) * 4503599627370496:=by
     rw [oa,oq,Su,B4]
     have:(k - (53 - L)+1)<2048:=by omega
     show (k - (53 - L)+1) % 18446744073709551616 * 4503599627370496 % 18446744073709551616=_
     omega
    have Wj:(jh ||| jb).toNat=Nr.enc (2 * q+1) k:=by
     rw [UInt64.toNat_or,Hn,Ss,RX]
     exact nE (k:=52) (by omega)
    have:(IL n ||| jh) ||| jb=UInt64.ofNat (Nr.enc (2 * q+1) k+(IL n).toNat):=by
     apply gf
     rw [UInt64.or_assoc,FA _ _ (by omega),Wj,fA,oZ]
     cases n
     ·simp;omega
     ·simp;omega
    rw [this];rfl
theorem et.goal (n:Bool) (m:UInt64) (e:Int) (hp:decide (-1100≤e∧e≤2000)=true):et.F n m e=some [.u64 (Nr.pat (Nr.join n m.toNat e)),.b (Nr.join n m.toNat e).isSome]:=by
 rw [et.dW]
 cases n
 ·exact et.iz false m e (aq hp)
 ·exact et.iz true m e (aq hp)
end Go.Eng
set_option maxRecDepth 20000
namespace Go.Eng
open Go.IntWalk
theorem LF (x:UInt64):(x &&& (2047:UInt64)).toNat=x.toNat % 2048:=by
 rw [UInt64.toNat_and]
 exact Nat.and_two_pow_sub_one_eq_mod x.toNat 11
theorem Zi.goal (b:UInt64):Zi.F b=some [.i .i64 (Nr.split b).1,.b (Nr.split b).2.1,.u64 (Nr.split b).2.2.1,.i .i64 (Nr.split b).2.2.2]:=by
 refine Zi.bY _ ?_
 intro v1 h1 v2 h2 v3 h3 v4 h4 v5 h5 v6 h6 v7 h7 v8 h8
 have hb:=b.toNat_lt
 have hv1:v1.toNat=b.toNat / 9223372036854775808:=by rw [h1,ir];rfl
 have hv2:v2.toNat=b.toNat / 4503599627370496:=by rw [h2,ir];rfl
 have e3:v3=((b.toNat / 4503599627370496 % 2048:Nat):Int):=by rw [h3,LF,hv2,i64_in _ (by omega)]
 have e4:v4.toNat=b.toNat % 4503599627370496:=by rw [h4,F5]
 have en:decide (v1=1)=decide (9223372036854775808≤b.toNat):=by
  by_cases c:9223372036854775808≤b.toNat
  ·rw [aa c,aa (gf (by rw [hv1];show _=1;omega))]
  ·rw [ab c,ab (fun h=>by have:=congrArg UInt64.toNat h;rw [hv1] at this;have e1:(1:UInt64).toNat=1:=rfl;omega)]
 have ef:decide (v4=0)=decide (b.toNat % 4503599627370496=0):=by
  by_cases c:b.toNat % 4503599627370496=0
  ·rw [aa c,aa (gf (by rw [e4];exact c))]
  ·rw [ab c,ab (fun h=>by have:=congrArg UInt64.toNat h;rw [e4] at this;exact c this)]
 have e4':v4=UInt64.ofNat (b.toNat % 4503599627370496):=gf (by rw [e4,fA];omega)
 have e7:v7=UInt64.ofNat (4503599627370496+b.toNat % 4503599627370496):=gf (by
  rw [h7,UInt64.toNat_add,e4,fA];rfl)
 have e8:v8=((b.toNat / 4503599627370496 % 2048:Nat):Int) - 1075:=by rw [h8,e3,i64_in _ (by omega)]
 have px:∀b:Bool,(!b || b)=true:=by decide
 rw [bx (px _),bx (px _),bx (px _),bx (px _),en]
 unfold Nr.split
 simp only
 rw [ef] at h5 h6
 generalize b.toNat / 4503599627370496 % 2048=x at *
 by_cases c1:x=2047
 ·rw [au c1]
  have e5:v5=false:=by rw [h5,ab (by omega),ae]
  have Po:decide (v3=2047)=true:=aa (by omega)
  rw [Po,ah] at h6
  rw [e5,ae,h6,Po]
  by_cases c2:b.toNat % 4503599627370496=0
  ·rw [aa c2,ah,au c2]
  ·rw [ab c2,ae,ah,ao c2]
 ·rw [ao c1]
  have Po:decide (v3=2047)=false:=ab (by omega)
  rw [Po,ae] at h6
  rw [h6,Po,ae,ae]
  by_cases c2:x=0
  ·have Pp:decide (v3=0)=true:=aa (by omega)
   rw [Pp,ah] at h5
   rw [h5,Pp,au c2,ah]
   by_cases c3:b.toNat % 4503599627370496=0
   ·rw [aa c3,ah,au c3]
   ·rw [ab c3,ae,ao c3,e4']
  ·have Pp:decide (v3=0)=false:=ab (by omega)
   rw [Pp,ae] at h5
   rw [h5,Pp,ao c2,ae,ae,e7,e8]
end Go.Eng
set_option maxRecDepth 20000
namespace Go.Eng
namespace Nr
theorem LD {p q:Nat} (h:p<q):pr p<pr q:=by
 rw [nH,nH]
 have h1:=AF h
 have h2:=AF (show p+1<q+1 by omega)
 omega
theorem ve {a b p q:Nat} (hb:0<b) (h:gZ a b p) (hq:q<p):gZ a b q:=by
 have h1:pr q * b<pr p * b:=Nat.mul_lt_mul_of_pos_right (LD hq) hb
 rcases h with h | ⟨h,_⟩
 ·exact .inl (Nat.lt_trans h1 h)
 ·exact .inl (by omega)
theorem lJ {a b p:Nat} (hb:0<b) (hp:p≤top) (h1:¬gZ a b p) (h2:p=0∨gZ a b (p - 1)):je a b=some p:=by
 classical
 have Jw:∀q,q<p→gZ a b q:=fun q hq=>by
  rcases h2 with h2 | h2
  ·omega
  ·by_cases c:q=p - 1
   ·rw [c];exact h2
   ·exact ve hb h2 (by omega)
 have hx:∃p,p≤top∧¬gZ a b p∧∀q,q<p→gZ a b q:=⟨p,hp,h1,Jw⟩
 unfold je
 rw [dif_pos hx]
 obtain ⟨_,c2,c3⟩:=hx.choose_spec
 congr 1
 rcases Nat.lt_trichotomy hx.choose p with c | c | c
 ·exact (c2 (Jw _ c)).elim
 ·exact c
 ·exact (h1 (c3 _ c)).elim
theorem rz {a b:Nat} (hb:0<b) (h:gZ a b top):je a b=none:=by
 classical
 unfold je
 rw [dif_neg]
 rintro ⟨p,h1,h2,_⟩
 rcases Nat.lt_or_eq_of_le h1 with c | c
 ·exact h2 (ve hb h c)
 ·exact h2 (by rw [c];exact h)
theorem AE {a b c p:Nat} (hc:0<c):gZ (a * c) (b * c) p ↔ gZ a b p:=by
 unfold gZ
 rw [←Nat.mul_assoc,Nat.mul_right_comm a c]
 constructor
 ·rintro (h | ⟨h,o⟩)
  ·exact .inl (Nat.lt_of_mul_lt_mul_right h)
  ·exact .inr ⟨Nat.eq_of_mul_eq_mul_right hc h,o⟩
 ·rintro (h | ⟨h,o⟩)
  ·exact .inl (Nat.mul_lt_mul_of_pos_right h hc)
  ·exact .inr ⟨by rw [h],o⟩
theorem uw {a b c:Nat} (hc:0<c):je (a * c) (b * c)=je a b:=by
 have e:gZ (a * c) (b * c)=gZ a b:=funext fun p=>propext (AE hc)
 unfold je
 rw [e]
theorem Bo {a b c d:Nat} (hb:0<b) (hd:0<d) (h:a * d=c * b):je a b=je c d:=by
 rw [←uw (a:=a) (b:=b) hd,h,Nat.mul_comm b d,uw hb]
theorem yX {a b c d:Nat} (h:a+b=c+d):2 ^ a * 2 ^ b=2 ^ c * 2 ^ d:=by rw [←Nat.pow_add,h,Nat.pow_add]
theorem mul_two {a T U:Nat} (h:U=2 * T):a * U=2 * (a * T):=by rw [h,Nat.mul_left_comm]
theorem Lr (k:Nat):2 ^ (6+k)=64 * 2 ^ k:=by rw [Nat.pow_add]
theorem F1 {n b p q r s:Nat} (h:p * q=r * s):n * p * b * q=n * (b * r) * s:=by
 rw [Nat.mul_assoc n p,Nat.mul_assoc n,Nat.mul_right_comm p,h,Nat.mul_assoc n,Nat.mul_comm (r * s),Nat.mul_assoc b]
theorem lM:jP=2 * 2 ^ 1074:=by decide +kernel
theorem DW {p q b a:Nat} (h:p * b≤a):p * q * b≤a * q:=by
 rw [Nat.mul_right_comm];exact av _ h
theorem OA {v p q b a:Nat} (hv:v=p * q) (h:p * b≤a):v * b≤a * q:=by subst hv;exact DW h
theorem Ja {a b p:Nat} (hb:0<b) (h1:V p * b≤a * 2 ^ 1074) (h2:a * 2 ^ 1074<V (p+1) * b) (hp:p≤top) [Decidable (gZ a b p)] :
  je a b=if gZ a b p then (if p+1≤top then some (p+1) else none) else some p:=by
 have e:a * jP=2 * (a * 2 ^ 1074):=mul_two lM
 split
 ·rename_i h
  split
  ·rename_i ht
   refine lJ hb ht ?_ (.inr h)
   unfold gZ
   rw [e,nH,Nat.add_mul]
   have:=Nat.mul_lt_mul_of_pos_right (pn (p+1)) hb
   omega
  ·rename_i ht
   have:p=top:=by omega
   exact rz hb (this ▸ h)
 ·rename_i h
  refine lJ hb hp h ?_
  by_cases c:p=0
  ·exact .inl c
  ·refine .inr (.inl ?_)
   rw [e,nH,Nat.add_mul,show p - 1+1=p by omega]
   have:=Nat.mul_lt_mul_of_pos_right (AF (show p - 1<p by omega)) hb
   omega
theorem F0 {a b p:Nat} (hb:0<b) (h1:V p * b≤a * 2 ^ 1074) (hp:top<p):je a b=none:=by
 refine rz hb (.inl ?_)
 have e:a * jP=2 * (a * 2 ^ 1074):=mul_two lM
 rw [e,nH,Nat.add_mul]
 have h3:=Nat.mul_lt_mul_of_pos_right (AF (show top<p by omega)) hb
 have h4:=av b (PH (show top+1≤p by omega))
 omega
theorem DS (b:Nat) (hb:0<b):je 0 b=some 0:=by
 refine lJ hb (Nat.zero_le _) ?_ (.inl rfl)
 unfold gZ
 rw [Nat.zero_mul]
 have:0<pr 0 * b:=Nat.mul_pos (by decide) hb
 omega
theorem FY {a b:Nat} (hb:0<b) (h:a * jP≤b):je a b=some 0:=by
 refine lJ hb (Nat.zero_le _) ?_ (.inl rfl)
 unfold gZ
 have e:pr 0 * b=b:=by rw [show pr 0=1 by decide,Nat.one_mul]
 rw [e]
 omega
def wZ:Nat:=2 ^ 1024
theorem Nh:V (top+1)=wZ * 2 ^ 1074:=by decide +kernel
theorem DT {a b:Nat} (hb:0<b) (h:wZ * b≤a):je a b=none:=by
 refine rz hb (.inl ?_)
 rw [nH,Nat.add_mul]
 have h3:=Nat.mul_lt_mul_of_pos_right (pn top) hb
 have h4:V (top+1) * b≤a * 2 ^ 1074:=by
  exact OA Nh h
 have e:a * jP=2 * (a * 2 ^ 1074):=mul_two lM
 omega
theorem Jb {a b p:Nat} (h:je a b=some p):p≤top:=by
 unfold je at h
 split at h
 ·rename_i hx
  have:=hx.choose_spec.1
  injection h with h
  rw [h] at this;exact this
 ·cases h
end Nr
end Go.Eng
set_option maxRecDepth 20000
namespace Go.Eng
open Go.IntWalk
theorem yF {a b:List UInt16} (i:Nat) (ha:i<a.length) (hb:i<b.length) (h:(a.getD i 0).toNat<(b.getD i 0).toNat):Nt.val (a.take (i+1))<Nt.val (b.take (i+1)):=by
 rw [dA a i ha,dA b i hb]
 have h1:=Nt.iJ (a.take i)
 rw [aF,Nat.min_eq_left (by omega)] at h1
 generalize (a.getD i 0).toNat=x at *
 generalize (b.getD i 0).toNat=y at *
 have:65536 ^ i * x+65536 ^ i≤65536 ^ i * y:=by
  rw [←Nat.mul_succ];exact Nat.mul_le_mul_left _ (by omega)
 omega
theorem xP {a b:List UInt16} (hl:a.length=b.length) (i:Nat) (h:a.drop i=b.drop i):(Nt.val a<Nt.val b ↔ Nt.val (a.take i)<Nt.val (b.take i))∧(Nt.val a=Nt.val b ↔ Nt.val (a.take i)=Nt.val (b.take i)):=by
 have e1:Nt.val a=Nt.val (a.take i)+65536 ^ (a.take i).length * Nt.val (a.drop i):=by rw [←Nt.gh,List.take_append_drop]
 have e2:Nt.val b=Nt.val (b.take i)+65536 ^ (b.take i).length * Nt.val (b.drop i):=by rw [←Nt.gh,List.take_append_drop]
 have e3:(b.take i).length=(a.take i).length:=by rw [aF,aF,hl]
 rw [e3,←h] at e2
 omega
theorem fc.cO (a b:List UInt16) (hl:a.length=b.length) (hb:a.length≤1099511627776):∀(n:Nat),n≤a.length→a.drop n=b.drop n→fc.l1 a b ((n:Int) - 1)=some [.i .i64 (Nt.cmp (Nt.val a) (Nt.val b))]:=by
 intro n
 induction n with
 | zero =>
  intro hn hd
  refine fc.bX _ _ _ ?_
  intro v1 h1 v2 h2 v3 h3
  simp only [bh] at hd
  rw [ab (by omega),ae,hd,Nt.cmp,ao (by omega),au rfl]
 | succ n ih =>
  intro hn hd
  refine fc.bX _ _ _ ?_
  intro v1 h1 v2 h2 v3 h3
  have e:((n+1:Nat):Int) - 1=(n:Int):=by omega
  rw [e] at h1 h2 h3 ⊢
  rw [ak] at h1 h2
  rw [aa (by omega),ah,bx (bN (by omega) (by omega)),bx (bN (by omega) (by omega))]
  obtain ⟨d1,d2⟩:=xP hl (n+1) hd
  by_cases c:v1=v2
  ·rw [aa c,aG,ae,h3,i64_in _ (by omega)]
   refine ih (by omega) ?_
   rw [drop_cons (show n<a.length by omega) 0,drop_cons (show n<b.length by omega) 0,hd,←h1,←h2,c]
  ·rw [ab c,aI,ah,bx (bN (by omega) (by omega)),bx (bN (by omega) (by omega))]
   by_cases c2:v1<v2
   ·have:=yF (a:=a) (b:=b) n (by omega) (by omega) (by rw [←h1,←h2];exact UInt16.lt_iff_toNat_lt.1 c2)
    rw [aa c2,ah,Nt.cmp,au (d1.2 this)]
   ·have h4:v2.toNat<v1.toNat:=by
     have h5:v1.toNat≠v2.toNat:=fun e=>c (UInt16.toNat_inj.1 e)
     rw [UInt16.lt_iff_toNat_lt] at c2;omega
    have:=yF (a:=b) (b:=a) n (by omega) (by omega) (by rw [←h1,←h2];exact h4)
    rw [ab c2,ae,Nt.cmp,ao (fun e=>by have:=d1.1 e;omega),ao (fun e=>by have:=d2.1 e;omega)]
theorem fc.goal (a b:List UInt16) (hp:(decide (a.length≤1099511627776∧b.length≤1099511627776)&&(Nt.norm a&&Nt.norm b))=true):fc.F a b=some [.i .i64 (Nt.cmp (Nt.val a) (Nt.val b))]:=by
 simp only [af,aA] at hp
 obtain ⟨⟨l1,l2⟩,n1,n2⟩:=hp
 refine fc.bY _ _ ?_
 intro v1 h1
 rcases Nat.lt_trichotomy a.length b.length with c | c | c
 ·have:=Nt.rB n2 c
  rw [ab (show ¬(a.length:Int)=b.length by omega),aI,ah,aa (by omega),ah,Nt.cmp,au this]
 ·rw [aa (show (a.length:Int)=b.length by omega),aG,ae,h1,xr l1]
  exact fc.cO a b c l1 a.length (Nat.le_refl _) (by rw [List.drop_length,c,List.drop_length])
 ·have:=Nt.rB n1 c
  rw [ab (show ¬(a.length:Int)=b.length by omega),aI,ah,ab (by omega),ae,Nt.cmp,ao (by omega),ao (by omega)]
theorem gD.goal (a b:List UInt16) (hp:(Nt.is a&&Nt.is b)=true):gD.F a b=some [.i .i64 (Nt.cmp (Nt.val a) (Nt.val b))]:=by
 simp only [af] at hp
 have l1:=Nt.jH hp.1
 have l2:=Nt.jH hp.2
 refine gD.bY _ _ ?_
 intro v1 h1 v2 h2
 rw [hp.1,hp.2] at h1
 rw [hp.1]
 have e1:v1=false:=h1
 have d1:decide (a.length≤1099511627776)=true:=aa (by omega)
 have d2:decide (b.length≤1099511627776)=true:=aa (by omega)
 have d3:decide (a.length≤1099511627776∧b.length≤1099511627776)=true:=aa ⟨by omega,by omega⟩
 rw [d1,d2,d3,e1,h2,Nt.jB hp.1,Nt.jB hp.2]
 rfl
theorem cH.cO (a:List UInt16) (ha:a.length≤256):∀(m i:Nat) (acc:List Int),i+m=a.length→acc.length=a.length→(acc.take i)=(a.take i).map (fun d=>(d.toNat:Int))→cH.l1 a a.length i acc=some [.sl .is (a.map fun d=>(d.toNat:Int))]:=by
 intro m
 induction m with
 | zero =>
  intro i acc hi hl ht
  refine cH.bX _ _ _ _ ?_
  intro v1 h1 v2 h2 v3 h3 v4 h4
  rw [List.take_of_length_le (by omega),List.take_of_length_le (by omega)] at ht
  rw [ab (by omega),ae,ht]
 | succ m ih =>
  intro i acc hi hl ht
  refine cH.bX _ _ _ _ ?_
  intro v1 h1 v2 h2 v3 h3 v4 h4
  rw [ak] at h1 h3
  have hv:=v1.toNat_lt
  rw [i64_in _ (by omega)] at h2
  have e4:v4=((i+1:Nat):Int):=by rw [h4,i64_in _ (by omega)];omega
  rw [aa (by omega),ah,bx (bN (by omega) (by omega)),bx (bN (by omega) (by omega)),bx (aa (by rw [ak];omega)),e4]
  refine ih (i+1) v3 (by omega) (by rw [h3,List.length_set];exact hl) ?_
  have KA:i<a.length:=by omega
  rw [h3,List.take_set,List.take_add_one,List.take_add_one,List.map_append,ht.symm]
  have OU:i<acc.length:=by omega
  rw [ar OU,ar KA]
  have gk:(acc.take i).length=i:=by rw [aF];omega
  simp only [Option.toList_some,aX,bw]
  rw [List.set_append_right _ _ (by omega),gk,Nat.sub_self,List.set_cons_zero,h2,h1,ai,ar KA]
  rfl
theorem cH.goal (a:List UInt16) (hp:decide (a.length≤256)=true):cH.F a=some [.sl .is (a.map fun d=>(d.toNat:Int))]:=by
 have h:=aq hp
 refine cH.bY _ ?_
 intro v1 h1
 rw [ak] at h1
 rw [bx (kZ.2 ⟨by omega,by omega,by omega,by rw [jA];omega⟩)]
 exact cH.cO a h a.length 0 v1 (by omega) (by rw [h1];simp) (by simp)
end Go.Eng
set_option maxRecDepth 20000
namespace Go.Eng
open Go.IntWalk
theorem Nt.z8 (k n:Nat):Nt.fix (k+1) n=Nt.fix k n++[UInt16.ofNat (n / 65536 ^ k)]:=by
 induction k generalizing n with
 | zero=>simp [Nt.fix]
 | succ k ih =>
  rw [Nt.fix,ih (n / 65536),Nt.fix,List.cons_append,Nat.div_div_eq_div_mul,Nat.pow_succ,Nat.mul_comm 65536]
theorem Nt.LA {k n:Nat} (h1:n<65536 ^ k) (h2:k=0∨65536 ^ (k - 1)≤n):Nt.of n=Nt.fix k n:=by
 have e:Nt.val (Nt.fix k n)=n:=by rw [Nt.oU,Nat.mod_eq_of_lt h1]
 conv=>lhs;rw [←e]
 refine Nt.dJ ?_
 rcases h2 with rfl | h2
 ·rfl
 ·cases k with
  | zero=>rfl
  | succ k =>
   rw [Nt.z8,Nt.mV]
   rw [Nat.add_sub_cancel] at h2
   refine aa fun e0=>?_
   have:=congrArg UInt16.toNat e0
   rw [Nt.dI] at this
   have h3:n / 65536 ^ k<65536:=(Nat.div_lt_iff_lt_mul (Nat.pow_pos (by omega))).2 (by rw [Nat.pow_succ,Nat.mul_comm] at h1;exact h1)
   have h4:0<n / 65536 ^ k:=Nat.div_pos h2 (Nat.pow_pos (by omega))
   have e0:(0:UInt16).toNat=0:=rfl
   omega
theorem om (n:Nat):UInt16.ofInt (n:Int)=UInt16.ofNat n:=nu n
theorem xL (n:Nat):Int.fdiv (n:Int) (2 ^ (min (16:UInt64).toNat IntKind.i64.bits))=((n / 65536:Nat):Int):=by
 rw [show (2:Int) ^ (min (16:UInt64).toNat IntKind.i64.bits)=65536 by decide,Int.fdiv_eq_ediv_of_nonneg _ (by omega)]
 omega
theorem da.cO (a:List UInt16) (b c:Nat) (ha:a.length≤1000000) (hb:1≤b∧b≤65535) (hc:c≤65535) (hn:Nt.norm a=true):∀(m i:Nat) (acc:List UInt16) (k:Nat),i+m=a.length→acc.length=i→k≤65535→Nt.val acc+65536 ^ i * k=Nt.val (a.take i) * b+c →
  da.l1 b acc k a a.length i=some [.sl .ws (Nt.of (Nt.val a * b+c))]:=by
 intro m
 induction m with
 | zero =>
  intro i acc k hi hl hk hv
  refine da.bX _ _ _ _ _ _ ?_
  intro v1 h1 v2 h2 v3 h3 v4 h4 v5 h5 v6 h6 v7 h7
  rw [List.take_of_length_le (by omega)] at hv
  rw [ab (by omega),ae]
  have KA:i=a.length:=by omega
  by_cases c0:k=0
  ·subst c0
   rw [ab (by omega),ae,da.lf,←hv,Nat.mul_zero,Nat.add_zero,Nt.dJ]
   by_cases h0:a=[]
   ·subst h0
    have:acc=[]:=bf (by rw [hl,KA];rfl)
    rw [this];rfl
   ·-- the last digit is no Rb
    have pT:=mW hn h0
    have Qh:=List.length_pos_iff.2 h0
    have So:acc≠[]:=by intro e;subst e;simp at hl;omega
    rw [mX So]
    simp only [Bool.not_eq_true',decide_eq_false_iff_not]
    intro e0
    have Ih:=dA acc (acc.length - 1) (by omega)
    rw [show acc.length - 1+1=acc.length by omega,List.take_length,e0] at Ih
    have gk:=Nt.iJ (acc.take (acc.length - 1))
    rw [aF,Nat.min_eq_left (by omega),hl,KA] at gk
    rw [hl,KA] at Ih
    have h5:65536 ^ (a.length - 1) * 1≤65536 ^ (a.length - 1) * (a.getD (a.length - 1) 0).toNat:=Nat.mul_le_mul_left _ pT.1
    have h6:Nt.val a * 1≤Nt.val a * b:=Nat.mul_le_mul_left _ hb.1
    have Pr:(0:UInt16).toNat=0:=rfl
    rw [Pr] at Ih
    omega
  ·have e7:v7=[UInt16.ofNat k]:=by rw [h7,om]
   rw [aa (by omega),ah,bx (dP (by rw [e7,ay];omega) (by rw [e7,ay];omega)),da.lf,e7,←hv]
   have e8:Nt.val (acc++[UInt16.ofNat k])=Nt.val acc+65536 ^ i * k:=by
    rw [Nt.gh,hl];simp only [Nt.val,Nat.mul_zero,Nat.add_zero,Nt.dI];rw [Nat.mod_eq_of_lt (by omega)]
   rw [←e8,Nt.dJ]
   rw [Nt.mV]
   refine aa fun e=>?_
   have:=congrArg UInt16.toNat e
   rw [Nt.dI] at this
   have e0:(0:UInt16).toNat=0:=rfl
   omega
 | succ m ih =>
  intro i acc k hi hl hk hv
  refine da.bX _ _ _ _ _ _ ?_
  intro v1 h1 v2 h2 v3 h3 v4 h4 v5 h5 v6 h6 v7 h7
  rw [ak] at h1
  have hd:=v1.toNat_lt
  rw [i64_in _ (by omega)] at h2
  have hm:v1.toNat * b≤65535 * 65535:=Nat.mul_le_mul (by omega) hb.2
  have e3:v3=((k+v1.toNat * b:Nat):Int):=by
   have e:v2 * (b:Int)=((v1.toNat * b:Nat):Int):=by rw [h2,Int.natCast_mul]
   rw [h3,e,i64_in ((v1.toNat * b:Nat):Int) (by omega),i64_in _ (by omega)];omega
  have e4:v4=[UInt16.ofNat (k+v1.toNat * b)]:=by rw [h4,e3,om]
  have e5:v5=(((k+v1.toNat * b) / 65536:Nat):Int):=by rw [h5,e3,xL]
  have e6:v6=((i+1:Nat):Int):=by rw [h6,i64_in _ (by omega)];omega
  rw [aa (by omega),ah,bx (bN (by omega) (by omega)),bx (dP (by rw [e4,ay];omega) (by rw [e4,ay];omega)),e5,e6,e4]
  refine ih (i+1) _ _ (by omega) (by rw [aj,hl];rfl) (by omega) ?_
  rw [dA a i (by omega),←h1,Nt.gh,hl]
  simp only [Nt.val,Nat.mul_zero,Nat.add_zero,Nt.dI]
  generalize hq:k+v1.toNat * b=q
  rw [Nat.pow_succ,Nat.mul_assoc,Nat.add_assoc,←Nat.mul_add]
  have:q % 65536+65536 * (q / 65536)=q:=Nat.mod_add_div q 65536
  rw [this,←hq,Nat.mul_add,Nat.add_mul,←Nat.mul_assoc]
  omega
theorem da.goal (a:List UInt16) (b c:Int) (hp:(decide (a.length≤1000000∧1≤b∧b≤65535∧0≤c∧c≤65535)&&Nt.norm a)=true):da.F a b c=some [.sl .ws (Nt.of (Nt.val a * b.toNat+c.toNat))]:=by
 simp only [af,aA] at hp
 obtain ⟨⟨l1,b1,b2,c1,c2⟩,n1⟩:=hp
 refine da.bY _ _ _ ?_
 intro v1 h1 v2 h2
 have e1:v1=((a.length+1:Nat):Int):=by rw [h1,i64_in _ (by omega)];omega
 rw [e1,bx (kZ.2 ⟨by omega,by omega,by omega,by rw [jA];omega⟩)]
 have eb:(b.toNat:Int)=b:=by omega
 have ec:(c.toNat:Int)=c:=by omega
 have:=da.cO a b.toNat c.toNat l1 ⟨by omega,by omega⟩ (by omega) n1 a.length 0 v2 c.toNat (by omega) (by rw [h2];rfl) (by omega) (by rw [h2];simp [Nt.val])
 rw [eb,ec] at this
 exact this
end Go.Eng
set_option maxRecDepth 20000
namespace Go.Eng
open Go.IntWalk
theorem de.cO (b E:Nat) (hb:2≤b∧b≤65535) (hE:E≤1000) (gk:b ^ E<2 ^ 4096):∀(m:Nat),m≤E→de.l1 b m (Nt.of (b ^ (E - m)))=some [.sl .ws (Nt.of (b ^ E)),.b true]:=by
 intro m
 induction m with
 | zero =>
  intro hm
  refine de.bX _ _ _ ?_
  intro v1 h1 v2 h2
  rw [ab (by omega),ae,Nat.sub_zero]
 | succ m ih =>
  intro hm
  refine de.bX _ _ _ ?_
  intro v1 h1 v2 h2
  have hle:∀j,j≤E→b ^ j<2 ^ 4096:=fun j hj=>Nat.lt_of_le_of_lt (Nat.pow_le_pow_right (by omega) hj) gk
  have hi:=Nt.pD (hle (E - (m+1)) (by omega))
  have hl:=Nt.jH hi
  have e1:v1=Nt.of (b ^ (E - m)):=by
   rw [h1,Nt.eY,ak,show (0:Int).toNat=0 from rfl,Nat.add_zero,←Nat.pow_succ]
   congr 2;omega
  have OV:=Nt.pD (hle (E - m) (by omega))
  have Mj:=Nt.jH OV
  rw [aa (by omega),ah,Nt.qo,bx (by rw [Bool.and_true];exact aa (by omega)),e1,bx (aa (by omega)),OV,aG,ae,h2,i64_in _ (by omega)]
  rw [show ((m+1:Nat):Int) - 1=(m:Int) by omega]
  exact ih (by omega)
theorem de.goal (b e:Int) (hp:decide (2≤b∧b≤65535∧0≤e∧e≤1000∧b.toNat ^ e.toNat<2 ^ 4096)=true):de.F b e=some [.sl .ws (Nt.of (b.toNat ^ e.toNat)),.b true]:=by
 obtain ⟨b1,b2,e1,e2,gk⟩:=aq hp
 refine de.bY _ _ ?_
 intro v1 h1 v2 h2 v3 h3 v4 h4
 have d1:v1=false:=by rw [h1,ab (by omega),ae];exact ab (by omega)
 have d2:v2=false:=by rw [h2,d1,ae];exact ab (by omega)
 simp only [aW,bn,Bool.not_not,bU]
 rw [d2,ae]
 by_cases c:e=0
 ·have d3:v3=true:=by rw [h3,aa c,ah]
  rw [d3,ah,c,h4,show (0:Int).toNat=0 from rfl,Nat.pow_zero];rfl
 ·have d3:v3=false:=by rw [h3,ab c,ae];exact ab (by omega)
  rw [d3,ae,ab (by omega),ae]
  have:=de.cO b.toNat e.toNat ⟨by omega,by omega⟩ (by omega) gk e.toNat (Nat.le_refl _)
  rw [Nat.sub_self,Nat.pow_zero,show ((b.toNat:Nat):Int)=b by omega,show ((e.toNat:Nat):Int)=e by omega] at this
  rw [h4];exact this
theorem Nr.uu (d:bz) (c:UInt8):Nr.num (d++[c])=10 * Nr.num d+(c.toNat - 48):=by
 unfold Nr.num;rw [List.foldl_append];rfl
theorem Nr.mZ {c:UInt8}:Nr.eU c=true ↔ 48≤c.toNat∧c.toNat≤57:=by
 simp only [Nr.eU,aA,UInt8.le_iff_toNat_le];exact Iff.rfl
theorem Nr.LC (d:bz) (h:d.all Nr.eU=true):∀n:Nat,d.foldl (fun n c=>10 * n+(c.toNat - 48)) n<(n+1) * 10 ^ d.length:=by
 induction d with
 | nil=>intro n;simp
 | cons c d ih =>
  intro n
  rw [List.all_cons,af,Nr.mZ] at h
  rw [List.foldl_cons,az,Nat.pow_succ]
  refine Nat.lt_of_lt_of_le (ih h.2 _) ?_
  rw [Nat.mul_comm (10 ^ d.length),←Nat.mul_assoc]
  exact av _ (by omega)
theorem Nr.xm (d:bz) (h:d.all Nr.eU=true):Nr.num d<10 ^ d.length:=by
 have:=Nr.LC d h 0
 rwa [Nat.zero_add,Nat.one_mul] at this
theorem Dq {s:bz} {i:Nat} (h:i<s.length):s.take (i+1)=s.take i++[s.getD i 0]:=by
 rw [List.take_add_one,ar h,ai,ar h];rfl
theorem H0 {s:bz} {i:Nat} (hs:s.all Nr.eU=true) (h:i<s.length):48≤(s.getD i 0).toNat∧(s.getD i 0).toNat≤57:=by
 rw [ai,ar h]
 have:=aD.1 hs _ (List.getElem_mem h)
 simp only [Nr.eU,aA] at this
 exact ⟨UInt8.le_iff_toNat_le.1 this.1,UInt8.le_iff_toNat_le.1 this.2⟩
theorem K9 (k:Nat) (h:k≤300):10 ^ k<2 ^ 4096:=by
 have hk:∀n:Nat,n=300→10 ^ k≤10 ^ n:=fun n hn=>Nat.pow_le_pow_right (by omega) (by omega)
 exact Nat.lt_of_le_of_lt (hk 300 rfl) (by decide +kernel)
theorem dz.cO (s:bz) (hs:s.all Nr.eU=true) (hl:s.length≤300):∀(m i:Nat),i+m=s.length→dz.l1 s (Nt.of (Nr.num (s.take i))) s.length i=some [.sl .ws (Nt.of (Nr.num s)),.b true]:=by
 have gk:∀i,Nr.num (s.take i)<2 ^ 4096:=fun i=>by
  have h1:=Nr.xm (s.take i) (by rw [aD] at hs ⊢;exact fun x hx=>hs x (List.mem_of_mem_take hx))
  have h2:(s.take i).length≤300:=by rw [aF];omega
  exact Nat.lt_of_lt_of_le h1 (Nat.le_of_lt (K9 _ h2))
 intro m
 induction m with
 | zero =>
  intro i hi
  have Qj:=Nt.pD (gk i)
  refine dz.bX _ _ _ _ ?_
  intro v1 h1 v2 h2 v3 h3 v4 h4 v5 h5
  have OK:=Nt.jH Qj
  rw [ab (by omega),ae,bx (aa (by omega)),Qj,aG,ae,List.take_of_length_le (by omega)]
 | succ m ih =>
  intro i hi
  have Qj:=Nt.pD (gk i)
  refine dz.bX _ _ _ _ ?_
  intro v1 h1 v2 h2 v3 h3 v4 h4 v5 h5
  have OK:=Nt.jH Qj
  rw [ak] at h1
  obtain ⟨c1,c2⟩:=H0 hs (show i<s.length by omega)
  rw [←h1] at c1 c2
  have f1:decide (v1<(48:UInt8))=false:=ab fun e=>by
   have:=UInt8.lt_iff_toNat_lt.1 e
   have e0:(48:UInt8).toNat=48:=rfl
   omega
  have f2:decide ((57:UInt8)<v1)=false:=ab fun e=>by
   have:=UInt8.lt_iff_toNat_lt.1 e
   have e0:(57:UInt8).toNat=57:=rfl
   omega
  have e2:v2=false:=by rw [h2,f1,ae,f2]
  have e3:v3=((v1.toNat - 48:Nat):Int):=by
   have e:(v1 - 48).toNat=v1.toNat - 48:=UInt8.toNat_sub_of_le v1 48 (UInt8.le_iff_toNat_le.2 c1)
   rw [h3,e,i64_in _ (by omega)]
  have e5:v5=((i+1:Nat):Int):=by rw [h5,i64_in _ (by omega)];omega
  have e4:v4=Nt.of (Nr.num (s.take (i+1))):=by
   rw [h4,Nt.eY,Dq (by omega),Nr.uu,←h1,e3,ak,show (10:Int).toNat=10 from rfl,Nat.mul_comm]
  have hx:bD (i:Int) s.length=true:=bN (by omega) (by omega)
  have hc:decide ((Nt.of (Nr.num (s.take i))).length≤1000000∧1≤(10:Int)∧(10:Int)≤65535∧0≤v3∧v3≤65535)=true:=aa (by omega)
  rw [aa (show (i:Int)<s.length by omega)]
  simp only [f1,e2,hx,hc,Nt.qo,aI,aG,Bool.false_or,Bool.or_true,Bool.true_or,aZ,bU,ae,ah]
  rw [e4,e5]
  exact ih (i+1) (by omega)
theorem dz.goal (s:bz) (hp:(decide (1≤s.length∧s.length≤300∧s.getD 0 0≠48)&&s.all Nr.eU)=true):dz.F s=some [.sl .ws (Nt.of (Nr.num s)),.b true]:=by
 simp only [af,aA] at hp
 obtain ⟨⟨l1,l2,l3⟩,hs⟩:=hp
 refine dz.bY _ ?_
 intro v1 h1 v2 h2 v3 h3 v4 h4
 have nN:s≠[]:=by intro e;subst e;simp at l1
 have d0:decide (s=([]:bz))=false:=ab nN
 have d1:v1=false:=by rw [h1,d0,ae];exact ab (by omega)
 have d2:decide (v2=(48:UInt8))=false:=by rw [h2];exact ab l3
 rw [d2] at h3 h4 ⊢
 have d3:v3=false:=by rw [h3,d1];rfl
 have d4:v4=false:=h4
 have hx:bD 0 s.length=true:=bN (by omega) (by omega)
 simp only [d0,d1,d3,d4,hx,aI,aG,Bool.false_or,Bool.or_true,Bool.true_or,aZ,bU,ae,ah]
 have:=dz.cO s hs l2 s.length 0 (by omega)
 rw [List.take_zero,show Nr.num []=0 from rfl,Nt.iU] at this
 exact this
theorem Jl {a acc:List UInt16} {b c k:Nat} (hn:Nt.norm a=true) (hl:acc.length=a.length) (hb:1≤b) (hk:k≤65535) (hv:Nt.val acc+65536 ^ a.length * k=Nt.val a * b+c) :
  (k=0→Nt.of (Nt.val a * b+c)=acc)∧(k≠0→Nt.of (Nt.val a * b+c)=acc++[UInt16.ofNat k]):=by
 refine ⟨fun c0=>?_,fun c0=>?_⟩
 ·subst c0
  rw [←hv,Nat.mul_zero,Nat.add_zero,Nt.dJ]
  by_cases h0:a=[]
  ·subst h0
   have:acc=[]:=bf hl
   rw [this];rfl
  ·have pT:=mW hn h0
   have Qh:=List.length_pos_iff.2 h0
   have So:acc≠[]:=by intro e;subst e;simp at hl;omega
   rw [mX So]
   simp only [Bool.not_eq_true',decide_eq_false_iff_not]
   intro e0
   have Ih:=dA acc (acc.length - 1) (by omega)
   rw [show acc.length - 1+1=acc.length by omega,List.take_length,e0] at Ih
   have gk:=Nt.iJ (acc.take (acc.length - 1))
   rw [aF,Nat.min_eq_left (by omega),hl] at gk
   rw [hl] at Ih
   have h5:65536 ^ (a.length - 1) * 1≤65536 ^ (a.length - 1) * (a.getD (a.length - 1) 0).toNat:=Nat.mul_le_mul_left _ pT.1
   have h6:Nt.val a * 1≤Nt.val a * b:=Nat.mul_le_mul_left _ hb
   have Pr:(0:UInt16).toNat=0:=rfl
   rw [Pr] at Ih
   omega
 ·have e8:Nt.val (acc++[UInt16.ofNat k])=Nt.val acc+65536 ^ a.length * k:=by
   rw [Nt.gh,hl];simp only [Nt.val,Nat.mul_zero,Nat.add_zero,Nt.dI];rw [Nat.mod_eq_of_lt (by omega)]
  rw [←hv,←e8,Nt.dJ]
  rw [Nt.mV]
  refine aa fun e=>?_
  have:=congrArg UInt16.toNat e
  rw [Nt.dI] at this
  have e0:(0:UInt16).toNat=0:=rfl
  omega
theorem kH (d:UInt16):(UInt32.ofInt (d.toNat:Int)).toNat=d.toNat:=by
 have h:=qW (d.toNat:Int)
 rw [wrap_u32'] at h
 have:=d.toNat_lt
 omega
theorem j5 (x:UInt32):UInt16.ofInt (x.toNat:Int)=UInt16.ofNat x.toNat:=nu _
theorem fq.cO (a:List UInt16) (n:Nat) (ha:a.length≤1000000) (hn:Nt.norm a=true) (VJ:n<16):∀(m i:Nat) (acc:List UInt16) (k:UInt32),i+m=a.length→acc.length=i→k.toNat<2 ^ n→Nt.val acc+65536 ^ i * k.toNat=Nt.val (a.take i) * 2 ^ n →
  fq.l1 n acc k a a.length i=some [.sl .ws (Nt.of (Nt.val a * 2 ^ n))]:=by
 have RC:2 ^ n≤32768:=Nat.pow_le_pow_right (n:=2) (by omega) (show n≤15 by omega)
 have Jr:=Nat.two_pow_pos n
 intro m
 induction m with
 | zero =>
  intro i acc k hi hl hk hv
  refine fq.bX _ _ _ _ _ _ ?_
  intro v1 h1 v2 h2 v3 h3 v4 h4 v5 h5 v6 h6 v7 h7
  rw [List.take_of_length_le (by omega)] at hv
  rw [ab (by omega),ae]
  have KA:i=a.length:=by omega
  have he:=Jl (a:=a) (acc:=acc) (b:=2 ^ n) (c:=0) (k:=k.toNat) hn (by omega) Jr (by omega) (by rw [←KA,Nat.add_zero];exact hv)
  rw [Nat.add_zero] at he
  by_cases c0:k=0
  ·rw [c0,ab (by decide),ae,fq.lf,he.1 (by rw [c0];rfl)]
  ·have VO:k.toNat≠0:=fun e=>c0 (UInt32.toNat_inj.1 e)
   have e7:v7=UInt16.ofNat k.toNat:=by rw [h7,j5]
   rw [aa (by rw [UInt32.lt_iff_toNat_lt];show 0<k.toNat;omega),ah,bx (dP (by rw [ay];omega) (by rw [ay];omega)),fq.lf,e7,he.2 VO]
 | succ m ih =>
  intro i acc k hi hl hk hv
  refine fq.bX _ _ _ _ _ _ ?_
  intro v1 h1 v2 h2 v3 h3 v4 h4 v5 h5 v6 h6 v7 h7
  rw [ak] at h1 h3
  have hd:=v1.toNat_lt
  have hm:v1.toNat * 2 ^ n≤65535 * 32768:=Nat.mul_le_mul (by omega) RC
  have e3:v3.toNat=k.toNat+v1.toNat * 2 ^ n:=by
   rw [h3,UInt32.toNat_or,qf,UInt32.toNat_ofNat',h2,kH,Nat.mod_eq_of_lt (by omega),Nat.or_comm,nE hk,Nat.add_comm]
  have e4:v4=UInt16.ofNat (k.toNat+v1.toNat * 2 ^ n):=by rw [h4,j5,e3]
  have e5:v5.toNat=(k.toNat+v1.toNat * 2 ^ n) / 65536:=by
   rw [h5,tV,UInt32.toNat_ofNat',e3,show (16:UInt64).toNat=16 from rfl];omega
  have e6:v6=((i+1:Nat):Int):=by rw [h6,i64_in _ (by omega)];omega
  rw [aa (by omega),ah,bx (bN (by omega) (by omega)),bx (aa (by omega)),bx (dP (by rw [ay];omega) (by rw [ay];omega)),e6,e4]
  refine ih (i+1) _ v5 (by omega) (by rw [aj,hl];rfl) ?_ ?_
  ·rw [e5]
   have:(k.toNat+v1.toNat * 2 ^ n)<65536 * 2 ^ n:=by
    have:v1.toNat * 2 ^ n≤65535 * 2 ^ n:=av _ (by omega)
    omega
   exact (Nat.div_lt_iff_lt_mul (by omega)).2 (by rw [Nat.mul_comm (2 ^ n) 65536];exact this)
  ·rw [dA a i (by omega),←h1,Nt.gh,hl,e5]
   simp only [Nt.val,Nat.mul_zero,Nat.add_zero,Nt.dI]
   generalize hq:k.toNat+v1.toNat * 2 ^ n=q
   rw [Nat.pow_succ,Nat.mul_assoc,Nat.add_assoc,←Nat.mul_add]
   have:q % 65536+65536 * (q / 65536)=q:=Nat.mod_add_div q 65536
   rw [this,←hq,Nat.mul_add,Nat.add_mul,←Nat.mul_assoc]
   omega
theorem fq.goal (a:List UInt16) (n:Int) (hp:(decide (a.length≤1000000∧0≤n∧n<16)&&Nt.norm a)=true):fq.F a n=some [.sl .ws (Nt.of (Nt.val a * 2 ^ n.toNat))]:=by
 simp only [af,aA] at hp
 obtain ⟨⟨l1,n1,n2⟩,hn⟩:=hp
 rw [fq.dW]
 have:=fq.cO a n.toNat l1 hn (by omega) a.length 0 [] 0 (by omega) rfl (by show 0<2 ^ n.toNat;exact Nat.two_pow_pos _) (by simp [Nt.val])
 rw [show ((n.toNat:Nat):Int)=n by omega] at this
 exact this
end Go.Eng
set_option maxRecDepth 20000
namespace Go.Eng
open Go.IntWalk
theorem Kf:(65536:Nat) ^ 257=65536 ^ 256 * 65536:=by decide +kernel
theorem oj:∀k,Nt.val (List.replicate k 0)=0
 | 0=>rfl
 | k+1=>by rw [List.replicate_succ,Nt.val,oj k];rfl
theorem iZ.goal (a:List UInt16) (n:Int) (hp:(decide (0≤n∧n≤4096)&&Nt.is a)=true):iZ.F a n=some [.sl .ws (Nt.of (Nt.val a * 2 ^ n.toNat))]:=by
 simp only [af,aA] at hp
 obtain ⟨⟨n1,n2⟩,ha⟩:=hp
 have hl:=Nt.jH ha
 have hn:=Nt.jB ha
 refine iZ.bY _ _ ?_
 intro v1 h1 v2 h2 v3 h3 v4 h4 v5 h5 v6 h6
 have d1:v1=false:=by rw [h1,ha,aG,ae];exact ab (by omega)
 have d2:v2=false:=by rw [h2,d1,ae];exact ab (by omega)
 rw [d2,ae] at h3
 obtain ⟨N,rfl⟩:∃N:Nat,n=N:=⟨n.toNat,by omega⟩
 have e4:v4=((N / 16:Nat):Int):=by
  rw [h4,i64_in _ (by rw [Int.tdiv_eq_ediv_of_nonneg (by omega)];omega),Int.tdiv_eq_ediv_of_nonneg (by omega)];omega
 have em:Int.tmod (N:Int) 16=((N % 16:Nat):Int):=by rw [Int.tmod_eq_emod_of_nonneg (by omega)];omega
 rw [em,ak] at h6
 rw [em]
 rw [e4,ak] at h5
 have Tb:v6.length≤257:=by
  rw [h6]
  refine (Nt.kj _ 257).2 ?_
  have h7:=Nt.iJ a
  have h8:65536 ^ a.length≤65536 ^ 256:=Nat.pow_le_pow_right (by omega) hl
  have h9:2 ^ (N % 16)≤65536:=Nat.pow_le_pow_right (n:=2) (by omega) (show N % 16≤16 by omega)
  rewrite [Kf]
  have iS:Nt.val a * 2 ^ (N % 16)≤Nt.val a * 65536:=Nat.mul_le_mul_left _ h9
  omega
 have m1:pO v4 v4 2=true:=kZ.2 ⟨by omega,by omega,by omega,by rw [jA];omega⟩
 have m2:decide (a.length≤1000000∧0≤((N % 16:Nat):Int)∧((N % 16:Nat):Int)<16)=true:=aa (by omega)
 have m3:fi (v5.length+v6.length) 2=true:=dP (by rw [h5,List.length_replicate];omega) (by rw [h5,List.length_replicate];omega)
 have m4:decide (a.length≤1099511627776)=true:=aa (by omega)
 simp only [d1,d2,ha,m1,m2,m3,m4,hn,aI,aG,Bool.false_or,Bool.or_true,Bool.true_or,aZ,bU,ak]
 by_cases c:a=[]
 ·have d3:v3=true:=by rw [h3,c];rfl
  rw [d3,ah,c,show Nt.val []=0 from rfl,Nat.zero_mul,Nt.iU]
 ·have Qh:=List.length_pos_iff.2 c
  have d3:v3=false:=by rw [h3];exact ab (by omega)
  rw [d3,ae,show (!decide ((16:Int)=0))=true from rfl,bU,bU]
  have e:Nt.val (v5++v6)=Nt.val a * 2 ^ N:=by
   rw [Nt.gh,h5,oj,List.length_replicate,h6,Nt.eY,Nat.zero_add,show (65536:Nat)=2 ^ 16 by decide,←Nat.pow_mul,Nat.mul_left_comm,←Nat.pow_add]
   congr 2;omega
  rw [←e,Nt.dJ]
  have pT:=DQ hn c
  have Wk:v6≠[]:=by
   rw [h6,Nt.lR]
   ·simp
   ·exact Nat.mul_pos pT (Nat.two_pow_pos _)
  have:∀x y:List UInt16,y≠[]→Nt.norm (x++y)=Nt.norm y:=by
   intro x y hy
   induction x with
   | nil=>rfl
   | cons d x ih=>rw [List.cons_append,Nt.o7 (by simp [hy]),ih]
  rw [this _ _ Wk,h6,Nt.qo]
where
 DQ {a:List UInt16} (h:Nt.norm a=true) (h0:a≠[]):0<Nt.val a:=Nt.qn h h0
def nk (n:Nat):List UInt16→List UInt16
 | []=>[]
 | d :: r=>UInt16.ofNat (d.toNat / 2 ^ n+(r.getD 0 0).toNat * 2 ^ (16 - n)) :: nk n r
theorem lE (n:Nat):∀a,(nk n a).length=a.length
 | []=>rfl
 | d :: r=>by rw [nk,az,az,lE n r]
theorem wE {n:Nat} (hn:n<16):∀a,Nt.val (nk n a)=Nt.val a / 2 ^ n
 | []=>by simp [nk,Nt.val]
 | d :: r=>by
  have ih:=wE hn r
  rw [nk,Nt.val,ih,Nt.val,Nt.dI]
  have hp:=Nat.two_pow_pos n
  have hd:=d.toNat_lt
  have hP:(2:Nat) ^ n * 2 ^ (16 - n)=65536:=by rw [←Nat.pow_add,show n+(16 - n)=16 by omega]
  have hR:∃h R,Nt.val r=h+65536 * R∧(r.getD 0 0).toNat=h∧h<65536:=by
   cases r with
   | nil=>exact ⟨0,0,rfl,rfl,by omega⟩
   | cons e s=>exact ⟨e.toNat,Nt.val s,rfl,rfl,e.toNat_lt⟩
  obtain ⟨h,R,e1,e2,e3⟩:=hR
  rw [e1,e2]
  generalize d.toNat=x at *
  have hq:x / 2 ^ n<2 ^ (16 - n):=(Nat.div_lt_iff_lt_mul hp).2 (by rw [Nat.mul_comm,hP];omega)
  have YP:=Nat.two_pow_pos (16 - n)
  generalize hA:(2:Nat) ^ n=A at *
  generalize hB:(2:Nat) ^ (16 - n)=B at *
  -- left: ((x / A+h * B) % 65536)+65536 * ((h+65536 * R) / A)
  have k1:(h+65536 * R) / A=h / A+B * R:=by
   rw [←hP,Nat.mul_assoc,Nat.add_mul_div_left _ _ hp]
  have k2:(x+65536 * (h+65536 * R)) / A=x / A+B * (h+65536 * R):=by
   conv=>lhs;rw [←hP,Nat.mul_assoc]
   rw [Nat.add_mul_div_left _ _ hp,hP]
  have k3:(x / A+h * B) % 65536+65536 * (h / A)=x / A+h * B:=by
   have h1:h=A * (h / A)+h % A:=(Nat.div_add_mod h A).symm
   have h2:=Nat.mod_lt h hp
   have h3:h * B=65536 * (h / A)+(h % A) * B:=by
    conv=>lhs;rw [h1]
    rw [Nat.add_mul,Nat.mul_right_comm,hP]
   have h4:(h % A+1) * B≤A * B:=av _ h2
   rw [hP,Nat.succ_mul] at h4
   rw [h3,←Nat.add_assoc,Nat.add_right_comm,Nat.add_mul_mod_self_left,Nat.mod_eq_of_lt (by omega)]
  rw [k1,k2,Nat.mul_add,Nat.mul_add,←Nat.add_assoc,k3,Nat.mul_comm h B,Nat.mul_left_comm 65536 B R]
  omega
theorem wF {n:Nat}:∀(a:List UInt16) (i:Nat),i<a.length→(nk n a).getD i 0=UInt16.ofNat ((a.getD i 0).toNat / 2 ^ n+(a.getD (i+1) 0).toNat * 2 ^ (16 - n))
 | [],i,h=>by simp at h
 | d :: r,0,h=>by simp [nk]
 | d :: r,i+1,h=>by
  have:=wF (n:=n) r i (by simpa using h)
  simpa [nk] using this
theorem getD_set_ne {α:Type} (l:List α) (i:Nat) (x d:α) (h:i<l.length):(l.set i x).getD i d=x:=by
 simp [ai,h]
theorem vl {α:Type} (l:List α) (i:Nat) (x d:α) (h:i<l.length):(l.set i x).take (i+1)=l.take i++[x]:=by
 rw [List.take_add_one,List.take_set_of_le (Nat.le_refl _)]
 simp [h]
theorem dh.cO (a:List UInt16) (n:Nat) (ha:a.length≤1000000) (hn:n<16):∀(m i:Nat) (acc:List UInt16),i+m=a.length→acc.length=a.length→acc.take i=(nk n a).take i →
  dh.l1 a n a a.length i acc=some [.sl .ws (Nt.of (Nt.val a / 2 ^ n))]:=by
 intro m
 induction m with
 | zero =>
  intro i acc hi hl ht
  refine dh.bX _ _ _ _ _ _ ?_
  intro v1 h1 v2 h2 v3 h3 v4 h4 v5 h5 v6 h6 v7 h7 v8 h8 v9 h9
  rw [List.take_of_length_le (by omega),List.take_of_length_le (by rw [lE];omega)] at ht
  rw [ab (by omega),ae,bx (aa (by omega)),ht,wE hn]
 | succ m ih =>
  intro i acc hi hl ht
  refine dh.bX _ _ _ _ _ _ ?_
  intro v1 h1 v2 h2 v3 h3 v4 h4 v5 h5 v6 h6 v7 h7 v8 h8 v9 h9
  rw [ak] at h1 h2 h4 h9
  rw [ak] at h2
  have e3:v3=((i+1:Nat):Int):=by rw [h3,i64_in _ (by omega)];omega
  have e7:v7=((16 - n:Nat):Int):=by rw [h7,i64_in _ (by omega)];omega
  rw [e3,ak] at h5
  rw [e7,ak] at h8
  have Mj:v2.length=a.length:=by rw [h2,List.length_set];exact hl
  have e4:v4=qe v1 n:=by rw [h4,h2,getD_set_ne _ _ _ _ (by omega)]
  have hx:∀l:List UInt16,l.length=a.length→bD (i:Int) l.length=true:=fun l h=>bN (by omega) (by omega)
  rw [aa (show (i:Int)<(a.length:Int) by omega),ah,bx (hx a rfl),bx (aa (by omega)),bx (hx acc hl),bx (aa (by rw [ak];omega))]
  have hd1:=v1.toNat_lt
  have hs:(qe v1 n).toNat=v1.toNat / 2 ^ n:=by
   rw [qe,UInt16.toNat_ofNat']
   exact Nat.mod_eq_of_lt (Nat.lt_of_le_of_lt (Nat.div_le_self _ _) hd1)
  have Ml:=wF (n:=n) a i (by omega)
  rw [←h1] at Ml
  have Qc:∀(l:List UInt16) (x:UInt16),l.length=a.length→l.take i=acc.take i→x=(nk n a).getD i 0→(l.set i x).take (i+1)=(nk n a).take (i+1):=by
   intro l x h1 h2 h3
   rw [vl l i x 0 (by omega),h2,ht,List.take_add_one (l:=nk n a),ar (by rw [lE];omega),h3,ai,ar (by rw [lE];omega)]
   rfl
  by_cases c:i+1<a.length
  ·rw [e3,aa (show ((i+1:Nat):Int)<(a.length:Int) by omega),ah,bx (hx v2 Mj),bx (aa (by rw [ak];omega)),bx (bN (by omega) (by omega)),bx (aa (by omega)),bx (hx v2 Mj),bx (aa (by rw [ak];omega))]
   refine dh.jx _ _ _ _ _ _ ?_
   intro u1 g1
   rw [g1,i64_in _ (by omega),show (i:Int)+1=((i+1:Nat):Int) by omega]
   refine ih (i+1) v9 (by omega) (by rw [h9,List.length_set,Mj]) ?_
   rw [h9]
   refine Qc v2 _ Mj (by rw [h2,List.take_set_of_le (Nat.le_refl _)]) ?_
   rw [Ml,←h5,e4]
   apply UInt16.toNat_inj.1
   have hq:v1.toNat / 2 ^ n<2 ^ (16 - n):=(Nat.div_lt_iff_lt_mul (Nat.two_pow_pos n)).2 (by rw [←Nat.pow_add,show 16 - n+n=16 by omega];exact hd1)
   have e8:v8.toNat=v5.toNat * 2 ^ (16 - n) % 65536:=by
    rw [h8,j5,Nt.dI,qf,UInt32.toNat_ofNat',h6,kH];omega
   rw [UInt16.toNat_or,hs,e8,Nt.dI]
   have e9:v5.toNat * 2 ^ (16 - n) % 65536=(v5.toNat % 2 ^ n) * 2 ^ (16 - n):=by
    conv=>lhs;rw [show (65536:Nat)=2 ^ n * 2 ^ (16 - n) by rw [←Nat.pow_add,show n+(16 - n)=16 by omega]]
    rw [Nat.mul_mod_mul_right]
   have Ew:(v5.toNat % 2 ^ n) * 2 ^ (16 - n)+v1.toNat / 2 ^ n<65536:=by
    have h1:=Nat.mod_lt v5.toNat (Nat.two_pow_pos n)
    have h2:(v5.toNat % 2 ^ n+1) * 2 ^ (16 - n)≤2 ^ n * 2 ^ (16 - n):=av _ h1
    rw [←Nat.pow_add,show n+(16 - n)=16 by omega,Nat.succ_mul] at h2
    omega
   have kA:v1.toNat / 2 ^ n % 65536=v1.toNat / 2 ^ n:=Nat.mod_eq_of_lt (by omega)
   have JI:(v1.toNat / 2 ^ n+v5.toNat * 2 ^ (16 - n)) % 65536=(v5.toNat % 2 ^ n) * 2 ^ (16 - n)+v1.toNat / 2 ^ n:=by
    rw [Nat.add_mod,kA,e9,Nat.add_comm,Nat.mod_eq_of_lt Ew]
   rw [JI,e9,Nat.or_comm,nE hq]
  ·rw [e3,ab (show ¬((i+1:Nat):Int)<(a.length:Int) by omega),ae]
   refine dh.jx _ _ _ _ _ _ ?_
   intro u1 g1
   rw [g1,i64_in _ (by omega),show (i:Int)+1=((i+1:Nat):Int) by omega]
   refine ih (i+1) v2 (by omega) Mj ?_
   rw [h2]
   refine Qc acc _ hl rfl ?_
   rw [Ml]
   apply UInt16.toNat_inj.1
   have:a.getD (i+1) 0=0:=by rw [ai,List.getElem?_eq_none (by omega)];rfl
   rw [hs,this,Nt.dI,show (0:UInt16).toNat=0 from rfl,Nat.zero_mul,Nat.add_zero,Nat.mod_eq_of_lt (Nat.lt_of_le_of_lt (Nat.div_le_self _ _) hd1)]
theorem dh.goal (a:List UInt16) (n:Int) (hp:decide (a.length≤1000000∧0≤n∧n<16)=true):dh.F a n=some [.sl .ws (Nt.of (Nt.val a / 2 ^ n.toNat))]:=by
 obtain ⟨l1,n1,n2⟩:=aq hp
 refine dh.bY _ _ ?_
 intro v1 h1
 rw [ak] at h1
 rw [bx (kZ.2 ⟨by omega,by omega,by omega,by rw [jA];omega⟩)]
 have:=dh.cO a n.toNat l1 (by omega) a.length 0 v1 (by omega) (by rw [h1];simp) (by simp)
 rw [show ((n.toNat:Nat):Int)=n by omega] at this
 exact this
end Go.Eng
set_option maxRecDepth 20000
namespace Go.Eng
open Go.IntWalk
theorem qb (a:List UInt16) (i:Nat) (h:i<a.length):Nt.val (a.drop i)=(a.getD i 0).toNat+65536 * Nt.val (a.drop (i+1)):=by
 rw [drop_cons h 0,Nt.val]
theorem eZ.cO (a:List UInt16) (d:UInt16) (ha:a.length≤1000000) (hd:0<d.toNat):∀(n:Nat) (q:List UInt16) (r:UInt32),n≤a.length→q.length=a.length→Nt.val (q.drop n)=Nt.val (a.drop n) / d.toNat→r.toNat=Nt.val (a.drop n) % d.toNat →
  eZ.l1 a d r ((n:Int) - 1) q=some [.sl .ws (Nt.of (Nt.val a / d.toNat)),.u16 (UInt16.ofNat (Nt.val a % d.toNat))]:=by
 intro n
 induction n with
 | zero =>
  intro q r hn hl hq hr
  refine eZ.bX _ _ _ _ _ ?_
  intro v1 h1 v2 h2 v3 h3 v4 h4 v5 h5 v6 h6 v7 h7 v8 h8
  rw [bh,bh] at hq
  rw [bh] at hr
  rw [ab (by omega),ae,bx (aa (by omega)),hq,h8,j5,hr]
 | succ n ih =>
  intro q r hn hl hq hr
  refine eZ.bX _ _ _ _ _ ?_
  intro v1 h1 v2 h2 v3 h3 v4 h4 v5 h5 v6 h6 v7 h7 v8 h8
  have e:((n+1:Nat):Int) - 1=(n:Int):=by omega
  rw [e] at h2 h6 h7 ⊢
  rw [ak] at h2 h6
  have hd2:=d.toNat_lt
  have hv2:=v2.toNat_lt
  have L4:r.toNat<d.toNat:=by rw [hr];exact Nat.mod_lt _ hd
  have e4:v4.toNat=d.toNat:=by rw [h4,kH]
  have e3:v3.toNat=v2.toNat:=by rw [h3,kH]
  have e1:v1.toNat=r.toNat * 65536:=by
   rw [h1,qf,UInt32.toNat_ofNat',show (16:UInt64).toNat=16 from rfl];omega
  have MR:(v1 ||| v3).toNat=r.toNat * 65536+v2.toNat:=by
   rw [UInt32.toNat_or,e1,e3]
   exact nE (a:=r.toNat) (b:=v2.toNat) (k:=16) hv2
  have hv4:v4≠0:=fun e0=>by
   have:=congrArg UInt32.toNat e0
   rw [e4] at this
   have YT:(0:UInt32).toNat=0:=rfl
   omega
  have Wr:v5.toNat=(r.toNat * 65536+v2.toNat) / d.toNat:=by
   rw [h5,j5,Nt.dI,UInt32.toNat_div,MR,e4]
   refine Nat.mod_eq_of_lt ((Nat.div_lt_iff_lt_mul hd).2 ?_)
   have:(r.toNat+1) * 65536≤d.toNat * 65536:=av _ L4
   rw [Nat.mul_comm d.toNat 65536] at this
   omega
  have er:((v1 ||| v3) % v4).toNat=(r.toNat * 65536+v2.toNat) % d.toNat:=by
   rw [UInt32.toNat_mod,MR,e4]
  have hx:bD (n:Int) a.length=true:=bN (by omega) (by omega)
  have Ks:bD (n:Int) q.length=true:=bN (by omega) (by omega)
  rw [aa (by omega),ah,bx hx,ab hv4,aI,bU,bx Ks,bx (aa (by rw [ak];omega)),bU,h7,i64_in _ (by omega)]
  have hH:=qb a n (by omega)
  rw [←h2] at hH
  generalize Nt.val (a.drop (n+1))=H at hq hr hH
  have Wg:H=d.toNat * (H / d.toNat)+r.toNat:=by rw [hr];exact (Nat.div_add_mod H d.toNat).symm
  have OB:v2.toNat+65536 * H=(r.toNat * 65536+v2.toNat)+d.toNat * (65536 * (H / d.toNat)):=by
   conv=>lhs;rw [Wg]
   rw [Nat.mul_add,Nat.mul_left_comm];omega
  refine ih v6 _ (by omega) (by rw [h6,List.length_set];exact hl) ?_ ?_
  ·rw [qb v6 n (by rw [h6,List.length_set];omega),h6,getD_set_ne _ _ _ _ (by omega),Wr,List.drop_set_of_lt (by omega),hq,hH,OB,Nat.add_mul_div_left _ _ hd]
  ·rw [er,hH,OB,Nat.add_mul_mod_self_left]
theorem eZ.goal (a:List UInt16) (d:UInt16) (hp:decide (a.length≤1000000∧d≠0)=true):eZ.F a d=some [.sl .ws (Nt.of (Nt.val a / d.toNat)),.u16 (UInt16.ofNat (Nt.val a % d.toNat))]:=by
 obtain ⟨l1,d0⟩:=aq hp
 have hd:0<d.toNat:=Nat.pos_of_ne_zero fun e=>d0 (UInt16.toNat_inj.1 e)
 refine eZ.bY _ _ ?_
 intro v1 h1 v2 h2
 rw [ak] at h1
 rw [bx (kZ.2 ⟨by omega,by omega,by omega,by rw [jA];omega⟩),h2,i64_in _ (by omega)]
 exact eZ.cO a d l1 hd a.length v1 0 (Nat.le_refl _) (by rw [h1];simp) (by simp [Nt.val,h1]) (by simp [Nt.val])
theorem iq.goal (a b:List UInt16) (hp:(Nt.is a&&Nt.is b&&decide (b≠[]))=true):iq.F a b=some [.sl .ws (Nt.of (Nt.val a / Nt.val b)),.sl .ws (Nt.of (Nt.val a % Nt.val b)),.b true]:=by
 simp only [af,aA] at hp
 obtain ⟨⟨ha,hb⟩,pE⟩:=hp
 have la:=Nt.jH ha
 have lb:=Nt.jH hb
 have na:=Nt.jB ha
 have nb:=Nt.jB hb
 have Yh:=List.length_pos_iff.2 pE
 have pb:=Nt.qn nb pE
 refine iq.bY _ _ ?_
 intro v1 h1 v2 h2 v3 h3 v4 h4 v5 h5 v6 h6 v7 h7 v8 h8 v9 h9 v10 iS v11 kA v12 jM kq nr jh oa jb nV
 rw [ha,hb] at h1
 have d1:v1=false:=h1
 have d2:v2=false:=by rw [h2,d1,ae];exact ab (by omega)
 have m1:decide (a.length≤1099511627776)=true:=aa (by omega)
 have m2:decide (b.length≤1099511627776)=true:=aa (by omega)
 have m3:decide (a.length≤1099511627776∧b.length≤1099511627776)=true:=aa ⟨by omega,by omega⟩
 simp only [d1,d2,ha,m1,m2,m3,na,nb,aI,aG,Bool.false_or,Bool.or_true,Bool.true_or,aZ,bU,ae]
 by_cases c1:Nt.val a<Nt.val b
 ·have e3:v3=-1:=by rw [h3,Nt.cmp,au c1]
  rw [e3,aa (by omega),ah,bx (dP (by omega) (by omega)),Nat.div_eq_of_lt c1,Nt.iU,Nat.mod_eq_of_lt c1,Nt.dJ na]
 ·have e3:¬v3<0:=by rw [h3,Nt.cmp,ao c1];split <;> omega
  rw [ab e3,ae]
  by_cases c2:b.length=1
  ·obtain ⟨d,rfl⟩:∃d,b=[d]:=List.length_eq_one_iff.1 c2
   have hd0:d≠0:=by simpa [Nt.norm] using nb
   have e4:v4=d:=by rw [h4];rfl
   have ev:Nt.val [d]=d.toNat:=by simp [Nt.val]
   rw [aa (by rw [c2];rfl),ah,bx (bN (by omega) (by rw [c2];omega)),e4,bx (aa ⟨by omega,hd0⟩),h5,h7,h6,e4,ev,hO,Nt.dI]
   have hm:Nt.val a % d.toNat<d.toNat:=Nat.mod_lt _ (Nat.pos_of_ne_zero fun e=>hd0 (UInt16.toNat_inj.1 e))
   have:=d.toNat_lt
   rw [Nat.mod_eq_of_lt (show Nt.val a % d.toNat<65536 by omega)]
  ·have l2:2≤b.length:=by omega
   rw [ab (by omega),ae]
   rw [i64_in _ (by omega)] at h8
   have e8:v8=((b.length - 1:Nat):Int):=by omega
   rw [e8,ak] at h9
   obtain ⟨t1,t2⟩:=mW nb pE
   rw [←h9] at t1 t2
   have Vn:=v9.toNat_lt
   obtain ⟨p1,p2,p3⟩:=Nt.jy (n:=v9.toNat) (by omega)
   have pl:=Nt.kQ (n:=v9.toNat) (k:=16) Vn
   obtain ⟨s,hs⟩:∃s,s=16 - Nt.bits v9.toNat:=⟨_,rfl⟩
   have Ew:v10=(s:Int):=by rw [iS,i64_in _ (by omega)];omega
   have Vs:s<16:=by omega
   rw [Ew,ak] at kA jM nV
   -- the P6
   have Yy:v9.toNat * 2 ^ s<65536:=by
    have:v9.toNat * 2 ^ s<2 ^ Nt.bits v9.toNat * 2 ^ s:=Nat.mul_lt_mul_of_pos_right p2 (Nat.two_pow_pos s)
    rw [←Nat.pow_add,show Nt.bits v9.toNat+s=16 by omega] at this
    exact this
   have R6:32768≤v9.toNat * 2 ^ s:=by
    have:2 ^ (Nt.bits v9.toNat - 1) * 2 ^ s≤v9.toNat * 2 ^ s:=av _ p1
    rw [←Nat.pow_add,show Nt.bits v9.toNat - 1+s=15 by omega] at this
    exact this
   have AN:=Nt.iJ (b.take (b.length - 1))
   rw [aF,Nat.min_eq_left (by omega)] at AN
   generalize hP:65536 ^ (b.length - 1)=P at t2 AN
   have Tw:65536 ^ b.length=65536 * P:=by rw [←hP,Nat.mul_comm,←Nat.pow_succ];congr 1;omega
   generalize hL:Nt.val (b.take (b.length - 1))=Lo at t2 AN
   have Tr:Nt.val b * 2 ^ s=Lo * 2 ^ s+P * (v9.toNat * 2 ^ s):=by rw [t2,Nat.add_mul,Nat.mul_assoc]
   have Pa:Nt.val b * 2 ^ s<65536 ^ b.length:=by
    have h1:(v9.toNat+1) * 2 ^ s≤65536:=by
     have:(v9.toNat+1) * 2 ^ s≤2 ^ Nt.bits v9.toNat * 2 ^ s:=av _ p2
     rw [←Nat.pow_add,show Nt.bits v9.toNat+s=16 by omega] at this
     exact this
    have h2:Lo * 2 ^ s+P * (v9.toNat * 2 ^ s)<P * ((v9.toNat+1) * 2 ^ s):=by
     rw [Nat.add_mul,Nat.one_mul,Nat.mul_add]
     have:Lo * 2 ^ s<P * 2 ^ s:=Nat.mul_lt_mul_of_pos_right AN (Nat.two_pow_pos s)
     omega
    have h3:P * ((v9.toNat+1) * 2 ^ s)≤P * 65536:=Nat.mul_le_mul_left _ h1
    rw [Tr,Tw,Nat.mul_comm 65536 P]
    omega
   have Sa:32768 * P≤Nt.val b * 2 ^ s:=by
    have:P * 32768≤P * (v9.toNat * 2 ^ s):=Nat.mul_le_mul_left _ R6
    rw [Tr,Nat.mul_comm 32768 P];omega
   have OZ:v12=Nt.fix b.length (Nt.val b * 2 ^ s):=by
    rw [jM]
    refine Nt.LA Pa (.inr ?_)
    rw [hP];omega
   have RQ:v12.length=b.length:=by rw [OZ,Nt.kL]
   have GC:Nt.val v12=Nt.val b * 2 ^ s:=by rw [jM,Nt.eY]
   have LZ:Nt.val v11=Nt.val a * 2 ^ s:=by rw [kA,Nt.eY]
   have GJ:Nt.val v12≤Nt.val v11:=by rw [GC,LZ];exact av _ (by omega)
   have RR:v12.length≤v11.length:=by
    rcases Nat.lt_or_ge v11.length v12.length with h | h
    ·have:=Nt.rB (a:=v11) (b:=v12) (by rw [jM];exact Nt.qo _) h
     omega
    ·exact h
   have Tc:v11.length≤257:=by
    rw [kA]
    refine (Nt.kj _ 257).2 ?_
    have h7:=Nt.iJ a
    have h8:65536 ^ a.length≤65536 ^ 256:=Nat.pow_le_pow_right (by omega) la
    have h9:2 ^ s≤65536:=Nat.pow_le_pow_right (n:=2) (by omega) (show s≤16 by omega)
    rewrite [Kf]
    have iS:Nt.val a * 2 ^ s≤Nt.val a * 65536:=Nat.mul_le_mul_left _ h9
    omega
   have rE:32768≤(v12.getLast?.getD 0).toNat:=by
    have:v12.getLast?.getD 0=UInt16.ofNat (Nt.val b * 2 ^ s / 65536 ^ (b.length - 1)):=by
     rw [OZ]
     conv=>lhs;rw [show b.length=b.length - 1+1 by omega]
     rw [Nt.z8]
     simp
    rw [this,Nt.dI,hP]
    have h1:Nt.val b * 2 ^ s / P<65536:=(Nat.div_lt_iff_lt_mul (by rw [←hP];exact Nat.pow_pos (by omega))).2 (by rw [←Tw];exact Pa)
    have h2:32768≤Nt.val b * 2 ^ s / P:=(Nat.le_div_iff_mul_le (by rw [←hP];exact Nat.pow_pos (by omega))).2 Sa
    rw [Nat.mod_eq_of_lt h1];exact h2
   have m4:bD v8 b.length=true:=bN (by omega) (by omega)
   have m5:decide (a.length≤1000000∧0≤v10∧v10<16)=true:=aa (by omega)
   have m6:decide (b.length≤1000000∧0≤v10∧v10<16)=true:=aa (by omega)
   have m7:decide (v11.length≤1000000∧2≤v12.length∧v12.length≤v11.length∧32768≤(v12.getLast?.getD 0).toNat)=true:=aa ⟨by omega,by omega,RR,rE⟩
   have Yj:kq.length=v11.length+1 - v12.length:=by rw [nr,Nt.kL]
   have Vb:jh.length=v12.length:=by rw [oa,Nt.kL]
   have m8:decide (kq.length≤1099511627776)=true:=aa (by omega)
   have m9:decide (jh.length≤1099511627776)=true:=aa (by omega)
   have hq:Nt.val v11 / Nt.val v12=Nt.val a / Nt.val b:=by rw [LZ,GC,Nat.mul_div_mul_right _ _ (Nat.two_pow_pos s)]
   have hr:Nt.val v11 % Nt.val v12=Nt.val a % Nt.val b * 2 ^ s:=by rw [LZ,GC,Nat.mul_mod_mul_right]
   have Hn:Nt.val jh=Nt.val a % Nt.val b * 2 ^ s:=by
    rw [oa,Nt.oU,hr,Nat.mod_eq_of_lt]
    have h1:Nt.val a % Nt.val b * 2 ^ s<Nt.val b * 2 ^ s:=Nat.mul_lt_mul_of_pos_right (Nat.mod_lt _ pb) (Nat.two_pow_pos s)
    rw [RQ];omega
   have MR:Nt.val kq=Nt.val a / Nt.val b:=by
    rw [nr,Nt.oU,hq,Nat.mod_eq_of_lt]
    have h1:=Nt.iJ v11
    rw [←hq]
    refine (Nat.div_lt_iff_lt_mul (by rw [GC];exact Nat.mul_pos pb (Nat.two_pow_pos s))).2 ?_
    have h2:65536 ^ (v11.length+1 - v12.length) * P≤65536 ^ (v11.length+1 - v12.length) * Nt.val v12:=Nat.mul_le_mul_left _ (by rw [GC];omega)
    rw [←hP,←Nat.pow_add,show v11.length+1 - v12.length+(b.length - 1)=v11.length by omega] at h2
    omega
   have m10:decide ((Nt.of (Nt.val jh)).length≤1000000∧0≤v10∧v10<16)=true:=by
    refine aa ⟨?_,by omega,by omega⟩
    have:=(Nt.kj (Nt.val jh) jh.length).2 (Nt.iJ jh)
    omega
   rw [bx m4,bx (by rw [m5];rfl),bx (by rw [m6];rfl),bx m7,bx m8,bx m9,bx m10,MR,nV,Nt.eY,Hn,Nat.mul_div_cancel _ (Nat.two_pow_pos s)]
end Go.Eng
set_option maxRecDepth 20000
namespace Go.Eng
open Go.IntWalk
theorem Eh {B v1 v2 top u2 g r V T P:Nat} (hP:0<P) (rE:top=g * v1+r) (h:r * B+u2<g * v2) (hV:(v1 * B+v2) * P≤V) (hT:T<(top * B+u2+1) * P):T / V<g:=by
 have h1:top * B+u2+1≤g * (v1 * B+v2):=by
  rw [rE,Nat.add_mul,Nat.mul_add,Nat.mul_assoc];omega
 have h2:(top * B+u2+1) * P≤g * V:=by
  have:=av P h1
  rw [Nat.mul_assoc] at this
  exact Nat.le_trans this (Nat.mul_le_mul_left _ hV)
 have AP:0<V:=by
  rcases Nat.eq_zero_or_pos V with e | e
  ·subst e;simp at h2;omega
  ·exact e
 exact (Nat.div_lt_iff_lt_mul AP).2 (by omega)
theorem BD {B v1 v2 top u2 g r V T P:Nat} (hB:g≤B) (rE:top=g * v1+r) (h:g * v2≤r * B+u2) (Mt:V<(v1 * B+v2+1) * P) (NK:B * P≤V) (hT:(top * B+u2) * P≤T) (AP:0<V):g≤T / V+1:=by
 rcases Nat.eq_zero_or_pos g with e | hg
 ·rw [e];exact Nat.zero_le _
 have h1:g * (v1 * B+v2)≤top * B+u2:=by
  rw [rE,Nat.add_mul,Nat.mul_add,Nat.mul_assoc];omega
 have h2:g * V<(g * (v1 * B+v2)+g) * P:=by
  have:=Nat.mul_lt_mul_of_pos_left Mt hg
  rw [←Nat.mul_assoc,Nat.mul_add,Nat.mul_one] at this
  exact this
 have h3:(g * (v1 * B+v2)) * P≤(top * B+u2) * P:=av _ h1
 have h4:g * P≤B * P:=av _ hB
 rw [Nat.add_mul] at h2
 have h5:g * V<T+V:=by omega
 have h6:(g - 1) * V≤T:=by
  have:g * V=(g - 1) * V+V:=by rw [←Nat.succ_mul];congr 1;omega
  omega
 have:=(Nat.le_div_iff_mul_le AP).2 h6
 omega
theorem zT {B v1 top g r V T P:Nat} (hg:g≤B) (rE:top=g * v1+r) (hr:B≤r) (hV:V≤(v1+1) * P) (AP:0<V) (hT:top * P≤T):g≤T / V:=by
 refine (Nat.le_div_iff_mul_le AP).2 ?_
 have h1:g * V≤g * ((v1+1) * P):=Nat.mul_le_mul_left _ hV
 have h2:g * ((v1+1) * P)=(g * v1+g) * P:=by rw [←Nat.mul_assoc,Nat.mul_add,Nat.mul_one]
 have h3:(g * v1+g) * P≤top * P:=av _ (by omega)
 omega
theorem yO {x:UInt64} (h:x.toNat<65536 * 65536):(jr x 16).toNat=x.toNat * 65536:=by
 rw [jr,UInt64.toNat_ofNat'];omega
theorem Oi {a b:UInt64} {x:Nat} (ha:a.toNat=x * 65536) (hb:b.toNat<65536):(a ||| b).toNat=x * 65536+b.toNat:=by
 rw [UInt64.toNat_or,ha];exact nE (a:=x) (b:=b.toNat) (k:=16) hb
theorem yz {g:UInt64} (h:0<g.toNat):(g - 1).toNat=g.toNat - 1:=by
 have:=UInt64.toNat_sub_of_le g 1 (aJ.2 h)
 exact this
theorem bH.jd (v w qs:List UInt16) (n j:Nat) (hn:n=v.length) (h2:2≤n) (hj:j+n<w.length) (hl:w.length≤1000001) {V T P top:Nat} (hP:0<P)
  (hv1:32768≤(v.getD (n - 1) 0).toNat) (rE:top=(w.getD (j+n) 0).toNat * 65536+(w.getD (j+n - 1) 0).toNat)
  (Ms:((v.getD (n - 1) 0).toNat * 65536+(v.getD (n - 2) 0).toNat) * P≤V) (Qn:V<((v.getD (n - 1) 0).toNat * 65536+(v.getD (n - 2) 0).toNat+1) * P)
  (Qq:(top * 65536+(w.getD (j+n - 2) 0).toNat) * P≤T) (Qp:T<(top * 65536+(w.getD (j+n - 2) 0).toNat+1) * P) (hq:T / V≤65535) :
  ∀(m:Nat) (g r:UInt64),g.toNat≤m→g.toNat≤65537→top=g.toNat * (v.getD (n - 1) 0).toNat+r.toNat→r.toNat≤65535→T / V≤g.toNat →
   ∃g':UInt64,T / V≤g'.toNat∧g'.toNat≤T / V+1∧g'.toNat≤65535∧bH.l2 v n j g r w qs=bH.j3 v n j g' w qs:=by
 intro m
 induction m with
 | zero =>
  intro g r hg hg2 ht hr Rz
  -- nothing is left to take Wz
  have g0:g.toNat=0:=by omega
  refine ⟨g,Rz,by rw [g0];exact Nat.zero_le _,by omega,?_⟩
  refine bH.iu _ _ _ _ _ _ _ ?_
  intro u1 h1 u2 zR u3 h3 u4 h4 u5 h5 u6 h6 u7 h7 u8 h8 u9 h9 QV iS UW kA AJ jM
  have f1:decide ((65535:UInt64)<g)=false:=ab fun e=>by
   have:=aT.1 e
   have e0:(65535:UInt64).toNat=65535:=rfl
   omega
  have e1:u1=((n - 2:Nat):Int):=by rw [h1,i64_in _ (by omega)];omega
  have e5:u5=((j+n - 2:Nat):Int):=by rw [h5,i64_in ((j:Int)+n) (by omega),i64_in _ (by omega)];omega
  have x1:bD u1 v.length=true:=bN (by omega) (by omega)
  have x2:bD u5 w.length=true:=bN (by omega) (by omega)
  have x3:decide (u5.toNat<w.length)=true:=aa (by omega)
  have e8:u8=false:=by
   rw [h8]
   refine ab fun e=>?_
   have:=aT.1 e
   rw [UInt64.toNat_mul,g0,Nat.zero_mul,Nat.zero_mod] at this
   omega
  have e9:u9=false:=by rw [h9,f1,ae,e8]
  simp only [f1,e9,x1,x2,x3,aI,aG,Bool.false_or,Bool.or_true,Bool.true_or,aZ,bU,ae]
 | succ m ih =>
  intro g r hg hg2 ht hr Rz
  have hB:(65535:UInt64).toNat=65535:=rfl
  have w1:=(v.getD (n - 1) 0).toNat_lt
  have w2:=(v.getD (n - 2) 0).toNat_lt
  have w3:=(w.getD (j+n - 2) 0).toNat_lt
  have step:∀ρ:OT,(∀(u9:Bool),u9=decide (65535<g.toNat∨r.toNat * 65536+(w.getD (j+n - 2) 0).toNat<g.toNat * (v.getD (n - 2) 0).toNat)→∀AJ:UInt64,AJ.toNat=(v.getD (n - 1) 0).toNat →
    cond u9 (cond (decide ((65535:UInt64)<(r+AJ))) (bH.j3 v n j (g - 1) w qs) (bH.l2 v n j (g - 1) (r+AJ) w qs)) (bH.j3 v n j g w qs)=ρ)→bH.l2 v n j g r w qs=ρ:=by
   intro ρ LX
   refine bH.iu _ _ _ _ _ _ _ ?_
   intro u1 h1 u2 zR u3 h3 u4 h4 u5 h5 u6 h6 u7 h7 u8 h8 u9 h9 QV iS UW kA AJ jM
   have e1:u1=((n - 2:Nat):Int):=by rw [h1,i64_in _ (by omega)];omega
   have e5:u5=((j+n - 2:Nat):Int):=by rw [h5,i64_in ((j:Int)+n) (by omega),i64_in _ (by omega)];omega
   have Ew:QV=((n - 1:Nat):Int):=by rw [iS,i64_in _ (by omega)];omega
   rw [e1,ak] at zR
   rw [e5,ak] at h6
   rw [Ew,ak] at kA
   have x1:bD u1 v.length=true:=bN (by omega) (by omega)
   have x2:bD u5 w.length=true:=bN (by omega) (by omega)
   have x3:decide (u5.toNat<w.length)=true:=aa (by omega)
   have x4:bD QV v.length=true:=bN (by omega) (by omega)
   have f3:u3.toNat=(v.getD (n - 2) 0).toNat:=by rw [h3,hO,zR]
   have f7:u7.toNat=(w.getD (j+n - 2) 0).toNat:=by rw [h7,hO,h6]
   have f12:AJ.toNat=(v.getD (n - 1) 0).toNat:=by rw [jM,hO,kA]
   have f4:u4.toNat=r.toNat * 65536:=by rw [h4];exact yO (by omega)
   have f47:=Oi f4 (b:=u7) (by omega)
   have hm:g.toNat * (v.getD (n - 2) 0).toNat≤65537 * 65535:=Nat.mul_le_mul hg2 (by omega)
   have fm:(g * u3).toNat=g.toNat * (v.getD (n - 2) 0).toNat:=by rw [UInt64.toNat_mul,f3,Nat.mod_eq_of_lt (by omega)]
   have S3:=LX u9 (by
    rw [h9,h8,aS]
    simp only [aT,hB,f47,fm,f7]
    by_cases c:65535<g.toNat
    ·simp [c]
    ·simp [c]) AJ f12
   cases hb:decide ((65535:UInt64)<g) with
   | true =>
    rw [hb,ah] at h9
    simp only [x1,x2,x3,x4,aI,aG,Bool.false_or,Bool.or_true,Bool.true_or,aZ,Bool.or_self,aW,bn,bU]
    exact S3
   | false =>
    simp only [x1,x2,x3,x4,aI,aG,Bool.false_or,Bool.or_true,Bool.true_or,aZ,Bool.or_self,aW,bn,bU]
    exact S3
  by_cases c:65535<g.toNat∨r.toNat * 65536+(w.getD (j+n - 2) 0).toNat<g.toNat * (v.getD (n - 2) 0).toNat
  ·have gk:T / V<g.toNat:=by
    rcases c with c | c
    ·omega
    ·exact Eh hP ht c Ms Qp
   have hg0:0<g.toNat:=Nat.lt_of_le_of_lt (Nat.zero_le _) gk
   have gs:=yz (g:=g) hg0
   have Qe:top=(g.toNat - 1) * (v.getD (n - 1) 0).toNat+(r.toNat+(v.getD (n - 1) 0).toNat):=by
    have:g.toNat * (v.getD (n - 1) 0).toNat=(g.toNat - 1) * (v.getD (n - 1) 0).toNat+(v.getD (n - 1) 0).toNat:=by rw [←Nat.succ_mul];congr 1;omega
    omega
   by_cases c2:65535<r.toNat+(v.getD (n - 1) 0).toNat
   ·have AP:0<V:=Nat.lt_of_lt_of_le (Nat.mul_pos (by omega) hP) Ms
    have hle:g.toNat - 1≤T / V:=by
     refine zT (B:=65536) (P:=65536 * P) (by omega) Qe (by omega) ?_ AP ?_
     ·have e:((v.getD (n - 1) 0).toNat+1) * (65536 * P)=(((v.getD (n - 1) 0).toNat+1) * 65536) * P:=by rw [Nat.mul_assoc]
      rw [e]
      refine Nat.le_trans (Nat.le_of_lt Qn) (av _ (by omega))
     ·have e:top * (65536 * P)=(top * 65536) * P:=by rw [Nat.mul_assoc]
      rw [e]
      exact Nat.le_trans (av _ (by omega)) Qq
    refine ⟨g - 1,by omega,by rw [gs];exact Nat.le_succ_of_le hle,by omega,step _ fun u9 h9 AJ jM=>?_⟩
    have e:(r+AJ).toNat=r.toNat+(v.getD (n - 1) 0).toNat:=by rw [UInt64.toNat_add,jM,Nat.mod_eq_of_lt (by omega)]
    rw [h9,aa c,ah,aa (by rw [aT,e,hB];exact c2),ah]
   ·have e:∀AJ:UInt64,AJ.toNat=(v.getD (n - 1) 0).toNat→(r+AJ).toNat=r.toNat+(v.getD (n - 1) 0).toNat:=fun AJ jM=>by rw [UInt64.toNat_add,jM,Nat.mod_eq_of_lt (by omega)]
    obtain ⟨g',i1,i2,i3,i4⟩:=ih (g - 1) (r+UInt64.ofInt ((v.getD (n - 1) 0).toNat:Int)) (by omega) (by omega) (by rw [gs,e _ (hO _)];exact Qe) (by rw [e _ (hO _)];omega) (by omega)
    refine ⟨g',i1,i2,i3,step _ fun u9 h9 AJ jM=>?_⟩
    have JI:AJ=UInt64.ofInt ((v.getD (n - 1) 0).toNat:Int):=bm.1 (by rw [jM,hO])
    rw [h9,aa c,ah,ab (by rw [aT,e _ jM,hB];exact c2),ae,JI]
    exact i4
  ·have c1:g.toNat≤65535:=by omega
   refine ⟨g,Rz,BD (B:=65536) (by omega) ht (by omega) Qn ?_ Qq (Nat.lt_of_lt_of_le (Nat.mul_pos (by omega) hP) Ms),c1,step _ fun u9 h9 AJ jM=>?_⟩
   ·refine Nat.le_trans (av _ ?_) Ms
    omega
   ·rw [h9,ab c,ae]
end Go.Eng
set_option maxRecDepth 20000
namespace Go.Eng
open Go.IntWalk
theorem oQ {α:Type} (l:List α) (j i:Nat) (x:α):(l.set (j+i) x).drop j=(l.drop j).set i x:=by
 rw [List.drop_set,ao (by omega)];congr 1;omega
theorem kR (w:List UInt16) (j i:Nat) (h:j+i<w.length):Nt.val ((w.drop j).take (i+1))=Nt.val ((w.drop j).take i)+65536 ^ i * (w.getD (j+i) 0).toNat:=by
 have:=dA (w.drop j) i (by rw [aV];omega)
 rw [this]
 congr 3
 simp [ai]
theorem wW (w:List UInt16) (j i:Nat) (d:UInt16) (h:j+i<w.length):Nt.val (((w.set (j+i) d).drop j).take (i+1))=Nt.val ((w.drop j).take i)+65536 ^ i * d.toNat:=by
 rw [kR _ _ _ (by rw [List.length_set];exact h),getD_set_ne _ _ _ _ h,oQ,List.take_set_of_le (Nat.le_refl _)]
theorem AU (w:List UInt16) (j i:Nat):Nt.val ((w.drop j).take i)<65536 ^ i:=by
 refine Nat.lt_of_lt_of_le (Nt.iJ _) (Nat.pow_le_pow_right (by omega) ?_)
 rw [aF];omega
theorem JC (x:Int):Int.fdiv x (2 ^ (min (16:UInt64).toNat IntKind.i64.bits))=x / 65536:=by
 rw [show (2:Int) ^ (min (16:UInt64).toNat IntKind.i64.bits)=65536 by decide,Int.fdiv_eq_ediv_of_nonneg _ (by omega)]
theorem AB (x:Int) (h:x=0∨x=-1∨x=-2):cU .and .i64 x 1=x % 2:=by
 rcases h with rfl | rfl | rfl <;> decide
theorem vk (x:Int):(UInt16.ofInt x).toNat=(x % 65536).toNat:=by
 have h:=qX x
 rw [jz] at h
 omega
theorem bH.Oo (v w0 qs:List UInt16) (n j:Nat) (g:UInt64) (hn:n=v.length) (hj:j+n<w0.length) (hl:w0.length≤1000001):∀(m i:Nat) (c:UInt32) (w:List UInt16),i+m=n→c.toNat≤1→w.length=w0.length→w.take j=w0.take j→w.drop (j+i)=w0.drop (j+i) →
   Nt.val ((w0.drop j).take i)+Nt.val (v.take i)=Nt.val ((w.drop j).take i)+65536 ^ i * c.toNat →
   ∃(c':Nat) (w':List UInt16),c'≤1∧w'.length=w0.length∧w'.take j=w0.take j∧w'.drop (j+n+1)=w0.drop (j+n+1)∧Nt.val ((w0.drop j).take n)+Nt.val v=Nt.val ((w'.drop j).take n)+65536 ^ n * c' ∧
    (w'.getD (j+n) 0).toNat=((w0.getD (j+n) 0).toNat+c') % 65536∧bH.l5 v n j g c n i w qs=bH.j6 v n j g w' qs:=by
 intro m
 induction m with
 | zero =>
  intro i c w hi hc Jo ht hd hv
  obtain rfl:i=n:=by omega
  rw [List.take_of_length_le (l:=v) (by omega)] at hv
  have gk:j+i<w.length:=by omega
  refine ⟨c.toNat,w.set (j+i) (w.getD (j+i) 0+UInt16.ofNat c.toNat),hc,by rw [List.length_set];exact Jo,by rw [List.take_set_of_le (by omega)];exact ht,?_,?_,?_,?_⟩
  ·rw [List.drop_set_of_lt (by omega),show j+i+1=(j+i)+1 from rfl,←List.drop_drop (l:=w),hd,List.drop_drop]
  ·rw [oQ,List.take_set_of_le (Nat.le_refl _)];exact hv
  ·rw [getD_set_ne _ _ _ _ gk,UInt16.toNat_add,Nt.dI,Nat.add_mod_mod]
   congr 3
   have e1:w.getD (j+i) 0=(w.drop (j+i)).getD 0 0:=by simp [ai]
   have e2:w0.getD (j+i) 0=(w0.drop (j+i)).getD 0 0:=by simp [ai]
   rw [e1,e2,hd]
  ·refine bH.CH _ _ _ _ _ _ _ _ _ ?_
   intro v1 h1 v2 h2 v3 h3 v4 h4 v5 h5 v6 h6 v7 h7 v8 h8 v9 h9 v10 iS v11 kA v12 jM
   have Hm:IntKind.i64.wrap ((j:Int)+(i:Int))=((j+i:Nat):Int):=by rw [i64_in _ (by omega)];omega
   rw [Hm,ak] at h9
   rw [h9] at iS jM
   rw [ab (by omega),ae,Hm,bx (bN (by omega) (by omega)),bx (aa (by omega)),bx (bN (by omega) (by omega)),bx (aa (by omega)),jM,iS,kA,j5]
 | succ m ih =>
  intro i c w hi hc Jo ht hd hv
  have gk:j+i<w.length:=by omega
  have w1:=(w.getD (j+i) 0).toNat_lt
  have w2:=(v.getD i 0).toNat_lt
  have ew:w.getD (j+i) 0=w0.getD (j+i) 0:=by
   have e1:w.getD (j+i) 0=(w.drop (j+i)).getD 0 0:=by simp [ai]
   have e2:w0.getD (j+i) 0=(w0.drop (j+i)).getD 0 0:=by simp [ai]
   rw [e1,e2,hd]
  obtain ⟨s,hs⟩:∃s,s=c.toNat+((w.getD (j+i) 0).toNat+(v.getD i 0).toNat):=⟨_,rfl⟩
  obtain ⟨c',w',r1,r2,r3,r4,r5,r6,r7⟩:=ih (i+1) (UInt32.ofNat (s / 65536)) (w.set (j+i) (UInt16.ofNat s)) (by omega) (by simp;omega) (by rw [List.length_set];exact Jo) (by rw [List.take_set_of_le (by omega)];exact ht)
   (by rw [List.drop_set_of_lt (by omega),show j+(i+1)=(j+i)+1 from rfl,←List.drop_drop (l:=w),hd,List.drop_drop]) (by
    rw [kR w0 j i (by omega),wW w j i _ gk,dA v i (by omega),Nt.dI]
    have e:(UInt32.ofNat (s / 65536)).toNat=s / 65536:=by simp;omega
    rw [e,Nat.pow_succ,Nat.mul_assoc,Nat.add_assoc (Nt.val ((w.drop j).take i)),←Nat.mul_add,Nat.mod_add_div,hs,←ew,Nat.mul_add,Nat.mul_add]
    omega)
  refine ⟨c',w',r1,r2,r3,r4,r5,r6,?_⟩
  rw [←r7]
  refine bH.CH _ _ _ _ _ _ _ _ _ ?_
  intro v1 h1 v2 h2 v3 h3 v4 h4 v5 h5 v6 h6 v7 h7 v8 h8 v9 h9 v10 iS v11 kA v12 jM
  have Hm:IntKind.i64.wrap ((i:Int)+(j:Int))=((j+i:Nat):Int):=by rw [i64_in _ (by omega)];omega
  rw [Hm,ak] at h1
  rw [h1] at h2
  rw [ak] at h4
  have es:(c+(v3+v5)).toNat=s:=by
   rw [UInt32.toNat_add,UInt32.toNat_add,h3,h5,kH,kH,h2,h4,hs];omega
  have e6:v6=UInt16.ofNat s:=by rw [h6,j5,es]
  have e7:v7=UInt32.ofNat (s / 65536):=by
   apply UInt32.toNat_inj.1
   rw [h7,tV,es,show (16:UInt64).toNat=16 from rfl]
  have e8:v8=((i+1:Nat):Int):=by rw [h8,i64_in _ (by omega)];omega
  rw [aa (by omega),ah,Hm,bx (bN (by omega) (by omega)),bx (aa (by omega)),bx (bN (by omega) (by omega)),bx (bN (by omega) (by omega)),bx (aa (by omega)),e6,e7,e8,h1]
end Go.Eng
set_option maxRecDepth 20000
namespace Go.Eng
open Go.IntWalk
theorem PA (x:UInt64):(x &&& 65535).toNat=x.toNat % 65536:=by
 rw [UInt64.toNat_and,show (65535:UInt64).toNat=2 ^ 16 - 1 from rfl,Nat.and_two_pow_sub_one_eq_mod]
theorem qB {w w0:List UInt16} {k:Nat} (h:w.drop k=w0.drop k):w.getD k 0=w0.getD k 0:=by
 have e1:w.getD k 0=(w.drop k).getD 0 0:=by simp [ai]
 have e2:w0.getD k 0=(w0.drop k).getD 0 0:=by simp [ai]
 rw [e1,e2,h]
theorem rO {w w0:List UInt16} {k:Nat} (x:UInt16) (h:w.drop k=w0.drop k):(w.set k x).drop (k+1)=w0.drop (k+1):=by
 rw [List.drop_set_of_lt (by omega),←List.drop_drop (l:=w),h,List.drop_drop]
theorem bH.Gi (v w0 qs:List UInt16) (n j:Nat) (g:UInt64) (hn:n=v.length) (hj:j+n<w0.length) (hl:w0.length≤1000001) (hg:g.toNat≤65535) {T:Nat} (hT:T=Nt.val ((w0.drop j).take (n+1))) (AP:0<Nt.val v) (hg1:T / Nt.val v≤g.toNat) (hg2:g.toNat≤T / Nt.val v+1) :
  ∀(m i b:Nat) (c:UInt64) (w:List UInt16),i+m=n→b≤1→c.toNat≤65535→w.length=w0.length→w.take j=w0.take j→w.drop (j+i)=w0.drop (j+i) →
   Nt.val ((w0.drop j).take i)+65536 ^ i * (b+c.toNat)=Nt.val ((w.drop j).take i)+g.toNat * Nt.val (v.take i) →
   ∃(q:UInt64) (w':List UInt16),q.toNat=T / Nt.val v∧w'.length=w0.length∧w'.take j=w0.take j∧w'.drop (j+n+1)=w0.drop (j+n+1)∧Nt.val ((w'.drop j).take (n+1))=T % Nt.val v∧bH.l4 v n j g b c n i w qs=bH.j6 v n j q w' qs:=by
 have V4:Nt.val v<65536 ^ n:=by rw [hn];exact Nt.iJ v
 intro m
 induction m with
 | zero =>
  intro i b c w hi hb hc Jo ht hd hv
  obtain rfl:i=n:=by omega
  rw [List.take_of_length_le (l:=v) (by omega)] at hv
  have gk:j+i<w.length:=by omega
  have Vm:=AU w j i
  have ew:=qB hd
  have Pb:=kR w0 j i (by omega)
  rw [←hT,←ew] at Pb
  have w1:=(w.getD (j+i) 0).toNat_lt
  have NH:=Nat.div_add_mod T (Nt.val v)
  have hR:=Nat.mod_lt T AP
  generalize T / Nt.val v=q at *
  generalize YM:T % Nt.val v=R at *
  generalize V5:Nt.val v=V at *
  generalize TC:65536 ^ i=P at *
  generalize hx:Nt.val ((w.drop j).take i)=X at *
  generalize Yl:Nt.val ((w0.drop j).take i)=X0 at *
  generalize hy:(w.getD (j+i) 0).toNat=y at *
  -- the top digit,less what is taken
  have GG:(V * q+R)+P * (b+c.toNat)=X+g.toNat * V+P * y:=by rw [NH,Pb];omega
  have step:∀ρ:OT,(∀v20:List UInt16,v20=w.set (j+i) (UInt16.ofInt ((y:Int) - b - c.toNat))→cond (decide ((y:Int) - b - c.toNat<0)) (bH.l5 v i j (g - 1) 0 i 0 v20 qs) (bH.j6 v i j g v20 qs)=ρ)→bH.l4 v i j g b c i i w qs=ρ:=by
   intro ρ LX
   refine bH.zC _ _ _ _ _ _ _ _ _ _ ?_
   intro v1 h1 v2 h2 v3 h3 v4 h4 v5 h5 v6 h6 v7 h7 v8 h8 v9 h9 v10 iS v11 kA v12 jM kq nr jh oa jb nV lA sw tG zS tF wv wX ET v20 CR
   have Hm:IntKind.i64.wrap ((j:Int)+(i:Int))=((j+i:Nat):Int):=by rw [i64_in _ (by omega)];omega
   rw [Hm,ak] at oa
   rw [oa] at nV CR
   rw [nV,hy,i64_in _ (by omega)] at sw
   have Sq:tF=(c.toNat:Int):=by rw [wv,i64_in _ (by omega)]
   have Sr:tG=(y:Int) - b:=by rw [zS,i64_in _ (by omega),sw]
   have Pq:wX=(y:Int) - b - c.toNat:=by rw [ET,i64_in _ (by omega),Sr,Sq]
   rw [ab (by omega),ae,Hm,bx (bN (by omega) (by omega)),bx (aa (by omega)),bx (bN (by omega) (by omega)),bx (aa (by omega)),Pq]
   exact LX v20 (by rw [CR,Pq])
  by_cases cg:g.toNat=q
  ·-- the Pg is right
   have e0:y=b+c.toNat:=by
    rw [cg,Nat.mul_comm q V] at GG
    rcases Nat.lt_trichotomy y (b+c.toNat) with h | h | h
    ·have:P * (y+1)≤P * (b+c.toNat):=Nat.mul_le_mul_left _ h
     rw [Nat.mul_add,Nat.mul_one] at this
     omega
    ·exact h
    ·have:P * (b+c.toNat+1)≤P * y:=Nat.mul_le_mul_left _ h
     rw [Nat.mul_add,Nat.mul_one] at this
     omega
   have eR:X=R:=by
    rw [cg,Nat.mul_comm q V,e0] at GG
    omega
   refine ⟨g,w.set (j+i) 0,cg,by rw [List.length_set];exact Jo,by rw [List.take_set_of_le (by omega)];exact ht,rO 0 hd,?_,step _ fun v20 CR=>?_⟩
   ·rw [wW w j i 0 gk,hx,eR];simp
   ·rw [ab (by omega),ae,CR,show (y:Int) - b - c.toNat=0 by omega];rfl
  ·-- the Pg is one Yc TR
   have Wy:g.toNat=q+1:=by omega
   have vu:g.toNat * V=V * q+V:=by rw [Wy,Nat.succ_mul,Nat.mul_comm]
   rw [vu] at GG
   have e0:y+1=b+c.toNat:=by
    rcases Nat.lt_trichotomy (y+1) (b+c.toNat) with h | h | h
    ·have:P * (y+2)≤P * (b+c.toNat):=Nat.mul_le_mul_left _ h
     rw [Nat.mul_add] at this
     omega
    ·exact h
    ·have:P * (b+c.toNat)≤P * y:=Nat.mul_le_mul_left _ (by omega)
     omega
   have eX:X+V=R+P:=by
    have:P * (b+c.toNat)=P * y+P:=by rw [←e0,Nat.mul_add,Nat.mul_one]
    omega
   have Yn:(w.set (j+i) (65535:UInt16)).length=w.length:=List.length_set
   obtain ⟨c',w',r1,r2,r3,r4,r5,r6,r7⟩:=bH.Oo v (w.set (j+i) 65535) qs i j (g - 1) hn (by omega) (by omega) i 0 0 (w.set (j+i) 65535) (by omega) (by decide) rfl rfl rfl (by simp [Nt.val])
   rw [oQ,List.take_set_of_le (Nat.le_refl _),hx,V5,TC] at r5
   have Ox:=AU w' j i
   rw [TC] at Ox
   have ec:c'=1:=by
    rcases Nat.lt_or_ge c' 1 with h | h
    ·obtain rfl:c'=0:=by omega
     rw [Nat.mul_zero] at r5;omega
    ·omega
   rw [ec,Nat.mul_one] at r5
   rw [getD_set_ne _ _ _ _ gk,ec,show ((65535:UInt16).toNat+1) % 65536=0 from rfl] at r6
   refine ⟨g - 1,w',by rw [yz (by omega)];omega,by omega,by rw [r3,List.take_set_of_le (by omega)];exact ht,by rw [r4];exact rO _ hd,?_,step _ fun v20 CR=>?_⟩
   ·rw [kR w' j i (by omega),r6,Nat.mul_zero,Nat.add_zero];omega
   ·rw [aa (by omega),ah,CR,show (y:Int) - b - c.toNat=-1 by omega]
    exact r7
 | succ m ih =>
  intro i b c w hi hb hc Jo ht hd hv
  have gk:j+i<w.length:=by omega
  have w1:=(w.getD (j+i) 0).toNat_lt
  have w2:=(v.getD i 0).toNat_lt
  have ew:=qB hd
  have hm:g.toNat * (v.getD i 0).toNat≤65535 * 65535:=Nat.mul_le_mul hg (by omega)
  obtain ⟨p,hp⟩:∃p,p=g.toNat * (v.getD i 0).toNat+c.toNat:=⟨_,rfl⟩
  obtain ⟨y,hy⟩:∃y,y=(w.getD (j+i) 0).toNat:=⟨_,rfl⟩
  obtain ⟨z,hz⟩:∃z:Int,z=(y:Int) - b - ((p % 65536:Nat):Int):=⟨_,rfl⟩
  obtain ⟨b',lr⟩:∃b':Nat,b'=if z<0 then 1 else 0:=⟨_,rfl⟩
  have Rm:((z % 65536).toNat:Int)=z+65536 * b':=by
   rw [lr];split <;> omega
  have CP:b'≤1:=by rw [lr];split <;> omega
  have ec:(UInt64.ofNat (p / 65536)).toNat=p / 65536:=by rw [UInt64.toNat_ofNat'];omega
  obtain ⟨q,w',r1,r2,r3,r4,r5,r6⟩:=ih (i+1) b' (UInt64.ofNat (p / 65536)) (w.set (j+i) (UInt16.ofInt z)) (by omega) CP (by rw [ec];omega) (by rw [List.length_set];exact Jo) (by rw [List.take_set_of_le (by omega)];exact ht) (rO _ hd) (by
   rw [kR w0 j i (by omega),wW w j i _ gk,dA v i (by omega),ec,vk,←ew,←hy,Nat.pow_succ,Nat.mul_assoc]
   have e1:y+65536 * b'=(z % 65536).toNat+b+p % 65536:=by omega
   have e2:p % 65536+65536 * (p / 65536)=p:=Nat.mod_add_div p 65536
   have e3:y+65536 * (b'+p / 65536)=(z % 65536).toNat+b+p:=by omega
   rw [Nat.add_assoc,←Nat.mul_add,e3,Nat.mul_add,Nat.mul_add,hp,Nat.mul_add]
   have e4:65536 ^ i * (b+c.toNat)=65536 ^ i * b+65536 ^ i * c.toNat:=Nat.mul_add _ _ _
   have e5:g.toNat * (Nt.val (v.take i)+65536 ^ i * (v.getD i 0).toNat)=g.toNat * Nt.val (v.take i)+65536 ^ i * (g.toNat * (v.getD i 0).toNat):=by rw [Nat.mul_add,Nat.mul_left_comm]
   omega)
  refine ⟨q,w',r1,r2,r3,r4,r5,?_⟩
  rw [←r6]
  refine bH.zC _ _ _ _ _ _ _ _ _ _ ?_
  intro v1 h1 v2 h2 v3 h3 v4 h4 v5 h5 v6 h6 v7 h7 v8 h8 v9 h9 v10 iS v11 kA v12 jM kq nr jh oa jb nV lA sw tG zS tF wv wX ET v20 CR
  have Hm:IntKind.i64.wrap ((i:Int)+(j:Int))=((j+i:Nat):Int):=by rw [i64_in _ (by omega)];omega
  rw [Hm,ak] at h4
  rw [h4] at h5 jM
  rw [ak] at h1
  have f2:v2.toNat=(v.getD i 0).toNat:=by rw [h2,hO,h1]
  have fp:(g * v2+c).toNat=p:=by rw [UInt64.toNat_add,UInt64.toNat_mul,f2,hp];omega
  have f3:v3=UInt64.ofNat (p / 65536):=by
   apply bm.1
   rw [h3,ec]
   exact (yN _).trans (by rw [fp])
  have f6:v6=(y:Int):=by rw [h6,h5,i64_in _ (by omega),hy]
  have f7:v7.toNat=p % 65536:=by rw [h7,PA,fp]
  have f8:v8=((p % 65536:Nat):Int):=by rw [h8,f7,i64_in _ (by omega)]
  have f9:v9=z:=by rw [h9,f6,f8,i64_in ((y:Int) - b) (by omega),i64_in _ (by omega),hz]
  have f10:v10=-(b':Int):=by rw [iS,f9,JC,lr];split <;> omega
  have f11:v11=(b':Int):=by rw [kA,f10,AB _ (by omega)];omega
  have f13:kq=((i+1:Nat):Int):=by rw [nr,i64_in _ (by omega)];omega
  rw [aa (by omega),ah,Hm,bx (bN (by omega) (by omega)),bx (bN (by omega) (by omega)),bx (aa (by omega)),bx (bN (by omega) (by omega)),bx (aa (by omega)),f11,f3,f13,jM,f9]
end Go.Eng
set_option maxRecDepth 20000
namespace Go.Eng
open Go.IntWalk
theorem xG {v:List UInt16} (h:v≠[]):v.getLast?.getD 0=v.getD (v.length - 1) 0:=by
 obtain ⟨b,d,rfl⟩:∃b d,v=b++[d]:=⟨v.dropLast,v.getLast h,(List.dropLast_concat_getLast _).symm⟩
 rw [aj,ay,Nat.add_sub_cancel,rI];simp
theorem qS (w:List UInt16) (k:Nat):Nt.val w=Nt.val (w.take k)+65536 ^ (w.take k).length * Nt.val (w.drop k):=by
 rw [←Nt.gh,List.take_append_drop]
theorem xH {w u:List UInt16} {k i:Nat} (h:w.take k=u.take k) (hi:i<k):w.getD i 0=u.getD i 0:=by
 have:=congrArg (fun l=>l.getD i 0) h
 simpa [ai,aU,hi] using this
theorem Dr {w u:List UInt16} {k j:Nat} (h:w.take k=u.take k) (hj:j≤k):w.take j=u.take j:=by
 have:=congrArg (fun l=>l.take j) h
 simpa [List.take_take,Nat.min_eq_left hj] using this
theorem bH.cO (v U:List UInt16) (n:Nat) (hn:n=v.length) (h2:2≤n) (hU:n<U.length) (hl:U.length≤1000001) (hv1:32768≤(v.getD (n - 1) 0).toNat) :
  ∀(k:Nat) (w qs:List UInt16),k+n≤U.length→w.length=U.length→qs.length=U.length - n→w.take k=U.take k→Nt.val (w.drop k)=Nt.val (U.drop k) % Nt.val v→Nt.val (qs.drop k)=Nt.val (U.drop k) / Nt.val v →
   bH.l1 v n ((k:Int) - 1) w qs=some [.sl .ws (Nt.fix (U.length - n) (Nt.val U / Nt.val v)),.sl .ws (Nt.fix n (Nt.val U % Nt.val v))]:=by
 -- the EA two CO digits
 have e1:=dA v (n - 1) (by omega)
 have e2:=dA v (n - 2) (by omega)
 rw [show n - 1+1=n by omega,List.take_of_length_le (by omega)] at e1
 rw [show n - 2+1=n - 1 by omega] at e2
 have AN:=Nt.iJ (v.take (n - 2))
 rw [aF,Nat.min_eq_left (by omega)] at AN
 have Mv:65536 ^ (n - 1)=65536 ^ (n - 2) * 65536:=by rw [←Nat.pow_succ];congr 1;omega
 have Tx:0<65536 ^ (n - 2):=Nat.pow_pos (by omega)
 rw [Mv] at e1
 have Tq:Nt.val v=Nt.val (v.take (n - 2))+65536 ^ (n - 2) * ((v.getD (n - 1) 0).toNat * 65536+(v.getD (n - 2) 0).toNat):=by
  rw [e1,e2,Nat.mul_add,Nat.mul_assoc,Nat.mul_comm (v.getD (n - 1) 0).toNat 65536];omega
 have Ms:((v.getD (n - 1) 0).toNat * 65536+(v.getD (n - 2) 0).toNat) * 65536 ^ (n - 2)≤Nt.val v:=by rw [Tq,Nat.mul_comm];omega
 have Qn:Nt.val v<((v.getD (n - 1) 0).toNat * 65536+(v.getD (n - 2) 0).toNat+1) * 65536 ^ (n - 2):=by
  rw [Tq,Nat.add_mul _ 1,Nat.one_mul,Nat.mul_comm ((v.getD (n - 1) 0).toNat * 65536+(v.getD (n - 2) 0).toNat)];omega
 have AP:0<Nt.val v:=Nat.lt_of_lt_of_le (Nat.mul_pos (by omega) Tx) Ms
 have V4:Nt.val v<65536 ^ n:=by rw [hn];exact Nt.iJ v
 intro k
 induction k with
 | zero =>
  intro w qs hk Jo Qg ht hw hq
  refine bH.bX _ _ _ _ _ ?_
  intro v1 h1 v2 h2 v3 h3 v4 h4 v5 h5 v6 h6 v7 h7 v8 h8 v9 h9 v10 iS
  rw [bh,bh] at hw hq
  rw [ab (by omega),ae,bx (j9 (by omega) (by omega) (by omega)),ak]
  have eq:qs=Nt.fix (U.length - n) (Nt.val U / Nt.val v):=Nt.val_inj (by rw [Nt.kL,Qg]) (by
   rw [Nt.oU,hq,Nat.mod_eq_of_lt]
   rw [←hq,←Qg];exact Nt.iJ qs)
  have er:w.take n=Nt.fix n (Nt.val U % Nt.val v):=Nt.val_inj (by rw [Nt.kL,aF];omega) (by
   have hm:=Nat.mod_lt (Nt.val U) AP
   have hs:=qS w n
   have Rq:(w.take n).length=n:=by rw [aF];omega
   rw [Rq] at hs
   have h0:Nt.val (w.drop n)=0:=by
    rcases Nat.eq_zero_or_pos (Nt.val (w.drop n)) with e | e
    ·exact e
    ·have:=Nat.mul_le_mul_left (65536 ^ n) e
     rw [Nat.mul_one] at this
     omega
   rw [h0,Nat.mul_zero,Nat.add_zero] at hs
   rw [Nt.oU,Nat.mod_eq_of_lt (by omega),←hs,hw])
  rw [eq,er]
 | succ j ih =>
  intro w qs hk Jo Qg ht hw hq
  have ek:((j+1:Nat):Int) - 1=(j:Int):=by omega
  rw [ek]
  -- what is Qy now
  have hm:=Nat.mod_lt (Nt.val (U.drop (j+1))) AP
  have hs:=qS (w.drop (j+1)) n
  have Rq:((w.drop (j+1)).take n).length=n:=by rw [aF,aV];omega
  rw [Rq] at hs
  have h0:Nt.val ((w.drop (j+1)).drop n)=0:=by
   rcases Nat.eq_zero_or_pos (Nt.val ((w.drop (j+1)).drop n)) with e | e
   ·exact e
   ·have:=Nat.mul_le_mul_left (65536 ^ n) e
    rw [Nat.mul_one] at this
    omega
  have hs:Nt.val (w.drop (j+1))=Nt.val ((w.drop (j+1)).take n):=by rw [h0,Nat.mul_zero] at hs;exact hs
  have hd:w.drop j=w.getD j 0 :: w.drop (j+1):=drop_cons (by omega) 0
  obtain ⟨T,hT⟩:∃T,T=Nt.val ((w.drop j).take (n+1)):=⟨_,rfl⟩
  have Sb:T=(w.getD j 0).toNat+65536 * Nt.val (w.drop (j+1)):=by
   rw [hT,hd,List.take_succ_cons,Nt.val,←hs]
  have wj:=(w.getD j 0).toNat_lt
  have V6:T / Nt.val v≤65535:=by
   have:T<65536 * Nt.val v:=by rw [Sb,hw];omega
   have:=(Nat.div_lt_iff_lt_mul AP).2 this
   omega
  -- its CO digits
  have t1:=kR w j n (by omega)
  have t2:=kR w j (n - 1) (by omega)
  have t3:=kR w j (n - 2) (by omega)
  rw [show n - 1+1=n by omega,show j+(n - 1)=j+n - 1 by omega] at t2
  rw [show n - 2+1=n - 1 by omega,show j+(n - 2)=j+n - 2 by omega] at t3
  have Ym:=AU w j (n - 2)
  have V9:65536 ^ n=65536 ^ (n - 2) * (65536 * 65536):=by rw [show (65536 * 65536:Nat)=65536 ^ 2 by decide,←Nat.pow_add];congr 1;omega
  obtain ⟨top,rE⟩:∃top,top=(w.getD (j+n) 0).toNat * 65536+(w.getD (j+n - 1) 0).toNat:=⟨_,rfl⟩
  have Pb:T=Nt.val ((w.drop j).take (n - 2))+65536 ^ (n - 2) * (top * 65536+(w.getD (j+n - 2) 0).toNat):=by
   rw [hT,t1,t2,t3,V9,Mv,rE]
   generalize (w.getD (j+n) 0).toNat=a
   generalize (w.getD (j+n - 1) 0).toNat=b
   generalize (w.getD (j+n - 2) 0).toNat=c
   generalize 65536 ^ (n - 2)=P
   rw [Nat.mul_add,Nat.mul_assoc,Nat.mul_assoc,Nat.add_mul,Nat.mul_add,Nat.mul_comm b 65536,show a * 65536 * 65536=65536 * 65536 * a by rw [Nat.mul_assoc,Nat.mul_comm a]]
   omega
  have Qq:(top * 65536+(w.getD (j+n - 2) 0).toNat) * 65536 ^ (n - 2)≤T:=by rw [Pb,Nat.mul_comm];omega
  have Qp:T<(top * 65536+(w.getD (j+n - 2) 0).toNat+1) * 65536 ^ (n - 2):=by
   rw [Pb,Nat.add_mul _ 1,Nat.one_mul,Nat.mul_comm (top * 65536+(w.getD (j+n - 2) 0).toNat)];omega
  have a1:=(w.getD (j+n) 0).toNat_lt
  have a2:=(w.getD (j+n - 1) 0).toNat_lt
  have a3:=(v.getD (n - 1) 0).toNat_lt
  -- the CO digit is at ux the EA
  have Vq:(w.getD (j+n) 0).toNat≤(v.getD (n - 1) 0).toNat:=by
   have hA:T<65536 * Nt.val v:=by rw [Sb,hw];omega
   rcases Nat.lt_or_ge (v.getD (n - 1) 0).toNat (w.getD (j+n) 0).toNat with h | h
   ·have g1:65536 ^ n * ((v.getD (n - 1) 0).toNat+1)≤65536 ^ n * (w.getD (j+n) 0).toNat:=Nat.mul_le_mul_left _ h
    have g2:65536 * Nt.val v<65536 ^ n * ((v.getD (n - 1) 0).toNat+1):=by
     have g3:Nt.val v<65536 ^ (n - 1) * ((v.getD (n - 1) 0).toNat+1):=by
      have:=Nt.iJ (v.take (n - 1))
      rw [aF,Nat.min_eq_left (by omega),Mv] at this
      rw [e1,Mv,Nat.mul_add,Nat.mul_one];omega
     have g4:=Nat.mul_lt_mul_of_pos_left g3 (show 0<65536 by omega)
     have g5:65536 * (65536 ^ (n - 1) * ((v.getD (n - 1) 0).toNat+1))=65536 ^ n * ((v.getD (n - 1) 0).toNat+1):=by
      rw [←Nat.mul_assoc,Nat.mul_comm 65536,←Nat.pow_succ];congr 2;omega
     omega
    omega
   ·exact h
  obtain ⟨d,R3⟩:∃d,d=(v.getD (n - 1) 0).toNat:=⟨_,rfl⟩
  have RV:top / d≤65537:=by
   have:top<65538 * d:=by rw [rE];omega
   have:=(Nat.div_lt_iff_lt_mul (show 0<d by omega)).2 this
   omega
  have Mo:T / Nt.val v≤top / d:=by
   -- T<(top+1) * B^(n-1),and the Qx is at least d * B^(n-1)
   have g1:T<(top+1) * 65536 ^ (n - 1):=by
    refine Nat.lt_of_lt_of_le Qp ?_
    rw [Mv,Nat.mul_comm (65536 ^ (n - 2)) 65536,←Nat.mul_assoc]
    refine av _ ?_
    have:=(w.getD (j+n - 2) 0).toNat_lt
    omega
   have g2:d * 65536 ^ (n - 1)≤Nt.val v:=by
    have h9:=e1
    rw [←R3,←Mv] at h9
    rw [h9,Nat.mul_comm d];exact Nat.le_add_left _ _
   have g3:T / Nt.val v≤T / (d * 65536 ^ (n - 1)):=Nat.div_le_div_left g2 (Nat.mul_pos (by omega) (Nat.pow_pos (by omega)))
   have g4:T / (d * 65536 ^ (n - 1))=T / 65536 ^ (n - 1) / d:=by rw [Nat.mul_comm,Nat.div_div_eq_div_mul]
   have g5:T / 65536 ^ (n - 1)≤top:=by
    have:=(Nat.div_lt_iff_lt_mul (show 0<65536 ^ (n - 1) from Nat.pow_pos (by omega))).2 g1
    omega
   rw [g4] at g3
   exact Nat.le_trans g3 (Nat.div_le_div_right g5)
  have Rs:top<65536 * 65536:=by rw [rE];omega
  -- the operands
  have key:∀(g r:UInt64),g.toNat=top / d→r.toNat=top % d→bH.l2 v n j g r w qs=some [.sl .ws (Nt.fix (U.length - n) (Nt.val U / Nt.val v)),.sl .ws (Nt.fix n (Nt.val U % Nt.val v))]:=by
   intro g r hg hr
   have NH:=Nat.div_add_mod top d
   have Mf:=Nat.mod_lt top (show 0<d by omega)
   obtain ⟨g',i1,i2,i3,i4⟩:=bH.jd v w qs n j hn (by omega) (by omega) (by omega) (V:=Nt.val v) (T:=T) (P:=65536 ^ (n - 2)) (top:=top) Tx hv1 rE Ms Qn Qq Qp V6 (top / d) g r (by omega) (by omega) (by rw [hg,hr,←R3,Nat.mul_comm];omega) (by omega) (by rw [hg];exact Mo)
   rw [i4,bH.su]
   obtain ⟨q,w',r1,r2,r3,r4,r5,r6⟩:=bH.Gi v w qs n j g' hn (by omega) (by omega) i3 hT AP i1 i2 n 0 0 0 w (by omega) (by omega) (by decide) rfl rfl rfl (by simp [Nt.val])
   refine r6.trans ?_
   refine bH.Gq _ _ _ _ _ _ ?_
   intro u1 k1 u2 k2 u3 k3
   rw [ak] at k2
   rw [bx (bN (by omega) (by omega)),bx (aa (by omega)),k3,i64_in _ (by omega)]
   have Tt:=qb U j (by omega)
   have Wp:w.getD j 0=U.getD j 0:=xH ht (by omega)
   rw [←Wp] at Tt
   have Ts:Nt.val (U.drop j)=T+Nt.val v * (65536 * (Nt.val (U.drop (j+1)) / Nt.val v)):=by
    have:=Nat.div_add_mod (Nt.val (U.drop (j+1))) (Nt.val v)
    rw [Tt,Sb,hw]
    conv=>lhs;rw [←this]
    rw [Nat.mul_add,Nat.mul_left_comm];omega
   refine ih w' u2 (by omega) (by omega) (by rw [k2,List.length_set];exact Qg) (by rw [r3];exact Dr ht (by omega)) ?_ ?_
   ·have SZ:=qS (w'.drop j) (n+1)
    have Rp:((w'.drop j).take (n+1)).length=n+1:=by rw [aF,aV];omega
    have e3:(w'.drop j).drop (n+1)=(w.drop (j+1)).drop n:=by
     rw [List.drop_drop,List.drop_drop,show j+(n+1)=j+n+1 by omega,r4];congr 1;omega
    rw [Rp,e3,h0,Nat.mul_zero,Nat.add_zero,r5] at SZ
    rw [SZ,Ts,Nat.add_mul_mod_self_left]
   ·have e4:(u2.getD j 0).toNat=T / Nt.val v:=by
     rw [k2,getD_set_ne _ _ _ _ (by omega),k1,nu,Nt.dI,r1,Nat.mod_eq_of_lt (by omega)]
    rw [qb u2 j (by rw [k2,List.length_set];omega),e4,k2,List.drop_set_of_lt (by omega),hq,Ts,Nat.add_mul_div_left _ _ AP]
  refine bH.bX _ _ _ _ _ ?_
  intro v1 h1 v2 zR v3 h3 v4 h4 v5 h5 v6 h6 v7 h7 v8 h8 v9 h9 v10 iS
  have Wt:IntKind.i64.wrap ((j:Int)+(n:Int))=((j+n:Nat):Int):=by rw [i64_in _ (by omega)];omega
  rw [Wt] at h1 h5 ⊢
  rw [ak] at h1
  have e5:v5=((j+n - 1:Nat):Int):=by rw [h5,i64_in _ (by omega)];omega
  have e8:v8=((n - 1:Nat):Int):=by rw [h8,i64_in _ (by omega)];omega
  rw [h1] at zR
  rw [e5,ak] at h6
  rw [e8,ak] at h9
  have f10:v10.toNat=d:=by rw [iS,hO,h9,R3]
  have f3:v3.toNat=(w.getD (j+n) 0).toNat:=by rw [h3,hO,zR]
  have f7:v7.toNat=(w.getD (j+n - 1) 0).toNat:=by rw [h7,hO,h6]
  have f4:v4.toNat=(w.getD (j+n) 0).toNat * 65536:=by rw [h4,←f3];exact yO (by omega)
  have f47:(v4 ||| v7).toNat=top:=by rw [Oi f4 (by omega),f7,rE]
  have Va:v10≠0:=fun e=>by
   have:=congrArg UInt64.toNat e
   rw [f10] at this
   have e0:(0:UInt64).toNat=0:=rfl
   omega
  rw [aa (by omega),ah,bx (bN (by omega) (by omega)),bx (aa (by omega)),bx (bN (by omega) (by omega)),bx (aa (by omega)),bx (bN (by omega) (by omega)),ab Va,aI,bU,bx (bN (by omega) (by omega)),bU]
  exact key _ _ (by rw [UInt64.toNat_div,f47,f10]) (by rw [UInt64.toNat_mod,f47,f10])
theorem bH.goal (u v:List UInt16) (hp:decide (u.length≤1000000∧2≤v.length∧v.length≤u.length∧32768≤(v.getLast?.getD 0).toNat)=true):bH.F u v=some [.sl .ws (Nt.fix (u.length+1 - v.length) (Nt.val u / Nt.val v)),.sl .ws (Nt.fix v.length (Nt.val u % Nt.val v))]:=by
 obtain ⟨l1,l2,l3,l4⟩:=aq hp
 rw [xG (by intro e;subst e;simp at l2)] at l4
 refine bH.bY _ _ ?_
 intro v1 h1 v2 h2 v3 h3 v4 h4
 subst h1
 have hl:(u++[(0:UInt16)]).length=u.length+1:=by simp
 have e2:v2=((u.length+1 - v.length:Nat):Int):=by rw [h2,hl,i64_in _ (by omega)];omega
 have e4:v4=((u.length+1 - v.length:Nat):Int) - 1:=by rw [h4,e2,i64_in _ (by omega)]
 have hU:Nt.val (u++[0])=Nt.val u:=Nt.qT u
 have AP:0<Nt.val v:=by
  have:=dA v (v.length - 1) (by omega)
  rw [show v.length - 1+1=v.length by omega,List.take_length] at this
  have h5:=Nat.mul_pos (show 0<65536 ^ (v.length - 1) from Nat.pow_pos (by omega)) (show 0<(v.getD (v.length - 1) 0).toNat by omega)
  omega
 have Mh:Nt.val ((u++[(0:UInt16)]).drop (u.length+1 - v.length))<Nt.val v:=by
  rw [List.drop_append_of_le_length (by omega),Nt.qT]
  have h6:=Nt.iJ (u.drop (u.length+1 - v.length))
  rw [aV,show u.length - (u.length+1 - v.length)=v.length - 1 by omega] at h6
  have:=dA v (v.length - 1) (by omega)
  rw [show v.length - 1+1=v.length by omega,List.take_length] at this
  have h5:=Nat.mul_le_mul_left (65536 ^ (v.length - 1)) (show 1≤(v.getD (v.length - 1) 0).toNat by omega)
  omega
 have:=bH.cO v (u++[0]) v.length rfl l2 (by omega) (by omega) l4 (u.length+1 - v.length) (u++[0]) v3 (by omega) rfl (by rw [h3,e2];simp) rfl (Nat.mod_eq_of_lt Mh).symm (by
  rw [Nat.div_eq_of_lt Mh,h3,e2];simp [Nt.val])
 rw [hU,hl] at this
 rw [bx (dP (by rw [ay];omega) (by rw [ay];omega)),bx (kZ.2 ⟨by omega,by omega,by omega,by rw [jA];omega⟩),e4]
 exact this
end Go.Eng
