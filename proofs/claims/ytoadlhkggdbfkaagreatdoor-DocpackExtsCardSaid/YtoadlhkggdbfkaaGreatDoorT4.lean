/- Texts of my own, one behind the other: DkGp1, DkGp2, DkGp3, DkG, DkUtfP, DkT1, DkT2, DkT3, DkT4, DkRegP, DkBookP. -/
import Derived.Test.YtoadlhkggdbfkaaGreatDoorT3
set_option linter.unusedVariables false
set_option linter.unusedSimpArgs false
namespace Go.Eng
open Go.Proofs
noncomputable section
def cz.env:EV:=[]
def cz.E:eo:=cK tryzGl cz.env
def cz.m1:TM := .seq (oS [oV 6 7,oV 1 8,oB .lss 7 8 9,oV 9 10,oG 10 true (oV 1 11),oG 10 true (oI .leq 11 (.i .i64 8) 12),oP 10 12 false 13] (.cond (.s 13) [] .skip (.exit 0))) none (.seq (.block 1 [(5,.gb 103 1),(lk 103,.live 1)] (oS [oV 5 16,oV 0 17,oK (.k (.ci .u8)) [17] [18],oK (.bl .bs 1) [18] [19],oK (.k (.ap 101 103 1 1)) [16,19,(lk 101),(lk 103)] [20,lk 101,lk 103],oV 20 5] (.fK [oV 0 21,oI .quo 21 (.u64 256) 22,oV 22 0]))) none (.fK [oV 6 14,oI .add 14 (.i .i64 1) 15,oV 15 6]))
def cz.m:TM:=oS [oW (.sl .bs ([]:List UInt8)) 4] (oS [oK (.nl .bs 101) [(lk 101)] [5,lk 101]] (.seq (oS [oW (.i .i64 0) 6] (.block 0 [(5,.gb 101 1),(lk 101,.live 1)] (.loop [0,1,5,6] [(5,.gb 101 1),(lk 101,.live 1)] cz.m1))) none (oS [oV 5 23,oV 23 4] .ret)))
def cz.d:gD:=D0 2 cz.m [.t 4]
def cz.F (v:UInt64) (n:Int):OT:=cz.d.run cz.E [(.u64 v),(.i .i64 n)]
def cz.k1:fT (List TV):=iw (ev _ cz.E (oS [oV 5 23,oV 23 4] .ret)) none (gJ cz.d)
def cz.l1 (x0:UInt64) (x1:Int) (x2:List UInt8) (x3:Int):OT:=gx (gY _ cz.E cz.m1) oz [0,1,5,6] (dT [0,1,5,6] [(.u64 x0),(.i .i64 x1),(.sl .bs x2),(.i .i64 x3)]) (er 0 cz.k1)
theorem cz.ew (x0:UInt64) (x1:Int) (x2:List UInt8) (x3:Int) {ρ:OT} (K:∀(v1:Bool) (h1:v1=(cond (decide (x3<x1)) (decide (x1≤(8:Int))) false)) (v2:UInt8) (h2:v2=(UInt8.ofInt ((x0).toNat:Int))) (v3:Int) (h3:v3=(IntKind.i64.wrap (x3+(1:Int)))),ck (!(decide (x3<x1)) || (decide (x3<x1))) (ck (!(decide (x3<x1)) || (decide (x3<x1))) (cond v1
  (ck (fS ((x2).length+(([v2]:List UInt8)).length) 1) (ck (!decide ((256:UInt64)=0)) (cz.l1 (x0 / (256:UInt64)) x1 (x2++([v2]:List UInt8)) v3)))
  (some [(.sl .bs x2)])))=ρ):cz.l1 x0 x1 x2 x3=ρ:=((fD _ _ _ _ _ _).trans (by kernel_rfl)).trans (K _ rfl _ rfl _ rfl)
theorem cz.fR (v:UInt64) (n:Int):cz.F v n=cz.l1 v n ([]:List UInt8) (0:Int):=by kernel_rfl
theorem cz.di:CK 80 cz.env cz.d:=eI (by kernel_rfl)
def bP.env:EV:=[(80,(cz.c,cz.sg))]
def bP.E:eo:=cK tryzGl bP.env
def bP.m1:TM := .seq (oS [oV 7 14,oI .geq 14 (.i .i64 0) 15] (.cond (.s 15) [] .skip (.exit 0))) none (.seq (.block 1 [(6,.gb 103 1),(lk 103,.live 1)] (.fK [oV 6 18,oV 5 19,oV 7 20,oK (.k (.ix 1)) [19,20] [21],oK (.k (.lr 1 false)) [21] [22],oK (.bl .bs 1) [22] [23],oK (.k (.ap 101 103 1 1)) [18,23,(lk 101),(lk 103)] [24,lk 101,lk 103],oV 24 6])) none (.fK [oV 7 16,oI .sub 16 (.i .i64 1) 17,oV 17 7]))
def bP.m:TM:=oS [oW (.sl .bs ([]:List UInt8)) 4] (oS [oV 0 8,oV 1 9,oC 80 2 1 [8,9] 10,oV 10 5] (oS [oK (.nl .bs 101) [(lk 101)] [6,lk 101]] (.seq (oS [oV 5 11,oK (.k .len) [11] [12],oI .sub 12 (.i .i64 1) 13,oV 13 7] (.block 0 [(6,.gb 101 1),(lk 101,.live 1)] (.loop [5,6,7] [(6,.gb 101 1),(lk 101,.live 1)] bP.m1))) none (oS [oV 6 25,oV 25 4] .ret))))
def bP.d:gD:={ np:=2,m:=bP.m,ref:=none,fA:=[],res:=[.t 4],own:=[(0,1)],new:=none,fx:=[] }
def bP.F (v:UInt64) (n:Int):OT:=bP.d.run bP.E [(.u64 v),(.i .i64 n)]
def bP.k1:fT (List TV):=iw (ev _ bP.E (oS [oV 6 25,oV 25 4] .ret)) none (gJ bP.d)
def bP.l1 (x0:List UInt8) (x1:List UInt8) (x2:Int):OT:=gx (gY _ bP.E bP.m1) oz [5,6,7] (dT [5,6,7] [(.sl .bs x0),(.sl .bs x1),(.i .i64 x2)]) (er 0 bP.k1)
theorem bP.ew (x0:List UInt8) (x1:List UInt8) (x2:Int) {ρ:OT} (K:∀(v1:UInt8) (h1:v1=(List.getD x0 (x2).toNat (0:UInt8))) (v2:Int) (h2:v2=(IntKind.i64.wrap (x2 - (1:Int)))),cond (decide ((0:Int)≤x2))
  (ck (eK x2 (x0).length) (ck (fS ((x1).length+(([v1]:List UInt8)).length) 1) (bP.l1 x0 (x1++([v1]:List UInt8)) v2)))
  (some [(.sl .bs x1)])=ρ):bP.l1 x0 x1 x2=ρ:=((fD _ _ _ _ _ _).trans (by kernel_rfl)).trans (K _ rfl _ rfl)
theorem bP.dV (v:UInt64) (n:Int) {ρ:OT} (K:∀(v1:Int) (h1:v1=(((cM.iy v (n).toNat)).length:Int)) (v2:Int) (h2:v2=(IntKind.i64.wrap (v1 - (1:Int)))),ck (decide (0≤n∧n≤8)) (bP.l1 (cM.iy v (n).toNat) ([]:List UInt8) v2)=ρ):bP.F v n=ρ:=Eq.trans (by kernel_rfl) (K _ rfl _ rfl)
theorem bP.di:CK 64 bP.env bP.d:=eI (by kernel_rfl)
def dC.env:EV:=[]
def dC.E:eo:=cK tryzGl dC.env
def dC.m:TM:=oS [oW (.i .i64 0) 2] (.seq (.block 0 [] (oS [oV 0 4,oI .lss 4 (.u64 256) 5,oV 5 3] (.cond (.s 3) [] (oS [oW (.i .i64 1) 2] .ret) (oS [oV 0 7,oI .lss 7 (.u64 65536) 8,oV 8 6] (.cond (.s 6) [] (oS [oW (.i .i64 2) 2] .ret) (oS [oV 0 10,oI .lss 10 (.u64 4294967296) 11,oV 11 9] (.cond (.s 9) [] (oS [oW (.i .i64 4) 2] .ret) .skip))))))) none (oS [oW (.i .i64 8) 2] .ret))
def dC.d:gD:=D0 1 dC.m [.t 2]
def dC.F (n:UInt64):OT:=dC.d.run dC.E [(.u64 n)]
theorem dC.fR (n:UInt64):dC.F n=cond (decide (n<(256:UInt64)))
  (some [(.i .i64 1)])
  (cond (decide (n<(65536:UInt64)))
  (some [(.i .i64 2)])
  (cond (decide (n<(4294967296:UInt64)))
  (some [(.i .i64 4)])
  (some [(.i .i64 8)]))):=by kernel_rfl
theorem dC.di:CK 110 dC.env dC.d:=eI (by kernel_rfl)
def dD.env:EV:=[]
def dD.E:eo:=cK tryzGl dD.env
def dD.m:TM:=oS [oW (.u8 0) 2] (.seq (oS [oV 0 3] (.block 0 [] (oS [oI .eql 3 (.i .i64 1) 5,oV 5 4] (.cond (.s 4) [] (oS [oW (.u8 0) 2] .ret) (oS [oI .eql 3 (.i .i64 2) 7,oV 7 6] (.cond (.s 6) [] (oS [oW (.u8 1) 2] .ret) (oS [oI .eql 3 (.i .i64 4) 9,oV 9 8] (.cond (.s 8) [] (oS [oW (.u8 2) 2] .ret) .skip)))))))) none (oS [oW (.u8 3) 2] .ret))
def dD.d:gD:=D0 1 dD.m [.t 2]
def dD.F (n:Int):OT:=dD.d.run dD.E [(.i .i64 n)]
theorem dD.fR (n:Int):dD.F n=cond (decide (n=(1:Int)))
  (some [(.u8 0)])
  (cond (decide (n=(2:Int)))
  (some [(.u8 1)])
  (cond (decide (n=(4:Int)))
  (some [(.u8 2)])
  (some [(.u8 3)]))):=by kernel_rfl
theorem dD.di:CK 111 dD.env dD.d:=eI (by kernel_rfl)
def dw.env:EV:=[(64,(bP.c,bP.sg)),(110,(dC.c,dC.sg)),(111,(dD.c,dD.sg))]
def dw.E:eo:=cK tryzGl dw.env
def dw.m:TM:=oS [oW (.sl .bs ([]:List UInt8)) 6] (oS [oV 1 8,oC 110 1 1 [8] 9,oV 2 10,oK (.k .mx) [9,10] [11],oV 11 7] (oS [oV 0 12,oV 7 13,oC 111 1 1 [13] 14,oB .add 12 14 15,oV 2 16,oC 111 1 1 [16] 17,oB .sub 15 17 18,oK (.blt .bs 1 101) [18,(lk 101)] [19,lk 101],oV 1 20,oV 7 21,oK (.k (.call 64 ⟨2,none,[],[],1,[(0,102,1)],none,[]⟩)) [20,21,(lk 102)] [22,lk 102],oK (.k (.ap 101 103 1 1)) [19,22,(lk 101),(lk 103)] [23,lk 101,lk 103],oV 23 6] .ret))
def dw.d:gD:={ np:=3,m:=dw.m,ref:=none,fA:=[],res:=[.t 6],own:=[(0,1)],new:=none,fx:=[] }
def dw.F (f:UInt8) (n:UInt64) (least:Int):OT:=dw.d.run dw.E [(.u8 f),(.u64 n),(.i .i64 least)]
theorem dw.dV (f:UInt8) (n:UInt64) (least:Int) {ρ:OT} (K:∀(v1:UInt8) (h1:v1=(Mp.step ((nJ (Mp.wide n) least)))) (v2:List UInt8) (h2:v2=([((f+v1) - (Mp.step least))]:List UInt8)) (v3:List UInt8) (h3:v3=(cM.eb n (((nJ (Mp.wide n) least))).toNat)),ck (decide (0≤((nJ (Mp.wide n) least))∧((nJ (Mp.wide n) least))≤8)) (ck (fS ((v2).length+(v3).length) 1) (some [(.sl .bs (v2++v3))]))=ρ):dw.F f n least=ρ:=Eq.trans (by kernel_rfl) (K _ rfl _ rfl _ rfl)
theorem dw.di:CK 94 dw.env dw.d:=eI (by kernel_rfl)
def ef.env:EV:=[(94,(dw.c,dw.sg))]
def ef.E:eo:=cK tryzGl ef.env
def ef.m:TM:=oS [oW (.sl .bs ([]:List UInt8)) 4] (.seq (oS [oV 0 5] (.block 0 [] (oS [oI .eql 5 (.u64 1) 7,oV 7 6] (.cond (.s 6) [] (oS [oV 1 8,oK (.k (.ci .u8)) [8] [9],oX (.blt .bs 2 101) [.c (.u8 212),.s 9,.s (lk 101)] [10,lk 101],oV 10 4] .ret) (oS [oI .eql 5 (.u64 2) 12,oV 12 11] (.cond (.s 11) [] (oS [oV 1 13,oK (.k (.ci .u8)) [13] [14],oX (.blt .bs 2 102) [.c (.u8 213),.s 14,.s (lk 102)] [15,lk 102],oV 15 4] .ret) (oS [oI .eql 5 (.u64 4) 17,oV 17 16] (.cond (.s 16) [] (oS [oV 1 18,oK (.k (.ci .u8)) [18] [19],oX (.blt .bs 2 103) [.c (.u8 214),.s 19,.s (lk 103)] [20,lk 103],oV 20 4] .ret) (oS [oI .eql 5 (.u64 8) 22,oV 22 21] (.cond (.s 21) [] (oS [oV 1 23,oK (.k (.ci .u8)) [23] [24],oX (.blt .bs 2 104) [.c (.u8 215),.s 24,.s (lk 104)] [25,lk 104],oV 25 4] .ret) (oS [oI .eql 5 (.u64 16) 27,oV 27 26] (.cond (.s 26) [] (oS [oV 1 28,oK (.k (.ci .u8)) [28] [29],oX (.blt .bs 2 105) [.c (.u8 216),.s 29,.s (lk 105)] [30,lk 105],oV 30 4] .ret) .skip)))))))))))) none (oS [oV 0 31,oX (.k (.call 94 ⟨3,none,[],[],1,[(0,106,1)],none,[]⟩)) [.c (.u8 199),.s 31,.c (.i .i64 1),.s (lk 106)] [32,lk 106],oV 1 33,oK (.k (.ci .u8)) [33] [34],oK (.bl .bs 1) [34] [35],oK (.k (.ap 106 108 1 1)) [32,35,(lk 106),(lk 108)] [36,lk 106,lk 108],oV 36 4] .ret))
def ef.d:gD:={ np:=2,m:=ef.m,ref:=none,fA:=[],res:=[.t 4],own:=[(0,1)],new:=none,fx:=[] }
def ef.F (n:UInt64) (k:UInt64):OT:=ef.d.run ef.E [(.u64 n),(.u64 k)]
theorem ef.dV (n:UInt64) (k:UInt64) {ρ:OT} (K:∀(v1:UInt8) (h1:v1=(UInt8.ofInt ((k).toNat:Int))) (v2:List UInt8) (h2:v2=([(212:UInt8),v1]:List UInt8)) (v3:List UInt8) (h3:v3=([(213:UInt8),v1]:List UInt8)) (v4:List UInt8) (h4:v4=([(214:UInt8),v1]:List UInt8)) (v5:List UInt8) (h5:v5=([(215:UInt8),v1]:List UInt8)) (v6:List UInt8) (h6:v6=([(216:UInt8),v1]:List UInt8)) (v7:List UInt8) (h7:v7=(Mp.form ((199:UInt8)) n ((1:Int)))),cond (decide (n=(1:UInt64)))
  (some [(.sl .bs v2)])
  (cond (decide (n=(2:UInt64)))
  (some [(.sl .bs v3)])
  (cond (decide (n=(4:UInt64)))
  (some [(.sl .bs v4)])
  (cond (decide (n=(8:UInt64)))
  (some [(.sl .bs v5)])
  (cond (decide (n=(16:UInt64)))
  (some [(.sl .bs v6)])
  (ck (decide (((1:Int))≤8)) (ck (fS ((v7).length+(([v1]:List UInt8)).length) 1) (some [(.sl .bs (v7++([v1]:List UInt8)))])))))))=ρ):ef.F n k=ρ:=Eq.trans (by kernel_rfl) (K _ rfl _ rfl _ rfl _ rfl _ rfl _ rfl _ rfl)
theorem ef.di:CK 96 ef.env ef.d:=eI (by kernel_rfl)
def cJ.env:EV:=[(64,(bP.c,bP.sg))]
def cJ.E:eo:=cK tryzGl cJ.env
def cJ.m:TM:=oS [oW (.sl .bs ([]:List UInt8)) 2] (.seq (.block 0 [] (oS [oV 0 4,oI .lss 4 (.u64 32) 5,oV 5 3] (.cond (.s 3) [] (oS [oV 0 6,oX (.k (.bin .sub)) [.c (.u64 255),.s 6] [7],oK (.k (.ci .u8)) [7] [8],oK (.blt .bs 1 101) [8,(lk 101)] [9,lk 101],oV 9 2] .ret) (oS [oV 0 11,oI .lss 11 (.u64 128) 12,oV 12 10] (.cond (.s 10) [] (oS [oX (.blt .bs 1 102) [.c (.u8 208),.s (lk 102)] [13,lk 102],oV 0 14,oK (.k (.un .xor)) [14] [15],oX (.k (.call 64 ⟨2,none,[],[],1,[(0,103,1)],none,[]⟩)) [.s 15,.c (.i .i64 1),.s (lk 103)] [16,lk 103],oK (.k (.ap 102 104 1 1)) [13,16,(lk 102),(lk 104)] [17,lk 102,lk 104],oV 17 2] .ret) (oS [oV 0 19,oI .lss 19 (.u64 32768) 20,oV 20 18] (.cond (.s 18) [] (oS [oX (.blt .bs 1 105) [.c (.u8 209),.s (lk 105)] [21,lk 105],oV 0 22,oK (.k (.un .xor)) [22] [23],oX (.k (.call 64 ⟨2,none,[],[],1,[(0,106,1)],none,[]⟩)) [.s 23,.c (.i .i64 2),.s (lk 106)] [24,lk 106],oK (.k (.ap 105 107 1 1)) [21,24,(lk 105),(lk 107)] [25,lk 105,lk 107],oV 25 2] .ret) (oS [oV 0 27,oI .lss 27 (.u64 2147483648) 28,oV 28 26] (.cond (.s 26) [] (oS [oX (.blt .bs 1 108) [.c (.u8 210),.s (lk 108)] [29,lk 108],oV 0 30,oK (.k (.un .xor)) [30] [31],oX (.k (.call 64 ⟨2,none,[],[],1,[(0,109,1)],none,[]⟩)) [.s 31,.c (.i .i64 4),.s (lk 109)] [32,lk 109],oK (.k (.ap 108 110 1 1)) [29,32,(lk 108),(lk 110)] [33,lk 108,lk 110],oV 33 2] .ret) .skip))))))))) none (oS [oX (.blt .bs 1 111) [.c (.u8 211),.s (lk 111)] [34,lk 111],oV 0 35,oK (.k (.un .xor)) [35] [36],oX (.k (.call 64 ⟨2,none,[],[],1,[(0,112,1)],none,[]⟩)) [.s 36,.c (.i .i64 8),.s (lk 112)] [37,lk 112],oK (.k (.ap 111 113 1 1)) [34,37,(lk 111),(lk 113)] [38,lk 111,lk 113],oV 38 2] .ret))
def cJ.d:gD:={ np:=1,m:=cJ.m,ref:=none,fA:=[],res:=[.t 2],own:=[(0,1)],new:=none,fx:=[] }
def cJ.F (n:UInt64):OT:=cJ.d.run cJ.E [(.u64 n)]
theorem cJ.dV (n:UInt64) {ρ:OT} (K:∀(v1:UInt8) (h1:v1=(UInt8.ofInt ((((255:UInt64) - n)).toNat:Int))) (v2:List UInt8) (h2:v2=([(208:UInt8)]:List UInt8)) (v3:List UInt8) (h3:v3=(cM.eb ((~~~n)) (((1:Int))).toNat)) (v4:List UInt8) (h4:v4=([(209:UInt8)]:List UInt8)) (v5:List UInt8) (h5:v5=(cM.eb ((~~~n)) (((2:Int))).toNat)) (v6:List UInt8) (h6:v6=([(210:UInt8)]:List UInt8)) (v7:List UInt8) (h7:v7=(cM.eb ((~~~n)) (((4:Int))).toNat)) (v8:List UInt8) (h8:v8=([(211:UInt8)]:List UInt8)) (v9:List UInt8) (h9:v9=(cM.eb ((~~~n)) (((8:Int))).toNat)),cond (decide (n<(32:UInt64)))
  (some [(.sl .bs ([v1]:List UInt8))])
  (cond (decide (n<(128:UInt64)))
  (ck (decide (0≤((1:Int))∧((1:Int))≤8)) (ck (fS ((v2).length+(v3).length) 1) (some [(.sl .bs (v2++v3))])))
  (cond (decide (n<(32768:UInt64)))
  (ck (decide (0≤((2:Int))∧((2:Int))≤8)) (ck (fS ((v4).length+(v5).length) 1) (some [(.sl .bs (v4++v5))])))
  (cond (decide (n<(2147483648:UInt64)))
  (ck (decide (0≤((4:Int))∧((4:Int))≤8)) (ck (fS ((v6).length+(v7).length) 1) (some [(.sl .bs (v6++v7))])))
  (ck (decide (0≤((8:Int))∧((8:Int))≤8)) (ck (fS ((v8).length+(v9).length) 1) (some [(.sl .bs (v8++v9))]))))))=ρ):cJ.F n=ρ:=Eq.trans (by kernel_rfl) (K _ rfl _ rfl _ rfl _ rfl _ rfl _ rfl _ rfl _ rfl _ rfl)
theorem cJ.di:CK 95 cJ.env cJ.d:=eI (by kernel_rfl)
def dE.env:EV:=[(64,(bP.c,bP.sg)),(94,(dw.c,dw.sg)),(95,(cJ.c,cJ.sg)),(96,(ef.c,ef.sg))]
def dE.E:eo:=cK tryzGl dE.env
def dE.m:TM:=oS [oK (.k (.bx 1105)) [0,1105] [1,1105],oW (.sl .bs ([]:List UInt8)) 2] (.seq (oS [oA 1105 0 0 1 3,oL 1105 0 1 3 4] (.block 0 [(1,.ptr 1105 0),(1105,.cl [])] (oS [oI .eql 4 (.i .i64 1) 6,oV 6 5] (.cond (.s 5) [] (.seq (oS [oA 1105 0 1 1 7,oL 1105 1 1 7 8,oI .lss 8 (.u64 128) 9] (.cond (.s 9) [] (oS [oA 1105 0 1 1 10,oL 1105 1 1 10 11,oK (.k (.ci .u8)) [11] [12],oK (.blt .bs 1 101) [12,(lk 101)] [13,lk 101],oV 13 2] .ret) .skip)) none (oS [oA 1105 0 1 1 14,oL 1105 1 1 14 15,oX (.k (.call 94 ⟨3,none,[],[],1,[(0,102,1)],none,[]⟩)) [.c (.u8 204),.s 15,.c (.i .i64 1),.s (lk 102)] [16,lk 102],oV 16 2] .ret)) (oS [oI .eql 4 (.i .i64 2) 18,oV 18 17] (.cond (.s 17) [] (oS [oA 1105 0 1 1 19,oL 1105 1 1 19 20,oK (.k (.call 95 ⟨1,none,[],[],1,[(0,103,1)],none,[]⟩)) [20,(lk 103)] [21,lk 103],oV 21 2] .ret) (oS [oI .eql 4 (.i .i64 8) 23,oV 23 22] (.cond (.s 22) [] (oS [oX (.bl .bs 3) [.c (.u8 194),.c (.u8 195),.c (.u8 192)] [24],oA 1105 0 1 1 25,oL 1105 1 1 25 26,oI .sub 26 (.u64 20) 27,oK (.k (.ix 1)) [24,27] [28],oK (.k (.lr 1 false)) [28] [29],oK (.blt .bs 1 105) [29,(lk 105)] [30,lk 105],oV 30 2] .ret) (oS [oI .eql 4 (.i .i64 9) 32,oV 32 31] (.cond (.s 31) [] (oS [oX (.blt .bs 1 106) [.c (.u8 203),.s (lk 106)] [33,lk 106],oA 1105 0 1 1 34,oL 1105 1 1 34 35,oX (.k (.call 64 ⟨2,none,[],[],1,[(0,107,1)],none,[]⟩)) [.s 35,.c (.i .i64 8),.s (lk 107)] [36,lk 107],oK (.k (.ap 106 108 1 1)) [33,36,(lk 106),(lk 108)] [37,lk 106,lk 108],oV 37 2] .ret) (oS [oI .eql 4 (.i .i64 4) 39,oV 39 38] (.cond (.s 38) [] (.seq (oS [oA 1105 0 3 1 40,oL 1105 3 1 40 41,oK (.k .uO) [41] [42],oI .lss 42 (.i .i64 32) 43] (.cond (.s 43) [] (oS [oA 1105 0 3 1 44,oL 1105 3 1 44 45,oK (.k .uO) [45] [46],oX (.k (.bin .add)) [.c (.i .i64 160),.s 46] [47],oK (.k (.ci .u8)) [47] [48],oK (.blt .bs 1 109) [48,(lk 109)] [49,lk 109],oV 49 2] .ret) .skip)) none (oS [oA 1105 0 3 1 50,oL 1105 3 1 50 51,oK (.k .uO) [51] [52],oK (.k (.ci .u64)) [52] [53],oX (.k (.call 94 ⟨3,none,[],[],1,[(0,110,1)],none,[]⟩)) [.c (.u8 217),.s 53,.c (.i .i64 1),.s (lk 110)] [54,lk 110],oV 54 2] .ret)) (oS [oI .eql 4 (.i .i64 3) 56,oV 56 55] (.cond (.s 55) [] (oS [oA 1105 0 2 1 57,oL 1105 2 1 57 58,oK (.k .len) [58] [59],oK (.k (.ci .u64)) [59] [60],oX (.k (.call 94 ⟨3,none,[],[],1,[(0,111,1)],none,[]⟩)) [.c (.u8 196),.s 60,.c (.i .i64 1),.s (lk 111)] [61,lk 111],oV 61 2] .ret) (oS [oI .eql 4 (.i .i64 5) 63,oV 63 62] (.cond (.s 62) [] (.seq (oS [oA 1105 0 4 1 64,oL 1105 4 1 64 65,oK (.k .len) [65] [66],oI .lss 66 (.i .i64 16) 67] (.cond (.s 67) [] (oS [oA 1105 0 4 1 68,oL 1105 4 1 68 69,oK (.k .len) [69] [70],oX (.k (.bin .add)) [.c (.i .i64 144),.s 70] [71],oK (.k (.ci .u8)) [71] [72],oK (.blt .bs 1 112) [72,(lk 112)] [73,lk 112],oV 73 2] .ret) .skip)) none (oS [oA 1105 0 4 1 74,oL 1105 4 1 74 75,oK (.k .len) [75] [76],oK (.k (.ci .u64)) [76] [77],oX (.k (.call 94 ⟨3,none,[],[],1,[(0,113,1)],none,[]⟩)) [.c (.u8 220),.s 77,.c (.i .i64 2),.s (lk 113)] [78,lk 113],oV 78 2] .ret)) (oS [oI .eql 4 (.i .i64 6) 80,oV 80 79] (.cond (.s 79) [] (.seq (oS [oA 1105 0 4 1 81,oL 1105 4 1 81 82,oK (.k .len) [82] [83],oI .lss 83 (.i .i64 32) 84] (.cond (.s 84) [] (oS [oA 1105 0 4 1 85,oL 1105 4 1 85 86,oK (.k .len) [86] [87],oI .quo 87 (.i .i64 2) 88,oX (.k (.bin .add)) [.c (.i .i64 128),.s 88] [89],oK (.k (.ci .u8)) [89] [90],oK (.blt .bs 1 114) [90,(lk 114)] [91,lk 114],oV 91 2] .ret) .skip)) none (oS [oA 1105 0 4 1 92,oL 1105 4 1 92 93,oK (.k .len) [93] [94],oI .quo 94 (.i .i64 2) 95,oK (.k (.ci .u64)) [95] [96],oX (.k (.call 94 ⟨3,none,[],[],1,[(0,115,1)],none,[]⟩)) [.c (.u8 222),.s 96,.c (.i .i64 2),.s (lk 115)] [97,lk 115],oV 97 2] .ret)) .skip)))))))))))))))))) none (oS [oA 1105 0 2 1 98,oL 1105 2 1 98 99,oK (.k .len) [99] [100],oK (.k (.ci .u64)) [100] [101],oA 1105 0 1 1 102,oL 1105 1 1 102 103,oK (.k (.call 96 ⟨2,none,[],[],1,[(0,116,1)],none,[]⟩)) [101,103,(lk 116)] [104,lk 116],oV 104 2] .ret))
def dE.d:gD:={ np:=1,m:=dE.m,ref:=none,fA:=[],res:=[.t 2],own:=[(0,1)],new:=none,fx:=[] }
def dE.F (it:bM):OT:=dE.d.run dE.E [(.ag (bM.cells it))]
theorem dE.dV (it:bM) {ρ:OT} (K:∀(v1:UInt8) (h1:v1=(UInt8.ofInt (((bM.n it)).toNat:Int))) (v2:List UInt8) (h2:v2=(Mp.form ((204:UInt8)) ((bM.n it)) ((1:Int)))) (v3:List UInt8) (h3:v3=(Mp.put (Mp.signed ((bM.n it))) (~~~ ((bM.n it))))) (v4:List UInt8) (h4:v4=([(194:UInt8),(195:UInt8),(192:UInt8)]:List UInt8)) (v5:UInt8) (h5:v5=(List.getD v4 (((((bM.n it) - (20:UInt64))).toNat:Int)).toNat (0:UInt8))) (v6:List UInt8) (h6:v6=([(203:UInt8)]:List UInt8)) (v7:List UInt8) (h7:v7=(cM.eb ((bM.n it)) (((8:Int))).toNat)) (v8:Int) (h8:v8=(((bM.text it)).length:Int)) (v9:Int) (h9:v9=(IntKind.i64.wrap ((160:Int)+v8))) (v10:List UInt8) (lZ:v10=([(UInt8.ofInt v9)]:List UInt8)) (v11:List UInt8) (yb:v11=(Mp.form ((217:UInt8)) ((UInt64.ofInt v8)) ((1:Int)))) (v12:Int) (ya:v12=(((bM.bytes it)).length:Int)) (kN:List UInt8) (wN:kN=(Mp.form ((196:UInt8)) ((UInt64.ofInt v12)) ((1:Int)))) (jc:Int) (xZ:jc=(((bM.kids it)).length:Int)) (mM:Int) (Ai:mM=(IntKind.i64.wrap ((144:Int)+jc))) (lf:List UInt8) (sH:lf=([(UInt8.ofInt mM)]:List UInt8)) (pC:List UInt8) (tg:pC=(Mp.form ((220:UInt8)) ((UInt64.ofInt jc)) ((2:Int)))) (mL:Int) (ET:mL=(IntKind.i64.wrap (Int.tdiv jc (2:Int)))) (oq:Int) (ES:oq=(IntKind.i64.wrap ((128:Int)+mL))) (v20:List UInt8) (KT:v20=([(UInt8.ofInt oq)]:List UInt8)) (v21:List UInt8) (HV:v21=(Mp.form ((222:UInt8)) ((UInt64.ofInt mL)) ((2:Int)))) (ow:List UInt8) (HU:ow=(Mp.ext ((UInt64.ofInt v12)) ((bM.n it)))),cond (decide ((bM.kind it)=(1:Int)))
  (cond (decide ((bM.n it)<(128:UInt64)))
  (some [(.sl .bs ([v1]:List UInt8))])
  (ck (decide (((1:Int))≤8)) (some [(.sl .bs v2)])))
  (cond (decide ((bM.kind it)=(2:Int)))
  (some [(.sl .bs v3)])
  (cond (decide ((bM.kind it)=(8:Int)))
  (ck (eK ((((bM.n it) - (20:UInt64))).toNat:Int) (v4).length) (some [(.sl .bs ([v5]:List UInt8))]))
  (cond (decide ((bM.kind it)=(9:Int)))
  (ck (decide (0≤((8:Int))∧((8:Int))≤8)) (ck (fS ((v6).length+(v7).length) 1) (some [(.sl .bs (v6++v7))])))
  (cond (decide ((bM.kind it)=(4:Int)))
  (cond (decide (v8<(32:Int)))
  (some [(.sl .bs v10)])
  (ck (decide (((1:Int))≤8)) (some [(.sl .bs v11)])))
  (cond (decide ((bM.kind it)=(3:Int)))
  (ck (decide (((1:Int))≤8)) (some [(.sl .bs kN)]))
  (cond (decide ((bM.kind it)=(5:Int)))
  (cond (decide (jc<(16:Int)))
  (some [(.sl .bs lf)])
  (ck (decide (((2:Int))≤8)) (some [(.sl .bs pC)])))
  (cond (decide ((bM.kind it)=(6:Int)))
  (cond (decide (jc<(32:Int)))
  (ck (!decide ((2:Int)=0)) (some [(.sl .bs v20)]))
  (ck (!decide ((2:Int)=0)) (ck (decide (((2:Int))≤8)) (some [(.sl .bs v21)]))))
  (some [(.sl .bs ow)]))))))))=ρ):dE.F it=ρ:=Eq.trans (by kernel_rfl) (K _ rfl _ rfl _ rfl _ rfl _ rfl _ rfl _ rfl _ rfl _ rfl _ rfl _ rfl _ rfl _ rfl _ rfl _ rfl _ rfl _ rfl _ rfl _ rfl _ rfl _ rfl _ rfl)
theorem dE.di:CK 79 dE.env dE.d:=eI (by kernel_rfl)
def cF.env (n:Nat):EV:=[(63,(cF.cn n,cF.sg)),(79,(dE.c,dE.sg))]
def cF.E (n:Nat):eo:=cK tryzGl (cF.env n)
def cF.m1:TM := .seq (oS [oV 4 13,oA 1029 0 4 1 14,oL 1029 4 1 14 15,oK (.k .len) [15] [16],oB .lss 13 16 17] (.cond (.s 17) [] .skip (.exit 0))) none (.seq (.block 1 [(1,.ptr 1029 0),(3,.gb 104 1),(1029,.cl []),(lk 104,.live 1)] (.fK [oV 3 20,oA 1029 0 4 1 21,oL 1029 4 1 21 22,oV 4 23,oK (.k (.ix 5)) [22,23] [24],oK (.k (.lr 5 true)) [24] [25],oC 63 1 1 [25] 26,oK (.k (.ap 103 104 1 1)) [20,26,(lk 103),(lk 104)] [27,lk 103,lk 104],oV 27 3])) none (.fK [oV 4 18,oI .add 18 (.i .i64 1) 19,oV 19 4]))
def cF.m:TM:=oS [oK (.k (.bx 1029)) [0,1029] [1,1029],oW (.sl .bs ([]:List UInt8)) 2] (oS [oM 1029 0 5 1 5,oK (.k (.call 79 ⟨1,none,[],[],1,[(0,101,1)],none,[]⟩)) [5,(lk 101)] [6,lk 101],oA 1029 0 2 1 7,oL 1029 2 1 7 8,oK (.k (.ap 101 102 1 1)) [6,8,(lk 101),(lk 102)] [9,lk 101,lk 102],oA 1029 0 3 1 10,oL 1029 3 1 10 11,oK (.k (.zp 102 103 1)) [9,11,(lk 102),(lk 103)] [12,lk 102,lk 103],oV 12 3] (.seq (oS [oW (.i .i64 0) 4] (.block 0 [(3,.gb 103 1),(lk 103,.live 1)] (.loop [1,3,4,1029] [(1,.ptr 1029 0),(3,.gb 103 1),(1029,.cl []),(lk 103,.live 1)] cF.m1))) none (oS [oV 3 28,oV 28 2] .ret)))
def cF.d:gD:=D0 1 cF.m [.t 2]
def cF.F (n:Nat) (it:bM):OT:=cF.d.run (cF.E n) [(.ag (bM.cells it))]
def cF.k1 (n:Nat):fT (List TV):=iw (ev _ (cF.E n) (oS [oV 3 28,oV 28 2] .ret)) none (gJ cF.d)
def cF.l1 (n:Nat) (x0:List UInt8) (x1:Int) (x2:bM):OT:=gx (gY _ (cF.E n) cF.m1) oz [1,3,4,1029] (dT [1,3,4,1029] [.pt,(.sl .bs x0),(.i .i64 x1),(.ag (bM.cells x2))]) (er 0 (cF.k1 n))
theorem cF.ew (n:Nat) (x0:List UInt8) (x1:Int) (x2:bM) {ρ:OT} (K:∀(v1:Int) (h1:v1=(((bM.kids x2)).length:Int)) (v2:List UInt8) (h2:v2=(Mp.lay (bD.of (bD.val (List.getD (bM.kids x2) (x1).toNat (eJ.fc .il)))))) (v3:Int) (h3:v3=(IntKind.i64.wrap (x1+(1:Int)))),cond (decide (x1<v1))
  (ck (eK x1 ((bM.kids x2)).length) (ck ((decide (16 * bD.cA (bD.of (bD.val (List.getD (bM.kids x2) (x1).toNat (eJ.fc .il))))≤1099511627776)&&decide (Mp.di (bD.of (bD.val (List.getD (bM.kids x2) (x1).toNat (eJ.fc .il))))=0))&&decide ((bD.cA (bD.of (bD.val (List.getD (bM.kids x2) (x1).toNat (eJ.fc .il)))))<n)) (ck (fS ((x0).length+(v2).length) 1) (cF.l1 n (x0++v2) v3 x2))))
  (some [(.sl .bs x0)])=ρ):cF.l1 n x0 x1 x2=ρ:=((fD _ _ _ _ _ _).trans (by kernel_rfl)).trans (K _ rfl _ rfl _ rfl)
theorem cF.dV (n:Nat) (it:bM) {ρ:OT} (K:∀(v1:List UInt8) (h1:v1=((Mp.head (bD.of it))++(bM.bytes it))),ck (decide (bD.cA (bD.of it)≤1099511627776)&&decide (Mp.own (bD.of it)=0)) (ck (fS (((Mp.head (bD.of it))).length+((bM.bytes it)).length) 1) (ck (fS ((v1).length+((bM.text it)).length) 1) (cF.l1 n (v1++(bM.text it)) (0:Int) it)))=ρ):cF.F n it=ρ:=Eq.trans (by kernel_rfl) (K _ rfl)
theorem cF.di (n:Nat):CK 63 (cF.env n) cF.d:=eI (by kernel_rfl)
def cq.env (n:Nat):EV:=[(12,(cq.cn n,cq.sg))]
def cq.E (n:Nat):eo:=cK tryzGl (cq.env n)
def cq.m1:TM := .seq (oS [oV 5 43,oA 1062 0 4 2 44,oL 1062 4 1 44 45,oK (.k .len) [45] [46],oB .lss 43 46 47] (.cond (.s 47) [] .skip (.exit 0))) none (.seq (.block 1 [(2,.ptr 1062 0),(3,.ptr 1063 0),(1062,.cl []),(1063,.cl [])] (oS [oA 1062 0 4 2 50,oL 1062 4 1 50 51,oV 5 52,oK (.k (.ix 5)) [51,52] [53],oK (.k (.lr 5 true)) [53] [54],oA 1063 0 4 3 55,oL 1063 4 1 55 56,oV 5 57,oK (.k (.ix 5)) [56,57] [58],oK (.k (.lr 5 true)) [58] [59],oC 12 2 1 [54,59] 60,oK (.k (.un .not)) [60] [61]] (.cond (.s 61) [] (oS [oW (.b false) 4] .ret) .skip))) none (.fK [oV 5 48,oI .add 48 (.i .i64 1) 49,oV 49 5]))
def cq.m:TM:=oS [oK (.k (.bx 1062)) [0,1062] [2,1062],oK (.k (.bx 1063)) [1,1063] [3,1063],oW (.b false) 4] (.seq (oS [oA 1062 0 0 2 6,oL 1062 0 1 6 7,oA 1063 0 0 3 8,oL 1063 0 1 8 9,oB .neq 7 9 10,oV 10 11,oG 11 false (oA 1062 0 1 2 12),oG 11 false (oL 1062 1 1 12 13),oG 11 false (oA 1063 0 1 3 14),oG 11 false (oL 1063 1 1 14 15),oG 11 false (oB .neq 13 15 16),oX (.k .pick) [.s 11,.c (.b true),.s 16] [17],oV 17 18,oG 18 false (oA 1062 0 3 2 19),oG 18 false (oL 1062 3 1 19 20),oG 18 false (oA 1063 0 3 3 21),oG 18 false (oL 1063 3 1 21 22),oG 18 false (oB .neq 20 22 23),oX (.k .pick) [.s 18,.c (.b true),.s 23] [24],oV 24 25,oG 25 false (oA 1062 0 2 2 26),oG 25 false (oL 1062 2 1 26 27),oG 25 false (oK (.k .bs) [27] [28]),oG 25 false (oA 1063 0 2 3 29),oG 25 false (oL 1063 2 1 29 30),oG 25 false (oK (.k .bs) [30] [31]),oG 25 false (oB .neq 28 31 32),oX (.k .pick) [.s 25,.c (.b true),.s 32] [33],oV 33 34,oG 34 false (oA 1062 0 4 2 35),oG 34 false (oL 1062 4 1 35 36),oG 34 false (oK (.k .len) [36] [37]),oG 34 false (oA 1063 0 4 3 38),oG 34 false (oL 1063 4 1 38 39),oG 34 false (oK (.k .len) [39] [40]),oG 34 false (oB .neq 37 40 41),oX (.k .pick) [.s 34,.c (.b true),.s 41] [42]] (.cond (.s 42) [] (oS [oW (.b false) 4] .ret) .skip)) none (.seq (oS [oW (.i .i64 0) 5] (.block 0 [] (.loop [2,3,5,1062,1063] [(2,.ptr 1062 0),(3,.ptr 1063 0),(1062,.cl []),(1063,.cl [])] cq.m1))) none (oS [oW (.b true) 4] .ret)))
def cq.d:gD:=D0 2 cq.m [.t 4]
def cq.F (n:Nat) (a:bM) (b:bM):OT:=cq.d.run (cq.E n) [(.ag (bM.cells a)),(.ag (bM.cells b))]
def cq.k1 (n:Nat):fT (List TV):=iw (ev _ (cq.E n) (oS [oW (.b true) 4] .ret)) none (gJ cq.d)
def cq.l1 (n:Nat) (x0:Int) (x1:bM) (x2:bM):OT:=gx (gY _ (cq.E n) cq.m1) oz [2,3,5,1062,1063] (dT [2,3,5,1062,1063] [.pt,.pt,(.i .i64 x0),(.ag (bM.cells x1)),(.ag (bM.cells x2))]) (er 0 (cq.k1 n))
theorem cq.ew (n:Nat) (x0:Int) (x1:bM) (x2:bM) {ρ:OT} (K:∀(v1:Int) (h1:v1=(((bM.kids x1)).length:Int)) (v2:Bool) (h2:v2=(bD.same (bD.of (bD.val (List.getD (bM.kids x1) (x0).toNat (eJ.fc .il)))) (bD.of (bD.val (List.getD (bM.kids x2) (x0).toNat (eJ.fc .il)))))) (v3:Int) (h3:v3=(IntKind.i64.wrap (x0+(1:Int)))),cond (decide (x0<v1))
  (ck (eK x0 ((bM.kids x1)).length) (ck (eK x0 ((bM.kids x2)).length) (ck ((decide (bD.cA (bD.of (bD.val (List.getD (bM.kids x1) (x0).toNat (eJ.fc .il))))≤1099511627776))&&decide ((bD.cA (bD.of (bD.val (List.getD (bM.kids x1) (x0).toNat (eJ.fc .il)))))<n)) (cond (!v2)
  (some [(.b false)])
  (cq.l1 n v3 x1 x2)))))
  (some [(.b true)])=ρ):cq.l1 n x0 x1 x2=ρ:=((fD _ _ _ _ _ _).trans (by kernel_rfl)).trans (K _ rfl _ rfl _ rfl)
theorem cq.dV (n:Nat) (a:bM) (b:bM) {ρ:OT} (K:∀(v1:Bool) (h1:v1=(!(!decide ((bM.kind a)=(bM.kind b))))) (v2:Bool) (h2:v2=(cond (!decide ((bM.kind a)=(bM.kind b))) true (!decide ((bM.n a)=(bM.n b))))) (v3:Bool) (h3:v3=(cond v2 true (!decide ((bM.text a)=(bM.text b))))) (v4:Bool) (h4:v4=(cond v3 true (!decide ((bM.bytes a)=(bM.bytes b))))) (v5:Int) (h5:v5=(((bM.kids a)).length:Int)) (v6:Int) (h6:v6=(((bM.kids b)).length:Int)) (v7:Bool) (h7:v7=(cond v4 true (!decide (v5=v6)))),ck (!v1 || v1) (ck (!v1 || v1) (ck (!v1 || (v1&&v1)) (ck ((!decide ((bM.kind a)=(bM.kind b))) || v1) (ck (!(!v2) || (!v2)) (ck (!(!v2) || (!v2)) (ck (!(!v2) || ((!v2)&&(!v2))) (ck (v2 || (!v2)) (ck (!(!v3) || (!v3)) (ck (!(!v3) || (!v3)) (ck (!(!v3) || (!v3)) (ck (!(!v3) || (!v3)) (ck (!(!v3) || ((!v3)&&(!v3))) (ck (v3 || (!v3)) (ck (!(!v4) || (!v4)) (ck (!(!v4) || (!v4)) (ck (!(!v4) || (!v4)) (ck (!(!v4) || (!v4)) (ck (!(!v4) || ((!v4)&&(!v4))) (ck (v4 || (!v4)) (cond v7
  (some [(.b false)])
  (cq.l1 n (0:Int) a b)))))))))))))))))))))=ρ):cq.F n a b=ρ:=Eq.trans (by kernel_rfl) (K _ rfl _ rfl _ rfl _ rfl _ rfl _ rfl _ rfl)
theorem cq.di (n:Nat):CK 12 (cq.env n) cq.d:=eI (by kernel_rfl)
def cW.env:EV:=[]
def cW.E:eo:=cK tryzGl cW.env
def cW.m:TM:=oS [oW (.i .i64 0) 4] (oS [oV 0 5,oV 1 6,oK (.k .Ir) [5,6] [7],oV 7 4] .ret)
def cW.d:gD:=D0 2 cW.m [.t 4]
def cW.F (s:bS) (c:UInt8):OT:=cW.d.run cW.E [(.s s),(.u8 c)]
theorem cW.fR (s:bS) (c:UInt8):cW.F s c=some [(.i .i64 (Lib.indexByte s c))]:=by kernel_rfl
theorem cW.di:CK 98 cW.env cW.d:=eI (by kernel_rfl)
def dW.env:EV:=[(98,(cW.c,cW.sg))]
def dW.E:eo:=cK tryzGl dW.env
def dW.m1:TM := .seq (oS [oV 0 78,oV 8 79,oI .add 79 (.i .i64 1) 80,oK (.k .si) [78,80] [81],oV 7 82,oB .eql 81 82 83,oV 83 84,oG 84 true (oV 0 85),oG 84 true (oV 8 86),oG 84 true (oV 8 87),oG 84 true (oV 5 88),oG 84 true (oB .add 87 88 89),oG 84 true (oK (.k (.ss true true)) [85,86,89] [90]),oG 84 true (oV 1 91),oG 84 true (oB .eql 90 91 92),oP 84 92 false 93] (.cond (.s 93) [] (oS [oV 8 94,oV 94 4] .ret) .skip)) none (oS [oV 8 95,oI .add 95 (.i .i64 1) 96,oV 96 8] (oS [oV 10 97,oI .add 97 (.i .i64 1) 98,oV 98 10] (oS [oV 5 99,oX (.k (.lr 1 false)) [.g 0] [100],oB .leq 99 100 101,oV 101 102,oG 102 true (oV 10 103),oG 102 true (oV 8 104),oG 102 true (oC 100 1 1 [104] 105),oG 102 true (oB .gtr 103 105 106),oP 102 106 false 107] (.cond (.s 107) [] (oS [oV 0 108,oV 8 109,oK (.k (.ss true false)) [108,109] [110],oV 1 111,oK (.k (.FJ true)) [] [112],oV 112 12] (.seq (oS [oV 12 113,oI .geq 113 (.i .i64 0) 114] (.cond (.s 114) [] (oS [oV 12 115,oV 8 116,oB .add 115 116 117,oV 117 4] .ret) .skip)) none (oS [oW (.i .i64 (-1)) 4] .ret))) (oS [oV 5 118,oX (.k (.lr 1 false)) [.g 0] [119],oB .gtr 118 119 120,oV 120 121,oG 121 true (oV 10 122),oG 121 true (oV 8 123),oG 121 true (oI .shr 123 (.u64 4) 124),oG 121 true (oX (.k (.bin .add)) [.c (.i .i64 4),.s 124] [125]),oG 121 true (oB .geq 122 125 126),oP 121 126 false 127,oV 127 128,oG 128 true (oV 8 129),oG 128 true (oV 9 130),oG 128 true (oB .lss 129 130 131),oP 128 131 false 132] (.cond (.s 132) [] (oS [oV 0 133,oV 8 134,oK (.k (.ss true false)) [133,134] [135],oV 1 136,oC 101 2 1 [135,136] 137,oV 137 13] (.seq (oS [oV 13 138,oI .lss 138 (.i .i64 0) 139] (.cond (.s 139) [] (oS [oW (.i .i64 (-1)) 4] .ret) .skip)) none (oS [oV 8 140,oV 13 141,oB .add 140 141 142,oV 142 4] .ret))) .skip))))))
def dW.m2:TM := .seq (oS [oV 8 57,oV 9 58,oB .lss 57 58 59] (.cond (.s 59) [] .skip (.exit 1))) none (.block 2 [] (.seq (oS [oV 0 60,oV 8 61,oK (.k .si) [60,61] [62],oV 6 63,oB .neq 62 63 64] (.cond (.s 64) [] (oS [oV 0 65,oV 8 66,oI .add 66 (.i .i64 1) 67,oV 9 68,oK (.k (.ss true true)) [65,67,68] [69],oV 6 70,oC 98 2 1 [69,70] 71,oV 71 11] (.seq (oS [oV 11 72,oI .lss 72 (.i .i64 0) 73] (.cond (.s 73) [] (oS [oW (.i .i64 (-1)) 4] .ret) .skip)) none (.fK [oV 8 74,oV 11 75,oI .add 75 (.i .i64 1) 76,oB .add 74 76 77,oV 77 8]))) .skip)) (some [0,1,5,6,7,8,9,10]) dW.m1))
def dW.m:TM:=oS [oW (.i .i64 0) 4] (oS [oV 1 14,oK (.k .uO) [14] [15],oV 15 5] (.seq (.block 0 [] (oS [oV 5 17,oI .eql 17 (.i .i64 0) 18,oV 18 19,oG 19 false (oV 1 20),oG 19 false (oV 0 21),oG 19 false (oB .eql 20 21 22),oX (.k .pick) [.s 19,.c (.b true),.s 22] [23],oV 23 16] (.cond (.s 16) [] (oS [oW (.i .i64 0) 4] .ret) (oS [oV 5 25,oI .eql 25 (.i .i64 1) 26,oV 26 24] (.cond (.s 24) [] (oS [oV 0 27,oV 1 28,oX (.k .si) [.s 28,.c (.i .i64 0)] [29],oC 98 2 1 [27,29] 30,oV 30 4] .ret) (oS [oV 5 32,oV 0 33,oK (.k .uO) [33] [34],oB .geq 32 34 35,oV 35 31] (.cond (.s 31) [] (oS [oW (.i .i64 (-1)) 4] .ret) (oS [oV 5 37,oX (.k (.lr 1 false)) [.g 0] [38],oB .leq 37 38 39,oV 39 40,oG 40 true (oV 0 41),oG 40 true (oK (.k .uO) [41] [42]),oG 40 true (oI .leq 42 (.i .i64 64) 43),oP 40 43 false 44,oV 44 36] (.cond (.s 36) [] (oS [oV 0 45,oV 1 46,oK (.k (.FJ true)) [] [47],oV 47 4] .ret) .skip))))))))) none (oS [oV 1 48,oX (.k .si) [.s 48,.c (.i .i64 0)] [49],oV 49 6] (oS [oV 1 50,oX (.k .si) [.s 50,.c (.i .i64 1)] [51],oV 51 7] (oS [oW (.i .i64 0) 8] (oS [oV 0 52,oK (.k .uO) [52] [53],oV 5 54,oB .sub 53 54 55,oI .add 55 (.i .i64 1) 56,oV 56 9] (oS [oW (.i .i64 0) 10] (.seq (.block 1 [] (.loop [0,1,5,6,7,8,9,10] [] dW.m2)) none (oS [oW (.i .i64 (-1)) 4] .ret)))))))))
def dW.d:gD:=D0 2 dW.m [.t 4]
def dW.F (s:bS) (t:bS):OT:=dW.d.run dW.E [(.s s),(.s t)]
theorem dW.dV (s:bS) (t:bS) {ρ:OT} (K:∀(v1:Bool) (h1:v1=(cond (decide (((t).length:Int)=(0:Int))) true (decide (t=s)))) (v2:UInt8) (h2:v2=(List.getD t ((0:Int)).toNat (0:UInt8))),ck (!(!(decide (((t).length:Int)=(0:Int)))) || ((!(decide (((t).length:Int)=(0:Int))))&&(!(decide (((t).length:Int)=(0:Int)))))) (ck ((decide (((t).length:Int)=(0:Int))) || (!(decide (((t).length:Int)=(0:Int))))) (cond v1
  (some [(.i .i64 0)])
  (cond (decide (((t).length:Int)=(1:Int)))
  (ck (eK (0:Int) (t).length) (some [(.i .i64 (Lib.indexByte s v2))]))
  (cond (decide (((s).length:Int)≤((t).length:Int)))
  (some [(.i .i64 (-1))])
  (none)))))=ρ):dW.F s t=ρ:=Eq.trans (by kernel_rfl) (K _ rfl _ rfl)
theorem dW.di:CK 82 dW.env dW.d:=eI (by kernel_rfl)
def eE.env:EV:=[(82,(dW.c,dW.sg))]
def eE.E:eo:=cK tryzGl eE.env
def eE.m:TM:=oS [oW (.i .i64 0) 4] (oS [oV 0 5,oV 1 6,oC 82 2 1 [5,6] 7,oV 7 4] .ret)
def eE.d:gD:=D0 2 eE.m [.t 4]
def eE.F (s:bS) (t:bS):OT:=eE.d.run eE.E [(.s s),(.s t)]
theorem eE.dV (s:bS) (t:bS) {ρ:OT} (K:∀(v1:Int) (h1:v1=(Lib.indexByte s (t.getD 0 0))),ck (decide (t.length=1)) (some [(.i .i64 v1)])=ρ):eE.F s t=ρ:=Eq.trans (by kernel_rfl) (K _ rfl)
theorem eE.di:CK 68 eE.env eE.d:=eI (by kernel_rfl)
def cT.env:EV:=[(68,(eE.c,eE.sg))]
def cT.E:eo:=cK tryzGl cT.env
def cT.m:TM:=oS [oW (.b false) 4] (oS [oV 0 5,oV 1 6,oC 68 2 1 [5,6] 7,oI .geq 7 (.i .i64 0) 8,oV 8 4] .ret)
def cT.d:gD:=D0 2 cT.m [.t 4]
def cT.F (s:bS) (t:bS):OT:=cT.d.run cT.E [(.s s),(.s t)]
theorem cT.dV (s:bS) (t:bS) {ρ:OT} (K:∀(v1:Int) (h1:v1=(Lib.indexByte s (t.getD 0 0))),ck (decide (t.length=1)) (some [(.b (decide ((0:Int)≤v1)))])=ρ):cT.F s t=ρ:=Eq.trans (by kernel_rfl) (K _ rfl)
theorem cT.di:CK 43 cT.env cT.d:=eI (by kernel_rfl)
theorem jx.ok:KO 42 (jx.c) jx.sg:=Az (t := .is) (b:=8) (by kernel_rfl)
def ee.env:EV:=[]
def ee.E:eo:=cK tryzGl ee.env
def ee.m:TM:=oS [oW (.s []) 2] (oS [oX (.bd [(.s []),(.s []),(.s []),(.s []),(.s []),(.s []),(.s []),(.s []),(.s []),(.s []),(.s []),(.s []),(.s []),(.s []),(.s []),(.s []),(.s []),(.s []),(.s []),(.s [])] [(0,1),(1,1),(2,1),(3,1),(4,1),(5,1),(6,1),(7,1),(8,1),(9,1),(10,1),(11,1),(12,1),(13,1),(14,1),(15,1),(16,1),(17,1),(18,1),(19,1)]) [.c (.s []),.c (.s ([100,111,117,98,108,101]:bS)),.c (.s ([115,116,114,105,110,103]:bS)),.c (.s ([100,111,99,117,109,101,110,116]:bS)),.c (.s ([97,114,114,97,121]:bS)),.c (.s ([98,105,110,97,114,121]:bS)),.c (.s ([117,110,100,101,102,105,110,101,100]:bS)),.c (.s ([111,98,106,101,99,116,105,100]:bS)),.c (.s ([98,111,111,108]:bS)),.c (.s ([100,97,116,101]:bS)),.c (.s ([110,117,108,108]:bS)),.c (.s ([114,101,103,101,120]:bS)),.c (.s ([112,111,105,110,116,101,114]:bS)),.c (.s ([99,111,100,101]:bS)),.c (.s ([115,121,109,98,111,108]:bS)),.c (.s ([115,99,111,112,101,100]:bS)),.c (.s ([105,110,116,51,50]:bS)),.c (.s ([116,105,109,101,115,116,97,109,112]:bS)),.c (.s ([105,110,116,54,52]:bS)),.c (.s ([100,101,99,105,109,97,108]:bS))] [4],oN 1021 [(.s []),(.s []),(.s []),(.s []),(.s []),(.s []),(.s []),(.s []),(.s []),(.s []),(.s []),(.s []),(.s []),(.s []),(.s []),(.s []),(.s []),(.s []),(.s []),(.s [])] 3,oT 1021 0 20 3 4] (.seq (.block 0 [(3,.ptr 1021 0),(1021,.cl [])] (oS [oV 0 6,oI .eql 6 (.i .i64 127) 7,oV 7 5] (.cond (.s 5) [] (oS [oW (.s ([109,97,120,107,101,121]:bS)) 2] .ret) (oS [oV 0 9,oI .eql 9 (.i .i64 255) 10,oV 10 8] (.cond (.s 8) [] (oS [oW (.s ([109,105,110,107,101,121]:bS)) 2] .ret) (oS [oV 0 12,oI .lss 12 (.i .i64 0) 13,oV 13 14,oG 14 false (oV 0 15),oG 14 false (oI .geq 15 (.i .i64 20) 16),oX (.k .pick) [.s 14,.c (.b true),.s 16] [17],oV 17 11] (.cond (.s 11) [] (oS [oW (.s []) 2] .ret) .skip))))))) none (oS [oV 0 18,oK (.k (.la 1021 20 1)) [3,18,1021] [19],oK (.k (.ll 1021 1)) [19,1021] [20],oV 20 2] .ret)))
def ee.d:gD:=D0 1 ee.m [.t 2]
def ee.F (k:Int):OT:=ee.d.run ee.E [(.i .i64 k)]
theorem ee.dV (k:Int) {ρ:OT} (K:∀(v1:Bool) (h1:v1=(cond (decide (k<(0:Int))) true (decide ((20:Int)≤k)))) (v2:bS) (h2:v2=(List.getD [([]:bS),([100,111,117,98,108,101]:bS),([115,116,114,105,110,103]:bS),([100,111,99,117,109,101,110,116]:bS),([97,114,114,97,121]:bS),([98,105,110,97,114,121]:bS),([117,110,100,101,102,105,110,101,100]:bS),([111,98,106,101,99,116,105,100]:bS),([98,111,111,108]:bS),([100,97,116,101]:bS),([110,117,108,108]:bS),([114,101,103,101,120]:bS),([112,111,105,110,116,101,114]:bS),([99,111,100,101]:bS),([115,121,109,98,111,108]:bS),([115,99,111,112,101,100]:bS),([105,110,116,51,50]:bS),([116,105,109,101,115,116,97,109,112]:bS),([105,110,116,54,52]:bS),([100,101,99,105,109,97,108]:bS)] ((k).toNat) ([]:bS))),cond (decide (k=(127:Int)))
  (some [(.s ([109,97,120,107,101,121]:bS))])
  (cond (decide (k=(255:Int)))
  (some [(.s ([109,105,110,107,101,121]:bS))])
  (ck (!(!(decide (k<(0:Int)))) || (!(decide (k<(0:Int))))) (ck ((decide (k<(0:Int))) || (!(decide (k<(0:Int))))) (cond v1
  (some [(.s [])])
  (ck (eK k 20) (ck (decide ((k).toNat<20)) (some [(.s v2)])))))))=ρ):ee.F k=ρ:=Eq.trans (by kernel_rfl) (K _ rfl _ rfl)
theorem ee.di:CK 52 ee.env ee.d:=eI (by kernel_rfl)
def bF.env:EV:=[]
def bF.E:eo:=cK tryzGl bF.env
def bF.m1:TM := .cond (.s 64) [(1,.ptr 1115 0),(1115,.cl [])] (.fK [oA 1115 0 8 1 67,oX (.k (.st 1115 8 1)) [.s 67,.s 1115,.c (.sl .fl ([]:List bG))] [1115]]) (oS [oI .eql 5 (.i .i64 15) 69,oV 69 68] (.cond (.s 68) [(1,.ptr 1115 0),(1115,.cl [])] (.fK [oA 1115 0 4 1 70,oX (.k (.st 1115 4 1)) [.s 70,.s 1115,.c (.s [])] [1115],oA 1115 0 8 1 71,oX (.k (.st 1115 8 1)) [.s 71,.s 1115,.c (.sl .fl ([]:List bG))] [1115]]) .skip))
def bF.m2:TM := .cond (.s 28) [(1,.ptr 1115 0),(1115,.cl [])] (.fK [oA 1115 0 4 1 32,oX (.k (.st 1115 4 1)) [.s 32,.s 1115,.c (.s [])] [1115]]) (oS [oI .eql 5 (.i .i64 11) 34,oV 34 33] (.cond (.s 33) [(1,.ptr 1115 0),(1115,.cl [])] (.fK [oA 1115 0 4 1 35,oX (.k (.st 1115 4 1)) [.s 35,.s 1115,.c (.s [])] [1115],oA 1115 0 5 1 36,oX (.k (.st 1115 5 1)) [.s 36,.s 1115,.c (.s [])] [1115]]) (oS [oI .eql 5 (.i .i64 5) 38,oV 38 37] (.cond (.s 37) [(1,.ptr 1115 0),(1115,.cl [])] (.fK [oA 1115 0 6 1 39,oL 1115 6 1 39 40,oI .geq 40 (.i .i64 0) 41,oV 41 42,oG 42 true (oA 1115 0 6 1 43),oG 42 true (oL 1115 6 1 43 44),oG 42 true (oI .leq 44 (.i .i64 255) 45),oP 42 45 false 46,oV 46 3,oA 1115 0 6 1 47,oX (.k (.st 1115 6 1)) [.s 47,.s 1115,.c (.i .i64 0)] [1115],oA 1115 0 7 1 48,oX (.k (.st 1115 7 1)) [.s 48,.s 1115,.c (.sl .bs ([]:List UInt8))] [1115]]) (oS [oI .eql 5 (.i .i64 7) 50,oV 50 49] (.cond (.s 49) [(1,.ptr 1115 0),(1115,.cl [])] (.fK [oA 1115 0 7 1 51,oL 1115 7 1 51 52,oK (.k .len) [52] [53],oI .eql 53 (.i .i64 12) 54,oV 54 3,oA 1115 0 7 1 55,oX (.k (.st 1115 7 1)) [.s 55,.s 1115,.c (.sl .bs ([]:List UInt8))] [1115]]) (oS [oI .eql 5 (.i .i64 12) 57,oV 57 56] (.cond (.s 56) [(1,.ptr 1115 0),(1115,.cl [])] (.fK [oA 1115 0 7 1 58,oL 1115 7 1 58 59,oK (.k .len) [59] [60],oI .eql 60 (.i .i64 12) 61,oV 61 3,oA 1115 0 4 1 62,oX (.k (.st 1115 4 1)) [.s 62,.s 1115,.c (.s [])] [1115],oA 1115 0 7 1 63,oX (.k (.st 1115 7 1)) [.s 63,.s 1115,.c (.sl .bs ([]:List UInt8))] [1115]]) (.seq (oS [oI .eql 5 (.i .i64 3) 65,oV 65 64] (.cond (.s 64) [(1,.ptr 1115 0),(1115,.cl [])] .skip (.fK [oI .eql 5 (.i .i64 4) 66,oV 66 64]))) (some [1,3,5,64,1115]) bF.m1)))))))))
def bF.m3:TM := .cond (.s 6) [(1,.ptr 1115 0),(1115,.cl [])] (.fK [oA 1115 0 1 1 11,oX (.k (.st 1115 1 1)) [.s 11,.s 1115,.c (.u64 0)] [1115]]) (oS [oI .eql 5 (.i .i64 16) 13,oV 13 12] (.cond (.s 12) [(1,.ptr 1115 0),(1115,.cl [])] (.fK [oA 1115 0 1 1 14,oL 1115 1 1 14 15,oI .lss 15 (.u64 4294967296) 16,oV 16 3,oA 1115 0 1 1 17,oX (.k (.st 1115 1 1)) [.s 17,.s 1115,.c (.u64 0)] [1115]]) (oS [oI .eql 5 (.i .i64 8) 19,oV 19 18] (.cond (.s 18) [(1,.ptr 1115 0),(1115,.cl [])] (.fK [oA 1115 0 1 1 20,oL 1115 1 1 20 21,oI .lss 21 (.u64 2) 22,oV 22 3,oA 1115 0 1 1 23,oX (.k (.st 1115 1 1)) [.s 23,.s 1115,.c (.u64 0)] [1115]]) (oS [oI .eql 5 (.i .i64 19) 25,oV 25 24] (.cond (.s 24) [(1,.ptr 1115 0),(1115,.cl [])] (.fK [oA 1115 0 2 1 26,oX (.k (.st 1115 2 1)) [.s 26,.s 1115,.c (.u64 0)] [1115],oA 1115 0 3 1 27,oX (.k (.st 1115 3 1)) [.s 27,.s 1115,.c (.u64 0)] [1115]]) (.seq (oS [oI .eql 5 (.i .i64 2) 29,oV 29 28] (.cond (.s 28) [(1,.ptr 1115 0),(1115,.cl [])] .skip (oS [oI .eql 5 (.i .i64 13) 30,oV 30 28] (.cond (.s 28) [(1,.ptr 1115 0),(1115,.cl [])] .skip (.fK [oI .eql 5 (.i .i64 14) 31,oV 31 28]))))) (some [1,3,5,28,1115]) bF.m2)))))))
def bF.m4:TM:=oS [oV 3 72,oV 72 73,oG 73 true (oA 1115 0 1 1 74),oG 73 true (oL 1115 1 1 74 75),oG 73 true (oI .eql 75 (.u64 0) 76),oP 73 76 false 77,oV 77 78,oG 78 true (oA 1115 0 2 1 79),oG 78 true (oL 1115 2 1 79 80),oG 78 true (oI .eql 80 (.u64 0) 81),oP 78 81 false 82,oV 82 83,oG 83 true (oA 1115 0 3 1 84),oG 83 true (oL 1115 3 1 84 85),oG 83 true (oI .eql 85 (.u64 0) 86),oP 83 86 false 87,oV 87 88,oG 88 true (oA 1115 0 4 1 89),oG 88 true (oL 1115 4 1 89 90),oG 88 true (oI .eql 90 (.s []) 91),oP 88 91 false 92,oV 92 93,oG 93 true (oA 1115 0 5 1 94),oG 93 true (oL 1115 5 1 94 95),oG 93 true (oI .eql 95 (.s []) 96),oP 93 96 false 97,oV 97 98,oG 98 true (oA 1115 0 6 1 99),oG 98 true (oL 1115 6 1 99 100),oG 98 true (oI .eql 100 (.i .i64 0) 101),oP 98 101 false 102,oV 102 103,oG 103 true (oA 1115 0 7 1 104),oG 103 true (oL 1115 7 1 104 105),oG 103 true (oK (.k .len) [105] [106]),oG 103 true (oI .eql 106 (.i .i64 0) 107),oP 103 107 false 108,oV 108 109,oG 109 true (oA 1115 0 8 1 110),oG 109 true (oL 1115 8 1 110 111),oG 109 true (oK (.k .len) [111] [112]),oG 109 true (oI .eql 112 (.i .i64 0) 113),oP 109 113 false 114,oV 114 2] .ret
def bF.m:TM:=oS [oK (.k (.bx 1115)) [0,1115] [1,1115],oW (.b false) 2] (oS [oW (.b true) 3] (.seq (oS [oA 1115 0 0 1 4,oL 1115 0 1 4 5] (.block 0 [(1,.ptr 1115 0),(1115,.cl [])] (.seq (oS [oI .eql 5 (.i .i64 1) 7,oV 7 6] (.cond (.s 6) [(1,.ptr 1115 0),(1115,.cl [])] .skip (oS [oI .eql 5 (.i .i64 9) 8,oV 8 6] (.cond (.s 6) [(1,.ptr 1115 0),(1115,.cl [])] .skip (oS [oI .eql 5 (.i .i64 17) 9,oV 9 6] (.cond (.s 6) [(1,.ptr 1115 0),(1115,.cl [])] .skip (.fK [oI .eql 5 (.i .i64 18) 10,oV 10 6]))))))) (some [1,3,5,6,1115]) bF.m3))) (some [1,3,1115]) bF.m4))
def bF.d:gD:=D0 1 bF.m [.t 2]
def bF.F (v:bE):OT:=bF.d.run bF.E [(.ag (bE.cells v))]
def bF.k1:fT (List TV):=iw (gY _ bF.E bF.m4) (some [1,3,1115]) (gJ bF.d)
def bF.j1 (x0:Bool) (x1:Int) (x2:Bool) (x3:bE):OT:=gY _ bF.E bF.m3 (dT [1,3,5,6,1115] [.pt,(.b x0),(.i .i64 x1),(.b x2),(.ag (bE.cells x3))]) (er 0 bF.k1)
def bF.j2 (x0:Bool) (x1:bE):OT:=gY _ bF.E bF.m4 (dT [1,3,1115] [.pt,(.b x0),(.ag (bE.cells x1))]) (gJ bF.d)
def bF.j3 (x0:Bool) (x1:Int) (x2:Bool) (x3:bE):OT:=gY _ bF.E bF.m2 (dT [1,3,5,28,1115] [.pt,(.b x0),(.i .i64 x1),(.b x2),(.ag (bE.cells x3))]) (er 0 bF.k1)
def bF.j4 (x0:Bool) (x1:Int) (x2:Bool) (x3:bE):OT:=gY _ bF.E bF.m1 (dT [1,3,5,64,1115] [.pt,(.b x0),(.i .i64 x1),(.b x2),(.ag (bE.cells x3))]) (er 0 bF.k1)
theorem bF.lv (x0:Bool) (x1:Int) (x2:Bool) (x3:bE):bF.j1 x0 x1 x2 x3=cond x2
  (bF.j2 x0 (bE.mk (bE.kind x3) 0 (bE.high x3) (bE.low x3) (bE.text x3) (bE.more x3) (bE.sub x3) (bE.bytes x3) (bE.kids x3)))
  (cond (decide (x1=(16:Int)))
  (bF.j2 (decide ((bE.bits x3)<(4294967296:UInt64))) (bE.mk (bE.kind x3) 0 (bE.high x3) (bE.low x3) (bE.text x3) (bE.more x3) (bE.sub x3) (bE.bytes x3) (bE.kids x3)))
  (cond (decide (x1=(8:Int)))
  (bF.j2 (decide ((bE.bits x3)<(2:UInt64))) (bE.mk (bE.kind x3) 0 (bE.high x3) (bE.low x3) (bE.text x3) (bE.more x3) (bE.sub x3) (bE.bytes x3) (bE.kids x3)))
  (cond (decide (x1=(19:Int)))
  (bF.j2 x0 (bE.mk (bE.kind x3) (bE.bits x3) 0 0 (bE.text x3) (bE.more x3) (bE.sub x3) (bE.bytes x3) (bE.kids x3)))
  (cond (decide (x1=(2:Int)))
  (bF.j3 x0 x1 (decide (x1=(2:Int))) x3)
  (cond (decide (x1=(13:Int)))
  (bF.j3 x0 x1 (decide (x1=(13:Int))) x3)
  (bF.j3 x0 x1 (decide (x1=(14:Int))) x3)))))):=((congrFun (congrFun (gQ _ _) _) _).trans (by kernel_rfl))
theorem bF.ng (x0:Bool) (x1:bE) {ρ:OT} (K:∀(v1:Bool) (h1:v1=(cond x0 (decide ((bE.bits x1)=(0:UInt64))) false)) (v2:Bool) (h2:v2=(cond v1 (decide ((bE.high x1)=(0:UInt64))) false)) (v3:Bool) (h3:v3=(cond v2 (decide ((bE.low x1)=(0:UInt64))) false)) (v4:Bool) (h4:v4=(cond v3 (decide ((bE.text x1)=([]:bS))) false)) (v5:Bool) (h5:v5=(cond v4 (decide ((bE.more x1)=([]:bS))) false)) (v6:Bool) (h6:v6=(cond v5 (decide ((bE.sub x1)=(0:Int))) false)) (v7:Int) (h7:v7=(((bE.bytes x1)).length:Int)) (v8:Bool) (h8:v8=(cond v6 (decide (v7=(0:Int))) false)) (v9:Int) (h9:v9=(((bE.kids x1)).length:Int)) (v10:Bool) (lZ:v10=(cond v8 (decide (v9=(0:Int))) false)),ck (!x0 || x0) (ck (!x0 || x0) (ck (!x0 || x0) (ck (!v1 || v1) (ck (!v1 || v1) (ck (!v1 || v1) (ck (!v2 || v2) (ck (!v2 || v2) (ck (!v2 || v2) (ck (!v3 || v3) (ck (!v3 || v3) (ck (!v3 || v3) (ck (!v4 || v4) (ck (!v4 || v4) (ck (!v4 || v4) (ck (!v5 || v5) (ck (!v5 || v5) (ck (!v5 || v5) (ck (!v6 || v6) (ck (!v6 || v6) (ck (!v6 || v6) (ck (!v6 || v6) (ck (!v8 || v8) (ck (!v8 || v8) (ck (!v8 || v8) (ck (!v8 || v8) (some [(.b v10)]))))))))))))))))))))))))))=ρ):bF.j2 x0 x1=ρ:=((congrFun (congrFun (gQ _ _) _) _).trans (by kernel_rfl)).trans (K _ rfl _ rfl _ rfl _ rfl _ rfl _ rfl _ rfl _ rfl _ rfl _ rfl)
theorem bF.sA (x0:Bool) (x1:Int) (x2:Bool) (x3:bE) {ρ:OT} (K:∀(v1:Bool) (h1:v1=(cond (decide ((0:Int)≤(bE.sub x3))) (decide ((bE.sub x3)≤(255:Int))) false)) (v2:Int) (h2:v2=(((bE.bytes x3)).length:Int)),cond x2
  (bF.j2 x0 (bE.mk (bE.kind x3) (bE.bits x3) (bE.high x3) (bE.low x3) [] (bE.more x3) (bE.sub x3) (bE.bytes x3) (bE.kids x3)))
  (cond (decide (x1=(11:Int)))
  (bF.j2 x0 (bE.mk (bE.kind x3) (bE.bits x3) (bE.high x3) (bE.low x3) [] [] (bE.sub x3) (bE.bytes x3) (bE.kids x3)))
  (cond (decide (x1=(5:Int)))
  (ck (!(decide ((0:Int)≤(bE.sub x3))) || (decide ((0:Int)≤(bE.sub x3)))) (ck (!(decide ((0:Int)≤(bE.sub x3))) || (decide ((0:Int)≤(bE.sub x3)))) (ck (!(decide ((0:Int)≤(bE.sub x3))) || (decide ((0:Int)≤(bE.sub x3)))) (bF.j2 v1 (bE.mk (bE.kind x3) (bE.bits x3) (bE.high x3) (bE.low x3) (bE.text x3) (bE.more x3) 0 [] (bE.kids x3))))))
  (cond (decide (x1=(7:Int)))
  (bF.j2 (decide (v2=(12:Int))) (bE.mk (bE.kind x3) (bE.bits x3) (bE.high x3) (bE.low x3) (bE.text x3) (bE.more x3) (bE.sub x3) [] (bE.kids x3)))
  (cond (decide (x1=(12:Int)))
  (bF.j2 (decide (v2=(12:Int))) (bE.mk (bE.kind x3) (bE.bits x3) (bE.high x3) (bE.low x3) [] (bE.more x3) (bE.sub x3) [] (bE.kids x3)))
  (cond (decide (x1=(3:Int)))
  (bF.j4 x0 x1 (decide (x1=(3:Int))) x3)
  (bF.j4 x0 x1 (decide (x1=(4:Int))) x3))))))=ρ):bF.j3 x0 x1 x2 x3=ρ:=((congrFun (congrFun (gQ _ _) _) _).trans (by kernel_rfl)).trans (K _ rfl _ rfl)
theorem bF.Co (x0:Bool) (x1:Int) (x2:Bool) (x3:bE):bF.j4 x0 x1 x2 x3=cond x2
  (bF.j2 x0 (bE.mk (bE.kind x3) (bE.bits x3) (bE.high x3) (bE.low x3) (bE.text x3) (bE.more x3) (bE.sub x3) (bE.bytes x3) []))
  (cond (decide (x1=(15:Int)))
  (bF.j2 x0 (bE.mk (bE.kind x3) (bE.bits x3) (bE.high x3) (bE.low x3) [] (bE.more x3) (bE.sub x3) (bE.bytes x3) []))
  (bF.j2 x0 x3)):=((congrFun (congrFun (gQ _ _) _) _).trans (by kernel_rfl))
theorem bF.fR (v:bE):bF.F v=cond (decide ((bE.kind v)=(1:Int)))
  (bF.j1 true (bE.kind v) (decide ((bE.kind v)=(1:Int))) v)
  (cond (decide ((bE.kind v)=(9:Int)))
  (bF.j1 true (bE.kind v) (decide ((bE.kind v)=(9:Int))) v)
  (cond (decide ((bE.kind v)=(17:Int)))
  (bF.j1 true (bE.kind v) (decide ((bE.kind v)=(17:Int))) v)
  (bF.j1 true (bE.kind v) (decide ((bE.kind v)=(18:Int))) v))):=by kernel_rfl
theorem bF.di:CK 53 bF.env bF.d:=eI (by kernel_rfl)
end
end Go.Eng
namespace Go.Eng
open Go.Proofs
noncomputable section
def dA.env:EV:=[(41,(dr.c,dr.sg)),(43,(cT.c,cT.sg))]
def dA.E:eo:=cK tryzGl dA.env
def dA.m:TM:=oS [oW (.b false) 4] (oS [oV 0 8,oK (.k .sb) [8] [9],oC 41 1 2 [9] 10,oV 10 7,oE 0 7 11,oE 1 7 12,oV 11 5,oV 12 6] (oS [oV 6 13,oV 13 14,oG 14 true (oV 1 15),oG 14 true (oV 15 16),oG 16 true (oV 0 17),oG 16 true (oX (.k (.call 43 (.plain 2 1))) [.s 17,.c (.s ([0]:bS))] [18]),oG 14 true (oP 16 18 false 19),oG 14 true (oK (.k (.un .not)) [19] [20]),oP 14 20 false 21,oV 21 4] .ret))
def dA.d:gD:=D0 2 dA.m [.t 4]
def dA.F (s:bS) (plain:Bool):OT:=dA.d.run dA.E [(.s s),(.b plain)]
theorem dA.dV (s:bS) (plain:Bool) {ρ:OT} (K:∀(v1:Bool) (h1:v1=(cond plain (decide (0≤Lib.indexByte s ((([0]:bS)).getD 0 0))) false)) (v2:Bool) (h2:v2=(cond (dK.whole s) (!v1) false)),ck (kJ (s).length) (ck (decide (s.length≤1099511627776)) (ck (!(dK.whole s) || (dK.whole s)) (ck (!((dK.whole s)&&plain) || (((dK.whole s)&&plain)&&(decide ((([0]:bS)).length=1)))) (ck (!(dK.whole s) || ((dK.whole s)&&(!plain || ((dK.whole s)&&plain)))) (ck (!(dK.whole s) || (dK.whole s)) (ck (!(dK.whole s) || (dK.whole s)) (some [(.b v2)])))))))=ρ):dA.F s plain=ρ:=Eq.trans (by kernel_rfl) (K _ rfl _ rfl)
theorem dA.di:CK 54 dA.env dA.d:=eI (by kernel_rfl)
def cj.env (n:Nat):EV:=[(35,(cj.cn n,cj.sg)),(42,(jx.c,jx.sg)),(52,(ee.c,ee.sg)),(53,(bF.c,bF.sg)),(54,(dA.c,dA.sg))]
def cj.E (n:Nat):eo:=cK tryzGl (cj.env n)
def cj.m1:TM:=oS [oB .lss 52 51 53] (.seq (.cond (.s 53) [] .skip (.exit 1)) none (.seq (.block 2 [(2,.gb 999999 1),(lk 999999,.pv 1)] (oS [oV 52 54,oK (.k (.ix 10)) [50,52] [55],oK (.k (.lr 10 true)) [55] [56],oN 1075 zD 10,oV 54 9,oT 1075 0 10 10 56] (oS [oA 1075 0 1 10 58,oM 1075 1 9 58 59,oA 1075 0 0 10 60,oL 1075 0 1 60 61,oV 2 62,oV 9 63,oK (.bl .is 1) [63] [64],oK (.k (.AO 999999 104 1 8)) [62,64,(lk 999999),(lk 104)] [65,lk 999999,lk 104],oK (.k (.jK 35 3 2 2 104 1)) [59,61,65,(lk 104)] [66],oV 66 57,oE 0 57 67,oE 1 57 68,oV 67 11,oV 68 12] (oS [oV 12 69,oI .neq 69 (.i .i64 0) 70] (.cond (.s 70) [] (oS [oV 11 71,oV 12 72,oV 71 6,oV 72 7] .ret) .skip))))) none (.fK [oI .add 52 (.i .i64 1) 73,oV 73 52])))
def cj.m:TM:=oS [oK (.k (.bx 1074)) [0,1074] [3,1074],oW (.sl .is ([]:List Int)) 6,oW (.i .i64 0) 7] (oS [oA 1074 0 0 3 13,oL 1074 0 1 13 14,oI .eql 14 (.i .i64 11) 15,oV 15 8] (.seq (.block 0 [(2,.gb 999999 1),(3,.ptr 1074 0),(1074,.cl []),(lk 999999,.pv 1)] (oS [oA 1074 0 0 3 17,oL 1074 0 1 17 18,oC 52 1 1 [18] 19,oI .eql 19 (.s []) 20,oV 20 16] (.cond (.s 16) [] (oS [oV 2 21,oK (.k (.jK 42 1 1 0 999999 1)) [21,(lk 999999)] [22],oV 22 6,oW (.i .i64 5) 7] .ret) (oS [oM 1074 0 9 3 24,oC 53 1 1 [24] 25,oK (.k (.un .not)) [25] [26],oV 26 23] (.cond (.s 23) [] (oS [oV 2 27,oK (.k (.jK 42 1 1 0 999999 1)) [27,(lk 999999)] [28],oV 28 6,oW (.i .i64 1) 7] .ret) (oS [oA 1074 0 4 3 30,oL 1074 4 1 30 31,oV 8 32,oC 54 2 1 [31,32] 33,oK (.k (.un .not)) [33] [34],oV 34 35,oG 35 false (oA 1074 0 5 3 36),oG 35 false (oL 1074 5 1 36 37),oG 35 false (oV 8 38),oG 35 false (oC 54 2 1 [37,38] 39),oG 35 false (oK (.k (.un .not)) [39] [40]),oX (.k .pick) [.s 35,.c (.b true),.s 40] [41],oV 41 42,oG 42 false (oV 1 43),oG 42 false (oX (.k (.call 54 (.plain 2 1))) [.s 43,.c (.b true)] [44]),oG 42 false (oK (.k (.un .not)) [44] [45]),oX (.k .pick) [.s 42,.c (.b true),.s 45] [46],oV 46 29] (.cond (.s 29) [] (oS [oV 2 47,oK (.k (.jK 42 1 1 0 999999 1)) [47,(lk 999999)] [48],oV 48 6,oW (.i .i64 4) 7] .ret) .skip))))))) none (.seq (oS [oA 1074 0 8 3 49,oL 1074 8 1 49 50,oK (.k .len) [50] [51],oW (.i .i64 0) 52] (.block 1 [(lk 999999,.pv 1)] (.loop [2,50,51,52,lk 999999] [(2,.gb 999999 1),(lk 999999,.pv 1)] cj.m1))) none (oS [oW (.sl .is ([]:List Int)) 6,oW (.i .i64 0) 7] .ret))))
def cj.d:gD:={ np:=3,m:=cj.m,ref:=none,fA:=[],res:=[.t 6,.t 7],own:=[],new:=none,fx:=[],ps:=some (2,999999,1) }
def cj.F (n:Nat) (v:bE) (name:bS) (path:List Int):OT:=cj.d.run (cj.E n) [(.ag (bE.cells v)),(.s name),(.sl .is path)]
def cj.k1 (n:Nat):fT (List TV):=iw (ev _ (cj.E n) (oS [oW (.sl .is ([]:List Int)) 6,oW (.i .i64 0) 7] .ret)) none (gJ cj.d)
def cj.l1 (n:Nat) (x0:List bG) (x1:Int) (x2:Int) (x3:List Int):OT:=gx (gY _ (cj.E n) cj.m1) oz [2,50,51,52,lk 999999] (dT [2,50,51,52,lk 999999] [.pt,(.sl .fl x0),(.i .i64 x1),(.i .i64 x2),(.sl .is x3)]) (er 1 (cj.k1 n))
theorem cj.ew (n:Nat) (x0:List bG) (x1:Int) (x2:Int) (x3:List Int) {ρ:OT} (K:∀(v1:bG) (h1:v1=(List.getD x0 (x2).toNat (eJ.fc .fl))) (v2:List Int) (h2:v2=((Tree.ga (bG.of ((bG.name v1)) (bG.val v1)) ((x3++([x2]:List Int)))).1)) (v3:Int) (h3:v3=((Tree.ga (bG.of ((bG.name v1)) (bG.val v1)) ((x3++([x2]:List Int)))).2)) (v4:Int) (h4:v4=(IntKind.i64.wrap (x2+(1:Int)))),cond (decide (x2<x1))
  (ck (eK x2 (x0).length) (ck (fS ((x3).length+(([x2]:List Int)).length) 8) (ck ((decide (bG.cA (bG.of ((bG.name v1)) (bG.val v1))+((x3++([x2]:List Int))).length≤1099511627776))&&decide ((bG.cA (bG.of ((bG.name v1)) (bG.val v1)))<n)) (cond (!decide (v3=(0:Int)))
  (some [(.sl .is v2),(.i .i64 v3),(.sl .is x3)])
  (cj.l1 n x0 x1 v4 x3)))))
  (some [(.sl .is ([]:List Int)),(.i .i64 0),(.sl .is x3)])=ρ):cj.l1 n x0 x1 x2 x3=ρ:=((fD _ _ _ _ _ _).trans (by kernel_rfl)).trans (K _ rfl _ rfl _ rfl _ rfl)
theorem cj.dV (n:Nat) (v:bE) (name:bS) (path:List Int) {ρ:OT} (K:∀(v1:Bool) (h1:v1=(Tree.eP ((bE.text v)) ((decide ((bE.kind v)=(11:Int)))))) (v2:Bool) (h2:v2=(Tree.eP ((bE.more v)) ((decide ((bE.kind v)=(11:Int)))))) (v3:Bool) (h3:v3=(cond (cond (!v1) true (!v2)) true (!(Tree.eP name true)))) (v4:Int) (h4:v4=(((bE.kids v)).length:Int)),cond (decide ((Tree.name ((bE.kind v)))=([]:bS)))
  (ck (fS (path).length 8) (some [(.sl .is (path)),(.i .i64 5),(.sl .is path)]))
  (cond (!(Tree.dR v))
  (ck (fS (path).length 8) (some [(.sl .is (path)),(.i .i64 1),(.sl .is path)]))
  (ck (decide (((bE.text v)).length≤1099511627776)) (ck (!(!(!v1)) || (!(!v1))) (ck (!(!(!v1)) || (((!(!v1))&&(!(!v1)))&&(decide (((bE.more v)).length≤1099511627776)))) (ck (!(!(!v1)) || (!(!v1))) (ck ((!v1) || (!(!v1))) (ck (!(!(cond (!v1) true (!v2))) || ((!(cond (!v1) true (!v2)))&&(decide (name.length≤1099511627776)))) (ck (!(!(cond (!v1) true (!v2))) || (!(cond (!v1) true (!v2)))) (ck ((cond (!v1) true (!v2)) || (!(cond (!v1) true (!v2)))) (cond v3
  (ck (fS (path).length 8) (some [(.sl .is (path)),(.i .i64 4),(.sl .is path)]))
  (cj.l1 n (bE.kids v) v4 (0:Int) path)))))))))))=ρ):cj.F n v name path=ρ:=Eq.trans (by kernel_rfl) (K _ rfl _ rfl _ rfl _ rfl)
theorem cj.di (n:Nat):CK 35 (cj.env n) cj.d:=eI (by kernel_rfl)
def dB.env:EV:=[(35,(cj.c,cj.sg))]
def dB.E:eo:=cK tryzGl dB.env
def dB.m:TM:=oS [oK (.k (.bx 1008)) [0,1008] [1,1008],oW (.sl .is ([]:List Int)) 2,oW (.i .i64 0) 3] (oS [oM 1008 0 9 1 4,oX (.k (.mq 35 3 2 2 1)) [.s 4,.c (.s []),.c (.sl .is ([]:List Int))] [5],oE 0 5 6,oE 1 5 7,oV 6 2,oV 7 3] .ret)
def dB.d:gD:=D0 1 dB.m [.t 2,.t 3]
def dB.F (v:bE):OT:=dB.d.run dB.E [(.ag (bE.cells v))]
theorem dB.dV (v:bE) {ρ:OT} (K:∀(v1:List Int) (h1:v1=((Tree.ga (bG.of (([]:bS)) v) (([]:List Int))).1)) (v2:Int) (h2:v2=((Tree.ga (bG.of (([]:bS)) v) (([]:List Int))).2)),ck (decide (bG.cA (bG.of (([]:bS)) v)+(([]:List Int)).length≤1099511627776)) (some [(.sl .is v1),(.i .i64 v2)])=ρ):dB.F v=ρ:=Eq.trans (by kernel_rfl) (K _ rfl _ rfl)
theorem dB.di:CK 20 dB.env dB.d:=eI (by kernel_rfl)
def cm.env (n:Nat):EV:=[(21,(cm.cn n,cm.sg))]
def cm.E (n:Nat):eo:=cK tryzGl (cm.env n)
def cm.m1:TM:=oS [oB .lss 22 21 23] (.seq (.cond (.s 23) [] .skip (.exit 0)) none (.seq (.block 1 [] (oS [oK (.k (.ix 10)) [20,22] [24],oK (.k (.lr 10 true)) [24] [25],oN 1035 zD 5,oT 1035 0 10 5 25] (.fK [oV 3 26,oA 1035 0 1 5 27,oM 1035 1 9 27 28,oC 21 1 1 [28] 29,oK (.k .mx) [26,29] [30],oV 30 3]))) none (.fK [oI .add 22 (.i .i64 1) 31,oV 31 22])))
def cm.m:TM:=oS [oK (.k (.bx 1034)) [0,1034] [1,1034],oW (.i .i64 0) 2] (.seq (oS [oA 1034 0 0 1 6,oL 1034 0 1 6 7,oI .neq 7 (.i .i64 3) 8,oV 8 9,oG 9 true (oA 1034 0 0 1 10),oG 9 true (oL 1034 0 1 10 11),oG 9 true (oI .neq 11 (.i .i64 4) 12),oP 9 12 false 13,oV 13 14,oG 14 true (oA 1034 0 0 1 15),oG 14 true (oL 1034 0 1 15 16),oG 14 true (oI .neq 16 (.i .i64 15) 17),oP 14 17 false 18] (.cond (.s 18) [] (oS [oW (.i .i64 0) 2] .ret) .skip)) none (oS [oW (.i .i64 0) 3] (.seq (oS [oA 1034 0 8 1 19,oL 1034 8 1 19 20,oK (.k .len) [20] [21],oW (.i .i64 0) 22] (.block 0 [] (.loop [3,20,21,22] [] cm.m1))) none (oS [oV 3 32,oI .add 32 (.i .i64 1) 33,oV 33 2] .ret))))
def cm.d:gD:=D0 1 cm.m [.t 2]
def cm.F (n:Nat) (v:bE):OT:=cm.d.run (cm.E n) [(.ag (bE.cells v))]
def cm.k1 (n:Nat):fT (List TV):=iw (ev _ (cm.E n) (oS [oV 3 32,oI .add 32 (.i .i64 1) 33,oV 33 2] .ret)) none (gJ cm.d)
def cm.l1 (n:Nat) (x0:Int) (x1:List bG) (x2:Int) (x3:Int):OT:=gx (gY _ (cm.E n) cm.m1) oz [3,20,21,22] (dT [3,20,21,22] [(.i .i64 x0),(.sl .fl x1),(.i .i64 x2),(.i .i64 x3)]) (er 0 (cm.k1 n))
theorem cm.ew (n:Nat) (x0:Int) (x1:List bG) (x2:Int) (x3:Int) {ρ:OT} (K:∀(v1:bG) (h1:v1=(List.getD x1 (x3).toNat (eJ.fc .fl))) (v2:Int) (h2:v2=((Tree.depth (bG.of [] (bG.val v1)):Int))) (v3:Int) (h3:v3=(IntKind.i64.wrap (x3+(1:Int)))) (v4:Int) (h4:v4=(IntKind.i64.wrap (x0+(1:Int)))),cond (decide (x3<x2))
  (ck (eK x3 (x1).length) (ck ((decide (bG.cA (bG.of [] (bG.val v1))≤1099511627776))&&decide ((bG.cA (bG.of [] (bG.val v1)))<n)) (cm.l1 n (nJ x0 v2) x1 x2 v3)))
  (some [(.i .i64 v4)])=ρ):cm.l1 n x0 x1 x2 x3=ρ:=((fD _ _ _ _ _ _).trans (by kernel_rfl)).trans (K _ rfl _ rfl _ rfl _ rfl)
theorem cm.dV (n:Nat) (v:bE) {ρ:OT} (K:∀(v1:Bool) (h1:v1=(cond (!decide ((bE.kind v)=(3:Int))) (!decide ((bE.kind v)=(4:Int))) false)) (v2:Bool) (h2:v2=(cond v1 (!decide ((bE.kind v)=(15:Int))) false)) (v3:Int) (h3:v3=(((bE.kids v)).length:Int)),ck (!(!decide ((bE.kind v)=(3:Int))) || (!decide ((bE.kind v)=(3:Int)))) (ck (!(!decide ((bE.kind v)=(3:Int))) || (!decide ((bE.kind v)=(3:Int)))) (ck (!(!decide ((bE.kind v)=(3:Int))) || (!decide ((bE.kind v)=(3:Int)))) (ck (!v1 || v1) (ck (!v1 || v1) (ck (!v1 || v1) (cond v2
  (some [(.i .i64 0)])
  (cm.l1 n (0:Int) (bE.kids v) v3 (0:Int))))))))=ρ):cm.F n v=ρ:=Eq.trans (by kernel_rfl) (K _ rfl _ rfl _ rfl)
theorem cm.di (n:Nat):CK 21 (cm.env n) cm.d:=eI (by kernel_rfl)
def da.env:EV:=[]
def da.E:eo:=cK tryzGl da.env
def da.m:TM:=oS [oW (.sl .is ([]:List Int)) 0] (oS [oX (.bl .is 21) [.c (.i .i64 1),.c (.i .i64 2),.c (.i .i64 3),.c (.i .i64 4),.c (.i .i64 5),.c (.i .i64 6),.c (.i .i64 7),.c (.i .i64 8),.c (.i .i64 9),.c (.i .i64 10),.c (.i .i64 11),.c (.i .i64 12),.c (.i .i64 13),.c (.i .i64 14),.c (.i .i64 15),.c (.i .i64 16),.c (.i .i64 17),.c (.i .i64 18),.c (.i .i64 19),.c (.i .i64 127),.c (.i .i64 255)] [1],oV 1 0] .ret)
def da.d:gD:=D0 0 da.m [.t 0]
def da.F  : OT:=da.d.run da.E []
theorem da.dV  {ρ:OT} (K:∀(v1:List Int) (h1:v1=([(1:Int),(2:Int),(3:Int),(4:Int),(5:Int),(6:Int),(7:Int),(8:Int),(9:Int),(10:Int),(11:Int),(12:Int),(13:Int),(14:Int),(15:Int),(16:Int),(17:Int),(18:Int),(19:Int),(127:Int),(255:Int)]:List Int)),some [(.sl .is v1)]=ρ):da.F  = ρ:=Eq.trans (by kernel_rfl) (K _ rfl)
theorem da.di:CK 92 da.env da.d:=eI (by kernel_rfl)
def cH.env:EV:=[(92,(da.c,da.sg))]
def cH.E:eo:=cK tryzGl cH.env
def cH.m1:TM := .seq (oS [oV 5 8,oV 4 9,oK (.k .len) [9] [10],oB .lss 8 10 11] (.cond (.s 11) [] .skip (.exit 0))) none (.seq (.block 1 [] (oS [oV 4 14,oV 5 15,oK (.k (.ix 1)) [14,15] [16],oK (.k (.lr 1 false)) [16] [17],oV 0 18,oB .eql 17 18 19] (.cond (.s 19) [] (oS [oV 3 20,oV 5 21,oK (.k (.ix 1)) [20,21] [22],oK (.k (.lr 1 false)) [22] [23],oV 23 2] .ret) .skip))) none (.fK [oV 5 12,oI .add 12 (.i .i64 1) 13,oV 13 5]))
def cH.m:TM:=oS [oW (.s []) 2] (oS [oX (.bl .ss 21) [.c (.s ([100,111,117,98,108,101]:bS)),.c (.s ([115,116,114,105,110,103]:bS)),.c (.s ([100,111,99,117,109,101,110,116]:bS)),.c (.s ([97,114,114,97,121]:bS)),.c (.s ([98,105,110,97,114,121]:bS)),.c (.s ([117,110,100,101,102,105,110,101,100]:bS)),.c (.s ([111,98,106,101,99,116,105,100]:bS)),.c (.s ([98,111,111,108]:bS)),.c (.s ([100,97,116,101]:bS)),.c (.s ([110,117,108,108]:bS)),.c (.s ([114,101,103,101,120]:bS)),.c (.s ([112,111,105,110,116,101,114]:bS)),.c (.s ([99,111,100,101]:bS)),.c (.s ([115,121,109,98,111,108]:bS)),.c (.s ([115,99,111,112,101,100]:bS)),.c (.s ([105,110,116,51,50]:bS)),.c (.s ([116,105,109,101,115,116,97,109,112]:bS)),.c (.s ([105,110,116,54,52]:bS)),.c (.s ([100,101,99,105,109,97,108]:bS)),.c (.s ([109,97,120,107,101,121]:bS)),.c (.s ([109,105,110,107,101,121]:bS))] [6],oV 6 3] (oS [oC 92 0 1 [] 7,oV 7 4] (.seq (oS [oW (.i .i64 0) 5] (.block 0 [] (.loop [0,3,4,5] [] cH.m1))) none (oS [oW (.s []) 2] .ret))))
def cH.d:gD:=D0 1 cH.m [.t 2]
def cH.F (k:Int):OT:=cH.d.run cH.E [(.i .i64 k)]
def cH.k1:fT (List TV):=iw (ev _ cH.E (oS [oW (.s []) 2] .ret)) none (gJ cH.d)
def cH.l1 (x0:Int) (x1:List bS) (x2:List Int) (x3:Int):OT:=gx (gY _ cH.E cH.m1) oz [0,3,4,5] (dT [0,3,4,5] [(.i .i64 x0),(.sl .ss x1),(.sl .is x2),(.i .i64 x3)]) (er 0 cH.k1)
theorem cH.ew (x0:Int) (x1:List bS) (x2:List Int) (x3:Int) {ρ:OT} (K:∀(v1:Int) (h1:v1=(List.getD x2 (x3).toNat (0:Int))) (v2:bS) (h2:v2=(List.getD x1 (x3).toNat ([]:bS))) (v3:Int) (h3:v3=(IntKind.i64.wrap (x3+(1:Int)))),cond (decide (x3<((x2).length:Int)))
  (ck (eK x3 (x2).length) (cond (decide (v1=x0))
  (ck (eK x3 (x1).length) (some [(.s v2)]))
  (cH.l1 x0 x1 x2 v3)))
  (some [(.s [])])=ρ):cH.l1 x0 x1 x2 x3=ρ:=((fD _ _ _ _ _ _).trans (by kernel_rfl)).trans (K _ rfl _ rfl _ rfl)
theorem cH.dV (k:Int) {ρ:OT} (K:∀(v1:List bS) (h1:v1=([([100,111,117,98,108,101]:bS),([115,116,114,105,110,103]:bS),([100,111,99,117,109,101,110,116]:bS),([97,114,114,97,121]:bS),([98,105,110,97,114,121]:bS),([117,110,100,101,102,105,110,101,100]:bS),([111,98,106,101,99,116,105,100]:bS),([98,111,111,108]:bS),([100,97,116,101]:bS),([110,117,108,108]:bS),([114,101,103,101,120]:bS),([112,111,105,110,116,101,114]:bS),([99,111,100,101]:bS),([115,121,109,98,111,108]:bS),([115,99,111,112,101,100]:bS),([105,110,116,51,50]:bS),([116,105,109,101,115,116,97,109,112]:bS),([105,110,116,54,52]:bS),([100,101,99,105,109,97,108]:bS),([109,97,120,107,101,121]:bS),([109,105,110,107,101,121]:bS)]:List bS)),cH.l1 k v1 (Tree.kinds) (0:Int)=ρ):cH.F k=ρ:=Eq.trans (by kernel_rfl) (K _ rfl)
theorem cH.di:CK 75 cH.env cH.d:=eI (by kernel_rfl)
def bL.env:EV:=[]
def bL.E:eo:=cK tryzGl bL.env
def bL.m1:TM := .cond (.s 31) [] (.fK [oW (.b true) 8]) (oS [oI .eql 9 (.i .i64 15) 35,oV 35 34] (.cond (.s 34) [] (.fK [oW (.b true) 4,oW (.b true) 8]) .skip))
def bL.m2:TM := .cond (.s 19) [] (.fK [oW (.b true) 4]) (oS [oI .eql 9 (.i .i64 11) 24,oV 24 23] (.cond (.s 23) [] (.fK [oW (.b true) 4,oW (.b true) 5]) (oS [oI .eql 9 (.i .i64 5) 26,oV 26 25] (.cond (.s 25) [] (.fK [oW (.b true) 6,oW (.b true) 7]) (oS [oI .eql 9 (.i .i64 7) 28,oV 28 27] (.cond (.s 27) [] (.fK [oW (.b true) 7]) (oS [oI .eql 9 (.i .i64 12) 30,oV 30 29] (.cond (.s 29) [] (.fK [oW (.b true) 4,oW (.b true) 7]) (.seq (oS [oI .eql 9 (.i .i64 3) 32,oV 32 31] (.cond (.s 31) [] .skip (.fK [oI .eql 9 (.i .i64 4) 33,oV 33 31]))) (some [2,3,4,5,6,7,8,9,31]) bL.m1)))))))))
def bL.m3:TM := .cond (.s 10) [] (.fK [oW (.b true) 2]) (oS [oI .eql 9 (.i .i64 19) 18,oV 18 17] (.cond (.s 17) [] (.fK [oW (.b true) 3]) (.seq (oS [oI .eql 9 (.i .i64 2) 20,oV 20 19] (.cond (.s 19) [] .skip (oS [oI .eql 9 (.i .i64 13) 21,oV 21 19] (.cond (.s 19) [] .skip (.fK [oI .eql 9 (.i .i64 14) 22,oV 22 19]))))) (some [2,3,4,5,6,7,8,9,19]) bL.m2)))
def bL.m4:TM := .ret
def bL.m:TM:=oS [oW (.b false) 2,oW (.b false) 3,oW (.b false) 4,oW (.b false) 5,oW (.b false) 6,oW (.b false) 7,oW (.b false) 8] (.seq (oS [oV 0 9] (.block 0 [] (.seq (oS [oI .eql 9 (.i .i64 1) 11,oV 11 10] (.cond (.s 10) [] .skip (oS [oI .eql 9 (.i .i64 9) 12,oV 12 10] (.cond (.s 10) [] .skip (oS [oI .eql 9 (.i .i64 17) 13,oV 13 10] (.cond (.s 10) [] .skip (oS [oI .eql 9 (.i .i64 18) 14,oV 14 10] (.cond (.s 10) [] .skip (oS [oI .eql 9 (.i .i64 16) 15,oV 15 10] (.cond (.s 10) [] .skip (.fK [oI .eql 9 (.i .i64 8) 16,oV 16 10]))))))))))) (some [2,3,4,5,6,7,8,9,10]) bL.m3))) (some [2,3,4,5,6,7,8]) bL.m4)
def bL.d:gD:=D0 1 bL.m [.t 2,.t 3,.t 4,.t 5,.t 6,.t 7,.t 8]
def bL.F (k:Int):OT:=bL.d.run bL.E [(.i .i64 k)]
def bL.k1:fT (List TV):=iw (gY _ bL.E bL.m4) (some [2,3,4,5,6,7,8]) (gJ bL.d)
def bL.j1 (x0:Bool) (x1:Bool) (x2:Bool) (x3:Bool) (x4:Bool) (x5:Bool) (x6:Bool) (x7:Int) (x8:Bool):OT:=gY _ bL.E bL.m3 (dT [2,3,4,5,6,7,8,9,10] [(.b x0),(.b x1),(.b x2),(.b x3),(.b x4),(.b x5),(.b x6),(.i .i64 x7),(.b x8)]) (er 0 bL.k1)
def bL.j2 (x0:Bool) (x1:Bool) (x2:Bool) (x3:Bool) (x4:Bool) (x5:Bool) (x6:Bool):OT:=gY _ bL.E bL.m4 (dT [2,3,4,5,6,7,8] [(.b x0),(.b x1),(.b x2),(.b x3),(.b x4),(.b x5),(.b x6)]) (gJ bL.d)
def bL.j3 (x0:Bool) (x1:Bool) (x2:Bool) (x3:Bool) (x4:Bool) (x5:Bool) (x6:Bool) (x7:Int) (x8:Bool):OT:=gY _ bL.E bL.m2 (dT [2,3,4,5,6,7,8,9,19] [(.b x0),(.b x1),(.b x2),(.b x3),(.b x4),(.b x5),(.b x6),(.i .i64 x7),(.b x8)]) (er 0 bL.k1)
def bL.j4 (x0:Bool) (x1:Bool) (x2:Bool) (x3:Bool) (x4:Bool) (x5:Bool) (x6:Bool) (x7:Int) (x8:Bool):OT:=gY _ bL.E bL.m1 (dT [2,3,4,5,6,7,8,9,31] [(.b x0),(.b x1),(.b x2),(.b x3),(.b x4),(.b x5),(.b x6),(.i .i64 x7),(.b x8)]) (er 0 bL.k1)
theorem bL.lv (x0:Bool) (x1:Bool) (x2:Bool) (x3:Bool) (x4:Bool) (x5:Bool) (x6:Bool) (x7:Int) (x8:Bool):bL.j1 x0 x1 x2 x3 x4 x5 x6 x7 x8=cond x8
  (bL.j2 true x1 x2 x3 x4 x5 x6)
  (cond (decide (x7=(19:Int)))
  (bL.j2 x0 true x2 x3 x4 x5 x6)
  (cond (decide (x7=(2:Int)))
  (bL.j3 x0 x1 x2 x3 x4 x5 x6 x7 (decide (x7=(2:Int))))
  (cond (decide (x7=(13:Int)))
  (bL.j3 x0 x1 x2 x3 x4 x5 x6 x7 (decide (x7=(13:Int))))
  (bL.j3 x0 x1 x2 x3 x4 x5 x6 x7 (decide (x7=(14:Int))))))):=((congrFun (congrFun (gQ _ _) _) _).trans (by kernel_rfl))
theorem bL.jw (x0:Bool) (x1:Bool) (x2:Bool) (x3:Bool) (x4:Bool) (x5:Bool) (x6:Bool):bL.j2 x0 x1 x2 x3 x4 x5 x6=some [(.b x0),(.b x1),(.b x2),(.b x3),(.b x4),(.b x5),(.b x6)]:=((congrFun (congrFun (gQ _ _) _) _).trans (by kernel_rfl))
theorem bL.JV (x0:Bool) (x1:Bool) (x2:Bool) (x3:Bool) (x4:Bool) (x5:Bool) (x6:Bool) (x7:Int) (x8:Bool):bL.j3 x0 x1 x2 x3 x4 x5 x6 x7 x8=cond x8
  (bL.j2 x0 x1 true x3 x4 x5 x6)
  (cond (decide (x7=(11:Int)))
  (bL.j2 x0 x1 true true x4 x5 x6)
  (cond (decide (x7=(5:Int)))
  (bL.j2 x0 x1 x2 x3 true true x6)
  (cond (decide (x7=(7:Int)))
  (bL.j2 x0 x1 x2 x3 x4 true x6)
  (cond (decide (x7=(12:Int)))
  (bL.j2 x0 x1 true x3 x4 true x6)
  (cond (decide (x7=(3:Int)))
  (bL.j4 x0 x1 x2 x3 x4 x5 x6 x7 (decide (x7=(3:Int))))
  (bL.j4 x0 x1 x2 x3 x4 x5 x6 x7 (decide (x7=(4:Int))))))))):=((congrFun (congrFun (gQ _ _) _) _).trans (by kernel_rfl))
theorem bL.Co (x0:Bool) (x1:Bool) (x2:Bool) (x3:Bool) (x4:Bool) (x5:Bool) (x6:Bool) (x7:Int) (x8:Bool):bL.j4 x0 x1 x2 x3 x4 x5 x6 x7 x8=cond x8
  (bL.j2 x0 x1 x2 x3 x4 x5 true)
  (cond (decide (x7=(15:Int)))
  (bL.j2 x0 x1 true x3 x4 x5 true)
  (bL.j2 x0 x1 x2 x3 x4 x5 x6)):=((congrFun (congrFun (gQ _ _) _) _).trans (by kernel_rfl))
theorem bL.fR (k:Int):bL.F k=cond (decide (k=(1:Int)))
  (bL.j1 false false false false false false false k (decide (k=(1:Int))))
  (cond (decide (k=(9:Int)))
  (bL.j1 false false false false false false false k (decide (k=(9:Int))))
  (cond (decide (k=(17:Int)))
  (bL.j1 false false false false false false false k (decide (k=(17:Int))))
  (cond (decide (k=(18:Int)))
  (bL.j1 false false false false false false false k (decide (k=(18:Int))))
  (cond (decide (k=(16:Int)))
  (bL.j1 false false false false false false false k (decide (k=(16:Int))))
  (bL.j1 false false false false false false false k (decide (k=(8:Int)))))))):=by kernel_rfl
theorem bL.di:CK 76 bL.env bL.d:=eI (by kernel_rfl)
def eg.env:EV:=[(46,(cO.c,cO.sg)),(71,(dt.c,dt.sg)),(75,(cH.c,cH.sg)),(76,(bL.c,bL.sg))]
def eg.E:eo:=cK tryzGl eg.env
def eg.m:TM:=oS [oK (.k (.bx 1162)) [0,1162] [1,1162],oW (.i .i64 0) 2] (.seq (oS [oA 1162 0 0 1 10,oL 1162 0 1 10 11,oC 75 1 1 [11] 12,oI .eql 12 (.s []) 13] (.cond (.s 13) [] (oS [oW (.i .i64 5) 2] .ret) .skip)) none (oS [oA 1162 0 0 1 15,oL 1162 0 1 15 16,oC 76 1 7 [16] 17,oV 17 14,oE 0 14 18,oE 1 14 19,oE 2 14 20,oE 3 14 21,oE 4 14 22,oE 5 14 23,oE 6 14 24,oV 18 3,oV 19 4,oV 20 5,oV 21 6,oV 22 7,oV 23 8,oV 24 9] (.seq (oS [oV 3 25,oK (.k (.un .not)) [25] [26],oV 26 27,oG 27 true (oA 1162 0 1 1 28),oG 27 true (oL 1162 1 1 28 29),oG 27 true (oI .neq 29 (.u64 0) 30),oP 27 30 false 31,oV 31 32,oG 32 false (oV 4 33),oG 32 false (oK (.k (.un .not)) [33] [34]),oG 32 false (oV 34 35),oG 35 true (oA 1162 0 2 1 36),oG 35 true (oL 1162 2 1 36 37),oG 35 true (oI .neq 37 (.u64 0) 38),oG 35 true (oV 38 39),oG 39 false (oA 1162 0 3 1 40),oG 39 false (oL 1162 3 1 40 41),oG 39 false (oI .neq 41 (.u64 0) 42),oG 35 true (oX (.k .pick) [.s 39,.c (.b true),.s 42] [43]),oG 32 false (oP 35 43 false 44),oX (.k .pick) [.s 32,.c (.b true),.s 44] [45],oV 45 46,oG 46 false (oV 5 47),oG 46 false (oK (.k (.un .not)) [47] [48]),oG 46 false (oV 48 49),oG 49 true (oA 1162 0 4 1 50),oG 49 true (oL 1162 4 1 50 51),oG 49 true (oI .neq 51 (.s []) 52),oG 46 false (oP 49 52 false 53),oX (.k .pick) [.s 46,.c (.b true),.s 53] [54],oV 54 55,oG 55 false (oV 6 56),oG 55 false (oK (.k (.un .not)) [56] [57]),oG 55 false (oV 57 58),oG 58 true (oA 1162 0 5 1 59),oG 58 true (oL 1162 5 1 59 60),oG 58 true (oI .neq 60 (.s []) 61),oG 55 false (oP 58 61 false 62),oX (.k .pick) [.s 55,.c (.b true),.s 62] [63],oV 63 64,oG 64 false (oV 7 65),oG 64 false (oK (.k (.un .not)) [65] [66]),oG 64 false (oV 66 67),oG 67 true (oA 1162 0 6 1 68),oG 67 true (oL 1162 6 1 68 69),oG 67 true (oI .neq 69 (.i .i64 0) 70),oG 64 false (oP 67 70 false 71),oX (.k .pick) [.s 64,.c (.b true),.s 71] [72],oV 72 73,oG 73 false (oV 8 74),oG 73 false (oK (.k (.un .not)) [74] [75]),oG 73 false (oV 75 76),oG 76 true (oA 1162 0 7 1 77),oG 76 true (oL 1162 7 1 77 78),oG 76 true (oK (.k .len) [78] [79]),oG 76 true (oI .gtr 79 (.i .i64 0) 80),oG 73 false (oP 76 80 false 81),oX (.k .pick) [.s 73,.c (.b true),.s 81] [82],oV 82 83,oG 83 false (oV 9 84),oG 83 false (oK (.k (.un .not)) [84] [85]),oG 83 false (oV 85 86),oG 86 true (oA 1162 0 8 1 87),oG 86 true (oL 1162 8 1 87 88),oG 86 true (oK (.k .len) [88] [89]),oG 86 true (oI .gtr 89 (.i .i64 0) 90),oG 83 false (oP 86 90 false 91),oX (.k .pick) [.s 83,.c (.b true),.s 91] [92]] (.cond (.s 92) [] (oS [oW (.i .i64 1) 2] .ret) .skip)) none (.seq (oS [oA 1162 0 0 1 93,oL 1162 0 1 93 94,oI .eql 94 (.i .i64 16) 95,oV 95 96,oG 96 true (oA 1162 0 1 1 97),oG 96 true (oL 1162 1 1 97 98),oG 96 true (oI .geq 98 (.u64 4294967296) 99),oP 96 99 false 100,oV 100 101,oG 101 false (oA 1162 0 0 1 102),oG 101 false (oL 1162 0 1 102 103),oG 101 false (oI .eql 103 (.i .i64 8) 104),oG 101 false (oV 104 105),oG 105 true (oA 1162 0 1 1 106),oG 105 true (oL 1162 1 1 106 107),oG 105 true (oI .gtr 107 (.u64 1) 108),oG 101 false (oP 105 108 false 109),oX (.k .pick) [.s 101,.c (.b true),.s 109] [110],oV 110 111,oG 111 false (oA 1162 0 6 1 112),oG 111 false (oL 1162 6 1 112 113),oG 111 false (oI .lss 113 (.i .i64 0) 114),oX (.k .pick) [.s 111,.c (.b true),.s 114] [115],oV 115 116,oG 116 false (oA 1162 0 6 1 117),oG 116 false (oL 1162 6 1 117 118),oG 116 false (oI .gtr 118 (.i .i64 255) 119),oX (.k .pick) [.s 116,.c (.b true),.s 119] [120],oV 120 121,oG 121 false (oA 1162 0 0 1 122),oG 121 false (oL 1162 0 1 122 123),oG 121 false (oI .eql 123 (.i .i64 7) 124),oG 121 false (oV 124 125),oG 125 false (oA 1162 0 0 1 126),oG 125 false (oL 1162 0 1 126 127),oG 125 false (oI .eql 127 (.i .i64 12) 128),oG 121 false (oX (.k .pick) [.s 125,.c (.b true),.s 128] [129]),oG 121 false (oV 129 130),oG 130 true (oA 1162 0 7 1 131),oG 130 true (oL 1162 7 1 131 132),oG 130 true (oK (.k .len) [132] [133]),oG 130 true (oI .neq 133 (.i .i64 12) 134),oG 121 false (oP 130 134 false 135),oX (.k .pick) [.s 121,.c (.b true),.s 135] [136]] (.cond (.s 136) [] (oS [oW (.i .i64 1) 2] .ret) .skip)) none (.seq (oS [oA 1162 0 4 1 137,oL 1162 4 1 137 138,oC 71 1 1 [138] 139,oK (.k (.un .not)) [139] [140],oV 140 141,oG 141 false (oA 1162 0 5 1 142),oG 141 false (oL 1162 5 1 142 143),oG 141 false (oC 71 1 1 [143] 144),oG 141 false (oK (.k (.un .not)) [144] [145]),oX (.k .pick) [.s 141,.c (.b true),.s 145] [146],oV 146 147,oG 147 false (oA 1162 0 0 1 148),oG 147 false (oL 1162 0 1 148 149),oG 147 false (oI .eql 149 (.i .i64 11) 150),oG 147 false (oV 150 151),oG 151 true (oA 1162 0 4 1 152),oG 151 true (oL 1162 4 1 152 153),oG 151 true (oC 46 1 1 [153] 154),oG 151 true (oV 154 155),oG 155 false (oA 1162 0 5 1 156),oG 155 false (oL 1162 5 1 156 157),oG 155 false (oC 46 1 1 [157] 158),oG 151 true (oX (.k .pick) [.s 155,.c (.b true),.s 158] [159]),oG 147 false (oP 151 159 false 160),oX (.k .pick) [.s 147,.c (.b true),.s 160] [161]] (.cond (.s 161) [] (oS [oW (.i .i64 4) 2] .ret) .skip)) none (oS [oW (.i .i64 0) 2] .ret))))))
def eg.d:gD:=D0 1 eg.m [.t 2]
def eg.F (v:bE):OT:=eg.d.run eg.E [(.ag (bE.cells v))]
theorem eg.dV (v:bE) {ρ:OT} (K:∀(v1:Bool) (h1:v1=(!(Tree.gN 0 ((bE.kind v))))) (v2:Bool) (h2:v2=(cond v1 (!decide ((bE.bits v)=(0:UInt64))) false)) (v3:Bool) (h3:v3=(!(Tree.gN 1 ((bE.kind v))))) (v4:Bool) (h4:v4=(((!v2)&&v3)&&(!(!decide ((bE.high v)=(0:UInt64)))))) (v5:Bool) (h5:v5=(cond (!decide ((bE.high v)=(0:UInt64))) true (!decide ((bE.low v)=(0:UInt64))))) (v6:Bool) (h6:v6=(cond v2 true (cond v3 v5 false))) (v7:Bool) (h7:v7=(!(Tree.gN 2 ((bE.kind v))))) (v8:Bool) (h8:v8=(cond v7 (!decide ((bE.text v)=([]:bS))) false)) (v9:Bool) (h9:v9=(!(Tree.gN 3 ((bE.kind v))))) (v10:Bool) (lZ:v10=(cond v9 (!decide ((bE.more v)=([]:bS))) false)) (v11:Bool) (yb:v11=(cond (cond v6 true v8) true v10)) (v12:Bool) (ya:v12=(!(Tree.gN 4 ((bE.kind v))))) (kN:Bool) (wN:kN=(cond v12 (!decide ((bE.sub v)=(0:Int))) false)) (jc:Bool) (xZ:jc=(!(Tree.gN 5 ((bE.kind v))))) (mM:Bool) (Ai:mM=((!(cond v11 true kN))&&jc)) (lf:Int) (sH:lf=(((bE.bytes v)).length:Int)) (pC:Bool) (tg:pC=(cond jc (decide ((0:Int)<lf)) false)) (mL:Bool) (ET:mL=(cond (cond v11 true kN) true pC)) (oq:Bool) (ES:oq=(!(Tree.gN 6 ((bE.kind v))))) (v20:Int) (KT:v20=(((bE.kids v)).length:Int)) (v21:Bool) (HV:v21=(cond oq (decide ((0:Int)<v20)) false)) (ow:Bool) (HU:ow=(cond (decide ((bE.kind v)=(16:Int))) (decide ((4294967296:UInt64)≤(bE.bits v))) false)) (tm:Bool) (LU:tm=((!ow)&&(decide ((bE.kind v)=(8:Int))))) (v24:Bool) (F8:v24=(cond (decide ((bE.kind v)=(8:Int))) (decide ((1:UInt64)<(bE.bits v))) false)) (vt:Bool) (KS:vt=(cond (cond ow true v24) true (decide ((bE.sub v)<(0:Int))))) (nq:Bool) (KR:nq=(cond vt true (decide ((255:Int)<(bE.sub v))))) (A0:Bool) (OI:A0=((!nq)&&(!(decide ((bE.kind v)=(7:Int)))))) (v28:Bool) (LS:v28=(cond (decide ((bE.kind v)=(7:Int))) true (decide ((bE.kind v)=(12:Int))))) (DH:Bool) (KQ:DH=(cond v28 (!decide (lf=(12:Int))) false)) (v30:Bool) (LR:v30=(!(dK.whole ((bE.text v))))) (v31:Bool) (LQ:v31=(!(dK.whole ((bE.more v))))) (AN:Bool) (PA:AN=((!(cond v30 true v31))&&(decide ((bE.kind v)=(11:Int))))) (Gr:Bool) (Pz:Gr=(AN&&(!(dK.zero ((bE.text v)))))) (Mg:Bool) (OH:Mg=(cond (dK.zero ((bE.text v))) true (dK.zero ((bE.more v))))) (Mf:Bool) (OG:Mf=(cond (decide ((bE.kind v)=(11:Int))) Mg false)) (Ll:Bool) (OF:Ll=(cond (cond v30 true v31) true Mf)),cond (decide ((Tree.name ((bE.kind v)))=([]:bS)))
  (some [(.i .i64 5)])
  (ck (!v1 || v1) (ck (!v1 || v1) (ck (!v1 || v1) (ck (!(!v2) || (!v2)) (ck (!(!v2) || (!v2)) (ck (!((!v2)&&v3) || ((!v2)&&v3)) (ck (!((!v2)&&v3) || ((!v2)&&v3)) (ck (!((!v2)&&v3) || ((!v2)&&v3)) (ck (!v4 || v4) (ck (!v4 || v4) (ck (!((!v2)&&v3) || (((!v2)&&v3)&&((!decide ((bE.high v)=(0:UInt64))) || v4))) (ck (!(!v2) || ((!v2)&&(!v3 || ((!v2)&&v3)))) (ck (v2 || (!v2)) (ck (!(!v6) || (!v6)) (ck (!(!v6) || (!v6)) (ck (!((!v6)&&v7) || ((!v6)&&v7)) (ck (!((!v6)&&v7) || ((!v6)&&v7)) (ck (!(!v6) || ((!v6)&&(!v7 || ((!v6)&&v7)))) (ck (v6 || (!v6)) (ck (!(!(cond v6 true v8)) || (!(cond v6 true v8))) (ck (!(!(cond v6 true v8)) || (!(cond v6 true v8))) (ck (!((!(cond v6 true v8))&&v9) || ((!(cond v6 true v8))&&v9)) (ck (!((!(cond v6 true v8))&&v9) || ((!(cond v6 true v8))&&v9)) (ck (!(!(cond v6 true v8)) || ((!(cond v6 true v8))&&(!v9 || ((!(cond v6 true v8))&&v9)))) (ck ((cond v6 true v8) || (!(cond v6 true v8))) (ck (!(!v11) || (!v11)) (ck (!(!v11) || (!v11)) (ck (!((!v11)&&v12) || ((!v11)&&v12)) (ck (!((!v11)&&v12) || ((!v11)&&v12)) (ck (!(!v11) || ((!v11)&&(!v12 || ((!v11)&&v12)))) (ck (v11 || (!v11)) (ck (!(!(cond v11 true kN)) || (!(cond v11 true kN))) (ck (!(!(cond v11 true kN)) || (!(cond v11 true kN))) (ck (!mM || mM) (ck (!mM || mM) (ck (!mM || mM) (ck (!(!(cond v11 true kN)) || ((!(cond v11 true kN))&&(!jc || mM))) (ck ((cond v11 true kN) || (!(cond v11 true kN))) (ck (!(!mL) || (!mL)) (ck (!(!mL) || (!mL)) (ck (!((!mL)&&oq) || ((!mL)&&oq)) (ck (!((!mL)&&oq) || ((!mL)&&oq)) (ck (!((!mL)&&oq) || ((!mL)&&oq)) (ck (!(!mL) || ((!mL)&&(!oq || ((!mL)&&oq)))) (ck (mL || (!mL)) (cond (cond mL true v21)
  (some [(.i .i64 1)])
  (ck (!(decide ((bE.kind v)=(16:Int))) || (decide ((bE.kind v)=(16:Int)))) (ck (!(decide ((bE.kind v)=(16:Int))) || (decide ((bE.kind v)=(16:Int)))) (ck (!(decide ((bE.kind v)=(16:Int))) || (decide ((bE.kind v)=(16:Int)))) (ck (!(!ow) || (!ow)) (ck (!(!ow) || (!ow)) (ck (!(!ow) || (!ow)) (ck (!tm || tm) (ck (!tm || tm) (ck (!(!ow) || ((!ow)&&(!(decide ((bE.kind v)=(8:Int))) || tm))) (ck (ow || (!ow)) (ck (!(!(cond ow true v24)) || (!(cond ow true v24))) (ck (!(!(cond ow true v24)) || (!(cond ow true v24))) (ck ((cond ow true v24) || (!(cond ow true v24))) (ck (!(!vt) || (!vt)) (ck (!(!vt) || (!vt)) (ck (vt || (!vt)) (ck (!(!nq) || (!nq)) (ck (!(!nq) || (!nq)) (ck (!(!nq) || (!nq)) (ck (!A0 || A0) (ck (!A0 || A0) (ck (!(!nq) || ((!nq)&&((decide ((bE.kind v)=(7:Int))) || A0))) (ck (!(!nq) || (!nq)) (ck (!((!nq)&&v28) || ((!nq)&&v28)) (ck (!((!nq)&&v28) || ((!nq)&&v28)) (ck (!((!nq)&&v28) || ((!nq)&&v28)) (ck (!(!nq) || ((!nq)&&(!v28 || ((!nq)&&v28)))) (ck (nq || (!nq)) (cond (cond nq true DH)
  (some [(.i .i64 1)])
  (ck (decide (((bE.text v)).length≤1099511627776)) (ck (!(!v30) || (!v30)) (ck (!(!v30) || ((!v30)&&(decide (((bE.more v)).length≤1099511627776)))) (ck (!(!v30) || (!v30)) (ck (v30 || (!v30)) (ck (!(!(cond v30 true v31)) || (!(cond v30 true v31))) (ck (!(!(cond v30 true v31)) || (!(cond v30 true v31))) (ck (!(!(cond v30 true v31)) || (!(cond v30 true v31))) (ck (!AN || AN) (ck (!AN || (AN&&(decide (((bE.text v)).length≤1099511627776)))) (ck (!AN || AN) (ck (!Gr || Gr) (ck (!Gr || (Gr&&(decide (((bE.more v)).length≤1099511627776)))) (ck (!AN || (AN&&((dK.zero ((bE.text v))) || Gr))) (ck (!(!(cond v30 true v31)) || ((!(cond v30 true v31))&&(!(decide ((bE.kind v)=(11:Int))) || AN))) (ck ((cond v30 true v31) || (!(cond v30 true v31))) (cond Ll
  (some [(.i .i64 4)])
  (some [(.i .i64 0)])))))))))))))))))))))))))))))))))))))))))))))))))))))))))))))))))))))))))))))))))))))))))))))=ρ):eg.F v=ρ:=Eq.trans (by kernel_rfl) (K _ rfl _ rfl _ rfl _ rfl _ rfl _ rfl _ rfl _ rfl _ rfl _ rfl _ rfl _ rfl _ rfl _ rfl _ rfl _ rfl _ rfl _ rfl _ rfl _ rfl _ rfl _ rfl _ rfl _ rfl _ rfl _ rfl _ rfl _ rfl _ rfl _ rfl _ rfl _ rfl _ rfl _ rfl _ rfl _ rfl)
theorem eg.di:CK 49 eg.env eg.d:=eI (by kernel_rfl)
def dn.env:EV:=[(46,(cO.c,cO.sg)),(71,(dt.c,dt.sg))]
def dn.E:eo:=cK tryzGl dn.env
def dn.m:TM:=oS [oW (.b false) 2] (oS [oV 0 3,oC 71 1 1 [3] 4,oV 4 5,oG 5 true (oV 0 6),oG 5 true (oC 46 1 1 [6] 7),oG 5 true (oK (.k (.un .not)) [7] [8]),oP 5 8 false 9,oV 9 2] .ret)
def dn.d:gD:=D0 1 dn.m [.t 2]
def dn.F (s:bS):OT:=dn.d.run dn.E [(.s s)]
theorem dn.dV (s:bS) {ρ:OT} (K:∀(v1:Bool) (h1:v1=(cond (dK.whole s) (!(dK.zero s)) false)),ck (decide (s.length≤1099511627776)) (ck (!(dK.whole s) || ((dK.whole s)&&(decide (s.length≤1099511627776)))) (ck (!(dK.whole s) || (dK.whole s)) (ck (!(dK.whole s) || (dK.whole s)) (some [(.b v1)]))))=ρ):dn.F s=ρ:=Eq.trans (by kernel_rfl) (K _ rfl)
theorem dn.di:CK 50 dn.env dn.d:=eI (by kernel_rfl)
def cX.env:EV:=[]
def cX.E:eo:=cK tryzGl cX.env
def cX.m:TM:=oS [oW (.sl .is ([]:List Int)) 4] (oS [oK (.blt .is 0 101) [(lk 101)] [5,lk 101],oV 0 6,oK (.k (.ap 101 102 1 8)) [5,6,(lk 101),(lk 102)] [7,lk 101,lk 102],oV 1 8,oK (.bl .is 1) [8] [9],oK (.k (.ap 102 104 1 8)) [7,9,(lk 102),(lk 104)] [10,lk 102,lk 104],oV 10 4] .ret)
def cX.d:gD:=D0 2 cX.m [.t 4]
def cX.F (p:List Int) (k:Int):OT:=cX.d.run cX.E [(.sl .is p),(.i .i64 k)]
theorem cX.dV (p:List Int) (k:Int) {ρ:OT} (K:∀(v1:List Int) (h1:v1=((([]:List Int)++p)++([k]:List Int))),ck (fS ((([]:List Int)).length+(p).length) 8) (ck (fS (((([]:List Int)++p)).length+(([k]:List Int)).length) 8) (some [(.sl .is v1)]))=ρ):cX.F p k=ρ:=Eq.trans (by kernel_rfl) (K _ rfl)
theorem cX.di:CK 51 cX.env cX.d:=eI (by kernel_rfl)
def bN.env (n:Nat):EV:=[(33,(bN.cn n,bN.sg)),(49,(eg.c,eg.sg)),(50,(dn.c,dn.sg)),(51,(cX.c,cX.sg))]
def bN.E (n:Nat):eo:=cK tryzGl (bN.env n)
def bN.m1:TM := .seq (oS [oV 9 25,oA 1055 0 8 3 26,oL 1055 8 1 26 27,oK (.k .len) [27] [28],oB .lss 25 28 29] (.cond (.s 29) [] .skip (.exit 0))) none (.seq (.block 1 [(3,.ptr 1055 0),(1055,.cl [])] (oS [oA 1055 0 8 3 33,oL 1055 8 1 33 34,oV 9 35,oK (.k (.ix 10)) [34,35] [36],oK (.k (.fr 1 9 true)) [36] [37],oK (.k (.lr 9 true)) [37] [38],oA 1055 0 8 3 39,oL 1055 8 1 39 40,oV 9 41,oK (.k (.ix 10)) [40,41] [42],oK (.k (.fr 0 1 false)) [42] [43],oK (.k (.lr 1 false)) [43] [44],oV 2 45,oV 9 46,oC 51 2 1 [45,46] 47,oC 33 3 2 [38,44,47] 48,oV 48 32,oE 0 32 49,oE 1 32 50,oV 49 10,oV 50 11] (oS [oV 11 51,oI .neq 51 (.i .i64 0) 52] (.cond (.s 52) [] (oS [oV 10 53,oV 11 54,oV 53 6,oV 54 7] .ret) .skip)))) none (.fK [oV 9 30,oI .add 30 (.i .i64 1) 31,oV 31 9]))
def bN.m2:TM := .seq (oS [oV 8 21,oI .neq 21 (.i .i64 0) 22] (.cond (.s 22) [] (oS [oV 2 23,oV 8 24,oV 23 6,oV 24 7] .ret) .skip)) none (.seq (oS [oW (.i .i64 0) 9] (.block 0 [] (.loop [2,3,9,1055] [(3,.ptr 1055 0),(1055,.cl [])] bN.m1))) none (oS [oW (.sl .is ([]:List Int)) 6,oW (.i .i64 0) 7] .ret))
def bN.m:TM:=oS [oK (.k (.bx 1055)) [0,1055] [3,1055],oW (.sl .is ([]:List Int)) 6,oW (.i .i64 0) 7] (oS [oM 1055 0 9 3 12,oC 49 1 1 [12] 13,oV 13 8] (.seq (oS [oV 8 14,oI .eql 14 (.i .i64 0) 15,oV 15 16,oG 16 true (oV 1 17),oG 16 true (oC 50 1 1 [17] 18),oG 16 true (oK (.k (.un .not)) [18] [19]),oP 16 19 false 20] (.cond (.s 20) [(3,.ptr 1055 0),(1055,.cl [])] (.fK [oW (.i .i64 4) 8]) .skip)) (some [2,3,8,1055]) bN.m2))
def bN.d:gD:=D0 3 bN.m [.t 6,.t 7]
def bN.F (n:Nat) (v:bE) (name:bS) (p:List Int):OT:=bN.d.run (bN.E n) [(.ag (bE.cells v)),(.s name),(.sl .is p)]
def bN.k1 (n:Nat):fT (List TV):=iw (ev _ (bN.E n) (oS [oW (.sl .is ([]:List Int)) 6,oW (.i .i64 0) 7] .ret)) none (gJ bN.d)
def bN.j1 (n:Nat) (x0:List Int) (x1:Int) (x2:bE):OT:=gY _ (bN.E n) bN.m2 (dT [2,3,8,1055] [(.sl .is x0),.pt,(.i .i64 x1),(.ag (bE.cells x2))]) (gJ bN.d)
def bN.l2 (n:Nat) (x0:List Int) (x1:Int) (x2:bE):OT:=gx (gY _ (bN.E n) bN.m1) oz [2,3,9,1055] (dT [2,3,9,1055] [(.sl .is x0),.pt,(.i .i64 x1),(.ag (bE.cells x2))]) (er 0 (bN.k1 n))
theorem bN.lv (n:Nat) (x0:List Int) (x1:Int) (x2:bE):bN.j1 n x0 x1 x2=cond (!decide (x1=(0:Int)))
  (some [(.sl .is x0),(.i .i64 x1)])
  (bN.l2 n x0 (0:Int) x2):=((congrFun (congrFun (gQ _ _) _) _).trans (by kernel_rfl))
theorem bN.lH (n:Nat) (x0:List Int) (x1:Int) (x2:bE) {ρ:OT} (K:∀(v1:Int) (h1:v1=(((bE.kids x2)).length:Int)) (v2:bG) (h2:v2=(List.getD (bE.kids x2) (x1).toNat (eJ.fc .fl))) (v3:List Int) (h3:v3=((Tree.ga (bG.of ((bG.name v2)) (bG.val v2)) (((x0++[x1])))).1)) (v4:Int) (h4:v4=((Tree.ga (bG.of ((bG.name v2)) (bG.val v2)) (((x0++[x1])))).2)) (v5:Int) (h5:v5=(IntKind.i64.wrap (x1+(1:Int)))),cond (decide (x1<v1))
  (ck (eK x1 ((bE.kids x2)).length) (ck (eK x1 ((bE.kids x2)).length) (ck (decide (x0.length≤1099511627776)) (ck ((decide (bG.cA (bG.of ((bG.name v2)) (bG.val v2))+(((x0++[x1]))).length≤1099511627776))&&decide ((bG.cA (bG.of ((bG.name v2)) (bG.val v2)))<n)) (cond (!decide (v4=(0:Int)))
  (some [(.sl .is v3),(.i .i64 v4)])
  (bN.l2 n x0 v5 x2))))))
  (some [(.sl .is ([]:List Int)),(.i .i64 0)])=ρ):bN.l2 n x0 x1 x2=ρ:=((fD _ _ _ _ _ _).trans (by kernel_rfl)).trans (K _ rfl _ rfl _ rfl _ rfl _ rfl)
theorem bN.dV (n:Nat) (v:bE) (name:bS) (p:List Int) {ρ:OT} (K:∀(v1:Bool) (h1:v1=(cond (decide ((Tree.own v)=(0:Int))) (!(Tree.eP name true)) false)),ck (decide (bG.cA (bG.of [] v)≤1099511627776)) (ck (!(decide ((Tree.own v)=(0:Int))) || ((decide ((Tree.own v)=(0:Int)))&&(decide (name.length≤1099511627776)))) (ck (!(decide ((Tree.own v)=(0:Int))) || (decide ((Tree.own v)=(0:Int)))) (ck (!(decide ((Tree.own v)=(0:Int))) || (decide ((Tree.own v)=(0:Int)))) (cond v1
  (bN.j1 n p (4:Int) v)
  (bN.j1 n p (Tree.own v) v)))))=ρ):bN.F n v name p=ρ:=Eq.trans (by kernel_rfl) (K _ rfl)
theorem bN.di (n:Nat):CK 33 (bN.env n) bN.d:=eI (by kernel_rfl)
def dp.env:EV:=[(33,(bN.c,bN.sg))]
def dp.E:eo:=cK tryzGl dp.env
def dp.m:TM:=oS [oK (.k (.bx 1008)) [0,1008] [1,1008],oW (.sl .is ([]:List Int)) 2,oW (.i .i64 0) 3] (oS [oM 1008 0 9 1 4,oX (.k (.call 33 (.plain 3 2))) [.s 4,.c (.s []),.c (.sl .is ([]:List Int))] [5],oE 0 5 6,oE 1 5 7,oV 6 2,oV 7 3] .ret)
def dp.d:gD:=D0 1 dp.m [.t 2,.t 3]
def dp.F (v:bE):OT:=dp.d.run dp.E [(.ag (bE.cells v))]
theorem dp.dV (v:bE) {ρ:OT} (K:∀(v1:List Int) (h1:v1=((Tree.ga (bG.of (([]:bS)) v) (([]:List Int))).1)) (v2:Int) (h2:v2=((Tree.ga (bG.of (([]:bS)) v) (([]:List Int))).2)),ck (decide (bG.cA (bG.of (([]:bS)) v)+(([]:List Int)).length≤1099511627776)) (some [(.sl .is v1),(.i .i64 v2)])=ρ):dp.F v=ρ:=Eq.trans (by kernel_rfl) (K _ rfl _ rfl)
theorem dp.di:CK 18 dp.env dp.d:=eI (by kernel_rfl)
theorem kE.ok:KO 69 (kE.c) kE.sg:=Ej rfl Tryz.itoa
def cB.env:EV:=[]
def cB.E:eo:=cK tryzGl cB.env
def cB.m1:TM := .seq (oS [oV 0 4,oI .gtr 4 (.u64 9) 5] (.cond (.s 5) [] .skip (.exit 0))) none (.block 1 [] (oS [oV 0 6,oI .rem 6 (.u64 10) 7,oX (.k (.bin .add)) [.c (.u64 48),.s 7] [8],oK (.k (.ci .u8)) [8] [9],oK (.bl .bs 1) [9] [10],oK (.k .bs) [10] [11],oV 3 12,oB .add 11 12 13,oV 13 3] (.fK [oV 0 14,oI .quo 14 (.u64 10) 15,oV 15 0])))
def cB.m:TM:=oS [oW (.s []) 2] (oS [oW (.s []) 3] (.seq (.block 0 [] (.loop [0,3] [] cB.m1)) none (oS [oV 0 16,oX (.k (.bin .add)) [.c (.u64 48),.s 16] [17],oK (.k (.ci .u8)) [17] [18],oK (.bl .bs 1) [18] [19],oK (.k .bs) [19] [20],oV 3 21,oB .add 20 21 22,oV 22 2] .ret)))
def cB.d:gD:=D0 1 cB.m [.t 2]
def cB.F (v:UInt64):OT:=cB.d.run cB.E [(.u64 v)]
def cB.k1:fT (List TV):=iw (ev _ cB.E (oS [oV 0 16,oX (.k (.bin .add)) [.c (.u64 48),.s 16] [17],oK (.k (.ci .u8)) [17] [18],oK (.bl .bs 1) [18] [19],oK (.k .bs) [19] [20],oV 3 21,oB .add 20 21 22,oV 22 2] .ret)) none (gJ cB.d)
def cB.l1 (x0:UInt64) (x1:bS):OT:=gx (gY _ cB.E cB.m1) oz [0,3] (dT [0,3] [(.u64 x0),(.s x1)]) (er 0 cB.k1)
theorem cB.ew (x0:UInt64) (x1:bS) {ρ:OT} (K:∀(v1:UInt64) (h1:v1=((48:UInt64)+(x0 % (10:UInt64)))) (v2:UInt8) (h2:v2=(UInt8.ofInt ((v1).toNat:Int))) (v3:UInt8) (h3:v3=(UInt8.ofInt ((((48:UInt64)+x0)).toNat:Int))),cond (decide ((9:UInt64)<x0))
  (ck (!decide ((10:UInt64)=0)) (ck (decide ((([v2]:List UInt8)).length+(x1).length≤9223372036854775807)) (ck (!decide ((10:UInt64)=0)) (cB.l1 (x0 / (10:UInt64)) (([v2]:List UInt8)++x1)))))
  (ck (decide ((([v3]:List UInt8)).length+(x1).length≤9223372036854775807)) (some [(.s (([v3]:List UInt8)++x1))]))=ρ):cB.l1 x0 x1=ρ:=((fD _ _ _ _ _ _).trans (by kernel_rfl)).trans (K _ rfl _ rfl _ rfl)
theorem cB.fR (v:UInt64):cB.F v=cB.l1 v ([]:bS):=by kernel_rfl
theorem cB.di:CK 73 cB.env cB.d:=eI (by kernel_rfl)
def dG.env:EV:=[]
def dG.E:eo:=cK tryzGl dG.env
def dG.m:TM:=oS [oW (.b false) 2] (oS [oV 0 3,oI .eql 3 (.i .i64 3) 4,oV 4 5,oG 5 false (oV 0 6),oG 5 false (oI .eql 6 (.i .i64 4) 7),oX (.k .pick) [.s 5,.c (.b true),.s 7] [8],oV 8 9,oG 9 false (oV 0 10),oG 9 false (oI .eql 10 (.i .i64 15) 11),oX (.k .pick) [.s 9,.c (.b true),.s 11] [12],oV 12 2] .ret)
def dG.d:gD:=D0 1 dG.m [.t 2]
def dG.F (k:Int):OT:=dG.d.run dG.E [(.i .i64 k)]
theorem dG.dV (k:Int) {ρ:OT} (K:∀(v1:Bool) (h1:v1=(cond (decide (k=(3:Int))) true (decide (k=(4:Int))))) (v2:Bool) (h2:v2=(cond v1 true (decide (k=(15:Int))))),ck (!(!(decide (k=(3:Int)))) || (!(decide (k=(3:Int))))) (ck ((decide (k=(3:Int))) || (!(decide (k=(3:Int))))) (ck (!(!v1) || (!v1)) (ck (v1 || (!v1)) (some [(.b v2)]))))=ρ):dG.F k=ρ:=Eq.trans (by kernel_rfl) (K _ rfl _ rfl)
theorem dG.di:CK 32 dG.env dG.d:=eI (by kernel_rfl)
def bX.env (n:Nat):EV:=[(17,(bX.cn n,bX.sg)),(32,(dG.c,dG.sg))]
def bX.E (n:Nat):eo:=cK tryzGl (bX.env n)
def bX.m1:TM := .seq (oS [oV 4 9,oA 1027 0 8 1 10,oL 1027 8 1 10 11,oK (.k .len) [11] [12],oB .lss 9 12 13] (.cond (.s 13) [] .skip (.exit 0))) none (.seq (.block 1 [(1,.ptr 1027 0),(1027,.cl [])] (.fK [oV 3 16,oA 1027 0 8 1 17,oL 1027 8 1 17 18,oV 4 19,oK (.k (.ix 10)) [18,19] [20],oK (.k (.fr 1 9 true)) [20] [21],oK (.k (.lr 9 true)) [21] [22],oC 17 1 1 [22] 23,oK (.k .mx) [16,23] [24],oV 24 3])) none (.fK [oV 4 14,oI .add 14 (.i .i64 1) 15,oV 15 4]))
def bX.m:TM:=oS [oK (.k (.bx 1027)) [0,1027] [1,1027],oW (.i .i64 0) 2] (.seq (oS [oA 1027 0 0 1 5,oL 1027 0 1 5 6,oC 32 1 1 [6] 7,oK (.k (.un .not)) [7] [8]] (.cond (.s 8) [] (oS [oW (.i .i64 0) 2] .ret) .skip)) none (oS [oW (.i .i64 0) 3] (.seq (oS [oW (.i .i64 0) 4] (.block 0 [] (.loop [1,3,4,1027] [(1,.ptr 1027 0),(1027,.cl [])] bX.m1))) none (oS [oV 3 25,oI .add 25 (.i .i64 1) 26,oV 26 2] .ret))))
def bX.d:gD:=D0 1 bX.m [.t 2]
def bX.F (n:Nat) (v:bE):OT:=bX.d.run (bX.E n) [(.ag (bE.cells v))]
def bX.k1 (n:Nat):fT (List TV):=iw (ev _ (bX.E n) (oS [oV 3 25,oI .add 25 (.i .i64 1) 26,oV 26 2] .ret)) none (gJ bX.d)
def bX.l1 (n:Nat) (x0:Int) (x1:Int) (x2:bE):OT:=gx (gY _ (bX.E n) bX.m1) oz [1,3,4,1027] (dT [1,3,4,1027] [.pt,(.i .i64 x0),(.i .i64 x1),(.ag (bE.cells x2))]) (er 0 (bX.k1 n))
theorem bX.ew (n:Nat) (x0:Int) (x1:Int) (x2:bE) {ρ:OT} (K:∀(v1:Int) (h1:v1=(((bE.kids x2)).length:Int)) (v2:bG) (h2:v2=(List.getD (bE.kids x2) (x1).toNat (eJ.fc .fl))) (v3:Int) (h3:v3=((Tree.depth (bG.of [] (bG.val v2)):Int))) (v4:Int) (h4:v4=(IntKind.i64.wrap (x1+(1:Int)))) (v5:Int) (h5:v5=(IntKind.i64.wrap (x0+(1:Int)))),cond (decide (x1<v1))
  (ck (eK x1 ((bE.kids x2)).length) (ck ((decide (bG.cA (bG.of [] (bG.val v2))≤1099511627776))&&decide ((bG.cA (bG.of [] (bG.val v2)))<n)) (bX.l1 n (nJ x0 v3) v4 x2)))
  (some [(.i .i64 v5)])=ρ):bX.l1 n x0 x1 x2=ρ:=((fD _ _ _ _ _ _).trans (by kernel_rfl)).trans (K _ rfl _ rfl _ rfl _ rfl _ rfl)
theorem bX.fR (n:Nat) (v:bE):bX.F n v=cond (!(decide (((bE.kind v))=3∨((bE.kind v))=4∨((bE.kind v))=15)))
  (some [(.i .i64 0)])
  (bX.l1 n (0:Int) (0:Int) v):=by kernel_rfl
theorem bX.di (n:Nat):CK 17 (bX.env n) bX.d:=eI (by kernel_rfl)
def bW.env:EV:=[(69,(kE.c,kE.sg))]
def bW.E:eo:=cK tryzGl bW.env
def bW.m1:TM:=oS [oB .lss 7 6 8] (.seq (.cond (.s 8) [] .skip (.exit 0)) none (.seq (.block 1 [] (oS [oV 7 9,oK (.k (.ix 10)) [5,7] [10],oK (.k (.lr 10 true)) [10] [11],oN 1018 zD 4,oV 9 3,oT 1018 0 10 4 11] (oS [oA 1018 0 0 4 12,oL 1018 0 1 12 13,oV 3 14,oC 69 1 1 [14] 15,oB .neq 13 15 16] (.cond (.s 16) [] (oS [oW (.b false) 2] .ret) .skip)))) none (.fK [oI .add 7 (.i .i64 1) 17,oV 17 7])))
def bW.m:TM:=oS [oW (.b false) 2] (.seq (oS [oV 0 5,oK (.k .len) [5] [6],oW (.i .i64 0) 7] (.block 0 [] (.loop [5,6,7] [] bW.m1))) none (oS [oW (.b true) 2] .ret))
def bW.d:gD:=D0 1 bW.m [.t 2]
def bW.F (l:List bG):OT:=bW.d.run bW.E [(.sl .fl l)]
def bW.k1:fT (List TV):=iw (ev _ bW.E (oS [oW (.b true) 2] .ret)) none (gJ bW.d)
def bW.l1 (x0:List bG) (x1:Int) (x2:Int):OT:=gx (gY _ bW.E bW.m1) oz [5,6,7] (dT [5,6,7] [(.sl .fl x0),(.i .i64 x1),(.i .i64 x2)]) (er 0 bW.k1)
theorem bW.ew (x0:List bG) (x1:Int) (x2:Int) {ρ:OT} (K:∀(v1:bG) (h1:v1=(List.getD x0 (x2).toNat (eJ.fc .fl))) (v2:Int) (h2:v2=(IntKind.i64.wrap (x2+(1:Int)))),cond (decide (x2<x1))
  (ck (eK x2 (x0).length) (ck (decide (-9223372036854775808≤x2∧x2≤9223372036854775807)) (cond (!decide ((bG.name v1)=(Lib.itoa x2)))
  (some [(.b false)])
  (bW.l1 x0 x1 v2))))
  (some [(.b true)])=ρ):bW.l1 x0 x1 x2=ρ:=((fD _ _ _ _ _ _).trans (by kernel_rfl)).trans (K _ rfl _ rfl)
theorem bW.fR (l:List bG):bW.F l=bW.l1 l ((l).length:Int) (0:Int):=by kernel_rfl
theorem bW.di:CK 55 bW.env bW.d:=eI (by kernel_rfl)
def bU.env:EV:=[(73,(cB.c,cB.sg))]
def bU.E:eo:=cK tryzGl bU.env
def bU.m1:TM := .seq (oS [oV 3 4,oV 0 5,oK (.k .len) [5] [6],oB .lss 4 6 7] (.cond (.s 7) [] .skip (.exit 0))) none (.seq (.block 1 [] (oS [oV 0 10,oV 3 11,oK (.k (.ix 10)) [10,11] [12],oK (.k (.fr 0 1 false)) [12] [13],oK (.k (.lr 1 false)) [13] [14],oV 3 15,oK (.k (.ci .u64)) [15] [16],oC 73 1 1 [16] 17,oB .neq 14 17 18] (.cond (.s 18) [] (oS [oW (.b false) 2] .ret) .skip))) none (.fK [oV 3 8,oI .add 8 (.i .i64 1) 9,oV 9 3]))
def bU.m:TM:=oS [oW (.b false) 2] (.seq (oS [oW (.i .i64 0) 3] (.block 0 [] (.loop [0,3] [] bU.m1))) none (oS [oW (.b true) 2] .ret))
def bU.d:gD:=D0 1 bU.m [.t 2]
def bU.F (l:List bG):OT:=bU.d.run bU.E [(.sl .fl l)]
def bU.k1:fT (List TV):=iw (ev _ bU.E (oS [oW (.b true) 2] .ret)) none (gJ bU.d)
def bU.l1 (x0:List bG) (x1:Int):OT:=gx (gY _ bU.E bU.m1) oz [0,3] (dT [0,3] [(.sl .fl x0),(.i .i64 x1)]) (er 0 bU.k1)
theorem bU.ew (x0:List bG) (x1:Int) {ρ:OT} (K:∀(v1:bG) (h1:v1=(List.getD x0 (x1).toNat (eJ.fc .fl))) (v2:bS) (h2:v2=(ky (((UInt64.ofInt x1))).toNat)) (v3:Int) (h3:v3=(IntKind.i64.wrap (x1+(1:Int)))),cond (decide (x1<((x0).length:Int)))
  (ck (eK x1 (x0).length) (cond (!decide ((bG.name v1)=v2))
  (some [(.b false)])
  (bU.l1 x0 v3)))
  (some [(.b true)])=ρ):bU.l1 x0 x1=ρ:=((fD _ _ _ _ _ _).trans (by kernel_rfl)).trans (K _ rfl _ rfl _ rfl)
theorem bU.fR (l:List bG):bU.F l=bU.l1 l (0:Int):=by kernel_rfl
theorem bU.di:CK 61 bU.env bU.d:=eI (by kernel_rfl)
def cR.env:EV:=[]
def cR.E:eo:=cK tryzGl cR.env
def cR.m:TM:=oS [oN 1013 zI 2] (.seq (oS [oV 0 3,oI .lss 3 (.i .i64 0) 4] (.cond (.s 4) [] (oS [oV 0 5,oI .add 5 (.i .i64 1) 6,oK (.k (.un .neg)) [6] [7],oK (.k (.ci .u64)) [7] [8],oX (.bd zI [(0,1),(1,1)]) [.c (.i .i64 2),.s 8] [9],oT 1013 0 5 2 9] .ret) .skip)) none (oS [oV 0 10,oK (.k (.ci .u64)) [10] [11],oX (.bd zI [(0,1),(1,1)]) [.c (.i .i64 1),.s 11] [12],oT 1013 0 5 2 12] .ret))
def cR.d:gD:=D0 1 cR.m [.c 2 1013 5 true]
def cR.F (n:Int):OT:=cR.d.run cR.E [(.i .i64 n)]
theorem cR.dV (n:Int) {ρ:OT} (K:∀(v1:Int) (h1:v1=(IntKind.i64.wrap (n+(1:Int)))) (v2:UInt64) (h2:v2=(UInt64.ofInt (IntKind.i64.wrap (0 - v1)))),cond (decide (n<(0:Int)))
  (some [(.ag [(.i .i64 2),(.u64 v2),(.sl .bs ([]:List UInt8)),(.s []),(.sl .il ([]:List bD))])])
  (some [(.ag [(.i .i64 1),(.u64 (UInt64.ofInt n)),(.sl .bs ([]:List UInt8)),(.s []),(.sl .il ([]:List bD))])])=ρ):cR.F n=ρ:=Eq.trans (by kernel_rfl) (K _ rfl _ rfl)
theorem cR.di:CK 65 cR.env cR.d:=eI (by kernel_rfl)
def fW.env:EV:=[(104,(fX.c,fX.sg))]
def fW.E:eo:=cK tryzGl fW.env
def fW.m:TM:=oS [oW (.s []) 4,oW (.s []) 5,oW (.b false) 6] (oS [oV 0 7,oV 1 8,oC 104 2 3 [7,8] 9,oE 0 9 10,oE 1 9 11,oE 2 9 12,oV 10 4,oV 11 5,oV 12 6] .ret)
def fW.d:gD:=D0 2 fW.m [.t 4,.t 5,.t 6]
def fW.F (s:bS) (t:bS):OT:=fW.d.run fW.E [(.s s),(.s t)]
theorem fW.dV (s:bS) (t:bS) {ρ:OT} (K:∀(v1:bS) (h1:v1=((Dk.cut s (t.getD 0 0)).2.1)) (v2:Bool) (h2:v2=((Dk.cut s (t.getD 0 0)).2.2)),ck (decide (t.length=1∧s.length≤1099511627776)) (some [(.s ((Dk.cut s (t.getD 0 0)).1)),(.s v1),(.b v2)])=ρ):fW.F s t=ρ:=Eq.trans (by kernel_rfl) (K _ rfl _ rfl)
theorem fW.di:CK 87 fW.env fW.d:=eI (by kernel_rfl)
def fX.env:EV:=[(82,(dW.c,dW.sg))]
def fX.E:eo:=cK tryzGl fX.env
def fX.m:TM:=oS [oW (.s []) 4,oW (.s []) 5,oW (.b false) 6] (.seq (oS [oV 0 8,oV 1 9,oC 82 2 1 [8,9] 10,oV 10 7] (oS [oV 7 11,oI .geq 11 (.i .i64 0) 12] (.cond (.s 12) [] (oS [oV 0 13,oV 7 14,oK (.k (.ss false true)) [13,14] [15],oV 0 16,oV 7 17,oV 1 18,oK (.k .uO) [18] [19],oB .add 17 19 20,oK (.k (.ss true false)) [16,20] [21],oV 15 4,oV 21 5,oW (.b true) 6] .ret) .skip))) none (oS [oV 0 22,oV 22 4,oW (.s []) 5,oW (.b false) 6] .ret))
def fX.d:gD:=D0 2 fX.m [.t 4,.t 5,.t 6]
def fX.F (s:bS) (t:bS):OT:=fX.d.run fX.E [(.s s),(.s t)]
theorem fX.dV (s:bS) (t:bS) {ρ:OT} (K:∀(v1:Int) (h1:v1=(Lib.indexByte s (t.getD 0 0))) (v2:Int) (h2:v2=(IntKind.i64.wrap (v1+((t).length:Int)))),ck (decide (t.length=1)) (cond (decide ((0:Int)≤v1))
  (ck (ja 0 v1 (s).length) (ck (ja v2 (s).length (s).length) (some [(.s (List.take (v1).toNat s)),(.s (List.drop (v2).toNat s)),(.b true)])))
  (some [(.s s),(.s []),(.b false)]))=ρ):fX.F s t=ρ:=Eq.trans (by kernel_rfl) (K _ rfl _ rfl)
theorem fX.di:CK 104 fX.env fX.d:=eI (by kernel_rfl)
def eN.env:EV:=[]
def eN.E:eo:=cK tryzGl eN.env
def eN.m:TM:=oS [oN 1005 zI 2] (oS [oV 0 3,oX (.bd zI [(0,1),(3,1)]) [.c (.i .i64 4),.s 3] [4],oT 1005 0 5 2 4] .ret)
def eN.d:gD:=D0 1 eN.m [.c 2 1005 5 true]
def eN.F (s:bS):OT:=eN.d.run eN.E [(.s s)]
theorem eN.fR (s:bS):eN.F s=some [(.ag [(.i .i64 4),(.u64 0),(.sl .bs ([]:List UInt8)),(.s s),(.sl .il ([]:List bD))])]:=by kernel_rfl
theorem eN.di:CK 36 eN.env eN.d:=eI (by kernel_rfl)
def ej.env:EV:=[]
def ej.E:eo:=cK tryzGl ej.env
def ej.m:TM:=oS [oN 1005 zI 2] (oS [oV 0 3,oX (.bd zI [(0,1),(1,1)]) [.c (.i .i64 8),.s 3] [4],oT 1005 0 5 2 4] .ret)
def ej.d:gD:=D0 1 ej.m [.c 2 1005 5 true]
def ej.F (n:UInt64):OT:=ej.d.run ej.E [(.u64 n)]
theorem ej.fR (n:UInt64):ej.F n=some [(.ag [(.i .i64 8),(.u64 n),(.sl .bs ([]:List UInt8)),(.s []),(.sl .il ([]:List bD))])]:=by kernel_rfl
theorem ej.di:CK 57 ej.env ej.d:=eI (by kernel_rfl)
def dO.env:EV:=[]
def dO.E:eo:=cK tryzGl dO.env
def dO.m1:TM := .seq (oS [oV 6 9,oI .geq 9 (.i .i64 0) 10] (.cond (.s 10) [] .skip (.exit 0))) none (.seq (.block 1 [(5,.gb 103 1),(lk 103,.live 1)] (.fK [oV 5 13,oV 0 14,oV 6 15,oX (.k (.bin .mul)) [.c (.i .i64 8),.s 15] [16],oB .shr 14 16 17,oK (.k (.ci .u8)) [17] [18],oK (.bl .bs 1) [18] [19],oK (.k (.ap 101 103 1 1)) [13,19,(lk 101),(lk 103)] [20,lk 101,lk 103],oV 20 5])) none (.fK [oV 6 11,oI .sub 11 (.i .i64 1) 12,oV 12 6]))
def dO.m:TM:=oS [oW (.sl .bs ([]:List UInt8)) 4] (oS [oK (.nl .bs 101) [(lk 101)] [5,lk 101]] (.seq (oS [oV 1 7,oI .sub 7 (.i .i64 1) 8,oV 8 6] (.block 0 [(5,.gb 101 1),(lk 101,.live 1)] (.loop [0,5,6] [(5,.gb 101 1),(lk 101,.live 1)] dO.m1))) none (oS [oV 5 21,oV 21 4] .ret)))
def dO.d:gD:={ np:=2,m:=dO.m,ref:=none,fA:=[],res:=[.t 4],own:=[(0,1)],new:=none,fx:=[] }
def dO.F (v:UInt64) (n:Int):OT:=dO.d.run dO.E [(.u64 v),(.i .i64 n)]
def dO.k1:fT (List TV):=iw (ev _ dO.E (oS [oV 5 21,oV 21 4] .ret)) none (gJ dO.d)
def dO.l1 (x0:UInt64) (x1:List UInt8) (x2:Int):OT:=gx (gY _ dO.E dO.m1) oz [0,5,6] (dT [0,5,6] [(.u64 x0),(.sl .bs x1),(.i .i64 x2)]) (er 0 dO.k1)
theorem dO.ew (x0:UInt64) (x1:List UInt8) (x2:Int) {ρ:OT} (K:∀(v1:Int) (h1:v1=(IntKind.i64.wrap ((8:Int) * x2))) (v2:UInt8) (h2:v2=(UInt8.ofInt (((me x0 ((v1).toNat))).toNat:Int))) (v3:Int) (h3:v3=(IntKind.i64.wrap (x2 - (1:Int)))),cond (decide ((0:Int)≤x2))
  (ck (decide (0≤v1)) (ck (fS ((x1).length+(([v2]:List UInt8)).length) 1) (dO.l1 x0 (x1++([v2]:List UInt8)) v3)))
  (some [(.sl .bs x1)])=ρ):dO.l1 x0 x1 x2=ρ:=((fD _ _ _ _ _ _).trans (by kernel_rfl)).trans (K _ rfl _ rfl _ rfl)
theorem dO.dV (v:UInt64) (n:Int) {ρ:OT} (K:∀(v1:Int) (h1:v1=(IntKind.i64.wrap (n - (1:Int)))),dO.l1 v ([]:List UInt8) v1=ρ):dO.F v n=ρ:=Eq.trans (by kernel_rfl) (K _ rfl)
theorem dO.di:CK 78 dO.env dO.d:=eI (by kernel_rfl)
def dH.env:EV:=[]
def dH.E:eo:=cK tryzGl dH.env
def dH.m:TM:=oS [oN 1012 zI 2] (.seq (oS [oV 0 3,oI .lss 3 (.i .i64 0) 4] (.cond (.s 4) [] (oS [oV 0 5,oK (.k (.ci .u64)) [5] [6],oK (.k (.un .xor)) [6] [7],oX (.bd zI [(0,1),(1,1)]) [.c (.i .i64 2),.s 7] [8],oT 1012 0 5 2 8] .ret) .skip)) none (oS [oV 0 9,oK (.k (.ci .u64)) [9] [10],oX (.bd zI [(0,1),(1,1)]) [.c (.i .i64 1),.s 10] [11],oT 1012 0 5 2 11] .ret))
def dH.d:gD:=D0 1 dH.m [.c 2 1012 5 true]
def dH.F (v:Int):OT:=dH.d.run dH.E [(.i .i64 v)]
theorem dH.fR (v:Int):dH.F v=cond (decide (v<(0:Int)))
  (some [(.ag [(.i .i64 2),(.u64 (~~~(UInt64.ofInt v))),(.sl .bs ([]:List UInt8)),(.s []),(.sl .il ([]:List bD))])])
  (some [(.ag [(.i .i64 1),(.u64 (UInt64.ofInt v)),(.sl .bs ([]:List UInt8)),(.s []),(.sl .il ([]:List bD))])]):=by kernel_rfl
theorem dH.di:CK 58 dH.env dH.d:=eI (by kernel_rfl)
def cD.env (n:Nat):EV:=[(36,(eN.c,eN.sg)),(37,(cU.cn n,cU.sg))]
def cD.E (n:Nat):eo:=cK tryzGl (cD.env n)
def cD.m1:TM:=oS [oB .lss 9 8 10] (.seq (.cond (.s 10) [] .skip (.exit 0)) none (.seq (.block 1 [(2,.ptr 1026 0),(3,.ptr 1027 0),(1026,.cl []),(1027,.cl [(4,109,5)]),(lk 109,.live 5)] (oS [oK (.k (.ix 10)) [7,9] [11],oK (.k (.lr 10 true)) [11] [12],oN 1028 zD 5,oT 1028 0 10 5 12] (.fK [oA 1027 0 4 3 13,oL 1027 4 1 13 14,oA 1028 0 0 5 15,oL 1028 0 1 15 16,oC 36 1 1 [16] 17,oA 1028 0 1 5 18,oM 1028 1 9 18 19,oC 37 1 1 [19] 20,oK (.bl .il 2) [17,20] [21],oK (.k (.ap 105 109 5 80)) [14,21,(lk 105),(lk 109)] [22,lk 105,lk 109],oA 1027 0 4 3 23,oT 1027 4 1 23 22]))) none (.fK [oI .add 9 (.i .i64 1) 24,oV 24 9])))
def cD.m:TM:=oS [oN 1026 zI 2] (oS [oX (.bd [(.i .i64 0),(.u64 0),(.c (.slice none 0 0)),(.s []),(.c (.slice none 0 0))] [(0,1)]) [.c (.i .i64 6)] [6],oN 1027 zI 3,oK (.pF 1027 0 5 [(4,105,.il)]) [3,1027,6,(lk 105)] [1027,lk 105]] (.seq (oS [oV 0 7,oK (.k .len) [7] [8],oW (.i .i64 0) 9] (.block 0 [(2,.ptr 1026 0),(3,.ptr 1027 0),(1026,.cl []),(1027,.cl [(4,105,5)]),(lk 105,.live 5)] (.loop [2,3,7,8,9,1026,1027] [(2,.ptr 1026 0),(3,.ptr 1027 0),(1026,.cl []),(1027,.cl [(4,105,5)]),(lk 105,.live 5)] cD.m1))) none (oS [oM 1027 0 5 3 25,oK (.pF 1026 0 5 [(2,110,.bs)]) [2,1026,25,(lk 110)] [1026,lk 110]] .ret)))
def cD.d:gD:=D0 1 cD.m [.c 2 1026 5 true]
def cD.F (n:Nat) (l:List bG):OT:=cD.d.run (cD.E n) [(.sl .fl l)]
def cD.k1 (n:Nat):fT (List TV):=iw (ev _ (cD.E n) (oS [oM 1027 0 5 3 25,oK (.pF 1026 0 5 [(2,110,.bs)]) [2,1026,25,(lk 110)] [1026,lk 110]] .ret)) none (gJ cD.d)
def cD.l1 (n:Nat) (x0:List bG) (x1:Int) (x2:Int) (x3:bM) (x4:Int) (x5:UInt64) (x6:bS) (x7:List bD):OT:=gx (gY _ (cD.E n) cD.m1) oz [2,3,7,8,9,1026,1027] (dT [2,3,7,8,9,1026,1027] [.pt,.pt,(.sl .fl x0),(.i .i64 x1),(.i .i64 x2),(.ag (bM.cells x3)),(.ag [(.i .i64 x4),(.u64 x5),(.c (.slice none 0 0)),(.s x6),(.sl .il x7)])]) (er 0 (cD.k1 n))
theorem cD.ew (n:Nat) (x0:List bG) (x1:Int) (x2:Int) (x3:bM) (x4:Int) (x5:UInt64) (x6:bS) (x7:List bD) {ρ:OT} (K:∀(v1:bG) (h1:v1=(List.getD x0 (x2).toNat (eJ.fc .fl))) (v2:List bD) (h2:v2=([(bD.of (bD.val (Db.text ((bG.name v1))))),(bD.of (bD.val (Dk.item (bG.of [] (bG.val v1)))))]:List bD)) (v3:Int) (h3:v3=(IntKind.i64.wrap (x2+(1:Int)))),cond (decide (x2<x1))
  (ck (eK x2 (x0).length) (ck ((decide (bG.cA (bG.of [] (bG.val v1))≤1048576)&&Tree.jF (bG.of [] (bG.val v1)))&&decide ((4 * bG.cA (bG.of [] (bG.val v1))+2)<n)) (ck (fS ((x7).length+(v2).length) 80) (cD.l1 n x0 x1 v3 x3 x4 x5 x6 (x7++v2)))))
  (some [(.ag [(.i .i64 x4),(.u64 x5),(.sl .bs ([]:List UInt8)),(.s x6),(.sl .il x7)])])=ρ):cD.l1 n x0 x1 x2 x3 x4 x5 x6 x7=ρ:=((fD _ _ _ _ _ _).trans (by kernel_rfl)).trans (K _ rfl _ rfl _ rfl)
theorem cD.fR (n:Nat) (l:List bG):cD.F n l=cD.l1 n l ((l).length:Int) (0:Int) (bM.mk 0 0 [] [] []) (6:Int) (0:UInt64) ([]:bS) ([]:List bD):=by kernel_rfl
theorem cD.di (n:Nat):CK 22 (cD.env n) cD.d:=eI (by kernel_rfl)
def fw.env (n:Nat):EV:=[(22,(cD.cn n,cD.sg)),(93,(eh.c,eh.sg))]
def fw.E (n:Nat):eo:=cK tryzGl (fw.env n)
def fw.m:TM:=oS [oW (.sl .bs ([]:List UInt8)) 2] (oS [oV 0 6,oC 22 1 1 [6] 7,oC 93 1 2 [7] 8,oV 8 5,oE 0 5 9,oE 1 5 10,oV 9 3,oV 10 4] (oS [oV 3 11,oV 11 2] .ret))
def fw.d:gD:=D0 1 fw.m [.t 2]
def fw.F (n:Nat) (l:List bG):OT:=fw.d.run (fw.E n) [(.sl .fl l)]
theorem fw.dV (n:Nat) (l:List bG) {ρ:OT} (K:∀(v1:List UInt8) (h1:v1=(Mp.enc (bD.of (bD.val (Db.map (Dk.mapped l)))))) (v2:Int) (h2:v2=(Mp.di (bD.of (bD.val (Db.map (Dk.mapped l)))))),ck ((decide (bG.cE l≤1048576)&&Tree.gg l)&&decide ((4 * bG.cE l+3)<n)) (ck (decide (bD.cA (bD.of (bD.val (Db.map (Dk.mapped l))))≤1073741824)) (some [(.sl .bs v1)]))=ρ):fw.F n l=ρ:=Eq.trans (by kernel_rfl) (K _ rfl _ rfl)
theorem fw.di (n:Nat):CK 77 (fw.env n) fw.d:=eI (by kernel_rfl)
def cU.env (n:Nat):EV:=[(22,(cD.cn n,cD.sg)),(36,(eN.c,eN.sg)),(37,(cU.cn n,cU.sg)),(55,(bW.c,bW.sg)),(56,(fG.c,fG.sg)),(57,(ej.c,ej.sg)),(58,(dH.c,dH.sg)),(59,(fo.c,fo.sg)),(60,(cL.cn n,cL.sg))]
def cU.E (n:Nat):eo:=cK tryzGl (cU.env n)
def cU.m1:TM:=oS [oB .lss 32 31 33] (.seq (.cond (.s 33) [] .skip (.exit 1)) none (.seq (.block 2 [(2,.ptr 1078 0),(3,.ptr 1079 0),(1078,.cl []),(1079,.cl [(4,111,5)]),(lk 111,.live 5)] (oS [oK (.k (.ix 10)) [30,32] [34],oK (.k (.lr 10 true)) [34] [35],oN 1080 zD 5,oT 1080 0 10 5 35] (.fK [oA 1079 0 4 3 36,oL 1079 4 1 36 37,oA 1080 0 1 5 38,oM 1080 1 9 38 39,oC 37 1 1 [39] 40,oK (.bl .il 1) [40] [41],oK (.k (.ap 107 111 5 80)) [37,41,(lk 107),(lk 111)] [42,lk 107,lk 111],oA 1079 0 4 3 43,oT 1079 4 1 43 42]))) none (.fK [oI .add 32 (.i .i64 1) 44,oV 44 32])))
def cU.m2:TM:=oS [oA 1077 0 0 1 71,oL 1077 0 1 71 72,oC 59 1 1 [72] 73,oM 1077 0 9 1 74,oC 60 1 1 [74] 75,oX (.bd zI [(0,1),(1,1),(2,1)]) [.c (.i .i64 10),.s 73,.s 75] [76],oT 1078 0 5 2 76] .ret
def cU.m:TM:=oS [oK (.k (.bx 1077)) [0,1077] [1,1077],oN 1078 zI 2] (.seq (oS [oA 1077 0 0 1 6,oL 1077 0 1 6 7] (.block 0 [(1,.ptr 1077 0),(2,.ptr 1078 0),(1077,.cl []),(1078,.cl [])] (oS [oI .eql 7 (.i .i64 1) 9,oV 9 8] (.cond (.s 8) [] (oS [oA 1077 0 1 1 10,oL 1077 1 1 10 11,oX (.bd zI [(0,1),(1,1)]) [.c (.i .i64 9),.s 11] [12],oT 1078 0 5 2 12] .ret) (oS [oI .eql 7 (.i .i64 2) 14,oV 14 13] (.cond (.s 13) [] (oS [oA 1077 0 4 1 15,oL 1077 4 1 15 16,oC 36 1 1 [16] 17,oT 1078 0 5 2 17] .ret) (oS [oI .eql 7 (.i .i64 3) 19,oV 19 18] (.cond (.s 18) [] (oS [oA 1077 0 8 1 20,oL 1077 8 1 20 21,oC 22 1 1 [21] 22,oT 1078 0 5 2 22] .ret) (oS [oI .eql 7 (.i .i64 4) 24,oV 24 23] (.cond (.s 23) [(1,.ptr 1077 0),(2,.ptr 1078 0),(1077,.cl []),(1078,.cl [])] (oS [oA 1077 0 8 1 25,oL 1077 8 1 25 26,oC 55 1 1 [26] 27] (.cond (.s 27) [] (oS [oX (.bd [(.i .i64 0),(.u64 0),(.c (.slice none 0 0)),(.s []),(.c (.slice none 0 0))] [(0,1)]) [.c (.i .i64 5)] [28],oN 1079 zI 3,oK (.pF 1079 0 5 [(4,107,.il)]) [3,1079,28,(lk 107)] [1079,lk 107]] (.seq (oS [oA 1077 0 8 1 29,oL 1077 8 1 29 30,oK (.k .len) [30] [31],oW (.i .i64 0) 32] (.block 1 [(2,.ptr 1078 0),(3,.ptr 1079 0),(1078,.cl []),(1079,.cl [(4,107,5)]),(lk 107,.live 5)] (.loop [2,3,30,31,32,1078,1079] [(2,.ptr 1078 0),(3,.ptr 1079 0),(1078,.cl []),(1079,.cl [(4,107,5)]),(lk 107,.live 5)] cU.m1))) none (oS [oM 1079 0 5 3 45,oK (.pF 1078 0 5 [(2,112,.bs)]) [2,1078,45,(lk 112)] [1078,lk 112]] .ret))) .skip)) (oS [oI .eql 7 (.i .i64 5) 47,oV 47 46] (.cond (.s 46) [(1,.ptr 1077 0),(2,.ptr 1078 0),(1077,.cl []),(1078,.cl [])] (oS [oA 1077 0 6 1 48,oL 1077 6 1 48 49,oI .eql 49 (.i .i64 0) 50] (.cond (.s 50) [] (oS [oA 1077 0 7 1 51,oL 1077 7 1 51 52,oK (.k (.call 56 ⟨1,none,[],[],1,[(0,113,1)],none,[]⟩)) [52,(lk 113)] [53,lk 113],oX (.bd zI [(0,1),(2,1)]) [.c (.i .i64 3),.s 53] [54],oT 1078 0 5 2 54] .ret) .skip)) (oS [oI .eql 7 (.i .i64 10) 56,oV 56 55] (.cond (.s 55) [] (oS [oX (.k (.call 57 (.plain 1 1))) [.c (.u64 22)] [57],oT 1078 0 5 2 57] .ret) (oS [oI .eql 7 (.i .i64 8) 59,oV 59 58] (.cond (.s 58) [] (oS [oA 1077 0 1 1 60,oL 1077 1 1 60 61,oX (.k (.bin .add)) [.c (.u64 20),.s 61] [62],oC 57 1 1 [62] 63,oT 1078 0 5 2 63] .ret) (oS [oI .eql 7 (.i .i64 16) 65,oV 65 64] (.cond (.s 64) [] (oS [oA 1077 0 1 1 66,oL 1077 1 1 66 67,oK (.k (.ci .i32)) [67] [68],oK (.k (.ci .i64)) [68] [69],oC 58 1 1 [69] 70,oT 1078 0 5 2 70] .ret) .skip)))))))))))))))))) (some [1,2,1077,1078]) cU.m2)
def cU.d:gD:=D0 1 cU.m [.c 2 1078 5 true]
def cU.F (n:Nat) (v:bE):OT:=cU.d.run (cU.E n) [(.ag (bE.cells v))]
def cU.k1 (n:Nat):fT (List TV):=iw (gY _ (cU.E n) cU.m2) (some [1,2,1077,1078]) (gJ cU.d)
def cU.k2 (n:Nat):fT (List TV):=iw (ev _ (cU.E n) (oS [oM 1079 0 5 3 45,oK (.pF 1078 0 5 [(2,112,.bs)]) [2,1078,45,(lk 112)] [1078,lk 112]] .ret)) none (er 0 (cU.k1 n))
def cU.l1 (n:Nat) (x0:List bG) (x1:Int) (x2:Int) (x3:bM) (x4:Int) (x5:UInt64) (x6:bS) (x7:List bD):OT:=gx (gY _ (cU.E n) cU.m1) oz [2,3,30,31,32,1078,1079] (dT [2,3,30,31,32,1078,1079] [.pt,.pt,(.sl .fl x0),(.i .i64 x1),(.i .i64 x2),(.ag (bM.cells x3)),(.ag [(.i .i64 x4),(.u64 x5),(.c (.slice none 0 0)),(.s x6),(.sl .il x7)])]) (er 1 (cU.k2 n))
def cU.j2 (n:Nat) (x0:bE) (x1:bM):OT:=gY _ (cU.E n) cU.m2 (dT [1,2,1077,1078] [.pt,.pt,(.ag (bE.cells x0)),(.ag (bM.cells x1))]) (gJ cU.d)
theorem cU.ew (n:Nat) (x0:List bG) (x1:Int) (x2:Int) (x3:bM) (x4:Int) (x5:UInt64) (x6:bS) (x7:List bD) {ρ:OT} (K:∀(v1:bG) (h1:v1=(List.getD x0 (x2).toNat (eJ.fc .fl))) (v2:List bD) (h2:v2=([(bD.of (bD.val (Dk.item (bG.of [] (bG.val v1)))))]:List bD)) (v3:Int) (h3:v3=(IntKind.i64.wrap (x2+(1:Int)))),cond (decide (x2<x1))
  (ck (eK x2 (x0).length) (ck ((decide (bG.cA (bG.of [] (bG.val v1))≤1048576)&&Tree.jF (bG.of [] (bG.val v1)))&&decide ((4 * bG.cA (bG.of [] (bG.val v1))+2)<n)) (ck (fS ((x7).length+(v2).length) 80) (cU.l1 n x0 x1 v3 x3 x4 x5 x6 (x7++v2)))))
  (some [(.ag [(.i .i64 x4),(.u64 x5),(.sl .bs ([]:List UInt8)),(.s x6),(.sl .il x7)])])=ρ):cU.l1 n x0 x1 x2 x3 x4 x5 x6 x7=ρ:=((fD _ _ _ _ _ _).trans (by kernel_rfl)).trans (K _ rfl _ rfl _ rfl)
theorem cU.ng (n:Nat) (x0:bE) (x1:bM) {ρ:OT} (K:∀(v1:List UInt8) (h1:v1=(Dk.inner x0 (Mp.lay (Db.map (Dk.mapped (x0).kids))))),ck ((decide (bG.cA (bG.of [] x0)≤1048576)&&Tree.jF (bG.of [] x0))&&decide ((4 * bG.cA (bG.of [] x0)+1)<n)) (some [(.ag [(.i .i64 10),(.u64 (Dk.sort ((bE.kind x0)))),(.sl .bs v1),(.s []),(.sl .il ([]:List bD))])])=ρ):cU.j2 n x0 x1=ρ:=((congrFun (congrFun (gQ _ _) _) _).trans (by kernel_rfl)).trans (K _ rfl)
theorem cU.dV (n:Nat) (v:bE) {ρ:OT} (K:∀(v1:Bool) (h1:v1=(Tree.regular ((bE.kids v)))) (v2:Int) (h2:v2=(((bE.kids v)).length:Int)) (v3:UInt64) (h3:v3=((20:UInt64)+(bE.bits v))) (v4:Int) (h4:v4=(IntKind.i32.wrap (((bE.bits v)).toNat:Int))),cond (decide ((bE.kind v)=(1:Int)))
  (some [(.ag [(.i .i64 9),(.u64 (bE.bits v)),(.sl .bs ([]:List UInt8)),(.s []),(.sl .il ([]:List bD))])])
  (cond (decide ((bE.kind v)=(2:Int)))
  (some [(.ag (bM.cells (bD.val (Db.text ((bE.text v))))))])
  (cond (decide ((bE.kind v)=(3:Int)))
  (ck ((decide (bG.cE ((bE.kids v))≤1048576)&&Tree.gg ((bE.kids v)))&&decide ((4 * bG.cE ((bE.kids v))+3)<n)) (some [(.ag (bM.cells (bD.val (Db.map (Dk.mapped ((bE.kids v)))))))]))
  (cond (decide ((bE.kind v)=(4:Int)))
  (ck (decide (((bE.kids v)).length≤1099511627776)) (cond v1
  (cU.l1 n (bE.kids v) v2 (0:Int) (bM.mk 0 0 [] [] []) (5:Int) (0:UInt64) ([]:bS) ([]:List bD))
  (cU.j2 n v (bM.mk 0 0 [] [] []))))
  (cond (decide ((bE.kind v)=(5:Int)))
  (cond (decide ((bE.sub v)=(0:Int)))
  (ck (fS (((bE.bytes v))).length 1) (some [(.ag [(.i .i64 3),(.u64 0),(.sl .bs (((bE.bytes v)))),(.s []),(.sl .il ([]:List bD))])]))
  (cU.j2 n v (bM.mk 0 0 [] [] [])))
  (cond (decide ((bE.kind v)=(10:Int)))
  (some [(.ag (bM.cells (bD.val (Db.simple ((22:UInt64))))))])
  (cond (decide ((bE.kind v)=(8:Int)))
  (some [(.ag (bM.cells (bD.val (Db.simple v3))))])
  (cond (decide ((bE.kind v)=(16:Int)))
  (ck (decide (-9223372036854775808≤((IntKind.i64.wrap v4))∧((IntKind.i64.wrap v4))≤9223372036854775807)) (some [(.ag (bM.cells (bD.val (Db.integer ((IntKind.i64.wrap v4))))))]))
  (cU.j2 n v (bM.mk 0 0 [] [] [])))))))))=ρ):cU.F n v=ρ:=Eq.trans (by kernel_rfl) (K _ rfl _ rfl _ rfl _ rfl)
theorem cU.di (n:Nat):CK 37 (cU.env n) cU.d:=eI (by kernel_rfl)
def fo.env:EV:=[]
def fo.E:eo:=cK tryzGl fo.env
def fo.m:TM:=oS [oW (.u64 0) 2] (.seq (oS [oV 0 3,oI .eql 3 (.i .i64 255) 4] (.cond (.s 4) [] (oS [oW (.u64 126) 2] .ret) .skip)) none (oS [oV 0 5,oK (.k (.ci .u64)) [5] [6],oV 6 2] .ret))
def fo.d:gD:=D0 1 fo.m [.t 2]
def fo.F (k:Int):OT:=fo.d.run fo.E [(.i .i64 k)]
theorem fo.fR (k:Int):fo.F k=cond (decide (k=(255:Int)))
  (some [(.u64 126)])
  (some [(.u64 (UInt64.ofInt k))]):=by kernel_rfl
theorem fo.di:CK 59 fo.env fo.d:=eI (by kernel_rfl)
def cL.env (n:Nat):EV:=[(56,(fG.c,fG.sg)),(77,(fw.cn n,fw.sg)),(78,(dO.c,dO.sg))]
def cL.E (n:Nat):eo:=cK tryzGl (cL.env n)
def cL.m1:TM := .cond (.s 48) [] (oS [oA 1077 0 4 1 51,oL 1077 4 1 51 52,oK (.k .sb) [52] [53],oV 53 2] .ret) (oS [oI .eql 4 (.i .i64 15) 55,oV 55 54] (.cond (.s 54) [] (oS [oA 1077 0 4 1 56,oL 1077 4 1 56 57,oK (.k .uO) [57] [58],oK (.k (.ci .u64)) [58] [59],oX (.k (.call 78 ⟨2,none,[],[],1,[(0,109,1)],none,[]⟩)) [.s 59,.c (.i .i64 4),.s (lk 109)] [60,lk 109],oA 1077 0 4 1 61,oL 1077 4 1 61 62,oK (.k (.zp 109 110 1)) [60,62,(lk 109),(lk 110)] [63,lk 109,lk 110],oA 1077 0 8 1 64,oL 1077 8 1 64 65,oC 77 1 1 [65] 66,oK (.k (.ap 110 111 1 1)) [63,66,(lk 110),(lk 111)] [67,lk 110,lk 111],oV 67 2] .ret) (oS [oI .eql 4 (.i .i64 19) 69,oV 69 68] (.cond (.s 68) [] (oS [oA 1077 0 2 1 70,oL 1077 2 1 70 71,oX (.k (.call 78 ⟨2,none,[],[],1,[(0,112,1)],none,[]⟩)) [.s 71,.c (.i .i64 8),.s (lk 112)] [72,lk 112],oA 1077 0 3 1 73,oL 1077 3 1 73 74,oX (.k (.call 78 ⟨2,none,[],[],1,[(0,113,1)],none,[]⟩)) [.s 74,.c (.i .i64 8),.s (lk 113)] [75,lk 113],oK (.k (.ap 112 114 1 1)) [72,75,(lk 112),(lk 114)] [76,lk 112,lk 114],oV 76 2] .ret) .skip))))
def cL.m2:TM := .cond (.s 24) [] (oS [oA 1077 0 1 1 28,oL 1077 1 1 28 29,oX (.k (.call 78 ⟨2,none,[],[],1,[(0,104,1)],none,[]⟩)) [.s 29,.c (.i .i64 8),.s (lk 104)] [30,lk 104],oV 30 2] .ret) (oS [oI .eql 4 (.i .i64 11) 32,oV 32 31] (.cond (.s 31) [] (oS [oA 1077 0 4 1 33,oL 1077 4 1 33 34,oI .add 34 (.s ([0]:bS)) 35,oA 1077 0 5 1 36,oL 1077 5 1 36 37,oB .add 35 37 38,oK (.k .sb) [38] [39],oV 39 2] .ret) (oS [oI .eql 4 (.i .i64 12) 41,oV 41 40] (.cond (.s 40) [] (oS [oA 1077 0 7 1 42,oL 1077 7 1 42 43,oK (.k (.call 56 ⟨1,none,[],[],1,[(0,106,1)],none,[]⟩)) [43,(lk 106)] [44,lk 106],oA 1077 0 4 1 45,oL 1077 4 1 45 46,oK (.k (.zp 106 107 1)) [44,46,(lk 106),(lk 107)] [47,lk 106,lk 107],oV 47 2] .ret) (.seq (oS [oI .eql 4 (.i .i64 13) 49,oV 49 48] (.cond (.s 48) [(1,.ptr 1077 0),(1077,.cl [])] .skip (.fK [oI .eql 4 (.i .i64 14) 50,oV 50 48]))) (some [1,4,48,1077]) cL.m1)))))
def cL.m:TM:=oS [oK (.k (.bx 1077)) [0,1077] [1,1077],oW (.sl .bs ([]:List UInt8)) 2] (.seq (oS [oA 1077 0 0 1 3,oL 1077 0 1 3 4] (.block 0 [] (oS [oI .eql 4 (.i .i64 4) 6,oV 6 5] (.cond (.s 5) [] (oS [oA 1077 0 8 1 7,oL 1077 8 1 7 8,oC 77 1 1 [8] 9,oV 9 2] .ret) (oS [oI .eql 4 (.i .i64 5) 11,oV 11 10] (.cond (.s 10) [] (oS [oA 1077 0 6 1 12,oL 1077 6 1 12 13,oK (.k (.ci .u8)) [13] [14],oK (.blt .bs 1 101) [14,(lk 101)] [15,lk 101],oA 1077 0 7 1 16,oL 1077 7 1 16 17,oK (.k (.ap 101 102 1 1)) [15,17,(lk 101),(lk 102)] [18,lk 101,lk 102],oV 18 2] .ret) (oS [oI .eql 4 (.i .i64 7) 20,oV 20 19] (.cond (.s 19) [] (oS [oA 1077 0 7 1 21,oL 1077 7 1 21 22,oK (.k (.call 56 ⟨1,none,[],[],1,[(0,103,1)],none,[]⟩)) [22,(lk 103)] [23,lk 103],oV 23 2] .ret) (.seq (oS [oI .eql 4 (.i .i64 9) 25,oV 25 24] (.cond (.s 24) [(1,.ptr 1077 0),(1077,.cl [])] .skip (oS [oI .eql 4 (.i .i64 17) 26,oV 26 24] (.cond (.s 24) [(1,.ptr 1077 0),(1077,.cl [])] .skip (.fK [oI .eql 4 (.i .i64 18) 27,oV 27 24]))))) (some [1,4,24,1077]) cL.m2))))))))) none (oS [oW (.sl .bs ([]:List UInt8)) 2] .ret))
def cL.d:gD:=D0 1 cL.m [.t 2]
def cL.F (n:Nat) (v:bE):OT:=cL.d.run (cL.E n) [(.ag (bE.cells v))]
def cL.k1 (n:Nat):fT (List TV):=iw (ev _ (cL.E n) (oS [oW (.sl .bs ([]:List UInt8)) 2] .ret)) none (gJ cL.d)
def cL.j1 (n:Nat) (x0:Int) (x1:Bool) (x2:bE):OT:=gY _ (cL.E n) cL.m2 (dT [1,4,24,1077] [.pt,(.i .i64 x0),(.b x1),(.ag (bE.cells x2))]) (er 0 (cL.k1 n))
def cL.j2 (n:Nat) (x0:Int) (x1:Bool) (x2:bE):OT:=gY _ (cL.E n) cL.m1 (dT [1,4,48,1077] [.pt,(.i .i64 x0),(.b x1),(.ag (bE.cells x2))]) (er 0 (cL.k1 n))
theorem cL.pL (n:Nat) (x0:Int) (x1:Bool) (x2:bE) {ρ:OT} (K:∀(v1:List UInt8) (h1:v1=(cM.eb ((bE.bits x2)) (((8:Int))).toNat)) (v2:bS) (h2:v2=((bE.text x2)++([0]:bS))) (v3:List UInt8) (h3:v3=((((bE.bytes x2)))++(bE.text x2))),cond x1
  (ck (decide (0≤((8:Int))∧((8:Int))≤8)) (some [(.sl .bs v1)]))
  (cond (decide (x0=(11:Int)))
  (ck (decide (((bE.text x2)).length+(([0]:bS)).length≤9223372036854775807)) (ck (decide ((v2).length+((bE.more x2)).length≤9223372036854775807)) (ck (kJ ((v2++(bE.more x2))).length) (some [(.sl .bs (v2++(bE.more x2)))]))))
  (cond (decide (x0=(12:Int)))
  (ck (fS (((bE.bytes x2))).length 1) (ck (fS (((((bE.bytes x2)))).length+((bE.text x2)).length) 1) (some [(.sl .bs v3)])))
  (cond (decide (x0=(13:Int)))
  (cL.j2 n x0 (decide (x0=(13:Int))) x2)
  (cL.j2 n x0 (decide (x0=(14:Int))) x2))))=ρ):cL.j1 n x0 x1 x2=ρ:=((congrFun (congrFun (gQ _ _) _) _).trans (by kernel_rfl)).trans (K _ rfl _ rfl _ rfl)
theorem cL.ng (n:Nat) (x0:Int) (x1:Bool) (x2:bE) {ρ:OT} (K:∀(v1:Int) (h1:v1=(((bE.text x2)).length:Int)) (v2:List UInt8) (h2:v2=(cM.eb ((UInt64.ofInt v1)) (((4:Int))).toNat)) (v3:List UInt8) (h3:v3=(Mp.lay (Db.map (Dk.mapped ((bE.kids x2)))))) (v4:List UInt8) (h4:v4=((v2++(bE.text x2))++v3)) (v5:List UInt8) (h5:v5=(cM.eb ((bE.high x2)) (((8:Int))).toNat)) (v6:List UInt8) (h6:v6=(cM.eb ((bE.low x2)) (((8:Int))).toNat)),cond x1
  (ck (kJ ((bE.text x2)).length) (some [(.sl .bs (bE.text x2))]))
  (cond (decide (x0=(15:Int)))
  (ck (decide (0≤((4:Int))∧((4:Int))≤8)) (ck (fS ((v2).length+((bE.text x2)).length) 1) (ck ((decide (bG.cE ((bE.kids x2))≤1048576)&&Tree.gg ((bE.kids x2)))&&decide ((4 * bG.cE ((bE.kids x2))+4)<n)) (ck (fS (((v2++(bE.text x2))).length+(v3).length) 1) (some [(.sl .bs v4)])))))
  (cond (decide (x0=(19:Int)))
  (ck (decide (0≤((8:Int))∧((8:Int))≤8)) (ck (decide (0≤((8:Int))∧((8:Int))≤8)) (ck (fS ((v5).length+(v6).length) 1) (some [(.sl .bs (v5++v6))]))))
  (some [(.sl .bs ([]:List UInt8))])))=ρ):cL.j2 n x0 x1 x2=ρ:=((congrFun (congrFun (gQ _ _) _) _).trans (by kernel_rfl)).trans (K _ rfl _ rfl _ rfl _ rfl _ rfl _ rfl)
theorem cL.dV (n:Nat) (v:bE) {ρ:OT} (K:∀(v1:List UInt8) (h1:v1=(Mp.lay (Db.map (Dk.mapped ((bE.kids v)))))) (v2:List UInt8) (h2:v2=([(UInt8.ofInt (bE.sub v))]:List UInt8)),cond (decide ((bE.kind v)=(4:Int)))
  (ck ((decide (bG.cE ((bE.kids v))≤1048576)&&Tree.gg ((bE.kids v)))&&decide ((4 * bG.cE ((bE.kids v))+4)<n)) (some [(.sl .bs v1)]))
  (cond (decide ((bE.kind v)=(5:Int)))
  (ck (fS ((v2).length+((bE.bytes v)).length) 1) (some [(.sl .bs (v2++(bE.bytes v)))]))
  (cond (decide ((bE.kind v)=(7:Int)))
  (ck (fS (((bE.bytes v))).length 1) (some [(.sl .bs (((bE.bytes v))))]))
  (cond (decide ((bE.kind v)=(9:Int)))
  (cL.j1 n (bE.kind v) (decide ((bE.kind v)=(9:Int))) v)
  (cond (decide ((bE.kind v)=(17:Int)))
  (cL.j1 n (bE.kind v) (decide ((bE.kind v)=(17:Int))) v)
  (cL.j1 n (bE.kind v) (decide ((bE.kind v)=(18:Int))) v)))))=ρ):cL.F n v=ρ:=Eq.trans (by kernel_rfl) (K _ rfl _ rfl)
theorem cL.di (n:Nat):CK 60 (cL.env n) cL.d:=eI (by kernel_rfl)
def fp.env:EV:=[(20,(dB.c,dB.sg)),(21,(cm.c,cm.sg)),(22,(cD.c,cD.sg))]
def fp.E:eo:=cK tryzGl fp.env
def fp.m:TM:=oS [oK (.k (.bx 1031)) [0,1031] [1,1031],oN 1032 zI 2,oN 1033 zT 3] (.seq (oS [oM 1031 0 9 1 7,oC 20 1 2 [7] 8,oV 8 6,oE 0 6 9,oE 1 6 10,oV 9 4,oV 10 5] (oS [oV 5 11,oI .neq 11 (.i .i64 0) 12] (.cond (.s 12) [] (oS [oK (.bd zI []) [] [13],oV 5 14,oV 4 15,oK (.bd zT [(0,1),(2,1)]) [14,15] [16],oT 1032 0 5 2 13,oT 1033 0 3 3 16] .ret) .skip))) none (.seq (oS [oA 1031 0 0 1 17,oL 1031 0 1 17 18,oI .neq 18 (.i .i64 3) 19] (.cond (.s 19) [] (oS [oK (.bd zI []) [] [20],oX (.bd zT [(0,1)]) [.c (.i .i64 5)] [21],oT 1032 0 5 2 20,oT 1033 0 3 3 21] .ret) .skip)) none (.seq (oS [oM 1031 0 9 1 22,oC 21 1 1 [22] 23,oI .gtr 23 (.i .i64 200) 24] (.cond (.s 24) [] (oS [oK (.bd zI []) [] [25],oX (.bd zT [(0,1)]) [.c (.i .i64 8)] [26],oT 1032 0 5 2 25,oT 1033 0 3 3 26] .ret) .skip)) none (oS [oA 1031 0 8 1 27,oL 1031 8 1 27 28,oC 22 1 1 [28] 29,oK (.bd zT []) [] [30],oT 1032 0 5 2 29,oT 1033 0 3 3 30] .ret))))
def fp.d:gD:=D0 1 fp.m [.c 2 1032 5 true,.c 3 1033 3 true]
def fp.F (v:bE):OT:=fp.d.run fp.E [(.ag (bE.cells v))]
theorem fp.dV (v:bE) {ρ:OT} (K:∀(v1:List Int) (h1:v1=((Tree.ga (bG.of [] v) []).1)) (v2:Int) (h2:v2=((Tree.ga (bG.of [] v) []).2)) (v3:Int) (h3:v3=((Tree.depth (bG.of [] v):Int))),ck (decide (bG.cA (bG.of [] v)≤1099511627776)) (cond (!decide (v2=(0:Int)))
  (some [(.ag [(.i .i64 0),(.u64 0),(.sl .bs ([]:List UInt8)),(.s []),(.sl .il ([]:List bD))]),(.ag [(.i .i64 v2),(.i .i64 0),(.sl .is v1)])])
  (cond (!decide ((bE.kind v)=(3:Int)))
  (some [(.ag [(.i .i64 0),(.u64 0),(.sl .bs ([]:List UInt8)),(.s []),(.sl .il ([]:List bD))]),(.ag [(.i .i64 5),(.i .i64 0),(.sl .is ([]:List Int))])])
  (ck (decide (bG.cA (bG.of [] v)≤1099511627776)) (cond (decide ((200:Int)<v3))
  (some [(.ag [(.i .i64 0),(.u64 0),(.sl .bs ([]:List UInt8)),(.s []),(.sl .il ([]:List bD))]),(.ag [(.i .i64 8),(.i .i64 0),(.sl .is ([]:List Int))])])
  (ck (decide (bG.cE ((bE.kids v))≤1048576)&&Tree.gg ((bE.kids v))) (some [(.ag (bM.cells (bD.val (Db.map (Dk.mapped ((bE.kids v))))))),(.ag [(.i .i64 0),(.i .i64 0),(.sl .is ([]:List Int))])]))))))=ρ):fp.F v=ρ:=Eq.trans (by kernel_rfl) (K _ rfl _ rfl _ rfl)
theorem fp.di:CK 9 fp.env fp.d:=eI (by kernel_rfl)
def eH.env:EV:=[(42,(jx.c,jx.sg))]
def eH.E:eo:=cK tryzGl eH.env
def eH.m:TM:=oS [oN 1006 zT 2] (oS [oV 0 3,oK (.k (.jK 42 1 1 0 999999 1)) [3,(lk 999999)] [4],oX (.bd zT [(0,1),(2,1)]) [.c (.i .i64 12),.s 4] [5],oT 1006 0 3 2 5] .ret)
def eH.d:gD:={ np:=1,m:=eH.m,ref:=none,fA:=[],res:=[.c 2 1006 3 true],own:=[],new:=none,fx:=[],ps:=some (0,999999,1) }
def eH.F (path:List Int):OT:=eH.d.run eH.E [(.sl .is path)]
theorem eH.fR (path:List Int):eH.F path=ck (fS (path).length 8) (some [(.ag [(.i .i64 12),(.i .i64 0),(.sl .is (path))]),(.sl .is path)]):=by kernel_rfl
theorem eH.di:CK 27 eH.env eH.d:=eI (by kernel_rfl)
def dm.env (n:Nat):EV:=[(27,(eH.c,eH.sg)),(43,(cT.c,cT.sg)),(44,(cC.cn n,cC.sg))]
def dm.E (n:Nat):eo:=cK tryzGl (dm.env n)
def dm.m1:TM := .seq (oS [oV 10 13,oV 1 14,oK (.k .len) [14] [15],oB .lss 13 15 16] (.cond (.s 16) [] .skip (.exit 0))) none (.seq (.block 1 [(2,.gb 999999 1),(4,.ptr 1073 0),(8,.ptr 1074 0),(9,.ptr 1075 0),(1073,.cl [(8,114,10)]),(1074,.cl []),(1075,.cl []),(lk 114,.live 10),(lk 999999,.pv 1)] (.seq (oS [oV 1 19,oV 10 20,oK (.k (.ix 5)) [19,20] [21],oK (.k (.fr 0 1 false)) [21] [22],oK (.k (.lr 1 false)) [22] [23],oI .neq 23 (.i .i64 4) 24,oV 24 25,oG 25 false (oV 1 26),oG 25 false (oV 10 27),oG 25 false (oK (.k (.ix 5)) [26,27] [28]),oG 25 false (oK (.k (.fr 3 1 false)) [28] [29]),oG 25 false (oK (.k (.lr 1 false)) [29] [30]),oG 25 false (oX (.k (.call 43 (.plain 2 1))) [.s 30,.c (.s ([0]:bS))] [31]),oX (.k .pick) [.s 25,.c (.b true),.s 31] [32]] (.cond (.s 32) [] (oS [oK (.bd zV []) [] [33],oV 2 34,oV 10 35,oK (.bl .is 1) [35] [36],oK (.k (.AO 999999 105 1 8)) [34,36,(lk 999999),(lk 105)] [37,lk 999999,lk 105],oK (.k (.jK 27 1 1 0 105 1)) [37,(lk 105)] [38],oT 1074 0 9 8 33,oT 1075 0 3 9 38] .ret) .skip)) none (oS [oV 1 40,oV 10 41,oI .add 41 (.i .i64 1) 42,oK (.k (.ix 5)) [40,42] [43],oK (.k (.lr 5 true)) [43] [44],oV 2 45,oV 10 46,oI .add 46 (.i .i64 1) 47,oK (.bl .is 1) [47] [48],oK (.k (.AO 999999 108 1 8)) [45,48,(lk 999999),(lk 108)] [49,lk 999999,lk 108],oV 3 50,oK (.k (.jK 44 3 2 1 108 1)) [44,49,50,(lk 108)] [51],oV 51 39,oE 0 39 52,oE 1 39 53,oN 1076 zV 11,oN 1077 zT 12,oT 1076 0 9 11 52,oT 1077 0 3 12 53] (.seq (oS [oA 1077 0 0 12 54,oL 1077 0 1 54 55,oI .neq 55 (.i .i64 0) 56] (.cond (.s 56) [] (oS [oK (.bd zV []) [] [57],oM 1077 0 3 12 58,oT 1074 0 9 8 57,oT 1075 0 3 9 58] .ret) .skip)) none (.fK [oA 1073 0 8 4 59,oL 1073 8 1 59 60,oV 1 61,oV 10 62,oK (.k (.ix 5)) [61,62] [63],oK (.k (.fr 3 1 false)) [63] [64],oK (.k (.lr 1 false)) [64] [65],oM 1076 0 9 11 66,oK (.bd zD [(0,1),(1,9)]) [65,66] [67],oK (.bl .fl 1) [67] [68],oK (.k (.ap 100 114 10 136)) [60,68,(lk 100),(lk 114)] [69,lk 100,lk 114],oA 1073 0 8 4 70,oT 1073 8 1 70 69]))))) none (.fK [oV 10 17,oI .add 17 (.i .i64 2) 18,oV 18 10]))
def dm.m:TM:=oS [oK (.yn 1073 [(8,100,.fl)]) [0,1073,(lk 100)] [4,1073,lk 100],oN 1074 zV 8,oN 1075 zT 9] (.seq (oS [oW (.i .i64 0) 10] (.block 0 [(4,.ptr 1073 0),(8,.ptr 1074 0),(9,.ptr 1075 0),(1073,.cl [(8,100,10)]),(1074,.cl []),(1075,.cl []),(lk 100,.live 10),(lk 999999,.pv 1)] (.loop [1,2,3,4,8,9,10,1073,1074,1075,lk 999999] [(2,.gb 999999 1),(4,.ptr 1073 0),(8,.ptr 1074 0),(9,.ptr 1075 0),(1073,.cl [(8,100,10)]),(1074,.cl []),(1075,.cl []),(lk 100,.live 10),(lk 999999,.pv 1)] dm.m1))) none (oS [oM 1073 0 9 4 71,oK (.bd zT []) [] [72],oT 1074 0 9 8 71,oT 1075 0 3 9 72] .ret))
def dm.d:gD:={ np:=4,m:=dm.m,ref:=none,fA:=[],res:=[.c 8 1074 9 true,.c 9 1075 3 true],own:=[],new:=none,fx:=[],ps:=some (2,999999,1) }
def dm.F (n:Nat) (v:bE) (l:List bD) (path:List Int) (within:Int):OT:=dm.d.run (dm.E n) [(.ag [(.i .i64 (bE.kind v)),(.u64 (bE.bits v)),(.u64 (bE.high v)),(.u64 (bE.low v)),(.s (bE.text v)),(.s (bE.more v)),(.i .i64 (bE.sub v)),(.sl .bs (bE.bytes v)),(.c (.slice none 0 0))]),(.sl .il l),(.sl .is path),(.i .i64 within)]
def dm.k1 (n:Nat):fT (List TV):=iw (ev _ (dm.E n) (oS [oM 1073 0 9 4 71,oK (.bd [(.i .i64 0),(.i .i64 0),(.sl .is ([]:List Int))] []) [] [72],oT 1074 0 9 8 71,oT 1075 0 3 9 72] .ret)) none (gJ dm.d)
def dm.l1 (n:Nat) (x0:List bD) (x1:Int) (x2:Int) (x3:bE) (x4:bE) (x5:ez) (x6:List Int):OT:=gx (gY _ (dm.E n) dm.m1) oz [1,2,3,4,8,9,10,1073,1074,1075,lk 999999] (dT [1,2,3,4,8,9,10,1073,1074,1075,lk 999999] [(.sl .il x0),.pt,(.i .i64 x1),.pt,.pt,.pt,(.i .i64 x2),(.ag (bE.cells x3)),(.ag (bE.cells x4)),(.ag (ez.cells x5)),(.sl .is x6)]) (er 0 (dm.k1 n))
theorem dm.ew (n:Nat) (x0:List bD) (x1:Int) (x2:Int) (x3:bE) (x4:bE) (x5:ez) (x6:List Int) {ρ:OT} (K:∀(v1:Int) (h1:v1=(bD.kind (List.getD x0 (x2).toNat (eJ.fc .il)))) (v2:Bool) (h2:v2=(!(!decide (v1=(4:Int))))) (v3:bS) (h3:v3=(bD.text (List.getD x0 (x2).toNat (eJ.fc .il)))) (v4:Bool) (h4:v4=(cond (!decide (v1=(4:Int))) true (decide (0≤Lib.indexByte v3 ((([0]:bS)).getD 0 0))))) (v5:ez) (h5:v5=((ez.mk 12 0 ((x6++([x2]:List Int)))))) (v6:Int) (h6:v6=(IntKind.i64.wrap (x2+(1:Int)))) (v7:bE) (h7:v7=(Db.jd.val (Dk.value (200 - x1).toNat (bD.of (bD.val (List.getD x0 (v6).toNat (eJ.fc .il)))) ((x6++([v6]:List Int)))))) (v8:ez) (h8:v8=(Db.jd.yd (Dk.value (200 - x1).toNat (bD.of (bD.val (List.getD x0 (v6).toNat (eJ.fc .il)))) ((x6++([v6]:List Int)))))) (v9:List bG) (h9:v9=([(bG.mk v3 (bE.kind v7) (bE.bits v7) (bE.high v7) (bE.low v7) (bE.text v7) (bE.more v7) (bE.sub v7) (bE.bytes v7) (bE.kids v7))]:List bG)) (v10:Int) (lZ:v10=(IntKind.i64.wrap (x2+(2:Int)))),cond (decide (x2<((x0).length:Int)))
  (ck (eK x2 (x0).length) (ck (!v2 || ((v2&&v2)&&(eK x2 (x0).length))) (ck (!v2 || v2) (ck (!v2 || v2) (ck (!v2 || (v2&&(decide ((([0]:bS)).length=1)))) (ck ((!decide (v1=(4:Int))) || v2) (cond v4
  (ck (fS ((x6).length+(([x2]:List Int)).length) 8) (ck (decide ((((x6++([x2]:List Int)))).length≤1099511627776)) (some [(.ag [(.i .i64 0),(.u64 0),(.u64 0),(.u64 0),(.s []),(.s []),(.i .i64 0),(.sl .bs ([]:List UInt8)),(.sl .fl ([]:List bG))]),(.ag (ez.cells v5)),(.sl .is x6)])))
  (ck (eK v6 (x0).length) (ck (fS ((x6).length+(([v6]:List Int)).length) 8) (ck ((decide ((Mp.lay (bD.of (bD.val (List.getD x0 (v6).toNat (eJ.fc .il))))).length+(((x6++([v6]:List Int)))).length≤536870912)&&decide (Mp.di (bD.of (bD.val (List.getD x0 (v6).toNat (eJ.fc .il))))=0∧0≤x1∧x1≤200))&&decide ((4 * (Mp.lay (bD.of (bD.val (List.getD x0 (v6).toNat (eJ.fc .il))))).length)<n)) (cond (!decide ((ez.err v8)=(0:Int)))
  (some [(.ag [(.i .i64 0),(.u64 0),(.u64 0),(.u64 0),(.s []),(.s []),(.i .i64 0),(.sl .bs ([]:List UInt8)),(.sl .fl ([]:List bG))]),(.ag (ez.cells v8)),(.sl .is x6)])
  (ck (eK x2 (x0).length) (ck (fS (((bE.kids x3)).length+(v9).length) 136) (dm.l1 n x0 x1 v10 (bE.mk (bE.kind x3) (bE.bits x3) (bE.high x3) (bE.low x3) (bE.text x3) (bE.more x3) (bE.sub x3) (bE.bytes x3) ((bE.kids x3)++v9)) x4 x5 x6))))))))))))))
  (some [(.ag (bE.cells x3)),(.ag [(.i .i64 0),(.i .i64 0),(.sl .is ([]:List Int))]),(.sl .is x6)])=ρ):dm.l1 n x0 x1 x2 x3 x4 x5 x6=ρ:=((fD _ _ _ _ _ _).trans (by kernel_rfl)).trans (K _ rfl _ rfl _ rfl _ rfl _ rfl _ rfl _ rfl _ rfl _ rfl _ rfl)
theorem dm.fR (n:Nat) (v:bE) (l:List bD) (path:List Int) (within:Int):dm.F n v l path within=dm.l1 n l within (0:Int) (bE.mk (bE.kind v) (bE.bits v) (bE.high v) (bE.low v) (bE.text v) (bE.more v) (bE.sub v) (bE.bytes v) []) (bE.mk 0 0 0 0 [] [] 0 [] []) (ez.mk 0 0 []) path:=by kernel_rfl
theorem dm.di (n:Nat):CK 28 (dm.env n) dm.d:=eI (by kernel_rfl)
end
end Go.Eng
namespace Go.Eng
open Go.Proofs
noncomputable section
def cC.env (n:Nat):EV:=[(27,(eH.c,eH.sg)),(28,(dm.cn n,dm.sg)),(44,(cC.cn n,cC.sg)),(56,(fG.c,fG.sg)),(69,(kE.c,kE.sg)),(70,(bY.cn n,bY.sg))]
def cC.E (n:Nat):eo:=cK tryzGl (cC.env n)
def cC.m1:TM:=oS [oB .lss 84 83 85] (.seq (.cond (.s 85) [] .skip (.exit 1)) none (.seq (.block 2 [(1,.gb 999999 1),(6,.ptr 1131 0),(7,.ptr 1132 0),(8,.ptr 1133 0),(1131,.cl []),(1132,.cl []),(1133,.cl [(8,127,10)]),(lk 127,.live 10),(lk 999999,.pv 1)] (oS [oV 84 86,oK (.k (.ix 5)) [82,84] [87],oK (.k (.lr 5 true)) [87] [88],oN 1134 zI 10,oV 86 9,oT 1134 0 5 10 88] (oS [oM 1134 0 5 10 90,oV 1 91,oV 9 92,oK (.bl .is 1) [92] [93],oK (.k (.AO 999999 121 1 8)) [91,93,(lk 999999),(lk 121)] [94,lk 999999,lk 121],oV 2 95,oK (.k (.jK 44 3 2 1 121 1)) [90,94,95,(lk 121)] [96],oV 96 89,oE 0 89 97,oE 1 89 98,oN 1135 zV 11,oN 1136 zT 12,oT 1135 0 9 11 97,oT 1136 0 3 12 98] (.seq (oS [oA 1136 0 0 12 99,oL 1136 0 1 99 100,oI .neq 100 (.i .i64 0) 101] (.cond (.s 101) [] (oS [oK (.bd zV []) [] [102],oM 1136 0 3 12 103,oT 1131 0 9 6 102,oT 1132 0 3 7 103] .ret) .skip)) none (.fK [oA 1133 0 8 8 104,oL 1133 8 1 104 105,oV 9 106,oC 69 1 1 [106] 107,oM 1135 0 9 11 108,oK (.bd zD [(0,1),(1,9)]) [107,108] [109],oK (.bl .fl 1) [109] [110],oK (.k (.ap 117 127 10 136)) [105,110,(lk 117),(lk 127)] [111,lk 117,lk 127],oA 1133 0 8 8 112,oT 1133 8 1 112 111]))))) none (.fK [oI .add 84 (.i .i64 1) 113,oV 113 84])))
def cC.m2:TM:=oS [oK (.bd zV []) [] [127],oV 1 128,oK (.k (.jK 27 1 1 0 999999 1)) [128,(lk 999999)] [129],oT 1131 0 9 6 127,oT 1132 0 3 7 129] .ret
def cC.m:TM:=oS [oK (.k (.bx 1130)) [0,1130] [3,1130],oN 1131 zV 6,oN 1132 zT 7] (.seq (oS [oA 1130 0 0 3 15,oL 1130 0 1 15 16] (.block 0 [(1,.gb 999999 1),(6,.ptr 1131 0),(7,.ptr 1132 0),(1131,.cl []),(1132,.cl []),(lk 999999,.pv 1)] (oS [oI .eql 16 (.i .i64 9) 18,oV 18 17] (.cond (.s 17) [] (oS [oA 1130 0 1 3 19,oL 1130 1 1 19 20,oX (.bd zV [(0,1),(1,1)]) [.c (.i .i64 1),.s 20] [21],oK (.bd zT []) [] [22],oT 1131 0 9 6 21,oT 1132 0 3 7 22] .ret) (oS [oI .eql 16 (.i .i64 4) 24,oV 24 23] (.cond (.s 23) [] (oS [oA 1130 0 3 3 25,oL 1130 3 1 25 26,oX (.bd zV [(0,1),(4,1)]) [.c (.i .i64 2),.s 26] [27],oK (.bd zT []) [] [28],oT 1131 0 9 6 27,oT 1132 0 3 7 28] .ret) (oS [oI .eql 16 (.i .i64 3) 30,oV 30 29] (.cond (.s 29) [] (oS [oA 1130 0 2 3 31,oL 1130 2 1 31 32,oK (.k (.call 56 ⟨1,none,[],[],1,[(0,107,1)],none,[]⟩)) [32,(lk 107)] [33,lk 107],oX (.bd zV [(0,1),(7,1)]) [.c (.i .i64 5),.s 33] [34],oK (.bd zT []) [] [35],oT 1131 0 9 6 34,oT 1132 0 3 7 35] .ret) (oS [oI .eql 16 (.i .i64 8) 37,oV 37 36] (.cond (.s 36) [] (oS [oX (.bd zV [(0,1)]) [.c (.i .i64 8)] [38],oX (.bd zV [(0,1),(1,1)]) [.c (.i .i64 8),.c (.u64 1)] [39],oX (.bd zV [(0,1)]) [.c (.i .i64 10)] [40],oK (.bd [(.i .i64 0),(.u64 0),(.u64 0),(.u64 0),(.s []),(.s []),(.i .i64 0),(.sl .bs ([]:List UInt8)),(.sl .fl ([]:List bG)),(.i .i64 0),(.u64 0),(.u64 0),(.u64 0),(.s []),(.s []),(.i .i64 0),(.sl .bs ([]:List UInt8)),(.sl .fl ([]:List bG)),(.i .i64 0),(.u64 0),(.u64 0),(.u64 0),(.s []),(.s []),(.i .i64 0),(.sl .bs ([]:List UInt8)),(.sl .fl ([]:List bG))] [(0,9),(9,9),(18,9)]) [38,39,40] [41],oA 1130 0 1 3 42,oL 1130 1 1 42 43,oI .sub 43 (.u64 20) 44,oK (.k (.ai 3 9 true)) [41,44] [45],oK (.bd zT []) [] [46],oT 1131 0 9 6 45,oT 1132 0 3 7 46] .ret) (oS [oI .eql 16 (.i .i64 1) 48,oV 48 47] (.cond (.s 47) [(1,.gb 999999 1),(6,.ptr 1131 0),(7,.ptr 1132 0),(1131,.cl []),(1132,.cl []),(lk 999999,.pv 1)] (oS [oA 1130 0 1 3 49,oL 1130 1 1 49 50,oI .lss 50 (.u64 2147483648) 51] (.cond (.s 51) [] (oS [oA 1130 0 1 3 52,oL 1130 1 1 52 53,oX (.bd zV [(0,1),(1,1)]) [.c (.i .i64 16),.s 53] [54],oK (.bd zT []) [] [55],oT 1131 0 9 6 54,oT 1132 0 3 7 55] .ret) .skip)) (oS [oI .eql 16 (.i .i64 2) 57,oV 57 56] (.cond (.s 56) [(1,.gb 999999 1),(6,.ptr 1131 0),(7,.ptr 1132 0),(1131,.cl []),(1132,.cl []),(lk 999999,.pv 1)] (oS [oA 1130 0 1 3 58,oL 1130 1 1 58 59,oI .lss 59 (.u64 2147483648) 60] (.cond (.s 60) [] (oS [oA 1130 0 1 3 61,oL 1130 1 1 61 62,oK (.k (.un .xor)) [62] [63],oK (.k (.ci .u32)) [63] [64],oK (.k (.ci .u64)) [64] [65],oX (.bd zV [(0,1),(1,1)]) [.c (.i .i64 16),.s 65] [66],oK (.bd zT []) [] [67],oT 1131 0 9 6 66,oT 1132 0 3 7 67] .ret) .skip)) (oS [oI .eql 16 (.i .i64 6) 69,oV 69 68] (.cond (.s 68) [] (oS [oX (.bd [(.i .i64 0),(.u64 0),(.u64 0),(.u64 0),(.s []),(.s []),(.i .i64 0),(.sl .bs ([]:List UInt8)),(.c (.slice none 0 0))] [(0,1)]) [.c (.i .i64 3)] [70],oA 1130 0 4 3 71,oL 1130 4 1 71 72,oV 1 73,oV 2 74,oK (.k (.jK 28 4 2 2 999999 1)) [70,72,73,74,(lk 999999)] [75],oE 0 75 76,oE 1 75 77,oT 1131 0 9 6 76,oT 1132 0 3 7 77] .ret) (oS [oI .eql 16 (.i .i64 5) 79,oV 79 78] (.cond (.s 78) [] (oS [oX (.bd [(.i .i64 0),(.u64 0),(.u64 0),(.u64 0),(.s []),(.s []),(.i .i64 0),(.sl .bs ([]:List UInt8)),(.c (.slice none 0 0))] [(0,1)]) [.c (.i .i64 4)] [80],oN 1133 zV 8,oK (.pF 1133 0 9 [(8,117,.fl)]) [8,1133,80,(lk 117)] [1133,lk 117]] (.seq (oS [oA 1130 0 4 3 81,oL 1130 4 1 81 82,oK (.k .len) [82] [83],oW (.i .i64 0) 84] (.block 1 [(6,.ptr 1131 0),(7,.ptr 1132 0),(8,.ptr 1133 0),(1131,.cl []),(1132,.cl []),(1133,.cl [(8,117,10)]),(lk 117,.live 10),(lk 999999,.pv 1)] (.loop [1,2,6,7,8,82,83,84,1131,1132,1133,lk 999999] [(1,.gb 999999 1),(6,.ptr 1131 0),(7,.ptr 1132 0),(8,.ptr 1133 0),(1131,.cl []),(1132,.cl []),(1133,.cl [(8,117,10)]),(lk 117,.live 10),(lk 999999,.pv 1)] cC.m1))) none (oS [oM 1133 0 9 8 114,oK (.bd zT []) [] [115],oT 1131 0 9 6 114,oT 1132 0 3 7 115] .ret))) (oS [oI .eql 16 (.i .i64 10) 117,oV 117 116] (.cond (.s 116) [(1,.gb 999999 1),(6,.ptr 1131 0),(7,.ptr 1132 0),(1131,.cl []),(1132,.cl []),(lk 999999,.pv 1)] (oS [oM 1130 0 5 3 119,oV 2 120,oC 70 2 2 [119,120] 121,oV 121 118,oE 0 118 122,oE 1 118 123,oN 1137 zV 13,oT 1137 0 9 13 122,oV 123 14] (oS [oV 14 124] (.cond (.s 124) [] (oS [oM 1137 0 9 13 125,oK (.bd zT []) [] [126],oT 1131 0 9 6 125,oT 1132 0 3 7 126] .ret) .skip))) .skip)))))))))))))))))))) (some [1,6,7,1131,1132,lk 999999]) cC.m2)
def cC.d:gD:={ np:=3,m:=cC.m,ref:=none,fA:=[],res:=[.c 6 1131 9 true,.c 7 1132 3 true],own:=[],new:=none,fx:=[],ps:=some (1,999999,1) }
def cC.F (n:Nat) (it:bM) (path:List Int) (within:Int):OT:=cC.d.run (cC.E n) [(.ag (bM.cells it)),(.sl .is path),(.i .i64 within)]
def cC.k1 (n:Nat):fT (List TV):=iw (gY _ (cC.E n) cC.m2) (some [1,6,7,1131,1132,lk 999999]) (gJ cC.d)
def cC.k2 (n:Nat):fT (List TV):=iw (ev _ (cC.E n) (oS [oM 1133 0 9 8 114,oK (.bd [(.i .i64 0),(.i .i64 0),(.sl .is ([]:List Int))] []) [] [115],oT 1131 0 9 6 114,oT 1132 0 3 7 115] .ret)) none (er 0 (cC.k1 n))
def cC.j1 (n:Nat) (x0:bE) (x1:ez) (x2:List Int):OT:=gY _ (cC.E n) cC.m2 (dT [1,6,7,1131,1132,lk 999999] [.pt,.pt,.pt,(.ag (bE.cells x0)),(.ag (ez.cells x1)),(.sl .is x2)]) (gJ cC.d)
def cC.l2 (n:Nat) (x0:Int) (x1:List bD) (x2:Int) (x3:Int) (x4:bE) (x5:ez) (x6:bE) (x7:List Int):OT:=gx (gY _ (cC.E n) cC.m1) oz [1,2,6,7,8,82,83,84,1131,1132,1133,lk 999999] (dT [1,2,6,7,8,82,83,84,1131,1132,1133,lk 999999] [.pt,(.i .i64 x0),.pt,.pt,.pt,(.sl .il x1),(.i .i64 x2),(.i .i64 x3),(.ag (bE.cells x4)),(.ag (ez.cells x5)),(.ag (bE.cells x6)),(.sl .is x7)]) (er 1 (cC.k2 n))
theorem cC.lv (n:Nat) (x0:bE) (x1:ez) (x2:List Int):cC.j1 n x0 x1 x2=ck (decide ((x2).length≤1099511627776)) (some [(.ag [(.i .i64 0),(.u64 0),(.u64 0),(.u64 0),(.s []),(.s []),(.i .i64 0),(.sl .bs ([]:List UInt8)),(.sl .fl ([]:List bG))]),(.ag (ez.cells ((ez.mk 12 0 x2)))),(.sl .is x2)]):=((congrFun (congrFun (gQ _ _) _) _).trans (by kernel_rfl))
theorem cC.lH (n:Nat) (x0:Int) (x1:List bD) (x2:Int) (x3:Int) (x4:bE) (x5:ez) (x6:bE) (x7:List Int) {ρ:OT} (K:∀(v1:bE) (h1:v1=(Db.jd.val (Dk.value (200 - x0).toNat (bD.of (bD.val (List.getD x1 (x3).toNat (eJ.fc .il)))) ((x7++([x3]:List Int)))))) (v2:ez) (h2:v2=(Db.jd.yd (Dk.value (200 - x0).toNat (bD.of (bD.val (List.getD x1 (x3).toNat (eJ.fc .il)))) ((x7++([x3]:List Int)))))) (v3:List bG) (h3:v3=([(bG.mk (Lib.itoa x3) (bE.kind v1) (bE.bits v1) (bE.high v1) (bE.low v1) (bE.text v1) (bE.more v1) (bE.sub v1) (bE.bytes v1) (bE.kids v1))]:List bG)) (v4:Int) (h4:v4=(IntKind.i64.wrap (x3+(1:Int)))),cond (decide (x3<x2))
  (ck (eK x3 (x1).length) (ck (fS ((x7).length+(([x3]:List Int)).length) 8) (ck ((decide ((Mp.lay (bD.of (bD.val (List.getD x1 (x3).toNat (eJ.fc .il))))).length+(((x7++([x3]:List Int)))).length≤536870912)&&decide (Mp.di (bD.of (bD.val (List.getD x1 (x3).toNat (eJ.fc .il))))=0∧0≤x0∧x0≤200))&&decide ((4 * (Mp.lay (bD.of (bD.val (List.getD x1 (x3).toNat (eJ.fc .il))))).length)<n)) (cond (!decide ((ez.err v2)=(0:Int)))
  (some [(.ag [(.i .i64 0),(.u64 0),(.u64 0),(.u64 0),(.s []),(.s []),(.i .i64 0),(.sl .bs ([]:List UInt8)),(.sl .fl ([]:List bG))]),(.ag (ez.cells v2)),(.sl .is x7)])
  (ck (decide (-9223372036854775808≤x3∧x3≤9223372036854775807)) (ck (fS (((bE.kids x6)).length+(v3).length) 136) (cC.l2 n x0 x1 x2 v4 x4 x5 (bE.mk (bE.kind x6) (bE.bits x6) (bE.high x6) (bE.low x6) (bE.text x6) (bE.more x6) (bE.sub x6) (bE.bytes x6) ((bE.kids x6)++v3)) x7)))))))
  (some [(.ag (bE.cells x6)),(.ag [(.i .i64 0),(.i .i64 0),(.sl .is ([]:List Int))]),(.sl .is x7)])=ρ):cC.l2 n x0 x1 x2 x3 x4 x5 x6 x7=ρ:=((fD _ _ _ _ _ _).trans (by kernel_rfl)).trans (K _ rfl _ rfl _ rfl _ rfl)
theorem cC.dV (n:Nat) (it:bM) (path:List Int) (within:Int) {ρ:OT} (K:∀(v1:Int) (h1:v1=(List.getD [(8:Int),(8:Int),(10:Int)] ((((((bM.n it) - (20:UInt64))).toNat:Int)).toNat) (0:Int))) (v2:UInt64) (h2:v2=(List.getD [(0:UInt64),(1:UInt64),(0:UInt64)] ((((((bM.n it) - (20:UInt64))).toNat:Int)).toNat) (0:UInt64))) (v3:UInt64) (h3:v3=(List.getD [(0:UInt64),(0:UInt64),(0:UInt64)] ((((((bM.n it) - (20:UInt64))).toNat:Int)).toNat) (0:UInt64))) (v4:bS) (h4:v4=(List.getD [([]:bS),([]:bS),([]:bS)] ((((((bM.n it) - (20:UInt64))).toNat:Int)).toNat) ([]:bS))) (v5:Int) (h5:v5=(List.getD [(0:Int),(0:Int),(0:Int)] ((((((bM.n it) - (20:UInt64))).toNat:Int)).toNat) (0:Int))) (v6:List UInt8) (h6:v6=(List.getD ([([]:List UInt8),([]:List UInt8),([]:List UInt8)]:List (List UInt8)) ((((((bM.n it) - (20:UInt64))).toNat:Int)).toNat) [])) (v7:List bG) (h7:v7=(List.getD ([([]:List bG),([]:List bG),([]:List bG)]:List (List bG)) ((((((bM.n it) - (20:UInt64))).toNat:Int)).toNat) [])) (v8:UInt32) (h8:v8=(UInt32.ofInt (((~~~(bM.n it))).toNat:Int))) (v9:UInt64) (h9:v9=(UInt64.ofInt ((v8).toNat:Int))) (v10:bE) (lZ:v10=(Db.jd.val (Db.ir.qZ (bE.mk 3 0 0 0 [] [] 0 [] []) (Dk.fields (200 - within).toNat ((bM.kids it)) 0 path)))) (v11:ez) (yb:v11=(Db.jd.yd (Db.ir.qZ (bE.mk 3 0 0 0 [] [] 0 [] []) (Dk.fields (200 - within).toNat ((bM.kids it)) 0 path)))) (v12:Int) (ya:v12=(((bM.kids it)).length:Int)) (kN:bE) (wN:kN=((Dk.ig (200 - within).toNat (it).n (it).bytes).1)) (jc:Bool) (xZ:jc=((Dk.ig (200 - within).toNat (it).n (it).bytes).2)),cond (decide ((bM.kind it)=(9:Int)))
  (some [(.ag [(.i .i64 1),(.u64 (bM.n it)),(.u64 0),(.u64 0),(.s []),(.s []),(.i .i64 0),(.sl .bs ([]:List UInt8)),(.sl .fl ([]:List bG))]),(.ag [(.i .i64 0),(.i .i64 0),(.sl .is ([]:List Int))]),(.sl .is path)])
  (cond (decide ((bM.kind it)=(4:Int)))
  (some [(.ag [(.i .i64 2),(.u64 0),(.u64 0),(.u64 0),(.s (bM.text it)),(.s []),(.i .i64 0),(.sl .bs ([]:List UInt8)),(.sl .fl ([]:List bG))]),(.ag [(.i .i64 0),(.i .i64 0),(.sl .is ([]:List Int))]),(.sl .is path)])
  (cond (decide ((bM.kind it)=(3:Int)))
  (ck (fS (((bM.bytes it))).length 1) (some [(.ag [(.i .i64 5),(.u64 0),(.u64 0),(.u64 0),(.s []),(.s []),(.i .i64 0),(.sl .bs (((bM.bytes it)))),(.sl .fl ([]:List bG))]),(.ag [(.i .i64 0),(.i .i64 0),(.sl .is ([]:List Int))]),(.sl .is path)]))
  (cond (decide ((bM.kind it)=(8:Int)))
  (ck (eK ((((bM.n it) - (20:UInt64))).toNat:Int) 3) (some [(.ag [(.i .i64 v1),(.u64 v2),(.u64 v3),(.u64 v3),(.s v4),(.s v4),(.i .i64 v5),(.sl .bs v6),(.sl .fl v7)]),(.ag [(.i .i64 0),(.i .i64 0),(.sl .is ([]:List Int))]),(.sl .is path)]))
  (cond (decide ((bM.kind it)=(1:Int)))
  (cond (decide ((bM.n it)<(2147483648:UInt64)))
  (some [(.ag [(.i .i64 16),(.u64 (bM.n it)),(.u64 0),(.u64 0),(.s []),(.s []),(.i .i64 0),(.sl .bs ([]:List UInt8)),(.sl .fl ([]:List bG))]),(.ag [(.i .i64 0),(.i .i64 0),(.sl .is ([]:List Int))]),(.sl .is path)])
  (cC.j1 n (bE.mk 0 0 0 0 [] [] 0 [] []) (ez.mk 0 0 []) path))
  (cond (decide ((bM.kind it)=(2:Int)))
  (cond (decide ((bM.n it)<(2147483648:UInt64)))
  (some [(.ag [(.i .i64 16),(.u64 v9),(.u64 0),(.u64 0),(.s []),(.s []),(.i .i64 0),(.sl .bs ([]:List UInt8)),(.sl .fl ([]:List bG))]),(.ag [(.i .i64 0),(.i .i64 0),(.sl .is ([]:List Int))]),(.sl .is path)])
  (cC.j1 n (bE.mk 0 0 0 0 [] [] 0 [] []) (ez.mk 0 0 []) path))
  (cond (decide ((bM.kind it)=(6:Int)))
  (ck ((decide ((Mp.fF ((bM.kids it))).length+(path).length≤536870912)&&decide (Mp.gw ((bM.kids it))=0∧(((bM.kids it))).length % 2=0∧0≤within∧within≤200))&&decide ((4 * (Mp.fF ((bM.kids it))).length+3)<n)) (some [(.ag (bE.cells v10)),(.ag (ez.cells v11)),(.sl .is path)]))
  (cond (decide ((bM.kind it)=(5:Int)))
  (cC.l2 n within (bM.kids it) v12 (0:Int) (bE.mk 0 0 0 0 [] [] 0 [] []) (ez.mk 0 0 []) (bE.mk 4 0 0 0 [] [] 0 [] []) path)
  (cond (decide ((bM.kind it)=(10:Int)))
  (ck ((decide ((it).bytes.length≤536870912∧(it).n≤127∧0≤within∧within≤200))&&decide ((4 * (it).bytes.length+2)<n)) (cond jc
  (some [(.ag (bE.cells kN)),(.ag [(.i .i64 0),(.i .i64 0),(.sl .is ([]:List Int))]),(.sl .is path)])
  (cC.j1 n (bE.mk 0 0 0 0 [] [] 0 [] []) (ez.mk 0 0 []) path)))
  (cC.j1 n (bE.mk 0 0 0 0 [] [] 0 [] []) (ez.mk 0 0 []) path)))))))))=ρ):cC.F n it path within=ρ:=Eq.trans (by kernel_rfl) (K _ rfl _ rfl _ rfl _ rfl _ rfl _ rfl _ rfl _ rfl _ rfl _ rfl _ rfl _ rfl _ rfl _ rfl)
theorem cC.di (n:Nat):CK 44 (cC.env n) cC.d:=eI (by kernel_rfl)
def dN.env:EV:=[]
def dN.E:eo:=cK tryzGl dN.env
def dN.m1:TM:=oS [oB .lss 8 7 9] (.seq (.cond (.s 9) [] .skip (.exit 0)) none (.seq (.block 1 [] (oS [oK (.k (.ix 1)) [6,8] [10],oK (.k (.lr 1 false)) [10] [11],oV 11 5] (.fK [oV 3 12,oI .shl 12 (.u64 8) 13,oV 5 14,oK (.k (.ci .u64)) [14] [15],oB .or 13 15 16,oV 16 3]))) none (.fK [oI .add 8 (.i .i64 1) 17,oV 17 8])))
def dN.m:TM:=oS [oW (.u64 0) 2] (oS [oW (.u64 0) 3] (.seq (oS [oV 0 6,oK (.k .len) [6] [7],oW (.i .i64 0) 8] (.block 0 [] (.loop [3,6,7,8] [] dN.m1))) none (oS [oV 3 18,oV 18 2] .ret)))
def dN.d:gD:=D0 1 dN.m [.t 2]
def dN.F (b:List UInt8):OT:=dN.d.run dN.E [(.sl .bs b)]
def dN.k1:fT (List TV):=iw (ev _ dN.E (oS [oV 3 18,oV 18 2] .ret)) none (gJ dN.d)
def dN.l1 (x0:UInt64) (x1:List UInt8) (x2:Int) (x3:Int):OT:=gx (gY _ dN.E dN.m1) oz [3,6,7,8] (dT [3,6,7,8] [(.u64 x0),(.sl .bs x1),(.i .i64 x2),(.i .i64 x3)]) (er 0 dN.k1)
theorem dN.ew (x0:UInt64) (x1:List UInt8) (x2:Int) (x3:Int) {ρ:OT} (K:∀(v1:UInt8) (h1:v1=(List.getD x1 (x3).toNat (0:UInt8))) (v2:UInt64) (h2:v2=(mf x0 (((8:UInt64)).toNat))) (v3:UInt64) (h3:v3=(UInt64.ofInt ((v1).toNat:Int))) (v4:Int) (h4:v4=(IntKind.i64.wrap (x3+(1:Int)))),cond (decide (x3<x2))
  (ck (eK x3 (x1).length) (dN.l1 (v2 ||| v3) x1 x2 v4))
  (some [(.u64 x0)])=ρ):dN.l1 x0 x1 x2 x3=ρ:=((fD _ _ _ _ _ _).trans (by kernel_rfl)).trans (K _ rfl _ rfl _ rfl _ rfl)
theorem dN.fR (b:List UInt8):dN.F b=dN.l1 (0:UInt64) b ((b).length:Int) (0:Int):=by kernel_rfl
theorem dN.di:CK 85 dN.env dN.d:=eI (by kernel_rfl)
def eF.env:EV:=[(41,(dr.c,dr.sg))]
def eF.E:eo:=cK tryzGl eF.env
def eF.m:TM:=oS [oW (.b false) 2] (oS [oV 0 6,oC 41 1 2 [6] 7,oV 7 5,oE 0 5 8,oE 1 5 9,oV 8 3,oV 9 4] (oS [oV 4 10,oV 10 2] .ret))
def eF.d:gD:=D0 1 eF.m [.t 2]
def eF.F (b:List UInt8):OT:=eF.d.run eF.E [(.sl .bs b)]
theorem eF.fR (b:List UInt8):eF.F b=ck (decide (b.length≤1099511627776)) (some [(.b (dK.whole b))]):=by kernel_rfl
theorem eF.di:CK 86 eF.env eF.d:=eI (by kernel_rfl)
def bY.env (n:Nat):EV:=[(43,(cT.c,cT.sg)),(55,(bW.c,bW.sg)),(56,(fG.c,fG.sg)),(84,(fv.cn n,fv.sg)),(85,(dN.c,dN.sg)),(86,(eF.c,eF.sg)),(87,(fW.c,fW.sg))]
def bY.E (n:Nat):eo:=cK tryzGl (bY.env n)
def bY.m1:TM := .cond (.s 197) [(4,.ptr 1207 0),(7,.ptr 1208 0),(1207,.cl []),(1208,.cl [])] (.fK [oV 6 201,oK (.k .len) [201] [202],oI .eql 202 (.i .i64 0) 203,oV 203 8]) .skip
def bY.m2:TM := .cond (.s 175) [(4,.ptr 1207 0),(7,.ptr 1208 0),(1207,.cl []),(1208,.cl [])] (.fK [oV 6 178,oC 86 1 1 [178] 179,oV 6 180,oK (.k .bs) [180] [181],oV 179 8,oA 1208 0 4 7 182,oT 1208 4 1 182 181]) (oS [oI .eql 27 (.i .i64 19) 184,oV 184 183] (.cond (.s 183) [(4,.ptr 1207 0),(7,.ptr 1208 0),(1207,.cl []),(1208,.cl [])] (oS [oV 6 185,oK (.k .len) [185] [186],oI .eql 186 (.i .i64 16) 187,oV 187 8] (oS [oV 8 188] (.cond (.s 188) [(4,.ptr 1207 0),(7,.ptr 1208 0),(1207,.cl []),(1208,.cl [])] (.fK [oV 6 189,oX (.k (.sc 1 false true)) [.s 189,.c (.i .i64 8)] [190],oC 85 1 1 [190] 191,oV 6 192,oX (.k (.sc 1 true false)) [.s 192,.c (.i .i64 8)] [193],oC 85 1 1 [193] 194,oA 1208 0 2 7 195,oT 1208 2 1 195 191,oA 1208 0 3 7 196,oT 1208 3 1 196 194]) .skip))) (.seq (oS [oI .eql 27 (.i .i64 6) 198,oV 198 197] (.cond (.s 197) [(4,.ptr 1207 0),(7,.ptr 1208 0),(1207,.cl []),(1208,.cl [])] .skip (oS [oI .eql 27 (.i .i64 255) 199,oV 199 197] (.cond (.s 197) [(4,.ptr 1207 0),(7,.ptr 1208 0),(1207,.cl []),(1208,.cl [])] .skip (.fK [oI .eql 27 (.i .i64 127) 200,oV 200 197]))))) (some [4,6,7,8,197,1207,1208]) bY.m1)))
def bY.m3:TM := .cond (.s 117) [(4,.ptr 1207 0),(7,.ptr 1208 0),(1207,.cl []),(1208,.cl [])] (.fK [oV 6 121,oK (.k .len) [121] [122],oI .eql 122 (.i .i64 8) 123,oV 6 124,oC 85 1 1 [124] 125,oV 123 8,oA 1208 0 1 7 126,oT 1208 1 1 126 125]) (oS [oI .eql 27 (.i .i64 11) 128,oV 128 127] (.cond (.s 127) [(4,.ptr 1207 0),(7,.ptr 1208 0),(1207,.cl []),(1208,.cl [])] (oS [oV 6 130,oK (.k .bs) [130] [131],oX (.k (.call 87 (.plain 2 3))) [.s 131,.c (.s ([0]:bS))] [132],oV 132 129,oE 0 129 133,oE 1 129 134,oE 2 129 135,oV 133 10,oV 134 11,oV 135 12] (.fK [oV 12 136,oV 136 137,oG 137 true (oV 11 138),oG 137 true (oX (.k (.call 43 (.plain 2 1))) [.s 138,.c (.s ([0]:bS))] [139]),oG 137 true (oK (.k (.un .not)) [139] [140]),oP 137 140 false 141,oV 141 142,oG 142 true (oV 10 143),oG 142 true (oK (.k .sb) [143] [144]),oG 142 true (oC 86 1 1 [144] 145),oP 142 145 false 146,oV 146 147,oG 147 true (oV 11 148),oG 147 true (oK (.k .sb) [148] [149]),oG 147 true (oC 86 1 1 [149] 150),oP 147 150 false 151,oV 10 152,oV 11 153,oV 151 8,oA 1208 0 4 7 154,oT 1208 4 1 154 152,oA 1208 0 5 7 155,oT 1208 5 1 155 153])) (oS [oI .eql 27 (.i .i64 12) 157,oV 157 156] (.cond (.s 156) [(4,.ptr 1207 0),(7,.ptr 1208 0),(1207,.cl []),(1208,.cl [])] (oS [oV 6 158,oK (.k .len) [158] [159],oI .geq 159 (.i .i64 12) 160,oV 160 161,oG 161 true (oV 6 162),oG 161 true (oX (.k (.sc 1 true false)) [.s 162,.c (.i .i64 12)] [163]),oG 161 true (oC 86 1 1 [163] 164),oP 161 164 false 165,oV 165 8] (oS [oV 8 166] (.cond (.s 166) [(4,.ptr 1207 0),(7,.ptr 1208 0),(1207,.cl []),(1208,.cl [])] (.fK [oV 6 167,oX (.k (.sc 1 false true)) [.s 167,.c (.i .i64 12)] [168],oK (.k (.call 56 ⟨1,none,[],[],1,[(0,109,1)],none,[]⟩)) [168,(lk 109)] [169,lk 109],oV 6 170,oX (.k (.sc 1 true false)) [.s 170,.c (.i .i64 12)] [171],oK (.k .bs) [171] [172],oA 1208 0 7 7 173,oT 1208 7 1 173 169,oA 1208 0 4 7 174,oT 1208 4 1 174 172]) .skip))) (.seq (oS [oI .eql 27 (.i .i64 13) 176,oV 176 175] (.cond (.s 175) [(4,.ptr 1207 0),(7,.ptr 1208 0),(1207,.cl []),(1208,.cl [])] .skip (.fK [oI .eql 27 (.i .i64 14) 177,oV 177 175]))) (some [4,6,7,8,27,175,1207,1208]) bY.m2)))))
def bY.m4:TM:=oS [oM 1208 0 9 7 204,oV 8 205,oK (.pF 1207 0 9 [(8,110,.fl)]) [4,1207,204,(lk 110)] [1207,lk 110],oV 205 5] .ret
def bY.m5:TM := .seq (oS [oV 1 23,oI .geq 23 (.i .i64 200) 24] (.cond (.s 24) [] (oS [oK (.bd zV []) [] [25],oT 1207 0 9 4 25,oW (.b false) 5] .ret) .skip)) none (.seq (oS [oA 1208 0 0 7 26,oL 1208 0 1 26 27] (.block 0 [(4,.ptr 1207 0),(7,.ptr 1208 0),(1207,.cl []),(1208,.cl [])] (oS [oI .eql 27 (.i .i64 4) 29,oV 29 28] (.cond (.s 28) [] (oS [oM 1208 0 9 7 31,oV 6 32,oV 1 33,oC 84 3 2 [31,32,33] 34,oV 34 30,oE 0 30 35,oE 1 30 36,oT 1208 0 9 7 35,oV 36 8] (oS [oM 1208 0 9 7 37,oV 8 38,oV 38 39,oG 39 true (oA 1208 0 8 7 40),oG 39 true (oL 1208 8 1 40 41),oG 39 true (oC 55 1 1 [41] 42),oG 39 true (oK (.k (.un .not)) [42] [43]),oP 39 43 false 44,oT 1207 0 9 4 37,oV 44 5] .ret)) (oS [oI .eql 27 (.i .i64 15) 46,oV 46 45] (.cond (.s 45) [] (.seq (oS [oV 6 47,oK (.k .len) [47] [48],oI .lss 48 (.i .i64 4) 49,oV 49 50,oG 50 false (oV 6 51),oG 50 false (oX (.k (.sc 1 false true)) [.s 51,.c (.i .i64 4)] [52]),oG 50 false (oC 85 1 1 [52] 53),oG 50 false (oV 6 54),oG 50 false (oK (.k .len) [54] [55]),oG 50 false (oI .sub 55 (.i .i64 4) 56),oG 50 false (oK (.k (.ci .u64)) [56] [57]),oG 50 false (oB .gtr 53 57 58),oX (.k .pick) [.s 50,.c (.b true),.s 58] [59]] (.cond (.s 59) [] (oS [oK (.bd zV []) [] [60],oT 1207 0 9 4 60,oW (.b false) 5] .ret) .skip)) none (oS [oV 6 61,oX (.k (.sc 1 false true)) [.s 61,.c (.i .i64 4)] [62],oC 85 1 1 [62] 63,oK (.k (.ci .i64)) [63] [64],oX (.k (.bin .add)) [.c (.i .i64 4),.s 64] [65],oV 65 9] (oS [oV 6 66,oV 9 67,oX (.k (.sc 1 true true)) [.s 66,.c (.i .i64 4),.s 67] [68],oK (.k .bs) [68] [69],oA 1208 0 4 7 70,oT 1208 4 1 70 69] (oS [oM 1208 0 9 7 72,oV 6 73,oV 9 74,oK (.k (.sc 1 true false)) [73,74] [75],oV 1 76,oC 84 3 2 [72,75,76] 77,oV 77 71,oE 0 71 78,oE 1 71 79,oT 1208 0 9 7 78,oV 79 8] (oS [oM 1208 0 9 7 80,oV 8 81,oV 81 82,oG 82 true (oV 6 83),oG 82 true (oV 9 84),oG 82 true (oX (.k (.sc 1 true true)) [.s 83,.c (.i .i64 4),.s 84] [85]),oG 82 true (oC 86 1 1 [85] 86),oP 82 86 false 87,oT 1207 0 9 4 80,oV 87 5] .ret))))) (oS [oI .eql 27 (.i .i64 5) 89,oV 89 88] (.cond (.s 88) [(4,.ptr 1207 0),(7,.ptr 1208 0),(1207,.cl []),(1208,.cl [])] (oS [oV 6 90,oK (.k .len) [90] [91],oI .gtr 91 (.i .i64 0) 92,oV 92 93,oG 93 true (oV 6 94),oG 93 true (oX (.k (.ix 1)) [.s 94,.c (.i .i64 0)] [95]),oG 93 true (oK (.k (.lr 1 false)) [95] [96]),oG 93 true (oI .neq 96 (.u8 0) 97),oP 93 97 false 98,oV 98 8] (oS [oV 8 99] (.cond (.s 99) [(4,.ptr 1207 0),(7,.ptr 1208 0),(1207,.cl []),(1208,.cl [])] (.fK [oV 6 100,oX (.k (.ix 1)) [.s 100,.c (.i .i64 0)] [101],oK (.k (.lr 1 false)) [101] [102],oK (.k (.ci .i64)) [102] [103],oV 6 104,oX (.k (.sc 1 true false)) [.s 104,.c (.i .i64 1)] [105],oK (.k (.call 56 ⟨1,none,[],[],1,[(0,107,1)],none,[]⟩)) [105,(lk 107)] [106,lk 107],oA 1208 0 6 7 107,oT 1208 6 1 107 103,oA 1208 0 7 7 108,oT 1208 7 1 108 106]) .skip))) (oS [oI .eql 27 (.i .i64 7) 110,oV 110 109] (.cond (.s 109) [(4,.ptr 1207 0),(7,.ptr 1208 0),(1207,.cl []),(1208,.cl [])] (.fK [oV 6 111,oK (.k .len) [111] [112],oI .eql 112 (.i .i64 12) 113,oV 6 114,oK (.k (.call 56 ⟨1,none,[],[],1,[(0,108,1)],none,[]⟩)) [114,(lk 108)] [115,lk 108],oV 113 8,oA 1208 0 7 7 116,oT 1208 7 1 116 115]) (.seq (oS [oI .eql 27 (.i .i64 9) 118,oV 118 117] (.cond (.s 117) [(4,.ptr 1207 0),(7,.ptr 1208 0),(1207,.cl []),(1208,.cl [])] .skip (oS [oI .eql 27 (.i .i64 17) 119,oV 119 117] (.cond (.s 117) [(4,.ptr 1207 0),(7,.ptr 1208 0),(1207,.cl []),(1208,.cl [])] .skip (.fK [oI .eql 27 (.i .i64 18) 120,oV 120 117]))))) (some [4,6,7,8,27,117,1207,1208]) bY.m3))))))))))) (some [4,7,8,1207,1208]) bY.m4)
def bY.m:TM:=oS [oK (.k (.bx 1206)) [0,1206] [2,1206],oN 1207 zV 4,oW (.b false) 5] (oS [oA 1206 0 2 2 13,oL 1206 2 1 13 14,oV 14 6] (oS [oA 1206 0 1 2 15,oL 1206 1 1 15 16,oK (.k (.ci .i64)) [16] [17],oK (.bd [(.i .i64 0),(.u64 0),(.u64 0),(.u64 0),(.s []),(.s []),(.i .i64 0),(.sl .bs ([]:List UInt8)),(.c (.slice none 0 0))] [(0,1)]) [17] [18],oN 1208 zV 7,oT 1208 0 9 7 18] (oS [oW (.b false) 8] (.seq (oS [oA 1208 0 0 7 19,oL 1208 0 1 19 20,oI .eql 20 (.i .i64 126) 21] (.cond (.s 21) [(4,.ptr 1207 0),(7,.ptr 1208 0),(1207,.cl []),(1208,.cl [])] (.fK [oA 1208 0 0 7 22,oX (.k (.st 1208 0 1)) [.s 22,.s 1208,.c (.i .i64 255)] [1208]]) .skip)) (some [1,4,6,7,8,1207,1208]) bY.m5))))
def bY.d:gD:=D0 2 bY.m [.c 4 1207 9 true,.t 5]
def bY.F (n:Nat) (it:bM) (within:Int):OT:=bY.d.run (bY.E n) [(.ag (bM.cells it)),(.i .i64 within)]
def bY.k1 (n:Nat):fT (List TV):=iw (gY _ (bY.E n) bY.m4) (some [4,7,8,1207,1208]) (gJ bY.d)
def bY.j1 (n:Nat) (x0:Int) (x1:List UInt8) (x2:Bool) (x3:bE) (x4:Int) (x5:UInt64) (x6:UInt64) (x7:UInt64) (x8:bS) (x9:bS) (jt:Int) (jH:List UInt8):OT:=gY _ (bY.E n) bY.m5 (dT [1,4,6,7,8,1207,1208] [(.i .i64 x0),.pt,(.sl .bs x1),.pt,(.b x2),(.ag (bE.cells x3)),(.ag [(.i .i64 x4),(.u64 x5),(.u64 x6),(.u64 x7),(.s x8),(.s x9),(.i .i64 jt),(.sl .bs jH),(.c (.slice none 0 0))])]) (gJ bY.d)
def bY.j2 (n:Nat) (x0:Bool) (x1:bE) (x2:Int) (x3:UInt64) (x4:UInt64) (x5:UInt64) (x6:bS) (x7:bS) (x8:Int) (x9:List UInt8):OT:=gY _ (bY.E n) bY.m4 (dT [4,7,8,1207,1208] [.pt,.pt,(.b x0),(.ag (bE.cells x1)),(.ag [(.i .i64 x2),(.u64 x3),(.u64 x4),(.u64 x5),(.s x6),(.s x7),(.i .i64 x8),(.sl .bs x9),(.c (.slice none 0 0))])]) (gJ bY.d)
def bY.j3 (n:Nat) (x0:List UInt8) (x1:Bool) (x2:Int) (x3:Bool) (x4:bE) (x5:Int) (x6:UInt64) (x7:UInt64) (x8:UInt64) (x9:bS) (jt:bS) (jH:Int) (mK:List UInt8):OT:=gY _ (bY.E n) bY.m3 (dT [4,6,7,8,27,117,1207,1208] [.pt,(.sl .bs x0),.pt,(.b x1),(.i .i64 x2),(.b x3),(.ag (bE.cells x4)),(.ag [(.i .i64 x5),(.u64 x6),(.u64 x7),(.u64 x8),(.s x9),(.s jt),(.i .i64 jH),(.sl .bs mK),(.c (.slice none 0 0))])]) (er 0 (bY.k1 n))
def bY.j4 (n:Nat) (x0:List UInt8) (x1:Bool) (x2:Int) (x3:Bool) (x4:bE) (x5:Int) (x6:UInt64) (x7:UInt64) (x8:UInt64) (x9:bS) (jt:bS) (jH:Int) (mK:List UInt8):OT:=gY _ (bY.E n) bY.m2 (dT [4,6,7,8,27,175,1207,1208] [.pt,(.sl .bs x0),.pt,(.b x1),(.i .i64 x2),(.b x3),(.ag (bE.cells x4)),(.ag [(.i .i64 x5),(.u64 x6),(.u64 x7),(.u64 x8),(.s x9),(.s jt),(.i .i64 jH),(.sl .bs mK),(.c (.slice none 0 0))])]) (er 0 (bY.k1 n))
def bY.j5 (n:Nat) (x0:List UInt8) (x1:Bool) (x2:Bool) (x3:bE) (x4:Int) (x5:UInt64) (x6:UInt64) (x7:UInt64) (x8:bS) (x9:bS) (jt:Int) (jH:List UInt8):OT:=gY _ (bY.E n) bY.m1 (dT [4,6,7,8,197,1207,1208] [.pt,(.sl .bs x0),.pt,(.b x1),(.b x2),(.ag (bE.cells x3)),(.ag [(.i .i64 x4),(.u64 x5),(.u64 x6),(.u64 x7),(.s x8),(.s x9),(.i .i64 jt),(.sl .bs jH),(.c (.slice none 0 0))])]) (er 0 (bY.k1 n))
theorem bY.pL (n:Nat) (x0:Int) (x1:List UInt8) (x2:Bool) (x3:bE) (x4:Int) (x5:UInt64) (x6:UInt64) (x7:UInt64) (x8:bS) (x9:bS) (jt:Int) (jH:List UInt8) {ρ:OT} (K:∀(v1:bE) (h1:v1=((Dk.kH (199 - x0).toNat (bE.mk x4 x5 x6 x7 x8 x9 jt jH []) x1).1)) (v2:Bool) (h2:v2=((Dk.kH (199 - x0).toNat (bE.mk x4 x5 x6 x7 x8 x9 jt jH []) x1).2)) (v3:Bool) (h3:v3=(Tree.regular ((bE.kids v1)))) (v4:List UInt8) (h4:v4=(List.take ((4:Int)).toNat x1)) (v5:Int) (h5:v5=(IntKind.i64.wrap (((x1).length:Int) - (4:Int)))) (v6:Bool) (h6:v6=(cond (decide (((x1).length:Int)<(4:Int))) true (decide ((UInt64.ofInt v5)<(cM.be v4))))) (v7:Int) (h7:v7=(IntKind.i64.wrap (((cM.be v4)).toNat:Int))) (v8:Int) (h8:v8=(IntKind.i64.wrap ((4:Int)+v7))) (v9:List UInt8) (h9:v9=(List.drop ((4:Int)).toNat (List.take (v8).toNat x1))) (v10:bE) (lZ:v10=((Dk.kH (199 - x0).toNat (bE.mk x4 x5 x6 x7 v9 x9 jt jH []) ((List.drop (v8).toNat x1))).1)) (v11:Bool) (yb:v11=((Dk.kH (199 - x0).toNat (bE.mk x4 x5 x6 x7 v9 x9 jt jH []) ((List.drop (v8).toNat x1))).2)) (v12:Bool) (ya:v12=(cond v11 (dK.whole v9) false)) (kN:UInt8) (wN:kN=(List.getD x1 ((0:Int)).toNat (0:UInt8))) (jc:Bool) (xZ:jc=(cond (decide ((0:Int)<((x1).length:Int))) (!decide (kN=(0:UInt8))) false)) (mM:Int) (Ai:mM=(IntKind.i64.wrap ((kN).toNat:Int))) (lf:List UInt8) (sH:lf=(List.drop ((1:Int)).toNat x1)),cond (decide ((200:Int)≤x0))
  (some [(.ag [(.i .i64 0),(.u64 0),(.u64 0),(.u64 0),(.s []),(.s []),(.i .i64 0),(.sl .bs ([]:List UInt8)),(.sl .fl ([]:List bG))]),(.b false)])
  (cond (decide (x4=(4:Int)))
  (ck ((decide ((x1).length≤536870912∧0≤x0∧x0<200))&&decide ((4 * (x1).length+1)<n)) (ck (!v2 || v2) (ck (!v2 || (v2&&(decide (((bE.kids v1)).length≤1099511627776)))) (ck (!v2 || v2) (ck (!v2 || v2) (some [(.ag (bE.cells v1)),(.b (cond v2 (!v3) false))]))))))
  (cond (decide (x4=(15:Int)))
  (ck (!(!(decide (((x1).length:Int)<(4:Int)))) || ((!(decide (((x1).length:Int)<(4:Int))))&&(ja 0 (4:Int) (x1).length))) (ck (!(!(decide (((x1).length:Int)<(4:Int)))) || ((!(decide (((x1).length:Int)<(4:Int))))&&(decide ((v4).length≤1099511627776)))) (ck (!(!(decide (((x1).length:Int)<(4:Int)))) || (!(decide (((x1).length:Int)<(4:Int))))) (ck (!(!(decide (((x1).length:Int)<(4:Int)))) || (!(decide (((x1).length:Int)<(4:Int))))) (ck (!(!(decide (((x1).length:Int)<(4:Int)))) || (!(decide (((x1).length:Int)<(4:Int))))) (ck (!(!(decide (((x1).length:Int)<(4:Int)))) || ((!(decide (((x1).length:Int)<(4:Int))))&&(!(decide (((x1).length:Int)<(4:Int)))))) (ck ((decide (((x1).length:Int)<(4:Int))) || (!(decide (((x1).length:Int)<(4:Int))))) (cond v6
  (some [(.ag [(.i .i64 0),(.u64 0),(.u64 0),(.u64 0),(.s []),(.s []),(.i .i64 0),(.sl .bs ([]:List UInt8)),(.sl .fl ([]:List bG))]),(.b false)])
  (ck (ja 0 (4:Int) (x1).length) (ck (decide ((v4).length≤1099511627776)) (ck (ja (4:Int) v8 (x1).length) (ck (ja v8 (x1).length (x1).length) (ck ((decide ((((List.drop (v8).toNat x1))).length≤536870912∧0≤x0∧x0<200))&&decide ((4 * (((List.drop (v8).toNat x1))).length+1)<n)) (ck (!v11 || ((v11&&v11)&&(ja (4:Int) v8 (x1).length))) (ck (!v11 || (v11&&(decide ((v9).length≤1099511627776)))) (ck (!v11 || v11) (some [(.ag (bE.cells v10)),(.b v12)])))))))))))))))))
  (cond (decide (x4=(5:Int)))
  (ck (!(decide ((0:Int)<((x1).length:Int))) || ((decide ((0:Int)<((x1).length:Int)))&&(eK (0:Int) (x1).length))) (ck (!(decide ((0:Int)<((x1).length:Int))) || (decide ((0:Int)<((x1).length:Int)))) (ck (!(decide ((0:Int)<((x1).length:Int))) || (decide ((0:Int)<((x1).length:Int)))) (ck (!(decide ((0:Int)<((x1).length:Int))) || (decide ((0:Int)<((x1).length:Int)))) (cond jc
  (ck (eK (0:Int) (x1).length) (ck (ja (1:Int) (x1).length (x1).length) (ck (fS (lf).length 1) (bY.j2 n jc x3 x4 x5 x6 x7 x8 x9 mM (lf)))))
  (bY.j2 n jc x3 x4 x5 x6 x7 x8 x9 jt jH))))))
  (cond (decide (x4=(7:Int)))
  (ck (fS (x1).length 1) (bY.j2 n (decide (((x1).length:Int)=(12:Int))) x3 x4 x5 x6 x7 x8 x9 jt (x1)))
  (cond (decide (x4=(9:Int)))
  (bY.j3 n x1 x2 x4 (decide (x4=(9:Int))) x3 x4 x5 x6 x7 x8 x9 jt jH)
  (cond (decide (x4=(17:Int)))
  (bY.j3 n x1 x2 x4 (decide (x4=(17:Int))) x3 x4 x5 x6 x7 x8 x9 jt jH)
  (bY.j3 n x1 x2 x4 (decide (x4=(18:Int))) x3 x4 x5 x6 x7 x8 x9 jt jH)))))))=ρ):bY.j1 n x0 x1 x2 x3 x4 x5 x6 x7 x8 x9 jt jH=ρ:=((congrFun (congrFun (gQ _ _) _) _).trans (by kernel_rfl)).trans (K _ rfl _ rfl _ rfl _ rfl _ rfl _ rfl _ rfl _ rfl _ rfl _ rfl _ rfl _ rfl _ rfl _ rfl _ rfl _ rfl)
theorem bY.jw (n:Nat) (x0:Bool) (x1:bE) (x2:Int) (x3:UInt64) (x4:UInt64) (x5:UInt64) (x6:bS) (x7:bS) (x8:Int) (x9:List UInt8):bY.j2 n x0 x1 x2 x3 x4 x5 x6 x7 x8 x9=some [(.ag [(.i .i64 x2),(.u64 x3),(.u64 x4),(.u64 x5),(.s x6),(.s x7),(.i .i64 x8),(.sl .bs x9),(.sl .fl ([]:List bG))]),(.b x0)]:=((congrFun (congrFun (gQ _ _) _) _).trans (by kernel_rfl))
theorem bY.sA (n:Nat) (x0:List UInt8) (x1:Bool) (x2:Int) (x3:Bool) (x4:bE) (x5:Int) (x6:UInt64) (x7:UInt64) (x8:UInt64) (x9:bS) (jt:bS) (jH:Int) (mK:List UInt8) {ρ:OT} (K:∀(v1:bS) (h1:v1=((Dk.cut x0 ((([0]:bS)).getD 0 0)).1)) (v2:bS) (h2:v2=((Dk.cut x0 ((([0]:bS)).getD 0 0)).2.1)) (v3:Bool) (h3:v3=((Dk.cut x0 ((([0]:bS)).getD 0 0)).2.2)) (v4:Bool) (h4:v4=(cond v3 (!(decide (0≤Lib.indexByte v2 ((([0]:bS)).getD 0 0)))) false)) (v5:Bool) (h5:v5=(cond v4 (dK.whole v1) false)) (v6:Bool) (h6:v6=(cond v5 (dK.whole v2) false)) (v7:List UInt8) (h7:v7=(List.drop ((12:Int)).toNat x0)) (v8:Bool) (h8:v8=(cond (decide ((12:Int)≤((x0).length:Int))) (dK.whole v7) false)) (v9:List UInt8) (h9:v9=(List.take ((12:Int)).toNat x0)),cond x3
  (ck (decide ((x0).length≤1099511627776)) (bY.j2 n (decide (((x0).length:Int)=(8:Int))) x4 x5 (cM.be x0) x7 x8 x9 jt jH mK))
  (cond (decide (x2=(11:Int)))
  (ck (decide ((([0]:bS)).length=1∧x0.length≤1099511627776)) (ck (!v3 || (v3&&(decide ((([0]:bS)).length=1)))) (ck (!v3 || v3) (ck (!v3 || v3) (ck (!v4 || (v4&&(kJ (v1).length))) (ck (!v4 || (v4&&(decide ((v1).length≤1099511627776)))) (ck (!v4 || v4) (ck (!v5 || (v5&&(kJ (v2).length))) (ck (!v5 || (v5&&(decide ((v2).length≤1099511627776)))) (ck (!v5 || v5) (bY.j2 n v6 x4 x5 x6 x7 x8 v1 v2 jH mK)))))))))))
  (cond (decide (x2=(12:Int)))
  (ck (!(decide ((12:Int)≤((x0).length:Int))) || ((decide ((12:Int)≤((x0).length:Int)))&&(ja (12:Int) (x0).length (x0).length))) (ck (!(decide ((12:Int)≤((x0).length:Int))) || ((decide ((12:Int)≤((x0).length:Int)))&&(decide ((v7).length≤1099511627776)))) (ck (!(decide ((12:Int)≤((x0).length:Int))) || (decide ((12:Int)≤((x0).length:Int)))) (cond v8
  (ck (ja 0 (12:Int) (x0).length) (ck (fS (v9).length 1) (ck (ja (12:Int) (x0).length (x0).length) (bY.j2 n v8 x4 x5 x6 x7 x8 v7 jt jH (v9)))))
  (bY.j2 n v8 x4 x5 x6 x7 x8 x9 jt jH mK)))))
  (cond (decide (x2=(13:Int)))
  (bY.j4 n x0 x1 x2 (decide (x2=(13:Int))) x4 x5 x6 x7 x8 x9 jt jH mK)
  (bY.j4 n x0 x1 x2 (decide (x2=(14:Int))) x4 x5 x6 x7 x8 x9 jt jH mK))))=ρ):bY.j3 n x0 x1 x2 x3 x4 x5 x6 x7 x8 x9 jt jH mK=ρ:=((congrFun (congrFun (gQ _ _) _) _).trans (by kernel_rfl)).trans (K _ rfl _ rfl _ rfl _ rfl _ rfl _ rfl _ rfl _ rfl _ rfl)
theorem bY.Cn (n:Nat) (x0:List UInt8) (x1:Bool) (x2:Int) (x3:Bool) (x4:bE) (x5:Int) (x6:UInt64) (x7:UInt64) (x8:UInt64) (x9:bS) (jt:bS) (jH:Int) (mK:List UInt8) {ρ:OT} (K:∀(v1:List UInt8) (h1:v1=(List.take ((8:Int)).toNat x0)) (v2:List UInt8) (h2:v2=(List.drop ((8:Int)).toNat x0)),cond x3
  (ck (decide ((x0).length≤1099511627776)) (bY.j2 n (dK.whole x0) x4 x5 x6 x7 x8 x0 jt jH mK))
  (cond (decide (x2=(19:Int)))
  (cond (decide (((x0).length:Int)=(16:Int)))
  (ck (ja 0 (8:Int) (x0).length) (ck (decide ((v1).length≤1099511627776)) (ck (ja (8:Int) (x0).length (x0).length) (ck (decide ((v2).length≤1099511627776)) (bY.j2 n (decide (((x0).length:Int)=(16:Int))) x4 x5 x6 (cM.be v1) (cM.be v2) x9 jt jH mK)))))
  (bY.j2 n (decide (((x0).length:Int)=(16:Int))) x4 x5 x6 x7 x8 x9 jt jH mK))
  (cond (decide (x2=(6:Int)))
  (bY.j5 n x0 x1 (decide (x2=(6:Int))) x4 x5 x6 x7 x8 x9 jt jH mK)
  (cond (decide (x2=(255:Int)))
  (bY.j5 n x0 x1 (decide (x2=(255:Int))) x4 x5 x6 x7 x8 x9 jt jH mK)
  (bY.j5 n x0 x1 (decide (x2=(127:Int))) x4 x5 x6 x7 x8 x9 jt jH mK))))=ρ):bY.j4 n x0 x1 x2 x3 x4 x5 x6 x7 x8 x9 jt jH mK=ρ:=((congrFun (congrFun (gQ _ _) _) _).trans (by kernel_rfl)).trans (K _ rfl _ rfl)
theorem bY.Cm (n:Nat) (x0:List UInt8) (x1:Bool) (x2:Bool) (x3:bE) (x4:Int) (x5:UInt64) (x6:UInt64) (x7:UInt64) (x8:bS) (x9:bS) (jt:Int) (jH:List UInt8):bY.j5 n x0 x1 x2 x3 x4 x5 x6 x7 x8 x9 jt jH=cond x2
  (bY.j2 n (decide (((x0).length:Int)=(0:Int))) x3 x4 x5 x6 x7 x8 x9 jt jH)
  (bY.j2 n x1 x3 x4 x5 x6 x7 x8 x9 jt jH):=((congrFun (congrFun (gQ _ _) _) _).trans (by kernel_rfl))
theorem bY.dV (n:Nat) (it:bM) (within:Int) {ρ:OT} (K:∀(v1:Int) (h1:v1=(IntKind.i64.wrap (((bM.n it)).toNat:Int))),cond (decide (v1=(126:Int)))
  (bY.j1 n within (bM.bytes it) false (bE.mk 0 0 0 0 [] [] 0 [] []) (255:Int) (0:UInt64) (0:UInt64) (0:UInt64) ([]:bS) ([]:bS) (0:Int) ([]:List UInt8))
  (bY.j1 n within (bM.bytes it) false (bE.mk 0 0 0 0 [] [] 0 [] []) v1 (0:UInt64) (0:UInt64) (0:UInt64) ([]:bS) ([]:bS) (0:Int) ([]:List UInt8))=ρ):bY.F n it within=ρ:=Eq.trans (by kernel_rfl) (K _ rfl)
theorem bY.di (n:Nat):CK 70 (bY.env n) bY.d:=eI (by kernel_rfl)
def fv.env (n:Nat):EV:=[(28,(dm.cn n,dm.sg)),(103,(ei.c,ei.sg))]
def fv.E (n:Nat):eo:=cK tryzGl (fv.env n)
def fv.m:TM:=oS [oK (.k (.bx 1037)) [0,1037] [3,1037],oN 1038 zV 6,oW (.b false) 7] (oS [oV 1 11,oX (.k (.call 103 (.plain 2 2))) [.s 11,.c (.i .i64 1000)] [12],oV 12 10,oE 0 10 13,oE 1 10 14,oN 1039 zI 8,oN 1040 zT 9,oT 1039 0 5 8 13,oT 1040 0 3 9 14] (.seq (oS [oA 1040 0 0 9 15,oL 1040 0 1 15 16,oI .neq 16 (.i .i64 0) 17,oV 17 18,oG 18 false (oA 1039 0 0 8 19),oG 18 false (oL 1039 0 1 19 20),oG 18 false (oI .neq 20 (.i .i64 6) 21),oX (.k .pick) [.s 18,.c (.b true),.s 21] [22]] (.cond (.s 22) [] (oS [oK (.bd zV []) [] [23],oT 1038 0 9 6 23,oW (.b false) 7] .ret) .skip)) none (oS [oM 1037 0 9 3 25,oA 1039 0 4 8 26,oL 1039 4 1 26 27,oV 2 28,oI .add 28 (.i .i64 1) 29,oX (.k (.mq 28 4 2 2 1)) [.s 25,.s 27,.c (.sl .is ([]:List Int)),.s 29] [30],oV 30 24,oE 0 24 31,oE 1 24 32,oT 1037 0 9 3 31,oT 1040 0 3 9 32] (oS [oM 1037 0 9 3 33,oA 1040 0 0 9 34,oL 1040 0 1 34 35,oI .eql 35 (.i .i64 0) 36,oT 1038 0 9 6 33,oV 36 7] .ret))))
def fv.d:gD:=D0 3 fv.m [.c 6 1038 9 true,.t 7]
def fv.F (n:Nat) (v:bE) (b:List UInt8) (within:Int):OT:=fv.d.run (fv.E n) [(.ag [(.i .i64 (bE.kind v)),(.u64 (bE.bits v)),(.u64 (bE.high v)),(.u64 (bE.low v)),(.s (bE.text v)),(.s (bE.more v)),(.i .i64 (bE.sub v)),(.sl .bs (bE.bytes v)),(.c (.slice none 0 0))]),(.sl .bs b),(.i .i64 within)]
theorem fv.dV (n:Nat) (v:bE) (b:List UInt8) (within:Int) {ρ:OT} (K:∀(v1:ez) (h1:v1=((Mp.dec b ((1000:Int))).2)) (v2:Bool) (h2:v2=(!(!decide ((ez.err v1)=(0:Int))))) (v3:Int) (h3:v3=(bD.kind ((Mp.dec b ((1000:Int))).1))) (v4:Bool) (h4:v4=(cond (!decide ((ez.err v1)=(0:Int))) true (!decide (v3=(6:Int))))) (v5:List bD) (h5:v5=(bD.kids ((Mp.dec b ((1000:Int))).1))) (v6:Int) (h6:v6=(IntKind.i64.wrap (within+(1:Int)))) (v7:bE) (h7:v7=(Db.jd.val (Db.ir.qZ (bE.mk (bE.kind v) (bE.bits v) (bE.high v) (bE.low v) (bE.text v) (bE.more v) (bE.sub v) (bE.bytes v) []) (Dk.fields (200 - v6).toNat v5 0 (([]:List Int)))))) (v8:ez) (h8:v8=(Db.jd.yd (Db.ir.qZ (bE.mk (bE.kind v) (bE.bits v) (bE.high v) (bE.low v) (bE.text v) (bE.more v) (bE.sub v) (bE.bytes v) []) (Dk.fields (200 - v6).toNat v5 0 (([]:List Int)))))),ck (decide ((b).length≤1099511627776)) (ck (!v2 || v2) (ck (!v2 || v2) (ck ((!decide ((ez.err v1)=(0:Int))) || v2) (cond v4
  (some [(.ag [(.i .i64 0),(.u64 0),(.u64 0),(.u64 0),(.s []),(.s []),(.i .i64 0),(.sl .bs ([]:List UInt8)),(.sl .fl ([]:List bG))]),(.b false)])
  (ck ((decide ((Mp.fF v5).length+((([]:List Int))).length≤536870912)&&decide (Mp.gw v5=0∧(v5).length % 2=0∧0≤v6∧v6≤200))&&decide ((4 * (Mp.fF v5).length+3)<n)) (some [(.ag (bE.cells v7)),(.b (decide ((ez.err v8)=(0:Int))))]))))))=ρ):fv.F n v b within=ρ:=Eq.trans (by kernel_rfl) (K _ rfl _ rfl _ rfl _ rfl _ rfl _ rfl _ rfl _ rfl)
theorem fv.di (n:Nat):CK 84 (fv.env n) fv.d:=eI (by kernel_rfl)
def eu.env:EV:=[(26,(cP.c,cP.sg)),(27,(eH.c,eH.sg)),(28,(dm.c,dm.sg))]
def eu.E:eo:=cK tryzGl eu.env
def eu.m:TM:=oS [oK (.k (.bx 1023)) [0,1023] [1,1023],oN 1024 zV 2,oN 1025 zT 3] (.seq (oS [oM 1023 0 5 1 5,oC 26 1 1 [5] 6,oV 6 4] (oS [oV 4 7,oI .neq 7 (.i .i64 0) 8] (.cond (.s 8) [] (oS [oK (.bd zV []) [] [9],oV 4 10,oK (.bd zT [(0,1)]) [10] [11],oT 1024 0 9 2 9,oT 1025 0 3 3 11] .ret) .skip))) none (.seq (oS [oA 1023 0 0 1 12,oL 1023 0 1 12 13,oI .neq 13 (.i .i64 6) 14] (.cond (.s 14) [] (oS [oK (.bd zV []) [] [15],oX (.k (.mq 27 1 1 0 1)) [.c (.sl .is ([]:List Int))] [16],oT 1024 0 9 2 15,oT 1025 0 3 3 16] .ret) .skip)) none (oS [oX (.bd [(.i .i64 0),(.u64 0),(.u64 0),(.u64 0),(.s []),(.s []),(.i .i64 0),(.sl .bs ([]:List UInt8)),(.c (.slice none 0 0))] [(0,1)]) [.c (.i .i64 3)] [17],oA 1023 0 4 1 18,oL 1023 4 1 18 19,oX (.k (.mq 28 4 2 2 1)) [.s 17,.s 19,.c (.sl .is ([]:List Int)),.c (.i .i64 0)] [20],oE 0 20 21,oE 1 20 22,oT 1024 0 9 2 21,oT 1025 0 3 3 22] .ret)))
def eu.d:gD:=D0 1 eu.m [.c 2 1024 9 true,.c 3 1025 3 true]
def eu.F (it:bM):OT:=eu.d.run eu.E [(.ag (bM.cells it))]
theorem eu.dV (it:bM) {ρ:OT} (K:∀(v1:ez) (h1:v1=((ez.mk 12 0 (([]:List Int))))) (v2:bE) (h2:v2=(Db.jd.val (Db.ir.qZ (bE.mk 3 0 0 0 [] [] 0 [] []) (Dk.fields (200 - ((0:Int))).toNat ((bM.kids it)) 0 (([]:List Int)))))) (v3:ez) (h3:v3=(Db.jd.yd (Db.ir.qZ (bE.mk 3 0 0 0 [] [] 0 [] []) (Dk.fields (200 - ((0:Int))).toNat ((bM.kids it)) 0 (([]:List Int)))))),ck (decide (bD.cA (bD.of it)≤1099511627776)) (cond (!decide ((Mp.di (bD.of it))=(0:Int)))
  (some [(.ag [(.i .i64 0),(.u64 0),(.u64 0),(.u64 0),(.s []),(.s []),(.i .i64 0),(.sl .bs ([]:List UInt8)),(.sl .fl ([]:List bG))]),(.ag [(.i .i64 (Mp.di (bD.of it))),(.i .i64 0),(.sl .is ([]:List Int))])])
  (cond (!decide ((bM.kind it)=(6:Int)))
  (ck (decide (((([]:List Int))).length≤1099511627776)) (some [(.ag [(.i .i64 0),(.u64 0),(.u64 0),(.u64 0),(.s []),(.s []),(.i .i64 0),(.sl .bs ([]:List UInt8)),(.sl .fl ([]:List bG))]),(.ag (ez.cells v1))]))
  (ck (decide ((Mp.fF ((bM.kids it))).length+((([]:List Int))).length≤536870912)&&decide (Mp.gw ((bM.kids it))=0∧(((bM.kids it))).length % 2=0∧0≤((0:Int))∧((0:Int))≤200)) (some [(.ag (bE.cells v2)),(.ag (ez.cells v3))]))))=ρ):eu.F it=ρ:=Eq.trans (by kernel_rfl) (K _ rfl _ rfl _ rfl)
theorem eu.di:CK 14 eu.env eu.d:=eI (by kernel_rfl)
def dv.env:EV:=[]
def dv.E:eo:=cK tryzGl dv.env
def dv.m:TM:=oS [oN 1005 zI 2] (oS [oV 0 3,oX (.bd zI [(0,1),(3,1)]) [.c (.i .i64 4),.s 3] [4],oT 1005 0 5 2 4] .ret)
def dv.d:gD:=D0 1 dv.m [.c 2 1005 5 true]
def dv.F (s:bS):OT:=dv.d.run dv.E [(.s s)]
theorem dv.fR (s:bS):dv.F s=some [(.ag [(.i .i64 4),(.u64 0),(.sl .bs ([]:List UInt8)),(.s s),(.sl .il ([]:List bD))])]:=by kernel_rfl
theorem dv.di:CK 38 dv.env dv.d:=eI (by kernel_rfl)
def cI.env:EV:=[]
def cI.E:eo:=cK tryzGl cI.env
def cI.m1:TM:=oS [oV 0 7,oK (.k (.ci .u64)) [7] [8],oV 1 9,oX (.bd zI [(0,1),(1,1),(2,1)]) [.c (.i .i64 10),.s 8,.s 9] [10],oT 1011 0 5 4 10] .ret
def cI.m:TM:=oS [oN 1011 zI 4] (.seq (oS [oV 0 5,oI .eql 5 (.i .i64 255) 6] (.cond (.s 6) [(4,.ptr 1011 0),(1011,.cl [])] (.fK [oW (.i .i64 126) 0]) .skip)) (some [0,1,4,1011]) cI.m1)
def cI.d:gD:=D0 2 cI.m [.c 4 1011 5 true]
def cI.F (k:Int) (b:List UInt8):OT:=cI.d.run cI.E [(.i .i64 k),(.sl .bs b)]
def cI.j1 (x0:Int) (x1:List UInt8) (x2:bM):OT:=gY _ cI.E cI.m1 (dT [0,1,4,1011] [(.i .i64 x0),(.sl .bs x1),.pt,(.ag (bM.cells x2))]) (gJ cI.d)
theorem cI.lv (x0:Int) (x1:List UInt8) (x2:bM):cI.j1 x0 x1 x2=some [(.ag [(.i .i64 10),(.u64 (UInt64.ofInt x0)),(.sl .bs x1),(.s []),(.sl .il ([]:List bD))])]:=((congrFun (congrFun (gQ _ _) _) _).trans (by kernel_rfl))
theorem cI.fR (k:Int) (b:List UInt8):cI.F k b=cond (decide (k=(255:Int)))
  (cI.j1 (126:Int) b (bM.mk 0 0 [] [] []))
  (cI.j1 k b (bM.mk 0 0 [] [] [])):=by kernel_rfl
theorem cI.di:CK 62 cI.env cI.d:=eI (by kernel_rfl)
def bR.env (n:Nat):EV:=[(38,(dv.c,dv.sg)),(39,(bJ.cn n,bJ.sg))]
def bR.E (n:Nat):eo:=cK tryzGl (bR.env n)
def bR.m1:TM := .seq (oS [oV 4 6,oV 0 7,oK (.k .len) [7] [8],oB .lss 6 8 9] (.cond (.s 9) [] .skip (.exit 0))) none (.seq (.block 1 [(2,.ptr 1030 0),(3,.ptr 1031 0),(1030,.cl []),(1031,.cl [(4,107,5)]),(lk 107,.live 5)] (.fK [oA 1031 0 4 3 12,oL 1031 4 1 12 13,oV 0 14,oV 4 15,oK (.k (.ix 10)) [14,15] [16],oK (.k (.fr 0 1 false)) [16] [17],oK (.k (.lr 1 false)) [17] [18],oC 38 1 1 [18] 19,oV 0 20,oV 4 21,oK (.k (.ix 10)) [20,21] [22],oK (.k (.fr 1 9 true)) [22] [23],oK (.k (.lr 9 true)) [23] [24],oC 39 1 1 [24] 25,oK (.bl .il 2) [19,25] [26],oK (.k (.ap 105 107 5 80)) [13,26,(lk 105),(lk 107)] [27,lk 105,lk 107],oA 1031 0 4 3 28,oT 1031 4 1 28 27])) none (.fK [oV 4 10,oI .add 10 (.i .i64 1) 11,oV 11 4]))
def bR.m:TM:=oS [oN 1030 zI 2] (oS [oX (.bd [(.i .i64 0),(.u64 0),(.c (.slice none 0 0)),(.s []),(.c (.slice none 0 0))] [(0,1)]) [.c (.i .i64 6)] [5],oN 1031 zI 3,oK (.pF 1031 0 5 [(4,105,.il)]) [3,1031,5,(lk 105)] [1031,lk 105]] (.seq (oS [oW (.i .i64 0) 4] (.block 0 [(2,.ptr 1030 0),(3,.ptr 1031 0),(1030,.cl []),(1031,.cl [(4,105,5)]),(lk 105,.live 5)] (.loop [0,2,3,4,1030,1031] [(2,.ptr 1030 0),(3,.ptr 1031 0),(1030,.cl []),(1031,.cl [(4,105,5)]),(lk 105,.live 5)] bR.m1))) none (oS [oM 1031 0 5 3 29,oK (.pF 1030 0 5 [(2,108,.bs)]) [2,1030,29,(lk 108)] [1030,lk 108]] .ret)))
def bR.d:gD:=D0 1 bR.m [.c 2 1030 5 true]
def bR.F (n:Nat) (l:List bG):OT:=bR.d.run (bR.E n) [(.sl .fl l)]
def bR.k1 (n:Nat):fT (List TV):=iw (ev _ (bR.E n) (oS [oM 1031 0 5 3 29,oK (.pF 1030 0 5 [(2,108,.bs)]) [2,1030,29,(lk 108)] [1030,lk 108]] .ret)) none (gJ bR.d)
def bR.l1 (n:Nat) (x0:List bG) (x1:Int) (x2:bM) (x3:Int) (x4:UInt64) (x5:bS) (x6:List bD):OT:=gx (gY _ (bR.E n) bR.m1) oz [0,2,3,4,1030,1031] (dT [0,2,3,4,1030,1031] [(.sl .fl x0),.pt,.pt,(.i .i64 x1),(.ag (bM.cells x2)),(.ag [(.i .i64 x3),(.u64 x4),(.c (.slice none 0 0)),(.s x5),(.sl .il x6)])]) (er 0 (bR.k1 n))
theorem bR.ew (n:Nat) (x0:List bG) (x1:Int) (x2:bM) (x3:Int) (x4:UInt64) (x5:bS) (x6:List bD) {ρ:OT} (K:∀(v1:bG) (h1:v1=(List.getD x0 (x1).toNat (eJ.fc .fl))) (v2:List bD) (h2:v2=([(bD.of (bD.val (Db.text ((bG.name v1))))),(bD.of (bD.val (Dk.item (bG.of [] (bG.val v1)))))]:List bD)) (v3:Int) (h3:v3=(IntKind.i64.wrap (x1+(1:Int)))),cond (decide (x1<((x0).length:Int)))
  (ck (eK x1 (x0).length) (ck (eK x1 (x0).length) (ck ((decide (bG.cA (bG.of [] (bG.val v1))≤1048576)&&Tree.jF (bG.of [] (bG.val v1)))&&decide ((2 * bG.cA (bG.of [] (bG.val v1))+1)<n)) (ck (fS ((x6).length+(v2).length) 80) (bR.l1 n x0 v3 x2 x3 x4 x5 (x6++v2))))))
  (some [(.ag [(.i .i64 x3),(.u64 x4),(.sl .bs ([]:List UInt8)),(.s x5),(.sl .il x6)])])=ρ):bR.l1 n x0 x1 x2 x3 x4 x5 x6=ρ:=((fD _ _ _ _ _ _).trans (by kernel_rfl)).trans (K _ rfl _ rfl _ rfl)
theorem bR.fR (n:Nat) (l:List bG):bR.F n l=bR.l1 n l (0:Int) (bM.mk 0 0 [] [] []) (6:Int) (0:UInt64) ([]:bS) ([]:List bD):=by kernel_rfl
theorem bR.di (n:Nat):CK 23 (bR.env n) bR.d:=eI (by kernel_rfl)
def bJ.env (n:Nat):EV:=[(23,(bR.cn n,bR.sg)),(38,(dv.c,dv.sg)),(39,(bJ.cn n,bJ.sg)),(61,(bU.c,bU.sg)),(62,(cI.c,cI.sg)),(63,(cF.c,cF.sg)),(64,(bP.c,bP.sg)),(65,(cR.c,cR.sg))]
def bJ.E (n:Nat):eo:=cK tryzGl (bJ.env n)
def bJ.m1:TM := .seq (oS [oV 4 36,oA 1175 0 8 1 37,oL 1175 8 1 37 38,oK (.k .len) [38] [39],oB .lss 36 39 40] (.cond (.s 40) [] .skip (.exit 1))) none (.seq (.block 2 [(1,.ptr 1175 0),(2,.ptr 1176 0),(3,.ptr 1177 0),(1175,.cl []),(1176,.cl []),(1177,.cl [(4,109,5)]),(lk 109,.live 5)] (.fK [oA 1177 0 4 3 43,oL 1177 4 1 43 44,oA 1175 0 8 1 45,oL 1175 8 1 45 46,oV 4 47,oK (.k (.ix 10)) [46,47] [48],oK (.k (.fr 1 9 true)) [48] [49],oK (.k (.lr 9 true)) [49] [50],oC 39 1 1 [50] 51,oK (.bl .il 1) [51] [52],oK (.k (.ap 107 109 5 80)) [44,52,(lk 107),(lk 109)] [53,lk 107,lk 109],oA 1177 0 4 3 54,oT 1177 4 1 54 53])) none (.fK [oV 4 41,oI .add 41 (.i .i64 1) 42,oV 42 4]))
def bJ.m2:TM := .cond (.s 125) [] (oS [oA 1175 0 0 1 128,oL 1175 0 1 128 129,oA 1175 0 4 1 130,oL 1175 4 1 130 131,oK (.k .sb) [131] [132],oC 62 2 1 [129,132] 133,oT 1176 0 5 2 133] .ret) (oS [oI .eql 6 (.i .i64 15) 135,oV 135 134] (.cond (.s 134) [] (oS [oA 1175 0 0 1 136,oL 1175 0 1 136 137,oA 1175 0 4 1 138,oL 1175 4 1 138 139,oK (.k .uO) [139] [140],oK (.k (.ci .u64)) [140] [141],oX (.k (.call 64 ⟨2,none,[],[],1,[(0,127,1)],none,[]⟩)) [.s 141,.c (.i .i64 4),.s (lk 127)] [142,lk 127],oA 1175 0 4 1 143,oL 1175 4 1 143 144,oK (.k (.zp 127 128 1)) [142,144,(lk 127),(lk 128)] [145,lk 127,lk 128],oA 1175 0 8 1 146,oL 1175 8 1 146 147,oC 23 1 1 [147] 148,oC 63 1 1 [148] 149,oK (.k (.ap 128 129 1 1)) [145,149,(lk 128),(lk 129)] [150,lk 128,lk 129],oC 62 2 1 [137,150] 151,oT 1176 0 5 2 151] .ret) (oS [oI .eql 6 (.i .i64 16) 153,oV 153 152] (.cond (.s 152) [] (oS [oA 1175 0 1 1 154,oL 1175 1 1 154 155,oK (.k (.ci .u32)) [155] [156],oK (.k (.ci .i32)) [156] [157],oK (.k (.ci .i64)) [157] [158],oC 65 1 1 [158] 159,oT 1176 0 5 2 159] .ret) (oS [oI .eql 6 (.i .i64 19) 161,oV 161 160] (.cond (.s 160) [] (oS [oA 1175 0 0 1 162,oL 1175 0 1 162 163,oA 1175 0 2 1 164,oL 1175 2 1 164 165,oX (.k (.call 64 ⟨2,none,[],[],1,[(0,130,1)],none,[]⟩)) [.s 165,.c (.i .i64 8),.s (lk 130)] [166,lk 130],oA 1175 0 3 1 167,oL 1175 3 1 167 168,oX (.k (.call 64 ⟨2,none,[],[],1,[(0,131,1)],none,[]⟩)) [.s 168,.c (.i .i64 8),.s (lk 131)] [169,lk 131],oK (.k (.ap 130 132 1 1)) [166,169,(lk 130),(lk 132)] [170,lk 130,lk 132],oC 62 2 1 [163,170] 171,oT 1176 0 5 2 171] .ret) .skip))))))
def bJ.m3:TM := .cond (.s 90) [] (oS [oA 1175 0 0 1 94,oL 1175 0 1 94 95,oA 1175 0 1 1 96,oL 1175 1 1 96 97,oX (.k (.call 64 ⟨2,none,[],[],1,[(0,118,1)],none,[]⟩)) [.s 97,.c (.i .i64 8),.s (lk 118)] [98,lk 118],oC 62 2 1 [95,98] 99,oT 1176 0 5 2 99] .ret) (oS [oI .eql 6 (.i .i64 11) 101,oV 101 100] (.cond (.s 100) [] (oS [oA 1175 0 0 1 102,oL 1175 0 1 102 103,oA 1175 0 4 1 104,oL 1175 4 1 104 105,oK (.k (.DV 119)) [105,(lk 119)] [106,lk 119],oX (.bl .bs 1) [.c (.u8 0)] [107],oK (.k (.ap 119 121 1 1)) [106,107,(lk 119),(lk 121)] [108,lk 119,lk 121],oA 1175 0 5 1 109,oL 1175 5 1 109 110,oK (.k (.zp 121 122 1)) [108,110,(lk 121),(lk 122)] [111,lk 121,lk 122],oC 62 2 1 [103,111] 112,oT 1176 0 5 2 112] .ret) (oS [oI .eql 6 (.i .i64 12) 114,oV 114 113] (.cond (.s 113) [] (oS [oA 1175 0 0 1 115,oL 1175 0 1 115 116,oK (.blt .bs 0 123) [(lk 123)] [117,lk 123],oA 1175 0 7 1 118,oL 1175 7 1 118 119,oK (.k (.ap 123 124 1 1)) [117,119,(lk 123),(lk 124)] [120,lk 123,lk 124],oA 1175 0 4 1 121,oL 1175 4 1 121 122,oK (.k (.zp 124 125 1)) [120,122,(lk 124),(lk 125)] [123,lk 124,lk 125],oC 62 2 1 [116,123] 124,oT 1176 0 5 2 124] .ret) (.seq (oS [oI .eql 6 (.i .i64 13) 126,oV 126 125] (.cond (.s 125) [(1,.ptr 1175 0),(2,.ptr 1176 0),(1175,.cl []),(1176,.cl [])] .skip (.fK [oI .eql 6 (.i .i64 14) 127,oV 127 125]))) (some [1,2,6,125,1175,1176]) bJ.m2)))))
def bJ.m:TM:=oS [oK (.k (.bx 1175)) [0,1175] [1,1175],oN 1176 zI 2] (.seq (oS [oA 1175 0 0 1 5,oL 1175 0 1 5 6] (.block 0 [(1,.ptr 1175 0),(2,.ptr 1176 0),(1175,.cl []),(1176,.cl [])] (oS [oI .eql 6 (.i .i64 1) 8,oV 8 7] (.cond (.s 7) [] (oS [oA 1175 0 1 1 9,oL 1175 1 1 9 10,oX (.bd zI [(0,1),(1,1)]) [.c (.i .i64 9),.s 10] [11],oT 1176 0 5 2 11] .ret) (oS [oI .eql 6 (.i .i64 2) 13,oV 13 12] (.cond (.s 12) [] (oS [oA 1175 0 4 1 14,oL 1175 4 1 14 15,oC 38 1 1 [15] 16,oT 1176 0 5 2 16] .ret) (oS [oI .eql 6 (.i .i64 3) 18,oV 18 17] (.cond (.s 17) [] (oS [oA 1175 0 8 1 19,oL 1175 8 1 19 20,oC 23 1 1 [20] 21,oT 1176 0 5 2 21] .ret) (oS [oI .eql 6 (.i .i64 4) 23,oV 23 22] (.cond (.s 22) [] (.seq (oS [oA 1175 0 8 1 24,oL 1175 8 1 24 25,oC 61 1 1 [25] 26,oK (.k (.un .not)) [26] [27]] (.cond (.s 27) [] (oS [oA 1175 0 0 1 28,oL 1175 0 1 28 29,oA 1175 0 8 1 30,oL 1175 8 1 30 31,oC 23 1 1 [31] 32,oC 63 1 1 [32] 33,oC 62 2 1 [29,33] 34,oT 1176 0 5 2 34] .ret) .skip)) none (oS [oX (.bd [(.i .i64 0),(.u64 0),(.c (.slice none 0 0)),(.s []),(.c (.slice none 0 0))] [(0,1)]) [.c (.i .i64 5)] [35],oN 1177 zI 3,oK (.pF 1177 0 5 [(4,107,.il)]) [3,1177,35,(lk 107)] [1177,lk 107]] (.seq (oS [oW (.i .i64 0) 4] (.block 1 [(2,.ptr 1176 0),(3,.ptr 1177 0),(1176,.cl []),(1177,.cl [(4,107,5)]),(lk 107,.live 5)] (.loop [1,2,3,4,1175,1176,1177] [(1,.ptr 1175 0),(2,.ptr 1176 0),(3,.ptr 1177 0),(1175,.cl []),(1176,.cl []),(1177,.cl [(4,107,5)]),(lk 107,.live 5)] bJ.m1))) none (oS [oM 1177 0 5 3 55,oK (.pF 1176 0 5 [(2,110,.bs)]) [2,1176,55,(lk 110)] [1176,lk 110]] .ret)))) (oS [oI .eql 6 (.i .i64 5) 57,oV 57 56] (.cond (.s 56) [] (.seq (oS [oA 1175 0 6 1 58,oL 1175 6 1 58 59,oI .eql 59 (.i .i64 0) 60] (.cond (.s 60) [] (oS [oA 1175 0 7 1 61,oL 1175 7 1 61 62,oX (.bd zI [(0,1),(2,1)]) [.c (.i .i64 3),.s 62] [63],oT 1176 0 5 2 63] .ret) .skip)) none (oS [oA 1175 0 0 1 64,oL 1175 0 1 64 65,oA 1175 0 6 1 66,oL 1175 6 1 66 67,oK (.k (.ci .u8)) [67] [68],oK (.blt .bs 1 112) [68,(lk 112)] [69,lk 112],oA 1175 0 7 1 70,oL 1175 7 1 70 71,oK (.k (.ap 112 113 1 1)) [69,71,(lk 112),(lk 113)] [72,lk 112,lk 113],oC 62 2 1 [65,72] 73,oT 1176 0 5 2 73] .ret)) (oS [oI .eql 6 (.i .i64 10) 75,oV 75 74] (.cond (.s 74) [] (oS [oX (.bd zI [(0,1),(1,1)]) [.c (.i .i64 8),.c (.u64 22)] [76],oT 1176 0 5 2 76] .ret) (oS [oI .eql 6 (.i .i64 8) 78,oV 78 77] (.cond (.s 77) [] (oS [oA 1175 0 1 1 79,oL 1175 1 1 79 80,oX (.k (.bin .add)) [.c (.u64 20),.s 80] [81],oX (.bd zI [(0,1),(1,1)]) [.c (.i .i64 8),.s 81] [82],oT 1176 0 5 2 82] .ret) (oS [oI .eql 6 (.i .i64 7) 84,oV 84 83] (.cond (.s 83) [] (oS [oA 1175 0 0 1 85,oL 1175 0 1 85 86,oA 1175 0 7 1 87,oL 1175 7 1 87 88,oC 62 2 1 [86,88] 89,oT 1176 0 5 2 89] .ret) (.seq (oS [oI .eql 6 (.i .i64 9) 91,oV 91 90] (.cond (.s 90) [(1,.ptr 1175 0),(2,.ptr 1176 0),(1175,.cl []),(1176,.cl [])] .skip (oS [oI .eql 6 (.i .i64 17) 92,oV 92 90] (.cond (.s 90) [(1,.ptr 1175 0),(2,.ptr 1176 0),(1175,.cl []),(1176,.cl [])] .skip (.fK [oI .eql 6 (.i .i64 18) 93,oV 93 90]))))) (some [1,2,6,90,1175,1176]) bJ.m3))))))))))))))))))) none (oS [oA 1175 0 0 1 172,oL 1175 0 1 172 173,oX (.k (.call 62 (.plain 2 1))) [.s 173,.c (.sl .bs ([]:List UInt8))] [174],oT 1176 0 5 2 174] .ret))
def bJ.d:gD:=D0 1 bJ.m [.c 2 1176 5 true]
def bJ.F (n:Nat) (v:bE):OT:=bJ.d.run (bJ.E n) [(.ag (bE.cells v))]
def bJ.k1 (n:Nat):fT (List TV):=iw (ev _ (bJ.E n) (oS [oA 1175 0 0 1 172,oL 1175 0 1 172 173,oX (.k (.call 62 (.plain 2 1))) [.s 173,.c (.sl .bs ([]:List UInt8))] [174],oT 1176 0 5 2 174] .ret)) none (gJ bJ.d)
def bJ.k2 (n:Nat):fT (List TV):=iw (ev _ (bJ.E n) (oS [oM 1177 0 5 3 55,oK (.pF 1176 0 5 [(2,110,.bs)]) [2,1176,55,(lk 110)] [1176,lk 110]] .ret)) none (er 0 (bJ.k1 n))
def bJ.l1 (n:Nat) (x0:Int) (x1:bE) (x2:bM) (x3:Int) (x4:UInt64) (x5:bS) (x6:List bD):OT:=gx (gY _ (bJ.E n) bJ.m1) oz [1,2,3,4,1175,1176,1177] (dT [1,2,3,4,1175,1176,1177] [.pt,.pt,.pt,(.i .i64 x0),(.ag (bE.cells x1)),(.ag (bM.cells x2)),(.ag [(.i .i64 x3),(.u64 x4),(.c (.slice none 0 0)),(.s x5),(.sl .il x6)])]) (er 1 (bJ.k2 n))
def bJ.j2 (n:Nat) (x0:Int) (x1:Bool) (x2:bE) (x3:bM):OT:=gY _ (bJ.E n) bJ.m3 (dT [1,2,6,90,1175,1176] [.pt,.pt,(.i .i64 x0),(.b x1),(.ag (bE.cells x2)),(.ag (bM.cells x3))]) (er 0 (bJ.k1 n))
def bJ.j3 (n:Nat) (x0:Int) (x1:Bool) (x2:bE) (x3:bM):OT:=gY _ (bJ.E n) bJ.m2 (dT [1,2,6,125,1175,1176] [.pt,.pt,(.i .i64 x0),(.b x1),(.ag (bE.cells x2)),(.ag (bM.cells x3))]) (er 0 (bJ.k1 n))
theorem bJ.ew (n:Nat) (x0:Int) (x1:bE) (x2:bM) (x3:Int) (x4:UInt64) (x5:bS) (x6:List bD) {ρ:OT} (K:∀(v1:Int) (h1:v1=(((bE.kids x1)).length:Int)) (v2:bG) (h2:v2=(List.getD (bE.kids x1) (x0).toNat (eJ.fc .fl))) (v3:List bD) (h3:v3=([(bD.of (bD.val (Dk.item (bG.of [] (bG.val v2)))))]:List bD)) (v4:Int) (h4:v4=(IntKind.i64.wrap (x0+(1:Int)))),cond (decide (x0<v1))
  (ck (eK x0 ((bE.kids x1)).length) (ck ((decide (bG.cA (bG.of [] (bG.val v2))≤1048576)&&Tree.jF (bG.of [] (bG.val v2)))&&decide ((2 * bG.cA (bG.of [] (bG.val v2))+1)<n)) (ck (fS ((x6).length+(v3).length) 80) (bJ.l1 n v4 x1 x2 x3 x4 x5 (x6++v3)))))
  (some [(.ag [(.i .i64 x3),(.u64 x4),(.sl .bs ([]:List UInt8)),(.s x5),(.sl .il x6)])])=ρ):bJ.l1 n x0 x1 x2 x3 x4 x5 x6=ρ:=((fD _ _ _ _ _ _).trans (by kernel_rfl)).trans (K _ rfl _ rfl _ rfl _ rfl)
theorem bJ.ng (n:Nat) (x0:Int) (x1:Bool) (x2:bE) (x3:bM) {ρ:OT} (K:∀(v1:List UInt8) (h1:v1=(cM.eb ((bE.bits x2)) (((8:Int))).toNat)) (v2:List UInt8) (h2:v2=((bE.text x2)++([(0:UInt8)]:List UInt8))) (v3:List UInt8) (h3:v3=(([]:List UInt8)++(bE.bytes x2))),cond x1
  (ck (decide (0≤((8:Int))∧((8:Int))≤8)) (some [(.ag (bM.cells (bD.val (Dk.ext ((bE.kind x2)) v1))))]))
  (cond (decide (x0=(11:Int)))
  (ck (kJ ((bE.text x2)).length) (ck (fS (((bE.text x2)).length+(([(0:UInt8)]:List UInt8)).length) 1) (ck (fS ((v2).length+((bE.more x2)).length) 1) (some [(.ag (bM.cells (bD.val (Dk.ext ((bE.kind x2)) ((v2++(bE.more x2)))))))]))))
  (cond (decide (x0=(12:Int)))
  (ck (fS ((([]:List UInt8)).length+((bE.bytes x2)).length) 1) (ck (fS ((v3).length+((bE.text x2)).length) 1) (some [(.ag (bM.cells (bD.val (Dk.ext ((bE.kind x2)) ((v3++(bE.text x2)))))))])))
  (cond (decide (x0=(13:Int)))
  (bJ.j3 n x0 (decide (x0=(13:Int))) x2 x3)
  (bJ.j3 n x0 (decide (x0=(14:Int))) x2 x3))))=ρ):bJ.j2 n x0 x1 x2 x3=ρ:=((congrFun (congrFun (gQ _ _) _) _).trans (by kernel_rfl)).trans (K _ rfl _ rfl _ rfl)
theorem bJ.sA (n:Nat) (x0:Int) (x1:Bool) (x2:bE) (x3:bM) {ρ:OT} (K:∀(v1:Int) (h1:v1=(((bE.text x2)).length:Int)) (v2:List UInt8) (h2:v2=(cM.eb ((UInt64.ofInt v1)) (((4:Int))).toNat)) (v3:List UInt8) (h3:v3=(Mp.lay (bD.of (bD.val (Db.map (Dk.mapped ((bE.kids x2)))))))) (v4:List UInt8) (h4:v4=((v2++(bE.text x2))++v3)) (v5:UInt32) (h5:v5=(UInt32.ofInt (((bE.bits x2)).toNat:Int))) (v6:Int) (h6:v6=(IntKind.i32.wrap ((v5).toNat:Int))) (v7:List UInt8) (h7:v7=(cM.eb ((bE.high x2)) (((8:Int))).toNat)) (v8:List UInt8) (h8:v8=(cM.eb ((bE.low x2)) (((8:Int))).toNat)),cond x1
  (ck (kJ ((bE.text x2)).length) (some [(.ag (bM.cells (bD.val (Dk.ext ((bE.kind x2)) ((bE.text x2))))))]))
  (cond (decide (x0=(15:Int)))
  (ck (decide (0≤((4:Int))∧((4:Int))≤8)) (ck (fS ((v2).length+((bE.text x2)).length) 1) (ck ((decide (bG.cE ((bE.kids x2))≤1048576)&&Tree.gg ((bE.kids x2)))&&decide ((2 * bG.cE ((bE.kids x2))+2)<n)) (ck (decide (16 * bD.cA (bD.of (bD.val (Db.map (Dk.mapped ((bE.kids x2))))))≤1099511627776)&&decide (Mp.di (bD.of (bD.val (Db.map (Dk.mapped ((bE.kids x2))))))=0)) (ck (fS (((v2++(bE.text x2))).length+(v3).length) 1) (some [(.ag (bM.cells (bD.val (Dk.ext ((bE.kind x2)) v4))))]))))))
  (cond (decide (x0=(16:Int)))
  (ck (decide (-9223372036854775808≤((IntKind.i64.wrap v6))∧((IntKind.i64.wrap v6))≤9223372036854775807)) (some [(.ag (bM.cells (bD.val (Db.integer ((IntKind.i64.wrap v6))))))]))
  (cond (decide (x0=(19:Int)))
  (ck (decide (0≤((8:Int))∧((8:Int))≤8)) (ck (decide (0≤((8:Int))∧((8:Int))≤8)) (ck (fS ((v7).length+(v8).length) 1) (some [(.ag (bM.cells (bD.val (Dk.ext ((bE.kind x2)) ((v7++v8))))))]))))
  (some [(.ag (bM.cells (bD.val (Dk.ext ((bE.kind x2)) (([]:List UInt8))))))]))))=ρ):bJ.j3 n x0 x1 x2 x3=ρ:=((congrFun (congrFun (gQ _ _) _) _).trans (by kernel_rfl)).trans (K _ rfl _ rfl _ rfl _ rfl _ rfl _ rfl _ rfl _ rfl)
theorem bJ.dV (n:Nat) (v:bE) {ρ:OT} (K:∀(v1:Bool) (h1:v1=(Tree.regular ((bE.kids v)))) (v2:List UInt8) (h2:v2=(Mp.lay (bD.of (bD.val (Db.map (Dk.mapped ((bE.kids v)))))))) (v3:List UInt8) (h3:v3=([(UInt8.ofInt (bE.sub v))]:List UInt8)) (v4:UInt64) (h4:v4=((20:UInt64)+(bE.bits v))),cond (decide ((bE.kind v)=(1:Int)))
  (some [(.ag [(.i .i64 9),(.u64 (bE.bits v)),(.sl .bs ([]:List UInt8)),(.s []),(.sl .il ([]:List bD))])])
  (cond (decide ((bE.kind v)=(2:Int)))
  (some [(.ag (bM.cells (bD.val (Db.text ((bE.text v))))))])
  (cond (decide ((bE.kind v)=(3:Int)))
  (ck ((decide (bG.cE ((bE.kids v))≤1048576)&&Tree.gg ((bE.kids v)))&&decide ((2 * bG.cE ((bE.kids v))+2)<n)) (some [(.ag (bM.cells (bD.val (Db.map (Dk.mapped ((bE.kids v)))))))]))
  (cond (decide ((bE.kind v)=(4:Int)))
  (ck (decide (((bE.kids v)).length≤1099511627776)) (cond (!v1)
  (ck ((decide (bG.cE ((bE.kids v))≤1048576)&&Tree.gg ((bE.kids v)))&&decide ((2 * bG.cE ((bE.kids v))+2)<n)) (ck (decide (16 * bD.cA (bD.of (bD.val (Db.map (Dk.mapped ((bE.kids v))))))≤1099511627776)&&decide (Mp.di (bD.of (bD.val (Db.map (Dk.mapped ((bE.kids v))))))=0)) (some [(.ag (bM.cells (bD.val (Dk.ext ((bE.kind v)) v2))))])))
  (bJ.l1 n (0:Int) v (bM.mk 0 0 [] [] []) (5:Int) (0:UInt64) ([]:bS) ([]:List bD))))
  (cond (decide ((bE.kind v)=(5:Int)))
  (cond (decide ((bE.sub v)=(0:Int)))
  (some [(.ag [(.i .i64 3),(.u64 0),(.sl .bs (bE.bytes v)),(.s []),(.sl .il ([]:List bD))])])
  (ck (fS ((v3).length+((bE.bytes v)).length) 1) (some [(.ag (bM.cells (bD.val (Dk.ext ((bE.kind v)) ((v3++(bE.bytes v)))))))])))
  (cond (decide ((bE.kind v)=(10:Int)))
  (some [(.ag [(.i .i64 8),(.u64 22),(.sl .bs ([]:List UInt8)),(.s []),(.sl .il ([]:List bD))])])
  (cond (decide ((bE.kind v)=(8:Int)))
  (some [(.ag [(.i .i64 8),(.u64 v4),(.sl .bs ([]:List UInt8)),(.s []),(.sl .il ([]:List bD))])])
  (cond (decide ((bE.kind v)=(7:Int)))
  (some [(.ag (bM.cells (bD.val (Dk.ext ((bE.kind v)) ((bE.bytes v))))))])
  (cond (decide ((bE.kind v)=(9:Int)))
  (bJ.j2 n (bE.kind v) (decide ((bE.kind v)=(9:Int))) v (bM.mk 0 0 [] [] []))
  (cond (decide ((bE.kind v)=(17:Int)))
  (bJ.j2 n (bE.kind v) (decide ((bE.kind v)=(17:Int))) v (bM.mk 0 0 [] [] []))
  (bJ.j2 n (bE.kind v) (decide ((bE.kind v)=(18:Int))) v (bM.mk 0 0 [] [] [])))))))))))=ρ):bJ.F n v=ρ:=Eq.trans (by kernel_rfl) (K _ rfl _ rfl _ rfl _ rfl)
theorem bJ.di (n:Nat):CK 39 (bJ.env n) bJ.d:=eI (by kernel_rfl)
def dF.env:EV:=[(17,(bX.c,bX.sg)),(18,(dp.c,dp.sg)),(23,(bR.c,bR.sg))]
def dF.E:eo:=cK tryzGl dF.env
def dF.m:TM:=oS [oK (.k (.bx 1034)) [0,1034] [1,1034],oN 1035 zI 2,oN 1036 zT 3] (oS [oM 1034 0 9 1 7,oC 18 1 2 [7] 8,oV 8 6,oE 0 6 9,oE 1 6 10,oV 9 4,oV 10 5] (.seq (.block 0 [(1,.ptr 1034 0),(2,.ptr 1035 0),(3,.ptr 1036 0),(1034,.cl []),(1035,.cl []),(1036,.cl [])] (oS [oV 5 12,oI .neq 12 (.i .i64 0) 13,oV 13 11] (.cond (.s 11) [] (oS [oK (.bd zI []) [] [14],oV 5 15,oV 4 16,oK (.bd zT [(0,1),(2,1)]) [15,16] [17],oT 1035 0 5 2 14,oT 1036 0 3 3 17] .ret) (oS [oA 1034 0 0 1 19,oL 1034 0 1 19 20,oI .neq 20 (.i .i64 3) 21,oV 21 18] (.cond (.s 18) [] (oS [oK (.bd zI []) [] [22],oX (.bd zT [(0,1)]) [.c (.i .i64 5)] [23],oT 1035 0 5 2 22,oT 1036 0 3 3 23] .ret) (oS [oM 1034 0 9 1 25,oC 17 1 1 [25] 26,oI .gtr 26 (.i .i64 200) 27,oV 27 24] (.cond (.s 24) [] (oS [oK (.bd zI []) [] [28],oX (.bd zT [(0,1)]) [.c (.i .i64 8)] [29],oT 1035 0 5 2 28,oT 1036 0 3 3 29] .ret) .skip))))))) none (oS [oA 1034 0 8 1 30,oL 1034 8 1 30 31,oC 23 1 1 [31] 32,oK (.bd zT []) [] [33],oT 1035 0 5 2 32,oT 1036 0 3 3 33] .ret)))
def dF.d:gD:=D0 1 dF.m [.c 2 1035 5 true,.c 3 1036 3 true]
def dF.F (v:bE):OT:=dF.d.run dF.E [(.ag (bE.cells v))]
theorem dF.dV (v:bE) {ρ:OT} (K:∀(v1:List Int) (h1:v1=((Tree.ga (bG.of [] v) []).1)) (v2:Int) (h2:v2=((Tree.ga (bG.of [] v) []).2)) (v3:Int) (h3:v3=((Tree.depth (bG.of [] v):Int))),ck (decide (bG.cA (bG.of [] v)≤1099511627776)) (cond (!decide (v2=(0:Int)))
  (some [(.ag [(.i .i64 0),(.u64 0),(.sl .bs ([]:List UInt8)),(.s []),(.sl .il ([]:List bD))]),(.ag [(.i .i64 v2),(.i .i64 0),(.sl .is v1)])])
  (cond (!decide ((bE.kind v)=(3:Int)))
  (some [(.ag [(.i .i64 0),(.u64 0),(.sl .bs ([]:List UInt8)),(.s []),(.sl .il ([]:List bD))]),(.ag [(.i .i64 5),(.i .i64 0),(.sl .is ([]:List Int))])])
  (ck (decide (bG.cA (bG.of [] v)≤1099511627776)) (cond (decide ((200:Int)<v3))
  (some [(.ag [(.i .i64 0),(.u64 0),(.sl .bs ([]:List UInt8)),(.s []),(.sl .il ([]:List bD))]),(.ag [(.i .i64 8),(.i .i64 0),(.sl .is ([]:List Int))])])
  (ck (decide (bG.cE ((bE.kids v))≤1048576)&&Tree.gg ((bE.kids v))) (some [(.ag (bM.cells (bD.val (Db.map (Dk.mapped ((bE.kids v))))))),(.ag [(.i .i64 0),(.i .i64 0),(.sl .is ([]:List Int))])]))))))=ρ):dF.F v=ρ:=Eq.trans (by kernel_rfl) (K _ rfl _ rfl _ rfl)
theorem dF.di:CK 10 dF.env dF.d:=eI (by kernel_rfl)
end
end Go.Eng
namespace Go.Eng
open Go.Proofs
noncomputable section
def dc.env:EV:=[(9,(fp.c,fp.sg)),(14,(eu.c,eu.sg))]
def dc.E:eo:=cK tryzGl dc.env
def dc.m:TM:=oS [oW (.b false) 0] (oS [oX (.bd zV [(0,1),(1,1)]) [.c (.i .i64 18),.c (.u64 1)] [6],oX (.bd zD [(0,1),(1,9)]) [.c (.s ([97]:bS)),.s 6] [7],oK (.bl .fl 1) [7] [8],oX (.bd zV [(0,1),(8,1)]) [.c (.i .i64 3),.s 8] [9],oC 9 1 2 [9] 10,oV 10 5,oE 0 5 11,oE 1 5 12,oN 1070 zI 1,oN 1071 zT 2,oT 1070 0 5 1 11,oT 1071 0 3 2 12] (oS [oX (.bd zI [(0,1)]) [.c (.i .i64 1)] [14],oC 14 1 2 [14] 15,oV 15 13,oE 0 13 16,oE 1 13 17,oN 1072 zV 3,oN 1073 zT 4,oT 1072 0 9 3 16,oT 1073 0 3 4 17] (oS [oA 1071 0 0 2 18,oL 1071 0 1 18 19,oI .eql 19 (.i .i64 0) 20,oV 20 21,oG 21 true (oA 1070 0 0 1 22),oG 21 true (oL 1070 0 1 22 23),oG 21 true (oI .eql 23 (.i .i64 6) 24),oP 21 24 false 25,oV 25 26,oG 26 true (oA 1070 0 4 1 27),oG 26 true (oL 1070 4 1 27 28),oG 26 true (oK (.k .len) [28] [29]),oG 26 true (oI .eql 29 (.i .i64 2) 30),oP 26 30 false 31,oV 31 32,oG 32 true (oA 1070 0 4 1 33),oG 32 true (oL 1070 4 1 33 34),oG 32 true (oX (.k (.ix 5)) [.s 34,.c (.i .i64 0)] [35]),oG 32 true (oK (.k (.fr 3 1 false)) [35] [36]),oG 32 true (oK (.k (.lr 1 false)) [36] [37]),oG 32 true (oI .eql 37 (.s ([97]:bS)) 38),oP 32 38 false 39,oV 39 40,oG 40 true (oA 1070 0 4 1 41),oG 40 true (oL 1070 4 1 41 42),oG 40 true (oX (.k (.ix 5)) [.s 42,.c (.i .i64 1)] [43]),oG 40 true (oK (.k (.fr 0 1 false)) [43] [44]),oG 40 true (oK (.k (.lr 1 false)) [44] [45]),oG 40 true (oI .eql 45 (.i .i64 10) 46),oP 40 46 false 47,oV 47 48,oG 48 true (oA 1070 0 4 1 49),oG 48 true (oL 1070 4 1 49 50),oG 48 true (oX (.k (.ix 5)) [.s 50,.c (.i .i64 1)] [51]),oG 48 true (oK (.k (.fr 1 1 false)) [51] [52]),oG 48 true (oK (.k (.lr 1 false)) [52] [53]),oG 48 true (oI .eql 53 (.u64 18) 54),oP 48 54 false 55,oV 55 56,oG 56 true (oA 1070 0 4 1 57),oG 56 true (oL 1070 4 1 57 58),oG 56 true (oX (.k (.ix 5)) [.s 58,.c (.i .i64 1)] [59]),oG 56 true (oK (.k (.fr 2 1 false)) [59] [60]),oG 56 true (oK (.k (.lr 1 false)) [60] [61]),oG 56 true (oK (.k .len) [61] [62]),oG 56 true (oI .eql 62 (.i .i64 8) 63),oP 56 63 false 64,oV 64 65,oG 65 true (oA 1073 0 0 4 66),oG 65 true (oL 1073 0 1 66 67),oG 65 true (oI .eql 67 (.i .i64 12) 68),oP 65 68 false 69,oV 69 0] .ret)))
def dc.d:gD:=D0 0 dc.m [.t 0]
def dc.F  : OT:=dc.d.run dc.E []
theorem dc.dV  {ρ:OT} (K:∀(v1:List bG) (h1:v1=([(bG.mk ([97]:bS) 18 1 0 0 [] [] 0 [] [])]:List bG)) (v2:ez) (h2:v2=((Dk.enc (bE.mk 3 0 0 0 [] [] 0 [] v1)).2)) (v3:bE) (h3:v3=((Dk.dec (bD.of (bM.mk 1 0 [] [] []))).1)) (v4:ez) (h4:v4=((Dk.dec (bD.of (bM.mk 1 0 [] [] []))).2)) (v5:Int) (h5:v5=(bD.kind ((Dk.enc (bE.mk 3 0 0 0 [] [] 0 [] v1)).1))) (v6:Bool) (h6:v6=(cond (decide ((ez.err v2)=(0:Int))) (decide (v5=(6:Int))) false)) (v7:List bD) (h7:v7=(bD.kids ((Dk.enc (bE.mk 3 0 0 0 [] [] 0 [] v1)).1))) (v8:Bool) (h8:v8=(cond v6 (decide (((v7).length:Int)=(2:Int))) false)) (v9:bS) (h9:v9=(bD.text (List.getD v7 ((0:Int)).toNat (eJ.fc .il)))) (v10:Bool) (lZ:v10=(cond v8 (decide (v9=([97]:bS))) false)) (v11:Int) (yb:v11=(bD.kind (List.getD v7 ((1:Int)).toNat (eJ.fc .il)))) (v12:Bool) (ya:v12=(cond v10 (decide (v11=(10:Int))) false)) (kN:UInt64) (wN:kN=(bD.n (List.getD v7 ((1:Int)).toNat (eJ.fc .il)))) (jc:Bool) (xZ:jc=(cond v12 (decide (kN=(18:UInt64))) false)) (mM:List UInt8) (Ai:mM=(bD.bytes (List.getD v7 ((1:Int)).toNat (eJ.fc .il)))) (lf:Bool) (sH:lf=(cond jc (decide (((mM).length:Int)=(8:Int))) false)) (pC:Bool) (tg:pC=(cond lf (decide ((ez.err v4)=(12:Int))) false)),ck (decide (bG.cA (bG.of [] (bE.mk 3 0 0 0 [] [] 0 [] v1))≤1048576)) (ck (decide (bD.cA (bD.of (bM.mk 1 0 [] [] []))≤1048576)) (ck (!(decide ((ez.err v2)=(0:Int))) || (decide ((ez.err v2)=(0:Int)))) (ck (!(decide ((ez.err v2)=(0:Int))) || (decide ((ez.err v2)=(0:Int)))) (ck (!(decide ((ez.err v2)=(0:Int))) || (decide ((ez.err v2)=(0:Int)))) (ck (!v6 || v6) (ck (!v6 || v6) (ck (!v6 || v6) (ck (!v6 || v6) (ck (!v8 || v8) (ck (!v8 || (v8&&(eK (0:Int) (v7).length))) (ck (!v8 || v8) (ck (!v8 || v8) (ck (!v8 || v8) (ck (!v8 || v8) (ck (!v10 || v10) (ck (!v10 || (v10&&(eK (1:Int) (v7).length))) (ck (!v10 || v10) (ck (!v10 || v10) (ck (!v10 || v10) (ck (!v10 || v10) (ck (!v12 || v12) (ck (!v12 || (v12&&(eK (1:Int) (v7).length))) (ck (!v12 || v12) (ck (!v12 || v12) (ck (!v12 || v12) (ck (!v12 || v12) (ck (!jc || jc) (ck (!jc || (jc&&(eK (1:Int) (v7).length))) (ck (!jc || jc) (ck (!jc || jc) (ck (!jc || jc) (ck (!jc || jc) (ck (!jc || jc) (ck (!lf || lf) (ck (!lf || lf) (ck (!lf || lf) (some [(.b pC)])))))))))))))))))))))))))))))))))))))=ρ):dc.F  = ρ:=Eq.trans (by kernel_rfl) (K _ rfl _ rfl _ rfl _ rfl _ rfl _ rfl _ rfl _ rfl _ rfl _ rfl _ rfl _ rfl _ rfl _ rfl _ rfl _ rfl _ rfl)
theorem dc.di:CK 7 dc.env dc.d:=eI (by kernel_rfl)
end
end Go.Eng
namespace Go.Eng
open Go.IntWalk
theorem fV.goal (r:Int):fV.F r=some [.b (dK.ku r)]:=by
 refine fV.dV r ?_
 intro v1 h1 v2 h2 v3 h3
 subst h1 h2 h3
 by_cases a:0≤r <;> by_cases b:r≤1114111 <;> by_cases c:r<55296 <;> simp [ck,a,b,c,dK.ku]
theorem Im:∀n,n<256→((n &&& 192=128) ↔ (128≤n∧n<192)):=by decide +kernel
theorem La:∀n,n<256→(128≤n∧n<192)→n &&& 63=n - 128:=by decide +kernel
theorem Lb:∀n,n<256→(192≤n∧n<224)→n &&& 31=n - 192:=by decide +kernel
theorem Lc:∀n,n<256→(224≤n∧n<240)→n &&& 15=n - 224:=by decide +kernel
theorem OZ:∀n,n<256→(240≤n∧n<248)→n &&& 7=n - 240:=by decide +kernel
theorem A1 (c:UInt8):c.toNat<256:=by have:=c.toNat_lt;simpa using this
theorem Ax (c:UInt8):decide ((c &&& (192:UInt8))=(128:UInt8))=decide (128≤c.toNat∧c.toNat<192):=by
 have h:=Im c.toNat (A1 c)
 rw [aY]
 simp only [aB]
 rw [←h,←UInt8.toNat_inj,UInt8.toNat_and]
 exact Iff.rfl
theorem ME (c:UInt8) (h:128≤c.toNat∧c.toNat<192):((c &&& (63:UInt8)).toNat:Int)=((c.toNat - 128:Nat):Int):=by
 rw [UInt8.toNat_and]
 exact congrArg _ (La c.toNat (A1 c) h)
def s6 (r:Option Nat) (more least:Nat):OT:=match r with
 | some r=>if r<least∨dK.ku r=false then some [.i .i64 0,.i .i64 0] else some [.i .i64 r,.i .i64 (more+1:Int)]
 | none=>some [.i .i64 0,.i .i64 0]
theorem yQ (c:Nat) (more least:Nat) (l:bS):s6 (dK.cont c more l) more least=some [.i .i64 (dK.mA c more least l).1,.i .i64 (dK.mA c more least l).2]:=by
 unfold s6 dK.mA
 cases dK.cont c more l with
 | none=>rfl
 | some r=>simp only;split <;> rfl
theorem bT.end_ (r:Nat) (more least:Nat) (hm:more<8) :
  (ck (!(!(decide ((r:Int)<(least:Int)))) || (!(decide ((r:Int)<(least:Int))))) (ck (!(!(decide ((r:Int)<(least:Int)))) || (!(decide ((r:Int)<(least:Int))))) (ck ((decide ((r:Int)<(least:Int))) || (!(decide ((r:Int)<(least:Int))))) (cond (cond (decide ((r:Int)<(least:Int))) true (!(dK.ku r)))
  (bT.l1)
  (some [(.i .i64 (r:Int)),(.i .i64 (IntKind.i64.wrap ((more:Int)+(1:Int))))])))))=s6 (some r) more least:=by
 simp only [aP,bB,cV]
 rw [i64_in _ (by omega),bT.tN]
 unfold s6
 by_cases h:r<least
 ·simp [h]
 ·simp only [show ¬((r:Int)<(least:Int)) by omega,decide_false,aj,h,false_or]
  cases dK.ku r <;> simp
theorem bT.Jx (b:bS) (at_:Nat) (more least:Nat) (hm:more<8) (hb:b.length≤1099511627776) (gM:at_+more<b.length):∀(k i r:Nat),i+k=more+1→r<2 ^ (10+6 * i) →
  bT.l3 b at_ r more least i=s6 (dK.cont r k (b.drop (at_+i))) more least:=by
 intro k
 induction k with
 | zero =>
  intro i r hi hr
  refine bT.Ci _ _ _ _ _ _ ?_
  intro v1 h1 v2 h2 v3 h3 v4 h4 v5 h5 v6 h6 v7 h7
  rw [show decide ((i:Int)≤(more:Int))=false by simp;omega,aj]
  subst h6 h7
  rw [dK.cont]
  exact bT.end_ r more least hm
 | succ k ih =>
  intro i r hi hr
  refine bT.Ci _ _ _ _ _ _ ?_
  intro v1 h1 v2 h2 v3 h3 v4 h4 v5 h5 v6 h6 v7 h7
  have hw:IntKind.i64.wrap ((at_:Int)+(i:Int))=((at_+i:Nat):Int):=by rw [i64_in _ (by omega)];omega
  have Ou:=drop_cons (l:=b) (i:=at_+i) (by omega) 0
  rw [show decide ((i:Int)≤(more:Int))=true by simp;omega,aq,hw]
  rw [hw,aK] at h1
  rw [bK (fO (by omega) (by omega)),Ou,←h1,dK.cont,h2,Ax]
  by_cases hc:128≤v1.toNat∧v1.toNat<192
  ·rw [ao hc,aa hc]
   simp only [aV,aj]
   rw [bK (fO (by omega) (by omega))]
   have hp:2 ^ (10+6 * i) * 64=2 ^ (10+6 * (i+1)):=by rw [show 10+6 * (i+1)=(10+6 * i)+6 by omega,Nat.pow_add 2 (10+6 * i) 6]
   have pq:2 ^ (10+6 * (i+1))≤2 ^ 58:=Nat.pow_le_pow_right (by omega) (by omega)
   have N0:r * 64+64≤2 ^ (10+6 * (i+1)):=by
    rw [←hp];have:=bu 64 (Nat.succ_le_of_lt hr);omega
   have e3:v3=((r * 64:Nat):Int):=by
    rw [h3]
    have:(min (((6:UInt64)).toNat) (IntKind.i64.bits))=6:=by decide
    rw [this,i64_in _ (by simp at pq;omega)];simp
   have e4:v4=((v1.toNat - 128:Nat):Int):=by
    rw [h4,ME v1 hc];exact i64_in _ (by omega)
   have e5:v5=((i+1:Nat):Int):=by rw [h5,i64_in _ (by omega)];omega
   have e6:eA .or .i64 v3 v4=((r * 64+(v1.toNat - 128):Nat):Int):=by
    rw [e3,e4,GX _ _ (by simp at pq;omega) (by omega)]
    have:=BE (a:=r) (b:=v1.toNat - 128) (k:=6) (by simp;omega)
    simp at this
    rw [this]
   rw [e6,e5,ih (i+1) _ (by omega) (by omega),Nat.add_assoc]
  ·rw [ah hc,af hc]
   simp only [aX,aq]
   rw [bT.tN];rfl
theorem bT.jM (b : bS) (at_ : Nat) (r more least : Nat) (hm : 1 ≤ more ∧ more < 8) (hb : b.length ≤ 1099511627776) (gM : at_ < b.length) (hr : r < 1024) :
    bT.j2 b at_ r more least = s6 (dK.cont r more (b.drop (at_ + 1))) more least := by
  have LD : ∀ (k r : Nat) (l : bS), l.length < k → dK.cont r k l = none := by
    intro k
    induction k with
    | zero => intro r l h; omega
    | succ k ih =>
      intro r l h
      cases l with
      | nil => rfl
      | cons c l => rw [dK.cont]; split
                    · exact ih _ _ (by simp at h; omega)
                    · rfl
  have key := fun (h : at_ + more < b.length) => bT.Jx b at_ more least hm.2 hb h more 1 r (by omega) (by simp; omega)
  by_cases hx : at_ + more < b.length
  · rw [← key hx]
    refine bT.ng _ _ _ _ _ ?_
    intro v1 h1 v2 h2 v3 h3 v4 h4 v5 h5 v6 h6 v7 h7 v8 h8 v9 h9 v10 lZ
    symm
    refine bT.Ci _ _ _ _ _ _ ?_
    intro w1 k1 w2 k2 w3 k3 w4 k4 w5 k5 w6 k6 w7 k7
    have e1 : v1 = (b.length : Int) - at_ := by rw [h1]; exact i64_in _ (by omega)
    have e2 : v2 = (b.length : Int) - at_ - 1 := by rw [h2, e1]; exact i64_in _ (by omega)
    rw [show decide (v2 < (more : Int)) = false by simp; omega, aj]
    have a1 : ((1 : Nat) : Int) = 1 := rfl
    simp only [a1] at k1 k2 k3 k4 k5 k6 k7 ⊢
    subst h3; subst h4; subst h5; subst h6; subst h7; subst h8; subst h9; subst lZ; subst k1; subst k2; subst k3; subst k4; subst k5; subst k6; subst k7
    rfl
  · refine bT.ng _ _ _ _ _ ?_
    intro v1 h1 v2 h2 v3 h3 v4 h4 v5 h5 v6 h6 v7 h7 v8 h8 v9 h9 v10 lZ
    have e1 : v1 = (b.length : Int) - at_ := by rw [h1]; exact i64_in _ (by omega)
    have e2 : v2 = (b.length : Int) - at_ - 1 := by rw [h2, e1]; exact i64_in _ (by omega)
    rw [show decide (v2 < (more : Int)) = true by simp; omega, aq, bT.tN, LD _ _ _ (by simp; omega)]
    rfl
theorem nr (lo hi n:Nat):(cond (decide ((lo:Int)≤(n:Int))) (decide ((n:Int)<(hi:Int))) false)=decide (lo≤n∧n<hi):=by
 by_cases a:lo≤n
 ·rw [show decide ((lo:Int)≤(n:Int))=true by simp;omega,aq,aY];simp;omega
 ·rw [show decide ((lo:Int)≤(n:Int))=false by simp;omega,aj,af (by omega)]
theorem bT.goal (b:bS) (at_:Int) (hp:decide (b.length≤1099511627776)=true):bT.F b at_=some [.i .i64 (dK.iF b at_).1,.i .i64 (dK.iF b at_).2]:=by
 have hb:b.length≤1099511627776:=aD hp
 refine bT.dV b at_ ?_
 intro v1 h1 v2 h2 v3 h3 v4 h4 v5 h5 v6 h6 v7 h7 v8 h8 v9 h9
 unfold dK.iF
 by_cases h0:at_<0
 ·subst h1
  simp [h0,ck,bT.tN]
 ·have hd0:decide (at_<0)=false:=af h0
  obtain ⟨i,rfl⟩:=Int.eq_ofNat_of_zero_le (show 0≤at_ by omega)
  rw [hd0] at h1 ⊢
  subst h1
  simp only [aX,aV,Bool.false_or,Bool.or_true,cV,aj,aK] at h2 ⊢
  by_cases hl:b.length≤i
  ·rw [show decide ((b.length:Int)≤(i:Int))=true by simp;omega,ao (.inr (by omega)),aq,bT.tN];rfl
  ·rw [show decide ((b.length:Int)≤(i:Int))=false by simp;omega,ah (by omega),aj,bK (fO (by omega) (by omega)),drop_cons (l:=b) (i:=i) (by omega) 0,←h2,dK.rune]
   have hc:=A1 v2
   have e3:v3=(v2.toNat:Int):=by rw [h3];exact i64_in _ (by omega)
   have an:∀(m:Nat),m<256→eA .and .i64 v3 m=((v2.toNat &&& m:Nat):Int):=fun m h=>by rw [e3,Fk _ _ (by omega) (by omega)]
   have R4:v5=((v2.toNat &&& 31:Nat):Int):=h5.trans (an 31 (by omega))
   have R3:v7=((v2.toNat &&& 15:Nat):Int):=h7.trans (an 15 (by omega))
   have RZ:v9=((v2.toNat &&& 7:Nat):Int):=h9.trans (an 7 (by omega))
   have e4:v4=decide (192≤v2.toNat∧v2.toNat<224):=by rw [h4,e3];exact nr 192 224 _
   have e6:v6=decide (224≤v2.toNat∧v2.toNat<240):=by rw [h6,e3];exact nr 224 240 _
   have e8:v8=decide (240≤v2.toNat∧v2.toNat<248):=by rw [h8,e3];exact nr 240 248 _
   have J:∀(r more least:Nat),1≤more∧more<8→r<1024→bT.j2 b i r more least=some [.i .i64 (dK.mA r more least (b.drop (i+1))).1,.i .i64 (dK.mA r more least (b.drop (i+1))).2]:=fun r more least h1 h2 =>
    (bT.jM b i r more least h1 hb (by omega) h2).trans (yQ _ _ _ _)
   simp only [aP,cV]
   by_cases c1:v2.toNat<128
   ·rw [ao c1,e3,show decide ((v2.toNat:Int)<128)=true by simp;omega,aq];rfl
   ·rw [ah c1,show decide (v3<(128:Int))=false by rw [e3];simp;omega,aj,e4]
    by_cases c2:192≤v2.toNat∧v2.toNat<224
    ·rw [ao c2,aa c2,aq,R4,Lb _ hc c2];exact J _ 1 128 (by omega) (by omega)
    ·rw [ah c2,af c2,aj,e6]
     by_cases c3:224≤v2.toNat∧v2.toNat<240
     ·rw [ao c3,aa c3,aq,R3,Lc _ hc c3];exact J _ 2 2048 (by omega) (by omega)
     ·rw [ah c3,af c3,aj,e8]
      by_cases c4:240≤v2.toNat∧v2.toNat<248
      ·rw [ao c4,aa c4,aq,RZ,OZ _ hc c4];exact J _ 3 65536 (by omega) (by omega)
      ·rw [ah c4,af c4,aj,bT.tN];rfl
theorem dK.oc (l:bS):0≤(dK.rune l).2∧(dK.rune l).2≤l.length:=by
 have jD:∀(k r q:Nat) (l:bS),dK.cont r k l=some q→k≤l.length:=by
  intro k
  induction k with
  | zero=>intro r q l _;omega
  | succ k ih =>
   intro r q l h
   cases l with
   | nil=>cases h
   | cons c l =>
    rw [dK.cont] at h
    split at h
    ·have:=ih _ _ _ h;simp;omega
    ·cases h
 have Oc:∀(r more least:Nat) (l:bS),0≤(dK.mA r more least l).2∧(dK.mA r more least l).2≤l.length+1:=by
  intro r more least l
  unfold dK.mA
  cases h:dK.cont r more l with
  | none=>simp;omega
  | some q =>
   have:=jD _ _ _ _ h
   simp only
   split <;> simp <;> omega
 cases l with
 | nil=>exact ⟨by decide,by decide⟩
 | cons c l =>
  unfold dK.rune
  simp only [aF]
  split
  ·simp;omega
  ·split
   ·have:=Oc (c.toNat - 192) 1 128 l;omega
   ·split
    ·have:=Oc (c.toNat - 224) 2 2048 l;omega
    ·split
     ·have:=Oc (c.toNat - 240) 3 65536 l;omega
     ·simp;omega
theorem dK.B9 (l:bS):∀n,l.length≤n→dK.mC n l=dK.mC l.length l:=by
 have key:∀(m:Nat) (l:bS),l.length≤m→∀n,l.length≤n→dK.mC n l=dK.mC l.length l:=by
  intro m
  induction m with
  | zero =>
   intro l hl n hn
   have:l=[]:=List.length_eq_zero_iff.1 (by omega)
   subst this
   cases n with
   | zero=>rfl
   | succ n=>rfl
  | succ m ih =>
   intro l hl n hn
   cases h:l.length with
   | zero =>
    have:l=[]:=List.length_eq_zero_iff.1 h
    subst this
    cases n <;> rfl
   | succ k =>
    cases n with
    | zero=>omega
    | succ n =>
     unfold dK.mC
     have hs:=dK.oc l
     by_cases h0:(dK.rune l).2=0
     ·rw [ao h0,ao h0]
     ·rw [ah h0,ah h0]
      have hd:(l.drop (dK.rune l).2.toNat).length≤k:=by simp;omega
      rw [ih _ (by simp;omega) n (by simp;omega),ih _ (by simp;omega) k hd]
 exact fun n hn=>key _ l (Nat.le_refl _) n hn
theorem dK.tK (l:bS) (h:(dK.rune l).2≠0):dK.look l=((dK.look (l.drop (dK.rune l).2.toNat)).1+(dK.rune l).2.toNat,(dK.look (l.drop (dK.rune l).2.toNat)).2+1):=by
 have hs:=dK.oc l
 unfold dK.look
 cases hl:l.length with
 | zero=>omega
 | succ k =>
  rw [dK.mC,ah h]
  simp only
  rw [dK.B9 _ k (by simp;omega)]
theorem dK.tL (l:bS) (h:(dK.rune l).2=0):dK.look l=(0,0):=by
 unfold dK.look
 cases l.length with
 | zero=>rfl
 | succ k=>rw [dK.mC,ao h]
theorem dK.r7 (b:bS) (i:Nat) (h:i<b.length):dK.iF b i=dK.rune (b.drop i):=by
 unfold dK.iF;rw [ah (by omega),aK]
theorem cN.fN (b:bS) (hb:b.length≤1099511627776):∀(m i k:Nat),b.length - i≤m→i≤b.length→k≤i →
  cN.l1 b i k=some [.i .i64 ((i+(dK.look (b.drop i)).1:Nat):Int),.i .i64 ((k+(dK.look (b.drop i)).2:Nat):Int)]:=by
 intro m
 induction m with
 | zero =>
  intro i k hm hi hk
  refine cN.ew _ _ _ ?_
  intro v1 h1 v2 h2
  rw [show decide ((i:Int)<(b.length:Int))=false by simp;omega,aj,cN.jw,aI (by omega)]
  rfl
 | succ m ih =>
  intro i k hm hi hk
  by_cases gM:i<b.length
  ·refine cN.ew _ _ _ ?_
   intro v1 h1 v2 h2
   rw [dK.r7 b i gM] at h1 ⊢
   have hs:=dK.oc (b.drop i)
   rw [aW] at hs
   rw [show decide ((i:Int)<(b.length:Int))=true by simp;omega,aq,bK (aa hb)]
   by_cases h0:(dK.rune (b.drop i)).2=0
   ·rw [aa h0,aq,cN.jw,dK.tL _ h0];rfl
   ·rw [af h0,aj,dK.tK _ h0]
    have e1:v1=((i+(dK.rune (b.drop i)).2.toNat:Nat):Int):=by rw [h1,i64_in _ (by omega)];omega
    have e2:v2=((k+1:Nat):Int):=by rw [h2,i64_in _ (by omega)];omega
    rw [e1,e2,ih _ _ (by omega) (by omega) (by omega),List.drop_drop]
    simp only [ax,ar,TV.i.injEq,true_and,and_true]
    exact ⟨by omega,by omega⟩
  ·refine cN.ew _ _ _ ?_
   intro v1 h1 v2 h2
   rw [show decide ((i:Int)<(b.length:Int))=false by simp;omega,aj,cN.jw,aI (by omega)]
   rfl
theorem cN.goal (b:bS) (hp:decide (b.length≤1099511627776)=true):cN.F b=some [.i .i64 ((dK.look b).1:Int),.i .i64 ((dK.look b).2:Int)]:=by
 rw [cN.fR]
 have:=cN.fN b (aD hp) b.length 0 0 (by omega) (by omega) (by omega)
 simpa using this
theorem dr.goal (b:bS) (hp:decide (b.length≤1099511627776)=true):dr.F b=some [.i .i64 ((dK.look b).1:Int),.b (dK.whole b)]:=by
 have e:decide (((dK.look b).1:Int)=(b.length:Int))=dK.whole b:=by unfold dK.whole;rw [aY];simp;omega
 rw [dr.fR,bK hp,e]
theorem cg.end_ (r:Nat) (more least:Nat) {v7 v9:Bool} (h7:v7=(cond (decide ((r:Int)<(least:Int))) true (decide ((1114111:Int)<(r:Int))))) (h9:v9=(cond (decide ((55296:Int)≤(r:Int))) (decide ((r:Int)≤(57343:Int))) false)) :
  cond (cond v7 true v9)
  (some [(.i .i64 (0:Int)),(.i .i64 (0:Int))])
  (some [(.i .i64 (r:Int)),(.i .i64 ((more+1:Nat):Int))])=s6 (some r) more least:=by
 have e:cond v7 true v9=decide (r<least∨dK.ku r=false):=by
  subst h7 h9
  unfold dK.ku
  rw [aY]
  by_cases a:r<least
  ·simp [a]
  ·by_cases b:1114111<r
   ·simp [a,show (1114111:Int)<(r:Int) by omega] <;> omega
   ·by_cases c:55296≤r
    ·simp [a,show ¬(1114111:Int)<(r:Int) by omega,show (55296:Int)≤(r:Int) by omega] <;> omega
    ·simp [a,show ¬(1114111:Int)<(r:Int) by omega,show ¬(55296:Int)≤(r:Int) by omega] <;> omega
 rw [e]
 unfold s6
 by_cases h:r<least∨dK.ku r=false
 ·rw [aa h];simp only [h,if_true,aq]
 ·rw [af h];simp only [h,if_false,aj];rfl
theorem RM (a b c:Bool) (hc:c=(!a&&b)):(!(!a) || ((!a)&&(!b || c)))=true:=by subst hc;cases a <;> cases b <;> rfl
theorem cg.oy (b:bS) (at_:Nat) (more least:Nat) (hm:more<8) (hb:b.length≤1099511627776) (gM:at_+more<b.length):∀(k i r:Nat),i+k=more+1→r<2 ^ (10+6 * i) →
  cg.l2 b at_ ((more+1:Nat):Int) r least i=s6 (dK.cont r k (b.drop (at_+i))) more least:=by
 intro k
 induction k with
 | zero =>
  intro i r hi hr
  refine cg.lH _ _ _ _ _ _ ?_
  intro v1 h1 v2 h2 v3 h3 v4 h4 v5 h5 v6 h6 v7 h7 v8 h8 v9 h9
  rw [show decide ((i:Int)<((more+1:Nat):Int))=false by simp;omega,aj]
  simp only [aP,bB,cV]
  rw [bK (RM _ _ _ h8),dK.cont]
  exact cg.end_ r more least h7 h9
 | succ k ih =>
  intro i r hi hr
  refine cg.lH _ _ _ _ _ _ ?_
  intro v1 h1 v2 h2 v3 h3 v4 h4 v5 h5 v6 h6 v7 h7 v8 h8 v9 h9
  have hw:IntKind.i64.wrap ((at_:Int)+(i:Int))=((at_+i:Nat):Int):=by rw [i64_in _ (by omega)];omega
  have Ou:=drop_cons (l:=b) (i:=at_+i) (by omega) 0
  have hu:=A1 v1
  rw [show decide ((i:Int)<((more+1:Nat):Int))=true by simp;omega,aq,hw]
  rw [hw,aK] at h1
  have e2:v2=(v1.toNat:Int):=by rw [h2];exact i64_in _ (by omega)
  have e3:v3=!decide (128≤v1.toNat∧v1.toNat<192):=by
   rw [h3,e2,aY]
   by_cases a:v1.toNat<128
   ·simp [a];omega
   ·simp [show ¬(v1.toNat:Int)<128 by omega];omega
  simp only [aP,bB,cV]
  rw [bK (fO (by omega) (by omega)),Ou,←h1,dK.cont,e3]
  by_cases hc:128≤v1.toNat∧v1.toNat<192
  ·rw [ao hc,aa hc]
   simp only [aV,aj]
   have hp:2 ^ (10+6 * i) * 64=2 ^ (10+6 * (i+1)):=by rw [show 10+6 * (i+1)=(10+6 * i)+6 by omega,Nat.pow_add 2 (10+6 * i) 6]
   have pq:2 ^ (10+6 * (i+1))≤2 ^ 58:=Nat.pow_le_pow_right (by omega) (by omega)
   have N0:r * 64+64≤2 ^ (10+6 * (i+1)):=by
    rw [←hp];have:=bu 64 (Nat.succ_le_of_lt hr);omega
   simp at pq
   have e4:v4=((r * 64:Nat):Int):=by rw [h4,i64_in _ (by omega)];simp
   have e5:v5=((r * 64+(v1.toNat - 128):Nat):Int):=by
    rw [h5,e4,e2,i64_in (((r * 64:Nat):Int)+(v1.toNat:Int)) (by omega),i64_in _ (by omega)];omega
   have e6:v6=((i+1:Nat):Int):=by rw [h6,i64_in _ (by omega)];omega
   rw [e5,e6,ih (i+1) _ (by omega) (by omega),Nat.add_assoc]
  ·rw [ah hc,af hc]
   simp only [aX,aq]
   rfl
theorem dK.yj:∀(k r:Nat) (l:bS),l.length<k→dK.cont r k l=none:=by
 intro k
 induction k with
 | zero=>intro r l h;omega
 | succ k ih =>
  intro r l h
  cases l with
  | nil=>rfl
  | cons c l =>
   rw [dK.cont]
   split
   ·exact ih _ _ (by simp at h;omega)
   ·rfl
theorem cg.lu (b:bS) (at_:Nat) (r more least:Nat) (hm:1≤more∧more<8) (hb:b.length≤1099511627776) (gM:at_<b.length) (hr:r<1024) :
  cg.j1 b at_ ((more+1:Nat):Int) r least=s6 (dK.cont r more (b.drop (at_+1))) more least:=by
 refine cg.pL _ _ _ _ _ ?_
 intro v1 h1
 have e1:v1=(b.length:Int) - at_:=by rw [h1];exact i64_in _ (by omega)
 by_cases hx:at_+more<b.length
 ·rw [show decide (v1<((more+1:Nat):Int))=false by rw [e1];simp;omega,aj]
  exact cg.oy b at_ more least hm.2 hb hx more 1 r (by omega) (by simp;omega)
 ·rw [show decide (v1<((more+1:Nat):Int))=true by rw [e1];simp;omega,aq,dK.yj _ _ _ (by simp;omega)]
  rfl
theorem cg.goal (b:bS) (at_:Int) (hp:decide (b.length≤1099511627776)=true):cg.F b at_=some [.i .i64 (dK.iF b at_).1,.i .i64 (dK.iF b at_).2]:=by
 have hb:b.length≤1099511627776:=aD hp
 refine cg.dV b at_ ?_
 intro v1 h1 v2 h2 v3 h3 v4 h4 v5 h5 v6 h6 v7 h7 v8 h8 v9 h9
 unfold dK.iF
 simp only [aP,bB,aM,cV]
 by_cases h0:at_<0
 ·rw [h1,aa h0,aq,aq,ao (.inl h0)]
 ·rw [h1,af h0,aj]
  obtain ⟨i,rfl⟩:=Int.eq_ofNat_of_zero_le (show 0≤at_ by omega)
  rw [aK] at h2
  by_cases hl:b.length≤i
  ·rw [show decide ((b.length:Int)≤(i:Int))=true by simp;omega,ao (.inr (by omega)),aq]
  ·rw [show decide ((b.length:Int)≤(i:Int))=false by simp;omega,ah (by omega),aj,bK (fO (by omega) (by omega)),aK,drop_cons (l:=b) (i:=i) (by omega) 0,←h2,dK.rune]
   have hc:=A1 v2
   have e3:v3=(v2.toNat:Int):=by rw [h3];exact i64_in _ (by omega)
   have e4:v4=decide (192≤v2.toNat∧v2.toNat<224):=by rw [h4,e3];exact nr 192 224 _
   have e6:v6=decide (224≤v2.toNat∧v2.toNat<240):=by rw [h6,e3];exact nr 224 240 _
   have e8:v8=decide (240≤v2.toNat∧v2.toNat<248):=by rw [h8,e3];exact nr 240 248 _
   have J:∀(r more least:Nat),1≤more∧more<8→r<1024→cg.j1 b i ((more+1:Nat):Int) r least=some [.i .i64 (dK.mA r more least (b.drop (i+1))).1,.i .i64 (dK.mA r more least (b.drop (i+1))).2]:=fun r more least h1 h2 =>
    (cg.lu b i r more least h1 hb (by omega) h2).trans (yQ _ _ _ _)
   by_cases c1:v2.toNat<128
   ·rw [ao c1,e3,show decide ((v2.toNat:Int)<128)=true by simp;omega,aq]
   ·rw [ah c1,show decide (v3<(128:Int))=false by rw [e3];simp;omega,aj,e4]
    by_cases c2:192≤v2.toNat∧v2.toNat<224
    ·rw [ao c2,aa c2,aq,show v5=((v2.toNat - 192:Nat):Int) by rw [h5,e3,i64_in _ (by omega)];omega];exact J _ 1 128 (by omega) (by omega)
    ·rw [ah c2,af c2,aj,e6]
     by_cases c3:224≤v2.toNat∧v2.toNat<240
     ·rw [ao c3,aa c3,aq,show v7=((v2.toNat - 224:Nat):Int) by rw [h7,e3,i64_in _ (by omega)];omega];exact J _ 2 2048 (by omega) (by omega)
     ·rw [ah c3,af c3,aj,e8]
      by_cases c4:240≤v2.toNat∧v2.toNat<248
      ·rw [ao c4,aa c4,aq,show v9=((v2.toNat - 240:Nat):Int) by rw [h9,e3,i64_in _ (by omega)];omega];exact J _ 3 65536 (by omega) (by omega)
      ·rw [ah c4,af c4,aj]
theorem cG.fN (b:bS) (hb:b.length≤1099511627776):∀(m i:Nat),b.length - i≤m→i≤b.length →
  cG.l1 b i=some [.i .i64 ((i+(dK.look (b.drop i)).1:Nat):Int),.b (decide (i+(dK.look (b.drop i)).1=b.length))]:=by
 intro m
 induction m with
 | zero =>
  intro i hm hi
  refine cG.ew _ _ ?_
  intro v1 h1
  rw [show decide ((i:Int)<(b.length:Int))=false by simp;omega,aj,aI (by omega)]
  have:(dK.look []).1=0:=by decide
  rw [this,aa (show i+0=b.length by omega),show i+0=b.length by omega]
 | succ m ih =>
  intro i hm hi
  refine cG.ew _ _ ?_
  intro v1 h1
  by_cases gM:i<b.length
  ·rw [dK.r7 b i gM] at h1 ⊢
   have hs:=dK.oc (b.drop i)
   rw [aW] at hs
   rw [show decide ((i:Int)<(b.length:Int))=true by simp;omega,aq,bK (aa hb)]
   by_cases h0:(dK.rune (b.drop i)).2=0
   ·rw [aa h0,aq,dK.tL _ h0,af (show ¬i+(0,0).1=b.length by simp;omega)];rfl
   ·rw [af h0,aj,dK.tK _ h0]
    have e1:v1=((i+(dK.rune (b.drop i)).2.toNat:Nat):Int):=by rw [h1,i64_in _ (by omega)];omega
    rw [e1,ih _ (by omega) (by omega),List.drop_drop]
    simp only [ax,ar,TV.i.injEq,TV.b.injEq,true_and,and_true]
    refine ⟨by omega,?_⟩
    rw [aY];simp;omega
  ·rw [show decide ((i:Int)<(b.length:Int))=false by simp;omega,aj,aI (by omega)]
   have:(dK.look []).1=0:=by decide
   rw [this,aa (show i+0=b.length by omega),show i+0=b.length by omega]
theorem cG.goal (b:bS) (hp:decide (b.length≤1099511627776)=true):cG.F b=some [.i .i64 ((dK.look b).1:Int),.b (dK.whole b)]:=by
 rw [cG.fR]
 have:=cG.fN b (aD hp) b.length 0 (by omega) (by omega)
 simpa [dK.whole] using this
theorem dt.goal (s:bS) (hp:decide (s.length≤1099511627776)=true):dt.F s=some [.b (dK.whole s)]:=by
 rw [dt.fR,bK (rM (aD hp)),bK hp]
theorem cO.fN (s:bS) (hb:s.length≤1099511627776):∀(m i:Nat),s.length - i≤m→i≤s.length→cO.l1 s i=some [.b ((s.drop i).contains 0)]:=by
 intro m
 induction m with
 | zero =>
  intro i hm hi
  refine cO.ew _ _ ?_
  intro v1 h1 v2 h2
  rw [show decide ((i:Int)<(s.length:Int))=false by simp;omega,aj,aI (by omega)];rfl
 | succ m ih =>
  intro i hm hi
  refine cO.ew _ _ ?_
  intro v1 h1 v2 h2
  rw [aK] at h1
  by_cases gM:i<s.length
  ·rw [show decide ((i:Int)<(s.length:Int))=true by simp;omega,aq,bK (fO (by omega) (by omega)),drop_cons (l:=s) gM 0,←h1]
   have e2:v2=((i+1:Nat):Int):=by rw [h2,i64_in _ (by omega)];omega
   by_cases h0:v1=0
   ·rw [h0];rfl
   ·rw [af h0,aj,e2,ih _ (by omega) (by omega),List.contains_cons]
    have:((0:UInt8) == v1)=false:=by rw [beq_eq_false_iff_ne];exact fun e=>h0 e.symm
    rw [this,Bool.false_or]
  ·rw [show decide ((i:Int)<(s.length:Int))=false by simp;omega,aj,aI (by omega)];rfl
theorem cO.goal (s:bS) (hp:decide (s.length≤1099511627776)=true):cO.F s=some [.b (dK.zero s)]:=by
 rw [cO.fR]
 have:=cO.fN s (aD hp) s.length 0 (by omega) (by omega)
 simpa [dK.zero] using this
end Go.Eng
namespace Go.Eng
open Go.IntWalk
theorem cW.goal (s:bS) (c:UInt8):cW.F s c=some [.i .i64 (Lib.indexByte s c)]:=cW.fR s c
theorem dW.goal (s t:bS) (hp:decide (t.length=1)=true):dW.F s t=some [.i .i64 (Lib.indexByte s (t.getD 0 0))]:=by
 have hl:t.length=1:=aD hp
 refine dW.dV s t ?_
 intro v1 h1 v2 h2
 have e0:decide ((t.length:Int)=0)=false:=af (by omega)
 have e1:decide ((t.length:Int)=1)=true:=aa (by omega)
 rw [e0] at h1 ⊢
 simp only [aX,aV,Bool.false_or,aM,cV,aj] at h1 ⊢
 by_cases hs:t=s
 ·subst hs
  rw [h1,aa rfl,aq]
  obtain ⟨c,rfl⟩:∃c,t=[c]:=by
   match t,hl with
   | [c],_=>exact ⟨c,rfl⟩
  simp [Lib.indexByte]
 ·rw [h1,af hs,aj,e1,aq,bK (fO (by omega) (by omega)),h2];rfl
theorem eE.goal (s t:bS) (hp:decide (t.length=1)=true):eE.F s t=some [.i .i64 (Lib.indexByte s (t.getD 0 0))]:=by
 refine eE.dV s t ?_
 intro v1 h1
 rw [bK hp,h1]
theorem cT.goal (s t:bS) (hp:decide (t.length=1)=true):cT.F s t=some [.b (decide (0≤Lib.indexByte s (t.getD 0 0)))]:=by
 refine cT.dV s t ?_
 intro v1 h1
 rw [bK hp,h1]
theorem ee.goal (k:Int):ee.F k=some [.s (Tree.name k)]:=by
 refine ee.dV k ?_
 intro v1 h1 v2 h2
 unfold Tree.name
 by_cases a:k=127
 ·rw [ao a,aa a];rfl
 ·rw [ah a,af a,aj]
  by_cases b:k=255
  ·rw [ao b,aa b];rfl
  ·rw [ah b,af b,aj]
   simp only [aP,bB,cV]
   by_cases c:k<0∨20≤k
   ·rw [ao c,show v1=true by rw [h1];by_cases d:k<0 <;> simp [d];omega];rfl
   ·rw [ah c,show v1=false by rw [h1];by_cases d:k<0 <;> simp [d] <;> omega,aj,bK (fO (by omega) (by omega)),bK (by simp;omega),h2];rfl
theorem da.goal:da.F=some [.sl .is Tree.kinds]:=by
 refine da.dV ?_
 intro v1 h1
 rw [h1];rfl
def tD (k:Int):List Int→List bS→bS
 | a :: ks,s :: ss=>if a=k then s else tD k ks ss
 | _,_=>[]
theorem cH.fN (k:Int) (ss:List bS) (ks:List Int) (hl:ss.length=ks.length) (hb:ks.length≤1000):∀(m i:Nat),i+m=ks.length→cH.l1 k ss ks i=some [.s (tD k (ks.drop i) (ss.drop i))]:=by
 intro m
 induction m with
 | zero =>
  intro i hi
  refine cH.ew _ _ _ _ ?_
  intro v1 h1 v2 h2 v3 h3
  rw [af (by omega),aj,aI (by omega)];rfl
 | succ m ih =>
  intro i hi
  refine cH.ew _ _ _ _ ?_
  intro v1 h1 v2 h2 v3 h3
  rw [aK] at h1 h2
  rw [aa (by omega),aq,bK (fO (by omega) (by omega)),drop_cons (l:=ks) (i:=i) (by omega) 0,drop_cons (l:=ss) (i:=i) (by omega) [],tD,←h1,←h2]
  by_cases h:v1=k
  ·rw [ao h,aa h,aq,bK (fO (by omega) (by omega))]
  ·rw [ah h,af h,aj,show v3=((i+1:Nat):Int) by rw [h3,i64_in _ (by omega)];omega,ih _ (by omega)]
theorem Tree.tH (k:Int) (h:k ∉ Tree.kinds):Tree.name k=[]:=by
 simp only [Tree.kinds,bq,List.not_mem_nil,not_or] at h
 unfold Tree.name
 rw [ah (by omega),ah (by omega)]
 by_cases c:k<0∨20≤k
 ·rw [ao c]
 ·have:k=0:=by omega
  subst this
  rfl
theorem sj (k:Int):∀(ks:List Int) (ss:List bS),k ∉ ks→tD k ks ss=[]
 | [],_,_=>rfl
 | _ :: _,[],_=>rfl
 | a :: ks,s :: ss,h=>by
  rw [tD,ah (fun e=>h (by rw [e];exact List.mem_cons_self ..))]
  exact sj k ks ss fun hm=>h (List.mem_cons_of_mem _ hm)
theorem cH.goal (k:Int):cH.F k=some [.s (Tree.name k)]:=by
 refine cH.dV k ?_
 intro v1 h1
 rw [show (0:Int)=((0:Nat):Int) from rfl,cH.fN k v1 Tree.kinds (by rw [h1];rfl) (by decide) 21 0 (by decide)]
 by_cases h:k∈Tree.kinds
 ·have key:∀k∈Tree.kinds,tD k (Tree.kinds.drop 0) (v1.drop 0)=Tree.name k:=by rw [h1];decide +kernel
  rw [key k h]
 ·rw [Tree.tH k h,sj _ _ _ (by simpa using h)]
theorem bL.goal (k:Int):bL.F k=some [.b (Tree.gN 0 k),.b (Tree.gN 1 k),.b (Tree.gN 2 k),.b (Tree.gN 3 k),.b (Tree.gN 4 k),.b (Tree.gN 5 k),.b (Tree.gN 6 k)]:=by
 have key:∀k,k∈Tree.kinds∨k ∉ Tree.kinds:=fun k=>Decidable.em _
 simp only [bL.fR,bL.lv,bL.jw,bL.JV,bL.Co,Tree.gN]
 by_cases a1:k=1
 ·subst a1;rfl
 by_cases a2:k=2
 ·subst a2;rfl
 by_cases a3:k=3
 ·subst a3;rfl
 by_cases a4:k=4
 ·subst a4;rfl
 by_cases a5:k=5
 ·subst a5;rfl
 by_cases a7:k=7
 ·subst a7;rfl
 by_cases a8:k=8
 ·subst a8;rfl
 by_cases a9:k=9
 ·subst a9;rfl
 by_cases nd:k=11
 ·subst nd;rfl
 by_cases a12:k=12
 ·subst a12;rfl
 by_cases rP:k=13
 ·subst rP;rfl
 by_cases Lf:k=14
 ·subst Lf;rfl
 by_cases rf:k=15
 ·subst rf;rfl
 by_cases zu:k=16
 ·subst zu;rfl
 by_cases uf:k=17
 ·subst uf;rfl
 by_cases Ld:k=18
 ·subst Ld;rfl
 by_cases Gp:k=19
 ·subst Gp;rfl
 simp [a1,a2,a3,a4,a5,a7,a8,a9,nd,a12,rP,Lf,rf,zu,uf,Ld,Gp]
end Go.Eng
namespace Go.Eng
open Go.IntWalk
theorem iO (c:UInt8):∀s:bS,decide (0≤Lib.indexByte s c)=s.contains c
 | []=>by simp [Lib.indexByte]
 | b :: l=>by
  have ih:=iO c l
  have za:=Lib.indexByte_ge l c
  rw [List.contains_cons,←ih]
  rw [Lib.indexByte]
  by_cases h:b=c
  ·subst h;simp
  ·rw [ah (by simpa using h),show (c == b)=false by rw [beq_eq_false_iff_ne];exact fun e=>h e.symm,Bool.false_or]
   by_cases h1:Lib.indexByte l c=-1
   ·rw [h1];rfl
   ·rw [ah (by simpa using h1),aa (by omega),aa (by omega)]
theorem dA.goal (s:bS) (plain:Bool) (hp:decide (s.length≤1099511627776)=true):dA.F s plain=some [.b (Tree.eP s plain)]:=by
 have e:decide (0≤Lib.indexByte s (([0]:bS).getD 0 0))=dK.zero s:=iO 0 s
 refine dA.dV s plain ?_
 intro v1 h1 v2 h2
 rw [bK (rM (aD hp)),bK hp]
 rw [e] at h1
 subst h1 h2
 unfold Tree.eP
 cases dK.whole s <;> cases plain <;> cases dK.zero s <;> rfl
theorem bF.goal (v:bE):bF.F v=some [.b (Tree.dR v)]:=by
 have J2:∀(x:Bool) (v:bE),bF.j2 x v=some [.b (x&&decide (v.bits=0)&&decide (v.high=0)&&decide (v.low=0)&&decide (v.text=[])&&decide (v.more=[])&&decide (v.sub=0)&&decide (v.bytes=[])&&decide (v.kids=[]))]:=by
  intro x v
  refine bF.ng x v ?_
  intro v1 h1 v2 h2 v3 h3 v4 h4 v5 h5 v6 h6 v7 h7 v8 h8 v9 h9 v10 lZ
  simp only [aP,cV]
  have e1:decide (v7=0)=decide (v.bytes=[]):=by rw [h7,aY];simp
  have e2:decide (v9=0)=decide (v.kids=[]):=by rw [h9,aY];simp
  rw [e1] at h8
  rw [e2] at lZ
  subst h1 h2 h3 h4 h5 h6 h8 lZ
  simp only [Bool.cond_false_right]
 have J3:∀(x0:Bool) (x1:Int) (x2:Bool) (x3:bE),bF.j3 x0 x1 x2 x3=cond x2
  (bF.j2 x0 (bE.mk (bE.kind x3) (bE.bits x3) (bE.high x3) (bE.low x3) ([]:bS) (bE.more x3) (bE.sub x3) (bE.bytes x3) (bE.kids x3)))
  (cond (decide (x1=(11:Int)))
  (bF.j2 x0 (bE.mk (bE.kind x3) (bE.bits x3) (bE.high x3) (bE.low x3) ([]:bS) ([]:bS) (bE.sub x3) (bE.bytes x3) (bE.kids x3)))
  (cond (decide (x1=(5:Int)))
  (bF.j2 (decide (0≤x3.sub)&&decide (x3.sub≤255)) (bE.mk (bE.kind x3) (bE.bits x3) (bE.high x3) (bE.low x3) (bE.text x3) (bE.more x3) (0:Int) ([]:List UInt8) (bE.kids x3)))
  (cond (decide (x1=(7:Int)))
  (bF.j2 (decide (x3.bytes.length=12)) (bE.mk (bE.kind x3) (bE.bits x3) (bE.high x3) (bE.low x3) (bE.text x3) (bE.more x3) (bE.sub x3) ([]:List UInt8) (bE.kids x3)))
  (cond (decide (x1=(12:Int)))
  (bF.j2 (decide (x3.bytes.length=12)) (bE.mk (bE.kind x3) (bE.bits x3) (bE.high x3) (bE.low x3) ([]:bS) (bE.more x3) (bE.sub x3) ([]:List UInt8) (bE.kids x3)))
  (cond (decide (x1=(3:Int)))
  (bF.j4 x0 x1 (decide (x1=(3:Int))) x3)
  (bF.j4 x0 x1 (decide (x1=(4:Int))) x3)))))):=by
  intro x0 x1 x2 x3
  refine bF.sA x0 x1 x2 x3 ?_
  intro v1 h1 v2 h2
  have e:decide (v2=12)=decide (x3.bytes.length=12):=by rw [h2,aY];simp;omega
  simp only [aP,cV,e,h1,Bool.cond_false_right]
 obtain ⟨k,b,hi,lo,t,m,s,y,ks⟩:=v
 simp only [bF.fR,bF.lv,J3,bF.Co,J2,Tree.dR,Tree.gN]
 by_cases a1:k=1
 ·subst a1;simp;grind
 by_cases a2:k=2
 ·subst a2;simp;grind
 by_cases a3:k=3
 ·subst a3;simp;grind
 by_cases a4:k=4
 ·subst a4;simp;grind
 by_cases a5:k=5
 ·subst a5;simp;grind
 by_cases a7:k=7
 ·subst a7;simp;grind
 by_cases a8:k=8
 ·subst a8;simp;grind
 by_cases a9:k=9
 ·subst a9;simp;grind
 by_cases nd:k=11
 ·subst nd;simp;grind
 by_cases a12:k=12
 ·subst a12;simp;grind
 by_cases rP:k=13
 ·subst rP;simp;grind
 by_cases Lf:k=14
 ·subst Lf;simp;grind
 by_cases rf:k=15
 ·subst rf;simp;grind
 by_cases zu:k=16
 ·subst zu;simp;grind
 by_cases uf:k=17
 ·subst uf;simp;grind
 by_cases Ld:k=18
 ·subst Ld;simp;grind
 by_cases Gp:k=19
 ·subst Gp;simp;grind
 simp [a1,a2,a3,a4,a5,a7,a8,a9,nd,a12,rP,Lf,rf,zu,uf,Ld,Gp];grind
end Go.Eng
namespace Go.Eng
open Go.IntWalk
theorem dn.goal (s:bS) (hp:decide (s.length≤1099511627776)=true):dn.F s=some [.b (Tree.eP s true)]:=by
 refine dn.dV s ?_
 intro v1 h1
 rw [bK hp,hp]
 subst h1
 unfold Tree.eP
 cases dK.whole s <;> cases dK.zero s <;> rfl
theorem cX.goal (p:List Int) (k:Int) (hp:decide (p.length≤1099511627776)=true):cX.F p k=some [.sl .is (p++[k])]:=by
 have hp:=aD hp
 refine cX.dV p k ?_
 intro v1 h1
 rw [bK (fE (by simp;omega) (by simp;omega)),bK (fE (by simp;omega) (by simp;omega)),h1];rfl
theorem eg.goal (v:bE) (hp:decide (bG.cA (bG.of [] v)≤1099511627776)=true):eg.F v=some [.i .i64 (Tree.own v)]:=by
 have hp:=aD hp
 have EO:v.text.length≤1099511627776:=by simp only [bG.of,bG.cA] at hp;omega
 have AU:v.more.length≤1099511627776:=by simp only [bG.of,bG.cA] at hp;omega
 refine eg.dV v ?_
 intro v1 h1 v2 h2 v3 h3 v4 h4 v5 h5 v6 h6 v7 h7 v8 h8 v9 h9 v10 lZ v11 yb v12 ya kN wN jc xZ mM Ai lf sH pC tg mL ET oq ES v20 KT v21 HV ow HU tm LU v24 F8 vt KS nq KR A0 OI v28 LS DH KQ v30 LR v31 LQ AN PA Gr Pz Mg OH Mf OG Ll OF
 unfold Tree.own
 by_cases hn:Tree.name v.kind=[]
 ·rw [ao hn,aa hn];rfl
 ·rw [ah hn,af hn,aj]
  subst h4 Ai LU OI PA Pz
  simp only [aP,bB,aM,cV,RO,RN,aa EO,aa AU,Bool.and_true]
  have u1:decide ((4294967296:UInt64)≤v.bits)=!decide (v.bits<4294967296):=by rw [aY];simp [aJ,aH]
  have u2:decide ((1:UInt64)<v.bits)=!decide (v.bits<2):=by rw [aY];simp [aJ,aH];omega
  have l1:decide ((0:Int)<lf)=!decide (v.bytes=[]):=by rw [sH,aY];simp [List.length_pos_iff]
  have l2:decide ((0:Int)<v20)=!decide (v.kids=[]):=by rw [KT,aY];simp [List.length_pos_iff]
  have l3:decide (lf=(12:Int))=decide (v.bytes.length=12):=by rw [sH,aY];simp;omega
  rw [u1] at HU
  rw [u2] at F8
  rw [l1] at tg
  rw [l2] at HV
  rw [l3] at KQ
  have e1:Tree.dR v=!(cond (cond (cond mL true v21) true nq) true DH):=by
   subst h1 h2 h3 h5 h6 h7 h8 h9 lZ yb ya wN xZ tg ET ES HV HU F8 KS KR LS KQ
   unfold Tree.dR
   have s1:decide (v.sub<0)=!decide (0≤v.sub):=by rw [aY];simp
   have s2:decide (255<v.sub)=!decide (v.sub≤255):=by rw [aY];simp
   rw [s1,s2]
   simp only [Bool.cond_true_left,Bool.cond_false_right,Bool.not_or,Bool.not_and,Bool.not_not,Bool.and_assoc]
  have e2:Ll=decide (Tree.eP v.text (decide (v.kind=11))=false∨Tree.eP v.more (decide (v.kind=11))=false):=by
   subst LR LQ OH OG OF
   unfold Tree.eP
   cases dK.whole v.text <;> cases dK.whole v.more <;> cases dK.zero v.text <;> cases dK.zero v.more <;> by_cases k:v.kind=11 <;> simp [k]
  rw [e1,e2]
  clear h1 h2 h3 h5 h6 h7 h8 h9 lZ yb ya wN xZ tg ET ES HV HU F8 KS KR LS KQ LR LQ OH OG OF e1 e2
  by_cases c:Tree.eP v.text (decide (v.kind=11))=false∨Tree.eP v.more (decide (v.kind=11))=false
  ·rw [aa c,ao c]
   cases mL <;> cases v21 <;> cases nq <;> cases DH <;> rfl
  ·rw [af c,ah c]
   cases mL <;> cases v21 <;> cases nq <;> cases DH <;> rfl
theorem Dz.lens (v:bE) (n:bS) (m:Nat) (h:bG.cA (bG.of n v)≤m):v.text.length≤m∧v.more.length≤m∧n.length≤m∧v.bytes.length≤m∧bG.cE v.kids+1≤m:=by
 simp only [bG.of,bG.cA] at h;omega
theorem bG.sU (f:bG):1≤f.cA:=by cases f;simp only [bG.cA];omega
theorem bG.jo:∀(l:List bG) (i:Nat) (d:bG),i<l.length→(l.getD i d).cA≤bG.cE l
 | f :: l,0,d,_=>by simp [bG.cE]
 | f :: l,i+1,d,h=>by
  have:=bG.jo l i d (by simpa using h)
  simp only [List.getD_cons_succ,bG.cE];omega
theorem bG.iG:∀(l:List bG),l.length≤bG.cE l
 | []=>by simp
 | f :: l=>by have:=bG.iG l;have:=bG.sU f;simp only [aF,bG.cE];omega
theorem bG.BS (f:bG):bG.of f.name f.val=f:=by cases f;rfl
theorem bG.mH (f:bG):bG.cA (bG.of [] f.val)≤f.cA:=by cases f;simp only [bG.of,bG.val,bG.cA,bG.kind,bG.bits,bG.high,bG.low,bG.text,bG.more,bG.sub,bG.bytes,bG.kids];simp
theorem A5 (v:bE) (n:bS):Tree.qq v n=(if Tree.name v.kind=[] then 5 else if Tree.dR v=false then 1 else if Tree.eP v.text (decide (v.kind=11))=false∨Tree.eP v.more (decide (v.kind=11))=false∨Tree.eP n true=false then 4 else 0):=by
 unfold Tree.qq Tree.own
 grind
theorem Tree.zl (n:bS) (v:bE) (p:List Int):Tree.ga (bG.of n v) p=if Tree.qq v n≠0 then (p,Tree.qq v n) else Tree.rq v.kids 0 p:=by
 cases v;simp only [bG.of,Tree.ga]
theorem cj.fN (n:Nat) (ks:List bG) (p:List Int) (hb:bG.cE ks+p.length<1099511627776) (hn:bG.cE ks<n):∀(m i:Nat),i+m=ks.length →
  cj.l1 n ks (ks.length:Int) i p=some [.sl .is (Tree.rq (ks.drop i) i p).1,.i .i64 (Tree.rq (ks.drop i) i p).2,.sl .is p]:=by
 have hlen:=bG.iG ks
 intro m
 induction m with
 | zero =>
  intro i hi
  refine cj.ew _ _ _ _ _ ?_
  intro v1 h1 v2 h2 v3 h3 v4 h4
  rw [af (by omega),aj,aI (by omega)];rfl
 | succ m ih =>
  intro i hi
  refine cj.ew _ _ _ _ _ ?_
  intro v1 h1 v2 h2 v3 h3 v4 h4
  rw [aK] at h1
  have hg:=bG.jo ks i (eJ.fc .fl) (by omega)
  rw [←h1] at hg
  rw [bG.BS] at h2 h3 ⊢
  rw [aa (by omega),aq,bK (fO (by omega) (by omega)),bK (fE (by simp;omega) (by simp;omega)),aa (by simp;omega),aa (by omega),aM,cV,drop_cons (l:=ks) (i:=i) (by omega) (eJ.fc .fl),←h1,Tree.rq]
  by_cases h:v3=0
  ·rw [aa h,ah (by rw [h3] at h;simpa using h)]
   simp only [aV,aj]
   rw [show v4=((i+1:Nat):Int) by rw [h4,i64_in _ (by omega)];omega,ih _ (by omega)]
  ·rw [af h,ao (by rw [h3] at h;simpa using h)]
   simp only [aX,aq]
   rw [h2,h3]
theorem cj.goal (n:Nat) (v:bE) (name:bS) (path:List Int) (hp:((decide (bG.cA (bG.of name v)+path.length≤1099511627776))&&decide ((bG.cA (bG.of name v))<n+1))=true) :
  cj.F n v name path=some [.sl .is (Tree.ga (bG.of name v) path).1,.i .i64 (Tree.ga (bG.of name v) path).2,.sl .is path]:=by
 simp only [ae,aB] at hp
 obtain ⟨hp,hn⟩:=hp
 obtain ⟨b1,b2,b3,_,_⟩:=Dz.lens v name 1099511627776 (by omega)
 have HH:bG.cE v.kids<bG.cA (bG.of name v):=by simp only [bG.of,bG.cA];omega
 refine cj.dV n v name path ?_
 intro v1 h1 v2 h2 v3 h3 v4 h4
 rw [Tree.zl,A5]
 simp only [aP,bB,aM,cV,aa b1,aa b2,aa b3,Bool.and_true]
 have Ro:fS path.length 8=true:=fE (by omega) (by omega)
 simp only [Ro,cV]
 by_cases a:Tree.name v.kind=[]
 ·rw [aa a];simp [a]
 ·rw [af a,aj]
  by_cases b:Tree.dR v=false
  ·rw [b];simp [a]
  ·have b':Tree.dR v=true:=by simpa using b
   rw [b']
   have e3:v3=decide (Tree.eP v.text (decide (v.kind=11))=false∨Tree.eP v.more (decide (v.kind=11))=false∨Tree.eP name true=false):=by
    subst h1 h2 h3
    cases Tree.eP v.text (decide (v.kind=11)) <;> cases Tree.eP v.more (decide (v.kind=11)) <;> cases Tree.eP name true <;> rfl
   rw [e3,h4]
   by_cases c:Tree.eP v.text (decide (v.kind=11))=false∨Tree.eP v.more (decide (v.kind=11))=false∨Tree.eP name true=false
   ·rw [aa c];simp [a,c]
   ·rw [af c]
    simp only [aV,aj,ah a,ah c]
    have:=cj.fN n v.kids path (by omega) (by omega) v.kids.length 0 (by omega)
    rw [bg] at this
    simpa using this
theorem dB.goal (v:bE) (hp:decide (bG.cA (bG.of [] v)≤1099511627776)=true):dB.F v=some [.sl .is (Tree.ga (bG.of [] v) []).1,.i .i64 (Tree.ga (bG.of [] v) []).2]:=by
 refine dB.dV v ?_
 intro v1 h1 v2 h2
 rw [bK (by simpa using hp),h1,h2]
theorem bN.oy (n:Nat) (v:bE) (p:List Int) (hb:bG.cE v.kids+p.length<1099511627776) (hn:bG.cE v.kids<n):∀(m i:Nat),i+m=v.kids.length →
  bN.l2 n p i v=some [.sl .is (Tree.rq (v.kids.drop i) i p).1,.i .i64 (Tree.rq (v.kids.drop i) i p).2]:=by
 have hlen:=bG.iG v.kids
 intro m
 induction m with
 | zero =>
  intro i hi
  refine bN.lH _ _ _ _ ?_
  intro v1 h1 v2 h2 v3 h3 v4 h4 v5 h5
  rw [af (by omega),aj,aI (by omega)];rfl
 | succ m ih =>
  intro i hi
  refine bN.lH _ _ _ _ ?_
  intro v1 h1 v2 h2 v3 h3 v4 h4 v5 h5
  rw [aK] at h2
  have hg:=bG.jo v.kids i (eJ.fc .fl) (by omega)
  rw [←h2] at hg
  rw [bG.BS] at h3 h4 ⊢
  rw [aa (by omega),aq,bK (fO (by omega) (by omega)),bK (fO (by omega) (by omega)),bK (aa (by omega)),aa (by simp;omega),aa (by omega),aM,cV,drop_cons (l:=v.kids) (i:=i) (by omega) (eJ.fc .fl),←h2,Tree.rq]
  by_cases h:v4=0
  ·rw [aa h,ah (by rw [h4] at h;simpa using h)]
   simp only [aV,aj]
   rw [show v5=((i+1:Nat):Int) by rw [h5,i64_in _ (by omega)];omega,ih _ (by omega)]
  ·rw [af h,ao (by rw [h4] at h;simpa using h)]
   simp only [aX,aq]
   rw [h3,h4]
theorem bN.goal (n:Nat) (v:bE) (name:bS) (p:List Int) (hp:((decide (bG.cA (bG.of name v)+p.length≤1099511627776))&&decide ((bG.cA (bG.of name v))<n+1))=true) :
  bN.F n v name p=some [.sl .is (Tree.ga (bG.of name v) p).1,.i .i64 (Tree.ga (bG.of name v) p).2]:=by
 simp only [ae,aB] at hp
 obtain ⟨hp,hn⟩:=hp
 obtain ⟨b1,b2,b3,_,_⟩:=Dz.lens v name 1099511627776 (by omega)
 have HH:bG.cE v.kids<bG.cA (bG.of name v):=by simp only [bG.of,bG.cA];omega
 have Tb:bG.cA (bG.of [] v)≤bG.cA (bG.of name v):=by simp only [bG.of,bG.cA,aA];omega
 refine bN.dV n v name p ?_
 intro v1 h1
 rw [bK (aa (by omega)),aa b3]
 simp only [Bool.and_true,aP,cV,bN.lv]
 rw [Tree.zl]
 unfold Tree.qq
 have key:=bN.oy n v p (by omega) (by omega) v.kids.length 0 (by omega)
 rw [bg] at key
 have key:bN.l2 n p 0 v=_:=key
 rw [key]
 by_cases a:Tree.own v=0
 ·rw [aa a] at h1
  cases b:Tree.eP name true
  ·rw [b] at h1;rw [h1];simp [a]
  ·rw [b] at h1;rw [h1];simp [a]
 ·rw [af a] at h1
  rw [h1];simp [a]
theorem dp.goal (v:bE) (hp:decide (bG.cA (bG.of [] v)≤1099511627776)=true):dp.F v=some [.sl .is (Tree.ga (bG.of [] v) []).1,.i .i64 (Tree.ga (bG.of [] v) []).2]:=by
 refine dp.dV v ?_
 intro v1 h1 v2 h2
 rw [bK (by simpa using hp),h1,h2]
end Go.Eng
namespace Go.Eng
open Go.IntWalk
theorem Tree.ud (f:bG):Tree.depth (bG.of [] f.val)=Tree.depth f:=by cases f;rfl
theorem Tree.xc (n:bS) (v:bE):Tree.depth (bG.of n v)=if v.kind=3∨v.kind=4∨v.kind=15 then Tree.iP v.kids+1 else 0:=by cases v;rfl
theorem Tree.qD:∀l:List bG,Tree.iP l≤bG.cE l∧∀f∈l,Tree.depth f≤bG.cA f
 | []=>by simp [Tree.iP]
 | f :: l=>by
  obtain ⟨h1,h2⟩:=Tree.qD l
  have hf:Tree.depth f≤bG.cA f:=by
   obtain ⟨n,k,b,h,lo,t,m,s,y,ks⟩:=f
   have:=(Tree.qD ks).1
   unfold Tree.depth bG.cA
   split <;> omega
  refine ⟨by simp only [Tree.iP,bG.cE];omega,fun g hg=>?_⟩
  rcases bq.1 hg with rfl | hg
  ·exact hf
  ·exact h2 g hg
theorem Tree.xd (f:bG):Tree.depth f≤bG.cA f:=(Tree.qD [f]).2 f (List.mem_cons_self ..)
theorem cm.fN (n:Nat) (ks:List bG) (hb:bG.cE ks<1099511627776) (hn:bG.cE ks<n):∀(m i d:Nat),i+m=ks.length→d≤1099511627776 →
  cm.l1 n d ks (ks.length:Int) i=some [.i .i64 ((max d (Tree.iP (ks.drop i))+1:Nat):Int)]:=by
 have hlen:=bG.iG ks
 intro m
 induction m with
 | zero =>
  intro i d hi hd
  refine cm.ew _ _ _ _ _ ?_
  intro v1 h1 v2 h2 v3 h3 v4 h4
  rw [af (by omega),aj,aI (by omega),h4,i64_in _ (by omega)]
  simp [Tree.iP]
 | succ m ih =>
  intro i d hi hd
  refine cm.ew _ _ _ _ _ ?_
  intro v1 h1 v2 h2 v3 h3 v4 h4
  rw [aK] at h1
  have hg:=bG.jo ks i (eJ.fc .fl) (by omega)
  rw [←h1] at hg
  have hv:=bG.mH v1
  have Rj:=Tree.xd v1
  rw [aa (by omega),aq,bK (fO (by omega) (by omega)),aa (show bG.cA (bG.of [] v1.val)<n by omega),aa (show bG.cA (bG.of [] v1.val)≤1099511627776 by omega),aM,cV,
   show v3=((i+1:Nat):Int) by rw [h3,i64_in _ (by omega)];omega,h2,Tree.ud,show nJ (d:Int) (Tree.depth v1:Int)=((max d (Tree.depth v1):Nat):Int) by unfold nJ;split <;> omega,ih _ _ (by omega) (by omega),drop_cons (l:=ks) (i:=i) (by omega) (eJ.fc .fl),←h1,Tree.iP,Nat.max_assoc]
theorem cm.goal (n:Nat) (v:bE) (hp:((decide (bG.cA (bG.of [] v)≤1099511627776))&&decide ((bG.cA (bG.of [] v))<n+1))=true):cm.F n v=some [.i .i64 (Tree.depth (bG.of [] v):Int)]:=by
 simp only [ae,aB] at hp
 obtain ⟨EN,hn⟩:=hp
 have HH:bG.cE v.kids<bG.cA (bG.of [] v):=by simp only [bG.of,bG.cA];omega
 refine cm.dV n v ?_
 intro v1 h1 v2 h2 v3 h3
 simp only [aP,cV]
 have key:=cm.fN n v.kids (by omega) (by omega) v.kids.length 0 0 (by omega) (by omega)
 rw [bg] at key
 rw [Tree.xc]
 by_cases h:v.kind=3∨v.kind=4∨v.kind=15
 ·rw [ao h,show v2=false by subst h1 h2;rcases h with h | h | h <;> simp [h],aj,h3]
  rw [Nat.zero_max] at key
  exact key
 ·rw [ah h,show v2=true by subst h1 h2;simp only [not_or] at h;simp [h.1,h.2.1,h.2.2],aq];rfl
end Go.Eng
namespace Go.Eng
open Go.IntWalk
theorem rL {n:Nat} (h:n<10):ky n=[UInt8.ofNat (48+n)]:=by rw [ky,dif_pos h]
theorem vh {n:Nat} (h:¬n<10):ky n=ky (n / 10)++[UInt8.ofNat (48+n % 10)]:=by rw [ky,dif_neg h]
theorem pD (n:Nat):UInt8.ofInt (n:Int)=UInt8.ofNat n:=by
 apply UInt8.toNat_inj.1
 rw [nA,UInt8.toNat_ofNat']
theorem cB.fN:∀(v:UInt64) (s:bS),v.toNat+s.length≤18446744073709551616+100→s.length≤100→(10 ^ (20 - s.length) > v.toNat)→cB.l1 v s=some [.s (ky v.toNat++s)]:=by
 intro v
 generalize hn:v.toNat=n
 induction n using Nat.strongRecOn generalizing v with
 | _ n ih =>
  intro s h1 h2 h3
  refine cB.ew _ _ ?_
  intro v1 e1 v2 e2 v3 e3
  have gM:((9:UInt64)<v) ↔ 9<v.toNat:=aH
  by_cases a:n<10
  ·have e:v3=UInt8.ofNat (48+n):=by
    rw [e3,pD]
    apply UInt8.toNat_inj.1
    rw [UInt64.toNat_add,UInt8.toNat_ofNat',UInt8.toNat_ofNat',hn]
    show (48+n) % 18446744073709551616 % 256=_
    rw [Nat.mod_eq_of_lt (show 48+n<18446744073709551616 by omega)]
   rw [af (fun h=>by have:=gM.1 h;omega),aj,bK (aa (by simp only [aQ];omega)),rL a,e]
  ·have hs:s.length≤20:=by
    apply Classical.byContradiction
    intro h
    rw [show 20 - s.length=0 by omega] at h3
    simp at h3;omega
   have hd:(v / 10).toNat=n / 10:=by rw [UInt64.toNat_div,hn];rfl
   have e:v2=UInt8.ofNat (48+n % 10):=by
    rw [e2,e1,pD]
    apply UInt8.toNat_inj.1
    rw [UInt64.toNat_add,UInt64.toNat_mod,UInt8.toNat_ofNat',UInt8.toNat_ofNat',hn]
    show (48+n % 10) % 18446744073709551616 % 256=_
    rw [Nat.mod_eq_of_lt (show 48+n % 10<18446744073709551616 by omega)]
   have h4:10 ^ (20 - (UInt8.ofNat (48+n % 10) :: s).length) > n / 10:=by
    rw [aF]
    have hk:20 - s.length≠0:=by
     intro h;rw [h] at h3;simp at h3;omega
    rw [show 20 - s.length=(20 - (s.length+1))+1 by omega,Nat.pow_succ] at h3
    omega
   rw [aa (gM.2 (by omega)),aq,bK (by decide),bK (aa (by simp only [aQ];omega)),bK (by decide),e,List.singleton_append,ih (n / 10) (by omega) (v / 10) hd _ (by rw [aF];omega) (by rw [aF];omega) h4,vh a,aU];rfl
theorem cB.goal (v:UInt64):cB.F v=some [.s (ky v.toNat)]:=by
 have:=v.toNat_lt
 rw [cB.fR,cB.fN v [] (by simp only [aA];omega) (by decide) (by simp only [aA];omega),aO]
theorem bW.fN (l:List bG) (hb:l.length≤1099511627776):∀(m i:Nat),i+m=l.length→bW.l1 l (l.length:Int) i=some [.b (Tree.gL i (l.drop i))]:=by
 intro m
 induction m with
 | zero =>
  intro i hi
  refine bW.ew _ _ _ ?_
  intro v1 h1 v2 h2
  rw [af (by omega),aj,aI (by omega)];rfl
 | succ m ih =>
  intro i hi
  refine bW.ew _ _ _ ?_
  intro v1 h1 v2 h2
  rw [aK] at h1
  rw [aa (by omega),aq,bK (fO (by omega) (by omega)),bK (aa (by omega)),show v2=((i+1:Nat):Int) by rw [h2,i64_in _ (by omega)];omega,ih _ (by omega),drop_cons (l:=l) (i:=i) (by omega) (eJ.fc .fl),←h1,Tree.gL,we]
  by_cases a:v1.name=ky i
  ·rw [aa a];rfl
  ·rw [af a];rfl
theorem bW.goal (l:List bG) (hp:decide (l.length≤1099511627776)=true):bW.F l=some [.b (Tree.regular l)]:=by
 rw [bW.fR]
 exact bW.fN l (aD hp) l.length 0 (by omega)
theorem bU.fN (l:List bG) (hb:l.length≤1099511627776):∀(m i:Nat),i+m=l.length→bU.l1 l i=some [.b (Tree.gL i (l.drop i))]:=by
 intro m
 induction m with
 | zero =>
  intro i hi
  refine bU.ew _ _ ?_
  intro v1 h1 v2 h2 v3 h3
  rw [af (by omega),aj,aI (by omega)];rfl
 | succ m ih =>
  intro i hi
  refine bU.ew _ _ ?_
  intro v1 h1 v2 h2 v3 h3
  rw [aK] at h1
  rw [jA,Nat.mod_eq_of_lt (by omega)] at h2
  rw [aa (by omega),aq,bK (fO (by omega) (by omega)),show v3=((i+1:Nat):Int) by rw [h3,i64_in _ (by omega)];omega,ih _ (by omega),drop_cons (l:=l) (i:=i) (by omega) (eJ.fc .fl),←h1,Tree.gL,h2]
  by_cases a:v1.name=ky i
  ·rw [aa a];rfl
  ·rw [af a];rfl
theorem bU.goal (l:List bG) (hp:decide (l.length≤1099511627776)=true):bU.F l=some [.b (Tree.regular l)]:=by
 rw [bU.fR]
 exact bU.fN l (aD hp) l.length 0 (by omega)
theorem dG.goal (k:Int):dG.F k=some [.b (decide (k=3∨k=4∨k=15))]:=by
 refine dG.dV _ ?_
 intro v1 h1 v2 h2
 simp only [aP,bB,cV]
 congr 3
 rw [h2,h1]
 by_cases a:k=3 <;> by_cases b:k=4 <;> by_cases c:k=15 <;> simp [a,b,c]
theorem bX.fN (n:Nat) (v:bE) (hb:bG.cE v.kids<1099511627776) (hn:bG.cE v.kids<n):∀(m i d:Nat),i+m=v.kids.length→d≤1099511627776 →
  bX.l1 n d i v=some [.i .i64 ((max d (Tree.iP (v.kids.drop i))+1:Nat):Int)]:=by
 have hlen:=bG.iG v.kids
 intro m
 induction m with
 | zero =>
  intro i d hi hd
  refine bX.ew _ _ _ _ ?_
  intro v1 h1 v2 h2 v3 h3 v4 h4 v5 h5
  rw [af (by omega),aj,aI (by omega),h5,i64_in _ (by omega)]
  simp [Tree.iP]
 | succ m ih =>
  intro i d hi hd
  refine bX.ew _ _ _ _ ?_
  intro v1 h1 v2 h2 v3 h3 v4 h4 v5 h5
  rw [aK] at h2
  have hg:=bG.jo v.kids i (eJ.fc .fl) (by omega)
  rw [←h2] at hg
  have hv:=bG.mH v2
  have Rj:=Tree.xd v2
  rw [aa (by omega),aq,bK (fO (by omega) (by omega)),aa (show bG.cA (bG.of [] v2.val)<n by omega),aa (show bG.cA (bG.of [] v2.val)≤1099511627776 by omega),aM,cV,
   show v4=((i+1:Nat):Int) by rw [h4,i64_in _ (by omega)];omega,h3,Tree.ud,show nJ (d:Int) (Tree.depth v2:Int)=((max d (Tree.depth v2):Nat):Int) by unfold nJ;split <;> omega,ih _ _ (by omega) (by omega),drop_cons (l:=v.kids) (i:=i) (by omega) (eJ.fc .fl),←h2,Tree.iP,Nat.max_assoc]
theorem bX.goal (n:Nat) (v:bE) (hp:((decide (bG.cA (bG.of [] v)≤1099511627776))&&decide ((bG.cA (bG.of [] v))<n+1))=true):bX.F n v=some [.i .i64 (Tree.depth (bG.of [] v):Int)]:=by
 simp only [ae,aB] at hp
 obtain ⟨EN,hn⟩:=hp
 have HH:bG.cE v.kids<bG.cA (bG.of [] v):=by simp only [bG.of,bG.cA];omega
 have key:=bX.fN n v (by omega) (by omega) v.kids.length 0 0 (by omega) (by omega)
 rw [bg,Nat.zero_max] at key
 rw [bX.fR,Tree.xc]
 by_cases h:v.kind=3∨v.kind=4∨v.kind=15
 ·rw [ao h,aa h,aV,aj];exact key
 ·rw [ah h,af h,aX,aq];rfl
end Go.Eng
