/- Texts of my own, one behind the other: DbGp1, DbG, DbUtfP, DbT1, DbT2, DbT3, DbT4, DbRegP, DbBookP, DbMpA, DbP1, DbP2, DbP3, DbP4, DbP5, DbP6, DbP7. -/
import Derived.Test.YthdgdfjnkgpegaaDoorT4
set_option linter.unusedVariables false
set_option linter.unusedSimpArgs false
namespace Go.Eng
noncomputable section
end
noncomputable section
def tree_Regular.env:List (Nat × (Ctr × FSig)):=[(71,(sc_Itoa.c,sc_Itoa.sg))]
def tree_Regular.E:TEnv:=envL trydbGl tree_Regular.env
def tree_Regular.m1:TM := .seq (.reg [
  ⟨.k (.bin .lss),[.s 7,.s 6],[8],none⟩]) none (.seq (.cond (.s 8) [] .skip (.exit 0)) none (.seq (.block 1 [] (.seq (.reg [
  ⟨.k .mv,[.s 7],[9],none⟩,
  ⟨.k (.ix 10),[.s 5,.s 7],[10],none⟩,
  ⟨.k (.lr 10 true),[.s 10],[11],none⟩,
  ⟨.al 1018 [(.s ([]:Str)),(.i .i64 (0:Int)),(.u64 (0:UInt64)),(.u64 (0:UInt64)),(.u64 (0:UInt64)),(.s ([]:Str)),(.s ([]:Str)),(.i .i64 (0:Int)),(.sl .bs ([]:List UInt8)),(.sl .fl ([]:List Fld))] [],[.s 1018],[4,1018],none⟩,
  ⟨.k .mv,[.s 9],[3],none⟩,
  ⟨.k (.st 1018 0 10),[.s 4,.s 1018,.s 11],[1018],none⟩]) none (.seq (.reg [
  ⟨.k (.fa 1018 0 0),[.s 4],[12],none⟩,
  ⟨.k (.ld 1018 0 1 false),[.s 12,.s 1018],[13],none⟩,
  ⟨.k .mv,[.s 3],[14],none⟩,
  ⟨.k (.call 71 (.plain 1 1)),[.s 14],[15],none⟩,
  ⟨.k (.bin .neq),[.s 13,.s 15],[16],none⟩]) none (.cond (.s 16) [] (.seq (.reg [
  ⟨.k .mv,[.c (.b false)],[2],none⟩]) none .ret) .skip)))) none (.reg [
  ⟨.k (.bin .add),[.s 7,.c (.i .i64 (1:Int))],[17],none⟩,
  ⟨.k .mv,[.s 17],[7],none⟩])))
def tree_Regular.m:TM := .seq (.reg [
  ⟨.k .mv,[.c (.b false)],[2],none⟩]) none (.seq (.seq (.reg [
  ⟨.k .mv,[.s 0],[5],none⟩,
  ⟨.k .len,[.s 5],[6],none⟩,
  ⟨.k .mv,[.c (.i .i64 (0:Int))],[7],none⟩]) none (.block 0 [] (.loop [5,6,7] [] tree_Regular.m1))) none (.seq (.reg [
  ⟨.k .mv,[.c (.b true)],[2],none⟩]) none .ret))
def tree_Regular.d:TFD:={ np:=1,m:=tree_Regular.m,ref:=none,tips:=[],res:=[.t 2],own:=[],new:=none,tnew:=[] }
noncomputable def tree_Regular.F (l:List Fld):Option (List TV):=tree_Regular.d.run tree_Regular.E [(.sl .fl l)]
noncomputable def tree_Regular.k1:Cont (List TV):=seqK (ev _ tree_Regular.E (.seq (.reg [
  ⟨.k .mv,[.c (.b true)],[2],none⟩]) none .ret)) none (endK tree_Regular.d)
noncomputable def tree_Regular.l1 (x0:List Fld) (x1:Int) (x2:Int):Option (List TV):=loopL (evO _ tree_Regular.E tree_Regular.m1) isN [5,6,7] (headT [5,6,7] [(.sl .fl x0),(.i .i64 x1),(.i .i64 x2)]) (blockK 0 tree_Regular.k1)
theorem tree_Regular.l1_in (x0:List Fld) (x1:Int) (x2:Int) {ρ:Option (List TV)} (K:∀(v1:Fld) (h1:v1=(List.getD x0 (x2).toNat (STy.dflt .fl))) (v2:Int) (h2:v2=(IntKind.i64.wrap (x2+(1:Int)))),cond (decide (x2<x1))
  (ck (idxOK x2 (x0).length) (ck (decide (-9223372036854775808≤x2∧x2≤9223372036854775807)) (cond (!decide ((Fld.name v1)=(Lib.itoa x2)))
  (some [(.b false)])
  (tree_Regular.l1 x0 x1 v2))))
  (some [(.b true)])=ρ):tree_Regular.l1 x0 x1 x2=ρ:=((ev_loop _ _ _ _ _ _).trans (by kernel_rfl)).trans (K _ rfl _ rfl)
theorem tree_Regular.F_eq (l:List Fld):tree_Regular.F l=tree_Regular.l1 l ((l).length:Int) (0:Int):=by kernel_rfl
theorem tree_Regular.chk:((Go.Proofs.Tryd.prog.funcs[55]?).any fun fn=>chkF Go.Proofs.Tryd.prog (fun k=>((envL trydbGl tree_Regular.env).fs k).2) fn tree_Regular.d.erase)=true:=by kernel_rfl
end
noncomputable section
end
noncomputable section
def cb_fields.env:List (Nat × (Ctr × FSig)):=[]
def cb_fields.E:TEnv:=envL trydbGl cb_fields.env
def cb_fields.m1:TM := .cond (.s 10) [(1,.ptr 1065 0),(1065,.cl [])] (.reg [
  ⟨.k (.fa 1065 0 1),[.s 1],[14],none⟩,
  ⟨.k (.st 1065 1 1),[.s 14,.s 1065,.c (.u64 (0:UInt64))],[1065],none⟩]) (.seq (.reg [
  ⟨.k (.bin .eql),[.s 9,.c (.i .i64 (3:Int))],[16],none⟩,
  ⟨.k .mv,[.s 16],[15],none⟩]) none (.cond (.s 15) [(1,.ptr 1065 0),(1065,.cl [])] (.reg [
  ⟨.k (.fa 1065 0 2),[.s 1],[17],none⟩,
  ⟨.k (.st 1065 2 1),[.s 17,.s 1065,.c (.sl .bs ([]:List UInt8))],[1065],none⟩]) (.seq (.reg [
  ⟨.k (.bin .eql),[.s 9,.c (.i .i64 (4:Int))],[19],none⟩,
  ⟨.k .mv,[.s 19],[18],none⟩]) none (.cond (.s 18) [(1,.ptr 1065 0),(1065,.cl [])] (.reg [
  ⟨.k (.fa 1065 0 3),[.s 1],[20],none⟩,
  ⟨.k (.st 1065 3 1),[.s 20,.s 1065,.c (.s ([]:Str))],[1065],none⟩]) (.seq (.reg [
  ⟨.k (.bin .eql),[.s 9,.c (.i .i64 (5:Int))],[22],none⟩,
  ⟨.k .mv,[.s 22],[21],none⟩]) none (.cond (.s 21) [(1,.ptr 1065 0),(1065,.cl [])] (.reg [
  ⟨.k .mv,[.c (.i .i64 (0:Int))],[3],none⟩]) (.seq (.reg [
  ⟨.k (.bin .eql),[.s 9,.c (.i .i64 (6:Int))],[24],none⟩,
  ⟨.k .mv,[.s 24],[23],none⟩]) none (.cond (.s 23) [(1,.ptr 1065 0),(1065,.cl [])] (.reg [
  ⟨.k .mv,[.s 3],[25],none⟩,
  ⟨.k (.bin .rem),[.s 25,.c (.i .i64 (2:Int))],[26],none⟩,
  ⟨.k (.bin .eql),[.s 26,.c (.i .i64 (0:Int))],[27],none⟩,
  ⟨.k .mv,[.s 27],[4],none⟩,
  ⟨.k .mv,[.c (.i .i64 (0:Int))],[3],none⟩]) (.seq (.reg [
  ⟨.k (.bin .eql),[.s 9,.c (.i .i64 (7:Int))],[29],none⟩,
  ⟨.k .mv,[.s 29],[28],none⟩]) none (.cond (.s 28) [(1,.ptr 1065 0),(1065,.cl [])] (.reg [
  ⟨.k .mv,[.s 3],[30],none⟩,
  ⟨.k (.bin .eql),[.s 30,.c (.i .i64 (1:Int))],[31],none⟩,
  ⟨.k .mv,[.s 31],[4],none⟩,
  ⟨.k .mv,[.c (.i .i64 (0:Int))],[3],none⟩,
  ⟨.k (.fa 1065 0 1),[.s 1],[32],none⟩,
  ⟨.k (.st 1065 1 1),[.s 32,.s 1065,.c (.u64 (0:UInt64))],[1065],none⟩]) (.seq (.reg [
  ⟨.k (.bin .eql),[.s 9,.c (.i .i64 (8:Int))],[34],none⟩,
  ⟨.k .mv,[.s 34],[33],none⟩]) none (.cond (.s 33) [(1,.ptr 1065 0),(1065,.cl [])] (.reg [
  ⟨.k (.fa 1065 0 1),[.s 1],[35],none⟩,
  ⟨.k (.ld 1065 1 1 false),[.s 35,.s 1065],[36],none⟩,
  ⟨.k (.bin .geq),[.s 36,.c (.u64 (20:UInt64))],[37],none⟩,
  ⟨.k .mv,[.s 37],[38],none⟩,
  ⟨.k (.fa 1065 0 1),[.s 1],[39],some (38,true)⟩,
  ⟨.k (.ld 1065 1 1 false),[.s 39,.s 1065],[40],some (38,true)⟩,
  ⟨.k (.bin .leq),[.s 40,.c (.u64 (23:UInt64))],[41],some (38,true)⟩,
  ⟨.k .pick,[.s 38,.s 41,.c (.b false)],[42],none⟩,
  ⟨.k .mv,[.s 42],[4],none⟩,
  ⟨.k (.fa 1065 0 1),[.s 1],[43],none⟩,
  ⟨.k (.st 1065 1 1),[.s 43,.s 1065,.c (.u64 (0:UInt64))],[1065],none⟩]) .skip))))))))))))
def cb_fields.m2:TM := .seq (.reg [
  ⟨.k .mv,[.s 4],[44],none⟩,
  ⟨.k .mv,[.s 44],[45],none⟩,
  ⟨.k (.fa 1065 0 1),[.s 1],[46],some (45,true)⟩,
  ⟨.k (.ld 1065 1 1 false),[.s 46,.s 1065],[47],some (45,true)⟩,
  ⟨.k (.bin .eql),[.s 47,.c (.u64 (0:UInt64))],[48],some (45,true)⟩,
  ⟨.k .pick,[.s 45,.s 48,.c (.b false)],[49],none⟩,
  ⟨.k .mv,[.s 49],[50],none⟩,
  ⟨.k (.fa 1065 0 2),[.s 1],[51],some (50,true)⟩,
  ⟨.k (.ld 1065 2 1 false),[.s 51,.s 1065],[52],some (50,true)⟩,
  ⟨.k .len,[.s 52],[53],some (50,true)⟩,
  ⟨.k (.bin .eql),[.s 53,.c (.i .i64 (0:Int))],[54],some (50,true)⟩,
  ⟨.k .pick,[.s 50,.s 54,.c (.b false)],[55],none⟩,
  ⟨.k .mv,[.s 55],[56],none⟩,
  ⟨.k (.fa 1065 0 3),[.s 1],[57],some (56,true)⟩,
  ⟨.k (.ld 1065 3 1 false),[.s 57,.s 1065],[58],some (56,true)⟩,
  ⟨.k (.bin .eql),[.s 58,.c (.s ([]:Str))],[59],some (56,true)⟩,
  ⟨.k .pick,[.s 56,.s 59,.c (.b false)],[60],none⟩,
  ⟨.k .mv,[.s 60],[61],none⟩,
  ⟨.k .mv,[.s 3],[62],some (61,true)⟩,
  ⟨.k (.bin .eql),[.s 62,.c (.i .i64 (0:Int))],[63],some (61,true)⟩,
  ⟨.k .pick,[.s 61,.s 63,.c (.b false)],[64],none⟩,
  ⟨.k .mv,[.s 64],[2],none⟩]) none .ret
def cb_fields.m:TM := .seq (.reg [
  ⟨.k (.bx 1065),[.s 0,.s 1065],[1,1065],none⟩,
  ⟨.k .mv,[.c (.b false)],[2],none⟩]) none (.seq (.reg [
  ⟨.k (.fa 1065 0 4),[.s 1],[5],none⟩,
  ⟨.k (.ld 1065 4 1 false),[.s 5,.s 1065],[6],none⟩,
  ⟨.k .len,[.s 6],[7],none⟩,
  ⟨.k .mv,[.s 7],[3],none⟩]) none (.seq (.reg [
  ⟨.k .mv,[.c (.b true)],[4],none⟩]) none (.seq (.seq (.reg [
  ⟨.k (.fa 1065 0 0),[.s 1],[8],none⟩,
  ⟨.k (.ld 1065 0 1 false),[.s 8,.s 1065],[9],none⟩]) none (.block 0 [(1,.ptr 1065 0),(1065,.cl [])] (.seq (.seq (.reg [
  ⟨.k (.bin .eql),[.s 9,.c (.i .i64 (1:Int))],[11],none⟩,
  ⟨.k .mv,[.s 11],[10],none⟩]) none (.cond (.s 10) [(1,.ptr 1065 0),(1065,.cl [])] .skip (.seq (.reg [
  ⟨.k (.bin .eql),[.s 9,.c (.i .i64 (2:Int))],[12],none⟩,
  ⟨.k .mv,[.s 12],[10],none⟩]) none (.cond (.s 10) [(1,.ptr 1065 0),(1065,.cl [])] .skip (.reg [
  ⟨.k (.bin .eql),[.s 9,.c (.i .i64 (9:Int))],[13],none⟩,
  ⟨.k .mv,[.s 13],[10],none⟩]))))) (some [1,3,4,9,10,1065]) cb_fields.m1))) (some [1,3,4,1065]) cb_fields.m2)))
def cb_fields.d:TFD:={ np:=1,m:=cb_fields.m,ref:=none,tips:=[],res:=[.t 2],own:=[],new:=none,tnew:=[] }
noncomputable def cb_fields.F (it:Itv):Option (List TV):=cb_fields.d.run cb_fields.E [(.ag (Itv.cells it))]
noncomputable def cb_fields.k1:Cont (List TV):=seqK (evO _ cb_fields.E cb_fields.m2) (some [1,3,4,1065]) (endK cb_fields.d)
noncomputable def cb_fields.j1 (x0:Int) (x1:Bool) (x2:Int) (x3:Bool) (x4:Itv):Option (List TV):=evO _ cb_fields.E cb_fields.m1 (headT [1,3,4,9,10,1065] [.pt,(.i .i64 x0),(.b x1),(.i .i64 x2),(.b x3),(.ag (Itv.cells x4))]) (blockK 0 cb_fields.k1)
noncomputable def cb_fields.j2 (x0:Int) (x1:Bool) (x2:Itv):Option (List TV):=evO _ cb_fields.E cb_fields.m2 (headT [1,3,4,1065] [.pt,(.i .i64 x0),(.b x1),(.ag (Itv.cells x2))]) (endK cb_fields.d)
theorem cb_fields.j1_in (x0:Int) (x1:Bool) (x2:Int) (x3:Bool) (x4:Itv) {ρ:Option (List TV)} (K:∀(v1:Bool) (h1:v1=(cond (decide ((20:UInt64)≤(Itv.n x4))) (decide ((Itv.n x4)≤(23:UInt64))) false)),cond x3
  (cb_fields.j2 x0 x1 (Itv.mk (Itv.kind x4) (0:UInt64) (Itv.bytes x4) (Itv.text x4) (Itv.kids x4)))
  (cond (decide (x2=(3:Int)))
  (cb_fields.j2 x0 x1 (Itv.mk (Itv.kind x4) (Itv.n x4) ([]:List UInt8) (Itv.text x4) (Itv.kids x4)))
  (cond (decide (x2=(4:Int)))
  (cb_fields.j2 x0 x1 (Itv.mk (Itv.kind x4) (Itv.n x4) (Itv.bytes x4) ([]:Str) (Itv.kids x4)))
  (cond (decide (x2=(5:Int)))
  (cb_fields.j2 (0:Int) x1 x4)
  (cond (decide (x2=(6:Int)))
  (ck (!decide ((2:Int)=0)) (cb_fields.j2 (0:Int) (decide ((Int.tmod x0 (2:Int))=(0:Int))) x4))
  (cond (decide (x2=(7:Int)))
  (cb_fields.j2 (0:Int) (decide (x0=(1:Int))) (Itv.mk (Itv.kind x4) (0:UInt64) (Itv.bytes x4) (Itv.text x4) (Itv.kids x4)))
  (cond (decide (x2=(8:Int)))
  (ck (!(decide ((20:UInt64)≤(Itv.n x4))) || (decide ((20:UInt64)≤(Itv.n x4)))) (ck (!(decide ((20:UInt64)≤(Itv.n x4))) || (decide ((20:UInt64)≤(Itv.n x4)))) (ck (!(decide ((20:UInt64)≤(Itv.n x4))) || (decide ((20:UInt64)≤(Itv.n x4)))) (cb_fields.j2 x0 v1 (Itv.mk (Itv.kind x4) (0:UInt64) (Itv.bytes x4) (Itv.text x4) (Itv.kids x4))))))
  (cb_fields.j2 x0 x1 x4)))))))=ρ):cb_fields.j1 x0 x1 x2 x3 x4=ρ:=((congrFun (congrFun (ev_eq _ _) _) _).trans (by kernel_rfl)).trans (K _ rfl)
theorem cb_fields.j2_in (x0:Int) (x1:Bool) (x2:Itv) {ρ:Option (List TV)} (K:∀(v1:Bool) (h1:v1=(cond x1 (decide ((Itv.n x2)=(0:UInt64))) false)) (v2:Int) (h2:v2=(((Itv.bytes x2)).length:Int)) (v3:Bool) (h3:v3=(cond v1 (decide (v2=(0:Int))) false)) (v4:Bool) (h4:v4=(cond v3 (decide ((Itv.text x2)=([]:Str))) false)) (v5:Bool) (h5:v5=(cond v4 (decide (x0=(0:Int))) false)),ck (!x1 || x1) (ck (!x1 || x1) (ck (!x1 || x1) (ck (!v1 || v1) (ck (!v1 || v1) (ck (!v1 || v1) (ck (!v1 || v1) (ck (!v3 || v3) (ck (!v3 || v3) (ck (!v3 || v3) (ck (!v4 || v4) (ck (!v4 || v4) (some [(.b v5)]))))))))))))=ρ):cb_fields.j2 x0 x1 x2=ρ:=((congrFun (congrFun (ev_eq _ _) _) _).trans (by kernel_rfl)).trans (K _ rfl _ rfl _ rfl _ rfl _ rfl)
theorem cb_fields.F_in (it:Itv) {ρ:Option (List TV)} (K:∀(v1:Int) (h1:v1=(((Itv.kids it)).length:Int)),cond (decide ((Itv.kind it)=(1:Int)))
  (cb_fields.j1 v1 true (Itv.kind it) (decide ((Itv.kind it)=(1:Int))) it)
  (cond (decide ((Itv.kind it)=(2:Int)))
  (cb_fields.j1 v1 true (Itv.kind it) (decide ((Itv.kind it)=(2:Int))) it)
  (cb_fields.j1 v1 true (Itv.kind it) (decide ((Itv.kind it)=(9:Int))) it))=ρ):cb_fields.F it=ρ:=Eq.trans (by kernel_rfl) (K _ rfl)
theorem cb_fields.chk:((Go.Proofs.Tryd.prog.funcs[40]?).any fun fn=>chkF Go.Proofs.Tryd.prog (fun k=>((envL trydbGl cb_fields.env).fs k).2) fn cb_fields.d.erase)=true:=by kernel_rfl
end
noncomputable section
def cb_Check.env (n:Nat):List (Nat × (Ctr × FSig)):=[(26,(cb_Check.cn n,cb_Check.sg)),(40,(cb_fields.c,cb_fields.sg)),(41,(utf_Check.c,utf_Check.sg))]
def cb_Check.E (n:Nat):TEnv:=envL trydbGl (cb_Check.env n)
def cb_Check.m1:TM := .seq (.reg [
  ⟨.k (.bin .lss),[.s 31,.s 30],[32],none⟩]) none (.seq (.cond (.s 32) [] .skip (.exit 0)) none (.seq (.block 1 [] (.seq (.reg [
  ⟨.k (.ix 5),[.s 29,.s 31],[33],none⟩,
  ⟨.k (.lr 5 true),[.s 33],[34],none⟩,
  ⟨.al 1042 [(.i .i64 (0:Int)),(.u64 (0:UInt64)),(.sl .bs ([]:List UInt8)),(.s ([]:Str)),(.sl .il ([]:List Itm))] [],[.s 1042],[6,1042],none⟩,
  ⟨.k (.st 1042 0 5),[.s 6,.s 1042,.s 34],[1042],none⟩]) none (.seq (.reg [
  ⟨.k (.ld 1042 0 5 true),[.s 6,.s 1042],[35],none⟩,
  ⟨.k (.call 26 (.plain 1 1)),[.s 35],[36],none⟩,
  ⟨.k .mv,[.s 36],[7],none⟩]) none (.seq (.reg [
  ⟨.k .mv,[.s 7],[37],none⟩,
  ⟨.k (.bin .neq),[.s 37,.c (.i .i64 (0:Int))],[38],none⟩]) none (.cond (.s 38) [] (.seq (.reg [
  ⟨.k .mv,[.s 7],[39],none⟩,
  ⟨.k .mv,[.s 39],[2],none⟩]) none .ret) .skip))))) none (.reg [
  ⟨.k (.bin .add),[.s 31,.c (.i .i64 (1:Int))],[40],none⟩,
  ⟨.k .mv,[.s 40],[31],none⟩])))
def cb_Check.m:TM := .seq (.reg [
  ⟨.k (.bx 1041),[.s 0,.s 1041],[1,1041],none⟩,
  ⟨.k .mv,[.c (.i .i64 (0:Int))],[2],none⟩]) none (.seq (.seq (.reg [
  ⟨.k (.fa 1041 0 0),[.s 1],[8],none⟩,
  ⟨.k (.ld 1041 0 1 false),[.s 8,.s 1041],[9],none⟩,
  ⟨.k (.bin .lss),[.s 9,.c (.i .i64 (1:Int))],[10],none⟩,
  ⟨.k .mv,[.s 10],[11],none⟩,
  ⟨.k (.fa 1041 0 0),[.s 1],[12],some (11,false)⟩,
  ⟨.k (.ld 1041 0 1 false),[.s 12,.s 1041],[13],some (11,false)⟩,
  ⟨.k (.bin .gtr),[.s 13,.c (.i .i64 (9:Int))],[14],some (11,false)⟩,
  ⟨.k .pick,[.s 11,.c (.b true),.s 14],[15],none⟩]) none (.cond (.s 15) [] (.seq (.reg [
  ⟨.k .mv,[.c (.i .i64 (5:Int))],[2],none⟩]) none .ret) .skip)) none (.seq (.seq (.reg [
  ⟨.k (.ld 1041 0 5 true),[.s 1,.s 1041],[16],none⟩,
  ⟨.k (.call 40 (.plain 1 1)),[.s 16],[17],none⟩,
  ⟨.k (.un .not),[.s 17],[18],none⟩]) none (.cond (.s 18) [] (.seq (.reg [
  ⟨.k .mv,[.c (.i .i64 (1:Int))],[2],none⟩]) none .ret) .skip)) none (.seq (.seq (.reg [
  ⟨.k (.fa 1041 0 3),[.s 1],[20],none⟩,
  ⟨.k (.ld 1041 3 1 false),[.s 20,.s 1041],[21],none⟩,
  ⟨.k .sb,[.s 21],[22],none⟩,
  ⟨.k (.call 41 (.plain 1 2)),[.s 22],[23],none⟩,
  ⟨.k .mv,[.s 23],[19],none⟩,
  ⟨.k (.ex 0),[.s 19],[24],none⟩,
  ⟨.k (.ex 1),[.s 19],[25],none⟩,
  ⟨.k .mv,[.s 24],[3],none⟩,
  ⟨.k .mv,[.s 25],[4],none⟩]) none (.seq (.reg [
  ⟨.k .mv,[.s 4],[26],none⟩,
  ⟨.k (.un .not),[.s 26],[27],none⟩]) none (.cond (.s 27) [] (.seq (.reg [
  ⟨.k .mv,[.c (.i .i64 (4:Int))],[2],none⟩]) none .ret) .skip))) none (.seq (.seq (.reg [
  ⟨.k (.fa 1041 0 4),[.s 1],[28],none⟩,
  ⟨.k (.ld 1041 4 1 false),[.s 28,.s 1041],[29],none⟩,
  ⟨.k .len,[.s 29],[30],none⟩,
  ⟨.k .mv,[.c (.i .i64 (0:Int))],[31],none⟩]) none (.block 0 [] (.loop [29,30,31] [] cb_Check.m1))) none (.seq (.reg [
  ⟨.k .mv,[.c (.i .i64 (0:Int))],[2],none⟩]) none .ret)))))
def cb_Check.d:TFD:={ np:=1,m:=cb_Check.m,ref:=none,tips:=[],res:=[.t 2],own:=[],new:=none,tnew:=[] }
noncomputable def cb_Check.F (n:Nat) (it:Itv):Option (List TV):=cb_Check.d.run (cb_Check.E n) [(.ag (Itv.cells it))]
noncomputable def cb_Check.k1 (n:Nat):Cont (List TV):=seqK (ev _ (cb_Check.E n) (.seq (.reg [
  ⟨.k .mv,[.c (.i .i64 (0:Int))],[2],none⟩]) none .ret)) none (endK cb_Check.d)
noncomputable def cb_Check.l1 (n:Nat) (x0:List Itm) (x1:Int) (x2:Int):Option (List TV):=loopL (evO _ (cb_Check.E n) cb_Check.m1) isN [29,30,31] (headT [29,30,31] [(.sl .il x0),(.i .i64 x1),(.i .i64 x2)]) (blockK 0 (cb_Check.k1 n))
theorem cb_Check.l1_in (n:Nat) (x0:List Itm) (x1:Int) (x2:Int) {ρ:Option (List TV)} (K:∀(v1:Int) (h1:v1=(Cb.chk (Itm.of (Itm.val (List.getD x0 (x2).toNat (STy.dflt .il)))))) (v2:Int) (h2:v2=(IntKind.i64.wrap (x2+(1:Int)))),cond (decide (x2<x1))
  (ck (idxOK x2 (x0).length) (ck ((decide (Itm.bulk (Itm.of (Itm.val (List.getD x0 (x2).toNat (STy.dflt .il))))≤1099511627776))&&decide ((Itm.bulk (Itm.of (Itm.val (List.getD x0 (x2).toNat (STy.dflt .il)))))<n)) (cond (!decide (v1=(0:Int)))
  (some [(.i .i64 v1)])
  (cb_Check.l1 n x0 x1 v2))))
  (some [(.i .i64 (0:Int))])=ρ):cb_Check.l1 n x0 x1 x2=ρ:=((ev_loop _ _ _ _ _ _).trans (by kernel_rfl)).trans (K _ rfl _ rfl)
theorem cb_Check.F_in (n:Nat) (it:Itv) {ρ:Option (List TV)} (K:∀(v1:Bool) (h1:v1=(cond (decide ((Itv.kind it)<(1:Int))) true (decide ((9:Int)<(Itv.kind it))))) (v2:Int) (h2:v2=(((Utf.look ((Itv.text it))).1:Int))) (v3:Bool) (h3:v3=(!(Utf.whole ((Itv.text it))))) (v4:Int) (h4:v4=(((Itv.kids it)).length:Int)),ck (!(!(decide ((Itv.kind it)<(1:Int)))) || (!(decide ((Itv.kind it)<(1:Int))))) (ck (!(!(decide ((Itv.kind it)<(1:Int)))) || (!(decide ((Itv.kind it)<(1:Int))))) (ck ((decide ((Itv.kind it)<(1:Int))) || (!(decide ((Itv.kind it)<(1:Int))))) (cond v1
  (some [(.i .i64 (5:Int))])
  (ck (decide (Itm.bulk (Itm.of it)≤1099511627776)) (cond (!(Cb.fieldsOK (Itm.of it)))
  (some [(.i .i64 (1:Int))])
  (ck (lenOK ((Itv.text it)).length) (ck (decide (((Itv.text it)).length≤1099511627776)) (cond v3
  (some [(.i .i64 (4:Int))])
  (cb_Check.l1 n (Itv.kids it) v4 (0:Int))))))))))=ρ):cb_Check.F n it=ρ:=Eq.trans (by kernel_rfl) (K _ rfl _ rfl _ rfl _ rfl)
theorem cb_Check.chk (n:Nat):((Go.Proofs.Tryd.prog.funcs[26]?).any fun fn=>chkF Go.Proofs.Tryd.prog (fun k=>((envL trydbGl (cb_Check.env n)).fs k).2) fn cb_Check.d.erase)=true:=by kernel_rfl
end
noncomputable section
def ref28_own.env:List (Nat × (Ctr × FSig)):=[(48,(ref2_Whole.c,ref2_Whole.sg))]
def ref28_own.E:TEnv:=envL trydbGl ref28_own.env
def ref28_own.m:TM := .seq (.reg [
  ⟨.k (.bx 1122),[.s 0,.s 1122],[1,1122],none⟩,
  ⟨.k .mv,[.c (.i .i64 (0:Int))],[2],none⟩]) none (.seq (.reg [
  ⟨.k (.fa 1122 0 0),[.s 1],[4],none⟩,
  ⟨.k (.ld 1122 0 1 false),[.s 4,.s 1122],[5],none⟩,
  ⟨.k (.bin .neq),[.s 5,.c (.i .i64 (3:Int))],[6],none⟩,
  ⟨.k .mv,[.s 6],[7],none⟩,
  ⟨.k (.fa 1122 0 0),[.s 1],[8],some (7,true)⟩,
  ⟨.k (.ld 1122 0 1 false),[.s 8,.s 1122],[9],some (7,true)⟩,
  ⟨.k (.bin .neq),[.s 9,.c (.i .i64 (4:Int))],[10],some (7,true)⟩,
  ⟨.k .pick,[.s 7,.s 10,.c (.b false)],[11],none⟩,
  ⟨.k .mv,[.s 11],[12],none⟩,
  ⟨.k (.fa 1122 0 0),[.s 1],[13],some (12,true)⟩,
  ⟨.k (.ld 1122 0 1 false),[.s 13,.s 1122],[14],some (12,true)⟩,
  ⟨.k (.bin .neq),[.s 14,.c (.i .i64 (5:Int))],[15],some (12,true)⟩,
  ⟨.k .pick,[.s 12,.s 15,.c (.b false)],[16],none⟩,
  ⟨.k .mv,[.s 16],[17],none⟩,
  ⟨.k (.fa 1122 0 0),[.s 1],[18],some (17,true)⟩,
  ⟨.k (.ld 1122 0 1 false),[.s 18,.s 1122],[19],some (17,true)⟩,
  ⟨.k (.bin .neq),[.s 19,.c (.i .i64 (6:Int))],[20],some (17,true)⟩,
  ⟨.k .pick,[.s 17,.s 20,.c (.b false)],[21],none⟩,
  ⟨.k .mv,[.s 21],[3],none⟩]) none (.seq (.block 0 [] (.seq (.reg [
  ⟨.k (.fa 1122 0 0),[.s 1],[23],none⟩,
  ⟨.k (.ld 1122 0 1 false),[.s 23,.s 1122],[24],none⟩,
  ⟨.k (.bin .lss),[.s 24,.c (.i .i64 (1:Int))],[25],none⟩,
  ⟨.k .mv,[.s 25],[26],none⟩,
  ⟨.k (.fa 1122 0 0),[.s 1],[27],some (26,false)⟩,
  ⟨.k (.ld 1122 0 1 false),[.s 27,.s 1122],[28],some (26,false)⟩,
  ⟨.k (.bin .gtr),[.s 28,.c (.i .i64 (9:Int))],[29],some (26,false)⟩,
  ⟨.k .pick,[.s 26,.c (.b true),.s 29],[30],none⟩,
  ⟨.k .mv,[.s 30],[22],none⟩]) none (.cond (.s 22) [] (.seq (.reg [
  ⟨.k .mv,[.c (.i .i64 (5:Int))],[2],none⟩]) none .ret) (.seq (.reg [
  ⟨.k .mv,[.s 3],[32],none⟩,
  ⟨.k (.un .not),[.s 32],[33],none⟩,
  ⟨.k .mv,[.s 33],[34],none⟩,
  ⟨.k (.fa 1122 0 1),[.s 1],[35],some (34,true)⟩,
  ⟨.k (.ld 1122 1 1 false),[.s 35,.s 1122],[36],some (34,true)⟩,
  ⟨.k (.bin .neq),[.s 36,.c (.u64 (0:UInt64))],[37],some (34,true)⟩,
  ⟨.k .pick,[.s 34,.s 37,.c (.b false)],[38],none⟩,
  ⟨.k .mv,[.s 38],[39],none⟩,
  ⟨.k (.fa 1122 0 0),[.s 1],[40],some (39,false)⟩,
  ⟨.k (.ld 1122 0 1 false),[.s 40,.s 1122],[41],some (39,false)⟩,
  ⟨.k (.bin .neq),[.s 41,.c (.i .i64 (3:Int))],[42],some (39,false)⟩,
  ⟨.k .mv,[.s 42],[43],some (39,false)⟩,
  ⟨.k (.fa 1122 0 2),[.s 1],[44],some (43,true)⟩,
  ⟨.k (.ld 1122 2 1 false),[.s 44,.s 1122],[45],some (43,true)⟩,
  ⟨.k .len,[.s 45],[46],some (43,true)⟩,
  ⟨.k (.bin .gtr),[.s 46,.c (.i .i64 (0:Int))],[47],some (43,true)⟩,
  ⟨.k .pick,[.s 43,.s 47,.c (.b false)],[48],some (39,false)⟩,
  ⟨.k .pick,[.s 39,.c (.b true),.s 48],[49],none⟩,
  ⟨.k .mv,[.s 49],[50],none⟩,
  ⟨.k (.fa 1122 0 0),[.s 1],[51],some (50,false)⟩,
  ⟨.k (.ld 1122 0 1 false),[.s 51,.s 1122],[52],some (50,false)⟩,
  ⟨.k (.bin .neq),[.s 52,.c (.i .i64 (4:Int))],[53],some (50,false)⟩,
  ⟨.k .mv,[.s 53],[54],some (50,false)⟩,
  ⟨.k (.fa 1122 0 3),[.s 1],[55],some (54,true)⟩,
  ⟨.k (.ld 1122 3 1 false),[.s 55,.s 1122],[56],some (54,true)⟩,
  ⟨.k (.bin .neq),[.s 56,.c (.s ([]:Str))],[57],some (54,true)⟩,
  ⟨.k .pick,[.s 54,.s 57,.c (.b false)],[58],some (50,false)⟩,
  ⟨.k .pick,[.s 50,.c (.b true),.s 58],[59],none⟩,
  ⟨.k .mv,[.s 59],[31],none⟩]) none (.cond (.s 31) [] (.seq (.reg [
  ⟨.k .mv,[.c (.i .i64 (1:Int))],[2],none⟩]) none .ret) (.seq (.reg [
  ⟨.k (.fa 1122 0 0),[.s 1],[61],none⟩,
  ⟨.k (.ld 1122 0 1 false),[.s 61,.s 1122],[62],none⟩,
  ⟨.k (.bin .neq),[.s 62,.c (.i .i64 (5:Int))],[63],none⟩,
  ⟨.k .mv,[.s 63],[64],none⟩,
  ⟨.k (.fa 1122 0 0),[.s 1],[65],some (64,true)⟩,
  ⟨.k (.ld 1122 0 1 false),[.s 65,.s 1122],[66],some (64,true)⟩,
  ⟨.k (.bin .neq),[.s 66,.c (.i .i64 (6:Int))],[67],some (64,true)⟩,
  ⟨.k .pick,[.s 64,.s 67,.c (.b false)],[68],none⟩,
  ⟨.k .mv,[.s 68],[69],none⟩,
  ⟨.k (.fa 1122 0 0),[.s 1],[70],some (69,true)⟩,
  ⟨.k (.ld 1122 0 1 false),[.s 70,.s 1122],[71],some (69,true)⟩,
  ⟨.k (.bin .neq),[.s 71,.c (.i .i64 (7:Int))],[72],some (69,true)⟩,
  ⟨.k .pick,[.s 69,.s 72,.c (.b false)],[73],none⟩,
  ⟨.k .mv,[.s 73],[74],none⟩,
  ⟨.k (.fa 1122 0 4),[.s 1],[75],some (74,true)⟩,
  ⟨.k (.ld 1122 4 1 false),[.s 75,.s 1122],[76],some (74,true)⟩,
  ⟨.k .len,[.s 76],[77],some (74,true)⟩,
  ⟨.k (.bin .gtr),[.s 77,.c (.i .i64 (0:Int))],[78],some (74,true)⟩,
  ⟨.k .pick,[.s 74,.s 78,.c (.b false)],[79],none⟩,
  ⟨.k .mv,[.s 79],[60],none⟩]) none (.cond (.s 60) [] (.seq (.reg [
  ⟨.k .mv,[.c (.i .i64 (1:Int))],[2],none⟩]) none .ret) (.seq (.reg [
  ⟨.k (.fa 1122 0 0),[.s 1],[81],none⟩,
  ⟨.k (.ld 1122 0 1 false),[.s 81,.s 1122],[82],none⟩,
  ⟨.k (.bin .eql),[.s 82,.c (.i .i64 (8:Int))],[83],none⟩,
  ⟨.k .mv,[.s 83],[84],none⟩,
  ⟨.k (.fa 1122 0 1),[.s 1],[85],some (84,true)⟩,
  ⟨.k (.ld 1122 1 1 false),[.s 85,.s 1122],[86],some (84,true)⟩,
  ⟨.k (.bin .lss),[.s 86,.c (.u64 (20:UInt64))],[87],some (84,true)⟩,
  ⟨.k .mv,[.s 87],[88],some (84,true)⟩,
  ⟨.k (.fa 1122 0 1),[.s 1],[89],some (88,false)⟩,
  ⟨.k (.ld 1122 1 1 false),[.s 89,.s 1122],[90],some (88,false)⟩,
  ⟨.k (.bin .gtr),[.s 90,.c (.u64 (23:UInt64))],[91],some (88,false)⟩,
  ⟨.k .pick,[.s 88,.c (.b true),.s 91],[92],some (84,true)⟩,
  ⟨.k .pick,[.s 84,.s 92,.c (.b false)],[93],none⟩,
  ⟨.k .mv,[.s 93],[94],none⟩,
  ⟨.k (.fa 1122 0 0),[.s 1],[95],some (94,false)⟩,
  ⟨.k (.ld 1122 0 1 false),[.s 95,.s 1122],[96],some (94,false)⟩,
  ⟨.k (.bin .eql),[.s 96,.c (.i .i64 (6:Int))],[97],some (94,false)⟩,
  ⟨.k .mv,[.s 97],[98],some (94,false)⟩,
  ⟨.k (.fa 1122 0 4),[.s 1],[99],some (98,true)⟩,
  ⟨.k (.ld 1122 4 1 false),[.s 99,.s 1122],[100],some (98,true)⟩,
  ⟨.k .len,[.s 100],[101],some (98,true)⟩,
  ⟨.k (.bin .rem),[.s 101,.c (.i .i64 (2:Int))],[102],some (98,true)⟩,
  ⟨.k (.bin .neq),[.s 102,.c (.i .i64 (0:Int))],[103],some (98,true)⟩,
  ⟨.k .pick,[.s 98,.s 103,.c (.b false)],[104],some (94,false)⟩,
  ⟨.k .pick,[.s 94,.c (.b true),.s 104],[105],none⟩,
  ⟨.k .mv,[.s 105],[106],none⟩,
  ⟨.k (.fa 1122 0 0),[.s 1],[107],some (106,false)⟩,
  ⟨.k (.ld 1122 0 1 false),[.s 107,.s 1122],[108],some (106,false)⟩,
  ⟨.k (.bin .eql),[.s 108,.c (.i .i64 (7:Int))],[109],some (106,false)⟩,
  ⟨.k .mv,[.s 109],[110],some (106,false)⟩,
  ⟨.k (.fa 1122 0 4),[.s 1],[111],some (110,true)⟩,
  ⟨.k (.ld 1122 4 1 false),[.s 111,.s 1122],[112],some (110,true)⟩,
  ⟨.k .len,[.s 112],[113],some (110,true)⟩,
  ⟨.k (.bin .neq),[.s 113,.c (.i .i64 (1:Int))],[114],some (110,true)⟩,
  ⟨.k .pick,[.s 110,.s 114,.c (.b false)],[115],some (106,false)⟩,
  ⟨.k .pick,[.s 106,.c (.b true),.s 115],[116],none⟩,
  ⟨.k .mv,[.s 116],[80],none⟩]) none (.cond (.s 80) [] (.seq (.reg [
  ⟨.k .mv,[.c (.i .i64 (1:Int))],[2],none⟩]) none .ret) (.seq (.reg [
  ⟨.k (.fa 1122 0 3),[.s 1],[118],none⟩,
  ⟨.k (.ld 1122 3 1 false),[.s 118,.s 1122],[119],none⟩,
  ⟨.k (.call 48 (.plain 1 1)),[.s 119],[120],none⟩,
  ⟨.k (.un .not),[.s 120],[121],none⟩,
  ⟨.k .mv,[.s 121],[117],none⟩]) none (.cond (.s 117) [] (.seq (.reg [
  ⟨.k .mv,[.c (.i .i64 (4:Int))],[2],none⟩]) none .ret) .skip))))))))))) none (.seq (.reg [
  ⟨.k .mv,[.c (.i .i64 (0:Int))],[2],none⟩]) none .ret)))
def ref28_own.d:TFD:={ np:=1,m:=ref28_own.m,ref:=none,tips:=[],res:=[.t 2],own:=[],new:=none,tnew:=[] }
noncomputable def ref28_own.F (it:Itv):Option (List TV):=ref28_own.d.run ref28_own.E [(.ag (Itv.cells it))]
theorem ref28_own.F_in (it:Itv) {ρ:Option (List TV)} (K:∀(v1:Bool) (h1:v1=(cond (!decide ((Itv.kind it)=(3:Int))) (!decide ((Itv.kind it)=(4:Int))) false)) (v2:Bool) (h2:v2=(cond v1 (!decide ((Itv.kind it)=(5:Int))) false)) (v3:Bool) (h3:v3=(cond v2 (!decide ((Itv.kind it)=(6:Int))) false)) (v4:Bool) (h4:v4=(cond (decide ((Itv.kind it)<(1:Int))) true (decide ((9:Int)<(Itv.kind it))))) (v5:Bool) (h5:v5=(cond (!v3) (!decide ((Itv.n it)=(0:UInt64))) false)) (v6:Bool) (h6:v6=((!v5)&&(!decide ((Itv.kind it)=(3:Int))))) (v7:Int) (h7:v7=(((Itv.bytes it)).length:Int)) (v8:Bool) (h8:v8=(cond (!decide ((Itv.kind it)=(3:Int))) (decide ((0:Int)<v7)) false)) (v9:Bool) (h9:v9=((!(cond v5 true v8))&&(!decide ((Itv.kind it)=(4:Int))))) (v10:Bool) (h10:v10=(cond (!decide ((Itv.kind it)=(4:Int))) (!decide ((Itv.text it)=([]:Str))) false)) (v11:Bool) (h11:v11=(cond (cond v5 true v8) true v10)) (v12:Bool) (h12:v12=(cond (!decide ((Itv.kind it)=(5:Int))) (!decide ((Itv.kind it)=(6:Int))) false)) (v13:Bool) (h13:v13=(cond v12 (!decide ((Itv.kind it)=(7:Int))) false)) (v14:Int) (h14:v14=(((Itv.kids it)).length:Int)) (v15:Bool) (h15:v15=(cond v13 (decide ((0:Int)<v14)) false)) (v16:Bool) (h16:v16=((decide ((Itv.kind it)=(8:Int)))&&(!(decide ((Itv.n it)<(20:UInt64)))))) (v17:Bool) (h17:v17=(cond (decide ((Itv.n it)<(20:UInt64))) true (decide ((23:UInt64)<(Itv.n it))))) (v18:Bool) (h18:v18=(cond (decide ((Itv.kind it)=(8:Int))) v17 false)) (v19:Bool) (h19:v19=((!v18)&&(decide ((Itv.kind it)=(6:Int))))) (v20:Bool) (h20:v20=(cond (decide ((Itv.kind it)=(6:Int))) (!decide ((Int.tmod v14 (2:Int))=(0:Int))) false)) (v21:Bool) (h21:v21=((!(cond v18 true v20))&&(decide ((Itv.kind it)=(7:Int))))) (v22:Bool) (h22:v22=(cond (decide ((Itv.kind it)=(7:Int))) (!decide (v14=(1:Int))) false)) (v23:Bool) (h23:v23=(cond (cond v18 true v20) true v22)) (v24:Bool) (h24:v24=(!(Utf.whole ((Itv.text it))))),ck (!(!decide ((Itv.kind it)=(3:Int))) || (!decide ((Itv.kind it)=(3:Int)))) (ck (!(!decide ((Itv.kind it)=(3:Int))) || (!decide ((Itv.kind it)=(3:Int)))) (ck (!(!decide ((Itv.kind it)=(3:Int))) || (!decide ((Itv.kind it)=(3:Int)))) (ck (!v1 || v1) (ck (!v1 || v1) (ck (!v1 || v1) (ck (!v2 || v2) (ck (!v2 || v2) (ck (!v2 || v2) (ck (!(!(decide ((Itv.kind it)<(1:Int)))) || (!(decide ((Itv.kind it)<(1:Int))))) (ck (!(!(decide ((Itv.kind it)<(1:Int)))) || (!(decide ((Itv.kind it)<(1:Int))))) (ck ((decide ((Itv.kind it)<(1:Int))) || (!(decide ((Itv.kind it)<(1:Int))))) (cond v4
  (some [(.i .i64 (5:Int))])
  (ck (!(!v3) || (!v3)) (ck (!(!v3) || (!v3)) (ck (!(!v3) || (!v3)) (ck (!(!v5) || (!v5)) (ck (!(!v5) || (!v5)) (ck (!(!v5) || (!v5)) (ck (!v6 || v6) (ck (!v6 || v6) (ck (!v6 || v6) (ck (!(!v5) || ((!v5)&&(!(!decide ((Itv.kind it)=(3:Int))) || v6))) (ck (v5 || (!v5)) (ck (!(!(cond v5 true v8)) || (!(cond v5 true v8))) (ck (!(!(cond v5 true v8)) || (!(cond v5 true v8))) (ck (!(!(cond v5 true v8)) || (!(cond v5 true v8))) (ck (!v9 || v9) (ck (!v9 || v9) (ck (!(!(cond v5 true v8)) || ((!(cond v5 true v8))&&(!(!decide ((Itv.kind it)=(4:Int))) || v9))) (ck ((cond v5 true v8) || (!(cond v5 true v8))) (cond v11
  (some [(.i .i64 (1:Int))])
  (ck (!(!decide ((Itv.kind it)=(5:Int))) || (!decide ((Itv.kind it)=(5:Int)))) (ck (!(!decide ((Itv.kind it)=(5:Int))) || (!decide ((Itv.kind it)=(5:Int)))) (ck (!(!decide ((Itv.kind it)=(5:Int))) || (!decide ((Itv.kind it)=(5:Int)))) (ck (!v12 || v12) (ck (!v12 || v12) (ck (!v12 || v12) (ck (!v13 || v13) (ck (!v13 || v13) (ck (!v13 || v13) (ck (!v13 || v13) (cond v15
  (some [(.i .i64 (1:Int))])
  (ck (!(decide ((Itv.kind it)=(8:Int))) || (decide ((Itv.kind it)=(8:Int)))) (ck (!(decide ((Itv.kind it)=(8:Int))) || (decide ((Itv.kind it)=(8:Int)))) (ck (!(decide ((Itv.kind it)=(8:Int))) || (decide ((Itv.kind it)=(8:Int)))) (ck (!v16 || v16) (ck (!v16 || v16) (ck (!(decide ((Itv.kind it)=(8:Int))) || ((decide ((Itv.kind it)=(8:Int)))&&((decide ((Itv.n it)<(20:UInt64))) || v16))) (ck (!(decide ((Itv.kind it)=(8:Int))) || (decide ((Itv.kind it)=(8:Int)))) (ck (!(!v18) || (!v18)) (ck (!(!v18) || (!v18)) (ck (!(!v18) || (!v18)) (ck (!v19 || v19) (ck (!v19 || v19) (ck (!v19 || (v19&&(!decide ((2:Int)=0)))) (ck (!v19 || v19) (ck (!(!v18) || ((!v18)&&(!(decide ((Itv.kind it)=(6:Int))) || v19))) (ck (v18 || (!v18)) (ck (!(!(cond v18 true v20)) || (!(cond v18 true v20))) (ck (!(!(cond v18 true v20)) || (!(cond v18 true v20))) (ck (!(!(cond v18 true v20)) || (!(cond v18 true v20))) (ck (!v21 || v21) (ck (!v21 || v21) (ck (!v21 || v21) (ck (!(!(cond v18 true v20)) || ((!(cond v18 true v20))&&(!(decide ((Itv.kind it)=(7:Int))) || v21))) (ck ((cond v18 true v20) || (!(cond v18 true v20))) (cond v23
  (some [(.i .i64 (1:Int))])
  (ck (decide (((Itv.text it)).length≤1099511627776)) (cond v24
  (some [(.i .i64 (4:Int))])
  (some [(.i .i64 (0:Int))]))))))))))))))))))))))))))))))))))))))))))))))))))))))))))))))))))))))=ρ):ref28_own.F it=ρ:=Eq.trans (by kernel_rfl) (K _ rfl _ rfl _ rfl _ rfl _ rfl _ rfl _ rfl _ rfl _ rfl _ rfl _ rfl _ rfl _ rfl _ rfl _ rfl _ rfl _ rfl _ rfl _ rfl _ rfl _ rfl _ rfl _ rfl _ rfl)
theorem ref28_own.chk:((Go.Proofs.Tryd.prog.funcs[32]?).any fun fn=>chkF Go.Proofs.Tryd.prog (fun k=>((envL trydbGl ref28_own.env).fs k).2) fn ref28_own.d.erase)=true:=by kernel_rfl
end
noncomputable section
def ref28_Check.env (n:Nat):List (Nat × (Ctr × FSig)):=[(18,(ref28_Check.cn n,ref28_Check.sg)),(32,(ref28_own.c,ref28_own.sg))]
def ref28_Check.E (n:Nat):TEnv:=envL trydbGl (ref28_Check.env n)
def ref28_Check.m1:TM := .seq (.seq (.reg [
  ⟨.k .mv,[.s 4],[7],none⟩,
  ⟨.k (.fa 1025 0 4),[.s 1],[8],none⟩,
  ⟨.k (.ld 1025 4 1 false),[.s 8,.s 1025],[9],none⟩,
  ⟨.k .len,[.s 9],[10],none⟩,
  ⟨.k (.bin .lss),[.s 7,.s 10],[11],none⟩,
  ⟨.k .mv,[.s 11],[12],none⟩,
  ⟨.k .mv,[.s 3],[13],some (12,true)⟩,
  ⟨.k (.bin .eql),[.s 13,.c (.i .i64 (0:Int))],[14],some (12,true)⟩,
  ⟨.k .pick,[.s 12,.s 14,.c (.b false)],[15],none⟩]) none (.cond (.s 15) [] .skip (.exit 0))) none (.seq (.block 1 [(1,.ptr 1025 0),(1025,.cl [])] (.reg [
  ⟨.k (.fa 1025 0 4),[.s 1],[18],none⟩,
  ⟨.k (.ld 1025 4 1 false),[.s 18,.s 1025],[19],none⟩,
  ⟨.k .mv,[.s 4],[20],none⟩,
  ⟨.k (.ix 5),[.s 19,.s 20],[21],none⟩,
  ⟨.k (.lr 5 true),[.s 21],[22],none⟩,
  ⟨.k (.call 18 (.plain 1 1)),[.s 22],[23],none⟩,
  ⟨.k .mv,[.s 23],[3],none⟩])) none (.reg [
  ⟨.k .mv,[.s 4],[16],none⟩,
  ⟨.k (.bin .add),[.s 16,.c (.i .i64 (1:Int))],[17],none⟩,
  ⟨.k .mv,[.s 17],[4],none⟩]))
def ref28_Check.m:TM := .seq (.reg [
  ⟨.k (.bx 1025),[.s 0,.s 1025],[1,1025],none⟩,
  ⟨.k .mv,[.c (.i .i64 (0:Int))],[2],none⟩]) none (.seq (.reg [
  ⟨.k (.ld 1025 0 5 true),[.s 1,.s 1025],[5],none⟩,
  ⟨.k (.call 32 (.plain 1 1)),[.s 5],[6],none⟩,
  ⟨.k .mv,[.s 6],[3],none⟩]) none (.seq (.seq (.reg [
  ⟨.k .mv,[.c (.i .i64 (0:Int))],[4],none⟩]) none (.block 0 [] (.loop [1,3,4,1025] [(1,.ptr 1025 0),(1025,.cl [])] ref28_Check.m1))) none (.seq (.reg [
  ⟨.k .mv,[.s 3],[24],none⟩,
  ⟨.k .mv,[.s 24],[2],none⟩]) none .ret)))
def ref28_Check.d:TFD:={ np:=1,m:=ref28_Check.m,ref:=none,tips:=[],res:=[.t 2],own:=[],new:=none,tnew:=[] }
noncomputable def ref28_Check.F (n:Nat) (it:Itv):Option (List TV):=ref28_Check.d.run (ref28_Check.E n) [(.ag (Itv.cells it))]
noncomputable def ref28_Check.k1 (n:Nat):Cont (List TV):=seqK (ev _ (ref28_Check.E n) (.seq (.reg [
  ⟨.k .mv,[.s 3],[24],none⟩,
  ⟨.k .mv,[.s 24],[2],none⟩]) none .ret)) none (endK ref28_Check.d)
noncomputable def ref28_Check.l1 (n:Nat) (x0:Int) (x1:Int) (x2:Itv):Option (List TV):=loopL (evO _ (ref28_Check.E n) ref28_Check.m1) isN [1,3,4,1025] (headT [1,3,4,1025] [.pt,(.i .i64 x0),(.i .i64 x1),(.ag (Itv.cells x2))]) (blockK 0 (ref28_Check.k1 n))
theorem ref28_Check.l1_in (n:Nat) (x0:Int) (x1:Int) (x2:Itv) {ρ:Option (List TV)} (K:∀(v1:Int) (h1:v1=(((Itv.kids x2)).length:Int)) (v2:Bool) (h2:v2=(cond (decide (x1<v1)) (decide (x0=(0:Int))) false)) (v3:Int) (h3:v3=(Cb.chk (Itm.of (Itm.val (List.getD (Itv.kids x2) (x1).toNat (STy.dflt .il)))))) (v4:Int) (h4:v4=(IntKind.i64.wrap (x1+(1:Int)))),ck (!(decide (x1<v1)) || (decide (x1<v1))) (ck (!(decide (x1<v1)) || (decide (x1<v1))) (cond v2
  (ck (idxOK x1 ((Itv.kids x2)).length) (ck ((decide (Itm.bulk (Itm.of (Itm.val (List.getD (Itv.kids x2) (x1).toNat (STy.dflt .il))))≤1099511627776))&&decide ((Itm.bulk (Itm.of (Itm.val (List.getD (Itv.kids x2) (x1).toNat (STy.dflt .il)))))<n)) (ref28_Check.l1 n v3 v4 x2)))
  (some [(.i .i64 x0)])))=ρ):ref28_Check.l1 n x0 x1 x2=ρ:=((ev_loop _ _ _ _ _ _).trans (by kernel_rfl)).trans (K _ rfl _ rfl _ rfl _ rfl)
theorem ref28_Check.F_eq (n:Nat) (it:Itv):ref28_Check.F n it=ck (decide (Itm.bulk (Itm.of it)≤1099511627776)) (ref28_Check.l1 n (Cb.own (Itm.of it)) (0:Int) it):=by kernel_rfl
theorem ref28_Check.chk (n:Nat):((Go.Proofs.Tryd.prog.funcs[18]?).any fun fn=>chkF Go.Proofs.Tryd.prog (fun k=>((envL trydbGl (ref28_Check.env n)).fs k).2) fn ref28_Check.d.erase)=true:=by kernel_rfl
end
noncomputable section
def db_text.env:List (Nat × (Ctr × FSig)):=[]
def db_text.E:TEnv:=envL trydbGl db_text.env
def db_text.m:TM := .seq (.reg [
  ⟨.al 1005 [(.i .i64 (0:Int)),(.u64 (0:UInt64)),(.sl .bs ([]:List UInt8)),(.s ([]:Str)),(.sl .il ([]:List Itm))] [],[.s 1005],[2,1005],none⟩]) none (.seq (.reg [
  ⟨.k .mv,[.s 0],[3],none⟩,
  ⟨.bd [(.i .i64 (0:Int)),(.u64 (0:UInt64)),(.sl .bs ([]:List UInt8)),(.s ([]:Str)),(.sl .il ([]:List Itm))] [(0,1),(3,1)],[.c (.i .i64 (4:Int)),.s 3],[4],none⟩,
  ⟨.k (.st 1005 0 5),[.s 2,.s 1005,.s 4],[1005],none⟩]) none .ret)
def db_text.d:TFD:={ np:=1,m:=db_text.m,ref:=none,tips:=[],res:=[.c 2 1005 5 true],own:=[],new:=none,tnew:=[] }
noncomputable def db_text.F (s:Str):Option (List TV):=db_text.d.run db_text.E [(.s s)]
theorem db_text.F_eq (s:Str):db_text.F s=some [(.ag [(.i .i64 (4:Int)),(.u64 (0:UInt64)),(.sl .bs ([]:List UInt8)),(.s s),(.sl .il ([]:List Itm))])]:=by kernel_rfl
theorem db_text.chk:((Go.Proofs.Tryd.prog.funcs[36]?).any fun fn=>chkF Go.Proofs.Tryd.prog (fun k=>((envL trydbGl db_text.env).fs k).2) fn db_text.d.erase)=true:=by kernel_rfl
end
noncomputable section
def db_raw.env:List (Nat × (Ctr × FSig)):=[(69,(clone_bs.c,clone_bs.sg))]
def db_raw.E:TEnv:=envL trydbGl db_raw.env
def db_raw.m:TM := .seq (.reg [
  ⟨.al 1006 [(.i .i64 (0:Int)),(.u64 (0:UInt64)),(.sl .bs ([]:List UInt8)),(.s ([]:Str)),(.sl .il ([]:List Itm))] [],[.s 1006],[2,1006],none⟩]) none (.seq (.reg [
  ⟨.k .mv,[.s 0],[3],none⟩,
  ⟨.k (.call 69 ⟨1,none,[],[],1,[(0,102,1)],none,[]⟩),[.s 3,.s (lk 102)],[4,lk 102],none⟩,
  ⟨.bd [(.i .i64 (0:Int)),(.u64 (0:UInt64)),(.sl .bs ([]:List UInt8)),(.s ([]:Str)),(.sl .il ([]:List Itm))] [(0,1),(2,1)],[.c (.i .i64 (3:Int)),.s 4],[5],none⟩,
  ⟨.k (.st 1006 0 5),[.s 2,.s 1006,.s 5],[1006],none⟩]) none .ret)
def db_raw.d:TFD:={ np:=1,m:=db_raw.m,ref:=none,tips:=[],res:=[.c 2 1006 5 true],own:=[],new:=none,tnew:=[] }
noncomputable def db_raw.F (b:List UInt8):Option (List TV):=db_raw.d.run db_raw.E [(.sl .bs b)]
theorem db_raw.F_eq (b:List UInt8):db_raw.F b=ck (apOK (b).length 1) (some [(.ag [(.i .i64 (3:Int)),(.u64 (0:UInt64)),(.sl .bs (b)),(.s ([]:Str)),(.sl .il ([]:List Itm))])]):=by kernel_rfl
theorem db_raw.chk:((Go.Proofs.Tryd.prog.funcs[57]?).any fun fn=>chkF Go.Proofs.Tryd.prog (fun k=>((envL trydbGl db_raw.env).fs k).2) fn db_raw.d.erase)=true:=by kernel_rfl
end
noncomputable section
def db_plus.env:List (Nat × (Ctr × FSig)):=[]
def db_plus.E:TEnv:=envL trydbGl db_plus.env
def db_plus.m:TM := .seq (.reg [
  ⟨.al 1005 [(.i .i64 (0:Int)),(.u64 (0:UInt64)),(.sl .bs ([]:List UInt8)),(.s ([]:Str)),(.sl .il ([]:List Itm))] [],[.s 1005],[2,1005],none⟩]) none (.seq (.reg [
  ⟨.k .mv,[.s 0],[3],none⟩,
  ⟨.bd [(.i .i64 (0:Int)),(.u64 (0:UInt64)),(.sl .bs ([]:List UInt8)),(.s ([]:Str)),(.sl .il ([]:List Itm))] [(0,1),(1,1)],[.c (.i .i64 (1:Int)),.s 3],[4],none⟩,
  ⟨.k (.st 1005 0 5),[.s 2,.s 1005,.s 4],[1005],none⟩]) none .ret)
def db_plus.d:TFD:={ np:=1,m:=db_plus.m,ref:=none,tips:=[],res:=[.c 2 1005 5 true],own:=[],new:=none,tnew:=[] }
noncomputable def db_plus.F (n:UInt64):Option (List TV):=db_plus.d.run db_plus.E [(.u64 n)]
theorem db_plus.F_eq (n:UInt64):db_plus.F n=some [(.ag [(.i .i64 (1:Int)),(.u64 n),(.sl .bs ([]:List UInt8)),(.s ([]:Str)),(.sl .il ([]:List Itm))])]:=by kernel_rfl
theorem db_plus.chk:((Go.Proofs.Tryd.prog.funcs[81]?).any fun fn=>chkF Go.Proofs.Tryd.prog (fun k=>((envL trydbGl db_plus.env).fs k).2) fn db_plus.d.erase)=true:=by kernel_rfl
end
noncomputable section
def db_simple.env:List (Nat × (Ctr × FSig)):=[]
def db_simple.E:TEnv:=envL trydbGl db_simple.env
def db_simple.m:TM := .seq (.reg [
  ⟨.al 1005 [(.i .i64 (0:Int)),(.u64 (0:UInt64)),(.sl .bs ([]:List UInt8)),(.s ([]:Str)),(.sl .il ([]:List Itm))] [],[.s 1005],[2,1005],none⟩]) none (.seq (.reg [
  ⟨.k .mv,[.s 0],[3],none⟩,
  ⟨.bd [(.i .i64 (0:Int)),(.u64 (0:UInt64)),(.sl .bs ([]:List UInt8)),(.s ([]:Str)),(.sl .il ([]:List Itm))] [(0,1),(1,1)],[.c (.i .i64 (8:Int)),.s 3],[4],none⟩,
  ⟨.k (.st 1005 0 5),[.s 2,.s 1005,.s 4],[1005],none⟩]) none .ret)
def db_simple.d:TFD:={ np:=1,m:=db_simple.m,ref:=none,tips:=[],res:=[.c 2 1005 5 true],own:=[],new:=none,tnew:=[] }
noncomputable def db_simple.F (n:UInt64):Option (List TV):=db_simple.d.run db_simple.E [(.u64 n)]
theorem db_simple.F_eq (n:UInt64):db_simple.F n=some [(.ag [(.i .i64 (8:Int)),(.u64 n),(.sl .bs ([]:List UInt8)),(.s ([]:Str)),(.sl .il ([]:List Itm))])]:=by kernel_rfl
theorem db_simple.chk:((Go.Proofs.Tryd.prog.funcs[58]?).any fun fn=>chkF Go.Proofs.Tryd.prog (fun k=>((envL trydbGl db_simple.env).fs k).2) fn db_simple.d.erase)=true:=by kernel_rfl
end
noncomputable section
def db_list.env:List (Nat × (Ctr × FSig)):=[]
def db_list.E:TEnv:=envL trydbGl db_list.env
def db_list.m:TM := .seq (.reg [
  ⟨.al 1005 [(.i .i64 (0:Int)),(.u64 (0:UInt64)),(.sl .bs ([]:List UInt8)),(.s ([]:Str)),(.sl .il ([]:List Itm))] [],[.s 1005],[2,1005],none⟩]) none (.seq (.reg [
  ⟨.k .mv,[.s 0],[3],none⟩,
  ⟨.bd [(.i .i64 (0:Int)),(.u64 (0:UInt64)),(.sl .bs ([]:List UInt8)),(.s ([]:Str)),(.sl .il ([]:List Itm))] [(0,1),(4,1)],[.c (.i .i64 (5:Int)),.s 3],[4],none⟩,
  ⟨.k (.st 1005 0 5),[.s 2,.s 1005,.s 4],[1005],none⟩]) none .ret)
def db_list.d:TFD:={ np:=1,m:=db_list.m,ref:=none,tips:=[],res:=[.c 2 1005 5 true],own:=[],new:=none,tnew:=[] }
noncomputable def db_list.F (l:List Itm):Option (List TV):=db_list.d.run db_list.E [(.sl .il l)]
theorem db_list.F_eq (l:List Itm):db_list.F l=some [(.ag [(.i .i64 (5:Int)),(.u64 (0:UInt64)),(.sl .bs ([]:List UInt8)),(.s ([]:Str)),(.sl .il l)])]:=by kernel_rfl
theorem db_list.chk:((Go.Proofs.Tryd.prog.funcs[56]?).any fun fn=>chkF Go.Proofs.Tryd.prog (fun k=>((envL trydbGl db_list.env).fs k).2) fn db_list.d.erase)=true:=by kernel_rfl
end
noncomputable section
def db_integer.env:List (Nat × (Ctr × FSig)):=[(81,(db_plus.c,db_plus.sg))]
def db_integer.E:TEnv:=envL trydbGl db_integer.env
def db_integer.m:TM := .seq (.reg [
  ⟨.al 1012 [(.i .i64 (0:Int)),(.u64 (0:UInt64)),(.sl .bs ([]:List UInt8)),(.s ([]:Str)),(.sl .il ([]:List Itm))] [],[.s 1012],[2,1012],none⟩]) none (.seq (.seq (.reg [
  ⟨.k .mv,[.s 0],[3],none⟩,
  ⟨.k (.bin .lss),[.s 3,.c (.i .i64 (0:Int))],[4],none⟩]) none (.cond (.s 4) [] (.seq (.reg [
  ⟨.k .mv,[.s 0],[5],none⟩,
  ⟨.k (.ci .u64),[.s 5],[6],none⟩,
  ⟨.k (.un .xor),[.s 6],[7],none⟩,
  ⟨.bd [(.i .i64 (0:Int)),(.u64 (0:UInt64)),(.sl .bs ([]:List UInt8)),(.s ([]:Str)),(.sl .il ([]:List Itm))] [(0,1),(1,1)],[.c (.i .i64 (2:Int)),.s 7],[8],none⟩,
  ⟨.k (.st 1012 0 5),[.s 2,.s 1012,.s 8],[1012],none⟩]) none .ret) .skip)) none (.seq (.reg [
  ⟨.k .mv,[.s 0],[9],none⟩,
  ⟨.k (.ci .u64),[.s 9],[10],none⟩,
  ⟨.k (.call 81 (.plain 1 1)),[.s 10],[11],none⟩,
  ⟨.k (.st 1012 0 5),[.s 2,.s 1012,.s 11],[1012],none⟩]) none .ret))
def db_integer.d:TFD:={ np:=1,m:=db_integer.m,ref:=none,tips:=[],res:=[.c 2 1012 5 true],own:=[],new:=none,tnew:=[] }
noncomputable def db_integer.F (v:Int):Option (List TV):=db_integer.d.run db_integer.E [(.i .i64 v)]
theorem db_integer.F_eq (v:Int):db_integer.F v=cond (decide (v<(0:Int)))
  (some [(.ag [(.i .i64 (2:Int)),(.u64 (~~~(UInt64.ofInt v))),(.sl .bs ([]:List UInt8)),(.s ([]:Str)),(.sl .il ([]:List Itm))])])
  (some [(.ag (Itv.cells (Itm.val (Db.plus ((UInt64.ofInt v))))))]):=by kernel_rfl
theorem db_integer.chk:((Go.Proofs.Tryd.prog.funcs[59]?).any fun fn=>chkF Go.Proofs.Tryd.prog (fun k=>((envL trydbGl db_integer.env).fs k).2) fn db_integer.d.erase)=true:=by kernel_rfl
end
noncomputable section
def db_words.env:List (Nat × (Ctr × FSig)):=[(57,(db_raw.c,db_raw.sg))]
def db_words.E:TEnv:=envL trydbGl db_words.env
def db_words.m1:TM := .reg [
  ⟨.k .mv,[.s 3],[16],none⟩,
  ⟨.k .mv,[.s 5],[17],none⟩,
  ⟨.k .mv,[.s 4],[18],none⟩,
  ⟨.k (.bin .rem),[.s 18,.c (.i .i64 (64:Int))],[19],none⟩,
  ⟨.k (.bin .shr),[.s 17,.s 19],[20],none⟩,
  ⟨.k (.ci .u8),[.s 20],[21],none⟩,
  ⟨.bl .bs 1,[.s 21],[22],none⟩,
  ⟨.k (.ap 102 104 1 1),[.s 16,.s 22,.s (lk 102),.s (lk 104)],[23,lk 102,lk 104],none⟩,
  ⟨.k .mv,[.s 23],[3],none⟩]
def db_words.m2:TM := .seq (.seq (.reg [
  ⟨.k .mv,[.s 4],[6],none⟩,
  ⟨.k (.bin .geq),[.s 6,.c (.i .i64 (0:Int))],[7],none⟩]) none (.cond (.s 7) [] .skip (.exit 0))) none (.seq (.block 1 [(1,.ptr 1026 0),(2,.ptr 1027 0),(3,.tip 104 1),(1026,.cl []),(1027,.cl []),(lk 104,.live 1)] (.seq (.reg [
  ⟨.k (.fa 1026 0 2),[.s 1],[10],none⟩,
  ⟨.k (.ld 1026 2 1 false),[.s 10,.s 1026],[11],none⟩,
  ⟨.k .mv,[.s 11],[5],none⟩]) none (.seq (.seq (.reg [
  ⟨.k .mv,[.s 4],[12],none⟩,
  ⟨.k (.bin .lss),[.s 12,.c (.i .i64 (64:Int))],[13],none⟩]) none (.cond (.s 13) [(1,.ptr 1026 0),(2,.ptr 1027 0),(3,.tip 102 1),(1026,.cl []),(1027,.cl []),(lk 102,.live 1)] (.reg [
  ⟨.k (.fa 1026 0 3),[.s 1],[14],none⟩,
  ⟨.k (.ld 1026 3 1 false),[.s 14,.s 1026],[15],none⟩,
  ⟨.k .mv,[.s 15],[5],none⟩]) .skip)) (some [1,2,3,4,5,1026,1027]) db_words.m1))) none (.reg [
  ⟨.k .mv,[.s 4],[8],none⟩,
  ⟨.k (.bin .sub),[.s 8,.c (.i .i64 (8:Int))],[9],none⟩,
  ⟨.k .mv,[.s 9],[4],none⟩]))
def db_words.m:TM := .seq (.reg [
  ⟨.k (.bx 1026),[.s 0,.s 1026],[1,1026],none⟩,
  ⟨.al 1027 [(.i .i64 (0:Int)),(.u64 (0:UInt64)),(.sl .bs ([]:List UInt8)),(.s ([]:Str)),(.sl .il ([]:List Itm))] [],[.s 1027],[2,1027],none⟩]) none (.seq (.reg [
  ⟨.nl .bs 102,[.s (lk 102)],[3,lk 102],none⟩]) none (.seq (.seq (.reg [
  ⟨.k .mv,[.c (.i .i64 (120:Int))],[4],none⟩]) none (.block 0 [(2,.ptr 1027 0),(3,.tip 102 1),(1027,.cl []),(lk 102,.live 1)] (.loop [1,2,3,4,1026,1027] [(1,.ptr 1026 0),(2,.ptr 1027 0),(3,.tip 102 1),(1026,.cl []),(1027,.cl []),(lk 102,.live 1)] db_words.m2))) none (.seq (.reg [
  ⟨.k .mv,[.s 3],[24],none⟩,
  ⟨.k (.call 57 (.plain 1 1)),[.s 24],[25],none⟩,
  ⟨.k (.st 1027 0 5),[.s 2,.s 1027,.s 25],[1027],none⟩]) none .ret)))
def db_words.d:TFD:={ np:=1,m:=db_words.m,ref:=none,tips:=[],res:=[.c 2 1027 5 true],own:=[],new:=none,tnew:=[] }
noncomputable def db_words.F (v:Val):Option (List TV):=db_words.d.run db_words.E [(.ag (Val.cells v))]
noncomputable def db_words.k1:Cont (List TV):=seqK (ev _ db_words.E (.seq (.reg [
  ⟨.k .mv,[.s 3],[24],none⟩,
  ⟨.k (.call 57 (.plain 1 1)),[.s 24],[25],none⟩,
  ⟨.k (.st 1027 0 5),[.s 2,.s 1027,.s 25],[1027],none⟩]) none .ret)) none (endK db_words.d)
noncomputable def db_words.k2:Cont (List TV):=againK (evO _ db_words.E db_words.m2) isN [1,2,3,4,1026,1027] (blockK 0 db_words.k1)
noncomputable def db_words.k3:Cont (List TV):=seqK (ev _ db_words.E (.reg [
  ⟨.k .mv,[.s 4],[8],none⟩,
  ⟨.k (.bin .sub),[.s 8,.c (.i .i64 (8:Int))],[9],none⟩,
  ⟨.k .mv,[.s 9],[4],none⟩])) none db_words.k2
noncomputable def db_words.l1 (x0:List UInt8) (x1:Int) (x2:Val) (x3:Itv):Option (List TV):=loopL (evO _ db_words.E db_words.m2) isN [1,2,3,4,1026,1027] (headT [1,2,3,4,1026,1027] [.pt,.pt,(.sl .bs x0),(.i .i64 x1),(.ag (Val.cells x2)),(.ag (Itv.cells x3))]) (blockK 0 db_words.k1)
noncomputable def db_words.j2 (x0:List UInt8) (x1:Int) (x2:UInt64) (x3:Val) (x4:Itv):Option (List TV):=evO _ db_words.E db_words.m1 (headT [1,2,3,4,5,1026,1027] [.pt,.pt,(.sl .bs x0),(.i .i64 x1),(.u64 x2),(.ag (Val.cells x3)),(.ag (Itv.cells x4))]) (blockK 1 db_words.k3)
theorem db_words.l1_eq (x0:List UInt8) (x1:Int) (x2:Val) (x3:Itv):db_words.l1 x0 x1 x2 x3=cond (decide ((0:Int)≤x1))
  (cond (decide (x1<(64:Int)))
  (db_words.j2 x0 x1 (Val.low x2) x2 x3)
  (db_words.j2 x0 x1 (Val.high x2) x2 x3))
  (ck (decide ((x0).length≤1099511627776)) (some [(.ag (Itv.cells (Itm.val (Db.raw x0))))])):=((ev_loop _ _ _ _ _ _).trans (by kernel_rfl))
theorem db_words.j2_in (x0:List UInt8) (x1:Int) (x2:UInt64) (x3:Val) (x4:Itv) {ρ:Option (List TV)} (K:∀(v1:UInt64) (h1:v1=(shr64 x2 (((Int.tmod x1 (64:Int))).toNat))) (v2:UInt8) (h2:v2=(UInt8.ofInt ((v1).toNat:Int))) (v3:Int) (h3:v3=(IntKind.i64.wrap (x1 - (8:Int)))),ck (!decide ((64:Int)=0)) (ck (decide (0≤(Int.tmod x1 (64:Int)))) (ck (apOK ((x0).length+(([v2]:List UInt8)).length) 1) (db_words.l1 (x0++([v2]:List UInt8)) v3 x3 x4)))=ρ):db_words.j2 x0 x1 x2 x3 x4=ρ:=((congrFun (congrFun (ev_eq _ _) _) _).trans (by kernel_rfl)).trans (K _ rfl _ rfl _ rfl)
theorem db_words.F_eq (v:Val):db_words.F v=db_words.l1 ([]:List UInt8) (120:Int) v (Itv.mk (0:Int) (0:UInt64) ([]:List UInt8) ([]:Str) ([]:List Itm)):=by kernel_rfl
theorem db_words.chk:((Go.Proofs.Tryd.prog.funcs[82]?).any fun fn=>chkF Go.Proofs.Tryd.prog (fun k=>((envL trydbGl db_words.env).fs k).2) fn db_words.d.erase)=true:=by kernel_rfl
end
noncomputable section
def db_mapped.env (n:Nat):List (Nat × (Ctr × FSig)):=[(36,(db_text.c,db_text.sg)),(37,(db_item.cn n,db_item.sg))]
def db_mapped.E (n:Nat):TEnv:=envL trydbGl (db_mapped.env n)
def db_mapped.m1:TM := .seq (.reg [
  ⟨.k (.bin .lss),[.s 9,.s 8],[10],none⟩]) none (.seq (.cond (.s 10) [] .skip (.exit 0)) none (.seq (.block 1 [(2,.ptr 1026 0),(3,.ptr 1027 0),(1026,.cl []),(1027,.cl [(4,109,5)]),(lk 109,.live 5)] (.seq (.reg [
  ⟨.k (.ix 10),[.s 7,.s 9],[11],none⟩,
  ⟨.k (.lr 10 true),[.s 11],[12],none⟩,
  ⟨.al 1028 [(.s ([]:Str)),(.i .i64 (0:Int)),(.u64 (0:UInt64)),(.u64 (0:UInt64)),(.u64 (0:UInt64)),(.s ([]:Str)),(.s ([]:Str)),(.i .i64 (0:Int)),(.sl .bs ([]:List UInt8)),(.sl .fl ([]:List Fld))] [],[.s 1028],[5,1028],none⟩,
  ⟨.k (.st 1028 0 10),[.s 5,.s 1028,.s 12],[1028],none⟩]) none (.reg [
  ⟨.k (.fa 1027 0 4),[.s 3],[13],none⟩,
  ⟨.k (.ld 1027 4 1 false),[.s 13,.s 1027],[14],none⟩,
  ⟨.k (.fa 1028 0 0),[.s 5],[15],none⟩,
  ⟨.k (.ld 1028 0 1 false),[.s 15,.s 1028],[16],none⟩,
  ⟨.k (.call 36 (.plain 1 1)),[.s 16],[17],none⟩,
  ⟨.k (.fa 1028 0 1),[.s 5],[18],none⟩,
  ⟨.k (.ld 1028 1 9 true),[.s 18,.s 1028],[19],none⟩,
  ⟨.k (.call 37 (.plain 1 1)),[.s 19],[20],none⟩,
  ⟨.bl .il 2,[.s 17,.s 20],[21],none⟩,
  ⟨.k (.ap 105 109 5 80),[.s 14,.s 21,.s (lk 105),.s (lk 109)],[22,lk 105,lk 109],none⟩,
  ⟨.k (.fa 1027 0 4),[.s 3],[23],none⟩,
  ⟨.k (.st 1027 4 1),[.s 23,.s 1027,.s 22],[1027],none⟩]))) none (.reg [
  ⟨.k (.bin .add),[.s 9,.c (.i .i64 (1:Int))],[24],none⟩,
  ⟨.k .mv,[.s 24],[9],none⟩])))
def db_mapped.m:TM := .seq (.reg [
  ⟨.al 1026 [(.i .i64 (0:Int)),(.u64 (0:UInt64)),(.sl .bs ([]:List UInt8)),(.s ([]:Str)),(.sl .il ([]:List Itm))] [],[.s 1026],[2,1026],none⟩]) none (.seq (.reg [
  ⟨.bd [(.i .i64 (0:Int)),(.u64 (0:UInt64)),(.c (.slice none 0 0)),(.s ([]:Str)),(.c (.slice none 0 0))] [(0,1)],[.c (.i .i64 (6:Int))],[6],none⟩,
  ⟨.al 1027 [(.i .i64 (0:Int)),(.u64 (0:UInt64)),(.sl .bs ([]:List UInt8)),(.s ([]:Str)),(.sl .il ([]:List Itm))] [],[.s 1027],[3,1027],none⟩,
  ⟨.stt 1027 0 5 [(4,105,.il)],[.s 3,.s 1027,.s 6,.s (lk 105)],[1027,lk 105],none⟩]) none (.seq (.seq (.reg [
  ⟨.k .mv,[.s 0],[7],none⟩,
  ⟨.k .len,[.s 7],[8],none⟩,
  ⟨.k .mv,[.c (.i .i64 (0:Int))],[9],none⟩]) none (.block 0 [(2,.ptr 1026 0),(3,.ptr 1027 0),(1026,.cl []),(1027,.cl [(4,105,5)]),(lk 105,.live 5)] (.loop [2,3,7,8,9,1026,1027] [(2,.ptr 1026 0),(3,.ptr 1027 0),(1026,.cl []),(1027,.cl [(4,105,5)]),(lk 105,.live 5)] db_mapped.m1))) none (.seq (.reg [
  ⟨.k (.ld 1027 0 5 true),[.s 3,.s 1027],[25],none⟩,
  ⟨.stt 1026 0 5 [(2,110,.bs)],[.s 2,.s 1026,.s 25,.s (lk 110)],[1026,lk 110],none⟩]) none .ret)))
def db_mapped.d:TFD:={ np:=1,m:=db_mapped.m,ref:=none,tips:=[],res:=[.c 2 1026 5 true],own:=[],new:=none,tnew:=[] }
noncomputable def db_mapped.F (n:Nat) (l:List Fld):Option (List TV):=db_mapped.d.run (db_mapped.E n) [(.sl .fl l)]
noncomputable def db_mapped.k1 (n:Nat):Cont (List TV):=seqK (ev _ (db_mapped.E n) (.seq (.reg [
  ⟨.k (.ld 1027 0 5 true),[.s 3,.s 1027],[25],none⟩,
  ⟨.stt 1026 0 5 [(2,110,.bs)],[.s 2,.s 1026,.s 25,.s (lk 110)],[1026,lk 110],none⟩]) none .ret)) none (endK db_mapped.d)
noncomputable def db_mapped.l1 (n:Nat) (x0:List Fld) (x1:Int) (x2:Int) (x3:Itv) (x4:Int) (x5:UInt64) (x6:Str) (x7:List Itm):Option (List TV):=loopL (evO _ (db_mapped.E n) db_mapped.m1) isN [2,3,7,8,9,1026,1027] (headT [2,3,7,8,9,1026,1027] [.pt,.pt,(.sl .fl x0),(.i .i64 x1),(.i .i64 x2),(.ag (Itv.cells x3)),(.ag [(.i .i64 x4),(.u64 x5),(.c (.slice none 0 0)),(.s x6),(.sl .il x7)])]) (blockK 0 (db_mapped.k1 n))
theorem db_mapped.l1_in (n:Nat) (x0:List Fld) (x1:Int) (x2:Int) (x3:Itv) (x4:Int) (x5:UInt64) (x6:Str) (x7:List Itm) {ρ:Option (List TV)} (K:∀(v1:Fld) (h1:v1=(List.getD x0 (x2).toNat (STy.dflt .fl))) (v2:List Itm) (h2:v2=([(Itm.of (Itm.val (Db.text ((Fld.name v1))))),(Itm.of (Itm.val (Db.item (Fld.of [] (Fld.val v1)))))]:List Itm)) (v3:Int) (h3:v3=(IntKind.i64.wrap (x2+(1:Int)))),cond (decide (x2<x1))
  (ck (idxOK x2 (x0).length) (ck ((decide (Fld.bulk (Fld.of [] (Fld.val v1))≤1073741824))&&decide ((3 * Fld.bulk (Fld.of [] (Fld.val v1))+2)<n)) (ck (apOK ((x7).length+(v2).length) 80) (db_mapped.l1 n x0 x1 v3 x3 x4 x5 x6 (x7++v2)))))
  (some [(.ag [(.i .i64 x4),(.u64 x5),(.sl .bs ([]:List UInt8)),(.s x6),(.sl .il x7)])])=ρ):db_mapped.l1 n x0 x1 x2 x3 x4 x5 x6 x7=ρ:=((ev_loop _ _ _ _ _ _).trans (by kernel_rfl)).trans (K _ rfl _ rfl _ rfl)
theorem db_mapped.F_eq (n:Nat) (l:List Fld):db_mapped.F n l=db_mapped.l1 n l ((l).length:Int) (0:Int) (Itv.mk (0:Int) (0:UInt64) ([]:List UInt8) ([]:Str) ([]:List Itm)) (6:Int) (0:UInt64) ([]:Str) ([]:List Itm):=by kernel_rfl
theorem db_mapped.chk (n:Nat):((Go.Proofs.Tryd.prog.funcs[22]?).any fun fn=>chkF Go.Proofs.Tryd.prog (fun k=>((envL trydbGl (db_mapped.env n)).fs k).2) fn db_mapped.d.erase)=true:=by kernel_rfl
end
noncomputable section
def db_item.env (n:Nat):List (Nat × (Ctr × FSig)):=[(22,(db_mapped.cn n,db_mapped.sg)),(36,(db_text.c,db_text.sg)),(37,(db_item.cn n,db_item.sg)),(55,(tree_Regular.c,tree_Regular.sg)),(56,(db_list.c,db_list.sg)),(57,(db_raw.c,db_raw.sg)),(58,(db_simple.c,db_simple.sg)),(59,(db_integer.c,db_integer.sg)),(60,(db_tagged.cn n,db_tagged.sg))]
def db_item.E (n:Nat):TEnv:=envL trydbGl (db_item.env n)
def db_item.m1:TM := .seq (.reg [
  ⟨.k (.bin .lss),[.s 32,.s 31],[33],none⟩]) none (.seq (.cond (.s 33) [] .skip (.exit 1)) none (.seq (.block 2 [(2,.ptr 1082 0),(3,.ptr 1083 0),(1082,.cl []),(1083,.cl [(4,110,5)]),(lk 110,.live 5)] (.seq (.reg [
  ⟨.k (.ix 10),[.s 30,.s 32],[34],none⟩,
  ⟨.k (.lr 10 true),[.s 34],[35],none⟩,
  ⟨.al 1084 [(.s ([]:Str)),(.i .i64 (0:Int)),(.u64 (0:UInt64)),(.u64 (0:UInt64)),(.u64 (0:UInt64)),(.s ([]:Str)),(.s ([]:Str)),(.i .i64 (0:Int)),(.sl .bs ([]:List UInt8)),(.sl .fl ([]:List Fld))] [],[.s 1084],[5,1084],none⟩,
  ⟨.k (.st 1084 0 10),[.s 5,.s 1084,.s 35],[1084],none⟩]) none (.reg [
  ⟨.k (.fa 1083 0 4),[.s 3],[36],none⟩,
  ⟨.k (.ld 1083 4 1 false),[.s 36,.s 1083],[37],none⟩,
  ⟨.k (.fa 1084 0 1),[.s 5],[38],none⟩,
  ⟨.k (.ld 1084 1 9 true),[.s 38,.s 1084],[39],none⟩,
  ⟨.k (.call 37 (.plain 1 1)),[.s 39],[40],none⟩,
  ⟨.bl .il 1,[.s 40],[41],none⟩,
  ⟨.k (.ap 106 110 5 80),[.s 37,.s 41,.s (lk 106),.s (lk 110)],[42,lk 106,lk 110],none⟩,
  ⟨.k (.fa 1083 0 4),[.s 3],[43],none⟩,
  ⟨.k (.st 1083 4 1),[.s 43,.s 1083,.s 42],[1083],none⟩]))) none (.reg [
  ⟨.k (.bin .add),[.s 32,.c (.i .i64 (1:Int))],[44],none⟩,
  ⟨.k .mv,[.s 44],[32],none⟩])))
def db_item.m2:TM := .seq (.reg [
  ⟨.k (.fa 1081 0 0),[.s 1],[73],none⟩,
  ⟨.k (.ld 1081 0 1 false),[.s 73,.s 1081],[74],none⟩,
  ⟨.k (.ci .u64),[.s 74],[75],none⟩,
  ⟨.k (.bin .add),[.c (.u64 (1000:UInt64)),.s 75],[76],none⟩,
  ⟨.k (.ld 1081 0 9 true),[.s 1,.s 1081],[77],none⟩,
  ⟨.k (.call 60 (.plain 1 1)),[.s 77],[78],none⟩,
  ⟨.bl .il 1,[.s 78],[79],none⟩,
  ⟨.bd [(.i .i64 (0:Int)),(.u64 (0:UInt64)),(.sl .bs ([]:List UInt8)),(.s ([]:Str)),(.sl .il ([]:List Itm))] [(0,1),(1,1),(4,1)],[.c (.i .i64 (7:Int)),.s 76,.s 79],[80],none⟩,
  ⟨.k (.st 1082 0 5),[.s 2,.s 1082,.s 80],[1082],none⟩]) none .ret
def db_item.m:TM := .seq (.reg [
  ⟨.k (.bx 1081),[.s 0,.s 1081],[1,1081],none⟩,
  ⟨.al 1082 [(.i .i64 (0:Int)),(.u64 (0:UInt64)),(.sl .bs ([]:List UInt8)),(.s ([]:Str)),(.sl .il ([]:List Itm))] [],[.s 1082],[2,1082],none⟩]) none (.seq (.seq (.reg [
  ⟨.k (.fa 1081 0 0),[.s 1],[6],none⟩,
  ⟨.k (.ld 1081 0 1 false),[.s 6,.s 1081],[7],none⟩]) none (.block 0 [(1,.ptr 1081 0),(2,.ptr 1082 0),(1081,.cl []),(1082,.cl [])] (.seq (.reg [
  ⟨.k (.bin .eql),[.s 7,.c (.i .i64 (1:Int))],[9],none⟩,
  ⟨.k .mv,[.s 9],[8],none⟩]) none (.cond (.s 8) [] (.seq (.reg [
  ⟨.k (.fa 1081 0 1),[.s 1],[10],none⟩,
  ⟨.k (.ld 1081 1 1 false),[.s 10,.s 1081],[11],none⟩,
  ⟨.bd [(.i .i64 (0:Int)),(.u64 (0:UInt64)),(.sl .bs ([]:List UInt8)),(.s ([]:Str)),(.sl .il ([]:List Itm))] [(0,1),(1,1)],[.c (.i .i64 (9:Int)),.s 11],[12],none⟩,
  ⟨.k (.st 1082 0 5),[.s 2,.s 1082,.s 12],[1082],none⟩]) none .ret) (.seq (.reg [
  ⟨.k (.bin .eql),[.s 7,.c (.i .i64 (2:Int))],[14],none⟩,
  ⟨.k .mv,[.s 14],[13],none⟩]) none (.cond (.s 13) [] (.seq (.reg [
  ⟨.k (.fa 1081 0 4),[.s 1],[15],none⟩,
  ⟨.k (.ld 1081 4 1 false),[.s 15,.s 1081],[16],none⟩,
  ⟨.k (.call 36 (.plain 1 1)),[.s 16],[17],none⟩,
  ⟨.k (.st 1082 0 5),[.s 2,.s 1082,.s 17],[1082],none⟩]) none .ret) (.seq (.reg [
  ⟨.k (.bin .eql),[.s 7,.c (.i .i64 (3:Int))],[19],none⟩,
  ⟨.k .mv,[.s 19],[18],none⟩]) none (.cond (.s 18) [] (.seq (.reg [
  ⟨.k (.fa 1081 0 8),[.s 1],[20],none⟩,
  ⟨.k (.ld 1081 8 1 false),[.s 20,.s 1081],[21],none⟩,
  ⟨.k (.call 22 (.plain 1 1)),[.s 21],[22],none⟩,
  ⟨.k (.st 1082 0 5),[.s 2,.s 1082,.s 22],[1082],none⟩]) none .ret) (.seq (.reg [
  ⟨.k (.bin .eql),[.s 7,.c (.i .i64 (4:Int))],[24],none⟩,
  ⟨.k .mv,[.s 24],[23],none⟩]) none (.cond (.s 23) [(1,.ptr 1081 0),(2,.ptr 1082 0),(1081,.cl []),(1082,.cl [])] (.seq (.reg [
  ⟨.k (.fa 1081 0 8),[.s 1],[25],none⟩,
  ⟨.k (.ld 1081 8 1 false),[.s 25,.s 1081],[26],none⟩,
  ⟨.k (.call 55 (.plain 1 1)),[.s 26],[27],none⟩]) none (.cond (.s 27) [] (.seq (.reg [
  ⟨.k (.call 56 (.plain 1 1)),[.c (.c (.slice none 0 0))],[28],none⟩,
  ⟨.al 1083 [(.i .i64 (0:Int)),(.u64 (0:UInt64)),(.sl .bs ([]:List UInt8)),(.s ([]:Str)),(.sl .il ([]:List Itm))] [],[.s 1083],[3,1083],none⟩,
  ⟨.stt 1083 0 5 [(4,106,.il)],[.s 3,.s 1083,.s 28,.s (lk 106)],[1083,lk 106],none⟩]) none (.seq (.seq (.reg [
  ⟨.k (.fa 1081 0 8),[.s 1],[29],none⟩,
  ⟨.k (.ld 1081 8 1 false),[.s 29,.s 1081],[30],none⟩,
  ⟨.k .len,[.s 30],[31],none⟩,
  ⟨.k .mv,[.c (.i .i64 (0:Int))],[32],none⟩]) none (.block 1 [(2,.ptr 1082 0),(3,.ptr 1083 0),(1082,.cl []),(1083,.cl [(4,106,5)]),(lk 106,.live 5)] (.loop [2,3,30,31,32,1082,1083] [(2,.ptr 1082 0),(3,.ptr 1083 0),(1082,.cl []),(1083,.cl [(4,106,5)]),(lk 106,.live 5)] db_item.m1))) none (.seq (.reg [
  ⟨.k (.ld 1083 0 5 true),[.s 3,.s 1083],[45],none⟩,
  ⟨.k (.st 1082 0 5),[.s 2,.s 1082,.s 45],[1082],none⟩]) none .ret))) .skip)) (.seq (.reg [
  ⟨.k (.bin .eql),[.s 7,.c (.i .i64 (5:Int))],[47],none⟩,
  ⟨.k .mv,[.s 47],[46],none⟩]) none (.cond (.s 46) [(1,.ptr 1081 0),(2,.ptr 1082 0),(1081,.cl []),(1082,.cl [])] (.seq (.reg [
  ⟨.k (.fa 1081 0 6),[.s 1],[48],none⟩,
  ⟨.k (.ld 1081 6 1 false),[.s 48,.s 1081],[49],none⟩,
  ⟨.k (.bin .eql),[.s 49,.c (.i .i64 (0:Int))],[50],none⟩]) none (.cond (.s 50) [] (.seq (.reg [
  ⟨.k (.fa 1081 0 7),[.s 1],[51],none⟩,
  ⟨.k (.ld 1081 7 1 false),[.s 51,.s 1081],[52],none⟩,
  ⟨.k (.call 57 (.plain 1 1)),[.s 52],[53],none⟩,
  ⟨.k (.st 1082 0 5),[.s 2,.s 1082,.s 53],[1082],none⟩]) none .ret) .skip)) (.seq (.reg [
  ⟨.k (.bin .eql),[.s 7,.c (.i .i64 (6:Int))],[55],none⟩,
  ⟨.k .mv,[.s 55],[54],none⟩]) none (.cond (.s 54) [] (.seq (.reg [
  ⟨.k (.call 58 (.plain 1 1)),[.c (.u64 (23:UInt64))],[56],none⟩,
  ⟨.k (.st 1082 0 5),[.s 2,.s 1082,.s 56],[1082],none⟩]) none .ret) (.seq (.reg [
  ⟨.k (.bin .eql),[.s 7,.c (.i .i64 (10:Int))],[58],none⟩,
  ⟨.k .mv,[.s 58],[57],none⟩]) none (.cond (.s 57) [] (.seq (.reg [
  ⟨.k (.call 58 (.plain 1 1)),[.c (.u64 (22:UInt64))],[59],none⟩,
  ⟨.k (.st 1082 0 5),[.s 2,.s 1082,.s 59],[1082],none⟩]) none .ret) (.seq (.reg [
  ⟨.k (.bin .eql),[.s 7,.c (.i .i64 (8:Int))],[61],none⟩,
  ⟨.k .mv,[.s 61],[60],none⟩]) none (.cond (.s 60) [] (.seq (.reg [
  ⟨.k (.fa 1081 0 1),[.s 1],[62],none⟩,
  ⟨.k (.ld 1081 1 1 false),[.s 62,.s 1081],[63],none⟩,
  ⟨.k (.bin .add),[.c (.u64 (20:UInt64)),.s 63],[64],none⟩,
  ⟨.k (.call 58 (.plain 1 1)),[.s 64],[65],none⟩,
  ⟨.k (.st 1082 0 5),[.s 2,.s 1082,.s 65],[1082],none⟩]) none .ret) (.seq (.reg [
  ⟨.k (.bin .eql),[.s 7,.c (.i .i64 (16:Int))],[67],none⟩,
  ⟨.k .mv,[.s 67],[66],none⟩]) none (.cond (.s 66) [] (.seq (.reg [
  ⟨.k (.fa 1081 0 1),[.s 1],[68],none⟩,
  ⟨.k (.ld 1081 1 1 false),[.s 68,.s 1081],[69],none⟩,
  ⟨.k (.ci .i32),[.s 69],[70],none⟩,
  ⟨.k (.ci .i64),[.s 70],[71],none⟩,
  ⟨.k (.call 59 (.plain 1 1)),[.s 71],[72],none⟩,
  ⟨.k (.st 1082 0 5),[.s 2,.s 1082,.s 72],[1082],none⟩]) none .ret) .skip)))))))))))))))))))) (some [1,2,1081,1082]) db_item.m2)
def db_item.d:TFD:={ np:=1,m:=db_item.m,ref:=none,tips:=[],res:=[.c 2 1082 5 true],own:=[],new:=none,tnew:=[] }
noncomputable def db_item.F (n:Nat) (v:Val):Option (List TV):=db_item.d.run (db_item.E n) [(.ag (Val.cells v))]
noncomputable def db_item.k1 (n:Nat):Cont (List TV):=seqK (evO _ (db_item.E n) db_item.m2) (some [1,2,1081,1082]) (endK db_item.d)
noncomputable def db_item.k2 (n:Nat):Cont (List TV):=seqK (ev _ (db_item.E n) (.seq (.reg [
  ⟨.k (.ld 1083 0 5 true),[.s 3,.s 1083],[45],none⟩,
  ⟨.k (.st 1082 0 5),[.s 2,.s 1082,.s 45],[1082],none⟩]) none .ret)) none (blockK 0 (db_item.k1 n))
noncomputable def db_item.l1 (n:Nat) (x0:List Fld) (x1:Int) (x2:Int) (x3:Itv) (x4:Itv):Option (List TV):=loopL (evO _ (db_item.E n) db_item.m1) isN [2,3,30,31,32,1082,1083] (headT [2,3,30,31,32,1082,1083] [.pt,.pt,(.sl .fl x0),(.i .i64 x1),(.i .i64 x2),(.ag (Itv.cells x3)),(.ag (Itv.cells x4))]) (blockK 1 (db_item.k2 n))
noncomputable def db_item.j2 (n:Nat) (x0:Val) (x1:Itv):Option (List TV):=evO _ (db_item.E n) db_item.m2 (headT [1,2,1081,1082] [.pt,.pt,(.ag (Val.cells x0)),(.ag (Itv.cells x1))]) (endK db_item.d)
theorem db_item.l1_in (n:Nat) (x0:List Fld) (x1:Int) (x2:Int) (x3:Itv) (x4:Itv) {ρ:Option (List TV)} (K:∀(v1:Fld) (h1:v1=(List.getD x0 (x2).toNat (STy.dflt .fl))) (v2:List Itm) (h2:v2=([(Itm.of (Itm.val (Db.item (Fld.of [] (Fld.val v1)))))]:List Itm)) (v3:Int) (h3:v3=(IntKind.i64.wrap (x2+(1:Int)))),cond (decide (x2<x1))
  (ck (idxOK x2 (x0).length) (ck ((decide (Fld.bulk (Fld.of [] (Fld.val v1))≤1073741824))&&decide ((3 * Fld.bulk (Fld.of [] (Fld.val v1))+2)<n)) (ck (apOK (((Itv.kids x4)).length+(v2).length) 80) (db_item.l1 n x0 x1 v3 x3 (Itv.mk (Itv.kind x4) (Itv.n x4) (Itv.bytes x4) (Itv.text x4) ((Itv.kids x4)++v2))))))
  (some [(.ag (Itv.cells x4))])=ρ):db_item.l1 n x0 x1 x2 x3 x4=ρ:=((ev_loop _ _ _ _ _ _).trans (by kernel_rfl)).trans (K _ rfl _ rfl _ rfl)
theorem db_item.j2_in (n:Nat) (x0:Val) (x1:Itv) {ρ:Option (List TV)} (K:∀(v1:UInt64) (h1:v1=((1000:UInt64)+(UInt64.ofInt (Val.kind x0)))) (v2:List Itm) (h2:v2=([(Itm.of (Itm.val (Db.tagged x0 (Db.mapped (x0).kids))))]:List Itm)),ck ((decide (Fld.bulk (Fld.of [] x0)≤1073741824))&&decide ((3 * Fld.bulk (Fld.of [] x0)+1)<n)) (some [(.ag [(.i .i64 (7:Int)),(.u64 v1),(.sl .bs ([]:List UInt8)),(.s ([]:Str)),(.sl .il v2)])])=ρ):db_item.j2 n x0 x1=ρ:=((congrFun (congrFun (ev_eq _ _) _) _).trans (by kernel_rfl)).trans (K _ rfl _ rfl)
theorem db_item.F_in (n:Nat) (v:Val) {ρ:Option (List TV)} (K:∀(v1:Bool) (h1:v1=(Tree.regular ((Val.kids v)))) (v2:Int) (h2:v2=(((Val.kids v)).length:Int)) (v3:UInt64) (h3:v3=((20:UInt64)+(Val.bits v))) (v4:Int) (h4:v4=(IntKind.i32.wrap (((Val.bits v)).toNat:Int))),cond (decide ((Val.kind v)=(1:Int)))
  (some [(.ag [(.i .i64 (9:Int)),(.u64 (Val.bits v)),(.sl .bs ([]:List UInt8)),(.s ([]:Str)),(.sl .il ([]:List Itm))])])
  (cond (decide ((Val.kind v)=(2:Int)))
  (some [(.ag (Itv.cells (Itm.val (Db.text ((Val.text v))))))])
  (cond (decide ((Val.kind v)=(3:Int)))
  (ck ((decide (Fld.bulks ((Val.kids v))≤1073741824))&&decide ((3 * Fld.bulks ((Val.kids v))+3)<n)) (some [(.ag (Itv.cells (Itm.val (Db.map (Db.mapped ((Val.kids v)))))))]))
  (cond (decide ((Val.kind v)=(4:Int)))
  (ck (decide (((Val.kids v)).length≤1099511627776)) (cond v1
  (db_item.l1 n (Val.kids v) v2 (0:Int) (Itv.mk (0:Int) (0:UInt64) ([]:List UInt8) ([]:Str) ([]:List Itm)) (Itv.mk (Itm.kind (Db.list [])) (Itm.n (Db.list [])) (Itm.bytes (Db.list [])) (Itm.text (Db.list [])) ([]:List Itm)))
  (db_item.j2 n v (Itv.mk (0:Int) (0:UInt64) ([]:List UInt8) ([]:Str) ([]:List Itm)))))
  (cond (decide ((Val.kind v)=(5:Int)))
  (cond (decide ((Val.sub v)=(0:Int)))
  (ck (decide ((((Val.bytes v))).length≤1099511627776)) (some [(.ag (Itv.cells (Itm.val (Db.raw ((Val.bytes v))))))]))
  (db_item.j2 n v (Itv.mk (0:Int) (0:UInt64) ([]:List UInt8) ([]:Str) ([]:List Itm))))
  (cond (decide ((Val.kind v)=(6:Int)))
  (some [(.ag (Itv.cells (Itm.val (Db.simple ((23:UInt64))))))])
  (cond (decide ((Val.kind v)=(10:Int)))
  (some [(.ag (Itv.cells (Itm.val (Db.simple ((22:UInt64))))))])
  (cond (decide ((Val.kind v)=(8:Int)))
  (some [(.ag (Itv.cells (Itm.val (Db.simple v3))))])
  (cond (decide ((Val.kind v)=(16:Int)))
  (ck (decide (-9223372036854775808≤((IntKind.i64.wrap v4))∧((IntKind.i64.wrap v4))≤9223372036854775807)) (some [(.ag (Itv.cells (Itm.val (Db.integer ((IntKind.i64.wrap v4))))))]))
  (db_item.j2 n v (Itv.mk (0:Int) (0:UInt64) ([]:List UInt8) ([]:Str) ([]:List Itm)))))))))))=ρ):db_item.F n v=ρ:=Eq.trans (by kernel_rfl) (K _ rfl _ rfl _ rfl _ rfl)
theorem db_item.chk (n:Nat):((Go.Proofs.Tryd.prog.funcs[37]?).any fun fn=>chkF Go.Proofs.Tryd.prog (fun k=>((envL trydbGl (db_item.env n)).fs k).2) fn db_item.d.erase)=true:=by kernel_rfl
end
noncomputable section
def db_tagged.env (n:Nat):List (Nat × (Ctr × FSig)):=[(22,(db_mapped.cn n,db_mapped.sg)),(36,(db_text.c,db_text.sg)),(56,(db_list.c,db_list.sg)),(57,(db_raw.c,db_raw.sg)),(58,(db_simple.c,db_simple.sg)),(59,(db_integer.c,db_integer.sg)),(81,(db_plus.c,db_plus.sg)),(82,(db_words.c,db_words.sg))]
def db_tagged.E (n:Nat):TEnv:=envL trydbGl (db_tagged.env n)
def db_tagged.m1:TM := .cond (.s 53) [] (.seq (.reg [
  ⟨.k (.fa 1079 0 4),[.s 1],[56],none⟩,
  ⟨.k (.ld 1079 4 1 false),[.s 56,.s 1079],[57],none⟩,
  ⟨.k (.call 36 (.plain 1 1)),[.s 57],[58],none⟩,
  ⟨.k (.st 1080 0 5),[.s 2,.s 1080,.s 58],[1080],none⟩]) none .ret) (.seq (.reg [
  ⟨.k (.bin .eql),[.s 4,.c (.i .i64 (15:Int))],[60],none⟩,
  ⟨.k .mv,[.s 60],[59],none⟩]) none (.cond (.s 59) [] (.seq (.reg [
  ⟨.k (.fa 1079 0 4),[.s 1],[61],none⟩,
  ⟨.k (.ld 1079 4 1 false),[.s 61,.s 1079],[62],none⟩,
  ⟨.k (.call 36 (.plain 1 1)),[.s 62],[63],none⟩,
  ⟨.k (.fa 1079 0 8),[.s 1],[64],none⟩,
  ⟨.k (.ld 1079 8 1 false),[.s 64,.s 1079],[65],none⟩,
  ⟨.k (.call 22 (.plain 1 1)),[.s 65],[66],none⟩,
  ⟨.bl .il 2,[.s 63,.s 66],[67],none⟩,
  ⟨.k (.call 56 (.plain 1 1)),[.s 67],[68],none⟩,
  ⟨.k (.st 1080 0 5),[.s 2,.s 1080,.s 68],[1080],none⟩]) none .ret) (.seq (.reg [
  ⟨.k (.bin .eql),[.s 4,.c (.i .i64 (17:Int))],[70],none⟩,
  ⟨.k .mv,[.s 70],[69],none⟩]) none (.cond (.s 69) [] (.seq (.reg [
  ⟨.k (.fa 1079 0 1),[.s 1],[71],none⟩,
  ⟨.k (.ld 1079 1 1 false),[.s 71,.s 1079],[72],none⟩,
  ⟨.k (.call 81 (.plain 1 1)),[.s 72],[73],none⟩,
  ⟨.k (.st 1080 0 5),[.s 2,.s 1080,.s 73],[1080],none⟩]) none .ret) (.seq (.reg [
  ⟨.k (.bin .eql),[.s 4,.c (.i .i64 (19:Int))],[75],none⟩,
  ⟨.k .mv,[.s 75],[74],none⟩]) none (.cond (.s 74) [] (.seq (.reg [
  ⟨.k (.ld 1079 0 9 true),[.s 1,.s 1079],[76],none⟩,
  ⟨.k (.call 82 (.plain 1 1)),[.s 76],[77],none⟩,
  ⟨.k (.st 1080 0 5),[.s 2,.s 1080,.s 77],[1080],none⟩]) none .ret) .skip))))))
def db_tagged.m2:TM := .cond (.s 26) [] (.seq (.reg [
  ⟨.k (.fa 1079 0 1),[.s 1],[29],none⟩,
  ⟨.k (.ld 1079 1 1 false),[.s 29,.s 1079],[30],none⟩,
  ⟨.k (.ci .i64),[.s 30],[31],none⟩,
  ⟨.k (.call 59 (.plain 1 1)),[.s 31],[32],none⟩,
  ⟨.k (.st 1080 0 5),[.s 2,.s 1080,.s 32],[1080],none⟩]) none .ret) (.seq (.reg [
  ⟨.k (.bin .eql),[.s 4,.c (.i .i64 (11:Int))],[34],none⟩,
  ⟨.k .mv,[.s 34],[33],none⟩]) none (.cond (.s 33) [] (.seq (.reg [
  ⟨.k (.fa 1079 0 4),[.s 1],[35],none⟩,
  ⟨.k (.ld 1079 4 1 false),[.s 35,.s 1079],[36],none⟩,
  ⟨.k (.call 36 (.plain 1 1)),[.s 36],[37],none⟩,
  ⟨.k (.fa 1079 0 5),[.s 1],[38],none⟩,
  ⟨.k (.ld 1079 5 1 false),[.s 38,.s 1079],[39],none⟩,
  ⟨.k (.call 36 (.plain 1 1)),[.s 39],[40],none⟩,
  ⟨.bl .il 2,[.s 37,.s 40],[41],none⟩,
  ⟨.k (.call 56 (.plain 1 1)),[.s 41],[42],none⟩,
  ⟨.k (.st 1080 0 5),[.s 2,.s 1080,.s 42],[1080],none⟩]) none .ret) (.seq (.reg [
  ⟨.k (.bin .eql),[.s 4,.c (.i .i64 (12:Int))],[44],none⟩,
  ⟨.k .mv,[.s 44],[43],none⟩]) none (.cond (.s 43) [] (.seq (.reg [
  ⟨.k (.fa 1079 0 4),[.s 1],[45],none⟩,
  ⟨.k (.ld 1079 4 1 false),[.s 45,.s 1079],[46],none⟩,
  ⟨.k (.call 36 (.plain 1 1)),[.s 46],[47],none⟩,
  ⟨.k (.fa 1079 0 7),[.s 1],[48],none⟩,
  ⟨.k (.ld 1079 7 1 false),[.s 48,.s 1079],[49],none⟩,
  ⟨.k (.call 57 (.plain 1 1)),[.s 49],[50],none⟩,
  ⟨.bl .il 2,[.s 47,.s 50],[51],none⟩,
  ⟨.k (.call 56 (.plain 1 1)),[.s 51],[52],none⟩,
  ⟨.k (.st 1080 0 5),[.s 2,.s 1080,.s 52],[1080],none⟩]) none .ret) (.seq (.seq (.reg [
  ⟨.k (.bin .eql),[.s 4,.c (.i .i64 (13:Int))],[54],none⟩,
  ⟨.k .mv,[.s 54],[53],none⟩]) none (.cond (.s 53) [(1,.ptr 1079 0),(2,.ptr 1080 0),(1079,.cl []),(1080,.cl [])] .skip (.reg [
  ⟨.k (.bin .eql),[.s 4,.c (.i .i64 (14:Int))],[55],none⟩,
  ⟨.k .mv,[.s 55],[53],none⟩]))) (some [1,2,4,53,1079,1080]) db_tagged.m1)))))
def db_tagged.m:TM := .seq (.reg [
  ⟨.k (.bx 1079),[.s 0,.s 1079],[1,1079],none⟩,
  ⟨.al 1080 [(.i .i64 (0:Int)),(.u64 (0:UInt64)),(.sl .bs ([]:List UInt8)),(.s ([]:Str)),(.sl .il ([]:List Itm))] [],[.s 1080],[2,1080],none⟩]) none (.seq (.seq (.reg [
  ⟨.k (.fa 1079 0 0),[.s 1],[3],none⟩,
  ⟨.k (.ld 1079 0 1 false),[.s 3,.s 1079],[4],none⟩]) none (.block 0 [(2,.ptr 1080 0),(1080,.cl [])] (.seq (.reg [
  ⟨.k (.bin .eql),[.s 4,.c (.i .i64 (4:Int))],[6],none⟩,
  ⟨.k .mv,[.s 6],[5],none⟩]) none (.cond (.s 5) [] (.seq (.reg [
  ⟨.k (.fa 1079 0 8),[.s 1],[7],none⟩,
  ⟨.k (.ld 1079 8 1 false),[.s 7,.s 1079],[8],none⟩,
  ⟨.k (.call 22 (.plain 1 1)),[.s 8],[9],none⟩,
  ⟨.k (.st 1080 0 5),[.s 2,.s 1080,.s 9],[1080],none⟩]) none .ret) (.seq (.reg [
  ⟨.k (.bin .eql),[.s 4,.c (.i .i64 (5:Int))],[11],none⟩,
  ⟨.k .mv,[.s 11],[10],none⟩]) none (.cond (.s 10) [] (.seq (.reg [
  ⟨.k (.fa 1079 0 6),[.s 1],[12],none⟩,
  ⟨.k (.ld 1079 6 1 false),[.s 12,.s 1079],[13],none⟩,
  ⟨.k (.ci .u64),[.s 13],[14],none⟩,
  ⟨.k (.call 81 (.plain 1 1)),[.s 14],[15],none⟩,
  ⟨.k (.fa 1079 0 7),[.s 1],[16],none⟩,
  ⟨.k (.ld 1079 7 1 false),[.s 16,.s 1079],[17],none⟩,
  ⟨.k (.call 57 (.plain 1 1)),[.s 17],[18],none⟩,
  ⟨.bl .il 2,[.s 15,.s 18],[19],none⟩,
  ⟨.k (.call 56 (.plain 1 1)),[.s 19],[20],none⟩,
  ⟨.k (.st 1080 0 5),[.s 2,.s 1080,.s 20],[1080],none⟩]) none .ret) (.seq (.reg [
  ⟨.k (.bin .eql),[.s 4,.c (.i .i64 (7:Int))],[22],none⟩,
  ⟨.k .mv,[.s 22],[21],none⟩]) none (.cond (.s 21) [] (.seq (.reg [
  ⟨.k (.fa 1079 0 7),[.s 1],[23],none⟩,
  ⟨.k (.ld 1079 7 1 false),[.s 23,.s 1079],[24],none⟩,
  ⟨.k (.call 57 (.plain 1 1)),[.s 24],[25],none⟩,
  ⟨.k (.st 1080 0 5),[.s 2,.s 1080,.s 25],[1080],none⟩]) none .ret) (.seq (.seq (.reg [
  ⟨.k (.bin .eql),[.s 4,.c (.i .i64 (9:Int))],[27],none⟩,
  ⟨.k .mv,[.s 27],[26],none⟩]) none (.cond (.s 26) [(1,.ptr 1079 0),(2,.ptr 1080 0),(1079,.cl []),(1080,.cl [])] .skip (.reg [
  ⟨.k (.bin .eql),[.s 4,.c (.i .i64 (18:Int))],[28],none⟩,
  ⟨.k .mv,[.s 28],[26],none⟩]))) (some [1,2,4,26,1079,1080]) db_tagged.m2))))))))) none (.seq (.reg [
  ⟨.k (.call 58 (.plain 1 1)),[.c (.u64 (22:UInt64))],[78],none⟩,
  ⟨.k (.st 1080 0 5),[.s 2,.s 1080,.s 78],[1080],none⟩]) none .ret))
def db_tagged.d:TFD:={ np:=1,m:=db_tagged.m,ref:=none,tips:=[],res:=[.c 2 1080 5 true],own:=[],new:=none,tnew:=[] }
noncomputable def db_tagged.F (n:Nat) (v:Val):Option (List TV):=db_tagged.d.run (db_tagged.E n) [(.ag (Val.cells v))]
noncomputable def db_tagged.k1 (n:Nat):Cont (List TV):=seqK (ev _ (db_tagged.E n) (.seq (.reg [
  ⟨.k (.call 58 (.plain 1 1)),[.c (.u64 (22:UInt64))],[78],none⟩,
  ⟨.k (.st 1080 0 5),[.s 2,.s 1080,.s 78],[1080],none⟩]) none .ret)) none (endK db_tagged.d)
noncomputable def db_tagged.j1 (n:Nat) (x0:Int) (x1:Bool) (x2:Val) (x3:Itv):Option (List TV):=evO _ (db_tagged.E n) db_tagged.m2 (headT [1,2,4,26,1079,1080] [.pt,.pt,(.i .i64 x0),(.b x1),(.ag (Val.cells x2)),(.ag (Itv.cells x3))]) (blockK 0 (db_tagged.k1 n))
noncomputable def db_tagged.j2 (n:Nat) (x0:Int) (x1:Bool) (x2:Val) (x3:Itv):Option (List TV):=evO _ (db_tagged.E n) db_tagged.m1 (headT [1,2,4,53,1079,1080] [.pt,.pt,(.i .i64 x0),(.b x1),(.ag (Val.cells x2)),(.ag (Itv.cells x3))]) (blockK 0 (db_tagged.k1 n))
theorem db_tagged.j1_in (n:Nat) (x0:Int) (x1:Bool) (x2:Val) (x3:Itv) {ρ:Option (List TV)} (K:∀(v1:Int) (h1:v1=(IntKind.i64.wrap (((Val.bits x2)).toNat:Int))) (v2:List Itm) (h2:v2=([(Itm.of (Itm.val (Db.text ((Val.text x2))))),(Itm.of (Itm.val (Db.text ((Val.more x2)))))]:List Itm)) (v3:List Itm) (h3:v3=([(Itm.of (Itm.val (Db.text ((Val.text x2))))),(Itm.of (Itm.val (Db.raw ((Val.bytes x2)))))]:List Itm)),cond x1
  (ck (decide (-9223372036854775808≤v1∧v1≤9223372036854775807)) (some [(.ag (Itv.cells (Itm.val (Db.integer v1))))]))
  (cond (decide (x0=(11:Int)))
  (some [(.ag (Itv.cells (Itm.val (Db.list v2))))])
  (cond (decide (x0=(12:Int)))
  (ck (decide ((((Val.bytes x2))).length≤1099511627776)) (some [(.ag (Itv.cells (Itm.val (Db.list v3))))]))
  (cond (decide (x0=(13:Int)))
  (db_tagged.j2 n x0 (decide (x0=(13:Int))) x2 x3)
  (db_tagged.j2 n x0 (decide (x0=(14:Int))) x2 x3))))=ρ):db_tagged.j1 n x0 x1 x2 x3=ρ:=((congrFun (congrFun (ev_eq _ _) _) _).trans (by kernel_rfl)).trans (K _ rfl _ rfl _ rfl)
theorem db_tagged.j2_in (n:Nat) (x0:Int) (x1:Bool) (x2:Val) (x3:Itv) {ρ:Option (List TV)} (K:∀(v1:List Itm) (h1:v1=([(Itm.of (Itm.val (Db.text ((Val.text x2))))),(Itm.of (Itm.val (Db.map (Db.mapped ((Val.kids x2))))))]:List Itm)),cond x1
  (some [(.ag (Itv.cells (Itm.val (Db.text ((Val.text x2))))))])
  (cond (decide (x0=(15:Int)))
  (ck ((decide (Fld.bulks ((Val.kids x2))≤1073741824))&&decide ((3 * Fld.bulks ((Val.kids x2))+3)<n)) (some [(.ag (Itv.cells (Itm.val (Db.list v1))))]))
  (cond (decide (x0=(17:Int)))
  (some [(.ag (Itv.cells (Itm.val (Db.plus ((Val.bits x2))))))])
  (cond (decide (x0=(19:Int)))
  (some [(.ag (Itv.cells (Itm.val (Db.raw (Db.words (x2).high (x2).low)))))])
  (some [(.ag (Itv.cells (Itm.val (Db.simple ((22:UInt64))))))]))))=ρ):db_tagged.j2 n x0 x1 x2 x3=ρ:=((congrFun (congrFun (ev_eq _ _) _) _).trans (by kernel_rfl)).trans (K _ rfl)
theorem db_tagged.F_in (n:Nat) (v:Val) {ρ:Option (List TV)} (K:∀(v1:List Itm) (h1:v1=([(Itm.of (Itm.val (Db.plus ((UInt64.ofInt (Val.sub v)))))),(Itm.of (Itm.val (Db.raw ((Val.bytes v)))))]:List Itm)),cond (decide ((Val.kind v)=(4:Int)))
  (ck ((decide (Fld.bulks ((Val.kids v))≤1073741824))&&decide ((3 * Fld.bulks ((Val.kids v))+3)<n)) (some [(.ag (Itv.cells (Itm.val (Db.map (Db.mapped ((Val.kids v)))))))]))
  (cond (decide ((Val.kind v)=(5:Int)))
  (ck (decide ((((Val.bytes v))).length≤1099511627776)) (some [(.ag (Itv.cells (Itm.val (Db.list v1))))]))
  (cond (decide ((Val.kind v)=(7:Int)))
  (ck (decide ((((Val.bytes v))).length≤1099511627776)) (some [(.ag (Itv.cells (Itm.val (Db.raw ((Val.bytes v))))))]))
  (cond (decide ((Val.kind v)=(9:Int)))
  (db_tagged.j1 n (Val.kind v) (decide ((Val.kind v)=(9:Int))) v (Itv.mk (0:Int) (0:UInt64) ([]:List UInt8) ([]:Str) ([]:List Itm)))
  (db_tagged.j1 n (Val.kind v) (decide ((Val.kind v)=(18:Int))) v (Itv.mk (0:Int) (0:UInt64) ([]:List UInt8) ([]:Str) ([]:List Itm))))))=ρ):db_tagged.F n v=ρ:=Eq.trans (by kernel_rfl) (K _ rfl)
theorem db_tagged.chk (n:Nat):((Go.Proofs.Tryd.prog.funcs[60]?).any fun fn=>chkF Go.Proofs.Tryd.prog (fun k=>((envL trydbGl (db_tagged.env n)).fs k).2) fn db_tagged.d.erase)=true:=by kernel_rfl
end
noncomputable section
def db_Item.env:List (Nat × (Ctr × FSig)):=[(21,(tree_Check.c,tree_Check.sg)),(22,(db_mapped.c,db_mapped.sg))]
def db_Item.E:TEnv:=envL trydbGl db_Item.env
def db_Item.m:TM := .seq (.reg [
  ⟨.k (.bx 1026),[.s 0,.s 1026],[1,1026],none⟩,
  ⟨.al 1027 [(.i .i64 (0:Int)),(.u64 (0:UInt64)),(.sl .bs ([]:List UInt8)),(.s ([]:Str)),(.sl .il ([]:List Itm))] [],[.s 1027],[2,1027],none⟩,
  ⟨.al 1028 [(.i .i64 (0:Int)),(.i .i64 (0:Int)),(.sl .is ([]:List Int))] [],[.s 1028],[3,1028],none⟩]) none (.seq (.seq (.reg [
  ⟨.k (.ld 1026 0 9 true),[.s 1,.s 1026],[7],none⟩,
  ⟨.k (.call 21 (.plain 1 2)),[.s 7],[8],none⟩,
  ⟨.k .mv,[.s 8],[6],none⟩,
  ⟨.k (.ex 0),[.s 6],[9],none⟩,
  ⟨.k (.ex 1),[.s 6],[10],none⟩,
  ⟨.k .mv,[.s 9],[4],none⟩,
  ⟨.k .mv,[.s 10],[5],none⟩]) none (.seq (.reg [
  ⟨.k .mv,[.s 5],[11],none⟩,
  ⟨.k (.bin .neq),[.s 11,.c (.i .i64 (0:Int))],[12],none⟩]) none (.cond (.s 12) [] (.seq (.reg [
  ⟨.bd [(.i .i64 (0:Int)),(.u64 (0:UInt64)),(.sl .bs ([]:List UInt8)),(.s ([]:Str)),(.sl .il ([]:List Itm))] [],[],[13],none⟩,
  ⟨.k .mv,[.s 5],[14],none⟩,
  ⟨.k .mv,[.s 4],[15],none⟩,
  ⟨.bd [(.i .i64 (0:Int)),(.i .i64 (0:Int)),(.sl .is ([]:List Int))] [(0,1),(2,1)],[.s 14,.s 15],[16],none⟩,
  ⟨.k (.st 1027 0 5),[.s 2,.s 1027,.s 13],[1027],none⟩,
  ⟨.k (.st 1028 0 3),[.s 3,.s 1028,.s 16],[1028],none⟩]) none .ret) .skip))) none (.seq (.seq (.reg [
  ⟨.k (.fa 1026 0 0),[.s 1],[17],none⟩,
  ⟨.k (.ld 1026 0 1 false),[.s 17,.s 1026],[18],none⟩,
  ⟨.k (.bin .neq),[.s 18,.c (.i .i64 (3:Int))],[19],none⟩]) none (.cond (.s 19) [] (.seq (.reg [
  ⟨.bd [(.i .i64 (0:Int)),(.u64 (0:UInt64)),(.sl .bs ([]:List UInt8)),(.s ([]:Str)),(.sl .il ([]:List Itm))] [],[],[20],none⟩,
  ⟨.bd [(.i .i64 (0:Int)),(.i .i64 (0:Int)),(.sl .is ([]:List Int))] [(0,1)],[.c (.i .i64 (5:Int))],[21],none⟩,
  ⟨.k (.st 1027 0 5),[.s 2,.s 1027,.s 20],[1027],none⟩,
  ⟨.k (.st 1028 0 3),[.s 3,.s 1028,.s 21],[1028],none⟩]) none .ret) .skip)) none (.seq (.reg [
  ⟨.k (.fa 1026 0 8),[.s 1],[22],none⟩,
  ⟨.k (.ld 1026 8 1 false),[.s 22,.s 1026],[23],none⟩,
  ⟨.k (.call 22 (.plain 1 1)),[.s 23],[24],none⟩,
  ⟨.bd [(.i .i64 (0:Int)),(.i .i64 (0:Int)),(.sl .is ([]:List Int))] [],[],[25],none⟩,
  ⟨.k (.st 1027 0 5),[.s 2,.s 1027,.s 24],[1027],none⟩,
  ⟨.k (.st 1028 0 3),[.s 3,.s 1028,.s 25],[1028],none⟩]) none .ret)))
def db_Item.d:TFD:={ np:=1,m:=db_Item.m,ref:=none,tips:=[],res:=[.c 2 1027 5 true,.c 3 1028 3 true],own:=[],new:=none,tnew:=[] }
noncomputable def db_Item.F (v:Val):Option (List TV):=db_Item.d.run db_Item.E [(.ag (Val.cells v))]
theorem db_Item.F_in (v:Val) {ρ:Option (List TV)} (K:∀(v1:List Int) (h1:v1=((Tree.chkF (Fld.of [] v) []).1)) (v2:Int) (h2:v2=((Tree.chkF (Fld.of [] v) []).2)),ck (decide (Fld.bulk (Fld.of [] v)≤1099511627776)) (cond (!decide (v2=(0:Int)))
  (some [(.ag [(.i .i64 (0:Int)),(.u64 (0:UInt64)),(.sl .bs ([]:List UInt8)),(.s ([]:Str)),(.sl .il ([]:List Itm))]),(.ag [(.i .i64 v2),(.i .i64 (0:Int)),(.sl .is v1)])])
  (cond (!decide ((Val.kind v)=(3:Int)))
  (some [(.ag [(.i .i64 (0:Int)),(.u64 (0:UInt64)),(.sl .bs ([]:List UInt8)),(.s ([]:Str)),(.sl .il ([]:List Itm))]),(.ag [(.i .i64 (5:Int)),(.i .i64 (0:Int)),(.sl .is ([]:List Int))])])
  (ck (decide (Fld.bulks ((Val.kids v))≤1073741824)) (some [(.ag (Itv.cells (Itm.val (Db.map (Db.mapped ((Val.kids v))))))),(.ag [(.i .i64 (0:Int)),(.i .i64 (0:Int)),(.sl .is ([]:List Int))])]))))=ρ):db_Item.F v=ρ:=Eq.trans (by kernel_rfl) (K _ rfl _ rfl)
theorem db_Item.chk:((Go.Proofs.Tryd.prog.funcs[10]?).any fun fn=>chkF Go.Proofs.Tryd.prog (fun k=>((envL trydbGl db_Item.env).fs k).2) fn db_Item.d.erase)=true:=by kernel_rfl
end
noncomputable section
def db_none.env:List (Nat × (Ctr × FSig)):=[(42,(clone_is.c,clone_is.sg))]
def db_none.E:TEnv:=envL trydbGl db_none.env
def db_none.m:TM := .seq (.reg [
  ⟨.al 1006 [(.i .i64 (0:Int)),(.i .i64 (0:Int)),(.sl .is ([]:List Int))] [],[.s 1006],[2,1006],none⟩]) none (.seq (.reg [
  ⟨.k .mv,[.s 0],[3],none⟩,
  ⟨.k (.pcall 42 1 1 0 999999 1),[.s 3,.s (lk 999999)],[4],none⟩,
  ⟨.bd [(.i .i64 (0:Int)),(.i .i64 (0:Int)),(.sl .is ([]:List Int))] [(0,1),(2,1)],[.c (.i .i64 (12:Int)),.s 4],[5],none⟩,
  ⟨.k (.st 1006 0 3),[.s 2,.s 1006,.s 5],[1006],none⟩]) none .ret)
def db_none.d:TFD:={ np:=1,m:=db_none.m,ref:=none,tips:=[],res:=[.c 2 1006 3 true],own:=[],new:=none,tnew:=[],ps:=some (0,999999,1) }
noncomputable def db_none.F (path:List Int):Option (List TV):=db_none.d.run db_none.E [(.sl .is path)]
theorem db_none.F_eq (path:List Int):db_none.F path=ck (apOK (path).length 8) (some [(.ag [(.i .i64 (12:Int)),(.i .i64 (0:Int)),(.sl .is (path))]),(.sl .is path)]):=by kernel_rfl
theorem db_none.chk:((Go.Proofs.Tryd.prog.funcs[27]?).any fun fn=>chkF Go.Proofs.Tryd.prog (fun k=>((envL trydbGl db_none.env).fs k).2) fn db_none.d.erase)=true:=by kernel_rfl
end
noncomputable section
def db_number.env:List (Nat × (Ctr × FSig)):=[]
def db_number.E:TEnv:=envL trydbGl db_number.env
def db_number.m:TM := .seq (.reg [
  ⟨.k (.bx 1023),[.s 0,.s 1023],[1,1023],none⟩,
  ⟨.k .mv,[.c (.i .i64 (0:Int))],[2],none⟩,
  ⟨.k .mv,[.c (.b false)],[3],none⟩]) none (.seq (.block 0 [] (.seq (.reg [
  ⟨.k (.fa 1023 0 1),[.s 1],[5],none⟩,
  ⟨.k (.ld 1023 1 1 false),[.s 5,.s 1023],[6],none⟩,
  ⟨.k (.bin .geq),[.s 6,.c (.u64 (9223372036854775808:UInt64))],[7],none⟩,
  ⟨.k .mv,[.s 7],[4],none⟩]) none (.cond (.s 4) [] (.seq (.reg [
  ⟨.k .mv,[.c (.i .i64 (0:Int))],[2],none⟩,
  ⟨.k .mv,[.c (.b false)],[3],none⟩]) none .ret) (.seq (.reg [
  ⟨.k (.fa 1023 0 0),[.s 1],[9],none⟩,
  ⟨.k (.ld 1023 0 1 false),[.s 9,.s 1023],[10],none⟩,
  ⟨.k (.bin .eql),[.s 10,.c (.i .i64 (1:Int))],[11],none⟩,
  ⟨.k .mv,[.s 11],[8],none⟩]) none (.cond (.s 8) [] (.seq (.reg [
  ⟨.k (.fa 1023 0 1),[.s 1],[12],none⟩,
  ⟨.k (.ld 1023 1 1 false),[.s 12,.s 1023],[13],none⟩,
  ⟨.k (.ci .i64),[.s 13],[14],none⟩,
  ⟨.k .mv,[.s 14],[2],none⟩,
  ⟨.k .mv,[.c (.b true)],[3],none⟩]) none .ret) (.seq (.reg [
  ⟨.k (.fa 1023 0 0),[.s 1],[16],none⟩,
  ⟨.k (.ld 1023 0 1 false),[.s 16,.s 1023],[17],none⟩,
  ⟨.k (.bin .eql),[.s 17,.c (.i .i64 (2:Int))],[18],none⟩,
  ⟨.k .mv,[.s 18],[15],none⟩]) none (.cond (.s 15) [] (.seq (.reg [
  ⟨.k (.fa 1023 0 1),[.s 1],[19],none⟩,
  ⟨.k (.ld 1023 1 1 false),[.s 19,.s 1023],[20],none⟩,
  ⟨.k (.ci .i64),[.s 20],[21],none⟩,
  ⟨.k (.bin .sub),[.c (.i .i64 (-1:Int)),.s 21],[22],none⟩,
  ⟨.k .mv,[.s 22],[2],none⟩,
  ⟨.k .mv,[.c (.b true)],[3],none⟩]) none .ret) .skip))))))) none (.seq (.reg [
  ⟨.k .mv,[.c (.i .i64 (0:Int))],[2],none⟩,
  ⟨.k .mv,[.c (.b false)],[3],none⟩]) none .ret))
def db_number.d:TFD:={ np:=1,m:=db_number.m,ref:=none,tips:=[],res:=[.t 2,.t 3],own:=[],new:=none,tnew:=[] }
noncomputable def db_number.F (it:Itv):Option (List TV):=db_number.d.run db_number.E [(.ag (Itv.cells it))]
theorem db_number.F_in (it:Itv) {ρ:Option (List TV)} (K:∀(v1:Int) (h1:v1=(IntKind.i64.wrap (((Itv.n it)).toNat:Int))) (v2:Int) (h2:v2=(IntKind.i64.wrap ((-1:Int) - v1))),cond (decide ((9223372036854775808:UInt64)≤(Itv.n it)))
  (some [(.i .i64 (0:Int)),(.b false)])
  (cond (decide ((Itv.kind it)=(1:Int)))
  (some [(.i .i64 v1),(.b true)])
  (cond (decide ((Itv.kind it)=(2:Int)))
  (some [(.i .i64 v2),(.b true)])
  (some [(.i .i64 (0:Int)),(.b false)])))=ρ):db_number.F it=ρ:=Eq.trans (by kernel_rfl) (K _ rfl _ rfl)
theorem db_number.chk:((Go.Proofs.Tryd.prog.funcs[70]?).any fun fn=>chkF Go.Proofs.Tryd.prog (fun k=>((envL trydbGl db_number.env).fs k).2) fn db_number.d.erase)=true:=by kernel_rfl
end
noncomputable section
def db_regular.env:List (Nat × (Ctr × FSig)):=[(71,(sc_Itoa.c,sc_Itoa.sg))]
def db_regular.E:TEnv:=envL trydbGl db_regular.env
def db_regular.m1:TM := .seq (.seq (.reg [
  ⟨.k .mv,[.s 3],[4],none⟩,
  ⟨.k .mv,[.s 0],[5],none⟩,
  ⟨.k .len,[.s 5],[6],none⟩,
  ⟨.k (.bin .lss),[.s 4,.s 6],[7],none⟩]) none (.cond (.s 7) [] .skip (.exit 0))) none (.seq (.block 1 [] (.seq (.reg [
  ⟨.k .mv,[.s 0],[10],none⟩,
  ⟨.k .mv,[.s 3],[11],none⟩,
  ⟨.k (.ix 5),[.s 10,.s 11],[12],none⟩,
  ⟨.k (.fr 0 1 false),[.s 12],[13],none⟩,
  ⟨.k (.lr 1 false),[.s 13],[14],none⟩,
  ⟨.k (.bin .neq),[.s 14,.c (.i .i64 (4:Int))],[15],none⟩,
  ⟨.k .mv,[.s 15],[16],none⟩,
  ⟨.k .mv,[.s 0],[17],some (16,false)⟩,
  ⟨.k .mv,[.s 3],[18],some (16,false)⟩,
  ⟨.k (.ix 5),[.s 17,.s 18],[19],some (16,false)⟩,
  ⟨.k (.fr 3 1 false),[.s 19],[20],some (16,false)⟩,
  ⟨.k (.lr 1 false),[.s 20],[21],some (16,false)⟩,
  ⟨.k .mv,[.s 3],[22],some (16,false)⟩,
  ⟨.k (.bin .quo),[.s 22,.c (.i .i64 (2:Int))],[23],some (16,false)⟩,
  ⟨.k (.call 71 (.plain 1 1)),[.s 23],[24],some (16,false)⟩,
  ⟨.k (.bin .neq),[.s 21,.s 24],[25],some (16,false)⟩,
  ⟨.k .pick,[.s 16,.c (.b true),.s 25],[26],none⟩]) none (.cond (.s 26) [] (.seq (.reg [
  ⟨.k .mv,[.c (.b false)],[2],none⟩]) none .ret) .skip))) none (.reg [
  ⟨.k .mv,[.s 3],[8],none⟩,
  ⟨.k (.bin .add),[.s 8,.c (.i .i64 (2:Int))],[9],none⟩,
  ⟨.k .mv,[.s 9],[3],none⟩]))
def db_regular.m:TM := .seq (.reg [
  ⟨.k .mv,[.c (.b false)],[2],none⟩]) none (.seq (.seq (.reg [
  ⟨.k .mv,[.c (.i .i64 (0:Int))],[3],none⟩]) none (.block 0 [] (.loop [0,3] [] db_regular.m1))) none (.seq (.reg [
  ⟨.k .mv,[.c (.b true)],[2],none⟩]) none .ret))
def db_regular.d:TFD:={ np:=1,m:=db_regular.m,ref:=none,tips:=[],res:=[.t 2],own:=[],new:=none,tnew:=[] }
noncomputable def db_regular.F (l:List Itm):Option (List TV):=db_regular.d.run db_regular.E [(.sl .il l)]
noncomputable def db_regular.k1:Cont (List TV):=seqK (ev _ db_regular.E (.seq (.reg [
  ⟨.k .mv,[.c (.b true)],[2],none⟩]) none .ret)) none (endK db_regular.d)
noncomputable def db_regular.l1 (x0:List Itm) (x1:Int):Option (List TV):=loopL (evO _ db_regular.E db_regular.m1) isN [0,3] (headT [0,3] [(.sl .il x0),(.i .i64 x1)]) (blockK 0 db_regular.k1)
theorem db_regular.l1_in (x0:List Itm) (x1:Int) {ρ:Option (List TV)} (K:∀(v1:Int) (h1:v1=(Itm.kind (List.getD x0 (x1).toNat (STy.dflt .il)))) (v2:Bool) (h2:v2=(!(!decide (v1=(4:Int))))) (v3:Str) (h3:v3=(Itm.text (List.getD x0 (x1).toNat (STy.dflt .il)))) (v4:Int) (h4:v4=(IntKind.i64.wrap (Int.tdiv x1 (2:Int)))) (v5:Bool) (h5:v5=(cond (!decide (v1=(4:Int))) true (!decide (v3=(Lib.itoa v4))))) (v6:Int) (h6:v6=(IntKind.i64.wrap (x1+(2:Int)))),cond (decide (x1<((x0).length:Int)))
  (ck (idxOK x1 (x0).length) (ck (!v2 || ((v2&&v2)&&(idxOK x1 (x0).length))) (ck (!v2 || v2) (ck (!v2 || v2) (ck (!v2 || (v2&&(!decide ((2:Int)=0)))) (ck (!v2 || (v2&&(decide (-9223372036854775808≤v4∧v4≤9223372036854775807)))) (ck (!v2 || (v2&&v2)) (ck ((!decide (v1=(4:Int))) || v2) (cond v5
  (some [(.b false)])
  (db_regular.l1 x0 v6))))))))))
  (some [(.b true)])=ρ):db_regular.l1 x0 x1=ρ:=((ev_loop _ _ _ _ _ _).trans (by kernel_rfl)).trans (K _ rfl _ rfl _ rfl _ rfl _ rfl _ rfl)
theorem db_regular.F_eq (l:List Itm):db_regular.F l=db_regular.l1 l (0:Int):=by kernel_rfl
theorem db_regular.chk:((Go.Proofs.Tryd.prog.funcs[87]?).any fun fn=>chkF Go.Proofs.Tryd.prog (fun k=>((envL trydbGl db_regular.env).fs k).2) fn db_regular.d.erase)=true:=by kernel_rfl
end
noncomputable section
def db_kinds.env:List (Nat × (Ctr × FSig)):=[]
def db_kinds.E:TEnv:=envL trydbGl db_kinds.env
def db_kinds.m:TM := .seq (.reg [
  ⟨.k (.bx 1034),[.s 0,.s 1034],[3,1034],none⟩,
  ⟨.k .mv,[.c (.b false)],[6],none⟩]) none (.seq (.reg [
  ⟨.k (.fa 1034 0 0),[.s 3],[7],none⟩,
  ⟨.k (.ld 1034 0 1 false),[.s 7,.s 1034],[8],none⟩,
  ⟨.k (.bin .eql),[.s 8,.c (.i .i64 (5:Int))],[9],none⟩,
  ⟨.k .mv,[.s 9],[10],none⟩,
  ⟨.k (.fa 1034 0 4),[.s 3],[11],some (10,true)⟩,
  ⟨.k (.ld 1034 4 1 false),[.s 11,.s 1034],[12],some (10,true)⟩,
  ⟨.k .len,[.s 12],[13],some (10,true)⟩,
  ⟨.k (.bin .eql),[.s 13,.c (.i .i64 (2:Int))],[14],some (10,true)⟩,
  ⟨.k .pick,[.s 10,.s 14,.c (.b false)],[15],none⟩,
  ⟨.k .mv,[.s 15],[16],none⟩,
  ⟨.k (.fa 1034 0 4),[.s 3],[17],some (16,true)⟩,
  ⟨.k (.ld 1034 4 1 false),[.s 17,.s 1034],[18],some (16,true)⟩,
  ⟨.k (.ix 5),[.s 18,.c (.i .i64 (0:Int))],[19],some (16,true)⟩,
  ⟨.k (.fr 0 1 false),[.s 19],[20],some (16,true)⟩,
  ⟨.k (.lr 1 false),[.s 20],[21],some (16,true)⟩,
  ⟨.k .mv,[.s 1],[22],some (16,true)⟩,
  ⟨.k (.bin .eql),[.s 21,.s 22],[23],some (16,true)⟩,
  ⟨.k .pick,[.s 16,.s 23,.c (.b false)],[24],none⟩,
  ⟨.k .mv,[.s 24],[25],none⟩,
  ⟨.k (.fa 1034 0 4),[.s 3],[26],some (25,true)⟩,
  ⟨.k (.ld 1034 4 1 false),[.s 26,.s 1034],[27],some (25,true)⟩,
  ⟨.k (.ix 5),[.s 27,.c (.i .i64 (1:Int))],[28],some (25,true)⟩,
  ⟨.k (.fr 0 1 false),[.s 28],[29],some (25,true)⟩,
  ⟨.k (.lr 1 false),[.s 29],[30],some (25,true)⟩,
  ⟨.k .mv,[.s 2],[31],some (25,true)⟩,
  ⟨.k (.bin .eql),[.s 30,.s 31],[32],some (25,true)⟩,
  ⟨.k .pick,[.s 25,.s 32,.c (.b false)],[33],none⟩,
  ⟨.k .mv,[.s 33],[6],none⟩]) none .ret)
def db_kinds.d:TFD:={ np:=3,m:=db_kinds.m,ref:=none,tips:=[],res:=[.t 6],own:=[],new:=none,tnew:=[] }
noncomputable def db_kinds.F (it:Itv) (a:Int) (b:Int):Option (List TV):=db_kinds.d.run db_kinds.E [(.ag (Itv.cells it)),(.i .i64 a),(.i .i64 b)]
theorem db_kinds.F_in (it:Itv) (a:Int) (b:Int) {ρ:Option (List TV)} (K:∀(v1:Int) (h1:v1=(((Itv.kids it)).length:Int)) (v2:Bool) (h2:v2=(cond (decide ((Itv.kind it)=(5:Int))) (decide (v1=(2:Int))) false)) (v3:Int) (h3:v3=(Itm.kind (List.getD (Itv.kids it) ((0:Int)).toNat (STy.dflt .il)))) (v4:Bool) (h4:v4=(cond v2 (decide (v3=a)) false)) (v5:Int) (h5:v5=(Itm.kind (List.getD (Itv.kids it) ((1:Int)).toNat (STy.dflt .il)))) (v6:Bool) (h6:v6=(cond v4 (decide (v5=b)) false)),ck (!(decide ((Itv.kind it)=(5:Int))) || (decide ((Itv.kind it)=(5:Int)))) (ck (!(decide ((Itv.kind it)=(5:Int))) || (decide ((Itv.kind it)=(5:Int)))) (ck (!(decide ((Itv.kind it)=(5:Int))) || (decide ((Itv.kind it)=(5:Int)))) (ck (!(decide ((Itv.kind it)=(5:Int))) || (decide ((Itv.kind it)=(5:Int)))) (ck (!v2 || v2) (ck (!v2 || (v2&&(idxOK (0:Int) ((Itv.kids it)).length))) (ck (!v2 || v2) (ck (!v2 || v2) (ck (!v2 || (v2&&v2)) (ck (!v2 || v2) (ck (!v4 || v4) (ck (!v4 || (v4&&(idxOK (1:Int) ((Itv.kids it)).length))) (ck (!v4 || v4) (ck (!v4 || v4) (ck (!v4 || (v4&&v4)) (ck (!v4 || v4) (some [(.b v6)]))))))))))))))))=ρ):db_kinds.F it a b=ρ:=Eq.trans (by kernel_rfl) (K _ rfl _ rfl _ rfl _ rfl _ rfl _ rfl)
theorem db_kinds.chk:((Go.Proofs.Tryd.prog.funcs[88]?).any fun fn=>chkF Go.Proofs.Tryd.prog (fun k=>((envL trydbGl db_kinds.env).fs k).2) fn db_kinds.d.erase)=true:=by kernel_rfl
end
noncomputable section
def db_small.env:List (Nat × (Ctr × FSig)):=[(43,(st_Contains.c,st_Contains.sg)),(69,(clone_bs.c,clone_bs.sg)),(70,(db_number.c,db_number.sg)),(88,(db_kinds.c,db_kinds.sg))]
def db_small.E:TEnv:=envL trydbGl db_small.env
def db_small.m1:TM := .reg [
  ⟨.k (.bin .add),[.s 176,.c (.i .i64 (1:Int))],[197],none⟩,
  ⟨.k .mv,[.s 197],[176],none⟩]
def db_small.m2:TM := .seq (.reg [
  ⟨.k (.bin .lss),[.s 176,.s 175],[177],none⟩]) none (.seq (.cond (.s 177) [] .skip (.exit 1)) none (.seq (.block 2 [(4,.ptr 1212 0),(6,.ptr 1213 0),(1212,.cl []),(1213,.cl [])] (.seq (.reg [
  ⟨.k .mv,[.s 176],[178],none⟩,
  ⟨.k (.ix 1),[.s 174,.s 176],[179],none⟩,
  ⟨.k (.lr 1 false),[.s 179],[180],none⟩,
  ⟨.k .mv,[.s 178],[9],none⟩,
  ⟨.k .mv,[.s 180],[10],none⟩]) none (.seq (.reg [
  ⟨.k .mv,[.s 9],[181],none⟩,
  ⟨.k (.bin .lss),[.s 181,.c (.i .i64 (8:Int))],[182],none⟩]) none (.cond (.s 182) [(4,.ptr 1212 0),(6,.ptr 1213 0),(1212,.cl []),(1213,.cl [])] (.reg [
  ⟨.k (.fa 1213 0 2),[.s 6],[183],none⟩,
  ⟨.k (.ld 1213 2 1 false),[.s 183,.s 1213],[184],none⟩,
  ⟨.k (.bin .shl),[.s 184,.c (.u64 (8:UInt64))],[185],none⟩,
  ⟨.k .mv,[.s 10],[186],none⟩,
  ⟨.k (.ci .u64),[.s 186],[187],none⟩,
  ⟨.k (.bin .or),[.s 185,.s 187],[188],none⟩,
  ⟨.k (.fa 1213 0 2),[.s 6],[189],none⟩,
  ⟨.k (.st 1213 2 1),[.s 189,.s 1213,.s 188],[1213],none⟩]) (.reg [
  ⟨.k (.fa 1213 0 3),[.s 6],[190],none⟩,
  ⟨.k (.ld 1213 3 1 false),[.s 190,.s 1213],[191],none⟩,
  ⟨.k (.bin .shl),[.s 191,.c (.u64 (8:UInt64))],[192],none⟩,
  ⟨.k .mv,[.s 10],[193],none⟩,
  ⟨.k (.ci .u64),[.s 193],[194],none⟩,
  ⟨.k (.bin .or),[.s 192,.s 194],[195],none⟩,
  ⟨.k (.fa 1213 0 3),[.s 6],[196],none⟩,
  ⟨.k (.st 1213 3 1),[.s 196,.s 1213,.s 195],[1213],none⟩]))))) (some [4,6,7,174,175,176,1212,1213]) db_small.m1))
def db_small.m3:TM := .cond (.s 198) [(4,.ptr 1212 0),(6,.ptr 1213 0),(1212,.cl []),(1213,.cl [])] (.reg [
  ⟨.k (.fa 1211 0 0),[.s 3],[201],none⟩,
  ⟨.k (.ld 1211 0 1 false),[.s 201,.s 1211],[202],none⟩,
  ⟨.k (.bin .eql),[.s 202,.c (.i .i64 (8:Int))],[203],none⟩,
  ⟨.k .mv,[.s 203],[204],none⟩,
  ⟨.k (.fa 1211 0 1),[.s 3],[205],some (204,true)⟩,
  ⟨.k (.ld 1211 1 1 false),[.s 205,.s 1211],[206],some (204,true)⟩,
  ⟨.k (.bin .eql),[.s 206,.c (.u64 (22:UInt64))],[207],some (204,true)⟩,
  ⟨.k .pick,[.s 204,.s 207,.c (.b false)],[208],none⟩,
  ⟨.k .mv,[.s 208],[7],none⟩]) .skip
def db_small.m4:TM := .cond (.s 144) [(4,.ptr 1212 0),(6,.ptr 1213 0),(1212,.cl []),(1213,.cl [])] (.reg [
  ⟨.k (.fa 1211 0 0),[.s 3],[147],none⟩,
  ⟨.k (.ld 1211 0 1 false),[.s 147,.s 1211],[148],none⟩,
  ⟨.k (.bin .eql),[.s 148,.c (.i .i64 (4:Int))],[149],none⟩,
  ⟨.k (.fa 1211 0 3),[.s 3],[150],none⟩,
  ⟨.k (.ld 1211 3 1 false),[.s 150,.s 1211],[151],none⟩,
  ⟨.k .mv,[.s 149],[7],none⟩,
  ⟨.k (.fa 1213 0 4),[.s 6],[152],none⟩,
  ⟨.k (.st 1213 4 1),[.s 152,.s 1213,.s 151],[1213],none⟩]) (.seq (.reg [
  ⟨.k (.bin .eql),[.s 23,.c (.i .i64 (17:Int))],[154],none⟩,
  ⟨.k .mv,[.s 154],[153],none⟩]) none (.cond (.s 153) [(4,.ptr 1212 0),(6,.ptr 1213 0),(1212,.cl []),(1213,.cl [])] (.reg [
  ⟨.k (.fa 1211 0 0),[.s 3],[155],none⟩,
  ⟨.k (.ld 1211 0 1 false),[.s 155,.s 1211],[156],none⟩,
  ⟨.k (.bin .eql),[.s 156,.c (.i .i64 (1:Int))],[157],none⟩,
  ⟨.k (.fa 1211 0 1),[.s 3],[158],none⟩,
  ⟨.k (.ld 1211 1 1 false),[.s 158,.s 1211],[159],none⟩,
  ⟨.k .mv,[.s 157],[7],none⟩,
  ⟨.k (.fa 1213 0 1),[.s 6],[160],none⟩,
  ⟨.k (.st 1213 1 1),[.s 160,.s 1213,.s 159],[1213],none⟩]) (.seq (.reg [
  ⟨.k (.bin .eql),[.s 23,.c (.i .i64 (19:Int))],[162],none⟩,
  ⟨.k .mv,[.s 162],[161],none⟩]) none (.cond (.s 161) [(4,.ptr 1212 0),(6,.ptr 1213 0),(1212,.cl []),(1213,.cl [])] (.seq (.reg [
  ⟨.k (.fa 1211 0 0),[.s 3],[163],none⟩,
  ⟨.k (.ld 1211 0 1 false),[.s 163,.s 1211],[164],none⟩,
  ⟨.k (.bin .eql),[.s 164,.c (.i .i64 (3:Int))],[165],none⟩,
  ⟨.k .mv,[.s 165],[166],none⟩,
  ⟨.k (.fa 1211 0 2),[.s 3],[167],some (166,true)⟩,
  ⟨.k (.ld 1211 2 1 false),[.s 167,.s 1211],[168],some (166,true)⟩,
  ⟨.k .len,[.s 168],[169],some (166,true)⟩,
  ⟨.k (.bin .eql),[.s 169,.c (.i .i64 (16:Int))],[170],some (166,true)⟩,
  ⟨.k .pick,[.s 166,.s 170,.c (.b false)],[171],none⟩,
  ⟨.k .mv,[.s 171],[7],none⟩]) none (.seq (.reg [
  ⟨.k .mv,[.s 7],[172],none⟩]) none (.cond (.s 172) [(4,.ptr 1212 0),(6,.ptr 1213 0),(1212,.cl []),(1213,.cl [])] (.seq (.reg [
  ⟨.k (.fa 1211 0 2),[.s 3],[173],none⟩,
  ⟨.k (.ld 1211 2 1 false),[.s 173,.s 1211],[174],none⟩,
  ⟨.k .len,[.s 174],[175],none⟩,
  ⟨.k .mv,[.c (.i .i64 (0:Int))],[176],none⟩]) none (.block 1 [(4,.ptr 1212 0),(6,.ptr 1213 0),(1212,.cl []),(1213,.cl [])] (.loop [4,6,7,174,175,176,1212,1213] [(4,.ptr 1212 0),(6,.ptr 1213 0),(1212,.cl []),(1213,.cl [])] db_small.m2))) .skip))) (.seq (.seq (.reg [
  ⟨.k (.bin .eql),[.s 23,.c (.i .i64 (255:Int))],[199],none⟩,
  ⟨.k .mv,[.s 199],[198],none⟩]) none (.cond (.s 198) [(3,.ptr 1211 0),(4,.ptr 1212 0),(6,.ptr 1213 0),(1211,.cl []),(1212,.cl []),(1213,.cl [])] .skip (.reg [
  ⟨.k (.bin .eql),[.s 23,.c (.i .i64 (127:Int))],[200],none⟩,
  ⟨.k .mv,[.s 200],[198],none⟩]))) (some [3,4,6,7,198,1211,1212,1213]) db_small.m3)))))
def db_small.m5:TM := .cond (.s 74) [(4,.ptr 1212 0),(6,.ptr 1213 0),(1212,.cl []),(1213,.cl [])] (.seq (.reg [
  ⟨.k .mv,[.c (.i .i64 (0:Int))],[8],none⟩]) none (.seq (.reg [
  ⟨.k (.ld 1211 0 5 true),[.s 3,.s 1211],[78],none⟩,
  ⟨.k (.call 70 (.plain 1 2)),[.s 78],[79],none⟩,
  ⟨.k .mv,[.s 79],[77],none⟩,
  ⟨.k (.ex 0),[.s 77],[80],none⟩,
  ⟨.k (.ex 1),[.s 77],[81],none⟩,
  ⟨.k .mv,[.s 80],[8],none⟩,
  ⟨.k .mv,[.s 81],[7],none⟩]) none (.reg [
  ⟨.k .mv,[.s 8],[82],none⟩,
  ⟨.k (.ci .u64),[.s 82],[83],none⟩,
  ⟨.k (.fa 1213 0 1),[.s 6],[84],none⟩,
  ⟨.k (.st 1213 1 1),[.s 84,.s 1213,.s 83],[1213],none⟩]))) (.seq (.reg [
  ⟨.k (.bin .eql),[.s 23,.c (.i .i64 (11:Int))],[86],none⟩,
  ⟨.k .mv,[.s 86],[85],none⟩]) none (.cond (.s 85) [(4,.ptr 1212 0),(6,.ptr 1213 0),(1212,.cl []),(1213,.cl [])] (.seq (.reg [
  ⟨.k (.ld 1211 0 5 true),[.s 3,.s 1211],[87],none⟩,
  ⟨.k (.call 88 (.plain 3 1)),[.s 87,.c (.i .i64 (4:Int)),.c (.i .i64 (4:Int))],[88],none⟩,
  ⟨.k .mv,[.s 88],[89],none⟩,
  ⟨.k (.fa 1211 0 4),[.s 3],[90],some (89,true)⟩,
  ⟨.k (.ld 1211 4 1 false),[.s 90,.s 1211],[91],some (89,true)⟩,
  ⟨.k (.ix 5),[.s 91,.c (.i .i64 (0:Int))],[92],some (89,true)⟩,
  ⟨.k (.fr 3 1 false),[.s 92],[93],some (89,true)⟩,
  ⟨.k (.lr 1 false),[.s 93],[94],some (89,true)⟩,
  ⟨.k (.fa 1211 0 4),[.s 3],[95],some (89,true)⟩,
  ⟨.k (.ld 1211 4 1 false),[.s 95,.s 1211],[96],some (89,true)⟩,
  ⟨.k (.ix 5),[.s 96,.c (.i .i64 (1:Int))],[97],some (89,true)⟩,
  ⟨.k (.fr 3 1 false),[.s 97],[98],some (89,true)⟩,
  ⟨.k (.lr 1 false),[.s 98],[99],some (89,true)⟩,
  ⟨.k (.bin .add),[.s 94,.s 99],[100],some (89,true)⟩,
  ⟨.k (.call 43 (.plain 2 1)),[.s 100,.c (.s ([0]:Str))],[101],some (89,true)⟩,
  ⟨.k (.un .not),[.s 101],[102],some (89,true)⟩,
  ⟨.k .pick,[.s 89,.s 102,.c (.b false)],[103],none⟩,
  ⟨.k .mv,[.s 103],[7],none⟩]) none (.seq (.reg [
  ⟨.k .mv,[.s 7],[104],none⟩]) none (.cond (.s 104) [(4,.ptr 1212 0),(6,.ptr 1213 0),(1212,.cl []),(1213,.cl [])] (.reg [
  ⟨.k (.fa 1211 0 4),[.s 3],[105],none⟩,
  ⟨.k (.ld 1211 4 1 false),[.s 105,.s 1211],[106],none⟩,
  ⟨.k (.ix 5),[.s 106,.c (.i .i64 (0:Int))],[107],none⟩,
  ⟨.k (.fr 3 1 false),[.s 107],[108],none⟩,
  ⟨.k (.lr 1 false),[.s 108],[109],none⟩,
  ⟨.k (.fa 1211 0 4),[.s 3],[110],none⟩,
  ⟨.k (.ld 1211 4 1 false),[.s 110,.s 1211],[111],none⟩,
  ⟨.k (.ix 5),[.s 111,.c (.i .i64 (1:Int))],[112],none⟩,
  ⟨.k (.fr 3 1 false),[.s 112],[113],none⟩,
  ⟨.k (.lr 1 false),[.s 113],[114],none⟩,
  ⟨.k (.fa 1213 0 4),[.s 6],[115],none⟩,
  ⟨.k (.st 1213 4 1),[.s 115,.s 1213,.s 109],[1213],none⟩,
  ⟨.k (.fa 1213 0 5),[.s 6],[116],none⟩,
  ⟨.k (.st 1213 5 1),[.s 116,.s 1213,.s 114],[1213],none⟩]) .skip))) (.seq (.reg [
  ⟨.k (.bin .eql),[.s 23,.c (.i .i64 (12:Int))],[118],none⟩,
  ⟨.k .mv,[.s 118],[117],none⟩]) none (.cond (.s 117) [(4,.ptr 1212 0),(6,.ptr 1213 0),(1212,.cl []),(1213,.cl [])] (.seq (.reg [
  ⟨.k (.ld 1211 0 5 true),[.s 3,.s 1211],[119],none⟩,
  ⟨.k (.call 88 (.plain 3 1)),[.s 119,.c (.i .i64 (4:Int)),.c (.i .i64 (3:Int))],[120],none⟩,
  ⟨.k .mv,[.s 120],[121],none⟩,
  ⟨.k (.fa 1211 0 4),[.s 3],[122],some (121,true)⟩,
  ⟨.k (.ld 1211 4 1 false),[.s 122,.s 1211],[123],some (121,true)⟩,
  ⟨.k (.ix 5),[.s 123,.c (.i .i64 (1:Int))],[124],some (121,true)⟩,
  ⟨.k (.fr 2 1 false),[.s 124],[125],some (121,true)⟩,
  ⟨.k (.lr 1 false),[.s 125],[126],some (121,true)⟩,
  ⟨.k .len,[.s 126],[127],some (121,true)⟩,
  ⟨.k (.bin .eql),[.s 127,.c (.i .i64 (12:Int))],[128],some (121,true)⟩,
  ⟨.k .pick,[.s 121,.s 128,.c (.b false)],[129],none⟩,
  ⟨.k .mv,[.s 129],[7],none⟩]) none (.seq (.reg [
  ⟨.k .mv,[.s 7],[130],none⟩]) none (.cond (.s 130) [(4,.ptr 1212 0),(6,.ptr 1213 0),(1212,.cl []),(1213,.cl [])] (.reg [
  ⟨.k (.fa 1211 0 4),[.s 3],[131],none⟩,
  ⟨.k (.ld 1211 4 1 false),[.s 131,.s 1211],[132],none⟩,
  ⟨.k (.ix 5),[.s 132,.c (.i .i64 (0:Int))],[133],none⟩,
  ⟨.k (.fr 3 1 false),[.s 133],[134],none⟩,
  ⟨.k (.lr 1 false),[.s 134],[135],none⟩,
  ⟨.k (.fa 1211 0 4),[.s 3],[136],none⟩,
  ⟨.k (.ld 1211 4 1 false),[.s 136,.s 1211],[137],none⟩,
  ⟨.k (.ix 5),[.s 137,.c (.i .i64 (1:Int))],[138],none⟩,
  ⟨.k (.fr 2 1 false),[.s 138],[139],none⟩,
  ⟨.k (.lr 1 false),[.s 139],[140],none⟩,
  ⟨.k (.call 69 ⟨1,none,[],[],1,[(0,110,1)],none,[]⟩),[.s 140,.s (lk 110)],[141,lk 110],none⟩,
  ⟨.k (.fa 1213 0 4),[.s 6],[142],none⟩,
  ⟨.k (.st 1213 4 1),[.s 142,.s 1213,.s 135],[1213],none⟩,
  ⟨.k (.fa 1213 0 7),[.s 6],[143],none⟩,
  ⟨.k (.st 1213 7 1),[.s 143,.s 1213,.s 141],[1213],none⟩]) .skip))) (.seq (.seq (.reg [
  ⟨.k (.bin .eql),[.s 23,.c (.i .i64 (13:Int))],[145],none⟩,
  ⟨.k .mv,[.s 145],[144],none⟩]) none (.cond (.s 144) [(3,.ptr 1211 0),(4,.ptr 1212 0),(6,.ptr 1213 0),(1211,.cl []),(1212,.cl []),(1213,.cl [])] .skip (.reg [
  ⟨.k (.bin .eql),[.s 23,.c (.i .i64 (14:Int))],[146],none⟩,
  ⟨.k .mv,[.s 146],[144],none⟩]))) (some [3,4,6,7,23,144,1211,1212,1213]) db_small.m4)))))
def db_small.m6:TM := .seq (.reg [
  ⟨.k (.ld 1213 0 9 true),[.s 6,.s 1213],[209],none⟩,
  ⟨.k .mv,[.s 7],[210],none⟩,
  ⟨.k (.st 1212 0 9),[.s 4,.s 1212,.s 209],[1212],none⟩,
  ⟨.k .mv,[.s 210],[5],none⟩]) none .ret
def db_small.m:TM := .seq (.reg [
  ⟨.k (.bx 1211),[.s 1,.s 1211],[3,1211],none⟩,
  ⟨.al 1212 [(.i .i64 (0:Int)),(.u64 (0:UInt64)),(.u64 (0:UInt64)),(.u64 (0:UInt64)),(.s ([]:Str)),(.s ([]:Str)),(.i .i64 (0:Int)),(.sl .bs ([]:List UInt8)),(.sl .fl ([]:List Fld))] [],[.s 1212],[4,1212],none⟩,
  ⟨.k .mv,[.c (.b false)],[5],none⟩]) none (.seq (.seq (.reg [
  ⟨.k .mv,[.s 0],[11],none⟩,
  ⟨.k (.bin .lss),[.s 11,.c (.u64 (1000:UInt64))],[12],none⟩,
  ⟨.k .mv,[.s 12],[13],none⟩,
  ⟨.k .mv,[.s 0],[14],some (13,false)⟩,
  ⟨.k (.bin .gtr),[.s 14,.c (.u64 (1255:UInt64))],[15],some (13,false)⟩,
  ⟨.k .pick,[.s 13,.c (.b true),.s 15],[16],none⟩]) none (.cond (.s 16) [] (.seq (.reg [
  ⟨.bd [(.i .i64 (0:Int)),(.u64 (0:UInt64)),(.u64 (0:UInt64)),(.u64 (0:UInt64)),(.s ([]:Str)),(.s ([]:Str)),(.i .i64 (0:Int)),(.sl .bs ([]:List UInt8)),(.sl .fl ([]:List Fld))] [],[],[17],none⟩,
  ⟨.k (.st 1212 0 9),[.s 4,.s 1212,.s 17],[1212],none⟩,
  ⟨.k .mv,[.c (.b false)],[5],none⟩]) none .ret) .skip)) none (.seq (.reg [
  ⟨.k .mv,[.s 0],[18],none⟩,
  ⟨.k (.bin .sub),[.s 18,.c (.u64 (1000:UInt64))],[19],none⟩,
  ⟨.k (.ci .i64),[.s 19],[20],none⟩,
  ⟨.bd [(.i .i64 (0:Int)),(.u64 (0:UInt64)),(.u64 (0:UInt64)),(.u64 (0:UInt64)),(.s ([]:Str)),(.s ([]:Str)),(.i .i64 (0:Int)),(.sl .bs ([]:List UInt8)),(.sl .fl ([]:List Fld))] [(0,1)],[.s 20],[21],none⟩,
  ⟨.al 1213 [(.i .i64 (0:Int)),(.u64 (0:UInt64)),(.u64 (0:UInt64)),(.u64 (0:UInt64)),(.s ([]:Str)),(.s ([]:Str)),(.i .i64 (0:Int)),(.sl .bs ([]:List UInt8)),(.sl .fl ([]:List Fld))] [],[.s 1213],[6,1213],none⟩,
  ⟨.k (.st 1213 0 9),[.s 6,.s 1213,.s 21],[1213],none⟩]) none (.seq (.reg [
  ⟨.k .mv,[.c (.b false)],[7],none⟩]) none (.seq (.seq (.reg [
  ⟨.k (.fa 1213 0 0),[.s 6],[22],none⟩,
  ⟨.k (.ld 1213 0 1 false),[.s 22,.s 1213],[23],none⟩]) none (.block 0 [(4,.ptr 1212 0),(6,.ptr 1213 0),(1212,.cl []),(1213,.cl [])] (.seq (.reg [
  ⟨.k (.bin .eql),[.s 23,.c (.i .i64 (5:Int))],[25],none⟩,
  ⟨.k .mv,[.s 25],[24],none⟩]) none (.cond (.s 24) [(4,.ptr 1212 0),(6,.ptr 1213 0),(1212,.cl []),(1213,.cl [])] (.seq (.reg [
  ⟨.k (.ld 1211 0 5 true),[.s 3,.s 1211],[26],none⟩,
  ⟨.k (.call 88 (.plain 3 1)),[.s 26,.c (.i .i64 (1:Int)),.c (.i .i64 (3:Int))],[27],none⟩,
  ⟨.k .mv,[.s 27],[28],none⟩,
  ⟨.k (.fa 1211 0 4),[.s 3],[29],some (28,true)⟩,
  ⟨.k (.ld 1211 4 1 false),[.s 29,.s 1211],[30],some (28,true)⟩,
  ⟨.k (.ix 5),[.s 30,.c (.i .i64 (0:Int))],[31],some (28,true)⟩,
  ⟨.k (.fr 1 1 false),[.s 31],[32],some (28,true)⟩,
  ⟨.k (.lr 1 false),[.s 32],[33],some (28,true)⟩,
  ⟨.k (.bin .geq),[.s 33,.c (.u64 (1:UInt64))],[34],some (28,true)⟩,
  ⟨.k .pick,[.s 28,.s 34,.c (.b false)],[35],none⟩,
  ⟨.k .mv,[.s 35],[36],none⟩,
  ⟨.k (.fa 1211 0 4),[.s 3],[37],some (36,true)⟩,
  ⟨.k (.ld 1211 4 1 false),[.s 37,.s 1211],[38],some (36,true)⟩,
  ⟨.k (.ix 5),[.s 38,.c (.i .i64 (0:Int))],[39],some (36,true)⟩,
  ⟨.k (.fr 1 1 false),[.s 39],[40],some (36,true)⟩,
  ⟨.k (.lr 1 false),[.s 40],[41],some (36,true)⟩,
  ⟨.k (.bin .leq),[.s 41,.c (.u64 (255:UInt64))],[42],some (36,true)⟩,
  ⟨.k .pick,[.s 36,.s 42,.c (.b false)],[43],none⟩,
  ⟨.k .mv,[.s 43],[7],none⟩]) none (.seq (.reg [
  ⟨.k .mv,[.s 7],[44],none⟩]) none (.cond (.s 44) [(4,.ptr 1212 0),(6,.ptr 1213 0),(1212,.cl []),(1213,.cl [])] (.reg [
  ⟨.k (.fa 1211 0 4),[.s 3],[45],none⟩,
  ⟨.k (.ld 1211 4 1 false),[.s 45,.s 1211],[46],none⟩,
  ⟨.k (.ix 5),[.s 46,.c (.i .i64 (0:Int))],[47],none⟩,
  ⟨.k (.fr 1 1 false),[.s 47],[48],none⟩,
  ⟨.k (.lr 1 false),[.s 48],[49],none⟩,
  ⟨.k (.ci .i64),[.s 49],[50],none⟩,
  ⟨.k (.fa 1211 0 4),[.s 3],[51],none⟩,
  ⟨.k (.ld 1211 4 1 false),[.s 51,.s 1211],[52],none⟩,
  ⟨.k (.ix 5),[.s 52,.c (.i .i64 (1:Int))],[53],none⟩,
  ⟨.k (.fr 2 1 false),[.s 53],[54],none⟩,
  ⟨.k (.lr 1 false),[.s 54],[55],none⟩,
  ⟨.k (.call 69 ⟨1,none,[],[],1,[(0,108,1)],none,[]⟩),[.s 55,.s (lk 108)],[56,lk 108],none⟩,
  ⟨.k (.fa 1213 0 6),[.s 6],[57],none⟩,
  ⟨.k (.st 1213 6 1),[.s 57,.s 1213,.s 50],[1213],none⟩,
  ⟨.k (.fa 1213 0 7),[.s 6],[58],none⟩,
  ⟨.k (.st 1213 7 1),[.s 58,.s 1213,.s 56],[1213],none⟩]) .skip))) (.seq (.reg [
  ⟨.k (.bin .eql),[.s 23,.c (.i .i64 (7:Int))],[60],none⟩,
  ⟨.k .mv,[.s 60],[59],none⟩]) none (.cond (.s 59) [(4,.ptr 1212 0),(6,.ptr 1213 0),(1212,.cl []),(1213,.cl [])] (.reg [
  ⟨.k (.fa 1211 0 0),[.s 3],[61],none⟩,
  ⟨.k (.ld 1211 0 1 false),[.s 61,.s 1211],[62],none⟩,
  ⟨.k (.bin .eql),[.s 62,.c (.i .i64 (3:Int))],[63],none⟩,
  ⟨.k .mv,[.s 63],[64],none⟩,
  ⟨.k (.fa 1211 0 2),[.s 3],[65],some (64,true)⟩,
  ⟨.k (.ld 1211 2 1 false),[.s 65,.s 1211],[66],some (64,true)⟩,
  ⟨.k .len,[.s 66],[67],some (64,true)⟩,
  ⟨.k (.bin .eql),[.s 67,.c (.i .i64 (12:Int))],[68],some (64,true)⟩,
  ⟨.k .pick,[.s 64,.s 68,.c (.b false)],[69],none⟩,
  ⟨.k (.fa 1211 0 2),[.s 3],[70],none⟩,
  ⟨.k (.ld 1211 2 1 false),[.s 70,.s 1211],[71],none⟩,
  ⟨.k (.call 69 ⟨1,none,[],[],1,[(0,109,1)],none,[]⟩),[.s 71,.s (lk 109)],[72,lk 109],none⟩,
  ⟨.k .mv,[.s 69],[7],none⟩,
  ⟨.k (.fa 1213 0 7),[.s 6],[73],none⟩,
  ⟨.k (.st 1213 7 1),[.s 73,.s 1213,.s 72],[1213],none⟩]) (.seq (.seq (.reg [
  ⟨.k (.bin .eql),[.s 23,.c (.i .i64 (9:Int))],[75],none⟩,
  ⟨.k .mv,[.s 75],[74],none⟩]) none (.cond (.s 74) [(3,.ptr 1211 0),(4,.ptr 1212 0),(6,.ptr 1213 0),(1211,.cl []),(1212,.cl []),(1213,.cl [])] .skip (.reg [
  ⟨.k (.bin .eql),[.s 23,.c (.i .i64 (18:Int))],[76],none⟩,
  ⟨.k .mv,[.s 76],[74],none⟩]))) (some [3,4,6,7,23,74,1211,1212,1213]) db_small.m5))))))) (some [4,6,7,1212,1213]) db_small.m6))))
def db_small.d:TFD:={ np:=2,m:=db_small.m,ref:=none,tips:=[],res:=[.c 4 1212 9 true,.t 5],own:=[],new:=none,tnew:=[] }
noncomputable def db_small.F (n:UInt64) (it:Itv):Option (List TV):=db_small.d.run db_small.E [(.u64 n),(.ag (Itv.cells it))]
noncomputable def db_small.k1:Cont (List TV):=seqK (evO _ db_small.E db_small.m6) (some [4,6,7,1212,1213]) (endK db_small.d)
noncomputable def db_small.k2:Cont (List TV):=againK (evO _ db_small.E db_small.m2) isN [4,6,7,174,175,176,1212,1213] (blockK 1 (blockK 0 db_small.k1))
noncomputable def db_small.j1 (x0:Bool) (x1:Val) (x2:Val):Option (List TV):=evO _ db_small.E db_small.m6 (headT [4,6,7,1212,1213] [.pt,.pt,(.b x0),(.ag (Val.cells x1)),(.ag (Val.cells x2))]) (endK db_small.d)
noncomputable def db_small.j2 (x0:Bool) (x1:Int) (x2:Bool) (x3:Itv) (x4:Val) (x5:Val):Option (List TV):=evO _ db_small.E db_small.m5 (headT [3,4,6,7,23,74,1211,1212,1213] [.pt,.pt,.pt,(.b x0),(.i .i64 x1),(.b x2),(.ag (Itv.cells x3)),(.ag (Val.cells x4)),(.ag (Val.cells x5))]) (blockK 0 db_small.k1)
noncomputable def db_small.j3 (x0:Bool) (x1:Int) (x2:Bool) (x3:Itv) (x4:Val) (x5:Val):Option (List TV):=evO _ db_small.E db_small.m4 (headT [3,4,6,7,23,144,1211,1212,1213] [.pt,.pt,.pt,(.b x0),(.i .i64 x1),(.b x2),(.ag (Itv.cells x3)),(.ag (Val.cells x4)),(.ag (Val.cells x5))]) (blockK 0 db_small.k1)
noncomputable def db_small.l4 (x0:Bool) (x1:List UInt8) (x2:Int) (x3:Int) (x4:Val) (x5:Val):Option (List TV):=loopL (evO _ db_small.E db_small.m2) isN [4,6,7,174,175,176,1212,1213] (headT [4,6,7,174,175,176,1212,1213] [.pt,.pt,(.b x0),(.sl .bs x1),(.i .i64 x2),(.i .i64 x3),(.ag (Val.cells x4)),(.ag (Val.cells x5))]) (blockK 1 (blockK 0 db_small.k1))
noncomputable def db_small.j5 (x0:Bool) (x1:List UInt8) (x2:Int) (x3:Int) (x4:Val) (x5:Val):Option (List TV):=evO _ db_small.E db_small.m1 (headT [4,6,7,174,175,176,1212,1213] [.pt,.pt,(.b x0),(.sl .bs x1),(.i .i64 x2),(.i .i64 x3),(.ag (Val.cells x4)),(.ag (Val.cells x5))]) db_small.k2
noncomputable def db_small.j6 (x0:Bool) (x1:Bool) (x2:Itv) (x3:Val) (x4:Val):Option (List TV):=evO _ db_small.E db_small.m3 (headT [3,4,6,7,198,1211,1212,1213] [.pt,.pt,.pt,(.b x0),(.b x1),(.ag (Itv.cells x2)),(.ag (Val.cells x3)),(.ag (Val.cells x4))]) (blockK 0 db_small.k1)
theorem db_small.j1_eq (x0:Bool) (x1:Val) (x2:Val):db_small.j1 x0 x1 x2=some [(.ag (Val.cells x2)),(.b x0)]:=((congrFun (congrFun (ev_eq _ _) _) _).trans (by kernel_rfl))
theorem db_small.j2_in (x0:Bool) (x1:Int) (x2:Bool) (x3:Itv) (x4:Val) (x5:Val) {ρ:Option (List TV)} (K:∀(v1:Int) (h1:v1=((Db.number (Itm.of x3)).getD 0)) (v2:Bool) (h2:v2=((Db.number (Itm.of x3)).isSome)) (v3:Bool) (h3:v3=(Db.kinds (Itm.of x3) ((4:Int)) ((4:Int)))) (v4:Str) (h4:v4=(Itm.text (List.getD (Itv.kids x3) ((0:Int)).toNat (STy.dflt .il)))) (v5:Str) (h5:v5=(Itm.text (List.getD (Itv.kids x3) ((1:Int)).toNat (STy.dflt .il)))) (v6:Bool) (h6:v6=(cond v3 (!(decide (0≤Lib.indexByte ((v4++v5)) ((([0]:Str)).getD 0 0)))) false)) (v7:Bool) (h7:v7=(Db.kinds (Itm.of x3) ((4:Int)) ((3:Int)))) (v8:List UInt8) (h8:v8=(Itm.bytes (List.getD (Itv.kids x3) ((1:Int)).toNat (STy.dflt .il)))) (v9:Bool) (h9:v9=(cond v7 (decide (((v8).length:Int)=(12:Int))) false)),cond x2
  (db_small.j1 v2 x4 (Val.mk (Val.kind x5) (UInt64.ofInt v1) (Val.high x5) (Val.low x5) (Val.text x5) (Val.more x5) (Val.sub x5) (Val.bytes x5) (Val.kids x5)))
  (cond (decide (x1=(11:Int)))
  (ck (!v3 || v3) (ck (!v3 || (v3&&(idxOK (0:Int) ((Itv.kids x3)).length))) (ck (!v3 || v3) (ck (!v3 || v3) (ck (!v3 || v3) (ck (!v3 || (v3&&(idxOK (1:Int) ((Itv.kids x3)).length))) (ck (!v3 || v3) (ck (!v3 || v3) (ck (!v3 || ((v3&&v3)&&(decide ((v4).length+(v5).length≤9223372036854775807)))) (ck (!v3 || (v3&&(decide ((([0]:Str)).length=1)))) (ck (!v3 || v3) (ck (!v3 || v3) (cond v6
  (ck (idxOK (0:Int) ((Itv.kids x3)).length) (ck (idxOK (1:Int) ((Itv.kids x3)).length) (db_small.j1 v6 x4 (Val.mk (Val.kind x5) (Val.bits x5) (Val.high x5) (Val.low x5) v4 v5 (Val.sub x5) (Val.bytes x5) (Val.kids x5)))))
  (db_small.j1 v6 x4 x5))))))))))))))
  (cond (decide (x1=(12:Int)))
  (ck (!v7 || v7) (ck (!v7 || (v7&&(idxOK (1:Int) ((Itv.kids x3)).length))) (ck (!v7 || v7) (ck (!v7 || v7) (ck (!v7 || v7) (ck (!v7 || v7) (ck (!v7 || v7) (cond v9
  (ck (idxOK (0:Int) ((Itv.kids x3)).length) (ck (idxOK (1:Int) ((Itv.kids x3)).length) (ck (apOK (v8).length 1) (db_small.j1 v9 x4 (Val.mk (Val.kind x5) (Val.bits x5) (Val.high x5) (Val.low x5) v4 (Val.more x5) (Val.sub x5) (v8) (Val.kids x5))))))
  (db_small.j1 v9 x4 x5)))))))))
  (cond (decide (x1=(13:Int)))
  (db_small.j3 x0 x1 (decide (x1=(13:Int))) x3 x4 x5)
  (db_small.j3 x0 x1 (decide (x1=(14:Int))) x3 x4 x5))))=ρ):db_small.j2 x0 x1 x2 x3 x4 x5=ρ:=((congrFun (congrFun (ev_eq _ _) _) _).trans (by kernel_rfl)).trans (K _ rfl _ rfl _ rfl _ rfl _ rfl _ rfl _ rfl _ rfl _ rfl)
theorem db_small.j3_in (x0:Bool) (x1:Int) (x2:Bool) (x3:Itv) (x4:Val) (x5:Val) {ρ:Option (List TV)} (K:∀(v1:Int) (h1:v1=(((Itv.bytes x3)).length:Int)) (v2:Bool) (h2:v2=(cond (decide ((Itv.kind x3)=(3:Int))) (decide (v1=(16:Int))) false)),cond x2
  (db_small.j1 (decide ((Itv.kind x3)=(4:Int))) x4 (Val.mk (Val.kind x5) (Val.bits x5) (Val.high x5) (Val.low x5) (Itv.text x3) (Val.more x5) (Val.sub x5) (Val.bytes x5) (Val.kids x5)))
  (cond (decide (x1=(17:Int)))
  (db_small.j1 (decide ((Itv.kind x3)=(1:Int))) x4 (Val.mk (Val.kind x5) (Itv.n x3) (Val.high x5) (Val.low x5) (Val.text x5) (Val.more x5) (Val.sub x5) (Val.bytes x5) (Val.kids x5)))
  (cond (decide (x1=(19:Int)))
  (ck (!(decide ((Itv.kind x3)=(3:Int))) || (decide ((Itv.kind x3)=(3:Int)))) (ck (!(decide ((Itv.kind x3)=(3:Int))) || (decide ((Itv.kind x3)=(3:Int)))) (ck (!(decide ((Itv.kind x3)=(3:Int))) || (decide ((Itv.kind x3)=(3:Int)))) (ck (!(decide ((Itv.kind x3)=(3:Int))) || (decide ((Itv.kind x3)=(3:Int)))) (cond v2
  (db_small.l4 v2 (Itv.bytes x3) v1 (0:Int) x4 x5)
  (db_small.j1 v2 x4 x5))))))
  (cond (decide (x1=(255:Int)))
  (db_small.j6 x0 (decide (x1=(255:Int))) x3 x4 x5)
  (db_small.j6 x0 (decide (x1=(127:Int))) x3 x4 x5))))=ρ):db_small.j3 x0 x1 x2 x3 x4 x5=ρ:=((congrFun (congrFun (ev_eq _ _) _) _).trans (by kernel_rfl)).trans (K _ rfl _ rfl)
theorem db_small.l4_in (x0:Bool) (x1:List UInt8) (x2:Int) (x3:Int) (x4:Val) (x5:Val) {ρ:Option (List TV)} (K:∀(v1:UInt8) (h1:v1=(List.getD x1 (x3).toNat (0:UInt8))) (v2:UInt64) (h2:v2=(shl64 (Val.high x5) (((8:UInt64)).toNat))) (v3:UInt64) (h3:v3=(UInt64.ofInt ((v1).toNat:Int))) (v4:UInt64) (h4:v4=(shl64 (Val.low x5) (((8:UInt64)).toNat))),cond (decide (x3<x2))
  (ck (idxOK x3 (x1).length) (cond (decide (x3<(8:Int)))
  (db_small.j5 x0 x1 x2 x3 x4 (Val.mk (Val.kind x5) (Val.bits x5) (v2 ||| v3) (Val.low x5) (Val.text x5) (Val.more x5) (Val.sub x5) (Val.bytes x5) (Val.kids x5)))
  (db_small.j5 x0 x1 x2 x3 x4 (Val.mk (Val.kind x5) (Val.bits x5) (Val.high x5) (v4 ||| v3) (Val.text x5) (Val.more x5) (Val.sub x5) (Val.bytes x5) (Val.kids x5)))))
  (db_small.j1 x0 x4 x5)=ρ):db_small.l4 x0 x1 x2 x3 x4 x5=ρ:=((ev_loop _ _ _ _ _ _).trans (by kernel_rfl)).trans (K _ rfl _ rfl _ rfl _ rfl)
theorem db_small.j5_in (x0:Bool) (x1:List UInt8) (x2:Int) (x3:Int) (x4:Val) (x5:Val) {ρ:Option (List TV)} (K:∀(v1:Int) (h1:v1=(IntKind.i64.wrap (x3+(1:Int)))),db_small.l4 x0 x1 x2 v1 x4 x5=ρ):db_small.j5 x0 x1 x2 x3 x4 x5=ρ:=((congrFun (congrFun (ev_eq _ _) _) _).trans (by kernel_rfl)).trans (K _ rfl)
theorem db_small.j6_in (x0:Bool) (x1:Bool) (x2:Itv) (x3:Val) (x4:Val) {ρ:Option (List TV)} (K:∀(v1:Bool) (h1:v1=(cond (decide ((Itv.kind x2)=(8:Int))) (decide ((Itv.n x2)=(22:UInt64))) false)),cond x1
  (ck (!(decide ((Itv.kind x2)=(8:Int))) || (decide ((Itv.kind x2)=(8:Int)))) (ck (!(decide ((Itv.kind x2)=(8:Int))) || (decide ((Itv.kind x2)=(8:Int)))) (ck (!(decide ((Itv.kind x2)=(8:Int))) || (decide ((Itv.kind x2)=(8:Int)))) (db_small.j1 v1 x3 x4))))
  (db_small.j1 x0 x3 x4)=ρ):db_small.j6 x0 x1 x2 x3 x4=ρ:=((congrFun (congrFun (ev_eq _ _) _) _).trans (by kernel_rfl)).trans (K _ rfl)
theorem db_small.F_in (n:UInt64) (it:Itv) {ρ:Option (List TV)} (K:∀(v1:Bool) (h1:v1=(cond (decide (n<(1000:UInt64))) true (decide ((1255:UInt64)<n)))) (v2:Int) (h2:v2=(IntKind.i64.wrap (((n - (1000:UInt64))).toNat:Int))) (v3:Bool) (h3:v3=(Db.kinds (Itm.of it) ((1:Int)) ((3:Int)))) (v4:UInt64) (h4:v4=(Itm.n (List.getD (Itv.kids it) ((0:Int)).toNat (STy.dflt .il)))) (v5:Bool) (h5:v5=(cond v3 (decide ((1:UInt64)≤v4)) false)) (v6:Bool) (h6:v6=(cond v5 (decide (v4≤(255:UInt64))) false)) (v7:Int) (h7:v7=(IntKind.i64.wrap ((v4).toNat:Int))) (v8:List UInt8) (h8:v8=(Itm.bytes (List.getD (Itv.kids it) ((1:Int)).toNat (STy.dflt .il)))) (v9:Int) (h9:v9=(((Itv.bytes it)).length:Int)) (v10:Bool) (h10:v10=(cond (decide ((Itv.kind it)=(3:Int))) (decide (v9=(12:Int))) false)),ck (!(!(decide (n<(1000:UInt64)))) || (!(decide (n<(1000:UInt64))))) (ck ((decide (n<(1000:UInt64))) || (!(decide (n<(1000:UInt64))))) (cond v1
  (some [(.ag [(.i .i64 (0:Int)),(.u64 (0:UInt64)),(.u64 (0:UInt64)),(.u64 (0:UInt64)),(.s ([]:Str)),(.s ([]:Str)),(.i .i64 (0:Int)),(.sl .bs ([]:List UInt8)),(.sl .fl ([]:List Fld))]),(.b false)])
  (cond (decide (v2=(5:Int)))
  (ck (!v3 || v3) (ck (!v3 || (v3&&(idxOK (0:Int) ((Itv.kids it)).length))) (ck (!v3 || v3) (ck (!v3 || v3) (ck (!v3 || v3) (ck (!v3 || v3) (ck (!v5 || v5) (ck (!v5 || (v5&&(idxOK (0:Int) ((Itv.kids it)).length))) (ck (!v5 || v5) (ck (!v5 || v5) (ck (!v5 || v5) (ck (!v5 || v5) (cond v6
  (ck (idxOK (0:Int) ((Itv.kids it)).length) (ck (idxOK (1:Int) ((Itv.kids it)).length) (ck (apOK (v8).length 1) (db_small.j1 v6 (Val.mk (0:Int) (0:UInt64) (0:UInt64) (0:UInt64) ([]:Str) ([]:Str) (0:Int) ([]:List UInt8) ([]:List Fld)) (Val.mk v2 (0:UInt64) (0:UInt64) (0:UInt64) ([]:Str) ([]:Str) v7 (v8) ([]:List Fld))))))
  (db_small.j1 v6 (Val.mk (0:Int) (0:UInt64) (0:UInt64) (0:UInt64) ([]:Str) ([]:Str) (0:Int) ([]:List UInt8) ([]:List Fld)) (Val.mk v2 (0:UInt64) (0:UInt64) (0:UInt64) ([]:Str) ([]:Str) (0:Int) ([]:List UInt8) ([]:List Fld))))))))))))))))
  (cond (decide (v2=(7:Int)))
  (ck (!(decide ((Itv.kind it)=(3:Int))) || (decide ((Itv.kind it)=(3:Int)))) (ck (!(decide ((Itv.kind it)=(3:Int))) || (decide ((Itv.kind it)=(3:Int)))) (ck (!(decide ((Itv.kind it)=(3:Int))) || (decide ((Itv.kind it)=(3:Int)))) (ck (!(decide ((Itv.kind it)=(3:Int))) || (decide ((Itv.kind it)=(3:Int)))) (ck (apOK (((Itv.bytes it))).length 1) (db_small.j1 v10 (Val.mk (0:Int) (0:UInt64) (0:UInt64) (0:UInt64) ([]:Str) ([]:Str) (0:Int) ([]:List UInt8) ([]:List Fld)) (Val.mk v2 (0:UInt64) (0:UInt64) (0:UInt64) ([]:Str) ([]:Str) (0:Int) (((Itv.bytes it))) ([]:List Fld))))))))
  (cond (decide (v2=(9:Int)))
  (db_small.j2 false v2 (decide (v2=(9:Int))) it (Val.mk (0:Int) (0:UInt64) (0:UInt64) (0:UInt64) ([]:Str) ([]:Str) (0:Int) ([]:List UInt8) ([]:List Fld)) (Val.mk v2 (0:UInt64) (0:UInt64) (0:UInt64) ([]:Str) ([]:Str) (0:Int) ([]:List UInt8) ([]:List Fld)))
  (db_small.j2 false v2 (decide (v2=(18:Int))) it (Val.mk (0:Int) (0:UInt64) (0:UInt64) (0:UInt64) ([]:Str) ([]:Str) (0:Int) ([]:List UInt8) ([]:List Fld)) (Val.mk v2 (0:UInt64) (0:UInt64) (0:UInt64) ([]:Str) ([]:Str) (0:Int) ([]:List UInt8) ([]:List Fld))))))))=ρ):db_small.F n it=ρ:=Eq.trans (by kernel_rfl) (K _ rfl _ rfl _ rfl _ rfl _ rfl _ rfl _ rfl _ rfl _ rfl _ rfl)
theorem db_small.chk:((Go.Proofs.Tryd.prog.funcs[89]?).any fun fn=>chkF Go.Proofs.Tryd.prog (fun k=>((envL trydbGl db_small.env).fs k).2) fn db_small.d.erase)=true:=by kernel_rfl
end
noncomputable section
def db_with.env (n:Nat):List (Nat × (Ctr × FSig)):=[(27,(db_none.c,db_none.sg)),(43,(st_Contains.c,st_Contains.sg)),(44,(db_value.cn n,db_value.sg))]
def db_with.E (n:Nat):TEnv:=envL trydbGl (db_with.env n)
def db_with.m1:TM := .seq (.seq (.reg [
  ⟨.k .mv,[.s 8],[11],none⟩,
  ⟨.k .mv,[.s 1],[12],none⟩,
  ⟨.k .len,[.s 12],[13],none⟩,
  ⟨.k (.bin .lss),[.s 11,.s 13],[14],none⟩]) none (.cond (.s 14) [] .skip (.exit 0))) none (.seq (.block 1 [(2,.tip 999999 1),(3,.ptr 1070 0),(6,.ptr 1071 0),(7,.ptr 1072 0),(1070,.cl [(8,117,10)]),(1071,.cl []),(1072,.cl []),(lk 117,.live 10),(lk 999999,.pv 1)] (.seq (.seq (.reg [
  ⟨.k .mv,[.s 1],[17],none⟩,
  ⟨.k .mv,[.s 8],[18],none⟩,
  ⟨.k (.ix 5),[.s 17,.s 18],[19],none⟩,
  ⟨.k (.fr 0 1 false),[.s 19],[20],none⟩,
  ⟨.k (.lr 1 false),[.s 20],[21],none⟩,
  ⟨.k (.bin .neq),[.s 21,.c (.i .i64 (4:Int))],[22],none⟩,
  ⟨.k .mv,[.s 22],[23],none⟩,
  ⟨.k .mv,[.s 1],[24],some (23,false)⟩,
  ⟨.k .mv,[.s 8],[25],some (23,false)⟩,
  ⟨.k (.ix 5),[.s 24,.s 25],[26],some (23,false)⟩,
  ⟨.k (.fr 3 1 false),[.s 26],[27],some (23,false)⟩,
  ⟨.k (.lr 1 false),[.s 27],[28],some (23,false)⟩,
  ⟨.k (.call 43 (.plain 2 1)),[.s 28,.c (.s ([0]:Str))],[29],some (23,false)⟩,
  ⟨.k .pick,[.s 23,.c (.b true),.s 29],[30],none⟩]) none (.cond (.s 30) [] (.seq (.reg [
  ⟨.bd [(.i .i64 (0:Int)),(.u64 (0:UInt64)),(.u64 (0:UInt64)),(.u64 (0:UInt64)),(.s ([]:Str)),(.s ([]:Str)),(.i .i64 (0:Int)),(.sl .bs ([]:List UInt8)),(.sl .fl ([]:List Fld))] [],[],[31],none⟩,
  ⟨.k .mv,[.s 2],[32],none⟩,
  ⟨.k .mv,[.s 8],[33],none⟩,
  ⟨.bl .is 1,[.s 33],[34],none⟩,
  ⟨.k (.ppa 999999 106 1 8),[.s 32,.s 34,.s (lk 999999),.s (lk 106)],[35,lk 999999,lk 106],none⟩,
  ⟨.k (.pcall 27 1 1 0 106 1),[.s 35,.s (lk 106)],[36],none⟩,
  ⟨.k (.st 1071 0 9),[.s 6,.s 1071,.s 31],[1071],none⟩,
  ⟨.k (.st 1072 0 3),[.s 7,.s 1072,.s 36],[1072],none⟩]) none .ret) .skip)) none (.seq (.reg [
  ⟨.k .mv,[.s 1],[38],none⟩,
  ⟨.k .mv,[.s 8],[39],none⟩,
  ⟨.k (.bin .add),[.s 39,.c (.i .i64 (1:Int))],[40],none⟩,
  ⟨.k (.ix 5),[.s 38,.s 40],[41],none⟩,
  ⟨.k (.lr 5 true),[.s 41],[42],none⟩,
  ⟨.k .mv,[.s 2],[43],none⟩,
  ⟨.k .mv,[.s 8],[44],none⟩,
  ⟨.k (.bin .add),[.s 44,.c (.i .i64 (1:Int))],[45],none⟩,
  ⟨.bl .is 1,[.s 45],[46],none⟩,
  ⟨.k (.ppa 999999 110 1 8),[.s 43,.s 46,.s (lk 999999),.s (lk 110)],[47,lk 999999,lk 110],none⟩,
  ⟨.k (.pcall 44 2 2 1 110 1),[.s 42,.s 47,.s (lk 110)],[48],none⟩,
  ⟨.k .mv,[.s 48],[37],none⟩,
  ⟨.k (.ex 0),[.s 37],[49],none⟩,
  ⟨.k (.ex 1),[.s 37],[50],none⟩,
  ⟨.al 1073 [(.i .i64 (0:Int)),(.u64 (0:UInt64)),(.u64 (0:UInt64)),(.u64 (0:UInt64)),(.s ([]:Str)),(.s ([]:Str)),(.i .i64 (0:Int)),(.sl .bs ([]:List UInt8)),(.sl .fl ([]:List Fld))] [],[.s 1073],[9,1073],none⟩,
  ⟨.al 1074 [(.i .i64 (0:Int)),(.i .i64 (0:Int)),(.sl .is ([]:List Int))] [],[.s 1074],[10,1074],none⟩,
  ⟨.k (.st 1073 0 9),[.s 9,.s 1073,.s 49],[1073],none⟩,
  ⟨.k (.st 1074 0 3),[.s 10,.s 1074,.s 50],[1074],none⟩]) none (.seq (.seq (.reg [
  ⟨.k (.fa 1074 0 0),[.s 10],[51],none⟩,
  ⟨.k (.ld 1074 0 1 false),[.s 51,.s 1074],[52],none⟩,
  ⟨.k (.bin .neq),[.s 52,.c (.i .i64 (0:Int))],[53],none⟩]) none (.cond (.s 53) [] (.seq (.reg [
  ⟨.bd [(.i .i64 (0:Int)),(.u64 (0:UInt64)),(.u64 (0:UInt64)),(.u64 (0:UInt64)),(.s ([]:Str)),(.s ([]:Str)),(.i .i64 (0:Int)),(.sl .bs ([]:List UInt8)),(.sl .fl ([]:List Fld))] [],[],[54],none⟩,
  ⟨.k (.ld 1074 0 3 true),[.s 10,.s 1074],[55],none⟩,
  ⟨.k (.st 1071 0 9),[.s 6,.s 1071,.s 54],[1071],none⟩,
  ⟨.k (.st 1072 0 3),[.s 7,.s 1072,.s 55],[1072],none⟩]) none .ret) .skip)) none (.reg [
  ⟨.k (.fa 1070 0 8),[.s 3],[56],none⟩,
  ⟨.k (.ld 1070 8 1 false),[.s 56,.s 1070],[57],none⟩,
  ⟨.k .mv,[.s 1],[58],none⟩,
  ⟨.k .mv,[.s 8],[59],none⟩,
  ⟨.k (.ix 5),[.s 58,.s 59],[60],none⟩,
  ⟨.k (.fr 3 1 false),[.s 60],[61],none⟩,
  ⟨.k (.lr 1 false),[.s 61],[62],none⟩,
  ⟨.k (.ld 1073 0 9 true),[.s 9,.s 1073],[63],none⟩,
  ⟨.bd [(.s ([]:Str)),(.i .i64 (0:Int)),(.u64 (0:UInt64)),(.u64 (0:UInt64)),(.u64 (0:UInt64)),(.s ([]:Str)),(.s ([]:Str)),(.i .i64 (0:Int)),(.sl .bs ([]:List UInt8)),(.sl .fl ([]:List Fld))] [(0,1),(1,9)],[.s 62,.s 63],[64],none⟩,
  ⟨.bl .fl 1,[.s 64],[65],none⟩,
  ⟨.k (.ap 101 117 10 136),[.s 57,.s 65,.s (lk 101),.s (lk 117)],[66,lk 101,lk 117],none⟩,
  ⟨.k (.fa 1070 0 8),[.s 3],[67],none⟩,
  ⟨.k (.st 1070 8 1),[.s 67,.s 1070,.s 66],[1070],none⟩]))))) none (.reg [
  ⟨.k .mv,[.s 8],[15],none⟩,
  ⟨.k (.bin .add),[.s 15,.c (.i .i64 (2:Int))],[16],none⟩,
  ⟨.k .mv,[.s 16],[8],none⟩]))
def db_with.m:TM := .seq (.reg [
  ⟨.bxt 1070 [(8,101,.fl)],[.s 0,.s 1070,.s (lk 101)],[3,1070,lk 101],none⟩,
  ⟨.al 1071 [(.i .i64 (0:Int)),(.u64 (0:UInt64)),(.u64 (0:UInt64)),(.u64 (0:UInt64)),(.s ([]:Str)),(.s ([]:Str)),(.i .i64 (0:Int)),(.sl .bs ([]:List UInt8)),(.sl .fl ([]:List Fld))] [],[.s 1071],[6,1071],none⟩,
  ⟨.al 1072 [(.i .i64 (0:Int)),(.i .i64 (0:Int)),(.sl .is ([]:List Int))] [],[.s 1072],[7,1072],none⟩]) none (.seq (.seq (.reg [
  ⟨.k .mv,[.c (.i .i64 (0:Int))],[8],none⟩]) none (.block 0 [(3,.ptr 1070 0),(6,.ptr 1071 0),(7,.ptr 1072 0),(1070,.cl [(8,101,10)]),(1071,.cl []),(1072,.cl []),(lk 101,.live 10),(lk 999999,.pv 1)] (.loop [1,2,3,6,7,8,1070,1071,1072,lk 999999] [(2,.tip 999999 1),(3,.ptr 1070 0),(6,.ptr 1071 0),(7,.ptr 1072 0),(1070,.cl [(8,101,10)]),(1071,.cl []),(1072,.cl []),(lk 101,.live 10),(lk 999999,.pv 1)] db_with.m1))) none (.seq (.reg [
  ⟨.k (.ld 1070 0 9 true),[.s 3,.s 1070],[68],none⟩,
  ⟨.bd [(.i .i64 (0:Int)),(.i .i64 (0:Int)),(.sl .is ([]:List Int))] [],[],[69],none⟩,
  ⟨.stt 1071 0 9 [(7,118,.bs)],[.s 6,.s 1071,.s 68,.s (lk 118)],[1071,lk 118],none⟩,
  ⟨.k (.st 1072 0 3),[.s 7,.s 1072,.s 69],[1072],none⟩]) none .ret))
def db_with.d:TFD:={ np:=3,m:=db_with.m,ref:=none,tips:=[],res:=[.c 6 1071 9 true,.c 7 1072 3 true],own:=[],new:=none,tnew:=[],ps:=some (2,999999,1) }
noncomputable def db_with.F (n:Nat) (v:Val) (l:List Itm) (path:List Int):Option (List TV):=db_with.d.run (db_with.E n) [(.ag [(.i .i64 (Val.kind v)),(.u64 (Val.bits v)),(.u64 (Val.high v)),(.u64 (Val.low v)),(.s (Val.text v)),(.s (Val.more v)),(.i .i64 (Val.sub v)),(.c (.slice none 0 0)),(.c (.slice none 0 0))]),(.sl .il l),(.sl .is path)]
noncomputable def db_with.k1 (n:Nat):Cont (List TV):=seqK (ev _ (db_with.E n) (.seq (.reg [
  ⟨.k (.ld 1070 0 9 true),[.s 3,.s 1070],[68],none⟩,
  ⟨.bd [(.i .i64 (0:Int)),(.i .i64 (0:Int)),(.sl .is ([]:List Int))] [],[],[69],none⟩,
  ⟨.stt 1071 0 9 [(7,118,.bs)],[.s 6,.s 1071,.s 68,.s (lk 118)],[1071,lk 118],none⟩,
  ⟨.k (.st 1072 0 3),[.s 7,.s 1072,.s 69],[1072],none⟩]) none .ret)) none (endK db_with.d)
noncomputable def db_with.l1 (n:Nat) (x0:List Itm) (x1:Int) (x2:Int) (x3:UInt64) (x4:UInt64) (x5:UInt64) (x6:Str) (x7:Str) (x8:Int) (x9:List Fld) (x10:Val) (x11:Flt) (x12:List Int):Option (List TV):=loopL (evO _ (db_with.E n) db_with.m1) isN [1,2,3,6,7,8,1070,1071,1072,lk 999999] (headT [1,2,3,6,7,8,1070,1071,1072,lk 999999] [(.sl .il x0),.pt,.pt,.pt,.pt,(.i .i64 x1),(.ag [(.i .i64 x2),(.u64 x3),(.u64 x4),(.u64 x5),(.s x6),(.s x7),(.i .i64 x8),(.c (.slice none 0 0)),(.sl .fl x9)]),(.ag (Val.cells x10)),(.ag (Flt.cells x11)),(.sl .is x12)]) (blockK 0 (db_with.k1 n))
theorem db_with.l1_in (n:Nat) (x0:List Itm) (x1:Int) (x2:Int) (x3:UInt64) (x4:UInt64) (x5:UInt64) (x6:Str) (x7:Str) (x8:Int) (x9:List Fld) (x10:Val) (x11:Flt) (x12:List Int) {ρ:Option (List TV)} (K:∀(v1:Int) (h1:v1=(Itm.kind (List.getD x0 (x1).toNat (STy.dflt .il)))) (v2:Bool) (h2:v2=(!(!decide (v1=(4:Int))))) (v3:Str) (h3:v3=(Itm.text (List.getD x0 (x1).toNat (STy.dflt .il)))) (v4:Bool) (h4:v4=(cond (!decide (v1=(4:Int))) true (decide (0≤Lib.indexByte v3 ((([0]:Str)).getD 0 0))))) (v5:Flt) (h5:v5=((Flt.mk 12 0 ((x12++([x1]:List Int)))))) (v6:Int) (h6:v6=(IntKind.i64.wrap (x1+(1:Int)))) (v7:Val) (h7:v7=(Db.Got.val (Db.value (Itm.of (Itm.val (List.getD x0 (v6).toNat (STy.dflt .il)))) ((x12++([v6]:List Int)))))) (v8:Flt) (h8:v8=(Db.Got.flt (Db.value (Itm.of (Itm.val (List.getD x0 (v6).toNat (STy.dflt .il)))) ((x12++([v6]:List Int)))))) (v9:List Fld) (h9:v9=([(Fld.mk v3 (Val.kind v7) (Val.bits v7) (Val.high v7) (Val.low v7) (Val.text v7) (Val.more v7) (Val.sub v7) (Val.bytes v7) (Val.kids v7))]:List Fld)) (v10:Int) (h10:v10=(IntKind.i64.wrap (x1+(2:Int)))),cond (decide (x1<((x0).length:Int)))
  (ck (idxOK x1 (x0).length) (ck (!v2 || ((v2&&v2)&&(idxOK x1 (x0).length))) (ck (!v2 || v2) (ck (!v2 || v2) (ck (!v2 || (v2&&(decide ((([0]:Str)).length=1)))) (ck ((!decide (v1=(4:Int))) || v2) (cond v4
  (ck (apOK ((x12).length+(([x1]:List Int)).length) 8) (ck (decide ((((x12++([x1]:List Int)))).length≤1099511627776)) (some [(.ag [(.i .i64 (0:Int)),(.u64 (0:UInt64)),(.u64 (0:UInt64)),(.u64 (0:UInt64)),(.s ([]:Str)),(.s ([]:Str)),(.i .i64 (0:Int)),(.sl .bs ([]:List UInt8)),(.sl .fl ([]:List Fld))]),(.ag (Flt.cells v5)),(.sl .is x12)])))
  (ck (idxOK v6 (x0).length) (ck (apOK ((x12).length+(([v6]:List Int)).length) 8) (ck ((decide (Itm.bulk (Itm.of (Itm.val (List.getD x0 (v6).toNat (STy.dflt .il))))+(((x12++([v6]:List Int)))).length≤1073741824)&&decide (Cb.chk (Itm.of (Itm.val (List.getD x0 (v6).toNat (STy.dflt .il))))=0))&&decide ((2 * Itm.bulk (Itm.of (Itm.val (List.getD x0 (v6).toNat (STy.dflt .il))))+1)<n)) (cond (!decide ((Flt.err v8)=(0:Int)))
  (some [(.ag [(.i .i64 (0:Int)),(.u64 (0:UInt64)),(.u64 (0:UInt64)),(.u64 (0:UInt64)),(.s ([]:Str)),(.s ([]:Str)),(.i .i64 (0:Int)),(.sl .bs ([]:List UInt8)),(.sl .fl ([]:List Fld))]),(.ag (Flt.cells v8)),(.sl .is x12)])
  (ck (idxOK x1 (x0).length) (ck (apOK ((x9).length+(v9).length) 136) (db_with.l1 n x0 v10 x2 x3 x4 x5 x6 x7 x8 (x9++v9) x10 x11 x12))))))))))))))
  (some [(.ag [(.i .i64 x2),(.u64 x3),(.u64 x4),(.u64 x5),(.s x6),(.s x7),(.i .i64 x8),(.sl .bs ([]:List UInt8)),(.sl .fl x9)]),(.ag [(.i .i64 (0:Int)),(.i .i64 (0:Int)),(.sl .is ([]:List Int))]),(.sl .is x12)])=ρ):db_with.l1 n x0 x1 x2 x3 x4 x5 x6 x7 x8 x9 x10 x11 x12=ρ:=((ev_loop _ _ _ _ _ _).trans (by kernel_rfl)).trans (K _ rfl _ rfl _ rfl _ rfl _ rfl _ rfl _ rfl _ rfl _ rfl _ rfl)
theorem db_with.F_eq (n:Nat) (v:Val) (l:List Itm) (path:List Int):db_with.F n v l path=db_with.l1 n l (0:Int) (Val.kind v) (Val.bits v) (Val.high v) (Val.low v) (Val.text v) (Val.more v) (Val.sub v) ([]:List Fld) (Val.mk (0:Int) (0:UInt64) (0:UInt64) (0:UInt64) ([]:Str) ([]:Str) (0:Int) ([]:List UInt8) ([]:List Fld)) (Flt.mk (0:Int) (0:Int) ([]:List Int)) path:=by kernel_rfl
theorem db_with.chk (n:Nat):((Go.Proofs.Tryd.prog.funcs[28]?).any fun fn=>chkF Go.Proofs.Tryd.prog (fun k=>((envL trydbGl (db_with.env n)).fs k).2) fn db_with.d.erase)=true:=by kernel_rfl
end
noncomputable section
def db_value.env (n:Nat):List (Nat × (Ctr × FSig)):=[(27,(db_none.c,db_none.sg)),(28,(db_with.cn n,db_with.sg)),(44,(db_value.cn n,db_value.sg)),(69,(clone_bs.c,clone_bs.sg)),(70,(db_number.c,db_number.sg)),(71,(sc_Itoa.c,sc_Itoa.sg)),(72,(db_tag.cn n,db_tag.sg))]
def db_value.E (n:Nat):TEnv:=envL trydbGl (db_value.env n)
def db_value.m1:TM := .seq (.reg [
  ⟨.k (.bin .lss),[.s 82,.s 81],[83],none⟩]) none (.seq (.cond (.s 83) [] .skip (.exit 1)) none (.seq (.block 2 [(1,.tip 999999 1),(4,.ptr 1124 0),(5,.ptr 1125 0),(8,.ptr 1126 0),(1124,.cl []),(1125,.cl []),(1126,.cl [(8,130,10)]),(lk 130,.live 10),(lk 999999,.pv 1)] (.seq (.reg [
  ⟨.k .mv,[.s 82],[84],none⟩,
  ⟨.k (.ix 5),[.s 80,.s 82],[85],none⟩,
  ⟨.k (.lr 5 true),[.s 85],[86],none⟩,
  ⟨.al 1127 [(.i .i64 (0:Int)),(.u64 (0:UInt64)),(.sl .bs ([]:List UInt8)),(.s ([]:Str)),(.sl .il ([]:List Itm))] [],[.s 1127],[10,1127],none⟩,
  ⟨.k .mv,[.s 84],[9],none⟩,
  ⟨.k (.st 1127 0 5),[.s 10,.s 1127,.s 86],[1127],none⟩]) none (.seq (.reg [
  ⟨.k (.ld 1127 0 5 true),[.s 10,.s 1127],[88],none⟩,
  ⟨.k .mv,[.s 1],[89],none⟩,
  ⟨.k .mv,[.s 9],[90],none⟩,
  ⟨.bl .is 1,[.s 90],[91],none⟩,
  ⟨.k (.ppa 999999 123 1 8),[.s 89,.s 91,.s (lk 999999),.s (lk 123)],[92,lk 999999,lk 123],none⟩,
  ⟨.k (.pcall 44 2 2 1 123 1),[.s 88,.s 92,.s (lk 123)],[93],none⟩,
  ⟨.k .mv,[.s 93],[87],none⟩,
  ⟨.k (.ex 0),[.s 87],[94],none⟩,
  ⟨.k (.ex 1),[.s 87],[95],none⟩,
  ⟨.al 1128 [(.i .i64 (0:Int)),(.u64 (0:UInt64)),(.u64 (0:UInt64)),(.u64 (0:UInt64)),(.s ([]:Str)),(.s ([]:Str)),(.i .i64 (0:Int)),(.sl .bs ([]:List UInt8)),(.sl .fl ([]:List Fld))] [],[.s 1128],[11,1128],none⟩,
  ⟨.al 1129 [(.i .i64 (0:Int)),(.i .i64 (0:Int)),(.sl .is ([]:List Int))] [],[.s 1129],[12,1129],none⟩,
  ⟨.k (.st 1128 0 9),[.s 11,.s 1128,.s 94],[1128],none⟩,
  ⟨.k (.st 1129 0 3),[.s 12,.s 1129,.s 95],[1129],none⟩]) none (.seq (.seq (.reg [
  ⟨.k (.fa 1129 0 0),[.s 12],[96],none⟩,
  ⟨.k (.ld 1129 0 1 false),[.s 96,.s 1129],[97],none⟩,
  ⟨.k (.bin .neq),[.s 97,.c (.i .i64 (0:Int))],[98],none⟩]) none (.cond (.s 98) [] (.seq (.reg [
  ⟨.bd [(.i .i64 (0:Int)),(.u64 (0:UInt64)),(.u64 (0:UInt64)),(.u64 (0:UInt64)),(.s ([]:Str)),(.s ([]:Str)),(.i .i64 (0:Int)),(.sl .bs ([]:List UInt8)),(.sl .fl ([]:List Fld))] [],[],[99],none⟩,
  ⟨.k (.ld 1129 0 3 true),[.s 12,.s 1129],[100],none⟩,
  ⟨.k (.st 1124 0 9),[.s 4,.s 1124,.s 99],[1124],none⟩,
  ⟨.k (.st 1125 0 3),[.s 5,.s 1125,.s 100],[1125],none⟩]) none .ret) .skip)) none (.reg [
  ⟨.k (.fa 1126 0 8),[.s 8],[101],none⟩,
  ⟨.k (.ld 1126 8 1 false),[.s 101,.s 1126],[102],none⟩,
  ⟨.k .mv,[.s 9],[103],none⟩,
  ⟨.k (.call 71 (.plain 1 1)),[.s 103],[104],none⟩,
  ⟨.k (.ld 1128 0 9 true),[.s 11,.s 1128],[105],none⟩,
  ⟨.bd [(.s ([]:Str)),(.i .i64 (0:Int)),(.u64 (0:UInt64)),(.u64 (0:UInt64)),(.u64 (0:UInt64)),(.s ([]:Str)),(.s ([]:Str)),(.i .i64 (0:Int)),(.sl .bs ([]:List UInt8)),(.sl .fl ([]:List Fld))] [(0,1),(1,9)],[.s 104,.s 105],[106],none⟩,
  ⟨.bl .fl 1,[.s 106],[107],none⟩,
  ⟨.k (.ap 119 130 10 136),[.s 102,.s 107,.s (lk 119),.s (lk 130)],[108,lk 119,lk 130],none⟩,
  ⟨.k (.fa 1126 0 8),[.s 8],[109],none⟩,
  ⟨.k (.st 1126 8 1),[.s 109,.s 1126,.s 108],[1126],none⟩]))))) none (.reg [
  ⟨.k (.bin .add),[.s 82,.c (.i .i64 (1:Int))],[110],none⟩,
  ⟨.k .mv,[.s 110],[82],none⟩])))
def db_value.m2:TM := .cond (.s 46) [(1,.tip 999999 1),(4,.ptr 1124 0),(5,.ptr 1125 0),(1124,.cl []),(1125,.cl []),(lk 999999,.pv 1)] (.seq (.reg [
  ⟨.k (.ld 1123 0 5 true),[.s 2,.s 1123],[50],none⟩,
  ⟨.k (.call 70 (.plain 1 2)),[.s 50],[51],none⟩,
  ⟨.k .mv,[.s 51],[49],none⟩,
  ⟨.k (.ex 0),[.s 49],[52],none⟩,
  ⟨.k (.ex 1),[.s 49],[53],none⟩,
  ⟨.k .mv,[.s 52],[6],none⟩,
  ⟨.k .mv,[.s 53],[7],none⟩]) none (.seq (.reg [
  ⟨.k .mv,[.s 7],[54],none⟩,
  ⟨.k .mv,[.s 54],[55],none⟩,
  ⟨.k .mv,[.s 6],[56],some (55,true)⟩,
  ⟨.k .mv,[.s 6],[57],some (55,true)⟩,
  ⟨.k (.ci .i32),[.s 57],[58],some (55,true)⟩,
  ⟨.k (.ci .i64),[.s 58],[59],some (55,true)⟩,
  ⟨.k (.bin .eql),[.s 56,.s 59],[60],some (55,true)⟩,
  ⟨.k .pick,[.s 55,.s 60,.c (.b false)],[61],none⟩]) none (.cond (.s 61) [] (.seq (.reg [
  ⟨.k .mv,[.s 6],[62],none⟩,
  ⟨.k (.ci .u32),[.s 62],[63],none⟩,
  ⟨.k (.ci .u64),[.s 63],[64],none⟩,
  ⟨.bd [(.i .i64 (0:Int)),(.u64 (0:UInt64)),(.u64 (0:UInt64)),(.u64 (0:UInt64)),(.s ([]:Str)),(.s ([]:Str)),(.i .i64 (0:Int)),(.sl .bs ([]:List UInt8)),(.sl .fl ([]:List Fld))] [(0,1),(1,1)],[.c (.i .i64 (16:Int)),.s 64],[65],none⟩,
  ⟨.bd [(.i .i64 (0:Int)),(.i .i64 (0:Int)),(.sl .is ([]:List Int))] [],[],[66],none⟩,
  ⟨.k (.st 1124 0 9),[.s 4,.s 1124,.s 65],[1124],none⟩,
  ⟨.k (.st 1125 0 3),[.s 5,.s 1125,.s 66],[1125],none⟩]) none .ret) .skip))) (.seq (.reg [
  ⟨.k (.bin .eql),[.s 14,.c (.i .i64 (6:Int))],[68],none⟩,
  ⟨.k .mv,[.s 68],[67],none⟩]) none (.cond (.s 67) [] (.seq (.reg [
  ⟨.bd [(.i .i64 (0:Int)),(.u64 (0:UInt64)),(.u64 (0:UInt64)),(.u64 (0:UInt64)),(.s ([]:Str)),(.s ([]:Str)),(.i .i64 (0:Int)),(.c (.slice none 0 0)),(.c (.slice none 0 0))] [(0,1)],[.c (.i .i64 (3:Int))],[69],none⟩,
  ⟨.k (.fa 1123 0 4),[.s 2],[70],none⟩,
  ⟨.k (.ld 1123 4 1 false),[.s 70,.s 1123],[71],none⟩,
  ⟨.k .mv,[.s 1],[72],none⟩,
  ⟨.k (.pcall 28 3 2 2 999999 1),[.s 69,.s 71,.s 72,.s (lk 999999)],[73],none⟩,
  ⟨.k (.ex 0),[.s 73],[74],none⟩,
  ⟨.k (.ex 1),[.s 73],[75],none⟩,
  ⟨.k (.st 1124 0 9),[.s 4,.s 1124,.s 74],[1124],none⟩,
  ⟨.k (.st 1125 0 3),[.s 5,.s 1125,.s 75],[1125],none⟩]) none .ret) (.seq (.reg [
  ⟨.k (.bin .eql),[.s 14,.c (.i .i64 (5:Int))],[77],none⟩,
  ⟨.k .mv,[.s 77],[76],none⟩]) none (.cond (.s 76) [] (.seq (.reg [
  ⟨.bd [(.i .i64 (0:Int)),(.u64 (0:UInt64)),(.u64 (0:UInt64)),(.u64 (0:UInt64)),(.s ([]:Str)),(.s ([]:Str)),(.i .i64 (0:Int)),(.c (.slice none 0 0)),(.c (.slice none 0 0))] [(0,1)],[.c (.i .i64 (4:Int))],[78],none⟩,
  ⟨.al 1126 [(.i .i64 (0:Int)),(.u64 (0:UInt64)),(.u64 (0:UInt64)),(.u64 (0:UInt64)),(.s ([]:Str)),(.s ([]:Str)),(.i .i64 (0:Int)),(.sl .bs ([]:List UInt8)),(.sl .fl ([]:List Fld))] [],[.s 1126],[8,1126],none⟩,
  ⟨.stt 1126 0 9 [(8,119,.fl)],[.s 8,.s 1126,.s 78,.s (lk 119)],[1126,lk 119],none⟩]) none (.seq (.seq (.reg [
  ⟨.k (.fa 1123 0 4),[.s 2],[79],none⟩,
  ⟨.k (.ld 1123 4 1 false),[.s 79,.s 1123],[80],none⟩,
  ⟨.k .len,[.s 80],[81],none⟩,
  ⟨.k .mv,[.c (.i .i64 (0:Int))],[82],none⟩]) none (.block 1 [(4,.ptr 1124 0),(5,.ptr 1125 0),(8,.ptr 1126 0),(1124,.cl []),(1125,.cl []),(1126,.cl [(8,119,10)]),(lk 119,.live 10),(lk 999999,.pv 1)] (.loop [1,4,5,8,80,81,82,1124,1125,1126,lk 999999] [(1,.tip 999999 1),(4,.ptr 1124 0),(5,.ptr 1125 0),(8,.ptr 1126 0),(1124,.cl []),(1125,.cl []),(1126,.cl [(8,119,10)]),(lk 119,.live 10),(lk 999999,.pv 1)] db_value.m1))) none (.seq (.reg [
  ⟨.k (.ld 1126 0 9 true),[.s 8,.s 1126],[111],none⟩,
  ⟨.bd [(.i .i64 (0:Int)),(.i .i64 (0:Int)),(.sl .is ([]:List Int))] [],[],[112],none⟩,
  ⟨.stt 1124 0 9 [(7,131,.bs)],[.s 4,.s 1124,.s 111,.s (lk 131)],[1124,lk 131],none⟩,
  ⟨.k (.st 1125 0 3),[.s 5,.s 1125,.s 112],[1125],none⟩]) none .ret))) (.seq (.reg [
  ⟨.k (.bin .eql),[.s 14,.c (.i .i64 (7:Int))],[114],none⟩,
  ⟨.k .mv,[.s 114],[113],none⟩]) none (.cond (.s 113) [] (.seq (.reg [
  ⟨.k (.ld 1123 0 5 true),[.s 2,.s 1123],[115],none⟩,
  ⟨.k .mv,[.s 1],[116],none⟩,
  ⟨.k (.pcall 72 2 2 1 999999 1),[.s 115,.s 116,.s (lk 999999)],[117],none⟩,
  ⟨.k (.ex 0),[.s 117],[118],none⟩,
  ⟨.k (.ex 1),[.s 117],[119],none⟩,
  ⟨.k (.st 1124 0 9),[.s 4,.s 1124,.s 118],[1124],none⟩,
  ⟨.k (.st 1125 0 3),[.s 5,.s 1125,.s 119],[1125],none⟩]) none .ret) .skip))))))
def db_value.m3:TM := .seq (.reg [
  ⟨.bd [(.i .i64 (0:Int)),(.u64 (0:UInt64)),(.u64 (0:UInt64)),(.u64 (0:UInt64)),(.s ([]:Str)),(.s ([]:Str)),(.i .i64 (0:Int)),(.sl .bs ([]:List UInt8)),(.sl .fl ([]:List Fld))] [],[],[120],none⟩,
  ⟨.k .mv,[.s 1],[121],none⟩,
  ⟨.k (.pcall 27 1 1 0 999999 1),[.s 121,.s (lk 999999)],[122],none⟩,
  ⟨.k (.st 1124 0 9),[.s 4,.s 1124,.s 120],[1124],none⟩,
  ⟨.k (.st 1125 0 3),[.s 5,.s 1125,.s 122],[1125],none⟩]) none .ret
def db_value.m:TM := .seq (.reg [
  ⟨.k (.bx 1123),[.s 0,.s 1123],[2,1123],none⟩,
  ⟨.al 1124 [(.i .i64 (0:Int)),(.u64 (0:UInt64)),(.u64 (0:UInt64)),(.u64 (0:UInt64)),(.s ([]:Str)),(.s ([]:Str)),(.i .i64 (0:Int)),(.sl .bs ([]:List UInt8)),(.sl .fl ([]:List Fld))] [],[.s 1124],[4,1124],none⟩,
  ⟨.al 1125 [(.i .i64 (0:Int)),(.i .i64 (0:Int)),(.sl .is ([]:List Int))] [],[.s 1125],[5,1125],none⟩]) none (.seq (.seq (.reg [
  ⟨.k (.fa 1123 0 0),[.s 2],[13],none⟩,
  ⟨.k (.ld 1123 0 1 false),[.s 13,.s 1123],[14],none⟩]) none (.block 0 [(1,.tip 999999 1),(4,.ptr 1124 0),(5,.ptr 1125 0),(1124,.cl []),(1125,.cl []),(lk 999999,.pv 1)] (.seq (.reg [
  ⟨.k (.bin .eql),[.s 14,.c (.i .i64 (9:Int))],[16],none⟩,
  ⟨.k .mv,[.s 16],[15],none⟩]) none (.cond (.s 15) [] (.seq (.reg [
  ⟨.k (.fa 1123 0 1),[.s 2],[17],none⟩,
  ⟨.k (.ld 1123 1 1 false),[.s 17,.s 1123],[18],none⟩,
  ⟨.bd [(.i .i64 (0:Int)),(.u64 (0:UInt64)),(.u64 (0:UInt64)),(.u64 (0:UInt64)),(.s ([]:Str)),(.s ([]:Str)),(.i .i64 (0:Int)),(.sl .bs ([]:List UInt8)),(.sl .fl ([]:List Fld))] [(0,1),(1,1)],[.c (.i .i64 (1:Int)),.s 18],[19],none⟩,
  ⟨.bd [(.i .i64 (0:Int)),(.i .i64 (0:Int)),(.sl .is ([]:List Int))] [],[],[20],none⟩,
  ⟨.k (.st 1124 0 9),[.s 4,.s 1124,.s 19],[1124],none⟩,
  ⟨.k (.st 1125 0 3),[.s 5,.s 1125,.s 20],[1125],none⟩]) none .ret) (.seq (.reg [
  ⟨.k (.bin .eql),[.s 14,.c (.i .i64 (4:Int))],[22],none⟩,
  ⟨.k .mv,[.s 22],[21],none⟩]) none (.cond (.s 21) [] (.seq (.reg [
  ⟨.k (.fa 1123 0 3),[.s 2],[23],none⟩,
  ⟨.k (.ld 1123 3 1 false),[.s 23,.s 1123],[24],none⟩,
  ⟨.bd [(.i .i64 (0:Int)),(.u64 (0:UInt64)),(.u64 (0:UInt64)),(.u64 (0:UInt64)),(.s ([]:Str)),(.s ([]:Str)),(.i .i64 (0:Int)),(.sl .bs ([]:List UInt8)),(.sl .fl ([]:List Fld))] [(0,1),(4,1)],[.c (.i .i64 (2:Int)),.s 24],[25],none⟩,
  ⟨.bd [(.i .i64 (0:Int)),(.i .i64 (0:Int)),(.sl .is ([]:List Int))] [],[],[26],none⟩,
  ⟨.k (.st 1124 0 9),[.s 4,.s 1124,.s 25],[1124],none⟩,
  ⟨.k (.st 1125 0 3),[.s 5,.s 1125,.s 26],[1125],none⟩]) none .ret) (.seq (.reg [
  ⟨.k (.bin .eql),[.s 14,.c (.i .i64 (3:Int))],[28],none⟩,
  ⟨.k .mv,[.s 28],[27],none⟩]) none (.cond (.s 27) [] (.seq (.reg [
  ⟨.k (.fa 1123 0 2),[.s 2],[29],none⟩,
  ⟨.k (.ld 1123 2 1 false),[.s 29,.s 1123],[30],none⟩,
  ⟨.k (.call 69 ⟨1,none,[],[],1,[(0,109,1)],none,[]⟩),[.s 30,.s (lk 109)],[31,lk 109],none⟩,
  ⟨.bd [(.i .i64 (0:Int)),(.u64 (0:UInt64)),(.u64 (0:UInt64)),(.u64 (0:UInt64)),(.s ([]:Str)),(.s ([]:Str)),(.i .i64 (0:Int)),(.sl .bs ([]:List UInt8)),(.sl .fl ([]:List Fld))] [(0,1),(7,1)],[.c (.i .i64 (5:Int)),.s 31],[32],none⟩,
  ⟨.bd [(.i .i64 (0:Int)),(.i .i64 (0:Int)),(.sl .is ([]:List Int))] [],[],[33],none⟩,
  ⟨.k (.st 1124 0 9),[.s 4,.s 1124,.s 32],[1124],none⟩,
  ⟨.k (.st 1125 0 3),[.s 5,.s 1125,.s 33],[1125],none⟩]) none .ret) (.seq (.reg [
  ⟨.k (.bin .eql),[.s 14,.c (.i .i64 (8:Int))],[35],none⟩,
  ⟨.k .mv,[.s 35],[34],none⟩]) none (.cond (.s 34) [] (.seq (.reg [
  ⟨.bd [(.i .i64 (0:Int)),(.u64 (0:UInt64)),(.u64 (0:UInt64)),(.u64 (0:UInt64)),(.s ([]:Str)),(.s ([]:Str)),(.i .i64 (0:Int)),(.sl .bs ([]:List UInt8)),(.sl .fl ([]:List Fld))] [(0,1)],[.c (.i .i64 (8:Int))],[36],none⟩,
  ⟨.bd [(.i .i64 (0:Int)),(.u64 (0:UInt64)),(.u64 (0:UInt64)),(.u64 (0:UInt64)),(.s ([]:Str)),(.s ([]:Str)),(.i .i64 (0:Int)),(.sl .bs ([]:List UInt8)),(.sl .fl ([]:List Fld))] [(0,1),(1,1)],[.c (.i .i64 (8:Int)),.c (.u64 (1:UInt64))],[37],none⟩,
  ⟨.bd [(.i .i64 (0:Int)),(.u64 (0:UInt64)),(.u64 (0:UInt64)),(.u64 (0:UInt64)),(.s ([]:Str)),(.s ([]:Str)),(.i .i64 (0:Int)),(.sl .bs ([]:List UInt8)),(.sl .fl ([]:List Fld))] [(0,1)],[.c (.i .i64 (10:Int))],[38],none⟩,
  ⟨.bd [(.i .i64 (0:Int)),(.u64 (0:UInt64)),(.u64 (0:UInt64)),(.u64 (0:UInt64)),(.s ([]:Str)),(.s ([]:Str)),(.i .i64 (0:Int)),(.sl .bs ([]:List UInt8)),(.sl .fl ([]:List Fld))] [(0,1)],[.c (.i .i64 (6:Int))],[39],none⟩,
  ⟨.bd [(.i .i64 (0:Int)),(.u64 (0:UInt64)),(.u64 (0:UInt64)),(.u64 (0:UInt64)),(.s ([]:Str)),(.s ([]:Str)),(.i .i64 (0:Int)),(.sl .bs ([]:List UInt8)),(.sl .fl ([]:List Fld)),(.i .i64 (0:Int)),(.u64 (0:UInt64)),(.u64 (0:UInt64)),(.u64 (0:UInt64)),(.s ([]:Str)),(.s ([]:Str)),(.i .i64 (0:Int)),(.sl .bs ([]:List UInt8)),(.sl .fl ([]:List Fld)),(.i .i64 (0:Int)),(.u64 (0:UInt64)),(.u64 (0:UInt64)),(.u64 (0:UInt64)),(.s ([]:Str)),(.s ([]:Str)),(.i .i64 (0:Int)),(.sl .bs ([]:List UInt8)),(.sl .fl ([]:List Fld)),(.i .i64 (0:Int)),(.u64 (0:UInt64)),(.u64 (0:UInt64)),(.u64 (0:UInt64)),(.s ([]:Str)),(.s ([]:Str)),(.i .i64 (0:Int)),(.sl .bs ([]:List UInt8)),(.sl .fl ([]:List Fld))] [(0,9),(9,9),(18,9),(27,9)],[.s 36,.s 37,.s 38,.s 39],[40],none⟩,
  ⟨.k (.fa 1123 0 1),[.s 2],[41],none⟩,
  ⟨.k (.ld 1123 1 1 false),[.s 41,.s 1123],[42],none⟩,
  ⟨.k (.bin .sub),[.s 42,.c (.u64 (20:UInt64))],[43],none⟩,
  ⟨.k (.ai 4 9 true),[.s 40,.s 43],[44],none⟩,
  ⟨.bd [(.i .i64 (0:Int)),(.i .i64 (0:Int)),(.sl .is ([]:List Int))] [],[],[45],none⟩,
  ⟨.k (.st 1124 0 9),[.s 4,.s 1124,.s 44],[1124],none⟩,
  ⟨.k (.st 1125 0 3),[.s 5,.s 1125,.s 45],[1125],none⟩]) none .ret) (.seq (.seq (.reg [
  ⟨.k (.bin .eql),[.s 14,.c (.i .i64 (1:Int))],[47],none⟩,
  ⟨.k .mv,[.s 47],[46],none⟩]) none (.cond (.s 46) [(1,.tip 999999 1),(2,.ptr 1123 0),(4,.ptr 1124 0),(5,.ptr 1125 0),(1123,.cl []),(1124,.cl []),(1125,.cl []),(lk 999999,.pv 1)] .skip (.reg [
  ⟨.k (.bin .eql),[.s 14,.c (.i .i64 (2:Int))],[48],none⟩,
  ⟨.k .mv,[.s 48],[46],none⟩]))) (some [1,2,4,5,14,46,1123,1124,1125,lk 999999]) db_value.m2))))))))))) (some [1,4,5,1124,1125,lk 999999]) db_value.m3)
def db_value.d:TFD:={ np:=2,m:=db_value.m,ref:=none,tips:=[],res:=[.c 4 1124 9 true,.c 5 1125 3 true],own:=[],new:=none,tnew:=[],ps:=some (1,999999,1) }
noncomputable def db_value.F (n:Nat) (it:Itv) (path:List Int):Option (List TV):=db_value.d.run (db_value.E n) [(.ag (Itv.cells it)),(.sl .is path)]
noncomputable def db_value.k1 (n:Nat):Cont (List TV):=seqK (evO _ (db_value.E n) db_value.m3) (some [1,4,5,1124,1125,lk 999999]) (endK db_value.d)
noncomputable def db_value.k2 (n:Nat):Cont (List TV):=seqK (ev _ (db_value.E n) (.seq (.reg [
  ⟨.k (.ld 1126 0 9 true),[.s 8,.s 1126],[111],none⟩,
  ⟨.bd [(.i .i64 (0:Int)),(.i .i64 (0:Int)),(.sl .is ([]:List Int))] [],[],[112],none⟩,
  ⟨.stt 1124 0 9 [(7,131,.bs)],[.s 4,.s 1124,.s 111,.s (lk 131)],[1124,lk 131],none⟩,
  ⟨.k (.st 1125 0 3),[.s 5,.s 1125,.s 112],[1125],none⟩]) none .ret)) none (blockK 0 (db_value.k1 n))
noncomputable def db_value.j1 (n:Nat) (x0:Int) (x1:Bool) (x2:Itv) (x3:Val) (x4:Flt) (x5:List Int):Option (List TV):=evO _ (db_value.E n) db_value.m2 (headT [1,2,4,5,14,46,1123,1124,1125,lk 999999] [.pt,.pt,.pt,.pt,(.i .i64 x0),(.b x1),(.ag (Itv.cells x2)),(.ag (Val.cells x3)),(.ag (Flt.cells x4)),(.sl .is x5)]) (blockK 0 (db_value.k1 n))
noncomputable def db_value.j2 (n:Nat) (x0:Val) (x1:Flt) (x2:List Int):Option (List TV):=evO _ (db_value.E n) db_value.m3 (headT [1,4,5,1124,1125,lk 999999] [.pt,.pt,.pt,(.ag (Val.cells x0)),(.ag (Flt.cells x1)),(.sl .is x2)]) (endK db_value.d)
noncomputable def db_value.l3 (n:Nat) (x0:List Itm) (x1:Int) (x2:Int) (x3:Val) (x4:Flt) (x5:Int) (x6:UInt64) (x7:UInt64) (x8:UInt64) (x9:Str) (x10:Str) (x11:Int) (x12:List Fld) (x13:List Int):Option (List TV):=loopL (evO _ (db_value.E n) db_value.m1) isN [1,4,5,8,80,81,82,1124,1125,1126,lk 999999] (headT [1,4,5,8,80,81,82,1124,1125,1126,lk 999999] [.pt,.pt,.pt,.pt,(.sl .il x0),(.i .i64 x1),(.i .i64 x2),(.ag (Val.cells x3)),(.ag (Flt.cells x4)),(.ag [(.i .i64 x5),(.u64 x6),(.u64 x7),(.u64 x8),(.s x9),(.s x10),(.i .i64 x11),(.c (.slice none 0 0)),(.sl .fl x12)]),(.sl .is x13)]) (blockK 1 (db_value.k2 n))
theorem db_value.j1_in (n:Nat) (x0:Int) (x1:Bool) (x2:Itv) (x3:Val) (x4:Flt) (x5:List Int) {ρ:Option (List TV)} (K:∀(v1:Int) (h1:v1=((Db.number (Itm.of x2)).getD 0)) (v2:Bool) (h2:v2=((Db.number (Itm.of x2)).isSome)) (v3:Int) (h3:v3=(IntKind.i64.wrap (IntKind.i32.wrap v1))) (v4:Bool) (h4:v4=(cond v2 (decide (v1=v3)) false)) (v5:UInt64) (h5:v5=(UInt64.ofInt (((UInt32.ofInt v1)).toNat:Int))) (v6:Val) (h6:v6=(Db.Got.val (Db.Gots.got (Val.mk (3:Int) (0:UInt64) (0:UInt64) (0:UInt64) ([]:Str) ([]:Str) (0:Int) [] []) (Db.fields ((Itv.kids x2)) 0 x5)))) (v7:Flt) (h7:v7=(Db.Got.flt (Db.Gots.got (Val.mk (3:Int) (0:UInt64) (0:UInt64) (0:UInt64) ([]:Str) ([]:Str) (0:Int) [] []) (Db.fields ((Itv.kids x2)) 0 x5)))) (v8:Int) (h8:v8=(((Itv.kids x2)).length:Int)) (v9:Val) (h9:v9=(Db.Got.val (Db.value (Itm.of x2) x5))) (v10:Flt) (h10:v10=(Db.Got.flt (Db.value (Itm.of x2) x5))),cond x1
  (ck (!v2 || v2) (ck (!v2 || v2) (ck (!v2 || (v2&&v2)) (ck (!v2 || v2) (cond v4
  (some [(.ag [(.i .i64 (16:Int)),(.u64 v5),(.u64 (0:UInt64)),(.u64 (0:UInt64)),(.s ([]:Str)),(.s ([]:Str)),(.i .i64 (0:Int)),(.sl .bs ([]:List UInt8)),(.sl .fl ([]:List Fld))]),(.ag [(.i .i64 (0:Int)),(.i .i64 (0:Int)),(.sl .is ([]:List Int))]),(.sl .is x5)])
  (db_value.j2 n x3 x4 x5))))))
  (cond (decide (x0=(6:Int)))
  (ck ((decide (Itm.bulks ((Itv.kids x2))+(x5).length≤1073741824)&&decide (Cb.chks ((Itv.kids x2))=0∧(((Itv.kids x2))).length % 2=0))&&decide ((2 * Itm.bulks ((Itv.kids x2))+2)<n)) (some [(.ag (Val.cells v6)),(.ag (Flt.cells v7)),(.sl .is x5)]))
  (cond (decide (x0=(5:Int)))
  (db_value.l3 n (Itv.kids x2) v8 (0:Int) x3 x4 (4:Int) (0:UInt64) (0:UInt64) (0:UInt64) ([]:Str) ([]:Str) (0:Int) ([]:List Fld) x5)
  (cond (decide (x0=(7:Int)))
  (ck ((decide (Itm.bulk (Itm.of x2)+(x5).length≤1073741824)&&decide (Cb.chk (Itm.of x2)=0∧(x2).kind=7))&&decide ((2 * Itm.bulk (Itm.of x2))<n)) (some [(.ag (Val.cells v9)),(.ag (Flt.cells v10)),(.sl .is x5)]))
  (db_value.j2 n x3 x4 x5))))=ρ):db_value.j1 n x0 x1 x2 x3 x4 x5=ρ:=((congrFun (congrFun (ev_eq _ _) _) _).trans (by kernel_rfl)).trans (K _ rfl _ rfl _ rfl _ rfl _ rfl _ rfl _ rfl _ rfl _ rfl _ rfl)
theorem db_value.j2_eq (n:Nat) (x0:Val) (x1:Flt) (x2:List Int):db_value.j2 n x0 x1 x2=ck (decide ((x2).length≤1099511627776)) (some [(.ag [(.i .i64 (0:Int)),(.u64 (0:UInt64)),(.u64 (0:UInt64)),(.u64 (0:UInt64)),(.s ([]:Str)),(.s ([]:Str)),(.i .i64 (0:Int)),(.sl .bs ([]:List UInt8)),(.sl .fl ([]:List Fld))]),(.ag (Flt.cells ((Flt.mk 12 0 x2)))),(.sl .is x2)]):=((congrFun (congrFun (ev_eq _ _) _) _).trans (by kernel_rfl))
theorem db_value.l3_in (n:Nat) (x0:List Itm) (x1:Int) (x2:Int) (x3:Val) (x4:Flt) (x5:Int) (x6:UInt64) (x7:UInt64) (x8:UInt64) (x9:Str) (x10:Str) (x11:Int) (x12:List Fld) (x13:List Int) {ρ:Option (List TV)} (K:∀(v1:Val) (h1:v1=(Db.Got.val (Db.value (Itm.of (Itm.val (List.getD x0 (x2).toNat (STy.dflt .il)))) ((x13++([x2]:List Int)))))) (v2:Flt) (h2:v2=(Db.Got.flt (Db.value (Itm.of (Itm.val (List.getD x0 (x2).toNat (STy.dflt .il)))) ((x13++([x2]:List Int)))))) (v3:List Fld) (h3:v3=([(Fld.mk (Lib.itoa x2) (Val.kind v1) (Val.bits v1) (Val.high v1) (Val.low v1) (Val.text v1) (Val.more v1) (Val.sub v1) (Val.bytes v1) (Val.kids v1))]:List Fld)) (v4:Int) (h4:v4=(IntKind.i64.wrap (x2+(1:Int)))),cond (decide (x2<x1))
  (ck (idxOK x2 (x0).length) (ck (apOK ((x13).length+(([x2]:List Int)).length) 8) (ck ((decide (Itm.bulk (Itm.of (Itm.val (List.getD x0 (x2).toNat (STy.dflt .il))))+(((x13++([x2]:List Int)))).length≤1073741824)&&decide (Cb.chk (Itm.of (Itm.val (List.getD x0 (x2).toNat (STy.dflt .il))))=0))&&decide ((2 * Itm.bulk (Itm.of (Itm.val (List.getD x0 (x2).toNat (STy.dflt .il))))+1)<n)) (cond (!decide ((Flt.err v2)=(0:Int)))
  (some [(.ag [(.i .i64 (0:Int)),(.u64 (0:UInt64)),(.u64 (0:UInt64)),(.u64 (0:UInt64)),(.s ([]:Str)),(.s ([]:Str)),(.i .i64 (0:Int)),(.sl .bs ([]:List UInt8)),(.sl .fl ([]:List Fld))]),(.ag (Flt.cells v2)),(.sl .is x13)])
  (ck (decide (-9223372036854775808≤x2∧x2≤9223372036854775807)) (ck (apOK ((x12).length+(v3).length) 136) (db_value.l3 n x0 x1 v4 x3 x4 x5 x6 x7 x8 x9 x10 x11 (x12++v3) x13)))))))
  (some [(.ag [(.i .i64 x5),(.u64 x6),(.u64 x7),(.u64 x8),(.s x9),(.s x10),(.i .i64 x11),(.sl .bs ([]:List UInt8)),(.sl .fl x12)]),(.ag [(.i .i64 (0:Int)),(.i .i64 (0:Int)),(.sl .is ([]:List Int))]),(.sl .is x13)])=ρ):db_value.l3 n x0 x1 x2 x3 x4 x5 x6 x7 x8 x9 x10 x11 x12 x13=ρ:=((ev_loop _ _ _ _ _ _).trans (by kernel_rfl)).trans (K _ rfl _ rfl _ rfl _ rfl)
theorem db_value.F_in (n:Nat) (it:Itv) (path:List Int) {ρ:Option (List TV)} (K:∀(v1:Int) (h1:v1=(List.getD [(8:Int),(8:Int),(10:Int),(6:Int)] ((((((Itv.n it) - (20:UInt64))).toNat:Int)).toNat) (0:Int))) (v2:UInt64) (h2:v2=(List.getD [(0:UInt64),(1:UInt64),(0:UInt64),(0:UInt64)] ((((((Itv.n it) - (20:UInt64))).toNat:Int)).toNat) (0:UInt64))) (v3:UInt64) (h3:v3=(List.getD [(0:UInt64),(0:UInt64),(0:UInt64),(0:UInt64)] ((((((Itv.n it) - (20:UInt64))).toNat:Int)).toNat) (0:UInt64))) (v4:Str) (h4:v4=(List.getD [([]:Str),([]:Str),([]:Str),([]:Str)] ((((((Itv.n it) - (20:UInt64))).toNat:Int)).toNat) ([]:Str))) (v5:Int) (h5:v5=(List.getD [(0:Int),(0:Int),(0:Int),(0:Int)] ((((((Itv.n it) - (20:UInt64))).toNat:Int)).toNat) (0:Int))) (v6:List UInt8) (h6:v6=(List.getD ([([]:List UInt8),([]:List UInt8),([]:List UInt8),([]:List UInt8)]:List (List UInt8)) ((((((Itv.n it) - (20:UInt64))).toNat:Int)).toNat) [])) (v7:List Fld) (h7:v7=(List.getD ([([]:List Fld),([]:List Fld),([]:List Fld),([]:List Fld)]:List (List Fld)) ((((((Itv.n it) - (20:UInt64))).toNat:Int)).toNat) [])),cond (decide ((Itv.kind it)=(9:Int)))
  (some [(.ag [(.i .i64 (1:Int)),(.u64 (Itv.n it)),(.u64 (0:UInt64)),(.u64 (0:UInt64)),(.s ([]:Str)),(.s ([]:Str)),(.i .i64 (0:Int)),(.sl .bs ([]:List UInt8)),(.sl .fl ([]:List Fld))]),(.ag [(.i .i64 (0:Int)),(.i .i64 (0:Int)),(.sl .is ([]:List Int))]),(.sl .is path)])
  (cond (decide ((Itv.kind it)=(4:Int)))
  (some [(.ag [(.i .i64 (2:Int)),(.u64 (0:UInt64)),(.u64 (0:UInt64)),(.u64 (0:UInt64)),(.s (Itv.text it)),(.s ([]:Str)),(.i .i64 (0:Int)),(.sl .bs ([]:List UInt8)),(.sl .fl ([]:List Fld))]),(.ag [(.i .i64 (0:Int)),(.i .i64 (0:Int)),(.sl .is ([]:List Int))]),(.sl .is path)])
  (cond (decide ((Itv.kind it)=(3:Int)))
  (ck (apOK (((Itv.bytes it))).length 1) (some [(.ag [(.i .i64 (5:Int)),(.u64 (0:UInt64)),(.u64 (0:UInt64)),(.u64 (0:UInt64)),(.s ([]:Str)),(.s ([]:Str)),(.i .i64 (0:Int)),(.sl .bs (((Itv.bytes it)))),(.sl .fl ([]:List Fld))]),(.ag [(.i .i64 (0:Int)),(.i .i64 (0:Int)),(.sl .is ([]:List Int))]),(.sl .is path)]))
  (cond (decide ((Itv.kind it)=(8:Int)))
  (ck (idxOK ((((Itv.n it) - (20:UInt64))).toNat:Int) 4) (some [(.ag [(.i .i64 v1),(.u64 v2),(.u64 v3),(.u64 v3),(.s v4),(.s v4),(.i .i64 v5),(.sl .bs v6),(.sl .fl v7)]),(.ag [(.i .i64 (0:Int)),(.i .i64 (0:Int)),(.sl .is ([]:List Int))]),(.sl .is path)]))
  (cond (decide ((Itv.kind it)=(1:Int)))
  (db_value.j1 n (Itv.kind it) (decide ((Itv.kind it)=(1:Int))) it (Val.mk (0:Int) (0:UInt64) (0:UInt64) (0:UInt64) ([]:Str) ([]:Str) (0:Int) ([]:List UInt8) ([]:List Fld)) (Flt.mk (0:Int) (0:Int) ([]:List Int)) path)
  (db_value.j1 n (Itv.kind it) (decide ((Itv.kind it)=(2:Int))) it (Val.mk (0:Int) (0:UInt64) (0:UInt64) (0:UInt64) ([]:Str) ([]:Str) (0:Int) ([]:List UInt8) ([]:List Fld)) (Flt.mk (0:Int) (0:Int) ([]:List Int)) path)))))=ρ):db_value.F n it path=ρ:=Eq.trans (by kernel_rfl) (K _ rfl _ rfl _ rfl _ rfl _ rfl _ rfl _ rfl)
theorem db_value.chk (n:Nat):((Go.Proofs.Tryd.prog.funcs[44]?).any fun fn=>chkF Go.Proofs.Tryd.prog (fun k=>((envL trydbGl (db_value.env n)).fs k).2) fn db_value.d.erase)=true:=by kernel_rfl
end
noncomputable section
def db_tag.env (n:Nat):List (Nat × (Ctr × FSig)):=[(27,(db_none.c,db_none.sg)),(28,(db_with.cn n,db_with.sg)),(87,(db_regular.c,db_regular.sg)),(88,(db_kinds.c,db_kinds.sg)),(89,(db_small.c,db_small.sg))]
def db_tag.E (n:Nat):TEnv:=envL trydbGl (db_tag.env n)
def db_tag.m1:TM := .seq (.reg [
  ⟨.bd [(.i .i64 (0:Int)),(.u64 (0:UInt64)),(.u64 (0:UInt64)),(.u64 (0:UInt64)),(.s ([]:Str)),(.s ([]:Str)),(.i .i64 (0:Int)),(.sl .bs ([]:List UInt8)),(.sl .fl ([]:List Fld))] [],[],[66],none⟩,
  ⟨.k .mv,[.s 1],[67],none⟩,
  ⟨.k (.pcall 27 1 1 0 999999 1),[.s 67,.s (lk 999999)],[68],none⟩,
  ⟨.k (.st 1070 0 9),[.s 4,.s 1070,.s 66],[1070],none⟩,
  ⟨.k (.st 1071 0 3),[.s 5,.s 1071,.s 68],[1071],none⟩]) none .ret
def db_tag.m:TM := .seq (.reg [
  ⟨.k (.bx 1069),[.s 0,.s 1069],[2,1069],none⟩,
  ⟨.al 1070 [(.i .i64 (0:Int)),(.u64 (0:UInt64)),(.u64 (0:UInt64)),(.u64 (0:UInt64)),(.s ([]:Str)),(.s ([]:Str)),(.i .i64 (0:Int)),(.sl .bs ([]:List UInt8)),(.sl .fl ([]:List Fld))] [],[.s 1070],[4,1070],none⟩,
  ⟨.al 1071 [(.i .i64 (0:Int)),(.i .i64 (0:Int)),(.sl .is ([]:List Int))] [],[.s 1071],[5,1071],none⟩]) none (.seq (.reg [
  ⟨.k (.fa 1069 0 4),[.s 2],[9],none⟩,
  ⟨.k (.ld 1069 4 1 false),[.s 9,.s 1069],[10],none⟩,
  ⟨.k (.ix 5),[.s 10,.c (.i .i64 (0:Int))],[11],none⟩,
  ⟨.k (.lr 5 true),[.s 11],[12],none⟩,
  ⟨.al 1072 [(.i .i64 (0:Int)),(.u64 (0:UInt64)),(.sl .bs ([]:List UInt8)),(.s ([]:Str)),(.sl .il ([]:List Itm))] [],[.s 1072],[6,1072],none⟩,
  ⟨.k (.st 1072 0 5),[.s 6,.s 1072,.s 12],[1072],none⟩]) none (.seq (.seq (.reg [
  ⟨.k (.fa 1069 0 1),[.s 2],[13],none⟩,
  ⟨.k (.ld 1069 1 1 false),[.s 13,.s 1069],[14],none⟩]) none (.block 0 [(1,.tip 999999 1),(4,.ptr 1070 0),(5,.ptr 1071 0),(1070,.cl []),(1071,.cl []),(lk 999999,.pv 1)] (.seq (.reg [
  ⟨.k (.bin .eql),[.s 14,.c (.u64 (1004:UInt64))],[26],none⟩,
  ⟨.k .mv,[.s 26],[25],none⟩]) none (.cond (.s 25) [(1,.tip 999999 1),(4,.ptr 1070 0),(5,.ptr 1071 0),(1070,.cl []),(1071,.cl []),(lk 999999,.pv 1)] (.seq (.reg [
  ⟨.k (.fa 1072 0 0),[.s 6],[27],none⟩,
  ⟨.k (.ld 1072 0 1 false),[.s 27,.s 1072],[28],none⟩,
  ⟨.k (.bin .eql),[.s 28,.c (.i .i64 (6:Int))],[29],none⟩,
  ⟨.k .mv,[.s 29],[30],none⟩,
  ⟨.k (.fa 1072 0 4),[.s 6],[31],some (30,true)⟩,
  ⟨.k (.ld 1072 4 1 false),[.s 31,.s 1072],[32],some (30,true)⟩,
  ⟨.k (.call 87 (.plain 1 1)),[.s 32],[33],some (30,true)⟩,
  ⟨.k (.un .not),[.s 33],[34],some (30,true)⟩,
  ⟨.k .pick,[.s 30,.s 34,.c (.b false)],[35],none⟩]) none (.cond (.s 35) [] (.seq (.reg [
  ⟨.bd [(.i .i64 (0:Int)),(.u64 (0:UInt64)),(.u64 (0:UInt64)),(.u64 (0:UInt64)),(.s ([]:Str)),(.s ([]:Str)),(.i .i64 (0:Int)),(.c (.slice none 0 0)),(.c (.slice none 0 0))] [(0,1)],[.c (.i .i64 (4:Int))],[36],none⟩,
  ⟨.k (.fa 1072 0 4),[.s 6],[37],none⟩,
  ⟨.k (.ld 1072 4 1 false),[.s 37,.s 1072],[38],none⟩,
  ⟨.k .mv,[.s 1],[39],none⟩,
  ⟨.bl .is 1,[.c (.i .i64 (0:Int))],[40],none⟩,
  ⟨.k (.ppa 999999 106 1 8),[.s 39,.s 40,.s (lk 999999),.s (lk 106)],[41,lk 999999,lk 106],none⟩,
  ⟨.k (.pcall 28 3 2 2 106 1),[.s 36,.s 38,.s 41,.s (lk 106)],[42],none⟩,
  ⟨.k (.ex 0),[.s 42],[43],none⟩,
  ⟨.k (.ex 1),[.s 42],[44],none⟩,
  ⟨.k (.st 1070 0 9),[.s 4,.s 1070,.s 43],[1070],none⟩,
  ⟨.k (.st 1071 0 3),[.s 5,.s 1071,.s 44],[1071],none⟩]) none .ret) .skip)) (.seq (.reg [
  ⟨.k (.bin .eql),[.s 14,.c (.u64 (1015:UInt64))],[46],none⟩,
  ⟨.k .mv,[.s 46],[45],none⟩]) none (.cond (.s 45) [(1,.tip 999999 1),(4,.ptr 1070 0),(5,.ptr 1071 0),(1070,.cl []),(1071,.cl []),(lk 999999,.pv 1)] (.seq (.reg [
  ⟨.k (.ld 1072 0 5 true),[.s 6,.s 1072],[47],none⟩,
  ⟨.k (.call 88 (.plain 3 1)),[.s 47,.c (.i .i64 (4:Int)),.c (.i .i64 (6:Int))],[48],none⟩]) none (.cond (.s 48) [] (.seq (.reg [
  ⟨.k (.fa 1072 0 4),[.s 6],[49],none⟩,
  ⟨.k (.ld 1072 4 1 false),[.s 49,.s 1072],[50],none⟩,
  ⟨.k (.ix 5),[.s 50,.c (.i .i64 (0:Int))],[51],none⟩,
  ⟨.k (.fr 3 1 false),[.s 51],[52],none⟩,
  ⟨.k (.lr 1 false),[.s 52],[53],none⟩,
  ⟨.bd [(.i .i64 (0:Int)),(.u64 (0:UInt64)),(.u64 (0:UInt64)),(.u64 (0:UInt64)),(.s ([]:Str)),(.s ([]:Str)),(.i .i64 (0:Int)),(.c (.slice none 0 0)),(.c (.slice none 0 0))] [(0,1),(4,1)],[.c (.i .i64 (15:Int)),.s 53],[54],none⟩,
  ⟨.k (.fa 1072 0 4),[.s 6],[55],none⟩,
  ⟨.k (.ld 1072 4 1 false),[.s 55,.s 1072],[56],none⟩,
  ⟨.k (.ix 5),[.s 56,.c (.i .i64 (1:Int))],[57],none⟩,
  ⟨.k (.fr 4 1 false),[.s 57],[58],none⟩,
  ⟨.k (.lr 1 false),[.s 58],[59],none⟩,
  ⟨.k .mv,[.s 1],[60],none⟩,
  ⟨.bl .is 2,[.c (.i .i64 (0:Int)),.c (.i .i64 (1:Int))],[61],none⟩,
  ⟨.k (.ppa 999999 108 1 8),[.s 60,.s 61,.s (lk 999999),.s (lk 108)],[62,lk 999999,lk 108],none⟩,
  ⟨.k (.pcall 28 3 2 2 108 1),[.s 54,.s 59,.s 62,.s (lk 108)],[63],none⟩,
  ⟨.k (.ex 0),[.s 63],[64],none⟩,
  ⟨.k (.ex 1),[.s 63],[65],none⟩,
  ⟨.k (.st 1070 0 9),[.s 4,.s 1070,.s 64],[1070],none⟩,
  ⟨.k (.st 1071 0 3),[.s 5,.s 1071,.s 65],[1071],none⟩]) none .ret) .skip)) (.seq (.reg [
  ⟨.k (.fa 1069 0 1),[.s 2],[16],none⟩,
  ⟨.k (.ld 1069 1 1 false),[.s 16,.s 1069],[17],none⟩,
  ⟨.k (.ld 1072 0 5 true),[.s 6,.s 1072],[18],none⟩,
  ⟨.k (.call 89 (.plain 2 2)),[.s 17,.s 18],[19],none⟩,
  ⟨.k .mv,[.s 19],[15],none⟩,
  ⟨.k (.ex 0),[.s 15],[20],none⟩,
  ⟨.k (.ex 1),[.s 15],[21],none⟩,
  ⟨.al 1073 [(.i .i64 (0:Int)),(.u64 (0:UInt64)),(.u64 (0:UInt64)),(.u64 (0:UInt64)),(.s ([]:Str)),(.s ([]:Str)),(.i .i64 (0:Int)),(.sl .bs ([]:List UInt8)),(.sl .fl ([]:List Fld))] [],[.s 1073],[7,1073],none⟩,
  ⟨.k (.st 1073 0 9),[.s 7,.s 1073,.s 20],[1073],none⟩,
  ⟨.k .mv,[.s 21],[8],none⟩]) none (.seq (.reg [
  ⟨.k .mv,[.s 8],[22],none⟩]) none (.cond (.s 22) [] (.seq (.reg [
  ⟨.k (.ld 1073 0 9 true),[.s 7,.s 1073],[23],none⟩,
  ⟨.bd [(.i .i64 (0:Int)),(.i .i64 (0:Int)),(.sl .is ([]:List Int))] [],[],[24],none⟩,
  ⟨.k (.st 1070 0 9),[.s 4,.s 1070,.s 23],[1070],none⟩,
  ⟨.k (.st 1071 0 3),[.s 5,.s 1071,.s 24],[1071],none⟩]) none .ret) .skip))))))))) (some [1,4,5,1070,1071,lk 999999]) db_tag.m1))
def db_tag.d:TFD:={ np:=2,m:=db_tag.m,ref:=none,tips:=[],res:=[.c 4 1070 9 true,.c 5 1071 3 true],own:=[],new:=none,tnew:=[],ps:=some (1,999999,1) }
noncomputable def db_tag.F (n:Nat) (it:Itv) (path:List Int):Option (List TV):=db_tag.d.run (db_tag.E n) [(.ag (Itv.cells it)),(.sl .is path)]
noncomputable def db_tag.j1 (n:Nat) (x0:Val) (x1:Flt) (x2:List Int):Option (List TV):=evO _ (db_tag.E n) db_tag.m1 (headT [1,4,5,1070,1071,lk 999999] [.pt,.pt,.pt,(.ag (Val.cells x0)),(.ag (Flt.cells x1)),(.sl .is x2)]) (endK db_tag.d)
theorem db_tag.j1_eq (n:Nat) (x0:Val) (x1:Flt) (x2:List Int):db_tag.j1 n x0 x1 x2=ck (decide ((x2).length≤1099511627776)) (some [(.ag [(.i .i64 (0:Int)),(.u64 (0:UInt64)),(.u64 (0:UInt64)),(.u64 (0:UInt64)),(.s ([]:Str)),(.s ([]:Str)),(.i .i64 (0:Int)),(.sl .bs ([]:List UInt8)),(.sl .fl ([]:List Fld))]),(.ag (Flt.cells ((Flt.mk 12 0 x2)))),(.sl .is x2)]):=((congrFun (congrFun (ev_eq _ _) _) _).trans (by kernel_rfl))
theorem db_tag.F_in (n:Nat) (it:Itv) (path:List Int) {ρ:Option (List TV)} (K:∀(v1:Int) (h1:v1=(Itm.kind (List.getD (Itv.kids it) ((0:Int)).toNat (STy.dflt .il)))) (v2:List Itm) (h2:v2=(Itm.kids (List.getD (Itv.kids it) ((0:Int)).toNat (STy.dflt .il)))) (v3:Bool) (h3:v3=(cond (decide (v1=(6:Int))) (!(Db.regular v2)) false)) (v4:List Int) (h4:v4=(path++([(0:Int)]:List Int))) (v5:Val) (h5:v5=(Db.Got.val (Db.Gots.got (Val.mk (4:Int) (0:UInt64) (0:UInt64) (0:UInt64) ([]:Str) ([]:Str) (0:Int) [] []) (Db.fields v2 0 v4)))) (v6:Flt) (h6:v6=(Db.Got.flt (Db.Gots.got (Val.mk (4:Int) (0:UInt64) (0:UInt64) (0:UInt64) ([]:Str) ([]:Str) (0:Int) [] []) (Db.fields v2 0 v4)))) (v7:Bool) (h7:v7=(Db.kinds (Itm.of (Itm.val (List.getD (Itv.kids it) ((0:Int)).toNat (STy.dflt .il)))) ((4:Int)) ((6:Int)))) (v8:Str) (h8:v8=(Itm.text (List.getD v2 ((0:Int)).toNat (STy.dflt .il)))) (v9:List Itm) (h9:v9=(Itm.kids (List.getD v2 ((1:Int)).toNat (STy.dflt .il)))) (v10:List Int) (h10:v10=([(0:Int),(1:Int)]:List Int)) (v11:Val) (h11:v11=(Db.Got.val (Db.Gots.got (Val.mk (15:Int) (0:UInt64) (0:UInt64) (0:UInt64) v8 ([]:Str) (0:Int) [] []) (Db.fields v9 0 ((path++v10)))))) (v12:Flt) (h12:v12=(Db.Got.flt (Db.Gots.got (Val.mk (15:Int) (0:UInt64) (0:UInt64) (0:UInt64) v8 ([]:Str) (0:Int) [] []) (Db.fields v9 0 ((path++v10)))))) (v13:Val) (h13:v13=((Db.smallV ((Itv.n it)) (Itm.of (Itm.val (List.getD (Itv.kids it) ((0:Int)).toNat (STy.dflt .il))))).1)) (v14:Bool) (h14:v14=((Db.smallV ((Itv.n it)) (Itm.of (Itm.val (List.getD (Itv.kids it) ((0:Int)).toNat (STy.dflt .il))))).2)),ck (idxOK (0:Int) ((Itv.kids it)).length) (cond (decide ((Itv.n it)=(1004:UInt64)))
  (ck (!(decide (v1=(6:Int))) || (decide (v1=(6:Int)))) (ck (!(decide (v1=(6:Int))) || ((decide (v1=(6:Int)))&&(decide ((v2).length≤1099511627776)))) (ck (!(decide (v1=(6:Int))) || (decide (v1=(6:Int)))) (ck (!(decide (v1=(6:Int))) || (decide (v1=(6:Int)))) (cond v3
  (ck (apOK ((path).length+(([(0:Int)]:List Int)).length) 8) (ck ((decide (Itm.bulks v2+(v4).length≤1073741824)&&decide (Cb.chks v2=0∧(v2).length % 2=0))&&decide ((2 * Itm.bulks v2+2)<n)) (some [(.ag (Val.cells v5)),(.ag (Flt.cells v6)),(.sl .is path)])))
  (db_tag.j1 n (Val.mk (0:Int) (0:UInt64) (0:UInt64) (0:UInt64) ([]:Str) ([]:Str) (0:Int) ([]:List UInt8) ([]:List Fld)) (Flt.mk (0:Int) (0:Int) ([]:List Int)) path))))))
  (cond (decide ((Itv.n it)=(1015:UInt64)))
  (cond v7
  (ck (idxOK (0:Int) (v2).length) (ck (idxOK (1:Int) (v2).length) (ck (apOK ((path).length+(v10).length) 8) (ck ((decide (Itm.bulks v9+(((path++v10))).length≤1073741824)&&decide (Cb.chks v9=0∧(v9).length % 2=0))&&decide ((2 * Itm.bulks v9+2)<n)) (some [(.ag (Val.cells v11)),(.ag (Flt.cells v12)),(.sl .is path)])))))
  (db_tag.j1 n (Val.mk (0:Int) (0:UInt64) (0:UInt64) (0:UInt64) ([]:Str) ([]:Str) (0:Int) ([]:List UInt8) ([]:List Fld)) (Flt.mk (0:Int) (0:Int) ([]:List Int)) path))
  (ck (decide (Itm.bulk (Itm.of (Itm.val (List.getD (Itv.kids it) ((0:Int)).toNat (STy.dflt .il))))≤1099511627776)) (cond v14
  (some [(.ag (Val.cells v13)),(.ag [(.i .i64 (0:Int)),(.i .i64 (0:Int)),(.sl .is ([]:List Int))]),(.sl .is path)])
  (db_tag.j1 n (Val.mk (0:Int) (0:UInt64) (0:UInt64) (0:UInt64) ([]:Str) ([]:Str) (0:Int) ([]:List UInt8) ([]:List Fld)) (Flt.mk (0:Int) (0:Int) ([]:List Int)) path)))))=ρ):db_tag.F n it path=ρ:=Eq.trans (by kernel_rfl) (K _ rfl _ rfl _ rfl _ rfl _ rfl _ rfl _ rfl _ rfl _ rfl _ rfl _ rfl _ rfl _ rfl _ rfl)
theorem db_tag.chk (n:Nat):((Go.Proofs.Tryd.prog.funcs[72]?).any fun fn=>chkF Go.Proofs.Tryd.prog (fun k=>((envL trydbGl (db_tag.env n)).fs k).2) fn db_tag.d.erase)=true:=by kernel_rfl
end
noncomputable section
def db_Value.env:List (Nat × (Ctr × FSig)):=[(26,(cb_Check.c,cb_Check.sg)),(27,(db_none.c,db_none.sg)),(28,(db_with.c,db_with.sg))]
def db_Value.E:TEnv:=envL trydbGl db_Value.env
def db_Value.m:TM := .seq (.reg [
  ⟨.k (.bx 1023),[.s 0,.s 1023],[1,1023],none⟩,
  ⟨.al 1024 [(.i .i64 (0:Int)),(.u64 (0:UInt64)),(.u64 (0:UInt64)),(.u64 (0:UInt64)),(.s ([]:Str)),(.s ([]:Str)),(.i .i64 (0:Int)),(.sl .bs ([]:List UInt8)),(.sl .fl ([]:List Fld))] [],[.s 1024],[2,1024],none⟩,
  ⟨.al 1025 [(.i .i64 (0:Int)),(.i .i64 (0:Int)),(.sl .is ([]:List Int))] [],[.s 1025],[3,1025],none⟩]) none (.seq (.seq (.reg [
  ⟨.k (.ld 1023 0 5 true),[.s 1,.s 1023],[5],none⟩,
  ⟨.k (.call 26 (.plain 1 1)),[.s 5],[6],none⟩,
  ⟨.k .mv,[.s 6],[4],none⟩]) none (.seq (.reg [
  ⟨.k .mv,[.s 4],[7],none⟩,
  ⟨.k (.bin .neq),[.s 7,.c (.i .i64 (0:Int))],[8],none⟩]) none (.cond (.s 8) [] (.seq (.reg [
  ⟨.bd [(.i .i64 (0:Int)),(.u64 (0:UInt64)),(.u64 (0:UInt64)),(.u64 (0:UInt64)),(.s ([]:Str)),(.s ([]:Str)),(.i .i64 (0:Int)),(.sl .bs ([]:List UInt8)),(.sl .fl ([]:List Fld))] [],[],[9],none⟩,
  ⟨.k .mv,[.s 4],[10],none⟩,
  ⟨.bd [(.i .i64 (0:Int)),(.i .i64 (0:Int)),(.sl .is ([]:List Int))] [(0,1)],[.s 10],[11],none⟩,
  ⟨.k (.st 1024 0 9),[.s 2,.s 1024,.s 9],[1024],none⟩,
  ⟨.k (.st 1025 0 3),[.s 3,.s 1025,.s 11],[1025],none⟩]) none .ret) .skip))) none (.seq (.seq (.reg [
  ⟨.k (.fa 1023 0 0),[.s 1],[12],none⟩,
  ⟨.k (.ld 1023 0 1 false),[.s 12,.s 1023],[13],none⟩,
  ⟨.k (.bin .neq),[.s 13,.c (.i .i64 (6:Int))],[14],none⟩]) none (.cond (.s 14) [] (.seq (.reg [
  ⟨.bd [(.i .i64 (0:Int)),(.u64 (0:UInt64)),(.u64 (0:UInt64)),(.u64 (0:UInt64)),(.s ([]:Str)),(.s ([]:Str)),(.i .i64 (0:Int)),(.sl .bs ([]:List UInt8)),(.sl .fl ([]:List Fld))] [],[],[15],none⟩,
  ⟨.k (.pcaln 27 1 1 0 1),[.c (.sl .is ([]:List Int))],[16],none⟩,
  ⟨.k (.st 1024 0 9),[.s 2,.s 1024,.s 15],[1024],none⟩,
  ⟨.k (.st 1025 0 3),[.s 3,.s 1025,.s 16],[1025],none⟩]) none .ret) .skip)) none (.seq (.reg [
  ⟨.bd [(.i .i64 (0:Int)),(.u64 (0:UInt64)),(.u64 (0:UInt64)),(.u64 (0:UInt64)),(.s ([]:Str)),(.s ([]:Str)),(.i .i64 (0:Int)),(.c (.slice none 0 0)),(.c (.slice none 0 0))] [(0,1)],[.c (.i .i64 (3:Int))],[17],none⟩,
  ⟨.k (.fa 1023 0 4),[.s 1],[18],none⟩,
  ⟨.k (.ld 1023 4 1 false),[.s 18,.s 1023],[19],none⟩,
  ⟨.k (.pcaln 28 3 2 2 1),[.s 17,.s 19,.c (.sl .is ([]:List Int))],[20],none⟩,
  ⟨.k (.ex 0),[.s 20],[21],none⟩,
  ⟨.k (.ex 1),[.s 20],[22],none⟩,
  ⟨.k (.st 1024 0 9),[.s 2,.s 1024,.s 21],[1024],none⟩,
  ⟨.k (.st 1025 0 3),[.s 3,.s 1025,.s 22],[1025],none⟩]) none .ret)))
def db_Value.d:TFD:={ np:=1,m:=db_Value.m,ref:=none,tips:=[],res:=[.c 2 1024 9 true,.c 3 1025 3 true],own:=[],new:=none,tnew:=[] }
noncomputable def db_Value.F (it:Itv):Option (List TV):=db_Value.d.run db_Value.E [(.ag (Itv.cells it))]
theorem db_Value.F_in (it:Itv) {ρ:Option (List TV)} (K:∀(v1:Flt) (h1:v1=((Flt.mk 12 0 (([]:List Int))))) (v2:Val) (h2:v2=(Db.Got.val (Db.Gots.got (Val.mk (3:Int) (0:UInt64) (0:UInt64) (0:UInt64) ([]:Str) ([]:Str) (0:Int) [] []) (Db.fields ((Itv.kids it)) 0 (([]:List Int)))))) (v3:Flt) (h3:v3=(Db.Got.flt (Db.Gots.got (Val.mk (3:Int) (0:UInt64) (0:UInt64) (0:UInt64) ([]:Str) ([]:Str) (0:Int) [] []) (Db.fields ((Itv.kids it)) 0 (([]:List Int)))))),ck (decide (Itm.bulk (Itm.of it)≤1099511627776)) (cond (!decide ((Cb.chk (Itm.of it))=(0:Int)))
  (some [(.ag [(.i .i64 (0:Int)),(.u64 (0:UInt64)),(.u64 (0:UInt64)),(.u64 (0:UInt64)),(.s ([]:Str)),(.s ([]:Str)),(.i .i64 (0:Int)),(.sl .bs ([]:List UInt8)),(.sl .fl ([]:List Fld))]),(.ag [(.i .i64 (Cb.chk (Itm.of it))),(.i .i64 (0:Int)),(.sl .is ([]:List Int))])])
  (cond (!decide ((Itv.kind it)=(6:Int)))
  (ck (decide (((([]:List Int))).length≤1099511627776)) (some [(.ag [(.i .i64 (0:Int)),(.u64 (0:UInt64)),(.u64 (0:UInt64)),(.u64 (0:UInt64)),(.s ([]:Str)),(.s ([]:Str)),(.i .i64 (0:Int)),(.sl .bs ([]:List UInt8)),(.sl .fl ([]:List Fld))]),(.ag (Flt.cells v1))]))
  (ck (decide (Itm.bulks ((Itv.kids it))+((([]:List Int))).length≤1073741824)&&decide (Cb.chks ((Itv.kids it))=0∧(((Itv.kids it))).length % 2=0)) (some [(.ag (Val.cells v2)),(.ag (Flt.cells v3))]))))=ρ):db_Value.F it=ρ:=Eq.trans (by kernel_rfl) (K _ rfl _ rfl _ rfl)
theorem db_Value.chk:((Go.Proofs.Tryd.prog.funcs[15]?).any fun fn=>chkF Go.Proofs.Tryd.prog (fun k=>((envL trydbGl db_Value.env).fs k).2) fn db_Value.d.erase)=true:=by kernel_rfl
end
noncomputable section
end
noncomputable section
end
noncomputable section
end
end Go.Eng
namespace Go.Eng
noncomputable section
end
noncomputable section
end
noncomputable section
end
noncomputable section
end
noncomputable section
end
noncomputable section
end
noncomputable section
end
noncomputable section
end
noncomputable section
end
noncomputable section
end
noncomputable section
end
noncomputable section
end
noncomputable section
end
noncomputable section
end
noncomputable section
end
noncomputable section
def law30_awake.env:List (Nat × (Ctr × FSig)):=[(10,(db_Item.c,db_Item.sg)),(15,(db_Value.c,db_Value.sg))]
def law30_awake.E:TEnv:=envL trydbGl law30_awake.env
def law30_awake.m:TM := .seq (.reg [
  ⟨.k .mv,[.c (.b false)],[0],none⟩]) none (.seq (.reg [
  ⟨.bd [(.i .i64 (0:Int)),(.u64 (0:UInt64)),(.u64 (0:UInt64)),(.u64 (0:UInt64)),(.s ([]:Str)),(.s ([]:Str)),(.i .i64 (0:Int)),(.sl .bs ([]:List UInt8)),(.sl .fl ([]:List Fld))] [(0,1),(1,1)],[.c (.i .i64 (18:Int)),.c (.u64 (1:UInt64))],[6],none⟩,
  ⟨.bd [(.s ([]:Str)),(.i .i64 (0:Int)),(.u64 (0:UInt64)),(.u64 (0:UInt64)),(.u64 (0:UInt64)),(.s ([]:Str)),(.s ([]:Str)),(.i .i64 (0:Int)),(.sl .bs ([]:List UInt8)),(.sl .fl ([]:List Fld))] [(0,1),(1,9)],[.c (.s ([97]:Str)),.s 6],[7],none⟩,
  ⟨.bl .fl 1,[.s 7],[8],none⟩,
  ⟨.bd [(.i .i64 (0:Int)),(.u64 (0:UInt64)),(.u64 (0:UInt64)),(.u64 (0:UInt64)),(.s ([]:Str)),(.s ([]:Str)),(.i .i64 (0:Int)),(.sl .bs ([]:List UInt8)),(.sl .fl ([]:List Fld))] [(0,1),(8,1)],[.c (.i .i64 (3:Int)),.s 8],[9],none⟩,
  ⟨.k (.call 10 (.plain 1 2)),[.s 9],[10],none⟩,
  ⟨.k .mv,[.s 10],[5],none⟩,
  ⟨.k (.ex 0),[.s 5],[11],none⟩,
  ⟨.k (.ex 1),[.s 5],[12],none⟩,
  ⟨.al 1061 [(.i .i64 (0:Int)),(.u64 (0:UInt64)),(.sl .bs ([]:List UInt8)),(.s ([]:Str)),(.sl .il ([]:List Itm))] [],[.s 1061],[1,1061],none⟩,
  ⟨.al 1062 [(.i .i64 (0:Int)),(.i .i64 (0:Int)),(.sl .is ([]:List Int))] [],[.s 1062],[2,1062],none⟩,
  ⟨.k (.st 1061 0 5),[.s 1,.s 1061,.s 11],[1061],none⟩,
  ⟨.k (.st 1062 0 3),[.s 2,.s 1062,.s 12],[1062],none⟩]) none (.seq (.reg [
  ⟨.bd [(.i .i64 (0:Int)),(.u64 (0:UInt64)),(.sl .bs ([]:List UInt8)),(.s ([]:Str)),(.sl .il ([]:List Itm))] [(0,1)],[.c (.i .i64 (1:Int))],[14],none⟩,
  ⟨.k (.call 15 (.plain 1 2)),[.s 14],[15],none⟩,
  ⟨.k .mv,[.s 15],[13],none⟩,
  ⟨.k (.ex 0),[.s 13],[16],none⟩,
  ⟨.k (.ex 1),[.s 13],[17],none⟩,
  ⟨.al 1063 [(.i .i64 (0:Int)),(.u64 (0:UInt64)),(.u64 (0:UInt64)),(.u64 (0:UInt64)),(.s ([]:Str)),(.s ([]:Str)),(.i .i64 (0:Int)),(.sl .bs ([]:List UInt8)),(.sl .fl ([]:List Fld))] [],[.s 1063],[3,1063],none⟩,
  ⟨.al 1064 [(.i .i64 (0:Int)),(.i .i64 (0:Int)),(.sl .is ([]:List Int))] [],[.s 1064],[4,1064],none⟩,
  ⟨.k (.st 1063 0 9),[.s 3,.s 1063,.s 16],[1063],none⟩,
  ⟨.k (.st 1064 0 3),[.s 4,.s 1064,.s 17],[1064],none⟩]) none (.seq (.reg [
  ⟨.k (.fa 1062 0 0),[.s 2],[18],none⟩,
  ⟨.k (.ld 1062 0 1 false),[.s 18,.s 1062],[19],none⟩,
  ⟨.k (.bin .eql),[.s 19,.c (.i .i64 (0:Int))],[20],none⟩,
  ⟨.k .mv,[.s 20],[21],none⟩,
  ⟨.k (.fa 1061 0 0),[.s 1],[22],some (21,true)⟩,
  ⟨.k (.ld 1061 0 1 false),[.s 22,.s 1061],[23],some (21,true)⟩,
  ⟨.k (.bin .eql),[.s 23,.c (.i .i64 (6:Int))],[24],some (21,true)⟩,
  ⟨.k .pick,[.s 21,.s 24,.c (.b false)],[25],none⟩,
  ⟨.k .mv,[.s 25],[26],none⟩,
  ⟨.k (.fa 1061 0 4),[.s 1],[27],some (26,true)⟩,
  ⟨.k (.ld 1061 4 1 false),[.s 27,.s 1061],[28],some (26,true)⟩,
  ⟨.k .len,[.s 28],[29],some (26,true)⟩,
  ⟨.k (.bin .eql),[.s 29,.c (.i .i64 (2:Int))],[30],some (26,true)⟩,
  ⟨.k .pick,[.s 26,.s 30,.c (.b false)],[31],none⟩,
  ⟨.k .mv,[.s 31],[32],none⟩,
  ⟨.k (.fa 1061 0 4),[.s 1],[33],some (32,true)⟩,
  ⟨.k (.ld 1061 4 1 false),[.s 33,.s 1061],[34],some (32,true)⟩,
  ⟨.k (.ix 5),[.s 34,.c (.i .i64 (0:Int))],[35],some (32,true)⟩,
  ⟨.k (.fr 3 1 false),[.s 35],[36],some (32,true)⟩,
  ⟨.k (.lr 1 false),[.s 36],[37],some (32,true)⟩,
  ⟨.k (.bin .eql),[.s 37,.c (.s ([97]:Str))],[38],some (32,true)⟩,
  ⟨.k .pick,[.s 32,.s 38,.c (.b false)],[39],none⟩,
  ⟨.k .mv,[.s 39],[40],none⟩,
  ⟨.k (.fa 1061 0 4),[.s 1],[41],some (40,true)⟩,
  ⟨.k (.ld 1061 4 1 false),[.s 41,.s 1061],[42],some (40,true)⟩,
  ⟨.k (.ix 5),[.s 42,.c (.i .i64 (1:Int))],[43],some (40,true)⟩,
  ⟨.k (.fr 0 1 false),[.s 43],[44],some (40,true)⟩,
  ⟨.k (.lr 1 false),[.s 44],[45],some (40,true)⟩,
  ⟨.k (.bin .eql),[.s 45,.c (.i .i64 (7:Int))],[46],some (40,true)⟩,
  ⟨.k .pick,[.s 40,.s 46,.c (.b false)],[47],none⟩,
  ⟨.k .mv,[.s 47],[48],none⟩,
  ⟨.k (.fa 1061 0 4),[.s 1],[49],some (48,true)⟩,
  ⟨.k (.ld 1061 4 1 false),[.s 49,.s 1061],[50],some (48,true)⟩,
  ⟨.k (.ix 5),[.s 50,.c (.i .i64 (1:Int))],[51],some (48,true)⟩,
  ⟨.k (.fr 1 1 false),[.s 51],[52],some (48,true)⟩,
  ⟨.k (.lr 1 false),[.s 52],[53],some (48,true)⟩,
  ⟨.k (.bin .eql),[.s 53,.c (.u64 (1018:UInt64))],[54],some (48,true)⟩,
  ⟨.k .pick,[.s 48,.s 54,.c (.b false)],[55],none⟩,
  ⟨.k .mv,[.s 55],[56],none⟩,
  ⟨.k (.fa 1064 0 0),[.s 4],[57],some (56,true)⟩,
  ⟨.k (.ld 1064 0 1 false),[.s 57,.s 1064],[58],some (56,true)⟩,
  ⟨.k (.bin .eql),[.s 58,.c (.i .i64 (12:Int))],[59],some (56,true)⟩,
  ⟨.k .pick,[.s 56,.s 59,.c (.b false)],[60],none⟩,
  ⟨.k .mv,[.s 60],[0],none⟩]) none .ret)))
def law30_awake.d:TFD:={ np:=0,m:=law30_awake.m,ref:=none,tips:=[],res:=[.t 0],own:=[],new:=none,tnew:=[] }
noncomputable def law30_awake.F  : Option (List TV):=law30_awake.d.run law30_awake.E []
theorem law30_awake.F_in  {ρ:Option (List TV)} (K:∀(v1:List Fld) (h1:v1=([(Fld.mk ([97]:Str) (18:Int) (1:UInt64) (0:UInt64) (0:UInt64) ([]:Str) ([]:Str) (0:Int) ([]:List UInt8) ([]:List Fld))]:List Fld)) (v2:Flt) (h2:v2=((Db.enc (Val.mk (3:Int) (0:UInt64) (0:UInt64) (0:UInt64) ([]:Str) ([]:Str) (0:Int) ([]:List UInt8) v1)).2)) (v3:Val) (h3:v3=((Db.dec (Itm.of (Itv.mk (1:Int) (0:UInt64) ([]:List UInt8) ([]:Str) ([]:List Itm)))).1)) (v4:Flt) (h4:v4=((Db.dec (Itm.of (Itv.mk (1:Int) (0:UInt64) ([]:List UInt8) ([]:Str) ([]:List Itm)))).2)) (v5:Int) (h5:v5=(Itm.kind ((Db.enc (Val.mk (3:Int) (0:UInt64) (0:UInt64) (0:UInt64) ([]:Str) ([]:Str) (0:Int) ([]:List UInt8) v1)).1))) (v6:Bool) (h6:v6=(cond (decide ((Flt.err v2)=(0:Int))) (decide (v5=(6:Int))) false)) (v7:List Itm) (h7:v7=(Itm.kids ((Db.enc (Val.mk (3:Int) (0:UInt64) (0:UInt64) (0:UInt64) ([]:Str) ([]:Str) (0:Int) ([]:List UInt8) v1)).1))) (v8:Bool) (h8:v8=(cond v6 (decide (((v7).length:Int)=(2:Int))) false)) (v9:Str) (h9:v9=(Itm.text (List.getD v7 ((0:Int)).toNat (STy.dflt .il)))) (v10:Bool) (h10:v10=(cond v8 (decide (v9=([97]:Str))) false)) (v11:Int) (h11:v11=(Itm.kind (List.getD v7 ((1:Int)).toNat (STy.dflt .il)))) (v12:Bool) (h12:v12=(cond v10 (decide (v11=(7:Int))) false)) (v13:UInt64) (h13:v13=(Itm.n (List.getD v7 ((1:Int)).toNat (STy.dflt .il)))) (v14:Bool) (h14:v14=(cond v12 (decide (v13=(1018:UInt64))) false)) (v15:Bool) (h15:v15=(cond v14 (decide ((Flt.err v4)=(12:Int))) false)),ck (decide (Fld.bulk (Fld.of [] (Val.mk (3:Int) (0:UInt64) (0:UInt64) (0:UInt64) ([]:Str) ([]:Str) (0:Int) ([]:List UInt8) v1))≤1073741824)) (ck (decide (Itm.bulk (Itm.of (Itv.mk (1:Int) (0:UInt64) ([]:List UInt8) ([]:Str) ([]:List Itm)))≤1073741824)) (ck (!(decide ((Flt.err v2)=(0:Int))) || (decide ((Flt.err v2)=(0:Int)))) (ck (!(decide ((Flt.err v2)=(0:Int))) || (decide ((Flt.err v2)=(0:Int)))) (ck (!(decide ((Flt.err v2)=(0:Int))) || (decide ((Flt.err v2)=(0:Int)))) (ck (!v6 || v6) (ck (!v6 || v6) (ck (!v6 || v6) (ck (!v6 || v6) (ck (!v8 || v8) (ck (!v8 || (v8&&(idxOK (0:Int) (v7).length))) (ck (!v8 || v8) (ck (!v8 || v8) (ck (!v8 || v8) (ck (!v8 || v8) (ck (!v10 || v10) (ck (!v10 || (v10&&(idxOK (1:Int) (v7).length))) (ck (!v10 || v10) (ck (!v10 || v10) (ck (!v10 || v10) (ck (!v10 || v10) (ck (!v12 || v12) (ck (!v12 || (v12&&(idxOK (1:Int) (v7).length))) (ck (!v12 || v12) (ck (!v12 || v12) (ck (!v12 || v12) (ck (!v12 || v12) (ck (!v14 || v14) (ck (!v14 || v14) (ck (!v14 || v14) (some [(.b v15)]))))))))))))))))))))))))))))))=ρ):law30_awake.F  = ρ:=Eq.trans (by kernel_rfl) (K _ rfl _ rfl _ rfl _ rfl _ rfl _ rfl _ rfl _ rfl _ rfl _ rfl _ rfl _ rfl _ rfl _ rfl _ rfl)
theorem law30_awake.chk:((Go.Proofs.Tryd.prog.funcs[8]?).any fun fn=>chkF Go.Proofs.Tryd.prog (fun k=>((envL trydbGl law30_awake.env).fs k).2) fn law30_awake.d.erase)=true:=by kernel_rfl
end
end Go.Eng
namespace Go.Eng
open Go.IntWalk
theorem utf_is.goal (r:Int):utf_is.F r=some [.b (Utf.isRune r)]:=by
 refine utf_is.F_in r ?_
 intro v1 h1 v2 h2 v3 h3
 subst h1 h2 h3
 by_cases a:0≤r <;> by_cases b:r≤1114111 <;> by_cases c:r<55296 <;> simp [ck,a,b,c,Utf.isRune]
theorem and192:∀n,n<256→((n &&& 192=128) ↔ (128≤n∧n<192)):=by decide +kernel
theorem and63:∀n,n<256→(128≤n∧n<192)→n &&& 63=n - 128:=by decide +kernel
theorem and31:∀n,n<256→(192≤n∧n<224)→n &&& 31=n - 192:=by decide +kernel
theorem and15:∀n,n<256→(224≤n∧n<240)→n &&& 15=n - 224:=by decide +kernel
theorem and7:∀n,n<256→(240≤n∧n<248)→n &&& 7=n - 240:=by decide +kernel
theorem u8lt (c:UInt8):c.toNat<256:=by have:=c.toNat_lt;simpa using this
theorem cont_byte (c:UInt8):decide ((c &&& (192:UInt8))=(128:UInt8))=decide (128≤c.toNat∧c.toNat<192):=by
 have h:=and192 c.toNat (u8lt c)
 rw [Bool.eq_iff_iff]
 simp only [decide_eq_true_eq]
 rw [←h,←UInt8.toNat_inj,UInt8.toNat_and]
 exact Iff.rfl
theorem low6 (c:UInt8) (h:128≤c.toNat∧c.toNat<192):((c &&& (63:UInt8)).toNat:Int)=((c.toNat - 128:Nat):Int):=by
 rw [UInt8.toNat_and]
 exact congrArg _ (and63 c.toNat (u8lt c) h)
def mres (r:Option Nat) (more least:Nat):Option (List TV):=match r with
 | some r=>if r<least∨Utf.isRune r=false then some [.i .i64 0,.i .i64 0] else some [.i .i64 r,.i .i64 (more+1:Int)]
 | none=>some [.i .i64 0,.i .i64 0]
theorem mres_eq (c:Nat) (more least:Nat) (l:Str):mres (Utf.cont c more l) more least=some [.i .i64 (Utf.multi c more least l).1,.i .i64 (Utf.multi c more least l).2]:=by
 unfold mres Utf.multi
 cases Utf.cont c more l with
 | none=>rfl
 | some r=>simp only;split <;> rfl
theorem utf_Rune.end_ (r:Nat) (more least:Nat) (hm:more<8) :
  (ck (!(!(decide ((r:Int)<(least:Int)))) || (!(decide ((r:Int)<(least:Int))))) (ck (!(!(decide ((r:Int)<(least:Int)))) || (!(decide ((r:Int)<(least:Int))))) (ck ((decide ((r:Int)<(least:Int))) || (!(decide ((r:Int)<(least:Int))))) (cond (cond (decide ((r:Int)<(least:Int))) true (!(Utf.isRune r)))
  (utf_Rune.l1)
  (some [(.i .i64 (r:Int)),(.i .i64 (IntKind.i64.wrap ((more:Int)+(1:Int))))])))))=mres (some r) more least:=by
 simp only [Bool.not_or_self,Bool.or_not_self,ck_true]
 rw [i64_in _ (by omega),utf_Rune.l1_eq]
 unfold mres
 by_cases h:r<least
 ·simp [h]
 ·simp only [show ¬((r:Int)<(least:Int)) by omega,decide_false,cond_false,h,false_or]
  cases Utf.isRune r <;> simp
theorem utf_Rune.l3_ok (b : Str) (at_ : Nat) (more least : Nat) (hm : more < 8) (hb : b.length ≤ 1099511627776) (hlt : at_ + more < b.length) : ∀ (k i r : Nat), i + k = more + 1 → r < 2 ^ (10 + 6 * i) →
    utf_Rune.l3 b at_ r more least i = mres (Utf.cont r k (b.drop (at_ + i))) more least := by
  intro k
  induction k with
  | zero =>
    intro i r hi hr
    refine utf_Rune.l3_in _ _ _ _ _ _ ?_
    intro v1 h1 v2 h2 v3 h3 v4 h4 v5 h5 v6 h6 v7 h7
    rw [show decide ((i : Int) ≤ (more : Int)) = false by simp; omega, cond_false]
    subst h6 h7
    rw [Utf.cont]
    exact utf_Rune.end_ r more least hm
  | succ k ih =>
    intro i r hi hr
    refine utf_Rune.l3_in _ _ _ _ _ _ ?_
    intro v1 h1 v2 h2 v3 h3 v4 h4 v5 h5 v6 h6 v7 h7
    have hw : IntKind.i64.wrap ((at_ : Int) + (i : Int)) = ((at_ + i : Nat) : Int) := by rw [i64_in _ (by omega)]; omega
    have hdr := drop_cons (l := b) (i := at_ + i) (by omega) 0
    rw [show decide ((i : Int) ≤ (more : Int)) = true by simp; omega, cond_true, hw]
    rw [hw, Int.toNat_natCast] at h1
    rw [ck_of (idx_ok (by omega) (by omega)), hdr, ← h1, Utf.cont, h2, cont_byte]
    by_cases hc : 128 ≤ v1.toNat ∧ v1.toNat < 192
    · rw [if_pos hc, decide_eq_true hc]
      simp only [Bool.not_true, cond_false]
      rw [ck_of (idx_ok (by omega) (by omega))]
      have hp : 2 ^ (10 + 6 * i) * 64 = 2 ^ (10 + 6 * (i + 1)) := by rw [show 10 + 6 * (i + 1) = (10 + 6 * i) + 6 by omega, Nat.pow_add 2 (10 + 6 * i) 6]
      have hp2 : 2 ^ (10 + 6 * (i + 1)) ≤ 2 ^ 58 := Nat.pow_le_pow_right (by omega) (by omega)
      have hr64 : r * 64 + 64 ≤ 2 ^ (10 + 6 * (i + 1)) := by
        rw [← hp]; have := Nat.mul_le_mul_right 64 (Nat.succ_le_of_lt hr); omega
      have e3 : v3 = ((r * 64 : Nat) : Int) := by
        rw [h3]
        have : (min (((6 : UInt64)).toNat) (IntKind.i64.bits)) = 6 := by decide
        rw [this, i64_in _ (by simp at hp2; omega)]; simp
      have e4 : v4 = ((v1.toNat - 128 : Nat) : Int) := by
        rw [h4, low6 v1 hc]; exact i64_in _ (by omega)
      have e5 : v5 = ((i + 1 : Nat) : Int) := by rw [h5, i64_in _ (by omega)]; omega
      have e6 : intBitsV .or .i64 v3 v4 = ((r * 64 + (v1.toNat - 128) : Nat) : Int) := by
        rw [e3, e4, or_i64 _ _ (by simp at hp2; omega) (by omega)]
        have := or_add (a := r) (b := v1.toNat - 128) (k := 6) (by simp; omega)
        simp at this
        rw [this]
      rw [e6, e5, ih (i + 1) _ (by omega) (by omega), Nat.add_assoc]
    · rw [if_neg hc, decide_eq_false hc]
      simp only [Bool.not_false, cond_true]
      rw [utf_Rune.l1_eq]; rfl
theorem utf_Rune.j2_ok (b : Str) (at_ : Nat) (r more least : Nat) (hm : 1 ≤ more ∧ more < 8) (hb : b.length ≤ 1099511627776) (hlt : at_ < b.length) (hr : r < 1024) :
    utf_Rune.j2 b at_ r more least = mres (Utf.cont r more (b.drop (at_ + 1))) more least := by
  have hcn : ∀ (k r : Nat) (l : Str), l.length < k → Utf.cont r k l = none := by
    intro k
    induction k with
    | zero => intro r l h; omega
    | succ k ih =>
      intro r l h
      cases l with
      | nil => rfl
      | cons c l => rw [Utf.cont]; split
                    · exact ih _ _ (by simp at h; omega)
                    · rfl
  have key := fun (h : at_ + more < b.length) => utf_Rune.l3_ok b at_ more least hm.2 hb h more 1 r (by omega) (by simp; omega)
  by_cases hx : at_ + more < b.length
  · rw [← key hx]
    refine utf_Rune.j2_in _ _ _ _ _ ?_
    intro v1 h1 v2 h2 v3 h3 v4 h4 v5 h5 v6 h6 v7 h7 v8 h8 v9 h9 v10 h10
    symm
    refine utf_Rune.l3_in _ _ _ _ _ _ ?_
    intro w1 k1 w2 k2 w3 k3 w4 k4 w5 k5 w6 k6 w7 k7
    have e1 : v1 = (b.length : Int) - at_ := by rw [h1]; exact i64_in _ (by omega)
    have e2 : v2 = (b.length : Int) - at_ - 1 := by rw [h2, e1]; exact i64_in _ (by omega)
    rw [show decide (v2 < (more : Int)) = false by simp; omega, cond_false]
    have a1 : ((1 : Nat) : Int) = 1 := rfl
    simp only [a1] at k1 k2 k3 k4 k5 k6 k7 ⊢
    subst h3; subst h4; subst h5; subst h6; subst h7; subst h8; subst h9; subst h10; subst k1; subst k2; subst k3; subst k4; subst k5; subst k6; subst k7
    rfl
  · refine utf_Rune.j2_in _ _ _ _ _ ?_
    intro v1 h1 v2 h2 v3 h3 v4 h4 v5 h5 v6 h6 v7 h7 v8 h8 v9 h9 v10 h10
    have e1 : v1 = (b.length : Int) - at_ := by rw [h1]; exact i64_in _ (by omega)
    have e2 : v2 = (b.length : Int) - at_ - 1 := by rw [h2, e1]; exact i64_in _ (by omega)
    rw [show decide (v2 < (more : Int)) = true by simp; omega, cond_true, utf_Rune.l1_eq, hcn _ _ _ (by simp; omega)]
    rfl
theorem rng (lo hi n:Nat):(cond (decide ((lo:Int)≤(n:Int))) (decide ((n:Int)<(hi:Int))) false)=decide (lo≤n∧n<hi):=by
 by_cases a:lo≤n
 ·rw [show decide ((lo:Int)≤(n:Int))=true by simp;omega,cond_true,Bool.eq_iff_iff];simp;omega
 ·rw [show decide ((lo:Int)≤(n:Int))=false by simp;omega,cond_false,decide_eq_false (by omega)]
theorem utf_Rune.goal (b:Str) (at_:Int) (hp:decide (b.length≤1099511627776)=true):utf_Rune.F b at_=some [.i .i64 (Utf.runeAt b at_).1,.i .i64 (Utf.runeAt b at_).2]:=by
 have hb:b.length≤1099511627776:=of_decide_eq_true hp
 refine utf_Rune.F_in b at_ ?_
 intro v1 h1 v2 h2 v3 h3 v4 h4 v5 h5 v6 h6 v7 h7 v8 h8 v9 h9
 unfold Utf.runeAt
 by_cases h0:at_<0
 ·subst h1
  simp [h0,ck,utf_Rune.l1_eq]
 ·have hd0:decide (at_<0)=false:=decide_eq_false h0
  obtain ⟨i,rfl⟩:=Int.eq_ofNat_of_zero_le (show 0≤at_ by omega)
  rw [hd0] at h1 ⊢
  subst h1
  simp only [Bool.not_false,Bool.not_true,Bool.false_or,Bool.or_true,ck_true,cond_false,Int.toNat_natCast] at h2 ⊢
  by_cases hl:b.length≤i
  ·rw [show decide ((b.length:Int)≤(i:Int))=true by simp;omega,if_pos (.inr (by omega)),cond_true,utf_Rune.l1_eq];rfl
  ·rw [show decide ((b.length:Int)≤(i:Int))=false by simp;omega,if_neg (by omega),cond_false,ck_of (idx_ok (by omega) (by omega)),drop_cons (l:=b) (i:=i) (by omega) 0,←h2,Utf.rune]
   have hc:=u8lt v2
   have e3:v3=(v2.toNat:Int):=by rw [h3];exact i64_in _ (by omega)
   have an:∀(m:Nat),m<256→intBitsV .and .i64 v3 m=((v2.toNat &&& m:Nat):Int):=fun m h=>by rw [e3,and_i64 _ _ (by omega) (by omega)]
   have an1:v5=((v2.toNat &&& 31:Nat):Int):=h5.trans (an 31 (by omega))
   have an2:v7=((v2.toNat &&& 15:Nat):Int):=h7.trans (an 15 (by omega))
   have an3:v9=((v2.toNat &&& 7:Nat):Int):=h9.trans (an 7 (by omega))
   have e4:v4=decide (192≤v2.toNat∧v2.toNat<224):=by rw [h4,e3];exact rng 192 224 _
   have e6:v6=decide (224≤v2.toNat∧v2.toNat<240):=by rw [h6,e3];exact rng 224 240 _
   have e8:v8=decide (240≤v2.toNat∧v2.toNat<248):=by rw [h8,e3];exact rng 240 248 _
   have J:∀(r more least:Nat),1≤more∧more<8→r<1024→utf_Rune.j2 b i r more least=some [.i .i64 (Utf.multi r more least (b.drop (i+1))).1,.i .i64 (Utf.multi r more least (b.drop (i+1))).2]:=fun r more least h1 h2 =>
    (utf_Rune.j2_ok b i r more least h1 hb (by omega) h2).trans (mres_eq _ _ _ _)
   simp only [Bool.not_or_self,ck_true]
   by_cases c1:v2.toNat<128
   ·rw [if_pos c1,e3,show decide ((v2.toNat:Int)<128)=true by simp;omega,cond_true];rfl
   ·rw [if_neg c1,show decide (v3<(128:Int))=false by rw [e3];simp;omega,cond_false,e4]
    by_cases c2:192≤v2.toNat∧v2.toNat<224
    ·rw [if_pos c2,decide_eq_true c2,cond_true,an1,and31 _ hc c2];exact J _ 1 128 (by omega) (by omega)
    ·rw [if_neg c2,decide_eq_false c2,cond_false,e6]
     by_cases c3:224≤v2.toNat∧v2.toNat<240
     ·rw [if_pos c3,decide_eq_true c3,cond_true,an2,and15 _ hc c3];exact J _ 2 2048 (by omega) (by omega)
     ·rw [if_neg c3,decide_eq_false c3,cond_false,e8]
      by_cases c4:240≤v2.toNat∧v2.toNat<248
      ·rw [if_pos c4,decide_eq_true c4,cond_true,an3,and7 _ hc c4];exact J _ 3 65536 (by omega) (by omega)
      ·rw [if_neg c4,decide_eq_false c4,cond_false,utf_Rune.l1_eq];rfl
theorem Utf.rune_size (l : Str) : 0 ≤ (Utf.rune l).2 ∧ (Utf.rune l).2 ≤ l.length := by
  have hcl : ∀ (k r q : Nat) (l : Str), Utf.cont r k l = some q → k ≤ l.length := by
    intro k
    induction k with
    | zero => intro r q l _; omega
    | succ k ih =>
      intro r q l h
      cases l with
      | nil => cases h
      | cons c l =>
        rw [Utf.cont] at h
        split at h
        · have := ih _ _ _ h; simp; omega
        · cases h
  have hmu : ∀ (r more least : Nat) (l : Str), 0 ≤ (Utf.multi r more least l).2 ∧ (Utf.multi r more least l).2 ≤ l.length + 1 := by
    intro r more least l
    unfold Utf.multi
    cases h : Utf.cont r more l with
    | none => simp; omega
    | some q =>
      have := hcl _ _ _ _ h
      simp only
      split <;> simp <;> omega
  cases l with
  | nil => exact ⟨by decide, by decide⟩
  | cons c l =>
    unfold Utf.rune
    simp only [List.length_cons]
    split
    · simp; omega
    · split
      · have := hmu (c.toNat - 192) 1 128 l; omega
      · split
        · have := hmu (c.toNat - 224) 2 2048 l; omega
        · split
          · have := hmu (c.toNat - 240) 3 65536 l; omega
          · simp; omega
theorem Utf.lookN_ge (l : Str) : ∀ n, l.length ≤ n → Utf.lookN n l = Utf.lookN l.length l := by
  have key : ∀ (m : Nat) (l : Str), l.length ≤ m → ∀ n, l.length ≤ n → Utf.lookN n l = Utf.lookN l.length l := by
    intro m
    induction m with
    | zero =>
      intro l hl n hn
      have : l = [] := List.length_eq_zero_iff.1 (by omega)
      subst this
      cases n with
      | zero => rfl
      | succ n => rfl
    | succ m ih =>
      intro l hl n hn
      cases h : l.length with
      | zero =>
        have : l = [] := List.length_eq_zero_iff.1 h
        subst this
        cases n <;> rfl
      | succ k =>
        cases n with
        | zero => omega
        | succ n =>
          unfold Utf.lookN
          have hs := Utf.rune_size l
          by_cases h0 : (Utf.rune l).2 = 0
          · rw [if_pos h0, if_pos h0]
          · rw [if_neg h0, if_neg h0]
            have hd : (l.drop (Utf.rune l).2.toNat).length ≤ k := by simp; omega
            rw [ih _ (by simp; omega) n (by simp; omega), ih _ (by simp; omega) k hd]
  exact fun n hn => key _ l (Nat.le_refl _) n hn
theorem Utf.look_step (l : Str) (h : (Utf.rune l).2 ≠ 0) : Utf.look l = ((Utf.look (l.drop (Utf.rune l).2.toNat)).1 + (Utf.rune l).2.toNat, (Utf.look (l.drop (Utf.rune l).2.toNat)).2 + 1) := by
  have hs := Utf.rune_size l
  unfold Utf.look
  cases hl : l.length with
  | zero => omega
  | succ k =>
    rw [Utf.lookN, if_neg h]
    simp only
    rw [Utf.lookN_ge _ k (by simp; omega)]
theorem Utf.look_none (l:Str) (h:(Utf.rune l).2=0):Utf.look l=(0,0):=by
 unfold Utf.look
 cases l.length with
 | zero=>rfl
 | succ k=>rw [Utf.lookN,if_pos h]
theorem Utf.runeAt_nat (b:Str) (i:Nat) (h:i<b.length):Utf.runeAt b i=Utf.rune (b.drop i):=by
 unfold Utf.runeAt;rw [if_neg (by omega),Int.toNat_natCast]
theorem utf_look.l1_ok (b : Str) (hb : b.length ≤ 1099511627776) : ∀ (m i k : Nat), b.length - i ≤ m → i ≤ b.length → k ≤ i →
    utf_look.l1 b i k = some [.i .i64 ((i + (Utf.look (b.drop i)).1 : Nat) : Int), .i .i64 ((k + (Utf.look (b.drop i)).2 : Nat) : Int)] := by
  intro m
  induction m with
  | zero =>
    intro i k hm hi hk
    refine utf_look.l1_in _ _ _ ?_
    intro v1 h1 v2 h2
    rw [show decide ((i : Int) < (b.length : Int)) = false by simp; omega, cond_false, utf_look.j2_eq, List.drop_of_length_le (by omega)]
    rfl
  | succ m ih =>
    intro i k hm hi hk
    by_cases hlt : i < b.length
    · refine utf_look.l1_in _ _ _ ?_
      intro v1 h1 v2 h2
      rw [Utf.runeAt_nat b i hlt] at h1 ⊢
      have hs := Utf.rune_size (b.drop i)
      rw [List.length_drop] at hs
      rw [show decide ((i : Int) < (b.length : Int)) = true by simp; omega, cond_true, ck_of (decide_eq_true hb)]
      by_cases h0 : (Utf.rune (b.drop i)).2 = 0
      · rw [decide_eq_true h0, cond_true, utf_look.j2_eq, Utf.look_none _ h0]; rfl
      · rw [decide_eq_false h0, cond_false, Utf.look_step _ h0]
        have e1 : v1 = ((i + (Utf.rune (b.drop i)).2.toNat : Nat) : Int) := by rw [h1, i64_in _ (by omega)]; omega
        have e2 : v2 = ((k + 1 : Nat) : Int) := by rw [h2, i64_in _ (by omega)]; omega
        rw [e1, e2, ih _ _ (by omega) (by omega) (by omega), List.drop_drop]
        simp only [Option.some.injEq, List.cons.injEq, TV.i.injEq, true_and, and_true]
        exact ⟨by omega, by omega⟩
    · refine utf_look.l1_in _ _ _ ?_
      intro v1 h1 v2 h2
      rw [show decide ((i : Int) < (b.length : Int)) = false by simp; omega, cond_false, utf_look.j2_eq, List.drop_of_length_le (by omega)]
      rfl
theorem utf_look.goal (b:Str) (hp:decide (b.length≤1099511627776)=true):utf_look.F b=some [.i .i64 ((Utf.look b).1:Int),.i .i64 ((Utf.look b).2:Int)]:=by
 rw [utf_look.F_eq]
 have:=utf_look.l1_ok b (of_decide_eq_true hp) b.length 0 0 (by omega) (by omega) (by omega)
 simpa using this
theorem utf_Check.goal (b:Str) (hp:decide (b.length≤1099511627776)=true):utf_Check.F b=some [.i .i64 ((Utf.look b).1:Int),.b (Utf.whole b)]:=by
 have e:decide (((Utf.look b).1:Int)=(b.length:Int))=Utf.whole b:=by unfold Utf.whole;rw [Bool.eq_iff_iff];simp;omega
 rw [utf_Check.F_eq,ck_of hp,e]
theorem ref2_Rune.end_ (r:Nat) (more least:Nat) {v7 v9:Bool} (h7:v7=(cond (decide ((r:Int)<(least:Int))) true (decide ((1114111:Int)<(r:Int))))) (h9:v9=(cond (decide ((55296:Int)≤(r:Int))) (decide ((r:Int)≤(57343:Int))) false)) :
  cond (cond v7 true v9)
  (some [(.i .i64 (0:Int)),(.i .i64 (0:Int))])
  (some [(.i .i64 (r:Int)),(.i .i64 ((more+1:Nat):Int))])=mres (some r) more least:=by
 have e:cond v7 true v9=decide (r<least∨Utf.isRune r=false):=by
  subst h7 h9
  unfold Utf.isRune
  rw [Bool.eq_iff_iff]
  by_cases a:r<least
  ·simp [a]
  ·by_cases b:1114111<r
   ·simp [a,show (1114111:Int)<(r:Int) by omega] <;> omega
   ·by_cases c:55296≤r
    ·simp [a,show ¬(1114111:Int)<(r:Int) by omega,show (55296:Int)≤(r:Int) by omega] <;> omega
    ·simp [a,show ¬(1114111:Int)<(r:Int) by omega,show ¬(55296:Int)≤(r:Int) by omega] <;> omega
 rw [e]
 unfold mres
 by_cases h:r<least∨Utf.isRune r=false
 ·rw [decide_eq_true h];simp only [h,if_true,cond_true]
 ·rw [decide_eq_false h];simp only [h,if_false,cond_false];rfl
theorem ck6 (a b c:Bool) (hc:c=(!a&&b)):(!(!a) || ((!a)&&(!b || c)))=true:=by subst hc;cases a <;> cases b <;> rfl
theorem ref2_Rune.l2_ok (b : Str) (at_ : Nat) (more least : Nat) (hm : more < 8) (hb : b.length ≤ 1099511627776) (hlt : at_ + more < b.length) : ∀ (k i r : Nat), i + k = more + 1 → r < 2 ^ (10 + 6 * i) →
    ref2_Rune.l2 b at_ ((more + 1 : Nat) : Int) r least i = mres (Utf.cont r k (b.drop (at_ + i))) more least := by
  intro k
  induction k with
  | zero =>
    intro i r hi hr
    refine ref2_Rune.l2_in _ _ _ _ _ _ ?_
    intro v1 h1 v2 h2 v3 h3 v4 h4 v5 h5 v6 h6 v7 h7 v8 h8 v9 h9
    rw [show decide ((i : Int) < ((more + 1 : Nat) : Int)) = false by simp; omega, cond_false]
    simp only [Bool.not_or_self, Bool.or_not_self, ck_true]
    rw [ck_of (ck6 _ _ _ h8), Utf.cont]
    exact ref2_Rune.end_ r more least h7 h9
  | succ k ih =>
    intro i r hi hr
    refine ref2_Rune.l2_in _ _ _ _ _ _ ?_
    intro v1 h1 v2 h2 v3 h3 v4 h4 v5 h5 v6 h6 v7 h7 v8 h8 v9 h9
    have hw : IntKind.i64.wrap ((at_ : Int) + (i : Int)) = ((at_ + i : Nat) : Int) := by rw [i64_in _ (by omega)]; omega
    have hdr := drop_cons (l := b) (i := at_ + i) (by omega) 0
    have hu := u8lt v1
    rw [show decide ((i : Int) < ((more + 1 : Nat) : Int)) = true by simp; omega, cond_true, hw]
    rw [hw, Int.toNat_natCast] at h1
    have e2 : v2 = (v1.toNat : Int) := by rw [h2]; exact i64_in _ (by omega)
    have e3 : v3 = !decide (128 ≤ v1.toNat ∧ v1.toNat < 192) := by
      rw [h3, e2, Bool.eq_iff_iff]
      by_cases a : v1.toNat < 128
      · simp [a]; omega
      · simp [show ¬ (v1.toNat : Int) < 128 by omega]; omega
    simp only [Bool.not_or_self, Bool.or_not_self, ck_true]
    rw [ck_of (idx_ok (by omega) (by omega)), hdr, ← h1, Utf.cont, e3]
    by_cases hc : 128 ≤ v1.toNat ∧ v1.toNat < 192
    · rw [if_pos hc, decide_eq_true hc]
      simp only [Bool.not_true, cond_false]
      have hp : 2 ^ (10 + 6 * i) * 64 = 2 ^ (10 + 6 * (i + 1)) := by rw [show 10 + 6 * (i + 1) = (10 + 6 * i) + 6 by omega, Nat.pow_add 2 (10 + 6 * i) 6]
      have hp2 : 2 ^ (10 + 6 * (i + 1)) ≤ 2 ^ 58 := Nat.pow_le_pow_right (by omega) (by omega)
      have hr64 : r * 64 + 64 ≤ 2 ^ (10 + 6 * (i + 1)) := by
        rw [← hp]; have := Nat.mul_le_mul_right 64 (Nat.succ_le_of_lt hr); omega
      simp at hp2
      have e4 : v4 = ((r * 64 : Nat) : Int) := by rw [h4, i64_in _ (by omega)]; simp
      have e5 : v5 = ((r * 64 + (v1.toNat - 128) : Nat) : Int) := by
        rw [h5, e4, e2, i64_in (((r * 64 : Nat) : Int) + (v1.toNat : Int)) (by omega), i64_in _ (by omega)]; omega
      have e6 : v6 = ((i + 1 : Nat) : Int) := by rw [h6, i64_in _ (by omega)]; omega
      rw [e5, e6, ih (i + 1) _ (by omega) (by omega), Nat.add_assoc]
    · rw [if_neg hc, decide_eq_false hc]
      simp only [Bool.not_false, cond_true]
      rfl
theorem Utf.cont_short : ∀ (k r : Nat) (l : Str), l.length < k → Utf.cont r k l = none := by
  intro k
  induction k with
  | zero => intro r l h; omega
  | succ k ih =>
    intro r l h
    cases l with
    | nil => rfl
    | cons c l =>
      rw [Utf.cont]
      split
      · exact ih _ _ (by simp at h; omega)
      · rfl
theorem ref2_Rune.j1_ok (b:Str) (at_:Nat) (r more least:Nat) (hm:1≤more∧more<8) (hb:b.length≤1099511627776) (hlt:at_<b.length) (hr:r<1024) :
  ref2_Rune.j1 b at_ ((more+1:Nat):Int) r least=mres (Utf.cont r more (b.drop (at_+1))) more least:=by
 refine ref2_Rune.j1_in _ _ _ _ _ ?_
 intro v1 h1
 have e1:v1=(b.length:Int) - at_:=by rw [h1];exact i64_in _ (by omega)
 by_cases hx:at_+more<b.length
 ·rw [show decide (v1<((more+1:Nat):Int))=false by rw [e1];simp;omega,cond_false]
  exact ref2_Rune.l2_ok b at_ more least hm.2 hb hx more 1 r (by omega) (by simp;omega)
 ·rw [show decide (v1<((more+1:Nat):Int))=true by rw [e1];simp;omega,cond_true,Utf.cont_short _ _ _ (by simp;omega)]
  rfl
theorem ref2_Rune.goal (b:Str) (at_:Int) (hp:decide (b.length≤1099511627776)=true):ref2_Rune.F b at_=some [.i .i64 (Utf.runeAt b at_).1,.i .i64 (Utf.runeAt b at_).2]:=by
 have hb:b.length≤1099511627776:=of_decide_eq_true hp
 refine ref2_Rune.F_in b at_ ?_
 intro v1 h1 v2 h2 v3 h3 v4 h4 v5 h5 v6 h6 v7 h7 v8 h8 v9 h9
 unfold Utf.runeAt
 simp only [Bool.not_or_self,Bool.or_not_self,Bool.and_self,ck_true]
 by_cases h0:at_<0
 ·rw [h1,decide_eq_true h0,cond_true,cond_true,if_pos (.inl h0)]
 ·rw [h1,decide_eq_false h0,cond_false]
  obtain ⟨i,rfl⟩:=Int.eq_ofNat_of_zero_le (show 0≤at_ by omega)
  rw [Int.toNat_natCast] at h2
  by_cases hl:b.length≤i
  ·rw [show decide ((b.length:Int)≤(i:Int))=true by simp;omega,if_pos (.inr (by omega)),cond_true]
  ·rw [show decide ((b.length:Int)≤(i:Int))=false by simp;omega,if_neg (by omega),cond_false,ck_of (idx_ok (by omega) (by omega)),Int.toNat_natCast,drop_cons (l:=b) (i:=i) (by omega) 0,←h2,Utf.rune]
   have hc:=u8lt v2
   have e3:v3=(v2.toNat:Int):=by rw [h3];exact i64_in _ (by omega)
   have e4:v4=decide (192≤v2.toNat∧v2.toNat<224):=by rw [h4,e3];exact rng 192 224 _
   have e6:v6=decide (224≤v2.toNat∧v2.toNat<240):=by rw [h6,e3];exact rng 224 240 _
   have e8:v8=decide (240≤v2.toNat∧v2.toNat<248):=by rw [h8,e3];exact rng 240 248 _
   have J:∀(r more least:Nat),1≤more∧more<8→r<1024→ref2_Rune.j1 b i ((more+1:Nat):Int) r least=some [.i .i64 (Utf.multi r more least (b.drop (i+1))).1,.i .i64 (Utf.multi r more least (b.drop (i+1))).2]:=fun r more least h1 h2 =>
    (ref2_Rune.j1_ok b i r more least h1 hb (by omega) h2).trans (mres_eq _ _ _ _)
   by_cases c1:v2.toNat<128
   ·rw [if_pos c1,e3,show decide ((v2.toNat:Int)<128)=true by simp;omega,cond_true]
   ·rw [if_neg c1,show decide (v3<(128:Int))=false by rw [e3];simp;omega,cond_false,e4]
    by_cases c2:192≤v2.toNat∧v2.toNat<224
    ·rw [if_pos c2,decide_eq_true c2,cond_true,show v5=((v2.toNat - 192:Nat):Int) by rw [h5,e3,i64_in _ (by omega)];omega];exact J _ 1 128 (by omega) (by omega)
    ·rw [if_neg c2,decide_eq_false c2,cond_false,e6]
     by_cases c3:224≤v2.toNat∧v2.toNat<240
     ·rw [if_pos c3,decide_eq_true c3,cond_true,show v7=((v2.toNat - 224:Nat):Int) by rw [h7,e3,i64_in _ (by omega)];omega];exact J _ 2 2048 (by omega) (by omega)
     ·rw [if_neg c3,decide_eq_false c3,cond_false,e8]
      by_cases c4:240≤v2.toNat∧v2.toNat<248
      ·rw [if_pos c4,decide_eq_true c4,cond_true,show v9=((v2.toNat - 240:Nat):Int) by rw [h9,e3,i64_in _ (by omega)];omega];exact J _ 3 65536 (by omega) (by omega)
      ·rw [if_neg c4,decide_eq_false c4,cond_false]
theorem ref2_Check.l1_ok (b : Str) (hb : b.length ≤ 1099511627776) : ∀ (m i : Nat), b.length - i ≤ m → i ≤ b.length →
    ref2_Check.l1 b i = some [.i .i64 ((i + (Utf.look (b.drop i)).1 : Nat) : Int), .b (decide (i + (Utf.look (b.drop i)).1 = b.length))] := by
  intro m
  induction m with
  | zero =>
    intro i hm hi
    refine ref2_Check.l1_in _ _ ?_
    intro v1 h1
    rw [show decide ((i : Int) < (b.length : Int)) = false by simp; omega, cond_false, List.drop_of_length_le (by omega)]
    have : (Utf.look []).1 = 0 := by decide
    rw [this, decide_eq_true (show i + 0 = b.length by omega), show i + 0 = b.length by omega]
  | succ m ih =>
    intro i hm hi
    refine ref2_Check.l1_in _ _ ?_
    intro v1 h1
    by_cases hlt : i < b.length
    · rw [Utf.runeAt_nat b i hlt] at h1 ⊢
      have hs := Utf.rune_size (b.drop i)
      rw [List.length_drop] at hs
      rw [show decide ((i : Int) < (b.length : Int)) = true by simp; omega, cond_true, ck_of (decide_eq_true hb)]
      by_cases h0 : (Utf.rune (b.drop i)).2 = 0
      · rw [decide_eq_true h0, cond_true, Utf.look_none _ h0, decide_eq_false (show ¬ i + (0, 0).1 = b.length by simp; omega)]; rfl
      · rw [decide_eq_false h0, cond_false, Utf.look_step _ h0]
        have e1 : v1 = ((i + (Utf.rune (b.drop i)).2.toNat : Nat) : Int) := by rw [h1, i64_in _ (by omega)]; omega
        rw [e1, ih _ (by omega) (by omega), List.drop_drop]
        simp only [Option.some.injEq, List.cons.injEq, TV.i.injEq, TV.b.injEq, true_and, and_true]
        refine ⟨by omega, ?_⟩
        rw [Bool.eq_iff_iff]; simp; omega
    · rw [show decide ((i : Int) < (b.length : Int)) = false by simp; omega, cond_false, List.drop_of_length_le (by omega)]
      have : (Utf.look []).1 = 0 := by decide
      rw [this, decide_eq_true (show i + 0 = b.length by omega), show i + 0 = b.length by omega]
theorem ref2_Check.goal (b:Str) (hp:decide (b.length≤1099511627776)=true):ref2_Check.F b=some [.i .i64 ((Utf.look b).1:Int),.b (Utf.whole b)]:=by
 rw [ref2_Check.F_eq]
 have:=ref2_Check.l1_ok b (of_decide_eq_true hp) b.length 0 (by omega) (by omega)
 simpa [Utf.whole] using this
theorem ref2_Whole.goal (s:Str) (hp:decide (s.length≤1099511627776)=true):ref2_Whole.F s=some [.b (Utf.whole s)]:=by
 rw [ref2_Whole.F_eq,ck_of (big_len (of_decide_eq_true hp)),ck_of hp]
end Go.Eng
namespace Go.Eng
open Go.IntWalk
theorem sl_IndexByte.goal (s:Str) (c:UInt8):sl_IndexByte.F s c=some [.i .i64 (Lib.indexByte s c)]:=sl_IndexByte.F_eq s c
theorem sl_Index.goal (s t:Str) (hp:decide (t.length=1)=true):sl_Index.F s t=some [.i .i64 (Lib.indexByte s (t.getD 0 0))]:=by
 have hl:t.length=1:=of_decide_eq_true hp
 refine sl_Index.F_in s t ?_
 intro v1 h1 v2 h2
 have e0:decide ((t.length:Int)=0)=false:=decide_eq_false (by omega)
 have e1:decide ((t.length:Int)=1)=true:=decide_eq_true (by omega)
 rw [e0] at h1 ⊢
 simp only [Bool.not_false,Bool.not_true,Bool.false_or,Bool.and_self,ck_true,cond_false] at h1 ⊢
 by_cases hs:t=s
 ·subst hs
  rw [h1,decide_eq_true rfl,cond_true]
  obtain ⟨c,rfl⟩:∃c,t=[c]:=by
   match t,hl with
   | [c],_=>exact ⟨c,rfl⟩
  simp [Lib.indexByte]
 ·rw [h1,decide_eq_false hs,cond_false,e1,cond_true,ck_of (idx_ok (by omega) (by omega)),h2];rfl
theorem st_Index.goal (s t:Str) (hp:decide (t.length=1)=true):st_Index.F s t=some [.i .i64 (Lib.indexByte s (t.getD 0 0))]:=by
 refine st_Index.F_in s t ?_
 intro v1 h1
 rw [ck_of hp,h1]
theorem st_Contains.goal (s t:Str) (hp:decide (t.length=1)=true):st_Contains.F s t=some [.b (decide (0≤Lib.indexByte s (t.getD 0 0)))]:=by
 refine st_Contains.F_in s t ?_
 intro v1 h1
 rw [ck_of hp,h1]
theorem tree_Name.goal (k:Int):tree_Name.F k=some [.s (Tree.name k)]:=by
 refine tree_Name.F_in k ?_
 intro v1 h1 v2 h2
 unfold Tree.name
 by_cases a:k=127
 ·rw [if_pos a,decide_eq_true a];rfl
 ·rw [if_neg a,decide_eq_false a,cond_false]
  by_cases b:k=255
  ·rw [if_pos b,decide_eq_true b];rfl
  ·rw [if_neg b,decide_eq_false b,cond_false]
   simp only [Bool.not_or_self,Bool.or_not_self,ck_true]
   by_cases c:k<0∨20≤k
   ·rw [if_pos c,show v1=true by rw [h1];by_cases d:k<0 <;> simp [d];omega];rfl
   ·rw [if_neg c,show v1=false by rw [h1];by_cases d:k<0 <;> simp [d] <;> omega,cond_false,ck_of (idx_ok (by omega) (by omega)),ck_of (by simp;omega),h2];rfl
theorem Tree.name_none (k:Int) (h:k ∉ Tree.kinds):Tree.name k=[]:=by
 simp only [Tree.kinds,List.mem_cons,List.not_mem_nil,not_or] at h
 unfold Tree.name
 rw [if_neg (by omega),if_neg (by omega)]
 by_cases c:k<0∨20≤k
 ·rw [if_pos c]
 ·have:k=0:=by omega
  subst this
  rfl
end Go.Eng
namespace Go.Eng
open Go.IntWalk
theorem indexByte_contains (c : UInt8) : ∀ s : Str, decide (0 ≤ Lib.indexByte s c) = s.contains c
  | [] => by simp [Lib.indexByte]
  | b :: l => by
    have ih := indexByte_contains c l
    have hge := Lib.indexByte_ge l c
    rw [List.contains_cons, ← ih]
    rw [Lib.indexByte]
    by_cases h : b = c
    · subst h; simp
    · rw [if_neg (by simpa using h), show (c == b) = false by rw [beq_eq_false_iff_ne]; exact fun e => h e.symm, Bool.false_or]
      by_cases h1 : Lib.indexByte l c = -1
      · rw [h1]; rfl
      · rw [if_neg (by simpa using h1), decide_eq_true (by omega), decide_eq_true (by omega)]
theorem tree_whole.goal (s:Str) (plain:Bool) (hp:decide (s.length≤1099511627776)=true):tree_whole.F s plain=some [.b (Tree.wholeT s plain)]:=by
 have e:decide (0≤Lib.indexByte s (([0]:Str).getD 0 0))=Utf.zero s:=indexByte_contains 0 s
 refine tree_whole.F_in s plain ?_
 intro v1 h1 v2 h2
 rw [ck_of (big_len (of_decide_eq_true hp)),ck_of hp]
 rw [e] at h1
 subst h1 h2
 unfold Tree.wholeT
 cases Utf.whole s <;> cases plain <;> cases Utf.zero s <;> rfl
theorem tree_fields.goal (v:Val):tree_fields.F v=some [.b (Tree.fieldsOK v)]:=by
 have J2:∀(x:Bool) (v:Val),tree_fields.j2 x v=some [.b (x&&decide (v.bits=0)&&decide (v.high=0)&&decide (v.low=0)&&decide (v.text=[])&&decide (v.more=[])&&decide (v.sub=0)&&decide (v.bytes=[])&&decide (v.kids=[]))]:=by
  intro x v
  refine tree_fields.j2_in x v ?_
  intro v1 h1 v2 h2 v3 h3 v4 h4 v5 h5 v6 h6 v7 h7 v8 h8 v9 h9 v10 h10
  simp only [Bool.not_or_self,ck_true]
  have e1:decide (v7=0)=decide (v.bytes=[]):=by rw [h7,Bool.eq_iff_iff];simp
  have e2:decide (v9=0)=decide (v.kids=[]):=by rw [h9,Bool.eq_iff_iff];simp
  rw [e1] at h8
  rw [e2] at h10
  subst h1 h2 h3 h4 h5 h6 h8 h10
  simp only [Bool.cond_false_right]
 have J3:∀(x0:Bool) (x1:Int) (x2:Bool) (x3:Val),tree_fields.j3 x0 x1 x2 x3=cond x2
  (tree_fields.j2 x0 (Val.mk (Val.kind x3) (Val.bits x3) (Val.high x3) (Val.low x3) ([]:Str) (Val.more x3) (Val.sub x3) (Val.bytes x3) (Val.kids x3)))
  (cond (decide (x1=(11:Int)))
  (tree_fields.j2 x0 (Val.mk (Val.kind x3) (Val.bits x3) (Val.high x3) (Val.low x3) ([]:Str) ([]:Str) (Val.sub x3) (Val.bytes x3) (Val.kids x3)))
  (cond (decide (x1=(5:Int)))
  (tree_fields.j2 (decide (0≤x3.sub)&&decide (x3.sub≤255)) (Val.mk (Val.kind x3) (Val.bits x3) (Val.high x3) (Val.low x3) (Val.text x3) (Val.more x3) (0:Int) ([]:List UInt8) (Val.kids x3)))
  (cond (decide (x1=(7:Int)))
  (tree_fields.j2 (decide (x3.bytes.length=12)) (Val.mk (Val.kind x3) (Val.bits x3) (Val.high x3) (Val.low x3) (Val.text x3) (Val.more x3) (Val.sub x3) ([]:List UInt8) (Val.kids x3)))
  (cond (decide (x1=(12:Int)))
  (tree_fields.j2 (decide (x3.bytes.length=12)) (Val.mk (Val.kind x3) (Val.bits x3) (Val.high x3) (Val.low x3) ([]:Str) (Val.more x3) (Val.sub x3) ([]:List UInt8) (Val.kids x3)))
  (cond (decide (x1=(3:Int)))
  (tree_fields.j4 x0 x1 (decide (x1=(3:Int))) x3)
  (tree_fields.j4 x0 x1 (decide (x1=(4:Int))) x3)))))):=by
  intro x0 x1 x2 x3
  refine tree_fields.j3_in x0 x1 x2 x3 ?_
  intro v1 h1 v2 h2
  have e:decide (v2=12)=decide (x3.bytes.length=12):=by rw [h2,Bool.eq_iff_iff];simp;omega
  simp only [Bool.not_or_self,ck_true,e,h1,Bool.cond_false_right]
 obtain ⟨k,b,hi,lo,t,m,s,y,ks⟩:=v
 simp only [tree_fields.F_eq,tree_fields.j1_eq,J3,tree_fields.j4_eq,J2,Tree.fieldsOK,Tree.hasN]
 by_cases a1:k=1
 ·subst a1;simp;grind
 by_cases a2:k=2
 ·subst a2;simp;grind
 by_cases a3:k=3
 ·subst a3;simp;grind
 by_cases a4:k=4
 ·subst a4;simp;grind
 by_cases a5:k=5
 ·subst a5;simp;grind
 by_cases a7:k=7
 ·subst a7;simp;grind
 by_cases a8:k=8
 ·subst a8;simp;grind
 by_cases a9:k=9
 ·subst a9;simp;grind
 by_cases a11:k=11
 ·subst a11;simp;grind
 by_cases a12:k=12
 ·subst a12;simp;grind
 by_cases a13:k=13
 ·subst a13;simp;grind
 by_cases a14:k=14
 ·subst a14;simp;grind
 by_cases a15:k=15
 ·subst a15;simp;grind
 by_cases a16:k=16
 ·subst a16;simp;grind
 by_cases a17:k=17
 ·subst a17;simp;grind
 by_cases a18:k=18
 ·subst a18;simp;grind
 by_cases a19:k=19
 ·subst a19;simp;grind
 simp [a1,a2,a3,a4,a5,a7,a8,a9,a11,a12,a13,a14,a15,a16,a17,a18,a19];grind
end Go.Eng
namespace Go.Eng
open Go.IntWalk
theorem TreeAx.lens (v:Val) (n:Str) (m:Nat) (h:Fld.bulk (Fld.of n v)≤m):v.text.length≤m∧v.more.length≤m∧n.length≤m∧v.bytes.length≤m∧Fld.bulks v.kids+1≤m:=by
 simp only [Fld.of,Fld.bulk] at h;omega
theorem Fld.bulk_pos (f:Fld):1≤f.bulk:=by cases f;simp only [Fld.bulk];omega
theorem Fld.bulks_get : ∀ (l : List Fld) (i : Nat) (d : Fld), i < l.length → (l.getD i d).bulk ≤ Fld.bulks l
  | f :: l, 0, d, _ => by simp [Fld.bulks]
  | f :: l, i + 1, d, h => by
    have := Fld.bulks_get l i d (by simpa using h)
    simp only [List.getD_cons_succ, Fld.bulks]; omega
theorem Fld.bulks_len:∀(l:List Fld),l.length≤Fld.bulks l
 | []=>by simp
 | f :: l=>by have:=Fld.bulks_len l;have:=Fld.bulk_pos f;simp only [List.length_cons,Fld.bulks];omega
theorem Fld.of_eta (f:Fld):Fld.of f.name f.val=f:=by cases f;rfl
theorem Fld.bulk_val (f:Fld):Fld.bulk (Fld.of [] f.val)≤f.bulk:=by cases f;simp only [Fld.of,Fld.val,Fld.bulk,Fld.kind,Fld.bits,Fld.high,Fld.low,Fld.text,Fld.more,Fld.sub,Fld.bytes,Fld.kids];simp
theorem tree_own (v:Val) (n:Str):Tree.ownN v n=(if Tree.name v.kind=[] then 5 else if Tree.fieldsOK v=false then 1 else if Tree.wholeT v.text (decide (v.kind=11))=false∨Tree.wholeT v.more (decide (v.kind=11))=false∨Tree.wholeT n true=false then 4 else 0):=by
 unfold Tree.ownN Tree.own
 grind
theorem Tree.chkF_of (n:Str) (v:Val) (p:List Int):Tree.chkF (Fld.of n v) p=if Tree.ownN v n≠0 then (p,Tree.ownN v n) else Tree.chkL v.kids 0 p:=by
 cases v;simp only [Fld.of,Tree.chkF]
theorem tree_check.l1_ok (n : Nat) (ks : List Fld) (p : List Int) (hb : Fld.bulks ks + p.length < 1099511627776) (hn : Fld.bulks ks < n) : ∀ (m i : Nat), i + m = ks.length →
    tree_check.l1 n ks (ks.length : Int) i p = some [.sl .is (Tree.chkL (ks.drop i) i p).1, .i .i64 (Tree.chkL (ks.drop i) i p).2, .sl .is p] := by
  have hlen := Fld.bulks_len ks
  intro m
  induction m with
  | zero =>
    intro i hi
    refine tree_check.l1_in _ _ _ _ _ ?_
    intro v1 h1 v2 h2 v3 h3 v4 h4
    rw [decide_eq_false (by omega), cond_false, List.drop_of_length_le (by omega)]; rfl
  | succ m ih =>
    intro i hi
    refine tree_check.l1_in _ _ _ _ _ ?_
    intro v1 h1 v2 h2 v3 h3 v4 h4
    rw [Int.toNat_natCast] at h1
    have hg := Fld.bulks_get ks i (STy.dflt .fl) (by omega)
    rw [← h1] at hg
    rw [Fld.of_eta] at h2 h3 ⊢
    rw [decide_eq_true (by omega), cond_true, ck_of (idx_ok (by omega) (by omega)), ck_of (big_ap (by simp; omega) (by simp; omega)), decide_eq_true (by simp; omega), decide_eq_true (by omega), Bool.and_self, ck_true, drop_cons (l := ks) (i := i) (by omega) (STy.dflt .fl), ← h1, Tree.chkL]
    by_cases h : v3 = 0
    · rw [decide_eq_true h, if_neg (by rw [h3] at h; simpa using h)]
      simp only [Bool.not_true, cond_false]
      rw [show v4 = ((i + 1 : Nat) : Int) by rw [h4, i64_in _ (by omega)]; omega, ih _ (by omega)]
    · rw [decide_eq_false h, if_pos (by rw [h3] at h; simpa using h)]
      simp only [Bool.not_false, cond_true]
      rw [h2, h3]
theorem tree_check.goal (n:Nat) (v:Val) (name:Str) (path:List Int) (hp:((decide (Fld.bulk (Fld.of name v)+path.length≤1099511627776))&&decide ((Fld.bulk (Fld.of name v))<n+1))=true) :
  tree_check.F n v name path=some [.sl .is (Tree.chkF (Fld.of name v) path).1,.i .i64 (Tree.chkF (Fld.of name v) path).2,.sl .is path]:=by
 simp only [Bool.and_eq_true,decide_eq_true_eq] at hp
 obtain ⟨hp,hn⟩:=hp
 obtain ⟨b1,b2,b3,_,_⟩:=TreeAx.lens v name 1099511627776 (by omega)
 have hks:Fld.bulks v.kids<Fld.bulk (Fld.of name v):=by simp only [Fld.of,Fld.bulk];omega
 refine tree_check.F_in n v name path ?_
 intro v1 h1 v2 h2 v3 h3 v4 h4
 rw [Tree.chkF_of,tree_own]
 simp only [Bool.not_or_self,Bool.or_not_self,Bool.and_self,ck_true,decide_eq_true b1,decide_eq_true b2,decide_eq_true b3,Bool.and_true]
 have hap:apOK path.length 8=true:=big_ap (by omega) (by omega)
 simp only [hap,ck_true]
 by_cases a:Tree.name v.kind=[]
 ·rw [decide_eq_true a];simp [a]
 ·rw [decide_eq_false a,cond_false]
  by_cases b:Tree.fieldsOK v=false
  ·rw [b];simp [a]
  ·have b':Tree.fieldsOK v=true:=by simpa using b
   rw [b']
   have e3:v3=decide (Tree.wholeT v.text (decide (v.kind=11))=false∨Tree.wholeT v.more (decide (v.kind=11))=false∨Tree.wholeT name true=false):=by
    subst h1 h2 h3
    cases Tree.wholeT v.text (decide (v.kind=11)) <;> cases Tree.wholeT v.more (decide (v.kind=11)) <;> cases Tree.wholeT name true <;> rfl
   rw [e3,h4]
   by_cases c:Tree.wholeT v.text (decide (v.kind=11))=false∨Tree.wholeT v.more (decide (v.kind=11))=false∨Tree.wholeT name true=false
   ·rw [decide_eq_true c];simp [a,c]
   ·rw [decide_eq_false c]
    simp only [Bool.not_true,cond_false,if_neg a,if_neg c]
    have:=tree_check.l1_ok n v.kids path (by omega) (by omega) v.kids.length 0 (by omega)
    rw [List.drop_zero] at this
    simpa using this
theorem tree_Check.goal (v:Val) (hp:decide (Fld.bulk (Fld.of [] v)≤1099511627776)=true):tree_Check.F v=some [.sl .is (Tree.chkF (Fld.of [] v) []).1,.i .i64 (Tree.chkF (Fld.of [] v) []).2]:=by
 refine tree_Check.F_in v ?_
 intro v1 h1 v2 h2
 rw [ck_of (by simpa using hp),h1,h2]
end Go.Eng
namespace Go.Eng
open Go.IntWalk
theorem Tree.same_iff (a b:Val):Tree.same a b=true ↔ a=b:=by unfold Tree.same;simp
theorem Tree.same_eq (a b:Val) (c:Bool) (h:c=true ↔ a=b):Tree.same a b=c:=by
 rw [Bool.eq_iff_iff,Tree.same_iff,h]
theorem Fld.ext_iff (a b:Fld):a=b ↔ a.name=b.name∧a.val=b.val:=by
 cases a;cases b;simp [Fld.name,Fld.val,Fld.kind,Fld.bits,Fld.high,Fld.low,Fld.text,Fld.more,Fld.sub,Fld.bytes,Fld.kids]
theorem drop_eq {α:Type} {a b:List α} {i:Nat} (ha:i<a.length) (hb:i<b.length) (d:α):a.drop i=b.drop i ↔ a.getD i d=b.getD i d∧a.drop (i+1)=b.drop (i+1):=by
 rw [drop_cons ha d,drop_cons hb d,List.cons.injEq]
theorem Val.ext_own (a b:Val):a=b ↔ Tree.ownSame a b=true∧a.kids=b.kids:=by
 cases a;cases b;simp [Tree.ownSame,and_assoc]
theorem ref17_Own.goal (a b:Val):ref17_Own.F a b=some [.b (Tree.ownSame a b)]:=by
 refine ref17_Own.F_in a b ?_
 intro v1 h1 v2 h2 v3 h3 v4 h4 v5 h5 v6 h6 v7 h7
 subst h1 h2 h3 h4 h5 h6 h7
 simp only [Bool.and_self,Bool.not_or_self,ck_true,Bool.cond_false_right]
 rfl
theorem ref17_Same.l1_ok (n : Nat) (a b : Val) (hl : a.kids.length = b.kids.length) (hb : Fld.bulks a.kids < 1099511627776) (hn : Fld.bulks a.kids < n) : ∀ (m i : Nat), i + m = a.kids.length →
    ∃ c : Bool, ref17_Same.l1 n i a b = some [.b c] ∧ (c = true ↔ a.kids.drop i = b.kids.drop i) := by
  have hlen := Fld.bulks_len a.kids
  intro m
  induction m with
  | zero =>
    intro i hi
    refine ⟨true, ?_, by rw [List.drop_of_length_le (by omega), List.drop_of_length_le (by omega)]; simp⟩
    refine ref17_Same.l1_in _ _ _ _ ?_
    intro v1 h1 v2 h2 v3 h3 v4 h4 v5 h5 v6 h6 v7 h7
    rw [decide_eq_false (by omega), cond_false]
  | succ m ih =>
    intro i hi
    obtain ⟨c, hc1, hc2⟩ := ih (i + 1) (by omega)
    by_cases h : (a.kids.getD i (STy.dflt .fl)) = (b.kids.getD i (STy.dflt .fl))
    · refine ⟨c, ?_, hc2.trans ⟨fun x => (drop_eq (i := i) (by omega) (by omega) (STy.dflt .fl)).2 ⟨h, x⟩, fun x => ((drop_eq (i := i) (by omega) (by omega) (STy.dflt .fl)).1 x).2⟩⟩
      refine ref17_Same.l1_in _ _ _ _ ?_
      intro v1 h1 v2 h2 v3 h3 v4 h4 v5 h5 v6 h6 v7 h7
      rw [Int.toNat_natCast] at h2 h3
      have hg := Fld.bulks_get a.kids i (STy.dflt .fl) (by omega)
      rw [← h2] at hg h
      rw [← h3] at h
      have hv := Fld.bulk_val v2
      rw [decide_eq_true (by omega), cond_true, show v7 = ((i + 1 : Nat) : Int) by rw [h7, i64_in _ (by omega)]; omega, hc1, show idxOK (i : Int) a.kids.length = true from idx_ok (by omega) (by omega), show idxOK (i : Int) b.kids.length = true from idx_ok (by omega) (by omega), decide_eq_true (show Fld.bulk (Fld.of [] v2.val) < n by omega), decide_eq_true (show Fld.bulk (Fld.of [] v2.val) ≤ 1099511627776 by omega)]
      have e5 : v5 = true := by rw [h5, Tree.same_iff, h]
      rw [e5, h, decide_eq_true rfl] at h6
      rw [h, decide_eq_true rfl] at h4 ⊢
      subst h4 h6
      rfl
    · refine ⟨false, ?_, ⟨fun x => (by cases x), fun x => (h ((drop_eq (i := i) (by omega) (by omega) (STy.dflt .fl)).1 x).1).elim⟩⟩
      refine ref17_Same.l1_in _ _ _ _ ?_
      intro v1 h1 v2 h2 v3 h3 v4 h4 v5 h5 v6 h6 v7 h7
      rw [Int.toNat_natCast] at h2 h3
      have hg := Fld.bulks_get a.kids i (STy.dflt .fl) (by omega)
      rw [← h2] at hg h
      rw [← h3] at h
      have hv := Fld.bulk_val v2
      rw [decide_eq_true (by omega), cond_true, show idxOK (i : Int) a.kids.length = true from idx_ok (by omega) (by omega), show idxOK (i : Int) b.kids.length = true from idx_ok (by omega) (by omega), decide_eq_true (show Fld.bulk (Fld.of [] v2.val) < n by omega), decide_eq_true (show Fld.bulk (Fld.of [] v2.val) ≤ 1099511627776 by omega)]
      by_cases hN : v2.name = v3.name
      · have e5 : v5 = false := by
          have : v5 ≠ true := by rw [h5, Ne, Tree.same_iff]; exact fun e => h ((Fld.ext_iff _ _).2 ⟨hN, e⟩)
          simpa using this
        rw [e5, decide_eq_true hN] at h6
        rw [decide_eq_true hN] at h4 ⊢
        subst h4 h6
        rfl
      · rw [decide_eq_false hN] at h4 h6 ⊢
        subst h4 h6
        rfl
theorem ref17_Same.goal (n:Nat) (a b:Val) (hp:((decide (Fld.bulk (Fld.of [] a)≤1099511627776))&&decide ((Fld.bulk (Fld.of [] a))<n+1))=true):ref17_Same.F n a b=some [.b (Tree.same a b)]:=by
 simp only [Bool.and_eq_true,decide_eq_true_eq] at hp
 obtain ⟨hbig,hn⟩:=hp
 have hks:Fld.bulks a.kids<Fld.bulk (Fld.of [] a):=by simp only [Fld.of,Fld.bulk];omega
 refine ref17_Same.F_in n a b ?_
 intro v1 h1 v2 h2 v3 h3
 simp only [Bool.and_self,Bool.not_or_self,Bool.or_not_self,ck_true]
 by_cases hl:a.kids.length=b.kids.length
 ·obtain ⟨c,hc1,hc2⟩:=ref17_Same.l1_ok n a b hl (by omega) (by omega) a.kids.length 0 (by omega)
  rw [decide_eq_true (by omega)] at h3
  rw [List.drop_zero,List.drop_zero] at hc2
  rw [h3]
  cases ho:Tree.ownSame a b
  ·rw [Tree.same_eq a b false (by rw [Val.ext_own,ho];simp)];rfl
  ·rw [Tree.same_eq a b c (by rw [Val.ext_own,ho,hc2];simp)];exact hc1
 ·rw [decide_eq_false (by omega)] at h3
  have:v3=true:=by rw [h3];cases Tree.ownSame a b <;> rfl
  rw [this,Tree.same_eq a b false (by constructor;(· intro h;cases h);(· intro h;rw [h] at hl;exact (hl rfl).elim))];rfl
end Go.Eng
namespace Go.Eng
open Go.IntWalk
theorem tree_Regular.l1_ok (l : List Fld) (hb : l.length ≤ 1099511627776) : ∀ (m i : Nat), i + m = l.length → tree_Regular.l1 l (l.length : Int) i = some [.b (Tree.regularFrom i (l.drop i))] := by
  intro m
  induction m with
  | zero =>
    intro i hi
    refine tree_Regular.l1_in _ _ _ ?_
    intro v1 h1 v2 h2
    rw [decide_eq_false (by omega), cond_false, List.drop_of_length_le (by omega)]; rfl
  | succ m ih =>
    intro i hi
    refine tree_Regular.l1_in _ _ _ ?_
    intro v1 h1 v2 h2
    rw [Int.toNat_natCast] at h1
    rw [decide_eq_true (by omega), cond_true, ck_of (idx_ok (by omega) (by omega)), ck_of (decide_eq_true (by omega)), show v2 = ((i + 1 : Nat) : Int) by rw [h2, i64_in _ (by omega)]; omega, ih _ (by omega), drop_cons (l := l) (i := i) (by omega) (STy.dflt .fl), ← h1, Tree.regularFrom, itoa_nat]
    by_cases a : v1.name = digs i
    · rw [decide_eq_true a]; rfl
    · rw [decide_eq_false a]; rfl
theorem tree_Regular.goal (l:List Fld) (hp:decide (l.length≤1099511627776)=true):tree_Regular.F l=some [.b (Tree.regular l)]:=by
 rw [tree_Regular.F_eq]
 exact tree_Regular.l1_ok l (of_decide_eq_true hp) l.length 0 (by omega)
end Go.Eng
namespace Go.Eng
open Go.IntWalk
theorem book_Room.l1_ok (sizes : List Int) (hl : sizes.length ≤ 10) (hs : ∀ s ∈ sizes, 0 ≤ s) : ∀ (m i : Nat) (left : Int), i + m = sizes.length → left ≤ 10000 → book_Room.l1 left sizes i = some [.i .i64 (Book.room left (sizes.drop i))] := by
  intro m
  induction m with
  | zero =>
    intro i left hi hle
    refine book_Room.l1_in _ _ _ ?_
    intro v1 h1 v2 h2 v3 h3
    rw [decide_eq_false (by omega), cond_false, List.drop_of_length_le (by omega)]; rfl
  | succ m ih =>
    intro i left hi hle
    refine book_Room.l1_in _ _ _ ?_
    intro v1 h1 v2 h2 v3 h3
    rw [Int.toNat_natCast] at h1
    have h0 : 0 ≤ v1 := hs v1 (by rw [h1, List.getD_eq_getElem?_getD, List.getElem?_eq_getElem (show i < sizes.length by omega)]; simp)
    rw [decide_eq_true (by omega), cond_true, show idxOK (i : Int) sizes.length = true from idx_ok (by omega) (by omega), drop_cons (l := sizes) (i := i) (by omega) 0, ← h1, Book.room]
    simp only [Bool.and_self, Bool.and_true, Bool.not_or_self, Bool.or_not_self, ck_true]
    by_cases a : left < 0 ∨ left < v1
    · rw [if_pos a, show v2 = true by rw [h2]; by_cases b : left < 0 <;> simp [b]; omega]; rfl
    · rw [if_neg a, show v2 = false by rw [h2]; by_cases b : left < 0 <;> simp [b] <;> omega, cond_false, show v3 = ((i + 1 : Nat) : Int) by rw [h3, i64_in _ (by omega)]; omega, i64_in _ (by omega), ih _ _ (by omega) (by omega)]
theorem book_Room.goal (left:Int) (sizes:List Int) (hp:(decide (left≤10000∧sizes.length≤10)&&sizes.all (fun s=>decide (0≤s)))=true):book_Room.F left sizes=some [.i .i64 (Book.room left sizes)]:=by
 simp only [Bool.and_eq_true,decide_eq_true_eq,List.all_eq_true] at hp
 rw [book_Room.F_eq]
 exact book_Room.l1_ok sizes hp.1.2 hp.2 sizes.length 0 left (by omega) hp.1.1
theorem Book.room1 (left a:Int) (ha:0≤a) (hl:left≤10000):Book.room left [a]≤10000∧(Book.room left [a]=-1∨(Book.room left [a]=left - a∧0≤left - a)):=by
 simp only [Book.room];split <;> omega
theorem Book.room4 (left a b c d:Int) (ha:0≤a) (hb:0≤b) (hc:0≤c) (hd:0≤d) (hl:left≤10000) :
  Book.room left [a,b,c,d]≤10000∧(Book.room left [a,b,c,d]=-1∨(Book.room left [a,b,c,d]=left - a - b - c - d∧0≤left - a - b - c - d)):=by
 simp only [Book.room]
 split
 ·omega
 ·split
  ·omega
  ·split
   ·omega
   ·split <;> omega
mutual
theorem Book.value_le : ∀ (f : Fld) (left : Int), left ≤ 10000 → Book.value left f ≤ 10000 ∧ (0 ≤ Book.value left f → (Fld.bulk f : Int) - f.name.length ≤ left - Book.value left f)
  | .mk n k b h l t m s y ks, left, hl => by
    have h1 := Book.room4 left 2 t.length m.length y.length (by omega) (by omega) (by omega) (by omega) hl
    have h2 := Book.values_le ks (Book.room left [2, (t.length : Int), (m.length : Int), (y.length : Int)]) h1.1
    simp only [Book.value, Fld.bulk, Fld.name]
    refine ⟨h2.1, fun h0 => ?_⟩
    rcases h1.2 with e | ⟨e, e0⟩
    · have := h2.2.2 (by omega); omega
    · have := h2.2.1 h0; omega
theorem Book.values_le : ∀ (ks : List Fld) (left : Int), left ≤ 10000 → Book.values left ks ≤ 10000 ∧ (0 ≤ Book.values left ks → (Fld.bulks ks : Int) ≤ left - Book.values left ks) ∧ (left < 0 → Book.values left ks < 0)
  | [], left, hl => by simp only [Book.values, Fld.bulks]; omega
  | f :: r, left, hl => by
    simp only [Book.values, Fld.bulks]
    by_cases h : left < 0
    · rw [if_pos h]; omega
    · rw [if_neg h]
      have h1 := Book.room1 left f.name.length (by omega) hl
      have h2 := Book.value_le f (Book.room left [(f.name.length : Int)]) h1.1
      have h3 := Book.values_le r (Book.value (Book.room left [(f.name.length : Int)]) f) h2.1
      refine ⟨h3.1, fun h0 => ?_, fun h0 => by omega⟩
      have h4 := h3.2.1 h0
      have h5 : 0 ≤ Book.value (Book.room left [(f.name.length : Int)]) f := by
        by_cases h6 : Book.value (Book.room left [(f.name.length : Int)]) f < 0
        · have := h3.2.2 h6; omega
        · omega
      have h7 := h2.2 h5
      have hb : (f.name.length : Int) ≤ Fld.bulk f := by cases f; simp only [Fld.name, Fld.bulk]; omega
      rcases h1.2 with e | ⟨e, e0⟩
      · omega
      · omega
end
theorem Book.small_bulk (v:Val) (h:0≤Book.value 1200 (Fld.of [] v)):Fld.bulk (Fld.of [] v)≤10000:=by
 have:=(Book.value_le (Fld.of [] v) 1200 (by omega)).2 h
 have hn:(Fld.of [] v).name=[]:=rfl
 rw [hn] at this
 simp at this;omega
theorem Book.value_val (left:Int) (f:Fld):Book.value left (Fld.of [] f.val)=Book.value left f:=by cases f;rfl
theorem Book.value_lt (f:Fld) (left:Int) (hl:left≤10000) (h0:0≤Book.value left f):Book.value left f+1≤left:=by
 have:=(Book.value_le f left hl).2 h0
 have hb:(f.name.length:Int)+1≤Fld.bulk f:=by cases f;simp only [Fld.name,Fld.bulk];omega
 omega
theorem book_Value.l1_ok (n : Nat) (v : Val) (hn : Fld.bulks v.kids < n) : ∀ (m i : Nat) (left : Int), i + m = v.kids.length → (i : Int) + left ≤ 10000 →
    book_Value.l1 n left i v = some [.i .i64 (Book.values left (v.kids.drop i))] := by
  intro m
  induction m with
  | zero =>
    intro i left hi hle
    refine book_Value.l1_in _ _ _ _ ?_
    intro v1 h1 v2 h2 v3 h3 v4 h4 v5 h5 v6 h6 v7 h7
    simp only [Bool.not_or_self, ck_true]
    rw [show v2 = false by rw [h2, decide_eq_false (by omega)]; rfl, cond_false, List.drop_of_length_le (by omega)]; rfl
  | succ m ih =>
    intro i left hi hle
    refine book_Value.l1_in _ _ _ _ ?_
    intro v1 h1 v2 h2 v3 h3 v4 h4 v5 h5 v6 h6 v7 h7
    rw [Int.toNat_natCast] at h3
    have hg := Fld.bulks_get v.kids i (STy.dflt .fl) (by omega)
    rw [← h3] at hg
    have hv := Fld.bulk_val v3
    have r1 := Book.room1 left v4 (by omega) (by omega)
    rw [← h5] at r1
    have r2 := Book.value_lt v3 v5 r1.1
    rw [Book.value_val] at h6
    simp only [Bool.not_or_self, ck_true]
    rw [drop_cons (l := v.kids) (i := i) (by omega) (STy.dflt .fl), ← h3, Book.values]
    by_cases h : left < 0
    · rw [if_pos h, show v2 = false by rw [h2, decide_eq_false (show ¬ 0 ≤ left by omega)]; simp]; rfl
    · have r3 : (i : Int) + 1 + v6 ≤ 10000 := by
        rw [h6]
        by_cases hx : 0 ≤ Book.value v5 v3
        · have := r2 hx; omega
        · omega
      rw [if_neg h, show v2 = true by rw [h2, decide_eq_true (by omega), decide_eq_true (by omega)]; rfl, cond_true, ck_of (idx_ok (by omega) (by omega)), ck_of (by simp; omega), ck_of (idx_ok (by omega) (by omega)), decide_eq_true r1.1, decide_eq_true (by omega), Bool.and_self, ck_true,
        show v7 = ((i + 1 : Nat) : Int) by rw [h7, i64_in _ (by omega)]; omega, ih _ _ (by omega) (by omega), h6, h5, h4]
theorem book_Value.goal (n:Nat) (left:Int) (v:Val) (hp:((decide (left≤10000))&&decide ((Fld.bulk (Fld.of [] v))<n+1))=true):book_Value.F n left v=some [.i .i64 (Book.value left (Fld.of [] v))]:=by
 simp only [Bool.and_eq_true,decide_eq_true_eq] at hp
 obtain ⟨hl,hn⟩:=hp
 have hks:Fld.bulks v.kids<Fld.bulk (Fld.of [] v):=by simp only [Fld.of,Fld.bulk];omega
 refine book_Value.F_in n left v ?_
 intro v1 h1 v2 h2 v3 h3 v4 h4
 have r:=Book.room4 left 2 v1 v2 v3 (by omega) (by omega) (by omega) (by omega) hl
 rw [←h4] at r
 rw [ck_of (by rw [h4];simp;omega)]
 have key:=book_Value.l1_ok n v (by omega) v.kids.length 0 (Book.room left v4) (by omega) (by omega)
 rw [List.drop_zero] at key
 refine key.trans ?_
 rw [h4,h1,h2,h3]
 rfl
theorem book_Small.goal (v:Val):book_Small.F v=some [.b (decide (0≤Book.value 1200 (Fld.of [] v)))]:=by
 refine book_Small.F_in v ?_
 intro v1 h1
 rw [ck_of (by decide),h1]
end Go.Eng
namespace Go.Eng
open Go.IntWalk
theorem be_step (x:UInt64) (c:UInt8):shl64 x 8 ||| UInt64.ofInt (c.toNat:Int)=x * 256+c.toUInt64:=by
 apply UInt64.toNat_inj.1
 have hc:=c.toNat_lt
 have hx:=x.toNat_lt
 rw [UInt64.toNat_or,u64_nat,shl64,UInt64.toNat_add,UInt64.toNat_mul,UInt64.toNat_ofNat',UInt8.toNat_toUInt64]
 rw [Nat.mod_eq_of_lt (show c.toNat<18446744073709551616 by omega)]
 have e:x.toNat * 2 ^ 8 % 2 ^ 64=(x.toNat % 2 ^ 56) * 2 ^ 8:=by omega
 rw [e,or_add (k:=8) (by omega),show (256:UInt64).toNat=256 from rfl]
 omega
theorem shr_div (v:UInt64) (n:Nat):shr64 (v / 256) (8 * n)=shr64 v (8 * (n+1)):=by
 rw [shr64,shr64,UInt64.toNat_div,show (256:UInt64).toNat=2 ^ 8 from rfl,Nat.div_div_eq_div_mul,←Nat.pow_add,show 8+8 * n=8 * (n+1) by omega]
theorem Cur.putLow_last : ∀ (n : Nat) (v : UInt64), Cur.putLow v (n + 1) = Cur.putLow v n ++ [(shr64 v (8 * n)).toUInt8]
  | 0, v => by
    have : shr64 v (8 * 0) = v := by rw [shr64]; simp
    rw [this]; rfl
  | n + 1, v => by
    rw [Cur.putLow, Cur.putLow_last n, Cur.putLow, shr_div]; rfl
theorem Cur.putHigh_succ (v:UInt64) (n:Nat):Cur.putHigh v (n+1)=(shr64 v (8 * n)).toUInt8 :: Cur.putHigh v n:=by
 rw [Cur.putHigh,Cur.putLow_last,List.reverse_append];rfl
theorem Cur.putLow_len:∀(n:Nat) (v:UInt64),(Cur.putLow v n).length=n
 | 0,_=>rfl
 | n+1,v=>by rw [Cur.putLow,List.length_cons,Cur.putLow_len n]
theorem Cur.putHigh_len (v:UInt64) (n:Nat):(Cur.putHigh v n).length=n:=by rw [Cur.putHigh,List.length_reverse,Cur.putLow_len]
theorem u8_of (v:UInt64):UInt8.ofInt (v.toNat:Int)=v.toUInt8:=by
 apply UInt8.toNat_inj.1
 rw [u8_nat,UInt64.toNat_toUInt8]
mutual
theorem Itm.bulk_kids : ∀ (ks : List Itm), ks.length ≤ Itm.bulks ks
  | [] => Nat.le_refl _
  | k :: r => by
    have h1 := Itm.bulk_pos k
    have h2 := Itm.bulk_kids r
    simp only [Itm.bulks, List.length_cons]; omega
theorem Itm.bulk_pos : ∀ (k : Itm), 1 ≤ Itm.bulk k
  | .mk _ _ b t ks => by simp only [Itm.bulk]; omega
end
theorem Itm.bulks_at : ∀ (ks : List Itm) (i : Nat), i < ks.length → Itm.bulk (ks.getD i (STy.dflt .il)) ≤ Itm.bulks ks
  | [], _, h => by simp at h
  | k :: r, 0, _ => by simp only [List.getD_cons_zero, Itm.bulks]; omega
  | k :: r, i + 1, h => by
    have := Itm.bulks_at r i (by simpa using h)
    simp only [List.getD_cons_succ, Itm.bulks]; omega
theorem Itm.bulk_of (it:Itv):Itm.bulk (Itm.of it)=1+it.bytes.length+it.text.length+Itm.bulks it.kids:=by simp only [Itm.of,Itm.bulk]
theorem not_u64 (v:UInt64):(~~~ v).toNat=18446744073709551615 - v.toNat:=by
 have:=v.toNat_lt
 have h:UInt64.size=18446744073709551616:=rfl
 rw [UInt64.toNat_not];omega
section
variable {n:Nat} {depth p c k long q:Int} {u t:UInt64} {b:Str}
end
theorem Cur.be_snoc (l:Str) (y:UInt8):Cur.be (l++[y])=Cur.be l * 256+y.toUInt64:=by
 rw [Cur.be,List.foldl_append];rfl
theorem Cur.be_put : ∀ (n : Nat) (v : UInt64), n ≤ 8 → (Cur.be (Cur.putHigh v n)).toNat = v.toNat % 256 ^ n
  | 0, v, _ => by rw [Nat.pow_zero, Nat.mod_one]; rfl
  | n + 1, v, hn => by
    have ih := Cur.be_put n (v / 256) (by omega)
    have hp : 256 ^ n ≤ 256 ^ 7 := Nat.pow_le_pow_right (by omega) (by omega)
    have h1 : Cur.putHigh v (n + 1) = Cur.putHigh (v / 256) n ++ [v.toUInt8] := by rw [Cur.putHigh, Cur.putLow, List.reverse_cons]; rfl
    have hlt : (v / 256).toNat % 256 ^ n < 256 ^ n := Nat.mod_lt _ (Nat.pow_pos (by omega))
    rw [h1, Cur.be_snoc, UInt64.toNat_add, UInt64.toNat_mul, ih, UInt8.toNat_toUInt64, UInt64.toNat_toUInt8, show (256 : UInt64).toNat = 256 from rfl]
    rw [UInt64.toNat_div, show (256 : UInt64).toNat = 256 from rfl] at hlt ⊢
    have hm : v.toNat % 256 ^ (n + 1) = v.toNat % 256 + 256 * (v.toNat / 256 % 256 ^ n) := by rw [Nat.pow_succ, Nat.mul_comm (256 ^ n), Nat.mod_mul]
    have h8 : v.toNat % 2 ^ 8 = v.toNat % 256 := rfl
    rw [hm, h8]; omega
mutual
theorem Itm.same_refl:∀(a:Itm),Itm.same a a=true
 | .mk k n b t ks=>by rw [Itm.same];simp [Itm.sames_refl ks]
theorem Itm.sames_refl:∀(l:List Itm),Itm.sames l l=true
 | []=>by rw [Itm.sames]
 | k :: r=>by rw [Itm.sames,Itm.same_refl k,Itm.sames_refl r];rfl
end
theorem Itm.sames_len:∀(a b:List Itm),a.length≠b.length→Itm.sames a b=false
 | [],[],h=>(h rfl).elim
 | [],_ :: _,_=>by rw [Itm.sames]
 | _ :: _,[],_=>by rw [Itm.sames]
 | k :: r,k' :: r',h=>by rw [Itm.sames,Itm.sames_len r r' (fun e=>h (by simp [e])),Bool.and_false]
theorem ref28_Same.l1_ok (n : Nat) (a b : Itv) (hb : Itm.bulks a.kids ≤ 1099511627776) (hn : Itm.bulks a.kids < n) (hl : a.kids.length = b.kids.length) : ∀ (m i : Nat), i + m = a.kids.length → ref28_Same.l1 n i a b = some [.b (Itm.sames (a.kids.drop i) (b.kids.drop i))] := by
  have hk := Itm.bulk_kids a.kids
  intro m
  induction m with
  | zero =>
    intro i hi
    refine ref28_Same.l1_in _ _ _ _ ?_
    intro v1 e1 v2 e2 v3 e3
    rw [decide_eq_false (by omega), cond_false, List.drop_of_length_le (by omega), List.drop_of_length_le (by omega), Itm.sames]
  | succ m ih =>
    intro i hi
    refine ref28_Same.l1_in _ _ _ _ ?_
    intro v1 e1 v2 e2 v3 e3
    have hi' : i < a.kids.length := by omega
    have hi2 : i < b.kids.length := by omega
    have hb' := Itm.bulks_at a.kids i hi'
    rw [Int.toNat_natCast, Itm.of_val, Itm.of_val] at e2
    rw [decide_eq_true (by omega), cond_true, ck_of (idx_ok (by omega) (by omega)), ck_of (idx_ok (by omega) (by omega)), Int.toNat_natCast, Itm.of_val, ck_of (by rw [decide_eq_true (by omega), decide_eq_true (by omega)]; rfl), drop_cons hi' (STy.dflt .il), drop_cons hi2 (STy.dflt .il), Itm.sames, ← e2]
    cases v2 with
    | false => rfl
    | true => rw [Bool.not_true, cond_false, Bool.true_and, show v3 = ((i + 1 : Nat) : Int) by rw [e3, i64_in _ (by omega)]; omega, ih _ (by omega)]
theorem ref28_Same.goal (n:Nat) (a b:Itv) (hp:((decide (Itm.bulk (Itm.of a)≤1099511627776))&&decide ((Itm.bulk (Itm.of a))<n+1))=true):ref28_Same.F n a b=some [.b (Itm.same (Itm.of a) (Itm.of b))]:=by
 simp only [Bool.and_eq_true,decide_eq_true_eq] at hp
 obtain ⟨h,hn⟩:=hp
 rw [Itm.bulk_of] at h hn
 refine ref28_Same.F_in _ _ _ ?_
 intro v1 e1 v2 e2 v3 e3 v4 e4 v5 e5 v6 e6 v7 e7
 have c1:((!decide (a.kind=b.kind)) || v1)=true:=by rw [e1];cases decide (a.kind=b.kind) <;> rfl
 simp only [Bool.not_or_self,Bool.or_not_self,Bool.and_self,ck_true,c1]
 rw [e7,e4,e3,e2,e5,e6]
 simp only [Itm.of,Itm.same]
 by_cases a1:a.kind=b.kind
 ·by_cases a2:a.n=b.n
  ·by_cases a3:a.text=b.text
   ·by_cases a4:a.bytes=b.bytes
    ·by_cases a5:a.kids.length=b.kids.length
     ·have hl:=ref28_Same.l1_ok n a b (by omega) (by omega) a5 a.kids.length 0 (by omega)
      rw [decide_eq_true a1,decide_eq_true a2,decide_eq_true a3,decide_eq_true a4,decide_eq_true (show (a.kids.length:Int)=b.kids.length by omega)]
      simpa using hl
     ·rw [decide_eq_false (show ¬(a.kids.length:Int)=b.kids.length by omega),Itm.sames_len _ _ a5]
      simp [a1,a2,a3,a4]
    ·simp [a4]
   ·simp [a3]
  ·simp [a2]
 ·simp [a1]
end Go.Eng
namespace Go.Eng
open Go.IntWalk
theorem u64_ofInt_wrap (x:Int):UInt64.ofInt (IntKind.i64.wrap x)=UInt64.ofInt x:=by
 apply UInt64.toNat_inj.1
 have h1:=u64_ofInt (IntKind.i64.wrap x)
 have h2:=u64_ofInt x
 rw [wrap_u64'] at h1 h2
 have h3:IntKind.i64.wrap x % 18446744073709551616=x % 18446744073709551616:=by
  simp only [IntKind.wrap,IntKind.bits,IntKind.signed]
  simp
  omega
 omega
theorem u64_add_ofInt (m:Nat) (hm:m<1000000) (k:Int):UInt64.ofNat m+UInt64.ofInt k=UInt64.ofInt ((m:Int)+k):=by
 apply UInt64.toNat_inj.1
 have h1:=u64_ofInt ((m:Int)+k)
 have h2:=u64_ofInt k
 rw [wrap_u64'] at h1 h2
 rw [UInt64.toNat_add,UInt64.toNat_ofNat']
 omega
theorem not_ofInt (v:Int) (h:v<0) (h2 : -9223372036854775808≤v) : ~~~(UInt64.ofInt v)=UInt64.ofInt (-(v+1)):=by
 apply UInt64.toNat_inj.1
 have h1:=u64_ofInt (-(v+1))
 have h3:=u64_ofInt v
 rw [wrap_u64'] at h1 h3
 rw [not_u64]
 omega
theorem i64_rng (x:Int) : -9223372036854775808≤IntKind.i64.wrap x∧IntKind.i64.wrap x≤9223372036854775807:=by
 simp only [IntKind.wrap,IntKind.bits,IntKind.signed]
 simp
 omega
theorem i32_rng (x:Int) : -2147483648≤IntKind.i32.wrap x∧IntKind.i32.wrap x≤2147483647:=by
 simp only [IntKind.wrap,IntKind.bits,IntKind.signed]
 simp
 omega
theorem i64_i32 (x:Int):IntKind.i64.wrap (IntKind.i32.wrap x)=IntKind.i32.wrap x:=by
 have:=i32_rng x
 exact i64_in _ (by omega)
theorem Db.item_of (n:Str) (v:Val):Db.item (Fld.of n v)=Db.itemOf v (Db.mapped v.kids) (Db.items v.kids):=by cases v;rfl
theorem Db.item_val (n:Str) (f:Fld):Db.item (Fld.of n f.val)=Db.item f:=by cases f;rfl
theorem db_text.goal (s:Str):db_text.F s=some [.ag (Itv.cells (Itm.val (Db.text s)))]:=db_text.F_eq s
theorem db_raw.goal (b:Str) (hp:decide (b.length≤1099511627776)=true):db_raw.F b=some [.ag (Itv.cells (Itm.val (Db.raw b)))]:=by
 rw [db_raw.F_eq,ck_of (big_ap (by have:=of_decide_eq_true hp;omega) (by have:=of_decide_eq_true hp;omega))];rfl
theorem db_plus.goal (n:UInt64):db_plus.F n=some [.ag (Itv.cells (Itm.val (Db.plus n)))]:=db_plus.F_eq n
theorem db_simple.goal (n:UInt64):db_simple.F n=some [.ag (Itv.cells (Itm.val (Db.simple n)))]:=db_simple.F_eq n
theorem db_list.goal (l:List Itm):db_list.F l=some [.ag (Itv.cells (Itm.val (Db.list l)))]:=db_list.F_eq l
theorem db_integer.goal (v:Int) (hp:decide (-9223372036854775808≤v∧v≤9223372036854775807)=true):db_integer.F v=some [.ag (Itv.cells (Itm.val (Db.integer v)))]:=by
 have h:=of_decide_eq_true hp
 rw [db_integer.F_eq,Db.integer]
 by_cases a:v<0
 ·rw [decide_eq_true a,cond_true,if_pos a,not_ofInt v a h.1];rfl
 ·rw [decide_eq_false a,cond_false,if_neg a];rfl
theorem db_words.j2_ok (v:Val) (x4:Itv) (acc:Str) (m:Nat) (hm:m<8) (u:UInt64) (q:Nat) (hq:q=0∨q=64) (ha:acc.length≤100):db_words.j2 acc ((8 * m+q:Nat):Int) u v x4=db_words.l1 (acc++[(shr64 u (8 * m)).toUInt8]) (((8 * m+q:Nat):Int) - 8) v x4:=by
 refine db_words.j2_in _ _ _ _ _ ?_
 intro v1 h1 v2 h2 v3 h3
 have e:Int.tmod ((8 * m+q:Nat):Int) 64=((8 * m:Nat):Int):=by
  rw [Int.tmod_eq_emod_of_nonneg (by omega)]
  rcases hq with rfl | rfl <;> omega
 rw [e,Int.toNat_natCast] at h1
 rw [ck_of (by decide),e,ck_of (decide_eq_true (by omega)),ck_of (big_ap (by simp only [List.length_singleton];omega) (by simp only [List.length_singleton];omega)),h3,i64_in _ (by omega),h2,h1,u8_of]
theorem db_words.low_ok (v : Val) (x4 : Itv) : ∀ (m : Nat) (acc : Str), m ≤ 8 → acc.length + m ≤ 50 → db_words.l1 acc (((8 * m : Nat) : Int) - 8) v x4 = some [.ag (Itv.cells (Itm.val (Db.raw (acc ++ Cur.putHigh v.low m))))]
  | 0, acc, _, ha => by
    rw [db_words.l1_eq, decide_eq_false (by omega), cond_false, ck_of (decide_eq_true (by omega)), show Cur.putHigh v.low 0 = [] from rfl, List.append_nil]
  | m + 1, acc, hm, ha => by
    rw [db_words.l1_eq, decide_eq_true (by omega), cond_true, decide_eq_true (by omega), cond_true, show ((8 * (m + 1) : Nat) : Int) - 8 = ((8 * m + 0 : Nat) : Int) by omega, db_words.j2_ok v x4 acc m (by omega) v.low 0 (.inl rfl) (by omega), Nat.add_zero]
    rw [db_words.low_ok v x4 m (acc ++ [(shr64 v.low (8 * m)).toUInt8]) (by omega) (by rw [List.length_append, List.length_singleton]; omega), Cur.putHigh_succ, List.append_assoc]; rfl
theorem db_words.high_ok (v : Val) (x4 : Itv) : ∀ (m : Nat) (acc : Str), m ≤ 8 → acc.length + m ≤ 42 → db_words.l1 acc (((8 * m + 64 : Nat) : Int) - 8) v x4 = some [.ag (Itv.cells (Itm.val (Db.raw (acc ++ Cur.putHigh v.high m ++ Cur.putHigh v.low 8))))]
  | 0, acc, _, ha => by
    rw [show Cur.putHigh v.high 0 = [] from rfl, List.append_nil]
    exact db_words.low_ok v x4 8 acc (by omega) (by omega)
  | m + 1, acc, hm, ha => by
    rw [db_words.l1_eq, decide_eq_true (by omega), cond_true, decide_eq_false (by omega), cond_false, show ((8 * (m + 1) + 64 : Nat) : Int) - 8 = ((8 * m + 64 : Nat) : Int) by omega, db_words.j2_ok v x4 acc m (by omega) v.high 64 (.inr rfl) (by omega)]
    rw [db_words.high_ok v x4 m (acc ++ [(shr64 v.high (8 * m)).toUInt8]) (by omega) (by rw [List.length_append, List.length_singleton]; omega), Cur.putHigh_succ v.high m, List.append_assoc acc]; rfl
theorem db_words.goal (v:Val):db_words.F v=some [.ag (Itv.cells (Itm.val (Db.raw (Db.words v.high v.low))))]:=by
 rw [db_words.F_eq]
 exact db_words.high_ok v _ 8 [] (by omega) (by simp)
theorem Db.mapped_len:∀l:List Fld,(Db.mapped l).length=2 * l.length
 | []=>rfl
 | f :: r=>by rw [Db.mapped,List.length_cons,List.length_cons,Db.mapped_len r,List.length_cons];omega
theorem db_mapped.l1_ok (n : Nat) (l : List Fld) (hb : Fld.bulks l ≤ 1073741824) (hn : 3 * Fld.bulks l + 2 < n) (x3 : Itv) (x4 : Int) (x5 : UInt64) (x6 : Str) : ∀ (m i : Nat) (acc : List Itm), i + m = l.length → acc.length + 2 * m ≤ 2147483648 →
    db_mapped.l1 n l (l.length : Int) i x3 x4 x5 x6 acc = some [.ag [.i .i64 x4, .u64 x5, .sl .bs [], .s x6, .sl .il (acc ++ Db.mapped (l.drop i))]] := by
  have hlen := Fld.bulks_len l
  intro m
  induction m with
  | zero =>
    intro i acc hi ha
    refine db_mapped.l1_in _ _ _ _ _ _ _ _ _ ?_
    intro v1 h1 v2 h2 v3 h3
    rw [decide_eq_false (by omega), cond_false, List.drop_of_length_le (by omega), Db.mapped, List.append_nil]
  | succ m ih =>
    intro i acc hi ha
    refine db_mapped.l1_in _ _ _ _ _ _ _ _ _ ?_
    intro v1 h1 v2 h2 v3 h3
    rw [Int.toNat_natCast] at h1
    have hg := Fld.bulks_get l i (STy.dflt .fl) (by omega)
    rw [← h1] at hg
    have hv := Fld.bulk_val v1
    have h2' : v2 = [Db.text v1.name, Db.item v1] := by rw [h2, Itm.of_val, Itm.of_val, Db.item_val]
    rw [decide_eq_true (by omega), cond_true, ck_of (idx_ok (by omega) (by omega)), decide_eq_true (show 3 * Fld.bulk (Fld.of [] v1.val) + 2 < n by omega), decide_eq_true (show Fld.bulk (Fld.of [] v1.val) ≤ 1073741824 by omega), Bool.and_self, ck_true,
      ck_of (big_ap (by rw [h2']; simp only [List.length_cons, List.length_nil]; omega) (by rw [h2']; simp only [List.length_cons, List.length_nil]; omega)), show v3 = ((i + 1 : Nat) : Int) by rw [h3, i64_in _ (by omega)]; omega, h2', ih _ _ (by omega) (by simp only [List.length_append, List.length_cons, List.length_nil]; omega), drop_cons (l := l) (i := i) (by omega) (STy.dflt .fl), ← h1, Db.mapped, List.append_assoc]; rfl
theorem db_mapped.goal (n:Nat) (l:List Fld) (hp:((decide (Fld.bulks l≤1073741824))&&decide ((3 * Fld.bulks l+3)<n+1))=true):db_mapped.F n l=some [.ag (Itv.cells (Itm.val (Db.map (Db.mapped l))))]:=by
 simp only [Bool.and_eq_true,decide_eq_true_eq] at hp
 have hlen:=Fld.bulks_len l
 rw [db_mapped.F_eq]
 have:=db_mapped.l1_ok n l hp.1 (by omega) (Itv.mk 0 0 [] [] []) 6 0 [] l.length 0 [] (by omega) (by simp;omega)
 rw [List.drop_zero,List.nil_append] at this
 exact this
theorem db_item.l1_ok (n : Nat) (l : List Fld) (hb : Fld.bulks l ≤ 1073741824) (hn : 3 * Fld.bulks l + 2 < n) (x3 : Itv) : ∀ (m i : Nat) (x4 : Itv), i + m = l.length → x4.kids.length + m ≤ 2147483648 →
    db_item.l1 n l (l.length : Int) i x3 x4 = some [.ag (Itv.cells ⟨x4.kind, x4.n, x4.bytes, x4.text, x4.kids ++ Db.items (l.drop i)⟩)] := by
  have hlen := Fld.bulks_len l
  intro m
  induction m with
  | zero =>
    intro i x4 hi ha
    refine db_item.l1_in _ _ _ _ _ _ ?_
    intro v1 h1 v2 h2 v3 h3
    rw [decide_eq_false (by omega), cond_false, List.drop_of_length_le (by omega), Db.items, List.append_nil]
  | succ m ih =>
    intro i x4 hi ha
    refine db_item.l1_in _ _ _ _ _ _ ?_
    intro v1 h1 v2 h2 v3 h3
    rw [Int.toNat_natCast] at h1
    have hg := Fld.bulks_get l i (STy.dflt .fl) (by omega)
    rw [← h1] at hg
    have hv := Fld.bulk_val v1
    have h2' : v2 = [Db.item v1] := by rw [h2, Itm.of_val, Db.item_val]
    rw [decide_eq_true (by omega), cond_true, ck_of (idx_ok (by omega) (by omega)), decide_eq_true (show 3 * Fld.bulk (Fld.of [] v1.val) + 2 < n by omega), decide_eq_true (show Fld.bulk (Fld.of [] v1.val) ≤ 1073741824 by omega), Bool.and_self, ck_true,
      ck_of (big_ap (by rw [h2']; simp only [List.length_cons, List.length_nil]; omega) (by rw [h2']; simp only [List.length_cons, List.length_nil]; omega)), show v3 = ((i + 1 : Nat) : Int) by rw [h3, i64_in _ (by omega)]; omega, h2', ih _ _ (by omega) (by simp only [List.length_append, List.length_cons, List.length_nil]; omega), drop_cons (l := l) (i := i) (by omega) (STy.dflt .fl), ← h1, Db.items, List.append_assoc]; rfl
theorem Val.lens (v:Val) (m:Nat) (h:Fld.bulk (Fld.of [] v)≤m):v.bytes.length<m∧Fld.bulks v.kids<m∧v.kids.length<m:=by
 have:=Fld.bulks_len v.kids
 simp only [Fld.of,Fld.bulk] at h;omega
theorem db_tagged.j2_ok (n:Nat) (x0:Int) (x1:Bool) (v:Val) (x3:Itv) (hx:x0=v.kind) (hb:Fld.bulks v.kids≤1073741824) (hn:3 * Fld.bulks v.kids+3<n) (h1:x1=decide (v.kind=13∨v.kind=14)) (hk:v.kind≠4∧v.kind≠5∧v.kind≠7∧¬(v.kind=9∨v.kind=18)∧v.kind≠11∧v.kind≠12) :
  db_tagged.j2 n x0 x1 v x3=some [.ag (Itv.cells (Itm.val (Db.tagged v (Db.mapped v.kids))))]:=by
 obtain ⟨a4,a5,a7,a9,a11,a12⟩:=hk
 refine db_tagged.j2_in _ _ _ _ _ ?_
 intro v1 e1
 rw [h1,hx,Db.tagged,if_neg a4,if_neg a5,if_neg a7,if_neg a9,if_neg a11,if_neg a12]
 by_cases a:v.kind=13∨v.kind=14
 ·rw [decide_eq_true a,cond_true,if_pos a]
 rw [decide_eq_false a,cond_false,if_neg a]
 by_cases a:v.kind=15
 ·rw [decide_eq_true a,cond_true,if_pos a,ck_of (by rw [decide_eq_true hb,decide_eq_true hn];rfl),e1,Itm.of_val,Itm.of_val]
 rw [decide_eq_false a,cond_false,if_neg a]
 by_cases a:v.kind=17
 ·rw [decide_eq_true a,cond_true,if_pos a]
 rw [decide_eq_false a,cond_false,if_neg a]
 by_cases a:v.kind=19
 ·rw [decide_eq_true a,cond_true,if_pos a]
 rw [decide_eq_false a,cond_false,if_neg a]
theorem db_tagged.j1_ok (n:Nat) (x0:Int) (x1:Bool) (v:Val) (x3:Itv) (hx:x0=v.kind) (hb:Fld.bulks v.kids≤1073741824) (hy:v.bytes.length≤1099511627776) (hn:3 * Fld.bulks v.kids+3<n) (h1:x1=decide (v.kind=9∨v.kind=18)) (hk:v.kind≠4∧v.kind≠5∧v.kind≠7) :
  db_tagged.j1 n x0 x1 v x3=some [.ag (Itv.cells (Itm.val (Db.tagged v (Db.mapped v.kids))))]:=by
 obtain ⟨a4,a5,a7⟩:=hk
 refine db_tagged.j1_in _ _ _ _ _ ?_
 intro v1 e1 v2 e2 v3 e3
 by_cases a:v.kind=9∨v.kind=18
 ·rw [h1,decide_eq_true a,cond_true,Db.tagged,if_neg a4,if_neg a5,if_neg a7,if_pos a,e1,ck_of (decide_eq_true (i64_rng _))];rfl
 rw [h1,decide_eq_false a,cond_false,hx]
 by_cases a11:v.kind=11
 ·rw [decide_eq_true a11,cond_true,Db.tagged,if_neg a4,if_neg a5,if_neg a7,if_neg a,if_pos a11,e2,Itm.of_val,Itm.of_val]
 rw [decide_eq_false a11,cond_false]
 by_cases a12:v.kind=12
 ·rw [decide_eq_true a12,cond_true,Db.tagged,if_neg a4,if_neg a5,if_neg a7,if_neg a,if_neg a11,if_pos a12,ck_of (decide_eq_true hy),e3,Itm.of_val,Itm.of_val]
 rw [decide_eq_false a12,cond_false]
 have J:=fun b hb'=>db_tagged.j2_ok n v.kind b v x3 rfl hb hn hb' ⟨a4,a5,a7,a,a11,a12⟩
 by_cases a13:v.kind=13
 ·rw [decide_eq_true a13,cond_true];exact J _ (by rw [decide_eq_true (.inl a13)])
 ·rw [decide_eq_false a13,cond_false];exact J _ (by simp [a13])
theorem db_tagged.goal (n:Nat) (v:Val) (hp:((decide (Fld.bulk (Fld.of [] v)≤1073741824))&&decide ((3 * Fld.bulk (Fld.of [] v)+1)<n+1))=true):db_tagged.F n v=some [.ag (Itv.cells (Itm.val (Db.tagged v (Db.mapped v.kids))))]:=by
 simp only [Bool.and_eq_true,decide_eq_true_eq] at hp
 obtain ⟨hb,hn⟩:=hp
 obtain ⟨l1,l2,l3⟩:=Val.lens v _ hb
 have hk:Fld.bulks v.kids<Fld.bulk (Fld.of [] v):=by simp only [Fld.of,Fld.bulk];omega
 refine db_tagged.F_in _ _ ?_
 intro v1 e1
 by_cases a4:v.kind=4
 ·rw [decide_eq_true a4,cond_true,ck_of (by rw [decide_eq_true (show Fld.bulks v.kids≤1073741824 by omega),decide_eq_true (show 3 * Fld.bulks v.kids+3<n by omega)];rfl),Db.tagged,if_pos a4]
 rw [decide_eq_false a4,cond_false]
 by_cases a5:v.kind=5
 ·rw [decide_eq_true a5,cond_true,ck_of (decide_eq_true (by omega)),Db.tagged,if_neg a4,if_pos a5,e1,Itm.of_val,Itm.of_val]
 rw [decide_eq_false a5,cond_false]
 by_cases a7:v.kind=7
 ·rw [decide_eq_true a7,cond_true,ck_of (decide_eq_true (by omega)),Db.tagged,if_neg a4,if_neg a5,if_pos a7]
 rw [decide_eq_false a7,cond_false]
 have J:=fun b hb'=>db_tagged.j1_ok n v.kind b v (Itv.mk 0 0 [] [] []) rfl (by omega) (by omega) (by omega) hb' ⟨a4,a5,a7⟩
 by_cases a9:v.kind=9
 ·rw [decide_eq_true a9,cond_true];exact J _ (by rw [decide_eq_true (.inl a9)])
 ·rw [decide_eq_false a9,cond_false];exact J _ (by simp [a9])
theorem db_item.j2_ok (n:Nat) (v:Val) (x1:Itv) (hb:Fld.bulk (Fld.of [] v)≤1073741824) (hn:3 * Fld.bulk (Fld.of [] v)+1<n):db_item.j2 n v x1=some [.ag (Itv.cells (Itm.val (.mk 7 (UInt64.ofInt (1000+v.kind)) [] [] [Db.tagged v (Db.mapped v.kids)])))]:=by
 refine db_item.j2_in _ _ _ ?_
 intro v1 e1 v2 e2
 have h1:v1=UInt64.ofInt (1000+v.kind):=by rw [e1];exact u64_add_ofInt 1000 (by omega) v.kind
 rw [ck_of (by rw [decide_eq_true hb,decide_eq_true hn];rfl),h1,e2,Itm.of_val];rfl
theorem db_item.goal (n:Nat) (v:Val) (hp:((decide (Fld.bulk (Fld.of [] v)≤1073741824))&&decide ((3 * Fld.bulk (Fld.of [] v)+2)<n+1))=true):db_item.F n v=some [.ag (Itv.cells (Itm.val (Db.item (Fld.of [] v))))]:=by
 simp only [Bool.and_eq_true,decide_eq_true_eq] at hp
 obtain ⟨hb,hn⟩:=hp
 obtain ⟨l1,l2,l3⟩:=Val.lens v _ hb
 have hk:Fld.bulks v.kids<Fld.bulk (Fld.of [] v):=by simp only [Fld.of,Fld.bulk];omega
 have J:=db_item.j2_ok n v (Itv.mk 0 0 [] [] []) hb (by omega)
 refine db_item.F_in _ _ ?_
 intro v1 e1 v2 e2 v3 e3 v4 e4
 rw [Db.item_of,Db.itemOf]
 by_cases a:v.kind=1
 ·rw [decide_eq_true a,cond_true,if_pos a];rfl
 rw [decide_eq_false a,cond_false,if_neg a]
 by_cases a:v.kind=2
 ·rw [decide_eq_true a,cond_true,if_pos a]
 rw [decide_eq_false a,cond_false,if_neg a]
 by_cases a:v.kind=3
 ·rw [decide_eq_true a,cond_true,if_pos a,ck_of (by rw [decide_eq_true (show Fld.bulks v.kids≤1073741824 by omega),decide_eq_true (show 3 * Fld.bulks v.kids+3<n by omega)];rfl)]
 rw [decide_eq_false a,cond_false,if_neg a]
 by_cases a:v.kind=4
 ·rw [decide_eq_true a,cond_true,ck_of (decide_eq_true (by omega)),e1]
  by_cases r:Tree.regular v.kids=true
  ·rw [r,cond_true,if_pos ⟨a,rfl⟩,e2]
   have:=db_item.l1_ok n v.kids (by omega) (by omega) (Itv.mk 0 0 [] [] []) v.kids.length 0 ⟨5,0,[],[],[]⟩ (by omega) (by simp only [List.length_nil];omega)
   rw [List.drop_zero,List.nil_append] at this
   exact this
  ·rw [Bool.eq_false_iff.2 r,cond_false,if_neg (fun h=>absurd h.2 (by simp)),if_neg (by omega),if_neg (by omega),if_neg (by omega),if_neg (by omega),if_neg (by omega)]
   exact J
 rw [decide_eq_false a,cond_false,if_neg (fun h=>a h.1)]
 by_cases a:v.kind=5
 ·rw [decide_eq_true a,cond_true]
  by_cases r:v.sub=0
  ·rw [decide_eq_true r,cond_true,if_pos ⟨a,r⟩,ck_of (decide_eq_true (by omega))]
  ·rw [decide_eq_false r,cond_false,if_neg (fun h=>r h.2),if_neg (by omega),if_neg (by omega),if_neg (by omega),if_neg (by omega)]
   exact J
 rw [decide_eq_false a,cond_false,if_neg (fun h=>a h.1)]
 by_cases a:v.kind=6
 ·rw [decide_eq_true a,cond_true,if_pos a]
 rw [decide_eq_false a,cond_false,if_neg a]
 by_cases a:v.kind=10
 ·rw [decide_eq_true a,cond_true,if_pos a]
 rw [decide_eq_false a,cond_false,if_neg a]
 by_cases a:v.kind=8
 ·rw [decide_eq_true a,cond_true,if_pos a,e3]
 rw [decide_eq_false a,cond_false,if_neg a]
 by_cases a:v.kind=16
 ·rw [decide_eq_true a,cond_true,if_pos a,ck_of (decide_eq_true (i64_rng _)),e4,i64_i32];rfl
 rw [decide_eq_false a,cond_false,if_neg a]
 exact J
theorem db_Item.goal (v:Val) (hp:decide (Fld.bulk (Fld.of [] v)≤1073741824)=true):db_Item.F v=some [.ag (Itv.cells (Itm.val (Db.enc v).1)),.ag (Flt.cells (Db.enc v).2)]:=by
 have hb:=of_decide_eq_true hp
 obtain ⟨l1,l2,l3⟩:=Val.lens v _ hb
 refine db_Item.F_in _ ?_
 intro v1 e1 v2 e2
 rw [ck_of (decide_eq_true (by omega)),Db.enc,←e1,←e2]
 by_cases a:v2=0
 ·rw [decide_eq_true a,Bool.not_true,cond_false,if_neg (fun h=>h a)]
  by_cases b:v.kind=3
  ·rw [decide_eq_true b,Bool.not_true,cond_false,if_neg (fun h=>h b),ck_of (decide_eq_true (by omega))];rfl
  ·rw [decide_eq_false b,Bool.not_false,cond_true,if_pos b];rfl
 ·rw [decide_eq_false a,Bool.not_false,cond_true,if_pos a];rfl
end Go.Eng
namespace Go.Eng
open Go.IntWalk
theorem cb_fields.j2_ok (a:Int) (ok:Bool) (it:Itv):cb_fields.j2 a ok it=some [.b (ok&&decide (it.n=0)&&decide (it.bytes=[])&&decide (it.text=[])&&decide (a=0))]:=by
 refine cb_fields.j2_in _ _ _ ?_
 intro v1 e1 v2 e2 v3 e3 v4 e4 v5 e5
 simp only [Bool.not_or_self,ck_true]
 rw [e5,e4,e3,e2,e1]
 cases ok <;> simp [Bool.cond_false_right]
theorem cb_fields.goal (it:Itv) (hp:decide (Itm.bulk (Itm.of it)≤1099511627776)=true):cb_fields.F it=some [.b (Cb.fieldsOK (Itm.of it))]:=by
 obtain ⟨k,n,b,t,ks⟩:=it
 refine cb_fields.F_in _ ?_
 intro v1 e1
 simp only at e1
 have hl:((ks.length:Int)=0)=(ks=[]):=by simp
 have hmod:Int.tmod (ks.length:Int) 2=((ks.length % 2:Nat):Int):=rfl
 have key:∀x4:Bool,x4=decide (k=1∨k=2∨k=9)→cb_fields.j1 v1 true k x4 ⟨k,n,b,t,ks⟩=some [.b (Cb.fieldsOK (Itm.of ⟨k,n,b,t,ks⟩))]:=by
  intro x4 hx
  refine cb_fields.j1_in _ _ _ _ _ ?_
  intro u1 f1
  simp only at f1
  simp only [Bool.not_or_self,ck_true]
  subst e1
  simp only [Cb.fieldsOK,Itm.of]
  by_cases k1:k=1∨k=2∨k=9
  ·rw [hx,decide_eq_true k1,cond_true,cb_fields.j2_ok]
   rcases k1 with rfl | rfl | rfl <;> simp [hl,Bool.and_assoc]
  rw [hx,decide_eq_false k1,cond_false]
  by_cases k3:k=3
  ·subst k3;rw [decide_eq_true rfl,cond_true,cb_fields.j2_ok]
   simp [hl,Bool.and_assoc]
  rw [decide_eq_false k3,cond_false]
  by_cases k4:k=4
  ·subst k4;rw [decide_eq_true rfl,cond_true,cb_fields.j2_ok]
   simp [hl,Bool.and_assoc]
  rw [decide_eq_false k4,cond_false]
  by_cases k5:k=5
  ·subst k5;rw [decide_eq_true rfl,cond_true,cb_fields.j2_ok]
   simp [hl,Bool.and_assoc]
  rw [decide_eq_false k5,cond_false]
  by_cases k6:k=6
  ·subst k6;rw [decide_eq_true rfl,cond_true,ck_of (by decide),cb_fields.j2_ok,hmod]
   rw [show decide (((ks.length % 2:Nat):Int)=0)=decide (ks.length % 2=0) from decide_eq_decide.2 (by omega)]
   by_cases a:ks.length % 2=0 <;> by_cases c:n=0 <;> by_cases d:b=[] <;> by_cases e:t=[] <;> simp [a,c,d,e]
  rw [decide_eq_false k6,cond_false]
  by_cases k7:k=7
  ·subst k7;rw [decide_eq_true rfl,cond_true,cb_fields.j2_ok]
   rw [show decide ((ks.length:Int)=1)=decide (ks.length=1) from decide_eq_decide.2 (by omega)]
   by_cases a:ks.length=1 <;> by_cases d:b=[] <;> by_cases e:t=[] <;> simp [a,d,e]
  rw [decide_eq_false k7,cond_false]
  by_cases k8:k=8
  ·subst k8;rw [decide_eq_true rfl,cond_true,cb_fields.j2_ok,f1]
   by_cases a:20≤n <;> by_cases c:n≤23 <;> by_cases d:b=[] <;> by_cases e:t=[] <;> by_cases f:ks=[] <;> simp [a,c,d,e,f]
  rw [decide_eq_false k8,cond_false,cb_fields.j2_ok]
  simp only [not_or] at k1
  by_cases c:n=0 <;> by_cases d:b=[] <;> by_cases e:t=[] <;> by_cases f:ks=[] <;> simp [c,d,e,f,k1.1,k1.2.1,k1.2.2,k3,k4,k5,k6,k7,k8]
 by_cases k1:k=1
 ·rw [decide_eq_true k1,cond_true];exact key _ (by simp [k1])
 rw [decide_eq_false k1,cond_false]
 by_cases k2:k=2
 ·rw [decide_eq_true k2,cond_true];exact key _ (by simp [k2])
 rw [decide_eq_false k2,cond_false]
 exact key _ (by simp [k1,k2])
theorem Cb.own_eq (it:Itv):Cb.own (Itm.of it)=if it.kind<1∨9<it.kind then 5 else if Cb.fieldsOK (Itm.of it)=false then 1 else if Utf.whole it.text then 0 else 4:=by
 obtain ⟨k,n,b,t,ks⟩:=it
 simp only [Cb.own,Cb.fieldsOK,Itm.of]
 by_cases h0:k<1∨9<k
 ·rw [if_pos h0,if_pos h0]
 rw [if_neg h0,if_neg h0]
 have hk:k=1∨k=2∨k=3∨k=4∨k=5∨k=6∨k=7∨k=8∨k=9:=by omega
 rcases hk with rfl | rfl | rfl | rfl | rfl | rfl | rfl | rfl | rfl <;> simp <;> grind
theorem Cb.chks_at:∀(ks:List Itm) (i:Nat),i<ks.length→Cb.chks (ks.drop i)=if Cb.chk (ks.getD i (STy.dflt .il))=0 then Cb.chks (ks.drop (i+1)) else Cb.chk (ks.getD i (STy.dflt .il)):=by
 intro ks i h
 rw [drop_cons h (STy.dflt .il),Cb.chks]
theorem cb_Check.l1_ok (n : Nat) (ks : List Itm) (hb : Itm.bulks ks ≤ 1099511627776) (hn : Itm.bulks ks < n) : ∀ (m i : Nat), i + m = ks.length → cb_Check.l1 n ks (ks.length : Int) i = some [.i .i64 (Cb.chks (ks.drop i))] := by
  have hk := Itm.bulk_kids ks
  intro m
  induction m with
  | zero =>
    intro i hi
    refine cb_Check.l1_in _ _ _ _ ?_
    intro v1 e1 v2 e2
    rw [decide_eq_false (by omega), cond_false, List.drop_of_length_le (by omega)]; rfl
  | succ m ih =>
    intro i hi
    refine cb_Check.l1_in _ _ _ _ ?_
    intro v1 e1 v2 e2
    have hi' : i < ks.length := by omega
    have hb' := Itm.bulks_at ks i hi'
    rw [Int.toNat_natCast, Itm.of_val] at e1
    rw [decide_eq_true (by omega), cond_true, ck_of (idx_ok (by omega) (by omega)), Int.toNat_natCast, Itm.of_val, ck_of (by rw [decide_eq_true (by omega), decide_eq_true (by omega)]; rfl), Cb.chks_at ks i hi', ← e1]
    by_cases a : v1 = 0
    · rw [decide_eq_true a, Bool.not_true, cond_false, if_pos a, show v2 = ((i + 1 : Nat) : Int) by rw [e2, i64_in _ (by omega)]; omega, ih _ (by omega)]
    · rw [decide_eq_false a, Bool.not_false, cond_true, if_neg a]
theorem Cb.chk_of (it:Itv):Cb.chk (Itm.of it)=if Cb.own (Itm.of it)=0 then Cb.chks it.kids else Cb.own (Itm.of it):=by rw [Itm.of,Cb.chk]
theorem cb_Check.goal (n : Nat) (it : Itv) (hp : ((decide (Itm.bulk (Itm.of it) ≤ 1099511627776)) && decide ((Itm.bulk (Itm.of it)) < n + 1)) = true) : cb_Check.F n it = some [.i .i64 (Cb.chk (Itm.of it))] := by
  simp only [Bool.and_eq_true, decide_eq_true_eq] at hp
  obtain ⟨h, hn⟩ := hp
  rw [Itm.bulk_of] at h hn
  refine cb_Check.F_in _ _ ?_
  intro v1 e1 v2 e2 v3 e3 v4 e4
  simp only [Bool.not_or_self, Bool.or_not_self, ck_true]
  rw [ck_of (decide_eq_true (by rw [Itm.bulk_of]; omega)), ck_of (big_len (by omega)), ck_of (decide_eq_true (by omega)), e4, e3]
  have hl := cb_Check.l1_ok n it.kids (by omega) (by omega) it.kids.length 0 (by omega)
  rw [show cb_Check.l1 n it.kids (it.kids.length : Int) 0 = some [.i .i64 (Cb.chks it.kids)] from hl, Cb.chk_of, Cb.own_eq]
  have hv : v1 = decide (it.kind < 1 ∨ 9 < it.kind) := by
    rw [e1]
    by_cases a : it.kind < 1 <;> by_cases b : 9 < it.kind <;> simp [a, b]
  rw [hv]
  by_cases h0 : it.kind < 1 ∨ 9 < it.kind
  · rw [decide_eq_true h0, cond_true, if_pos h0]; rfl
  rw [decide_eq_false h0, cond_false, if_neg h0]
  cases hf : Cb.fieldsOK (Itm.of it) with
  | false => rfl
  | true =>
    cases hw : Utf.whole it.text <;> rfl
theorem ref28_own.goal (it:Itv) (hp:decide (Itm.bulk (Itm.of it)≤1099511627776)=true):ref28_own.F it=some [.i .i64 (Cb.own (Itm.of it))]:=by
 have h:=of_decide_eq_true hp
 rw [Itm.bulk_of] at h
 have hks:=Itm.bulk_kids it.kids
 obtain ⟨k,n,b,t,ks⟩:=it
 simp only at h hks
 refine ref28_own.F_in _ ?_
 intro v1 h1 v2 h2 v3 h3 v4 h4 v5 h5 v6 h6 v7 h7 v8 h8 v9 h9 v10 h10 v11 h11 v12 h12 v13 h13 v14 h14 v15 h15 v16 h16 v17 h17 v18 h18 v19 h19 v20 h20 v21 h21 v22 h22 v23 h23 v24 h24
 simp only at h1 h2 h3 h4 h5 h6 h7 h8 h9 h10 h11 h12 h13 h14 h15 h16 h17 h18 h19 h20 h21 h22 h23 h24 ⊢
 subst h6 h9 h16 h19 h21
 simp only [Bool.not_or_self,Bool.or_not_self,Bool.and_self,ck_true,ck4,ck5,Bool.and_true,show (!decide ((2:Int)=0))=true from rfl,decide_eq_true (show t.length≤1099511627776 by omega)]
 have l0:∀{α:Type} (l:List α),decide ((0:Int)<(l.length:Int))=decide (l≠[]):=by
  intro α l;rw [decide_eq_decide];cases l <;> simp <;> omega
 have e4:v4=decide (k<1∨9<k):=by
  rw [h4];by_cases a:k<1 <;> by_cases c:9<k <;> simp [a,c]
 have e3:v3=decide (¬(k=3∨k=4∨k=5∨k=6)):=by
  rw [h3,h2,h1];by_cases a:k=3 <;> by_cases c:k=4 <;> by_cases d:k=5 <;> by_cases e:k=6 <;> simp [a,c,d,e]
 have e11:v11=decide (((k=3∨k=4∨k=5∨k=6)∧n≠0)∨(k≠3∧b≠[])∨(k≠4∧t≠[])):=by
  rw [h11,h10,h8,h5,e3,h7,l0]
  by_cases a:k=3∨k=4∨k=5∨k=6 <;> by_cases c:n=0 <;> by_cases d:k=3 <;> by_cases f:b=[] <;> by_cases g:k=4 <;> by_cases g':t=[] <;> simp [a,c,d,f,g,g']
 have e15:v15=decide (k≠5∧k≠6∧k≠7∧ks≠[]):=by
  rw [h15,h13,h12,h14,l0]
  by_cases d:k=5 <;> by_cases e:k=6 <;> by_cases e7:k=7 <;> by_cases f:ks=[] <;> simp [d,e,e7,f]
 have e23:v23=decide ((k=8∧(n<20∨23<n))∨(k=6∧ks.length % 2≠0)∨(k=7∧ks.length≠1)):=by
  rw [h23,h22,h20,h18,h17,h14,show Int.tmod (ks.length:Int) 2=((ks.length % 2:Nat):Int) from rfl,show decide (((ks.length % 2:Nat):Int)=0)=decide (ks.length % 2=0) from decide_eq_decide.2 (by omega),show decide ((ks.length:Int)=1)=decide (ks.length=1) from decide_eq_decide.2 (by omega)]
  by_cases c:k=8 <;> by_cases e:k=6 <;> by_cases d:k=7 <;> by_cases g:n<20 <;> by_cases g':23<n <;> by_cases g3:ks.length % 2=0 <;> by_cases g4:ks.length=1 <;> simp only [c,d,e,g,g',g3,g4,decide_true,decide_false,cond_true,cond_false,Bool.not_true,Bool.not_false,true_and,false_and,and_true,and_false,true_or,or_true,or_false,false_or,or_self,not_true,not_false_iff,ne_eq] <;> first | rfl | omega
 rw [e4,e11,e15,e23,h24,Itm.of,Cb.own]
 by_cases a1:k<1∨9<k
 ·rw [decide_eq_true a1,if_pos a1];rfl
 rw [decide_eq_false a1,if_neg a1,cond_false]
 by_cases a2:((k=3∨k=4∨k=5∨k=6)∧n≠0)∨(k≠3∧b≠[])∨(k≠4∧t≠[])
 ·rw [decide_eq_true a2,if_pos a2];rfl
 rw [decide_eq_false a2,if_neg a2,cond_false]
 by_cases a3:k≠5∧k≠6∧k≠7∧ks≠[]
 ·rw [decide_eq_true a3,if_pos a3];rfl
 rw [decide_eq_false a3,if_neg a3,cond_false]
 by_cases a4:(k=8∧(n<20∨23<n))∨(k=6∧ks.length % 2≠0)∨(k=7∧ks.length≠1)
 ·rw [decide_eq_true a4,if_pos a4];rfl
 rw [decide_eq_false a4,if_neg a4,cond_false]
 cases hw:Utf.whole t <;> rfl
theorem ref28_Check.l1_ok (n : Nat) (it : Itv) (hb : Itm.bulks it.kids ≤ 1099511627776) (hn : Itm.bulks it.kids < n) : ∀ (m i : Nat) (e : Int), i + m = it.kids.length → ref28_Check.l1 n e i it = some [.i .i64 (if e = 0 then Cb.chks (it.kids.drop i) else e)] := by
  have hk := Itm.bulk_kids it.kids
  intro m
  induction m with
  | zero =>
    intro i e hi
    refine ref28_Check.l1_in _ _ _ _ ?_
    intro v1 e1 v2 e2 v3 e3 v4 e4
    simp only [Bool.not_or_self, ck_true]
    rw [e2, decide_eq_false (by omega), cond_false, cond_false, List.drop_of_length_le (by omega)]
    split
    · rename_i h; rw [h]; rfl
    · rfl
  | succ m ih =>
    intro i e hi
    refine ref28_Check.l1_in _ _ _ _ ?_
    intro v1 e1 v2 e2 v3 e3 v4 e4
    simp only [Bool.not_or_self, ck_true]
    have hi' : i < it.kids.length := by omega
    have hb' := Itm.bulks_at it.kids i hi'
    rw [Int.toNat_natCast, Itm.of_val] at e3
    rw [e2, decide_eq_true (by omega), cond_true]
    by_cases a : e = 0
    · rw [decide_eq_true a, cond_true, if_pos a, ck_of (idx_ok (by omega) (by omega)), Int.toNat_natCast, Itm.of_val, ck_of (by rw [decide_eq_true (by omega), decide_eq_true (by omega)]; rfl), show v4 = ((i + 1 : Nat) : Int) by rw [e4, i64_in _ (by omega)]; omega, ih _ _ (by omega), e3, Cb.chks_at it.kids i hi']
    · rw [decide_eq_false a, cond_false, if_neg a]
theorem ref28_Check.goal (n:Nat) (it:Itv) (hp:((decide (Itm.bulk (Itm.of it)≤1099511627776))&&decide ((Itm.bulk (Itm.of it))<n+1))=true):ref28_Check.F n it=some [.i .i64 (Cb.chk (Itm.of it))]:=by
 simp only [Bool.and_eq_true,decide_eq_true_eq] at hp
 obtain ⟨h,hn⟩:=hp
 rw [ref28_Check.F_eq,ck_of (decide_eq_true h)]
 rw [Itm.bulk_of] at h hn
 have hl:=ref28_Check.l1_ok n it (by omega) (by omega) it.kids.length 0 (Cb.own (Itm.of it)) (by omega)
 rw [Cb.chk_of]
 exact hl
end Go.Eng
namespace Go.Eng
open Go.IntWalk
theorem db_none.goal (path:List Int) (hp:decide (path.length≤1099511627776)=true):db_none.F path=some [.ag (Flt.cells (Flt.mk 12 0 path)),.sl .is path]:=by
 have:=of_decide_eq_true hp
 rw [db_none.F_eq,ck_of (big_ap (by omega) (by omega))];rfl
theorem n63 {n:UInt64} (h:¬(9223372036854775808:UInt64)≤n):n.toNat<9223372036854775808:=UInt64.lt_iff_toNat_lt.1 (UInt64.not_le.1 h)
theorem Db.number_of (it:Itv):Db.number (Itm.of it)=if 9223372036854775808≤it.n then none else if it.kind=1 then some (it.n.toNat:Int) else if it.kind=2 then some (-1 - (it.n.toNat:Int)) else none:=rfl
theorem db_number.goal (it:Itv):db_number.F it=some [.i .i64 ((Db.number (Itm.of it)).getD 0),.b (Db.number (Itm.of it)).isSome]:=by
 refine db_number.F_in _ ?_
 intro v1 h1 v2 h2
 rw [Db.number_of]
 by_cases a:9223372036854775808≤it.n
 ·rw [decide_eq_true a,cond_true,if_pos a];rfl
 have hn:=n63 a
 have e1:v1=(it.n.toNat:Int):=by rw [h1,i64_in _ (by omega)]
 rw [decide_eq_false a,cond_false,if_neg a]
 by_cases b:it.kind=1
 ·rw [decide_eq_true b,cond_true,if_pos b,e1];rfl
 rw [decide_eq_false b,cond_false,if_neg b]
 by_cases c:it.kind=2
 ·rw [decide_eq_true c,cond_true,if_pos c,h2,e1,i64_in _ (by omega)];rfl
 rw [decide_eq_false c,cond_false,if_neg c];rfl
theorem Db.numberI_eq (it:Itm) (h:(Db.number it).isSome=true):Db.numberI it=(Db.number it).getD 0:=by
 unfold Db.number Db.numberI at *
 by_cases a:9223372036854775808≤it.n
 ·rw [if_pos a] at h;cases h
 rw [if_neg a] at h ⊢
 rw [if_neg a]
 by_cases b:it.kind=1
 ·rw [if_pos b,if_neg (by omega)];rfl
 rw [if_neg b] at h ⊢
 by_cases c:it.kind=2
 ·rw [if_pos c,if_pos c];rfl
 rw [if_neg c] at h;cases h
theorem db_kinds.goal (it:Itv) (a b:Int):db_kinds.F it a b=some [.b (Db.kinds (Itm.of it) a b)]:=by
 refine db_kinds.F_in _ _ _ ?_
 intro v1 h1 v2 h2 v3 h3 v4 h4 v5 h5 v6 h6
 have e2:v2=decide (it.kind=5∧it.kids.length=2):=by
  rw [h2,h1,show decide ((it.kids.length:Int)=2)=decide (it.kids.length=2) from decide_eq_decide.2 (by omega)]
  by_cases x:it.kind=5 <;> simp [x]
 have ek:Db.kinds (Itm.of it) a b=decide (it.kind=5∧it.kids.length=2∧v3=a∧v5=b):=by rw [h3,h5];rfl
 rw [ek]
 by_cases c:it.kind=5∧it.kids.length=2
 ·have i0:idxOK (0:Int) it.kids.length=true:=idx_ok (by omega) (by omega)
  have i1:idxOK (1:Int) it.kids.length=true:=idx_ok (by omega) (by omega)
  have hv2:v2=true:=by rw [e2];exact decide_eq_true c
  simp only [i0,i1,Bool.and_true,Bool.not_or_self,Bool.and_self,ck_true]
  congr 3
  rw [h6,h4,hv2]
  by_cases x:v3=a <;> by_cases y:v5=b <;> simp [x,y,c.1,c.2]
 ·have hv2:v2=false:=by rw [e2];exact decide_eq_false c
  have hv4:v4=false:=by rw [h4,hv2];rfl
  have hv6:v6=false:=by rw [h6,hv4];rfl
  rw [decide_eq_false (show ¬(it.kind=5∧it.kids.length=2∧v3=a∧v5=b) from fun h=>c ⟨h.1,h.2.1⟩),hv2,hv4,hv6]
  simp only [Bool.not_or_self,Bool.not_false,Bool.true_or,ck_true]
end Go.Eng
namespace Go.Eng
open Go.IntWalk
theorem Db.regularFrom_cons (j:Nat) (k:Itm) (r:List Itm):Db.regularFrom j (k :: r)=(decide (k.kind=4∧k.text=digs j)&&Db.regularFrom (j+1) (r.drop 1)):=by
 cases r with
 | nil=>simp [Db.regularFrom]
 | cons x r=>rw [Db.regularFrom];rfl
theorem db_regular.l1_ok (l : List Itm) (hb : l.length ≤ 1099511627776) : ∀ (m j : Nat), l.length ≤ 2 * j + m → db_regular.l1 l ((2 * j : Nat) : Int) = some [.b (Db.regularFrom j (l.drop (2 * j)))] := by
  intro m
  induction m using Nat.strongRecOn with
  | _ m ih =>
  intro j hj
  refine db_regular.l1_in _ _ ?_
  intro v1 h1 v2 h2 v3 h3 v4 h4 v5 h5 v6 h6
  by_cases a : 2 * j < l.length
  · rw [Int.toNat_natCast] at h1 h3
    have e4 : v4 = (j : Int) := by
      rw [h4, show Int.tdiv ((2 * j : Nat) : Int) 2 = (j : Int) by rw [Int.tdiv_eq_ediv_of_nonneg (by omega)]; omega, i64_in _ (by omega)]
    have hi : idxOK ((2 * j : Nat) : Int) l.length = true := idx_ok (by omega) (by omega)
    have hr : decide (-9223372036854775808 ≤ v4 ∧ v4 ≤ 9223372036854775807) = true := decide_eq_true (by omega)
    have h2' : v2 = decide (v1 = 4) := by rw [h2, Bool.not_not]
    rw [drop_cons a (STy.dflt .il), Db.regularFrom_cons, ← h1, ← h3, List.drop_drop]
    simp only [hi, hr, show (!decide ((2 : Int) = 0)) = true from rfl, Bool.and_true, Bool.not_or_self, Bool.and_self, ck_true]
    rw [decide_eq_true (by omega), cond_true, ck_of (by rw [h2']; cases decide (v1 = 4) <;> rfl), h5, e4, itoa_nat]
    by_cases x : v1 = 4
    · by_cases y : v3 = digs j
      · rw [decide_eq_true x, decide_eq_true y, decide_eq_true (show v1 = 4 ∧ v3 = digs j from ⟨x, y⟩), Bool.true_and]
        simp only [Bool.not_true, cond_false]
        rw [h6, i64_in _ (by omega), show ((2 * j : Nat) : Int) + 2 = ((2 * (j + 1) : Nat) : Int) by omega, ih (m - 1) (by omega) (j + 1) (by omega), show 2 * (j + 1) = 2 * j + 1 + 1 by omega]
      · rw [decide_eq_true x, decide_eq_false y, decide_eq_false (show ¬ (v1 = 4 ∧ v3 = digs j) from fun h => y h.2)]; rfl
    · rw [decide_eq_false x, decide_eq_false (show ¬ (v1 = 4 ∧ v3 = digs j) from fun h => x h.1)]; rfl
  · rw [decide_eq_false (by omega), cond_false, List.drop_of_length_le (by omega)]; rfl
theorem db_regular.goal (l:List Itm) (hp:decide (l.length≤1099511627776)=true):db_regular.F l=some [.b (Db.regular l)]:=by
 rw [db_regular.F_eq]
 exact db_regular.l1_ok l (of_decide_eq_true hp) l.length 0 (by omega)
end Go.Eng
namespace Go.Eng
open Go.IntWalk
theorem tag_kind {n:UInt64} (h:¬(n<1000∨1255<n)):1000≤n.toNat∧n.toNat≤1255∧IntKind.i64.wrap ((n - 1000).toNat:Int)=(n.toNat:Int) - 1000∧∀(m:Int) (u:UInt64),(u.toNat:Int)=m+1000→decide ((n.toNat:Int) - 1000=m)=decide (n=u):=by
 have h1:1000≤n.toNat:=Nat.le_of_not_lt fun q=>h (.inl (UInt64.lt_iff_toNat_lt.2 q))
 have h2:n.toNat≤1255:=Nat.le_of_not_lt fun q=>h (.inr (UInt64.lt_iff_toNat_lt.2 q))
 have e:(n - 1000).toNat=n.toNat - 1000:=UInt64.toNat_sub_of_le _ _ (UInt64.le_iff_toNat_le.2 h1)
 refine ⟨h1,h2,by rw [e,i64_in _ (by omega)];omega,fun m u hu=>decide_eq_decide.2 ?_⟩
 rw [←UInt64.toNat_inj];omega
theorem two_lens (it:Itv) (a b:Int) (h:Db.kinds (Itm.of it) a b=true):idxOK (0:Int) it.kids.length=true∧idxOK (1:Int) it.kids.length=true:=by
 have:=of_decide_eq_true h
 have h2:it.kids.length=2:=this.2.1
 exact ⟨idx_ok (by omega) (by omega),idx_ok (by omega) (by omega)⟩
theorem kid_lens (it:Itv) (i:Nat) (m:Nat) (h:Itm.bulk (Itm.of it)≤m) (hi:i<it.kids.length):(it.kids.getD i (STy.dflt .il)).text.length≤m∧(it.kids.getD i (STy.dflt .il)).bytes.length≤m:=by
 rw [Itm.bulk_of] at h
 have h2:=Itm.bulks_at it.kids i hi
 generalize it.kids.getD i (STy.dflt .il)=x at h2 ⊢
 obtain ⟨k,n,b,t,ks⟩:=x
 simp only [Itm.bulk,Itm.text,Itm.bytes] at h2 ⊢;omega
theorem contains_two (a b:Str):decide (0≤Lib.indexByte (a++b) (([0]:Str).getD 0 0))=(Utf.zero a || Utf.zero b):=by
 have e:decide (0≤Lib.indexByte (a++b) (([0]:Str).getD 0 0))=(a++b).contains 0:=indexByte_contains 0 _
 rw [e]
 unfold Utf.zero
 rw [Bool.eq_iff_iff];simp
theorem be_take_succ (b:Str) (i:Nat) (h:i<b.length):Cur.be (b.take (i+1))=shl64 (Cur.be (b.take i)) 8 ||| UInt64.ofInt ((b.getD i 0).toNat:Int):=by
 rw [be_step,List.take_succ_eq_append_getElem h,Cur.be_snoc,List.getD_eq_getElem?_getD,List.getElem?_eq_getElem h];rfl
theorem db_small.l4_ok (b : Str) (hb : b.length = 16) (x4 : Val) : ∀ (m i : Nat) (v : Val), i + m = 16 → v.high = Cur.be (b.take (min i 8)) → v.low = Cur.be ((b.drop 8).take (i - 8)) →
    db_small.l4 true b 16 i x4 v = some [.ag (Val.cells { v with high := Cur.be (b.take 8), low := Cur.be (b.drop 8) }), .b true] := by
  intro m
  induction m with
  | zero =>
    intro i v hi hh hl
    refine db_small.l4_in _ _ _ _ _ _ ?_
    intro v1 h1 v2 h2 v3 h3 v4 h4
    rw [decide_eq_false (by omega), cond_false, db_small.j1_eq]
    rw [show min i 8 = 8 by omega] at hh
    rw [show i - 8 = 8 by omega, List.take_of_length_le (by rw [List.length_drop]; omega)] at hl
    rw [← hh, ← hl]
  | succ m ih =>
    intro i v hi hh hl
    refine db_small.l4_in _ _ _ _ _ _ ?_
    intro v1 h1 v2 h2 v3 h3 v4 h4
    rw [Int.toNat_natCast] at h1
    rw [decide_eq_true (by omega), cond_true, ck_of (idx_ok (by omega) (by omega))]
    have h8 : ((8 : UInt64)).toNat = 8 := rfl
    by_cases a : i < 8
    · rw [decide_eq_true (by omega), cond_true]
      refine db_small.j5_in _ _ _ _ _ _ ?_
      intro u1 f1
      have e : v2 ||| v3 = Cur.be (b.take (i + 1)) := by rw [h2, h3, h1, hh, h8, show min i 8 = i by omega, be_take_succ b i (by omega)]
      rw [f1, i64_in _ (by omega), show (i : Int) + 1 = ((i + 1 : Nat) : Int) by omega, ih (i + 1) _ (by omega) (by rw [show min (i + 1) 8 = i + 1 by omega]; exact e) (by rw [show i + 1 - 8 = i - 8 by omega]; exact hl)]
    · rw [decide_eq_false (by omega), cond_false]
      refine db_small.j5_in _ _ _ _ _ _ ?_
      intro u1 f1
      have e : v4 ||| v3 = Cur.be ((b.drop 8).take (i + 1 - 8)) := by
        rw [h4, h3, h1, hl, h8, show i + 1 - 8 = (i - 8) + 1 by omega, be_take_succ _ (i - 8) (by rw [List.length_drop]; omega)]
        rw [List.getD_eq_getElem?_getD, List.getD_eq_getElem?_getD, List.getElem?_drop, show 8 + (i - 8) = i by omega]
      rw [f1, i64_in _ (by omega), show (i : Int) + 1 = ((i + 1 : Nat) : Int) by omega, ih (i + 1) _ (by omega) (by rw [show min (i + 1) 8 = min i 8 by omega]; exact hh) e]
section
variable {n:UInt64} {it:Itv} {z:Val}
theorem db_small.j3_ok (x2:Bool) (hn:¬(n<1000∨1255<n)) (h2:x2=decide (n=1013∨n=1014)) (a5:n≠1005) (a7:n≠1007) (a9:¬(n=1009∨n=1018)) (a11:n≠1011) (a12:n≠1012) :
  db_small.j3 false ((n.toNat:Int) - 1000) x2 it z (Db.doc ((n.toNat:Int) - 1000) [])=some [.ag (Val.cells (Db.smallV n (Itm.of it)).1),.b (Db.smallV n (Itm.of it)).2]:=by
 obtain ⟨_,_,_,E⟩:=tag_kind hn
 refine db_small.j3_in _ _ _ _ _ _ ?_
 intro v1 h1 v2 e2
 simp only [Bool.not_or_self,ck_true]
 rw [Db.smallV,if_neg hn,if_neg a5,if_neg a7,if_neg a9,if_neg a11,if_neg a12,h2,E 17 1017 rfl,E 19 1019 rfl,E 255 1255 rfl,E 127 1127 rfl]
 by_cases a:n=1013∨n=1014
 ·rw [decide_eq_true a,cond_true,if_pos a,db_small.j1_eq];rfl
 rw [decide_eq_false a,cond_false,if_neg a]
 by_cases a:n=1017
 ·subst a
  rw [decide_eq_true rfl,cond_true,if_pos rfl,db_small.j1_eq];rfl
 rw [decide_eq_false a,cond_false,if_neg a]
 by_cases a:n=1019
 ·subst a
  rw [decide_eq_true rfl,cond_true,if_pos rfl]
  have hv:v2=decide (it.kind=3∧it.bytes.length=16):=by
   rw [e2,h1,show decide ((it.bytes.length:Int)=16)=decide (it.bytes.length=16) from decide_eq_decide.2 (by omega)]
   by_cases x:it.kind=3 <;> simp [x]
  by_cases c:it.kind=3∧it.bytes.length=16
  ·rw [hv,decide_eq_true c,cond_true,if_pos (show (Itm.of it).kind=3∧(Itm.of it).bytes.length=16 from c),h1,c.2]
   exact db_small.l4_ok it.bytes c.2 z 16 0 _ (by omega) rfl rfl
  ·rw [hv,decide_eq_false c,cond_false,if_neg (show ¬((Itm.of it).kind=3∧(Itm.of it).bytes.length=16) from c),db_small.j1_eq];rfl
 rw [decide_eq_false a,cond_false,if_neg a]
 have J:∀b:Bool,b=decide (n=1127∨n=1255)→db_small.j6 false b it z (Db.doc ((n.toNat:Int) - 1000) [])=some [.ag (Val.cells (if n=1127∨n=1255 then (Db.doc ((n.toNat:Int) - 1000) [],decide ((Itm.of it).kind=8∧(Itm.of it).n=22)) else (Db.doc ((n.toNat:Int) - 1000) [],false)).1),.b (if n=1127∨n=1255 then (Db.doc ((n.toNat:Int) - 1000) [],decide ((Itm.of it).kind=8∧(Itm.of it).n=22)) else (Db.doc ((n.toNat:Int) - 1000) [],false)).2]:=by
  intro b hb
  refine db_small.j6_in _ _ _ _ _ ?_
  intro u1 f1
  simp only [Bool.not_or_self,ck_true]
  by_cases c:n=1127∨n=1255
  ·rw [hb,decide_eq_true c,cond_true,if_pos c,db_small.j1_eq]
   have:u1=decide ((Itm.of it).kind=8∧(Itm.of it).n=22):=by
    rw [f1]
    show _=decide (it.kind=8∧it.n=22)
    by_cases x:it.kind=8 <;> simp [x]
   rw [this]
  ·rw [hb,decide_eq_false c,cond_false,if_neg c,db_small.j1_eq]
 by_cases c:n=1255
 ·rw [decide_eq_true c,cond_true];exact J _ (by rw [decide_eq_true (.inr c)])
 ·rw [decide_eq_false c,cond_false];exact J _ (by simp [c])
theorem db_small.j2_ok (x2 : Bool) (hb : Itm.bulk (Itm.of it) ≤ 1099511627776) (hn : ¬ (n < 1000 ∨ 1255 < n)) (h2 : x2 = decide (n = 1009 ∨ n = 1018)) (a5 : n ≠ 1005) (a7 : n ≠ 1007) :
    db_small.j2 false ((n.toNat : Int) - 1000) x2 it z (Db.doc ((n.toNat : Int) - 1000) []) = some [.ag (Val.cells (Db.smallV n (Itm.of it)).1), .b (Db.smallV n (Itm.of it)).2] := by
  obtain ⟨_, _, _, E⟩ := tag_kind hn
  refine db_small.j2_in _ _ _ _ _ _ ?_
  intro v1 h1 v2 e2 v3 h3 v4 h4 v5 h5 v6 h6 v7 h7 v8 h8 v9 h9
  rw [E 11 1011 rfl, E 12 1012 rfl, E 13 1013 rfl, E 14 1014 rfl, h2]
  by_cases a9 : n = 1009 ∨ n = 1018
  · rw [decide_eq_true a9, cond_true, db_small.j1_eq, Db.smallV, if_neg hn, if_neg a5, if_neg a7, if_pos a9, e2, h1]; rfl
  rw [decide_eq_false a9, cond_false]
  have f0 : v4 = (Db.fst (Itm.of it)).text := h4
  have f1 : v5 = (Db.snd (Itm.of it)).text := h5
  have f8 : v8 = (Db.snd (Itm.of it)).bytes := h8
  by_cases a11 : n = 1011
  · subst a11
    rw [decide_eq_true rfl, cond_true, Db.smallV, if_neg (by decide), if_neg (by decide), if_neg (by decide), if_neg (by decide), if_pos rfl]
    have h6' : v6 = (v3 && !(Utf.zero v4 || Utf.zero v5)) := by rw [h6, contains_two]; cases v3 <;> rfl
    cases hk : v3 with
    | false =>
      rw [hk] at h3
      have : v6 = false := by rw [h6', hk]; rfl
      simp only [hk, this, Bool.not_false, Bool.true_or, ck_true]
      rw [if_neg (fun h => by rw [← h3] at h; exact absurd h.1 (by decide)), cond_false, db_small.j1_eq]; rfl
    | true =>
      rw [hk] at h3
      obtain ⟨i0, i1⟩ := two_lens it 4 4 h3.symm
      have l2 : it.kids.length = 2 := (of_decide_eq_true h3.symm).2.1
      have t0 := (kid_lens it 0 _ hb (by omega)).1
      have t1 := (kid_lens it 1 _ hb (by omega)).1
      have q0 : v4.length ≤ 1099511627776 := by rw [h4]; exact t0
      have q1 : v5.length ≤ 1099511627776 := by rw [h5]; exact t1
      simp only [i0, i1, Bool.and_true, Bool.and_self, Bool.not_or_self, ck_true, Bool.true_and, show decide ((([0] : Str)).length = 1) = true from rfl]
      rw [ck_of (by rw [decide_eq_true (show v4.length + v5.length ≤ 9223372036854775807 by omega)]; cases v3 <;> rfl)]
      have e6 : v6 = (!(Utf.zero v4 || Utf.zero v5)) := by rw [h6', hk]; rfl
      rw [← h3, ← f0, ← f1]
      cases z0 : Utf.zero v4 <;> cases z1 : Utf.zero v5 <;> rw [e6, z0, z1] <;> simp [db_small.j1_eq, Db.doc]
  rw [decide_eq_false a11, cond_false]
  by_cases a12 : n = 1012
  · subst a12
    rw [decide_eq_true rfl, cond_true, Db.smallV, if_neg (by decide), if_neg (by decide), if_neg (by decide), if_neg (by decide), if_neg (by decide), if_pos rfl]
    have h9' : v9 = (v7 && decide (v8.length = 12)) := by rw [h9, show decide ((v8.length : Int) = 12) = decide (v8.length = 12) from decide_eq_decide.2 (by omega)]; cases v7 <;> rfl
    cases hk : v7 with
    | false =>
      rw [hk] at h7
      have : v9 = false := by rw [h9', hk]; rfl
      simp only [hk, this, Bool.not_false, Bool.true_or, ck_true]
      rw [if_neg (fun h => by rw [← h7] at h; exact absurd h.1 (by decide)), cond_false, db_small.j1_eq]; rfl
    | true =>
      rw [hk] at h7
      obtain ⟨i0, i1⟩ := two_lens it 4 3 h7.symm
      have l2 : it.kids.length = 2 := (of_decide_eq_true h7.symm).2.1
      have t1 := (kid_lens it 1 _ hb (by omega)).2
      have q1 : v8.length ≤ 1099511627776 := by rw [h8]; exact t1
      simp only [i0, i1, Bool.and_true, Bool.and_self, Bool.not_or_self, ck_true, Bool.true_and]
      rw [ck_of (big_ap (n := v8.length) (b := 1) (by omega) (by omega)), ← h7, ← f0, ← f8]
      have e9 : v9 = decide (v8.length = 12) := by rw [h9', hk]; rfl
      by_cases c : v8.length = 12
      · rw [e9, decide_eq_true c, cond_true, if_pos ⟨rfl, c⟩, db_small.j1_eq]; rfl
      · rw [e9, decide_eq_false c, cond_false, if_neg (fun h => c h.2), db_small.j1_eq]; rfl
  rw [decide_eq_false a12, cond_false]
  have J := fun b hb' => db_small.j3_ok (it := it) (z := z) b hn hb' a5 a7 a9 a11 a12
  by_cases a13 : n = 1013
  · rw [decide_eq_true a13, cond_true]; exact J _ (by rw [decide_eq_true (.inl a13)])
  · rw [decide_eq_false a13, cond_false]; exact J _ (by simp [a13])
end
theorem db_small.goal (n : UInt64) (it : Itv) (hp : decide (Itm.bulk (Itm.of it) ≤ 1099511627776) = true) : db_small.F n it = some [.ag (Val.cells (Db.smallV n (Itm.of it)).1), .b (Db.smallV n (Itm.of it)).2] := by
  have hb := of_decide_eq_true hp
  refine db_small.F_in _ _ ?_
  intro v1 h1 v2 h2 v3 h3 v4 h4 v5 h5 v6 h6 v7 h7 v8 h8 v9 h9 v10 h10
  simp only [Bool.not_or_self, Bool.or_not_self, ck_true]
  by_cases hn : n < 1000 ∨ 1255 < n
  · rw [show v1 = true by rw [h1]; rcases hn with a | a <;> simp [a], cond_true, Db.smallV, if_pos hn]; rfl
  rw [show v1 = false by rw [h1]; simp only [not_or] at hn; simp [hn.1, hn.2], cond_false]
  obtain ⟨r1, r2, hw, E⟩ := tag_kind hn
  rw [hw] at h2
  subst h2
  rw [E 5 1005 rfl, E 7 1007 rfl, E 9 1009 rfl, E 18 1018 rfl]
  have f4 : v4 = (Db.fst (Itm.of it)).n := h4
  have f8 : v8 = (Db.snd (Itm.of it)).bytes := h8
  by_cases a5 : n = 1005
  · subst a5
    rw [decide_eq_true rfl, cond_true, Db.smallV, if_neg (by decide), if_pos rfl]
    have h6' : v6 = (v3 && (decide (1 ≤ v4) && decide (v4 ≤ 255))) := by rw [h6, h5]; cases v3 <;> cases decide ((1 : UInt64) ≤ v4) <;> rfl
    cases hk : v3 with
    | false =>
      rw [hk] at h3
      have e5 : v5 = false := by rw [h5, hk]; rfl
      have : v6 = false := by rw [h6', hk]; rfl
      simp only [hk, e5, this, Bool.not_false, Bool.true_or, ck_true]
      rw [if_neg (fun h => by rw [← h3] at h; exact absurd h.1 (by decide)), cond_false, db_small.j1_eq]; rfl
    | true =>
      rw [hk] at h3
      obtain ⟨i0, i1⟩ := two_lens it 1 3 h3.symm
      have l2 : it.kids.length = 2 := (of_decide_eq_true h3.symm).2.1
      have t1 := (kid_lens it 1 _ hb (by omega)).2
      have q1 : v8.length ≤ 1099511627776 := by rw [h8]; exact t1
      simp only [i0, i1, Bool.and_true, Bool.and_self, Bool.not_or_self, ck_true, Bool.true_and]
      rw [ck_of (big_ap (n := v8.length) (b := 1) (by omega) (by omega)), ← h3, ← f4, ← f8]
      have e6 : v6 = (decide (1 ≤ v4) && decide (v4 ≤ 255)) := by rw [h6', hk]; rfl
      have e7 : 1 ≤ v4 ∧ v4 ≤ 255 → v7 = (v4.toNat : Int) := fun h => by
        have := UInt64.le_iff_toNat_le.1 h.2
        simp at this
        rw [h7, i64_in _ (by omega)]
      by_cases c : 1 ≤ v4 <;> by_cases d : v4 ≤ 255
      · rw [e6, decide_eq_true c, decide_eq_true d, Bool.and_self, cond_true, if_pos ⟨rfl, c, d⟩, db_small.j1_eq, e7 ⟨c, d⟩]; rfl
      · rw [e6, decide_eq_false d, Bool.and_false, cond_false, if_neg (fun h => d h.2.2), db_small.j1_eq]; rfl
      · rw [e6, decide_eq_false c, Bool.false_and, cond_false, if_neg (fun h => c h.2.1), db_small.j1_eq]; rfl
      · rw [e6, decide_eq_false c, Bool.false_and, cond_false, if_neg (fun h => c h.2.1), db_small.j1_eq]; rfl
  rw [decide_eq_false a5, cond_false]
  by_cases a7 : n = 1007
  · subst a7
    have hl : it.bytes.length ≤ 1099511627776 := by rw [Itm.bulk_of] at hb; omega
    rw [decide_eq_true rfl, cond_true, ck_of (big_ap (n := it.bytes.length) (b := 1) (by omega) (by omega)), db_small.j1_eq, Db.smallV, if_neg (by decide), if_neg (by decide), if_pos rfl]
    have : v10 = decide (it.kind = 3 ∧ it.bytes.length = 12) := by
      rw [h10, h9, show decide ((it.bytes.length : Int) = 12) = decide (it.bytes.length = 12) from decide_eq_decide.2 (by omega)]
      by_cases x : it.kind = 3 <;> simp [x]
    rw [this]; rfl
  rw [decide_eq_false a7, cond_false]
  have J := fun b hb' => db_small.j2_ok (it := it) (z := Db.zero) b hb hn hb' a5 a7
  by_cases a9 : n = 1009
  · rw [decide_eq_true a9, cond_true]; exact J _ (by rw [decide_eq_true (.inl a9)])
  · rw [decide_eq_false a9, cond_false]; exact J _ (by simp [a9])
end Go.Eng
