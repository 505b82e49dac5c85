/- Texts of my own, one behind the other: DbGp1, DbG. -/
import Derived.Test.YthdgdfjnkgpegaaDoorT4
set_option linter.unusedVariables false
set_option linter.unusedSimpArgs false
namespace Go.Eng
noncomputable section
def ref5_Digits.env:List (Nat × (Ctr × FSig)):=[]
def ref5_Digits.E:TEnv:=envL trydbGl ref5_Digits.env
def ref5_Digits.m1:TM := .seq (.seq (.reg [
  ⟨.k .mv,[.s 0],[4],none⟩,
  ⟨.k (.bin .gtr),[.s 4,.c (.u64 (9:UInt64))],[5],none⟩]) none (.cond (.s 5) [] .skip (.exit 0))) none (.block 1 [] (.seq (.reg [
  ⟨.k .mv,[.s 0],[6],none⟩,
  ⟨.k (.bin .rem),[.s 6,.c (.u64 (10:UInt64))],[7],none⟩,
  ⟨.k (.bin .add),[.c (.u64 (48:UInt64)),.s 7],[8],none⟩,
  ⟨.k (.ci .u8),[.s 8],[9],none⟩,
  ⟨.bl .bs 1,[.s 9],[10],none⟩,
  ⟨.k .bs,[.s 10],[11],none⟩,
  ⟨.k .mv,[.s 3],[12],none⟩,
  ⟨.k (.bin .add),[.s 11,.s 12],[13],none⟩,
  ⟨.k .mv,[.s 13],[3],none⟩]) none (.reg [
  ⟨.k .mv,[.s 0],[14],none⟩,
  ⟨.k (.bin .quo),[.s 14,.c (.u64 (10:UInt64))],[15],none⟩,
  ⟨.k .mv,[.s 15],[0],none⟩])))
def ref5_Digits.m:TM := .seq (.reg [
  ⟨.k .mv,[.c (.s ([]:Str))],[2],none⟩]) none (.seq (.reg [
  ⟨.k .mv,[.c (.s ([]:Str))],[3],none⟩]) none (.seq (.block 0 [] (.loop [0,3] [] ref5_Digits.m1)) none (.seq (.reg [
  ⟨.k .mv,[.s 0],[16],none⟩,
  ⟨.k (.bin .add),[.c (.u64 (48:UInt64)),.s 16],[17],none⟩,
  ⟨.k (.ci .u8),[.s 17],[18],none⟩,
  ⟨.bl .bs 1,[.s 18],[19],none⟩,
  ⟨.k .bs,[.s 19],[20],none⟩,
  ⟨.k .mv,[.s 3],[21],none⟩,
  ⟨.k (.bin .add),[.s 20,.s 21],[22],none⟩,
  ⟨.k .mv,[.s 22],[2],none⟩]) none .ret)))
def ref5_Digits.d:TFD:={ np:=1,m:=ref5_Digits.m,ref:=none,tips:=[],res:=[.t 2],own:=[],new:=none,tnew:=[] }
noncomputable def ref5_Digits.F (v:UInt64):Option (List TV):=ref5_Digits.d.run ref5_Digits.E [(.u64 v)]
noncomputable def ref5_Digits.k1:Cont (List TV):=seqK (ev _ ref5_Digits.E (.seq (.reg [
  ⟨.k .mv,[.s 0],[16],none⟩,
  ⟨.k (.bin .add),[.c (.u64 (48:UInt64)),.s 16],[17],none⟩,
  ⟨.k (.ci .u8),[.s 17],[18],none⟩,
  ⟨.bl .bs 1,[.s 18],[19],none⟩,
  ⟨.k .bs,[.s 19],[20],none⟩,
  ⟨.k .mv,[.s 3],[21],none⟩,
  ⟨.k (.bin .add),[.s 20,.s 21],[22],none⟩,
  ⟨.k .mv,[.s 22],[2],none⟩]) none .ret)) none (endK ref5_Digits.d)
noncomputable def ref5_Digits.l1 (x0:UInt64) (x1:Str):Option (List TV):=loopL (evO _ ref5_Digits.E ref5_Digits.m1) isN [0,3] (headT [0,3] [(.u64 x0),(.s x1)]) (blockK 0 ref5_Digits.k1)
theorem ref5_Digits.l1_in (x0:UInt64) (x1:Str) {ρ:Option (List TV)} (K:∀(v1:UInt64) (h1:v1=((48:UInt64)+(x0 % (10:UInt64)))) (v2:UInt8) (h2:v2=(UInt8.ofInt ((v1).toNat:Int))) (v3:UInt8) (h3:v3=(UInt8.ofInt ((((48:UInt64)+x0)).toNat:Int))),cond (decide ((9:UInt64)<x0))
  (ck (!decide ((10:UInt64)=0)) (ck (decide ((([v2]:List UInt8)).length+(x1).length≤9223372036854775807)) (ck (!decide ((10:UInt64)=0)) (ref5_Digits.l1 (x0 / (10:UInt64)) (([v2]:List UInt8)++x1)))))
  (ck (decide ((([v3]:List UInt8)).length+(x1).length≤9223372036854775807)) (some [(.s (([v3]:List UInt8)++x1))]))=ρ):ref5_Digits.l1 x0 x1=ρ:=((ev_loop _ _ _ _ _ _).trans (by kernel_rfl)).trans (K _ rfl _ rfl _ rfl)
theorem ref5_Digits.F_eq (v:UInt64):ref5_Digits.F v=ref5_Digits.l1 v ([]:Str):=by kernel_rfl
theorem ref5_Digits.chk:((Go.Proofs.Tryd.prog.funcs[74]?).any fun fn=>chkF Go.Proofs.Tryd.prog (fun k=>((envL trydbGl ref5_Digits.env).fs k).2) fn ref5_Digits.d.erase)=true:=by kernel_rfl
end
noncomputable section
def tree_Regular.env:List (Nat × (Ctr × FSig)):=[(71,(sc_Itoa.c,sc_Itoa.sg))]
def tree_Regular.E:TEnv:=envL trydbGl tree_Regular.env
def tree_Regular.m1:TM := .seq (.reg [
  ⟨.k (.bin .lss),[.s 7,.s 6],[8],none⟩]) none (.seq (.cond (.s 8) [] .skip (.exit 0)) none (.seq (.block 1 [] (.seq (.reg [
  ⟨.k .mv,[.s 7],[9],none⟩,
  ⟨.k (.ix 10),[.s 5,.s 7],[10],none⟩,
  ⟨.k (.lr 10 true),[.s 10],[11],none⟩,
  ⟨.al 1018 [(.s ([]:Str)),(.i .i64 (0:Int)),(.u64 (0:UInt64)),(.u64 (0:UInt64)),(.u64 (0:UInt64)),(.s ([]:Str)),(.s ([]:Str)),(.i .i64 (0:Int)),(.sl .bs ([]:List UInt8)),(.sl .fl ([]:List Fld))] [],[.s 1018],[4,1018],none⟩,
  ⟨.k .mv,[.s 9],[3],none⟩,
  ⟨.k (.st 1018 0 10),[.s 4,.s 1018,.s 11],[1018],none⟩]) none (.seq (.reg [
  ⟨.k (.fa 1018 0 0),[.s 4],[12],none⟩,
  ⟨.k (.ld 1018 0 1 false),[.s 12,.s 1018],[13],none⟩,
  ⟨.k .mv,[.s 3],[14],none⟩,
  ⟨.k (.call 71 (.plain 1 1)),[.s 14],[15],none⟩,
  ⟨.k (.bin .neq),[.s 13,.s 15],[16],none⟩]) none (.cond (.s 16) [] (.seq (.reg [
  ⟨.k .mv,[.c (.b false)],[2],none⟩]) none .ret) .skip)))) none (.reg [
  ⟨.k (.bin .add),[.s 7,.c (.i .i64 (1:Int))],[17],none⟩,
  ⟨.k .mv,[.s 17],[7],none⟩])))
def tree_Regular.m:TM := .seq (.reg [
  ⟨.k .mv,[.c (.b false)],[2],none⟩]) none (.seq (.seq (.reg [
  ⟨.k .mv,[.s 0],[5],none⟩,
  ⟨.k .len,[.s 5],[6],none⟩,
  ⟨.k .mv,[.c (.i .i64 (0:Int))],[7],none⟩]) none (.block 0 [] (.loop [5,6,7] [] tree_Regular.m1))) none (.seq (.reg [
  ⟨.k .mv,[.c (.b true)],[2],none⟩]) none .ret))
def tree_Regular.d:TFD:={ np:=1,m:=tree_Regular.m,ref:=none,tips:=[],res:=[.t 2],own:=[],new:=none,tnew:=[] }
noncomputable def tree_Regular.F (l:List Fld):Option (List TV):=tree_Regular.d.run tree_Regular.E [(.sl .fl l)]
noncomputable def tree_Regular.k1:Cont (List TV):=seqK (ev _ tree_Regular.E (.seq (.reg [
  ⟨.k .mv,[.c (.b true)],[2],none⟩]) none .ret)) none (endK tree_Regular.d)
noncomputable def tree_Regular.l1 (x0:List Fld) (x1:Int) (x2:Int):Option (List TV):=loopL (evO _ tree_Regular.E tree_Regular.m1) isN [5,6,7] (headT [5,6,7] [(.sl .fl x0),(.i .i64 x1),(.i .i64 x2)]) (blockK 0 tree_Regular.k1)
theorem tree_Regular.l1_in (x0:List Fld) (x1:Int) (x2:Int) {ρ:Option (List TV)} (K:∀(v1:Fld) (h1:v1=(List.getD x0 (x2).toNat (STy.dflt .fl))) (v2:Int) (h2:v2=(IntKind.i64.wrap (x2+(1:Int)))),cond (decide (x2<x1))
  (ck (idxOK x2 (x0).length) (ck (decide (-9223372036854775808≤x2∧x2≤9223372036854775807)) (cond (!decide ((Fld.name v1)=(Lib.itoa x2)))
  (some [(.b false)])
  (tree_Regular.l1 x0 x1 v2))))
  (some [(.b true)])=ρ):tree_Regular.l1 x0 x1 x2=ρ:=((ev_loop _ _ _ _ _ _).trans (by kernel_rfl)).trans (K _ rfl _ rfl)
theorem tree_Regular.F_eq (l:List Fld):tree_Regular.F l=tree_Regular.l1 l ((l).length:Int) (0:Int):=by kernel_rfl
theorem tree_Regular.chk:((Go.Proofs.Tryd.prog.funcs[55]?).any fun fn=>chkF Go.Proofs.Tryd.prog (fun k=>((envL trydbGl tree_Regular.env).fs k).2) fn tree_Regular.d.erase)=true:=by kernel_rfl
end
noncomputable section
end
noncomputable section
def cb_fields.env:List (Nat × (Ctr × FSig)):=[]
def cb_fields.E:TEnv:=envL trydbGl cb_fields.env
def cb_fields.m1:TM := .cond (.s 10) [(1,.ptr 1065 0),(1065,.cl [])] (.reg [
  ⟨.k (.fa 1065 0 1),[.s 1],[14],none⟩,
  ⟨.k (.st 1065 1 1),[.s 14,.s 1065,.c (.u64 (0:UInt64))],[1065],none⟩]) (.seq (.reg [
  ⟨.k (.bin .eql),[.s 9,.c (.i .i64 (3:Int))],[16],none⟩,
  ⟨.k .mv,[.s 16],[15],none⟩]) none (.cond (.s 15) [(1,.ptr 1065 0),(1065,.cl [])] (.reg [
  ⟨.k (.fa 1065 0 2),[.s 1],[17],none⟩,
  ⟨.k (.st 1065 2 1),[.s 17,.s 1065,.c (.sl .bs ([]:List UInt8))],[1065],none⟩]) (.seq (.reg [
  ⟨.k (.bin .eql),[.s 9,.c (.i .i64 (4:Int))],[19],none⟩,
  ⟨.k .mv,[.s 19],[18],none⟩]) none (.cond (.s 18) [(1,.ptr 1065 0),(1065,.cl [])] (.reg [
  ⟨.k (.fa 1065 0 3),[.s 1],[20],none⟩,
  ⟨.k (.st 1065 3 1),[.s 20,.s 1065,.c (.s ([]:Str))],[1065],none⟩]) (.seq (.reg [
  ⟨.k (.bin .eql),[.s 9,.c (.i .i64 (5:Int))],[22],none⟩,
  ⟨.k .mv,[.s 22],[21],none⟩]) none (.cond (.s 21) [(1,.ptr 1065 0),(1065,.cl [])] (.reg [
  ⟨.k .mv,[.c (.i .i64 (0:Int))],[3],none⟩]) (.seq (.reg [
  ⟨.k (.bin .eql),[.s 9,.c (.i .i64 (6:Int))],[24],none⟩,
  ⟨.k .mv,[.s 24],[23],none⟩]) none (.cond (.s 23) [(1,.ptr 1065 0),(1065,.cl [])] (.reg [
  ⟨.k .mv,[.s 3],[25],none⟩,
  ⟨.k (.bin .rem),[.s 25,.c (.i .i64 (2:Int))],[26],none⟩,
  ⟨.k (.bin .eql),[.s 26,.c (.i .i64 (0:Int))],[27],none⟩,
  ⟨.k .mv,[.s 27],[4],none⟩,
  ⟨.k .mv,[.c (.i .i64 (0:Int))],[3],none⟩]) (.seq (.reg [
  ⟨.k (.bin .eql),[.s 9,.c (.i .i64 (7:Int))],[29],none⟩,
  ⟨.k .mv,[.s 29],[28],none⟩]) none (.cond (.s 28) [(1,.ptr 1065 0),(1065,.cl [])] (.reg [
  ⟨.k .mv,[.s 3],[30],none⟩,
  ⟨.k (.bin .eql),[.s 30,.c (.i .i64 (1:Int))],[31],none⟩,
  ⟨.k .mv,[.s 31],[4],none⟩,
  ⟨.k .mv,[.c (.i .i64 (0:Int))],[3],none⟩,
  ⟨.k (.fa 1065 0 1),[.s 1],[32],none⟩,
  ⟨.k (.st 1065 1 1),[.s 32,.s 1065,.c (.u64 (0:UInt64))],[1065],none⟩]) (.seq (.reg [
  ⟨.k (.bin .eql),[.s 9,.c (.i .i64 (8:Int))],[34],none⟩,
  ⟨.k .mv,[.s 34],[33],none⟩]) none (.cond (.s 33) [(1,.ptr 1065 0),(1065,.cl [])] (.reg [
  ⟨.k (.fa 1065 0 1),[.s 1],[35],none⟩,
  ⟨.k (.ld 1065 1 1 false),[.s 35,.s 1065],[36],none⟩,
  ⟨.k (.bin .geq),[.s 36,.c (.u64 (20:UInt64))],[37],none⟩,
  ⟨.k .mv,[.s 37],[38],none⟩,
  ⟨.k (.fa 1065 0 1),[.s 1],[39],some (38,true)⟩,
  ⟨.k (.ld 1065 1 1 false),[.s 39,.s 1065],[40],some (38,true)⟩,
  ⟨.k (.bin .leq),[.s 40,.c (.u64 (23:UInt64))],[41],some (38,true)⟩,
  ⟨.k .pick,[.s 38,.s 41,.c (.b false)],[42],none⟩,
  ⟨.k .mv,[.s 42],[4],none⟩,
  ⟨.k (.fa 1065 0 1),[.s 1],[43],none⟩,
  ⟨.k (.st 1065 1 1),[.s 43,.s 1065,.c (.u64 (0:UInt64))],[1065],none⟩]) .skip))))))))))))
def cb_fields.m2:TM := .seq (.reg [
  ⟨.k .mv,[.s 4],[44],none⟩,
  ⟨.k .mv,[.s 44],[45],none⟩,
  ⟨.k (.fa 1065 0 1),[.s 1],[46],some (45,true)⟩,
  ⟨.k (.ld 1065 1 1 false),[.s 46,.s 1065],[47],some (45,true)⟩,
  ⟨.k (.bin .eql),[.s 47,.c (.u64 (0:UInt64))],[48],some (45,true)⟩,
  ⟨.k .pick,[.s 45,.s 48,.c (.b false)],[49],none⟩,
  ⟨.k .mv,[.s 49],[50],none⟩,
  ⟨.k (.fa 1065 0 2),[.s 1],[51],some (50,true)⟩,
  ⟨.k (.ld 1065 2 1 false),[.s 51,.s 1065],[52],some (50,true)⟩,
  ⟨.k .len,[.s 52],[53],some (50,true)⟩,
  ⟨.k (.bin .eql),[.s 53,.c (.i .i64 (0:Int))],[54],some (50,true)⟩,
  ⟨.k .pick,[.s 50,.s 54,.c (.b false)],[55],none⟩,
  ⟨.k .mv,[.s 55],[56],none⟩,
  ⟨.k (.fa 1065 0 3),[.s 1],[57],some (56,true)⟩,
  ⟨.k (.ld 1065 3 1 false),[.s 57,.s 1065],[58],some (56,true)⟩,
  ⟨.k (.bin .eql),[.s 58,.c (.s ([]:Str))],[59],some (56,true)⟩,
  ⟨.k .pick,[.s 56,.s 59,.c (.b false)],[60],none⟩,
  ⟨.k .mv,[.s 60],[61],none⟩,
  ⟨.k .mv,[.s 3],[62],some (61,true)⟩,
  ⟨.k (.bin .eql),[.s 62,.c (.i .i64 (0:Int))],[63],some (61,true)⟩,
  ⟨.k .pick,[.s 61,.s 63,.c (.b false)],[64],none⟩,
  ⟨.k .mv,[.s 64],[2],none⟩]) none .ret
def cb_fields.m:TM := .seq (.reg [
  ⟨.k (.bx 1065),[.s 0,.s 1065],[1,1065],none⟩,
  ⟨.k .mv,[.c (.b false)],[2],none⟩]) none (.seq (.reg [
  ⟨.k (.fa 1065 0 4),[.s 1],[5],none⟩,
  ⟨.k (.ld 1065 4 1 false),[.s 5,.s 1065],[6],none⟩,
  ⟨.k .len,[.s 6],[7],none⟩,
  ⟨.k .mv,[.s 7],[3],none⟩]) none (.seq (.reg [
  ⟨.k .mv,[.c (.b true)],[4],none⟩]) none (.seq (.seq (.reg [
  ⟨.k (.fa 1065 0 0),[.s 1],[8],none⟩,
  ⟨.k (.ld 1065 0 1 false),[.s 8,.s 1065],[9],none⟩]) none (.block 0 [(1,.ptr 1065 0),(1065,.cl [])] (.seq (.seq (.reg [
  ⟨.k (.bin .eql),[.s 9,.c (.i .i64 (1:Int))],[11],none⟩,
  ⟨.k .mv,[.s 11],[10],none⟩]) none (.cond (.s 10) [(1,.ptr 1065 0),(1065,.cl [])] .skip (.seq (.reg [
  ⟨.k (.bin .eql),[.s 9,.c (.i .i64 (2:Int))],[12],none⟩,
  ⟨.k .mv,[.s 12],[10],none⟩]) none (.cond (.s 10) [(1,.ptr 1065 0),(1065,.cl [])] .skip (.reg [
  ⟨.k (.bin .eql),[.s 9,.c (.i .i64 (9:Int))],[13],none⟩,
  ⟨.k .mv,[.s 13],[10],none⟩]))))) (some [1,3,4,9,10,1065]) cb_fields.m1))) (some [1,3,4,1065]) cb_fields.m2)))
def cb_fields.d:TFD:={ np:=1,m:=cb_fields.m,ref:=none,tips:=[],res:=[.t 2],own:=[],new:=none,tnew:=[] }
noncomputable def cb_fields.F (it:Itv):Option (List TV):=cb_fields.d.run cb_fields.E [(.ag (Itv.cells it))]
noncomputable def cb_fields.k1:Cont (List TV):=seqK (evO _ cb_fields.E cb_fields.m2) (some [1,3,4,1065]) (endK cb_fields.d)
noncomputable def cb_fields.j1 (x0:Int) (x1:Bool) (x2:Int) (x3:Bool) (x4:Itv):Option (List TV):=evO _ cb_fields.E cb_fields.m1 (headT [1,3,4,9,10,1065] [.pt,(.i .i64 x0),(.b x1),(.i .i64 x2),(.b x3),(.ag (Itv.cells x4))]) (blockK 0 cb_fields.k1)
noncomputable def cb_fields.j2 (x0:Int) (x1:Bool) (x2:Itv):Option (List TV):=evO _ cb_fields.E cb_fields.m2 (headT [1,3,4,1065] [.pt,(.i .i64 x0),(.b x1),(.ag (Itv.cells x2))]) (endK cb_fields.d)
theorem cb_fields.j1_in (x0:Int) (x1:Bool) (x2:Int) (x3:Bool) (x4:Itv) {ρ:Option (List TV)} (K:∀(v1:Bool) (h1:v1=(cond (decide ((20:UInt64)≤(Itv.n x4))) (decide ((Itv.n x4)≤(23:UInt64))) false)),cond x3
  (cb_fields.j2 x0 x1 (Itv.mk (Itv.kind x4) (0:UInt64) (Itv.bytes x4) (Itv.text x4) (Itv.kids x4)))
  (cond (decide (x2=(3:Int)))
  (cb_fields.j2 x0 x1 (Itv.mk (Itv.kind x4) (Itv.n x4) ([]:List UInt8) (Itv.text x4) (Itv.kids x4)))
  (cond (decide (x2=(4:Int)))
  (cb_fields.j2 x0 x1 (Itv.mk (Itv.kind x4) (Itv.n x4) (Itv.bytes x4) ([]:Str) (Itv.kids x4)))
  (cond (decide (x2=(5:Int)))
  (cb_fields.j2 (0:Int) x1 x4)
  (cond (decide (x2=(6:Int)))
  (ck (!decide ((2:Int)=0)) (cb_fields.j2 (0:Int) (decide ((Int.tmod x0 (2:Int))=(0:Int))) x4))
  (cond (decide (x2=(7:Int)))
  (cb_fields.j2 (0:Int) (decide (x0=(1:Int))) (Itv.mk (Itv.kind x4) (0:UInt64) (Itv.bytes x4) (Itv.text x4) (Itv.kids x4)))
  (cond (decide (x2=(8:Int)))
  (ck (!(decide ((20:UInt64)≤(Itv.n x4))) || (decide ((20:UInt64)≤(Itv.n x4)))) (ck (!(decide ((20:UInt64)≤(Itv.n x4))) || (decide ((20:UInt64)≤(Itv.n x4)))) (ck (!(decide ((20:UInt64)≤(Itv.n x4))) || (decide ((20:UInt64)≤(Itv.n x4)))) (cb_fields.j2 x0 v1 (Itv.mk (Itv.kind x4) (0:UInt64) (Itv.bytes x4) (Itv.text x4) (Itv.kids x4))))))
  (cb_fields.j2 x0 x1 x4)))))))=ρ):cb_fields.j1 x0 x1 x2 x3 x4=ρ:=((congrFun (congrFun (ev_eq _ _) _) _).trans (by kernel_rfl)).trans (K _ rfl)
theorem cb_fields.j2_in (x0:Int) (x1:Bool) (x2:Itv) {ρ:Option (List TV)} (K:∀(v1:Bool) (h1:v1=(cond x1 (decide ((Itv.n x2)=(0:UInt64))) false)) (v2:Int) (h2:v2=(((Itv.bytes x2)).length:Int)) (v3:Bool) (h3:v3=(cond v1 (decide (v2=(0:Int))) false)) (v4:Bool) (h4:v4=(cond v3 (decide ((Itv.text x2)=([]:Str))) false)) (v5:Bool) (h5:v5=(cond v4 (decide (x0=(0:Int))) false)),ck (!x1 || x1) (ck (!x1 || x1) (ck (!x1 || x1) (ck (!v1 || v1) (ck (!v1 || v1) (ck (!v1 || v1) (ck (!v1 || v1) (ck (!v3 || v3) (ck (!v3 || v3) (ck (!v3 || v3) (ck (!v4 || v4) (ck (!v4 || v4) (some [(.b v5)]))))))))))))=ρ):cb_fields.j2 x0 x1 x2=ρ:=((congrFun (congrFun (ev_eq _ _) _) _).trans (by kernel_rfl)).trans (K _ rfl _ rfl _ rfl _ rfl _ rfl)
theorem cb_fields.F_in (it:Itv) {ρ:Option (List TV)} (K:∀(v1:Int) (h1:v1=(((Itv.kids it)).length:Int)),cond (decide ((Itv.kind it)=(1:Int)))
  (cb_fields.j1 v1 true (Itv.kind it) (decide ((Itv.kind it)=(1:Int))) it)
  (cond (decide ((Itv.kind it)=(2:Int)))
  (cb_fields.j1 v1 true (Itv.kind it) (decide ((Itv.kind it)=(2:Int))) it)
  (cb_fields.j1 v1 true (Itv.kind it) (decide ((Itv.kind it)=(9:Int))) it))=ρ):cb_fields.F it=ρ:=Eq.trans (by kernel_rfl) (K _ rfl)
theorem cb_fields.chk:((Go.Proofs.Tryd.prog.funcs[40]?).any fun fn=>chkF Go.Proofs.Tryd.prog (fun k=>((envL trydbGl cb_fields.env).fs k).2) fn cb_fields.d.erase)=true:=by kernel_rfl
end
noncomputable section
def cb_Check.env (n:Nat):List (Nat × (Ctr × FSig)):=[(26,(cb_Check.cn n,cb_Check.sg)),(40,(cb_fields.c,cb_fields.sg)),(41,(utf_Check.c,utf_Check.sg))]
def cb_Check.E (n:Nat):TEnv:=envL trydbGl (cb_Check.env n)
def cb_Check.m1:TM := .seq (.reg [
  ⟨.k (.bin .lss),[.s 31,.s 30],[32],none⟩]) none (.seq (.cond (.s 32) [] .skip (.exit 0)) none (.seq (.block 1 [] (.seq (.reg [
  ⟨.k (.ix 5),[.s 29,.s 31],[33],none⟩,
  ⟨.k (.lr 5 true),[.s 33],[34],none⟩,
  ⟨.al 1042 [(.i .i64 (0:Int)),(.u64 (0:UInt64)),(.sl .bs ([]:List UInt8)),(.s ([]:Str)),(.sl .il ([]:List Itm))] [],[.s 1042],[6,1042],none⟩,
  ⟨.k (.st 1042 0 5),[.s 6,.s 1042,.s 34],[1042],none⟩]) none (.seq (.reg [
  ⟨.k (.ld 1042 0 5 true),[.s 6,.s 1042],[35],none⟩,
  ⟨.k (.call 26 (.plain 1 1)),[.s 35],[36],none⟩,
  ⟨.k .mv,[.s 36],[7],none⟩]) none (.seq (.reg [
  ⟨.k .mv,[.s 7],[37],none⟩,
  ⟨.k (.bin .neq),[.s 37,.c (.i .i64 (0:Int))],[38],none⟩]) none (.cond (.s 38) [] (.seq (.reg [
  ⟨.k .mv,[.s 7],[39],none⟩,
  ⟨.k .mv,[.s 39],[2],none⟩]) none .ret) .skip))))) none (.reg [
  ⟨.k (.bin .add),[.s 31,.c (.i .i64 (1:Int))],[40],none⟩,
  ⟨.k .mv,[.s 40],[31],none⟩])))
def cb_Check.m:TM := .seq (.reg [
  ⟨.k (.bx 1041),[.s 0,.s 1041],[1,1041],none⟩,
  ⟨.k .mv,[.c (.i .i64 (0:Int))],[2],none⟩]) none (.seq (.seq (.reg [
  ⟨.k (.fa 1041 0 0),[.s 1],[8],none⟩,
  ⟨.k (.ld 1041 0 1 false),[.s 8,.s 1041],[9],none⟩,
  ⟨.k (.bin .lss),[.s 9,.c (.i .i64 (1:Int))],[10],none⟩,
  ⟨.k .mv,[.s 10],[11],none⟩,
  ⟨.k (.fa 1041 0 0),[.s 1],[12],some (11,false)⟩,
  ⟨.k (.ld 1041 0 1 false),[.s 12,.s 1041],[13],some (11,false)⟩,
  ⟨.k (.bin .gtr),[.s 13,.c (.i .i64 (9:Int))],[14],some (11,false)⟩,
  ⟨.k .pick,[.s 11,.c (.b true),.s 14],[15],none⟩]) none (.cond (.s 15) [] (.seq (.reg [
  ⟨.k .mv,[.c (.i .i64 (5:Int))],[2],none⟩]) none .ret) .skip)) none (.seq (.seq (.reg [
  ⟨.k (.ld 1041 0 5 true),[.s 1,.s 1041],[16],none⟩,
  ⟨.k (.call 40 (.plain 1 1)),[.s 16],[17],none⟩,
  ⟨.k (.un .not),[.s 17],[18],none⟩]) none (.cond (.s 18) [] (.seq (.reg [
  ⟨.k .mv,[.c (.i .i64 (1:Int))],[2],none⟩]) none .ret) .skip)) none (.seq (.seq (.reg [
  ⟨.k (.fa 1041 0 3),[.s 1],[20],none⟩,
  ⟨.k (.ld 1041 3 1 false),[.s 20,.s 1041],[21],none⟩,
  ⟨.k .sb,[.s 21],[22],none⟩,
  ⟨.k (.call 41 (.plain 1 2)),[.s 22],[23],none⟩,
  ⟨.k .mv,[.s 23],[19],none⟩,
  ⟨.k (.ex 0),[.s 19],[24],none⟩,
  ⟨.k (.ex 1),[.s 19],[25],none⟩,
  ⟨.k .mv,[.s 24],[3],none⟩,
  ⟨.k .mv,[.s 25],[4],none⟩]) none (.seq (.reg [
  ⟨.k .mv,[.s 4],[26],none⟩,
  ⟨.k (.un .not),[.s 26],[27],none⟩]) none (.cond (.s 27) [] (.seq (.reg [
  ⟨.k .mv,[.c (.i .i64 (4:Int))],[2],none⟩]) none .ret) .skip))) none (.seq (.seq (.reg [
  ⟨.k (.fa 1041 0 4),[.s 1],[28],none⟩,
  ⟨.k (.ld 1041 4 1 false),[.s 28,.s 1041],[29],none⟩,
  ⟨.k .len,[.s 29],[30],none⟩,
  ⟨.k .mv,[.c (.i .i64 (0:Int))],[31],none⟩]) none (.block 0 [] (.loop [29,30,31] [] cb_Check.m1))) none (.seq (.reg [
  ⟨.k .mv,[.c (.i .i64 (0:Int))],[2],none⟩]) none .ret)))))
def cb_Check.d:TFD:={ np:=1,m:=cb_Check.m,ref:=none,tips:=[],res:=[.t 2],own:=[],new:=none,tnew:=[] }
noncomputable def cb_Check.F (n:Nat) (it:Itv):Option (List TV):=cb_Check.d.run (cb_Check.E n) [(.ag (Itv.cells it))]
noncomputable def cb_Check.k1 (n:Nat):Cont (List TV):=seqK (ev _ (cb_Check.E n) (.seq (.reg [
  ⟨.k .mv,[.c (.i .i64 (0:Int))],[2],none⟩]) none .ret)) none (endK cb_Check.d)
noncomputable def cb_Check.l1 (n:Nat) (x0:List Itm) (x1:Int) (x2:Int):Option (List TV):=loopL (evO _ (cb_Check.E n) cb_Check.m1) isN [29,30,31] (headT [29,30,31] [(.sl .il x0),(.i .i64 x1),(.i .i64 x2)]) (blockK 0 (cb_Check.k1 n))
theorem cb_Check.l1_in (n:Nat) (x0:List Itm) (x1:Int) (x2:Int) {ρ:Option (List TV)} (K:∀(v1:Int) (h1:v1=(Cb.chk (Itm.of (Itm.val (List.getD x0 (x2).toNat (STy.dflt .il)))))) (v2:Int) (h2:v2=(IntKind.i64.wrap (x2+(1:Int)))),cond (decide (x2<x1))
  (ck (idxOK x2 (x0).length) (ck ((decide (Itm.bulk (Itm.of (Itm.val (List.getD x0 (x2).toNat (STy.dflt .il))))≤1099511627776))&&decide ((Itm.bulk (Itm.of (Itm.val (List.getD x0 (x2).toNat (STy.dflt .il)))))<n)) (cond (!decide (v1=(0:Int)))
  (some [(.i .i64 v1)])
  (cb_Check.l1 n x0 x1 v2))))
  (some [(.i .i64 (0:Int))])=ρ):cb_Check.l1 n x0 x1 x2=ρ:=((ev_loop _ _ _ _ _ _).trans (by kernel_rfl)).trans (K _ rfl _ rfl)
theorem cb_Check.F_in (n:Nat) (it:Itv) {ρ:Option (List TV)} (K:∀(v1:Bool) (h1:v1=(cond (decide ((Itv.kind it)<(1:Int))) true (decide ((9:Int)<(Itv.kind it))))) (v2:Int) (h2:v2=(((Utf.look ((Itv.text it))).1:Int))) (v3:Bool) (h3:v3=(!(Utf.whole ((Itv.text it))))) (v4:Int) (h4:v4=(((Itv.kids it)).length:Int)),ck (!(!(decide ((Itv.kind it)<(1:Int)))) || (!(decide ((Itv.kind it)<(1:Int))))) (ck (!(!(decide ((Itv.kind it)<(1:Int)))) || (!(decide ((Itv.kind it)<(1:Int))))) (ck ((decide ((Itv.kind it)<(1:Int))) || (!(decide ((Itv.kind it)<(1:Int))))) (cond v1
  (some [(.i .i64 (5:Int))])
  (ck (decide (Itm.bulk (Itm.of it)≤1099511627776)) (cond (!(Cb.fieldsOK (Itm.of it)))
  (some [(.i .i64 (1:Int))])
  (ck (lenOK ((Itv.text it)).length) (ck (decide (((Itv.text it)).length≤1099511627776)) (cond v3
  (some [(.i .i64 (4:Int))])
  (cb_Check.l1 n (Itv.kids it) v4 (0:Int))))))))))=ρ):cb_Check.F n it=ρ:=Eq.trans (by kernel_rfl) (K _ rfl _ rfl _ rfl _ rfl)
theorem cb_Check.chk (n:Nat):((Go.Proofs.Tryd.prog.funcs[26]?).any fun fn=>chkF Go.Proofs.Tryd.prog (fun k=>((envL trydbGl (cb_Check.env n)).fs k).2) fn cb_Check.d.erase)=true:=by kernel_rfl
end
noncomputable section
def ref28_own.env:List (Nat × (Ctr × FSig)):=[(48,(ref2_Whole.c,ref2_Whole.sg))]
def ref28_own.E:TEnv:=envL trydbGl ref28_own.env
def ref28_own.m:TM := .seq (.reg [
  ⟨.k (.bx 1122),[.s 0,.s 1122],[1,1122],none⟩,
  ⟨.k .mv,[.c (.i .i64 (0:Int))],[2],none⟩]) none (.seq (.reg [
  ⟨.k (.fa 1122 0 0),[.s 1],[4],none⟩,
  ⟨.k (.ld 1122 0 1 false),[.s 4,.s 1122],[5],none⟩,
  ⟨.k (.bin .neq),[.s 5,.c (.i .i64 (3:Int))],[6],none⟩,
  ⟨.k .mv,[.s 6],[7],none⟩,
  ⟨.k (.fa 1122 0 0),[.s 1],[8],some (7,true)⟩,
  ⟨.k (.ld 1122 0 1 false),[.s 8,.s 1122],[9],some (7,true)⟩,
  ⟨.k (.bin .neq),[.s 9,.c (.i .i64 (4:Int))],[10],some (7,true)⟩,
  ⟨.k .pick,[.s 7,.s 10,.c (.b false)],[11],none⟩,
  ⟨.k .mv,[.s 11],[12],none⟩,
  ⟨.k (.fa 1122 0 0),[.s 1],[13],some (12,true)⟩,
  ⟨.k (.ld 1122 0 1 false),[.s 13,.s 1122],[14],some (12,true)⟩,
  ⟨.k (.bin .neq),[.s 14,.c (.i .i64 (5:Int))],[15],some (12,true)⟩,
  ⟨.k .pick,[.s 12,.s 15,.c (.b false)],[16],none⟩,
  ⟨.k .mv,[.s 16],[17],none⟩,
  ⟨.k (.fa 1122 0 0),[.s 1],[18],some (17,true)⟩,
  ⟨.k (.ld 1122 0 1 false),[.s 18,.s 1122],[19],some (17,true)⟩,
  ⟨.k (.bin .neq),[.s 19,.c (.i .i64 (6:Int))],[20],some (17,true)⟩,
  ⟨.k .pick,[.s 17,.s 20,.c (.b false)],[21],none⟩,
  ⟨.k .mv,[.s 21],[3],none⟩]) none (.seq (.block 0 [] (.seq (.reg [
  ⟨.k (.fa 1122 0 0),[.s 1],[23],none⟩,
  ⟨.k (.ld 1122 0 1 false),[.s 23,.s 1122],[24],none⟩,
  ⟨.k (.bin .lss),[.s 24,.c (.i .i64 (1:Int))],[25],none⟩,
  ⟨.k .mv,[.s 25],[26],none⟩,
  ⟨.k (.fa 1122 0 0),[.s 1],[27],some (26,false)⟩,
  ⟨.k (.ld 1122 0 1 false),[.s 27,.s 1122],[28],some (26,false)⟩,
  ⟨.k (.bin .gtr),[.s 28,.c (.i .i64 (9:Int))],[29],some (26,false)⟩,
  ⟨.k .pick,[.s 26,.c (.b true),.s 29],[30],none⟩,
  ⟨.k .mv,[.s 30],[22],none⟩]) none (.cond (.s 22) [] (.seq (.reg [
  ⟨.k .mv,[.c (.i .i64 (5:Int))],[2],none⟩]) none .ret) (.seq (.reg [
  ⟨.k .mv,[.s 3],[32],none⟩,
  ⟨.k (.un .not),[.s 32],[33],none⟩,
  ⟨.k .mv,[.s 33],[34],none⟩,
  ⟨.k (.fa 1122 0 1),[.s 1],[35],some (34,true)⟩,
  ⟨.k (.ld 1122 1 1 false),[.s 35,.s 1122],[36],some (34,true)⟩,
  ⟨.k (.bin .neq),[.s 36,.c (.u64 (0:UInt64))],[37],some (34,true)⟩,
  ⟨.k .pick,[.s 34,.s 37,.c (.b false)],[38],none⟩,
  ⟨.k .mv,[.s 38],[39],none⟩,
  ⟨.k (.fa 1122 0 0),[.s 1],[40],some (39,false)⟩,
  ⟨.k (.ld 1122 0 1 false),[.s 40,.s 1122],[41],some (39,false)⟩,
  ⟨.k (.bin .neq),[.s 41,.c (.i .i64 (3:Int))],[42],some (39,false)⟩,
  ⟨.k .mv,[.s 42],[43],some (39,false)⟩,
  ⟨.k (.fa 1122 0 2),[.s 1],[44],some (43,true)⟩,
  ⟨.k (.ld 1122 2 1 false),[.s 44,.s 1122],[45],some (43,true)⟩,
  ⟨.k .len,[.s 45],[46],some (43,true)⟩,
  ⟨.k (.bin .gtr),[.s 46,.c (.i .i64 (0:Int))],[47],some (43,true)⟩,
  ⟨.k .pick,[.s 43,.s 47,.c (.b false)],[48],some (39,false)⟩,
  ⟨.k .pick,[.s 39,.c (.b true),.s 48],[49],none⟩,
  ⟨.k .mv,[.s 49],[50],none⟩,
  ⟨.k (.fa 1122 0 0),[.s 1],[51],some (50,false)⟩,
  ⟨.k (.ld 1122 0 1 false),[.s 51,.s 1122],[52],some (50,false)⟩,
  ⟨.k (.bin .neq),[.s 52,.c (.i .i64 (4:Int))],[53],some (50,false)⟩,
  ⟨.k .mv,[.s 53],[54],some (50,false)⟩,
  ⟨.k (.fa 1122 0 3),[.s 1],[55],some (54,true)⟩,
  ⟨.k (.ld 1122 3 1 false),[.s 55,.s 1122],[56],some (54,true)⟩,
  ⟨.k (.bin .neq),[.s 56,.c (.s ([]:Str))],[57],some (54,true)⟩,
  ⟨.k .pick,[.s 54,.s 57,.c (.b false)],[58],some (50,false)⟩,
  ⟨.k .pick,[.s 50,.c (.b true),.s 58],[59],none⟩,
  ⟨.k .mv,[.s 59],[31],none⟩]) none (.cond (.s 31) [] (.seq (.reg [
  ⟨.k .mv,[.c (.i .i64 (1:Int))],[2],none⟩]) none .ret) (.seq (.reg [
  ⟨.k (.fa 1122 0 0),[.s 1],[61],none⟩,
  ⟨.k (.ld 1122 0 1 false),[.s 61,.s 1122],[62],none⟩,
  ⟨.k (.bin .neq),[.s 62,.c (.i .i64 (5:Int))],[63],none⟩,
  ⟨.k .mv,[.s 63],[64],none⟩,
  ⟨.k (.fa 1122 0 0),[.s 1],[65],some (64,true)⟩,
  ⟨.k (.ld 1122 0 1 false),[.s 65,.s 1122],[66],some (64,true)⟩,
  ⟨.k (.bin .neq),[.s 66,.c (.i .i64 (6:Int))],[67],some (64,true)⟩,
  ⟨.k .pick,[.s 64,.s 67,.c (.b false)],[68],none⟩,
  ⟨.k .mv,[.s 68],[69],none⟩,
  ⟨.k (.fa 1122 0 0),[.s 1],[70],some (69,true)⟩,
  ⟨.k (.ld 1122 0 1 false),[.s 70,.s 1122],[71],some (69,true)⟩,
  ⟨.k (.bin .neq),[.s 71,.c (.i .i64 (7:Int))],[72],some (69,true)⟩,
  ⟨.k .pick,[.s 69,.s 72,.c (.b false)],[73],none⟩,
  ⟨.k .mv,[.s 73],[74],none⟩,
  ⟨.k (.fa 1122 0 4),[.s 1],[75],some (74,true)⟩,
  ⟨.k (.ld 1122 4 1 false),[.s 75,.s 1122],[76],some (74,true)⟩,
  ⟨.k .len,[.s 76],[77],some (74,true)⟩,
  ⟨.k (.bin .gtr),[.s 77,.c (.i .i64 (0:Int))],[78],some (74,true)⟩,
  ⟨.k .pick,[.s 74,.s 78,.c (.b false)],[79],none⟩,
  ⟨.k .mv,[.s 79],[60],none⟩]) none (.cond (.s 60) [] (.seq (.reg [
  ⟨.k .mv,[.c (.i .i64 (1:Int))],[2],none⟩]) none .ret) (.seq (.reg [
  ⟨.k (.fa 1122 0 0),[.s 1],[81],none⟩,
  ⟨.k (.ld 1122 0 1 false),[.s 81,.s 1122],[82],none⟩,
  ⟨.k (.bin .eql),[.s 82,.c (.i .i64 (8:Int))],[83],none⟩,
  ⟨.k .mv,[.s 83],[84],none⟩,
  ⟨.k (.fa 1122 0 1),[.s 1],[85],some (84,true)⟩,
  ⟨.k (.ld 1122 1 1 false),[.s 85,.s 1122],[86],some (84,true)⟩,
  ⟨.k (.bin .lss),[.s 86,.c (.u64 (20:UInt64))],[87],some (84,true)⟩,
  ⟨.k .mv,[.s 87],[88],some (84,true)⟩,
  ⟨.k (.fa 1122 0 1),[.s 1],[89],some (88,false)⟩,
  ⟨.k (.ld 1122 1 1 false),[.s 89,.s 1122],[90],some (88,false)⟩,
  ⟨.k (.bin .gtr),[.s 90,.c (.u64 (23:UInt64))],[91],some (88,false)⟩,
  ⟨.k .pick,[.s 88,.c (.b true),.s 91],[92],some (84,true)⟩,
  ⟨.k .pick,[.s 84,.s 92,.c (.b false)],[93],none⟩,
  ⟨.k .mv,[.s 93],[94],none⟩,
  ⟨.k (.fa 1122 0 0),[.s 1],[95],some (94,false)⟩,
  ⟨.k (.ld 1122 0 1 false),[.s 95,.s 1122],[96],some (94,false)⟩,
  ⟨.k (.bin .eql),[.s 96,.c (.i .i64 (6:Int))],[97],some (94,false)⟩,
  ⟨.k .mv,[.s 97],[98],some (94,false)⟩,
  ⟨.k (.fa 1122 0 4),[.s 1],[99],some (98,true)⟩,
  ⟨.k (.ld 1122 4 1 false),[.s 99,.s 1122],[100],some (98,true)⟩,
  ⟨.k .len,[.s 100],[101],some (98,true)⟩,
  ⟨.k (.bin .rem),[.s 101,.c (.i .i64 (2:Int))],[102],some (98,true)⟩,
  ⟨.k (.bin .neq),[.s 102,.c (.i .i64 (0:Int))],[103],some (98,true)⟩,
  ⟨.k .pick,[.s 98,.s 103,.c (.b false)],[104],some (94,false)⟩,
  ⟨.k .pick,[.s 94,.c (.b true),.s 104],[105],none⟩,
  ⟨.k .mv,[.s 105],[106],none⟩,
  ⟨.k (.fa 1122 0 0),[.s 1],[107],some (106,false)⟩,
  ⟨.k (.ld 1122 0 1 false),[.s 107,.s 1122],[108],some (106,false)⟩,
  ⟨.k (.bin .eql),[.s 108,.c (.i .i64 (7:Int))],[109],some (106,false)⟩,
  ⟨.k .mv,[.s 109],[110],some (106,false)⟩,
  ⟨.k (.fa 1122 0 4),[.s 1],[111],some (110,true)⟩,
  ⟨.k (.ld 1122 4 1 false),[.s 111,.s 1122],[112],some (110,true)⟩,
  ⟨.k .len,[.s 112],[113],some (110,true)⟩,
  ⟨.k (.bin .neq),[.s 113,.c (.i .i64 (1:Int))],[114],some (110,true)⟩,
  ⟨.k .pick,[.s 110,.s 114,.c (.b false)],[115],some (106,false)⟩,
  ⟨.k .pick,[.s 106,.c (.b true),.s 115],[116],none⟩,
  ⟨.k .mv,[.s 116],[80],none⟩]) none (.cond (.s 80) [] (.seq (.reg [
  ⟨.k .mv,[.c (.i .i64 (1:Int))],[2],none⟩]) none .ret) (.seq (.reg [
  ⟨.k (.fa 1122 0 3),[.s 1],[118],none⟩,
  ⟨.k (.ld 1122 3 1 false),[.s 118,.s 1122],[119],none⟩,
  ⟨.k (.call 48 (.plain 1 1)),[.s 119],[120],none⟩,
  ⟨.k (.un .not),[.s 120],[121],none⟩,
  ⟨.k .mv,[.s 121],[117],none⟩]) none (.cond (.s 117) [] (.seq (.reg [
  ⟨.k .mv,[.c (.i .i64 (4:Int))],[2],none⟩]) none .ret) .skip))))))))))) none (.seq (.reg [
  ⟨.k .mv,[.c (.i .i64 (0:Int))],[2],none⟩]) none .ret)))
def ref28_own.d:TFD:={ np:=1,m:=ref28_own.m,ref:=none,tips:=[],res:=[.t 2],own:=[],new:=none,tnew:=[] }
noncomputable def ref28_own.F (it:Itv):Option (List TV):=ref28_own.d.run ref28_own.E [(.ag (Itv.cells it))]
theorem ref28_own.F_in (it:Itv) {ρ:Option (List TV)} (K:∀(v1:Bool) (h1:v1=(cond (!decide ((Itv.kind it)=(3:Int))) (!decide ((Itv.kind it)=(4:Int))) false)) (v2:Bool) (h2:v2=(cond v1 (!decide ((Itv.kind it)=(5:Int))) false)) (v3:Bool) (h3:v3=(cond v2 (!decide ((Itv.kind it)=(6:Int))) false)) (v4:Bool) (h4:v4=(cond (decide ((Itv.kind it)<(1:Int))) true (decide ((9:Int)<(Itv.kind it))))) (v5:Bool) (h5:v5=(cond (!v3) (!decide ((Itv.n it)=(0:UInt64))) false)) (v6:Bool) (h6:v6=((!v5)&&(!decide ((Itv.kind it)=(3:Int))))) (v7:Int) (h7:v7=(((Itv.bytes it)).length:Int)) (v8:Bool) (h8:v8=(cond (!decide ((Itv.kind it)=(3:Int))) (decide ((0:Int)<v7)) false)) (v9:Bool) (h9:v9=((!(cond v5 true v8))&&(!decide ((Itv.kind it)=(4:Int))))) (v10:Bool) (h10:v10=(cond (!decide ((Itv.kind it)=(4:Int))) (!decide ((Itv.text it)=([]:Str))) false)) (v11:Bool) (h11:v11=(cond (cond v5 true v8) true v10)) (v12:Bool) (h12:v12=(cond (!decide ((Itv.kind it)=(5:Int))) (!decide ((Itv.kind it)=(6:Int))) false)) (v13:Bool) (h13:v13=(cond v12 (!decide ((Itv.kind it)=(7:Int))) false)) (v14:Int) (h14:v14=(((Itv.kids it)).length:Int)) (v15:Bool) (h15:v15=(cond v13 (decide ((0:Int)<v14)) false)) (v16:Bool) (h16:v16=((decide ((Itv.kind it)=(8:Int)))&&(!(decide ((Itv.n it)<(20:UInt64)))))) (v17:Bool) (h17:v17=(cond (decide ((Itv.n it)<(20:UInt64))) true (decide ((23:UInt64)<(Itv.n it))))) (v18:Bool) (h18:v18=(cond (decide ((Itv.kind it)=(8:Int))) v17 false)) (v19:Bool) (h19:v19=((!v18)&&(decide ((Itv.kind it)=(6:Int))))) (v20:Bool) (h20:v20=(cond (decide ((Itv.kind it)=(6:Int))) (!decide ((Int.tmod v14 (2:Int))=(0:Int))) false)) (v21:Bool) (h21:v21=((!(cond v18 true v20))&&(decide ((Itv.kind it)=(7:Int))))) (v22:Bool) (h22:v22=(cond (decide ((Itv.kind it)=(7:Int))) (!decide (v14=(1:Int))) false)) (v23:Bool) (h23:v23=(cond (cond v18 true v20) true v22)) (v24:Bool) (h24:v24=(!(Utf.whole ((Itv.text it))))),ck (!(!decide ((Itv.kind it)=(3:Int))) || (!decide ((Itv.kind it)=(3:Int)))) (ck (!(!decide ((Itv.kind it)=(3:Int))) || (!decide ((Itv.kind it)=(3:Int)))) (ck (!(!decide ((Itv.kind it)=(3:Int))) || (!decide ((Itv.kind it)=(3:Int)))) (ck (!v1 || v1) (ck (!v1 || v1) (ck (!v1 || v1) (ck (!v2 || v2) (ck (!v2 || v2) (ck (!v2 || v2) (ck (!(!(decide ((Itv.kind it)<(1:Int)))) || (!(decide ((Itv.kind it)<(1:Int))))) (ck (!(!(decide ((Itv.kind it)<(1:Int)))) || (!(decide ((Itv.kind it)<(1:Int))))) (ck ((decide ((Itv.kind it)<(1:Int))) || (!(decide ((Itv.kind it)<(1:Int))))) (cond v4
  (some [(.i .i64 (5:Int))])
  (ck (!(!v3) || (!v3)) (ck (!(!v3) || (!v3)) (ck (!(!v3) || (!v3)) (ck (!(!v5) || (!v5)) (ck (!(!v5) || (!v5)) (ck (!(!v5) || (!v5)) (ck (!v6 || v6) (ck (!v6 || v6) (ck (!v6 || v6) (ck (!(!v5) || ((!v5)&&(!(!decide ((Itv.kind it)=(3:Int))) || v6))) (ck (v5 || (!v5)) (ck (!(!(cond v5 true v8)) || (!(cond v5 true v8))) (ck (!(!(cond v5 true v8)) || (!(cond v5 true v8))) (ck (!(!(cond v5 true v8)) || (!(cond v5 true v8))) (ck (!v9 || v9) (ck (!v9 || v9) (ck (!(!(cond v5 true v8)) || ((!(cond v5 true v8))&&(!(!decide ((Itv.kind it)=(4:Int))) || v9))) (ck ((cond v5 true v8) || (!(cond v5 true v8))) (cond v11
  (some [(.i .i64 (1:Int))])
  (ck (!(!decide ((Itv.kind it)=(5:Int))) || (!decide ((Itv.kind it)=(5:Int)))) (ck (!(!decide ((Itv.kind it)=(5:Int))) || (!decide ((Itv.kind it)=(5:Int)))) (ck (!(!decide ((Itv.kind it)=(5:Int))) || (!decide ((Itv.kind it)=(5:Int)))) (ck (!v12 || v12) (ck (!v12 || v12) (ck (!v12 || v12) (ck (!v13 || v13) (ck (!v13 || v13) (ck (!v13 || v13) (ck (!v13 || v13) (cond v15
  (some [(.i .i64 (1:Int))])
  (ck (!(decide ((Itv.kind it)=(8:Int))) || (decide ((Itv.kind it)=(8:Int)))) (ck (!(decide ((Itv.kind it)=(8:Int))) || (decide ((Itv.kind it)=(8:Int)))) (ck (!(decide ((Itv.kind it)=(8:Int))) || (decide ((Itv.kind it)=(8:Int)))) (ck (!v16 || v16) (ck (!v16 || v16) (ck (!(decide ((Itv.kind it)=(8:Int))) || ((decide ((Itv.kind it)=(8:Int)))&&((decide ((Itv.n it)<(20:UInt64))) || v16))) (ck (!(decide ((Itv.kind it)=(8:Int))) || (decide ((Itv.kind it)=(8:Int)))) (ck (!(!v18) || (!v18)) (ck (!(!v18) || (!v18)) (ck (!(!v18) || (!v18)) (ck (!v19 || v19) (ck (!v19 || v19) (ck (!v19 || (v19&&(!decide ((2:Int)=0)))) (ck (!v19 || v19) (ck (!(!v18) || ((!v18)&&(!(decide ((Itv.kind it)=(6:Int))) || v19))) (ck (v18 || (!v18)) (ck (!(!(cond v18 true v20)) || (!(cond v18 true v20))) (ck (!(!(cond v18 true v20)) || (!(cond v18 true v20))) (ck (!(!(cond v18 true v20)) || (!(cond v18 true v20))) (ck (!v21 || v21) (ck (!v21 || v21) (ck (!v21 || v21) (ck (!(!(cond v18 true v20)) || ((!(cond v18 true v20))&&(!(decide ((Itv.kind it)=(7:Int))) || v21))) (ck ((cond v18 true v20) || (!(cond v18 true v20))) (cond v23
  (some [(.i .i64 (1:Int))])
  (ck (decide (((Itv.text it)).length≤1099511627776)) (cond v24
  (some [(.i .i64 (4:Int))])
  (some [(.i .i64 (0:Int))]))))))))))))))))))))))))))))))))))))))))))))))))))))))))))))))))))))))=ρ):ref28_own.F it=ρ:=Eq.trans (by kernel_rfl) (K _ rfl _ rfl _ rfl _ rfl _ rfl _ rfl _ rfl _ rfl _ rfl _ rfl _ rfl _ rfl _ rfl _ rfl _ rfl _ rfl _ rfl _ rfl _ rfl _ rfl _ rfl _ rfl _ rfl _ rfl)
theorem ref28_own.chk:((Go.Proofs.Tryd.prog.funcs[32]?).any fun fn=>chkF Go.Proofs.Tryd.prog (fun k=>((envL trydbGl ref28_own.env).fs k).2) fn ref28_own.d.erase)=true:=by kernel_rfl
end
noncomputable section
def ref28_Check.env (n:Nat):List (Nat × (Ctr × FSig)):=[(18,(ref28_Check.cn n,ref28_Check.sg)),(32,(ref28_own.c,ref28_own.sg))]
def ref28_Check.E (n:Nat):TEnv:=envL trydbGl (ref28_Check.env n)
def ref28_Check.m1:TM := .seq (.seq (.reg [
  ⟨.k .mv,[.s 4],[7],none⟩,
  ⟨.k (.fa 1025 0 4),[.s 1],[8],none⟩,
  ⟨.k (.ld 1025 4 1 false),[.s 8,.s 1025],[9],none⟩,
  ⟨.k .len,[.s 9],[10],none⟩,
  ⟨.k (.bin .lss),[.s 7,.s 10],[11],none⟩,
  ⟨.k .mv,[.s 11],[12],none⟩,
  ⟨.k .mv,[.s 3],[13],some (12,true)⟩,
  ⟨.k (.bin .eql),[.s 13,.c (.i .i64 (0:Int))],[14],some (12,true)⟩,
  ⟨.k .pick,[.s 12,.s 14,.c (.b false)],[15],none⟩]) none (.cond (.s 15) [] .skip (.exit 0))) none (.seq (.block 1 [(1,.ptr 1025 0),(1025,.cl [])] (.reg [
  ⟨.k (.fa 1025 0 4),[.s 1],[18],none⟩,
  ⟨.k (.ld 1025 4 1 false),[.s 18,.s 1025],[19],none⟩,
  ⟨.k .mv,[.s 4],[20],none⟩,
  ⟨.k (.ix 5),[.s 19,.s 20],[21],none⟩,
  ⟨.k (.lr 5 true),[.s 21],[22],none⟩,
  ⟨.k (.call 18 (.plain 1 1)),[.s 22],[23],none⟩,
  ⟨.k .mv,[.s 23],[3],none⟩])) none (.reg [
  ⟨.k .mv,[.s 4],[16],none⟩,
  ⟨.k (.bin .add),[.s 16,.c (.i .i64 (1:Int))],[17],none⟩,
  ⟨.k .mv,[.s 17],[4],none⟩]))
def ref28_Check.m:TM := .seq (.reg [
  ⟨.k (.bx 1025),[.s 0,.s 1025],[1,1025],none⟩,
  ⟨.k .mv,[.c (.i .i64 (0:Int))],[2],none⟩]) none (.seq (.reg [
  ⟨.k (.ld 1025 0 5 true),[.s 1,.s 1025],[5],none⟩,
  ⟨.k (.call 32 (.plain 1 1)),[.s 5],[6],none⟩,
  ⟨.k .mv,[.s 6],[3],none⟩]) none (.seq (.seq (.reg [
  ⟨.k .mv,[.c (.i .i64 (0:Int))],[4],none⟩]) none (.block 0 [] (.loop [1,3,4,1025] [(1,.ptr 1025 0),(1025,.cl [])] ref28_Check.m1))) none (.seq (.reg [
  ⟨.k .mv,[.s 3],[24],none⟩,
  ⟨.k .mv,[.s 24],[2],none⟩]) none .ret)))
def ref28_Check.d:TFD:={ np:=1,m:=ref28_Check.m,ref:=none,tips:=[],res:=[.t 2],own:=[],new:=none,tnew:=[] }
noncomputable def ref28_Check.F (n:Nat) (it:Itv):Option (List TV):=ref28_Check.d.run (ref28_Check.E n) [(.ag (Itv.cells it))]
noncomputable def ref28_Check.k1 (n:Nat):Cont (List TV):=seqK (ev _ (ref28_Check.E n) (.seq (.reg [
  ⟨.k .mv,[.s 3],[24],none⟩,
  ⟨.k .mv,[.s 24],[2],none⟩]) none .ret)) none (endK ref28_Check.d)
noncomputable def ref28_Check.l1 (n:Nat) (x0:Int) (x1:Int) (x2:Itv):Option (List TV):=loopL (evO _ (ref28_Check.E n) ref28_Check.m1) isN [1,3,4,1025] (headT [1,3,4,1025] [.pt,(.i .i64 x0),(.i .i64 x1),(.ag (Itv.cells x2))]) (blockK 0 (ref28_Check.k1 n))
theorem ref28_Check.l1_in (n:Nat) (x0:Int) (x1:Int) (x2:Itv) {ρ:Option (List TV)} (K:∀(v1:Int) (h1:v1=(((Itv.kids x2)).length:Int)) (v2:Bool) (h2:v2=(cond (decide (x1<v1)) (decide (x0=(0:Int))) false)) (v3:Int) (h3:v3=(Cb.chk (Itm.of (Itm.val (List.getD (Itv.kids x2) (x1).toNat (STy.dflt .il)))))) (v4:Int) (h4:v4=(IntKind.i64.wrap (x1+(1:Int)))),ck (!(decide (x1<v1)) || (decide (x1<v1))) (ck (!(decide (x1<v1)) || (decide (x1<v1))) (cond v2
  (ck (idxOK x1 ((Itv.kids x2)).length) (ck ((decide (Itm.bulk (Itm.of (Itm.val (List.getD (Itv.kids x2) (x1).toNat (STy.dflt .il))))≤1099511627776))&&decide ((Itm.bulk (Itm.of (Itm.val (List.getD (Itv.kids x2) (x1).toNat (STy.dflt .il)))))<n)) (ref28_Check.l1 n v3 v4 x2)))
  (some [(.i .i64 x0)])))=ρ):ref28_Check.l1 n x0 x1 x2=ρ:=((ev_loop _ _ _ _ _ _).trans (by kernel_rfl)).trans (K _ rfl _ rfl _ rfl _ rfl)
theorem ref28_Check.F_eq (n:Nat) (it:Itv):ref28_Check.F n it=ck (decide (Itm.bulk (Itm.of it)≤1099511627776)) (ref28_Check.l1 n (Cb.own (Itm.of it)) (0:Int) it):=by kernel_rfl
theorem ref28_Check.chk (n:Nat):((Go.Proofs.Tryd.prog.funcs[18]?).any fun fn=>chkF Go.Proofs.Tryd.prog (fun k=>((envL trydbGl (ref28_Check.env n)).fs k).2) fn ref28_Check.d.erase)=true:=by kernel_rfl
end
noncomputable section
def db_text.env:List (Nat × (Ctr × FSig)):=[]
def db_text.E:TEnv:=envL trydbGl db_text.env
def db_text.m:TM := .seq (.reg [
  ⟨.al 1005 [(.i .i64 (0:Int)),(.u64 (0:UInt64)),(.sl .bs ([]:List UInt8)),(.s ([]:Str)),(.sl .il ([]:List Itm))] [],[.s 1005],[2,1005],none⟩]) none (.seq (.reg [
  ⟨.k .mv,[.s 0],[3],none⟩,
  ⟨.bd [(.i .i64 (0:Int)),(.u64 (0:UInt64)),(.sl .bs ([]:List UInt8)),(.s ([]:Str)),(.sl .il ([]:List Itm))] [(0,1),(3,1)],[.c (.i .i64 (4:Int)),.s 3],[4],none⟩,
  ⟨.k (.st 1005 0 5),[.s 2,.s 1005,.s 4],[1005],none⟩]) none .ret)
def db_text.d:TFD:={ np:=1,m:=db_text.m,ref:=none,tips:=[],res:=[.c 2 1005 5 true],own:=[],new:=none,tnew:=[] }
noncomputable def db_text.F (s:Str):Option (List TV):=db_text.d.run db_text.E [(.s s)]
theorem db_text.F_eq (s:Str):db_text.F s=some [(.ag [(.i .i64 (4:Int)),(.u64 (0:UInt64)),(.sl .bs ([]:List UInt8)),(.s s),(.sl .il ([]:List Itm))])]:=by kernel_rfl
theorem db_text.chk:((Go.Proofs.Tryd.prog.funcs[36]?).any fun fn=>chkF Go.Proofs.Tryd.prog (fun k=>((envL trydbGl db_text.env).fs k).2) fn db_text.d.erase)=true:=by kernel_rfl
end
noncomputable section
def db_raw.env:List (Nat × (Ctr × FSig)):=[(69,(clone_bs.c,clone_bs.sg))]
def db_raw.E:TEnv:=envL trydbGl db_raw.env
def db_raw.m:TM := .seq (.reg [
  ⟨.al 1006 [(.i .i64 (0:Int)),(.u64 (0:UInt64)),(.sl .bs ([]:List UInt8)),(.s ([]:Str)),(.sl .il ([]:List Itm))] [],[.s 1006],[2,1006],none⟩]) none (.seq (.reg [
  ⟨.k .mv,[.s 0],[3],none⟩,
  ⟨.k (.call 69 ⟨1,none,[],[],1,[(0,102,1)],none,[]⟩),[.s 3,.s (lk 102)],[4,lk 102],none⟩,
  ⟨.bd [(.i .i64 (0:Int)),(.u64 (0:UInt64)),(.sl .bs ([]:List UInt8)),(.s ([]:Str)),(.sl .il ([]:List Itm))] [(0,1),(2,1)],[.c (.i .i64 (3:Int)),.s 4],[5],none⟩,
  ⟨.k (.st 1006 0 5),[.s 2,.s 1006,.s 5],[1006],none⟩]) none .ret)
def db_raw.d:TFD:={ np:=1,m:=db_raw.m,ref:=none,tips:=[],res:=[.c 2 1006 5 true],own:=[],new:=none,tnew:=[] }
noncomputable def db_raw.F (b:List UInt8):Option (List TV):=db_raw.d.run db_raw.E [(.sl .bs b)]
theorem db_raw.F_eq (b:List UInt8):db_raw.F b=ck (apOK (b).length 1) (some [(.ag [(.i .i64 (3:Int)),(.u64 (0:UInt64)),(.sl .bs (b)),(.s ([]:Str)),(.sl .il ([]:List Itm))])]):=by kernel_rfl
theorem db_raw.chk:((Go.Proofs.Tryd.prog.funcs[57]?).any fun fn=>chkF Go.Proofs.Tryd.prog (fun k=>((envL trydbGl db_raw.env).fs k).2) fn db_raw.d.erase)=true:=by kernel_rfl
end
noncomputable section
def db_plus.env:List (Nat × (Ctr × FSig)):=[]
def db_plus.E:TEnv:=envL trydbGl db_plus.env
def db_plus.m:TM := .seq (.reg [
  ⟨.al 1005 [(.i .i64 (0:Int)),(.u64 (0:UInt64)),(.sl .bs ([]:List UInt8)),(.s ([]:Str)),(.sl .il ([]:List Itm))] [],[.s 1005],[2,1005],none⟩]) none (.seq (.reg [
  ⟨.k .mv,[.s 0],[3],none⟩,
  ⟨.bd [(.i .i64 (0:Int)),(.u64 (0:UInt64)),(.sl .bs ([]:List UInt8)),(.s ([]:Str)),(.sl .il ([]:List Itm))] [(0,1),(1,1)],[.c (.i .i64 (1:Int)),.s 3],[4],none⟩,
  ⟨.k (.st 1005 0 5),[.s 2,.s 1005,.s 4],[1005],none⟩]) none .ret)
def db_plus.d:TFD:={ np:=1,m:=db_plus.m,ref:=none,tips:=[],res:=[.c 2 1005 5 true],own:=[],new:=none,tnew:=[] }
noncomputable def db_plus.F (n:UInt64):Option (List TV):=db_plus.d.run db_plus.E [(.u64 n)]
theorem db_plus.F_eq (n:UInt64):db_plus.F n=some [(.ag [(.i .i64 (1:Int)),(.u64 n),(.sl .bs ([]:List UInt8)),(.s ([]:Str)),(.sl .il ([]:List Itm))])]:=by kernel_rfl
theorem db_plus.chk:((Go.Proofs.Tryd.prog.funcs[81]?).any fun fn=>chkF Go.Proofs.Tryd.prog (fun k=>((envL trydbGl db_plus.env).fs k).2) fn db_plus.d.erase)=true:=by kernel_rfl
end
noncomputable section
def db_simple.env:List (Nat × (Ctr × FSig)):=[]
def db_simple.E:TEnv:=envL trydbGl db_simple.env
def db_simple.m:TM := .seq (.reg [
  ⟨.al 1005 [(.i .i64 (0:Int)),(.u64 (0:UInt64)),(.sl .bs ([]:List UInt8)),(.s ([]:Str)),(.sl .il ([]:List Itm))] [],[.s 1005],[2,1005],none⟩]) none (.seq (.reg [
  ⟨.k .mv,[.s 0],[3],none⟩,
  ⟨.bd [(.i .i64 (0:Int)),(.u64 (0:UInt64)),(.sl .bs ([]:List UInt8)),(.s ([]:Str)),(.sl .il ([]:List Itm))] [(0,1),(1,1)],[.c (.i .i64 (8:Int)),.s 3],[4],none⟩,
  ⟨.k (.st 1005 0 5),[.s 2,.s 1005,.s 4],[1005],none⟩]) none .ret)
def db_simple.d:TFD:={ np:=1,m:=db_simple.m,ref:=none,tips:=[],res:=[.c 2 1005 5 true],own:=[],new:=none,tnew:=[] }
noncomputable def db_simple.F (n:UInt64):Option (List TV):=db_simple.d.run db_simple.E [(.u64 n)]
theorem db_simple.F_eq (n:UInt64):db_simple.F n=some [(.ag [(.i .i64 (8:Int)),(.u64 n),(.sl .bs ([]:List UInt8)),(.s ([]:Str)),(.sl .il ([]:List Itm))])]:=by kernel_rfl
theorem db_simple.chk:((Go.Proofs.Tryd.prog.funcs[58]?).any fun fn=>chkF Go.Proofs.Tryd.prog (fun k=>((envL trydbGl db_simple.env).fs k).2) fn db_simple.d.erase)=true:=by kernel_rfl
end
noncomputable section
def db_list.env:List (Nat × (Ctr × FSig)):=[]
def db_list.E:TEnv:=envL trydbGl db_list.env
def db_list.m:TM := .seq (.reg [
  ⟨.al 1005 [(.i .i64 (0:Int)),(.u64 (0:UInt64)),(.sl .bs ([]:List UInt8)),(.s ([]:Str)),(.sl .il ([]:List Itm))] [],[.s 1005],[2,1005],none⟩]) none (.seq (.reg [
  ⟨.k .mv,[.s 0],[3],none⟩,
  ⟨.bd [(.i .i64 (0:Int)),(.u64 (0:UInt64)),(.sl .bs ([]:List UInt8)),(.s ([]:Str)),(.sl .il ([]:List Itm))] [(0,1),(4,1)],[.c (.i .i64 (5:Int)),.s 3],[4],none⟩,
  ⟨.k (.st 1005 0 5),[.s 2,.s 1005,.s 4],[1005],none⟩]) none .ret)
def db_list.d:TFD:={ np:=1,m:=db_list.m,ref:=none,tips:=[],res:=[.c 2 1005 5 true],own:=[],new:=none,tnew:=[] }
noncomputable def db_list.F (l:List Itm):Option (List TV):=db_list.d.run db_list.E [(.sl .il l)]
theorem db_list.F_eq (l:List Itm):db_list.F l=some [(.ag [(.i .i64 (5:Int)),(.u64 (0:UInt64)),(.sl .bs ([]:List UInt8)),(.s ([]:Str)),(.sl .il l)])]:=by kernel_rfl
theorem db_list.chk:((Go.Proofs.Tryd.prog.funcs[56]?).any fun fn=>chkF Go.Proofs.Tryd.prog (fun k=>((envL trydbGl db_list.env).fs k).2) fn db_list.d.erase)=true:=by kernel_rfl
end
noncomputable section
def db_integer.env:List (Nat × (Ctr × FSig)):=[(81,(db_plus.c,db_plus.sg))]
def db_integer.E:TEnv:=envL trydbGl db_integer.env
def db_integer.m:TM := .seq (.reg [
  ⟨.al 1012 [(.i .i64 (0:Int)),(.u64 (0:UInt64)),(.sl .bs ([]:List UInt8)),(.s ([]:Str)),(.sl .il ([]:List Itm))] [],[.s 1012],[2,1012],none⟩]) none (.seq (.seq (.reg [
  ⟨.k .mv,[.s 0],[3],none⟩,
  ⟨.k (.bin .lss),[.s 3,.c (.i .i64 (0:Int))],[4],none⟩]) none (.cond (.s 4) [] (.seq (.reg [
  ⟨.k .mv,[.s 0],[5],none⟩,
  ⟨.k (.ci .u64),[.s 5],[6],none⟩,
  ⟨.k (.un .xor),[.s 6],[7],none⟩,
  ⟨.bd [(.i .i64 (0:Int)),(.u64 (0:UInt64)),(.sl .bs ([]:List UInt8)),(.s ([]:Str)),(.sl .il ([]:List Itm))] [(0,1),(1,1)],[.c (.i .i64 (2:Int)),.s 7],[8],none⟩,
  ⟨.k (.st 1012 0 5),[.s 2,.s 1012,.s 8],[1012],none⟩]) none .ret) .skip)) none (.seq (.reg [
  ⟨.k .mv,[.s 0],[9],none⟩,
  ⟨.k (.ci .u64),[.s 9],[10],none⟩,
  ⟨.k (.call 81 (.plain 1 1)),[.s 10],[11],none⟩,
  ⟨.k (.st 1012 0 5),[.s 2,.s 1012,.s 11],[1012],none⟩]) none .ret))
def db_integer.d:TFD:={ np:=1,m:=db_integer.m,ref:=none,tips:=[],res:=[.c 2 1012 5 true],own:=[],new:=none,tnew:=[] }
noncomputable def db_integer.F (v:Int):Option (List TV):=db_integer.d.run db_integer.E [(.i .i64 v)]
theorem db_integer.F_eq (v:Int):db_integer.F v=cond (decide (v<(0:Int)))
  (some [(.ag [(.i .i64 (2:Int)),(.u64 (~~~(UInt64.ofInt v))),(.sl .bs ([]:List UInt8)),(.s ([]:Str)),(.sl .il ([]:List Itm))])])
  (some [(.ag (Itv.cells (Itm.val (Db.plus ((UInt64.ofInt v))))))]):=by kernel_rfl
theorem db_integer.chk:((Go.Proofs.Tryd.prog.funcs[59]?).any fun fn=>chkF Go.Proofs.Tryd.prog (fun k=>((envL trydbGl db_integer.env).fs k).2) fn db_integer.d.erase)=true:=by kernel_rfl
end
noncomputable section
def db_words.env:List (Nat × (Ctr × FSig)):=[(57,(db_raw.c,db_raw.sg))]
def db_words.E:TEnv:=envL trydbGl db_words.env
def db_words.m1:TM := .reg [
  ⟨.k .mv,[.s 3],[16],none⟩,
  ⟨.k .mv,[.s 5],[17],none⟩,
  ⟨.k .mv,[.s 4],[18],none⟩,
  ⟨.k (.bin .rem),[.s 18,.c (.i .i64 (64:Int))],[19],none⟩,
  ⟨.k (.bin .shr),[.s 17,.s 19],[20],none⟩,
  ⟨.k (.ci .u8),[.s 20],[21],none⟩,
  ⟨.bl .bs 1,[.s 21],[22],none⟩,
  ⟨.k (.ap 102 104 1 1),[.s 16,.s 22,.s (lk 102),.s (lk 104)],[23,lk 102,lk 104],none⟩,
  ⟨.k .mv,[.s 23],[3],none⟩]
def db_words.m2:TM := .seq (.seq (.reg [
  ⟨.k .mv,[.s 4],[6],none⟩,
  ⟨.k (.bin .geq),[.s 6,.c (.i .i64 (0:Int))],[7],none⟩]) none (.cond (.s 7) [] .skip (.exit 0))) none (.seq (.block 1 [(1,.ptr 1026 0),(2,.ptr 1027 0),(3,.tip 104 1),(1026,.cl []),(1027,.cl []),(lk 104,.live 1)] (.seq (.reg [
  ⟨.k (.fa 1026 0 2),[.s 1],[10],none⟩,
  ⟨.k (.ld 1026 2 1 false),[.s 10,.s 1026],[11],none⟩,
  ⟨.k .mv,[.s 11],[5],none⟩]) none (.seq (.seq (.reg [
  ⟨.k .mv,[.s 4],[12],none⟩,
  ⟨.k (.bin .lss),[.s 12,.c (.i .i64 (64:Int))],[13],none⟩]) none (.cond (.s 13) [(1,.ptr 1026 0),(2,.ptr 1027 0),(3,.tip 102 1),(1026,.cl []),(1027,.cl []),(lk 102,.live 1)] (.reg [
  ⟨.k (.fa 1026 0 3),[.s 1],[14],none⟩,
  ⟨.k (.ld 1026 3 1 false),[.s 14,.s 1026],[15],none⟩,
  ⟨.k .mv,[.s 15],[5],none⟩]) .skip)) (some [1,2,3,4,5,1026,1027]) db_words.m1))) none (.reg [
  ⟨.k .mv,[.s 4],[8],none⟩,
  ⟨.k (.bin .sub),[.s 8,.c (.i .i64 (8:Int))],[9],none⟩,
  ⟨.k .mv,[.s 9],[4],none⟩]))
def db_words.m:TM := .seq (.reg [
  ⟨.k (.bx 1026),[.s 0,.s 1026],[1,1026],none⟩,
  ⟨.al 1027 [(.i .i64 (0:Int)),(.u64 (0:UInt64)),(.sl .bs ([]:List UInt8)),(.s ([]:Str)),(.sl .il ([]:List Itm))] [],[.s 1027],[2,1027],none⟩]) none (.seq (.reg [
  ⟨.nl .bs 102,[.s (lk 102)],[3,lk 102],none⟩]) none (.seq (.seq (.reg [
  ⟨.k .mv,[.c (.i .i64 (120:Int))],[4],none⟩]) none (.block 0 [(2,.ptr 1027 0),(3,.tip 102 1),(1027,.cl []),(lk 102,.live 1)] (.loop [1,2,3,4,1026,1027] [(1,.ptr 1026 0),(2,.ptr 1027 0),(3,.tip 102 1),(1026,.cl []),(1027,.cl []),(lk 102,.live 1)] db_words.m2))) none (.seq (.reg [
  ⟨.k .mv,[.s 3],[24],none⟩,
  ⟨.k (.call 57 (.plain 1 1)),[.s 24],[25],none⟩,
  ⟨.k (.st 1027 0 5),[.s 2,.s 1027,.s 25],[1027],none⟩]) none .ret)))
def db_words.d:TFD:={ np:=1,m:=db_words.m,ref:=none,tips:=[],res:=[.c 2 1027 5 true],own:=[],new:=none,tnew:=[] }
noncomputable def db_words.F (v:Val):Option (List TV):=db_words.d.run db_words.E [(.ag (Val.cells v))]
noncomputable def db_words.k1:Cont (List TV):=seqK (ev _ db_words.E (.seq (.reg [
  ⟨.k .mv,[.s 3],[24],none⟩,
  ⟨.k (.call 57 (.plain 1 1)),[.s 24],[25],none⟩,
  ⟨.k (.st 1027 0 5),[.s 2,.s 1027,.s 25],[1027],none⟩]) none .ret)) none (endK db_words.d)
noncomputable def db_words.k2:Cont (List TV):=againK (evO _ db_words.E db_words.m2) isN [1,2,3,4,1026,1027] (blockK 0 db_words.k1)
noncomputable def db_words.k3:Cont (List TV):=seqK (ev _ db_words.E (.reg [
  ⟨.k .mv,[.s 4],[8],none⟩,
  ⟨.k (.bin .sub),[.s 8,.c (.i .i64 (8:Int))],[9],none⟩,
  ⟨.k .mv,[.s 9],[4],none⟩])) none db_words.k2
noncomputable def db_words.l1 (x0:List UInt8) (x1:Int) (x2:Val) (x3:Itv):Option (List TV):=loopL (evO _ db_words.E db_words.m2) isN [1,2,3,4,1026,1027] (headT [1,2,3,4,1026,1027] [.pt,.pt,(.sl .bs x0),(.i .i64 x1),(.ag (Val.cells x2)),(.ag (Itv.cells x3))]) (blockK 0 db_words.k1)
noncomputable def db_words.j2 (x0:List UInt8) (x1:Int) (x2:UInt64) (x3:Val) (x4:Itv):Option (List TV):=evO _ db_words.E db_words.m1 (headT [1,2,3,4,5,1026,1027] [.pt,.pt,(.sl .bs x0),(.i .i64 x1),(.u64 x2),(.ag (Val.cells x3)),(.ag (Itv.cells x4))]) (blockK 1 db_words.k3)
theorem db_words.l1_eq (x0:List UInt8) (x1:Int) (x2:Val) (x3:Itv):db_words.l1 x0 x1 x2 x3=cond (decide ((0:Int)≤x1))
  (cond (decide (x1<(64:Int)))
  (db_words.j2 x0 x1 (Val.low x2) x2 x3)
  (db_words.j2 x0 x1 (Val.high x2) x2 x3))
  (ck (decide ((x0).length≤1099511627776)) (some [(.ag (Itv.cells (Itm.val (Db.raw x0))))])):=((ev_loop _ _ _ _ _ _).trans (by kernel_rfl))
theorem db_words.j2_in (x0:List UInt8) (x1:Int) (x2:UInt64) (x3:Val) (x4:Itv) {ρ:Option (List TV)} (K:∀(v1:UInt64) (h1:v1=(shr64 x2 (((Int.tmod x1 (64:Int))).toNat))) (v2:UInt8) (h2:v2=(UInt8.ofInt ((v1).toNat:Int))) (v3:Int) (h3:v3=(IntKind.i64.wrap (x1 - (8:Int)))),ck (!decide ((64:Int)=0)) (ck (decide (0≤(Int.tmod x1 (64:Int)))) (ck (apOK ((x0).length+(([v2]:List UInt8)).length) 1) (db_words.l1 (x0++([v2]:List UInt8)) v3 x3 x4)))=ρ):db_words.j2 x0 x1 x2 x3 x4=ρ:=((congrFun (congrFun (ev_eq _ _) _) _).trans (by kernel_rfl)).trans (K _ rfl _ rfl _ rfl)
theorem db_words.F_eq (v:Val):db_words.F v=db_words.l1 ([]:List UInt8) (120:Int) v (Itv.mk (0:Int) (0:UInt64) ([]:List UInt8) ([]:Str) ([]:List Itm)):=by kernel_rfl
theorem db_words.chk:((Go.Proofs.Tryd.prog.funcs[82]?).any fun fn=>chkF Go.Proofs.Tryd.prog (fun k=>((envL trydbGl db_words.env).fs k).2) fn db_words.d.erase)=true:=by kernel_rfl
end
noncomputable section
def db_mapped.env (n:Nat):List (Nat × (Ctr × FSig)):=[(36,(db_text.c,db_text.sg)),(37,(db_item.cn n,db_item.sg))]
def db_mapped.E (n:Nat):TEnv:=envL trydbGl (db_mapped.env n)
def db_mapped.m1:TM := .seq (.reg [
  ⟨.k (.bin .lss),[.s 9,.s 8],[10],none⟩]) none (.seq (.cond (.s 10) [] .skip (.exit 0)) none (.seq (.block 1 [(2,.ptr 1026 0),(3,.ptr 1027 0),(1026,.cl []),(1027,.cl [(4,109,5)]),(lk 109,.live 5)] (.seq (.reg [
  ⟨.k (.ix 10),[.s 7,.s 9],[11],none⟩,
  ⟨.k (.lr 10 true),[.s 11],[12],none⟩,
  ⟨.al 1028 [(.s ([]:Str)),(.i .i64 (0:Int)),(.u64 (0:UInt64)),(.u64 (0:UInt64)),(.u64 (0:UInt64)),(.s ([]:Str)),(.s ([]:Str)),(.i .i64 (0:Int)),(.sl .bs ([]:List UInt8)),(.sl .fl ([]:List Fld))] [],[.s 1028],[5,1028],none⟩,
  ⟨.k (.st 1028 0 10),[.s 5,.s 1028,.s 12],[1028],none⟩]) none (.reg [
  ⟨.k (.fa 1027 0 4),[.s 3],[13],none⟩,
  ⟨.k (.ld 1027 4 1 false),[.s 13,.s 1027],[14],none⟩,
  ⟨.k (.fa 1028 0 0),[.s 5],[15],none⟩,
  ⟨.k (.ld 1028 0 1 false),[.s 15,.s 1028],[16],none⟩,
  ⟨.k (.call 36 (.plain 1 1)),[.s 16],[17],none⟩,
  ⟨.k (.fa 1028 0 1),[.s 5],[18],none⟩,
  ⟨.k (.ld 1028 1 9 true),[.s 18,.s 1028],[19],none⟩,
  ⟨.k (.call 37 (.plain 1 1)),[.s 19],[20],none⟩,
  ⟨.bl .il 2,[.s 17,.s 20],[21],none⟩,
  ⟨.k (.ap 105 109 5 80),[.s 14,.s 21,.s (lk 105),.s (lk 109)],[22,lk 105,lk 109],none⟩,
  ⟨.k (.fa 1027 0 4),[.s 3],[23],none⟩,
  ⟨.k (.st 1027 4 1),[.s 23,.s 1027,.s 22],[1027],none⟩]))) none (.reg [
  ⟨.k (.bin .add),[.s 9,.c (.i .i64 (1:Int))],[24],none⟩,
  ⟨.k .mv,[.s 24],[9],none⟩])))
def db_mapped.m:TM := .seq (.reg [
  ⟨.al 1026 [(.i .i64 (0:Int)),(.u64 (0:UInt64)),(.sl .bs ([]:List UInt8)),(.s ([]:Str)),(.sl .il ([]:List Itm))] [],[.s 1026],[2,1026],none⟩]) none (.seq (.reg [
  ⟨.bd [(.i .i64 (0:Int)),(.u64 (0:UInt64)),(.c (.slice none 0 0)),(.s ([]:Str)),(.c (.slice none 0 0))] [(0,1)],[.c (.i .i64 (6:Int))],[6],none⟩,
  ⟨.al 1027 [(.i .i64 (0:Int)),(.u64 (0:UInt64)),(.sl .bs ([]:List UInt8)),(.s ([]:Str)),(.sl .il ([]:List Itm))] [],[.s 1027],[3,1027],none⟩,
  ⟨.stt 1027 0 5 [(4,105,.il)],[.s 3,.s 1027,.s 6,.s (lk 105)],[1027,lk 105],none⟩]) none (.seq (.seq (.reg [
  ⟨.k .mv,[.s 0],[7],none⟩,
  ⟨.k .len,[.s 7],[8],none⟩,
  ⟨.k .mv,[.c (.i .i64 (0:Int))],[9],none⟩]) none (.block 0 [(2,.ptr 1026 0),(3,.ptr 1027 0),(1026,.cl []),(1027,.cl [(4,105,5)]),(lk 105,.live 5)] (.loop [2,3,7,8,9,1026,1027] [(2,.ptr 1026 0),(3,.ptr 1027 0),(1026,.cl []),(1027,.cl [(4,105,5)]),(lk 105,.live 5)] db_mapped.m1))) none (.seq (.reg [
  ⟨.k (.ld 1027 0 5 true),[.s 3,.s 1027],[25],none⟩,
  ⟨.stt 1026 0 5 [(2,110,.bs)],[.s 2,.s 1026,.s 25,.s (lk 110)],[1026,lk 110],none⟩]) none .ret)))
def db_mapped.d:TFD:={ np:=1,m:=db_mapped.m,ref:=none,tips:=[],res:=[.c 2 1026 5 true],own:=[],new:=none,tnew:=[] }
noncomputable def db_mapped.F (n:Nat) (l:List Fld):Option (List TV):=db_mapped.d.run (db_mapped.E n) [(.sl .fl l)]
noncomputable def db_mapped.k1 (n:Nat):Cont (List TV):=seqK (ev _ (db_mapped.E n) (.seq (.reg [
  ⟨.k (.ld 1027 0 5 true),[.s 3,.s 1027],[25],none⟩,
  ⟨.stt 1026 0 5 [(2,110,.bs)],[.s 2,.s 1026,.s 25,.s (lk 110)],[1026,lk 110],none⟩]) none .ret)) none (endK db_mapped.d)
noncomputable def db_mapped.l1 (n:Nat) (x0:List Fld) (x1:Int) (x2:Int) (x3:Itv) (x4:Int) (x5:UInt64) (x6:Str) (x7:List Itm):Option (List TV):=loopL (evO _ (db_mapped.E n) db_mapped.m1) isN [2,3,7,8,9,1026,1027] (headT [2,3,7,8,9,1026,1027] [.pt,.pt,(.sl .fl x0),(.i .i64 x1),(.i .i64 x2),(.ag (Itv.cells x3)),(.ag [(.i .i64 x4),(.u64 x5),(.c (.slice none 0 0)),(.s x6),(.sl .il x7)])]) (blockK 0 (db_mapped.k1 n))
theorem db_mapped.l1_in (n:Nat) (x0:List Fld) (x1:Int) (x2:Int) (x3:Itv) (x4:Int) (x5:UInt64) (x6:Str) (x7:List Itm) {ρ:Option (List TV)} (K:∀(v1:Fld) (h1:v1=(List.getD x0 (x2).toNat (STy.dflt .fl))) (v2:List Itm) (h2:v2=([(Itm.of (Itm.val (Db.text ((Fld.name v1))))),(Itm.of (Itm.val (Db.item (Fld.of [] (Fld.val v1)))))]:List Itm)) (v3:Int) (h3:v3=(IntKind.i64.wrap (x2+(1:Int)))),cond (decide (x2<x1))
  (ck (idxOK x2 (x0).length) (ck ((decide (Fld.bulk (Fld.of [] (Fld.val v1))≤1073741824))&&decide ((3 * Fld.bulk (Fld.of [] (Fld.val v1))+2)<n)) (ck (apOK ((x7).length+(v2).length) 80) (db_mapped.l1 n x0 x1 v3 x3 x4 x5 x6 (x7++v2)))))
  (some [(.ag [(.i .i64 x4),(.u64 x5),(.sl .bs ([]:List UInt8)),(.s x6),(.sl .il x7)])])=ρ):db_mapped.l1 n x0 x1 x2 x3 x4 x5 x6 x7=ρ:=((ev_loop _ _ _ _ _ _).trans (by kernel_rfl)).trans (K _ rfl _ rfl _ rfl)
theorem db_mapped.F_eq (n:Nat) (l:List Fld):db_mapped.F n l=db_mapped.l1 n l ((l).length:Int) (0:Int) (Itv.mk (0:Int) (0:UInt64) ([]:List UInt8) ([]:Str) ([]:List Itm)) (6:Int) (0:UInt64) ([]:Str) ([]:List Itm):=by kernel_rfl
theorem db_mapped.chk (n:Nat):((Go.Proofs.Tryd.prog.funcs[22]?).any fun fn=>chkF Go.Proofs.Tryd.prog (fun k=>((envL trydbGl (db_mapped.env n)).fs k).2) fn db_mapped.d.erase)=true:=by kernel_rfl
end
noncomputable section
def db_item.env (n:Nat):List (Nat × (Ctr × FSig)):=[(22,(db_mapped.cn n,db_mapped.sg)),(36,(db_text.c,db_text.sg)),(37,(db_item.cn n,db_item.sg)),(55,(tree_Regular.c,tree_Regular.sg)),(56,(db_list.c,db_list.sg)),(57,(db_raw.c,db_raw.sg)),(58,(db_simple.c,db_simple.sg)),(59,(db_integer.c,db_integer.sg)),(60,(db_tagged.cn n,db_tagged.sg))]
def db_item.E (n:Nat):TEnv:=envL trydbGl (db_item.env n)
def db_item.m1:TM := .seq (.reg [
  ⟨.k (.bin .lss),[.s 32,.s 31],[33],none⟩]) none (.seq (.cond (.s 33) [] .skip (.exit 1)) none (.seq (.block 2 [(2,.ptr 1082 0),(3,.ptr 1083 0),(1082,.cl []),(1083,.cl [(4,110,5)]),(lk 110,.live 5)] (.seq (.reg [
  ⟨.k (.ix 10),[.s 30,.s 32],[34],none⟩,
  ⟨.k (.lr 10 true),[.s 34],[35],none⟩,
  ⟨.al 1084 [(.s ([]:Str)),(.i .i64 (0:Int)),(.u64 (0:UInt64)),(.u64 (0:UInt64)),(.u64 (0:UInt64)),(.s ([]:Str)),(.s ([]:Str)),(.i .i64 (0:Int)),(.sl .bs ([]:List UInt8)),(.sl .fl ([]:List Fld))] [],[.s 1084],[5,1084],none⟩,
  ⟨.k (.st 1084 0 10),[.s 5,.s 1084,.s 35],[1084],none⟩]) none (.reg [
  ⟨.k (.fa 1083 0 4),[.s 3],[36],none⟩,
  ⟨.k (.ld 1083 4 1 false),[.s 36,.s 1083],[37],none⟩,
  ⟨.k (.fa 1084 0 1),[.s 5],[38],none⟩,
  ⟨.k (.ld 1084 1 9 true),[.s 38,.s 1084],[39],none⟩,
  ⟨.k (.call 37 (.plain 1 1)),[.s 39],[40],none⟩,
  ⟨.bl .il 1,[.s 40],[41],none⟩,
  ⟨.k (.ap 106 110 5 80),[.s 37,.s 41,.s (lk 106),.s (lk 110)],[42,lk 106,lk 110],none⟩,
  ⟨.k (.fa 1083 0 4),[.s 3],[43],none⟩,
  ⟨.k (.st 1083 4 1),[.s 43,.s 1083,.s 42],[1083],none⟩]))) none (.reg [
  ⟨.k (.bin .add),[.s 32,.c (.i .i64 (1:Int))],[44],none⟩,
  ⟨.k .mv,[.s 44],[32],none⟩])))
def db_item.m2:TM := .seq (.reg [
  ⟨.k (.fa 1081 0 0),[.s 1],[73],none⟩,
  ⟨.k (.ld 1081 0 1 false),[.s 73,.s 1081],[74],none⟩,
  ⟨.k (.ci .u64),[.s 74],[75],none⟩,
  ⟨.k (.bin .add),[.c (.u64 (1000:UInt64)),.s 75],[76],none⟩,
  ⟨.k (.ld 1081 0 9 true),[.s 1,.s 1081],[77],none⟩,
  ⟨.k (.call 60 (.plain 1 1)),[.s 77],[78],none⟩,
  ⟨.bl .il 1,[.s 78],[79],none⟩,
  ⟨.bd [(.i .i64 (0:Int)),(.u64 (0:UInt64)),(.sl .bs ([]:List UInt8)),(.s ([]:Str)),(.sl .il ([]:List Itm))] [(0,1),(1,1),(4,1)],[.c (.i .i64 (7:Int)),.s 76,.s 79],[80],none⟩,
  ⟨.k (.st 1082 0 5),[.s 2,.s 1082,.s 80],[1082],none⟩]) none .ret
def db_item.m:TM := .seq (.reg [
  ⟨.k (.bx 1081),[.s 0,.s 1081],[1,1081],none⟩,
  ⟨.al 1082 [(.i .i64 (0:Int)),(.u64 (0:UInt64)),(.sl .bs ([]:List UInt8)),(.s ([]:Str)),(.sl .il ([]:List Itm))] [],[.s 1082],[2,1082],none⟩]) none (.seq (.seq (.reg [
  ⟨.k (.fa 1081 0 0),[.s 1],[6],none⟩,
  ⟨.k (.ld 1081 0 1 false),[.s 6,.s 1081],[7],none⟩]) none (.block 0 [(1,.ptr 1081 0),(2,.ptr 1082 0),(1081,.cl []),(1082,.cl [])] (.seq (.reg [
  ⟨.k (.bin .eql),[.s 7,.c (.i .i64 (1:Int))],[9],none⟩,
  ⟨.k .mv,[.s 9],[8],none⟩]) none (.cond (.s 8) [] (.seq (.reg [
  ⟨.k (.fa 1081 0 1),[.s 1],[10],none⟩,
  ⟨.k (.ld 1081 1 1 false),[.s 10,.s 1081],[11],none⟩,
  ⟨.bd [(.i .i64 (0:Int)),(.u64 (0:UInt64)),(.sl .bs ([]:List UInt8)),(.s ([]:Str)),(.sl .il ([]:List Itm))] [(0,1),(1,1)],[.c (.i .i64 (9:Int)),.s 11],[12],none⟩,
  ⟨.k (.st 1082 0 5),[.s 2,.s 1082,.s 12],[1082],none⟩]) none .ret) (.seq (.reg [
  ⟨.k (.bin .eql),[.s 7,.c (.i .i64 (2:Int))],[14],none⟩,
  ⟨.k .mv,[.s 14],[13],none⟩]) none (.cond (.s 13) [] (.seq (.reg [
  ⟨.k (.fa 1081 0 4),[.s 1],[15],none⟩,
  ⟨.k (.ld 1081 4 1 false),[.s 15,.s 1081],[16],none⟩,
  ⟨.k (.call 36 (.plain 1 1)),[.s 16],[17],none⟩,
  ⟨.k (.st 1082 0 5),[.s 2,.s 1082,.s 17],[1082],none⟩]) none .ret) (.seq (.reg [
  ⟨.k (.bin .eql),[.s 7,.c (.i .i64 (3:Int))],[19],none⟩,
  ⟨.k .mv,[.s 19],[18],none⟩]) none (.cond (.s 18) [] (.seq (.reg [
  ⟨.k (.fa 1081 0 8),[.s 1],[20],none⟩,
  ⟨.k (.ld 1081 8 1 false),[.s 20,.s 1081],[21],none⟩,
  ⟨.k (.call 22 (.plain 1 1)),[.s 21],[22],none⟩,
  ⟨.k (.st 1082 0 5),[.s 2,.s 1082,.s 22],[1082],none⟩]) none .ret) (.seq (.reg [
  ⟨.k (.bin .eql),[.s 7,.c (.i .i64 (4:Int))],[24],none⟩,
  ⟨.k .mv,[.s 24],[23],none⟩]) none (.cond (.s 23) [(1,.ptr 1081 0),(2,.ptr 1082 0),(1081,.cl []),(1082,.cl [])] (.seq (.reg [
  ⟨.k (.fa 1081 0 8),[.s 1],[25],none⟩,
  ⟨.k (.ld 1081 8 1 false),[.s 25,.s 1081],[26],none⟩,
  ⟨.k (.call 55 (.plain 1 1)),[.s 26],[27],none⟩]) none (.cond (.s 27) [] (.seq (.reg [
  ⟨.k (.call 56 (.plain 1 1)),[.c (.c (.slice none 0 0))],[28],none⟩,
  ⟨.al 1083 [(.i .i64 (0:Int)),(.u64 (0:UInt64)),(.sl .bs ([]:List UInt8)),(.s ([]:Str)),(.sl .il ([]:List Itm))] [],[.s 1083],[3,1083],none⟩,
  ⟨.stt 1083 0 5 [(4,106,.il)],[.s 3,.s 1083,.s 28,.s (lk 106)],[1083,lk 106],none⟩]) none (.seq (.seq (.reg [
  ⟨.k (.fa 1081 0 8),[.s 1],[29],none⟩,
  ⟨.k (.ld 1081 8 1 false),[.s 29,.s 1081],[30],none⟩,
  ⟨.k .len,[.s 30],[31],none⟩,
  ⟨.k .mv,[.c (.i .i64 (0:Int))],[32],none⟩]) none (.block 1 [(2,.ptr 1082 0),(3,.ptr 1083 0),(1082,.cl []),(1083,.cl [(4,106,5)]),(lk 106,.live 5)] (.loop [2,3,30,31,32,1082,1083] [(2,.ptr 1082 0),(3,.ptr 1083 0),(1082,.cl []),(1083,.cl [(4,106,5)]),(lk 106,.live 5)] db_item.m1))) none (.seq (.reg [
  ⟨.k (.ld 1083 0 5 true),[.s 3,.s 1083],[45],none⟩,
  ⟨.k (.st 1082 0 5),[.s 2,.s 1082,.s 45],[1082],none⟩]) none .ret))) .skip)) (.seq (.reg [
  ⟨.k (.bin .eql),[.s 7,.c (.i .i64 (5:Int))],[47],none⟩,
  ⟨.k .mv,[.s 47],[46],none⟩]) none (.cond (.s 46) [(1,.ptr 1081 0),(2,.ptr 1082 0),(1081,.cl []),(1082,.cl [])] (.seq (.reg [
  ⟨.k (.fa 1081 0 6),[.s 1],[48],none⟩,
  ⟨.k (.ld 1081 6 1 false),[.s 48,.s 1081],[49],none⟩,
  ⟨.k (.bin .eql),[.s 49,.c (.i .i64 (0:Int))],[50],none⟩]) none (.cond (.s 50) [] (.seq (.reg [
  ⟨.k (.fa 1081 0 7),[.s 1],[51],none⟩,
  ⟨.k (.ld 1081 7 1 false),[.s 51,.s 1081],[52],none⟩,
  ⟨.k (.call 57 (.plain 1 1)),[.s 52],[53],none⟩,
  ⟨.k (.st 1082 0 5),[.s 2,.s 1082,.s 53],[1082],none⟩]) none .ret) .skip)) (.seq (.reg [
  ⟨.k (.bin .eql),[.s 7,.c (.i .i64 (6:Int))],[55],none⟩,
  ⟨.k .mv,[.s 55],[54],none⟩]) none (.cond (.s 54) [] (.seq (.reg [
  ⟨.k (.call 58 (.plain 1 1)),[.c (.u64 (23:UInt64))],[56],none⟩,
  ⟨.k (.st 1082 0 5),[.s 2,.s 1082,.s 56],[1082],none⟩]) none .ret) (.seq (.reg [
  ⟨.k (.bin .eql),[.s 7,.c (.i .i64 (10:Int))],[58],none⟩,
  ⟨.k .mv,[.s 58],[57],none⟩]) none (.cond (.s 57) [] (.seq (.reg [
  ⟨.k (.call 58 (.plain 1 1)),[.c (.u64 (22:UInt64))],[59],none⟩,
  ⟨.k (.st 1082 0 5),[.s 2,.s 1082,.s 59],[1082],none⟩]) none .ret) (.seq (.reg [
  ⟨.k (.bin .eql),[.s 7,.c (.i .i64 (8:Int))],[61],none⟩,
  ⟨.k .mv,[.s 61],[60],none⟩]) none (.cond (.s 60) [] (.seq (.reg [
  ⟨.k (.fa 1081 0 1),[.s 1],[62],none⟩,
  ⟨.k (.ld 1081 1 1 false),[.s 62,.s 1081],[63],none⟩,
  ⟨.k (.bin .add),[.c (.u64 (20:UInt64)),.s 63],[64],none⟩,
  ⟨.k (.call 58 (.plain 1 1)),[.s 64],[65],none⟩,
  ⟨.k (.st 1082 0 5),[.s 2,.s 1082,.s 65],[1082],none⟩]) none .ret) (.seq (.reg [
  ⟨.k (.bin .eql),[.s 7,.c (.i .i64 (16:Int))],[67],none⟩,
  ⟨.k .mv,[.s 67],[66],none⟩]) none (.cond (.s 66) [] (.seq (.reg [
  ⟨.k (.fa 1081 0 1),[.s 1],[68],none⟩,
  ⟨.k (.ld 1081 1 1 false),[.s 68,.s 1081],[69],none⟩,
  ⟨.k (.ci .i32),[.s 69],[70],none⟩,
  ⟨.k (.ci .i64),[.s 70],[71],none⟩,
  ⟨.k (.call 59 (.plain 1 1)),[.s 71],[72],none⟩,
  ⟨.k (.st 1082 0 5),[.s 2,.s 1082,.s 72],[1082],none⟩]) none .ret) .skip)))))))))))))))))))) (some [1,2,1081,1082]) db_item.m2)
def db_item.d:TFD:={ np:=1,m:=db_item.m,ref:=none,tips:=[],res:=[.c 2 1082 5 true],own:=[],new:=none,tnew:=[] }
noncomputable def db_item.F (n:Nat) (v:Val):Option (List TV):=db_item.d.run (db_item.E n) [(.ag (Val.cells v))]
noncomputable def db_item.k1 (n:Nat):Cont (List TV):=seqK (evO _ (db_item.E n) db_item.m2) (some [1,2,1081,1082]) (endK db_item.d)
noncomputable def db_item.k2 (n:Nat):Cont (List TV):=seqK (ev _ (db_item.E n) (.seq (.reg [
  ⟨.k (.ld 1083 0 5 true),[.s 3,.s 1083],[45],none⟩,
  ⟨.k (.st 1082 0 5),[.s 2,.s 1082,.s 45],[1082],none⟩]) none .ret)) none (blockK 0 (db_item.k1 n))
noncomputable def db_item.l1 (n:Nat) (x0:List Fld) (x1:Int) (x2:Int) (x3:Itv) (x4:Itv):Option (List TV):=loopL (evO _ (db_item.E n) db_item.m1) isN [2,3,30,31,32,1082,1083] (headT [2,3,30,31,32,1082,1083] [.pt,.pt,(.sl .fl x0),(.i .i64 x1),(.i .i64 x2),(.ag (Itv.cells x3)),(.ag (Itv.cells x4))]) (blockK 1 (db_item.k2 n))
noncomputable def db_item.j2 (n:Nat) (x0:Val) (x1:Itv):Option (List TV):=evO _ (db_item.E n) db_item.m2 (headT [1,2,1081,1082] [.pt,.pt,(.ag (Val.cells x0)),(.ag (Itv.cells x1))]) (endK db_item.d)
theorem db_item.l1_in (n:Nat) (x0:List Fld) (x1:Int) (x2:Int) (x3:Itv) (x4:Itv) {ρ:Option (List TV)} (K:∀(v1:Fld) (h1:v1=(List.getD x0 (x2).toNat (STy.dflt .fl))) (v2:List Itm) (h2:v2=([(Itm.of (Itm.val (Db.item (Fld.of [] (Fld.val v1)))))]:List Itm)) (v3:Int) (h3:v3=(IntKind.i64.wrap (x2+(1:Int)))),cond (decide (x2<x1))
  (ck (idxOK x2 (x0).length) (ck ((decide (Fld.bulk (Fld.of [] (Fld.val v1))≤1073741824))&&decide ((3 * Fld.bulk (Fld.of [] (Fld.val v1))+2)<n)) (ck (apOK (((Itv.kids x4)).length+(v2).length) 80) (db_item.l1 n x0 x1 v3 x3 (Itv.mk (Itv.kind x4) (Itv.n x4) (Itv.bytes x4) (Itv.text x4) ((Itv.kids x4)++v2))))))
  (some [(.ag (Itv.cells x4))])=ρ):db_item.l1 n x0 x1 x2 x3 x4=ρ:=((ev_loop _ _ _ _ _ _).trans (by kernel_rfl)).trans (K _ rfl _ rfl _ rfl)
theorem db_item.j2_in (n:Nat) (x0:Val) (x1:Itv) {ρ:Option (List TV)} (K:∀(v1:UInt64) (h1:v1=((1000:UInt64)+(UInt64.ofInt (Val.kind x0)))) (v2:List Itm) (h2:v2=([(Itm.of (Itm.val (Db.tagged x0 (Db.mapped (x0).kids))))]:List Itm)),ck ((decide (Fld.bulk (Fld.of [] x0)≤1073741824))&&decide ((3 * Fld.bulk (Fld.of [] x0)+1)<n)) (some [(.ag [(.i .i64 (7:Int)),(.u64 v1),(.sl .bs ([]:List UInt8)),(.s ([]:Str)),(.sl .il v2)])])=ρ):db_item.j2 n x0 x1=ρ:=((congrFun (congrFun (ev_eq _ _) _) _).trans (by kernel_rfl)).trans (K _ rfl _ rfl)
theorem db_item.F_in (n:Nat) (v:Val) {ρ:Option (List TV)} (K:∀(v1:Bool) (h1:v1=(Tree.regular ((Val.kids v)))) (v2:Int) (h2:v2=(((Val.kids v)).length:Int)) (v3:UInt64) (h3:v3=((20:UInt64)+(Val.bits v))) (v4:Int) (h4:v4=(IntKind.i32.wrap (((Val.bits v)).toNat:Int))),cond (decide ((Val.kind v)=(1:Int)))
  (some [(.ag [(.i .i64 (9:Int)),(.u64 (Val.bits v)),(.sl .bs ([]:List UInt8)),(.s ([]:Str)),(.sl .il ([]:List Itm))])])
  (cond (decide ((Val.kind v)=(2:Int)))
  (some [(.ag (Itv.cells (Itm.val (Db.text ((Val.text v))))))])
  (cond (decide ((Val.kind v)=(3:Int)))
  (ck ((decide (Fld.bulks ((Val.kids v))≤1073741824))&&decide ((3 * Fld.bulks ((Val.kids v))+3)<n)) (some [(.ag (Itv.cells (Itm.val (Db.map (Db.mapped ((Val.kids v)))))))]))
  (cond (decide ((Val.kind v)=(4:Int)))
  (ck (decide (((Val.kids v)).length≤1099511627776)) (cond v1
  (db_item.l1 n (Val.kids v) v2 (0:Int) (Itv.mk (0:Int) (0:UInt64) ([]:List UInt8) ([]:Str) ([]:List Itm)) (Itv.mk (Itm.kind (Db.list [])) (Itm.n (Db.list [])) (Itm.bytes (Db.list [])) (Itm.text (Db.list [])) ([]:List Itm)))
  (db_item.j2 n v (Itv.mk (0:Int) (0:UInt64) ([]:List UInt8) ([]:Str) ([]:List Itm)))))
  (cond (decide ((Val.kind v)=(5:Int)))
  (cond (decide ((Val.sub v)=(0:Int)))
  (ck (decide ((((Val.bytes v))).length≤1099511627776)) (some [(.ag (Itv.cells (Itm.val (Db.raw ((Val.bytes v))))))]))
  (db_item.j2 n v (Itv.mk (0:Int) (0:UInt64) ([]:List UInt8) ([]:Str) ([]:List Itm))))
  (cond (decide ((Val.kind v)=(6:Int)))
  (some [(.ag (Itv.cells (Itm.val (Db.simple ((23:UInt64))))))])
  (cond (decide ((Val.kind v)=(10:Int)))
  (some [(.ag (Itv.cells (Itm.val (Db.simple ((22:UInt64))))))])
  (cond (decide ((Val.kind v)=(8:Int)))
  (some [(.ag (Itv.cells (Itm.val (Db.simple v3))))])
  (cond (decide ((Val.kind v)=(16:Int)))
  (ck (decide (-9223372036854775808≤((IntKind.i64.wrap v4))∧((IntKind.i64.wrap v4))≤9223372036854775807)) (some [(.ag (Itv.cells (Itm.val (Db.integer ((IntKind.i64.wrap v4))))))]))
  (db_item.j2 n v (Itv.mk (0:Int) (0:UInt64) ([]:List UInt8) ([]:Str) ([]:List Itm)))))))))))=ρ):db_item.F n v=ρ:=Eq.trans (by kernel_rfl) (K _ rfl _ rfl _ rfl _ rfl)
theorem db_item.chk (n:Nat):((Go.Proofs.Tryd.prog.funcs[37]?).any fun fn=>chkF Go.Proofs.Tryd.prog (fun k=>((envL trydbGl (db_item.env n)).fs k).2) fn db_item.d.erase)=true:=by kernel_rfl
end
noncomputable section
def db_tagged.env (n:Nat):List (Nat × (Ctr × FSig)):=[(22,(db_mapped.cn n,db_mapped.sg)),(36,(db_text.c,db_text.sg)),(56,(db_list.c,db_list.sg)),(57,(db_raw.c,db_raw.sg)),(58,(db_simple.c,db_simple.sg)),(59,(db_integer.c,db_integer.sg)),(81,(db_plus.c,db_plus.sg)),(82,(db_words.c,db_words.sg))]
def db_tagged.E (n:Nat):TEnv:=envL trydbGl (db_tagged.env n)
def db_tagged.m1:TM := .cond (.s 53) [] (.seq (.reg [
  ⟨.k (.fa 1079 0 4),[.s 1],[56],none⟩,
  ⟨.k (.ld 1079 4 1 false),[.s 56,.s 1079],[57],none⟩,
  ⟨.k (.call 36 (.plain 1 1)),[.s 57],[58],none⟩,
  ⟨.k (.st 1080 0 5),[.s 2,.s 1080,.s 58],[1080],none⟩]) none .ret) (.seq (.reg [
  ⟨.k (.bin .eql),[.s 4,.c (.i .i64 (15:Int))],[60],none⟩,
  ⟨.k .mv,[.s 60],[59],none⟩]) none (.cond (.s 59) [] (.seq (.reg [
  ⟨.k (.fa 1079 0 4),[.s 1],[61],none⟩,
  ⟨.k (.ld 1079 4 1 false),[.s 61,.s 1079],[62],none⟩,
  ⟨.k (.call 36 (.plain 1 1)),[.s 62],[63],none⟩,
  ⟨.k (.fa 1079 0 8),[.s 1],[64],none⟩,
  ⟨.k (.ld 1079 8 1 false),[.s 64,.s 1079],[65],none⟩,
  ⟨.k (.call 22 (.plain 1 1)),[.s 65],[66],none⟩,
  ⟨.bl .il 2,[.s 63,.s 66],[67],none⟩,
  ⟨.k (.call 56 (.plain 1 1)),[.s 67],[68],none⟩,
  ⟨.k (.st 1080 0 5),[.s 2,.s 1080,.s 68],[1080],none⟩]) none .ret) (.seq (.reg [
  ⟨.k (.bin .eql),[.s 4,.c (.i .i64 (17:Int))],[70],none⟩,
  ⟨.k .mv,[.s 70],[69],none⟩]) none (.cond (.s 69) [] (.seq (.reg [
  ⟨.k (.fa 1079 0 1),[.s 1],[71],none⟩,
  ⟨.k (.ld 1079 1 1 false),[.s 71,.s 1079],[72],none⟩,
  ⟨.k (.call 81 (.plain 1 1)),[.s 72],[73],none⟩,
  ⟨.k (.st 1080 0 5),[.s 2,.s 1080,.s 73],[1080],none⟩]) none .ret) (.seq (.reg [
  ⟨.k (.bin .eql),[.s 4,.c (.i .i64 (19:Int))],[75],none⟩,
  ⟨.k .mv,[.s 75],[74],none⟩]) none (.cond (.s 74) [] (.seq (.reg [
  ⟨.k (.ld 1079 0 9 true),[.s 1,.s 1079],[76],none⟩,
  ⟨.k (.call 82 (.plain 1 1)),[.s 76],[77],none⟩,
  ⟨.k (.st 1080 0 5),[.s 2,.s 1080,.s 77],[1080],none⟩]) none .ret) .skip))))))
def db_tagged.m2:TM := .cond (.s 26) [] (.seq (.reg [
  ⟨.k (.fa 1079 0 1),[.s 1],[29],none⟩,
  ⟨.k (.ld 1079 1 1 false),[.s 29,.s 1079],[30],none⟩,
  ⟨.k (.ci .i64),[.s 30],[31],none⟩,
  ⟨.k (.call 59 (.plain 1 1)),[.s 31],[32],none⟩,
  ⟨.k (.st 1080 0 5),[.s 2,.s 1080,.s 32],[1080],none⟩]) none .ret) (.seq (.reg [
  ⟨.k (.bin .eql),[.s 4,.c (.i .i64 (11:Int))],[34],none⟩,
  ⟨.k .mv,[.s 34],[33],none⟩]) none (.cond (.s 33) [] (.seq (.reg [
  ⟨.k (.fa 1079 0 4),[.s 1],[35],none⟩,
  ⟨.k (.ld 1079 4 1 false),[.s 35,.s 1079],[36],none⟩,
  ⟨.k (.call 36 (.plain 1 1)),[.s 36],[37],none⟩,
  ⟨.k (.fa 1079 0 5),[.s 1],[38],none⟩,
  ⟨.k (.ld 1079 5 1 false),[.s 38,.s 1079],[39],none⟩,
  ⟨.k (.call 36 (.plain 1 1)),[.s 39],[40],none⟩,
  ⟨.bl .il 2,[.s 37,.s 40],[41],none⟩,
  ⟨.k (.call 56 (.plain 1 1)),[.s 41],[42],none⟩,
  ⟨.k (.st 1080 0 5),[.s 2,.s 1080,.s 42],[1080],none⟩]) none .ret) (.seq (.reg [
  ⟨.k (.bin .eql),[.s 4,.c (.i .i64 (12:Int))],[44],none⟩,
  ⟨.k .mv,[.s 44],[43],none⟩]) none (.cond (.s 43) [] (.seq (.reg [
  ⟨.k (.fa 1079 0 4),[.s 1],[45],none⟩,
  ⟨.k (.ld 1079 4 1 false),[.s 45,.s 1079],[46],none⟩,
  ⟨.k (.call 36 (.plain 1 1)),[.s 46],[47],none⟩,
  ⟨.k (.fa 1079 0 7),[.s 1],[48],none⟩,
  ⟨.k (.ld 1079 7 1 false),[.s 48,.s 1079],[49],none⟩,
  ⟨.k (.call 57 (.plain 1 1)),[.s 49],[50],none⟩,
  ⟨.bl .il 2,[.s 47,.s 50],[51],none⟩,
  ⟨.k (.call 56 (.plain 1 1)),[.s 51],[52],none⟩,
  ⟨.k (.st 1080 0 5),[.s 2,.s 1080,.s 52],[1080],none⟩]) none .ret) (.seq (.seq (.reg [
  ⟨.k (.bin .eql),[.s 4,.c (.i .i64 (13:Int))],[54],none⟩,
  ⟨.k .mv,[.s 54],[53],none⟩]) none (.cond (.s 53) [(1,.ptr 1079 0),(2,.ptr 1080 0),(1079,.cl []),(1080,.cl [])] .skip (.reg [
  ⟨.k (.bin .eql),[.s 4,.c (.i .i64 (14:Int))],[55],none⟩,
  ⟨.k .mv,[.s 55],[53],none⟩]))) (some [1,2,4,53,1079,1080]) db_tagged.m1)))))
def db_tagged.m:TM := .seq (.reg [
  ⟨.k (.bx 1079),[.s 0,.s 1079],[1,1079],none⟩,
  ⟨.al 1080 [(.i .i64 (0:Int)),(.u64 (0:UInt64)),(.sl .bs ([]:List UInt8)),(.s ([]:Str)),(.sl .il ([]:List Itm))] [],[.s 1080],[2,1080],none⟩]) none (.seq (.seq (.reg [
  ⟨.k (.fa 1079 0 0),[.s 1],[3],none⟩,
  ⟨.k (.ld 1079 0 1 false),[.s 3,.s 1079],[4],none⟩]) none (.block 0 [(2,.ptr 1080 0),(1080,.cl [])] (.seq (.reg [
  ⟨.k (.bin .eql),[.s 4,.c (.i .i64 (4:Int))],[6],none⟩,
  ⟨.k .mv,[.s 6],[5],none⟩]) none (.cond (.s 5) [] (.seq (.reg [
  ⟨.k (.fa 1079 0 8),[.s 1],[7],none⟩,
  ⟨.k (.ld 1079 8 1 false),[.s 7,.s 1079],[8],none⟩,
  ⟨.k (.call 22 (.plain 1 1)),[.s 8],[9],none⟩,
  ⟨.k (.st 1080 0 5),[.s 2,.s 1080,.s 9],[1080],none⟩]) none .ret) (.seq (.reg [
  ⟨.k (.bin .eql),[.s 4,.c (.i .i64 (5:Int))],[11],none⟩,
  ⟨.k .mv,[.s 11],[10],none⟩]) none (.cond (.s 10) [] (.seq (.reg [
  ⟨.k (.fa 1079 0 6),[.s 1],[12],none⟩,
  ⟨.k (.ld 1079 6 1 false),[.s 12,.s 1079],[13],none⟩,
  ⟨.k (.ci .u64),[.s 13],[14],none⟩,
  ⟨.k (.call 81 (.plain 1 1)),[.s 14],[15],none⟩,
  ⟨.k (.fa 1079 0 7),[.s 1],[16],none⟩,
  ⟨.k (.ld 1079 7 1 false),[.s 16,.s 1079],[17],none⟩,
  ⟨.k (.call 57 (.plain 1 1)),[.s 17],[18],none⟩,
  ⟨.bl .il 2,[.s 15,.s 18],[19],none⟩,
  ⟨.k (.call 56 (.plain 1 1)),[.s 19],[20],none⟩,
  ⟨.k (.st 1080 0 5),[.s 2,.s 1080,.s 20],[1080],none⟩]) none .ret) (.seq (.reg [
  ⟨.k (.bin .eql),[.s 4,.c (.i .i64 (7:Int))],[22],none⟩,
  ⟨.k .mv,[.s 22],[21],none⟩]) none (.cond (.s 21) [] (.seq (.reg [
  ⟨.k (.fa 1079 0 7),[.s 1],[23],none⟩,
  ⟨.k (.ld 1079 7 1 false),[.s 23,.s 1079],[24],none⟩,
  ⟨.k (.call 57 (.plain 1 1)),[.s 24],[25],none⟩,
  ⟨.k (.st 1080 0 5),[.s 2,.s 1080,.s 25],[1080],none⟩]) none .ret) (.seq (.seq (.reg [
  ⟨.k (.bin .eql),[.s 4,.c (.i .i64 (9:Int))],[27],none⟩,
  ⟨.k .mv,[.s 27],[26],none⟩]) none (.cond (.s 26) [(1,.ptr 1079 0),(2,.ptr 1080 0),(1079,.cl []),(1080,.cl [])] .skip (.reg [
  ⟨.k (.bin .eql),[.s 4,.c (.i .i64 (18:Int))],[28],none⟩,
  ⟨.k .mv,[.s 28],[26],none⟩]))) (some [1,2,4,26,1079,1080]) db_tagged.m2))))))))) none (.seq (.reg [
  ⟨.k (.call 58 (.plain 1 1)),[.c (.u64 (22:UInt64))],[78],none⟩,
  ⟨.k (.st 1080 0 5),[.s 2,.s 1080,.s 78],[1080],none⟩]) none .ret))
def db_tagged.d:TFD:={ np:=1,m:=db_tagged.m,ref:=none,tips:=[],res:=[.c 2 1080 5 true],own:=[],new:=none,tnew:=[] }
noncomputable def db_tagged.F (n:Nat) (v:Val):Option (List TV):=db_tagged.d.run (db_tagged.E n) [(.ag (Val.cells v))]
noncomputable def db_tagged.k1 (n:Nat):Cont (List TV):=seqK (ev _ (db_tagged.E n) (.seq (.reg [
  ⟨.k (.call 58 (.plain 1 1)),[.c (.u64 (22:UInt64))],[78],none⟩,
  ⟨.k (.st 1080 0 5),[.s 2,.s 1080,.s 78],[1080],none⟩]) none .ret)) none (endK db_tagged.d)
noncomputable def db_tagged.j1 (n:Nat) (x0:Int) (x1:Bool) (x2:Val) (x3:Itv):Option (List TV):=evO _ (db_tagged.E n) db_tagged.m2 (headT [1,2,4,26,1079,1080] [.pt,.pt,(.i .i64 x0),(.b x1),(.ag (Val.cells x2)),(.ag (Itv.cells x3))]) (blockK 0 (db_tagged.k1 n))
noncomputable def db_tagged.j2 (n:Nat) (x0:Int) (x1:Bool) (x2:Val) (x3:Itv):Option (List TV):=evO _ (db_tagged.E n) db_tagged.m1 (headT [1,2,4,53,1079,1080] [.pt,.pt,(.i .i64 x0),(.b x1),(.ag (Val.cells x2)),(.ag (Itv.cells x3))]) (blockK 0 (db_tagged.k1 n))
theorem db_tagged.j1_in (n:Nat) (x0:Int) (x1:Bool) (x2:Val) (x3:Itv) {ρ:Option (List TV)} (K:∀(v1:Int) (h1:v1=(IntKind.i64.wrap (((Val.bits x2)).toNat:Int))) (v2:List Itm) (h2:v2=([(Itm.of (Itm.val (Db.text ((Val.text x2))))),(Itm.of (Itm.val (Db.text ((Val.more x2)))))]:List Itm)) (v3:List Itm) (h3:v3=([(Itm.of (Itm.val (Db.text ((Val.text x2))))),(Itm.of (Itm.val (Db.raw ((Val.bytes x2)))))]:List Itm)),cond x1
  (ck (decide (-9223372036854775808≤v1∧v1≤9223372036854775807)) (some [(.ag (Itv.cells (Itm.val (Db.integer v1))))]))
  (cond (decide (x0=(11:Int)))
  (some [(.ag (Itv.cells (Itm.val (Db.list v2))))])
  (cond (decide (x0=(12:Int)))
  (ck (decide ((((Val.bytes x2))).length≤1099511627776)) (some [(.ag (Itv.cells (Itm.val (Db.list v3))))]))
  (cond (decide (x0=(13:Int)))
  (db_tagged.j2 n x0 (decide (x0=(13:Int))) x2 x3)
  (db_tagged.j2 n x0 (decide (x0=(14:Int))) x2 x3))))=ρ):db_tagged.j1 n x0 x1 x2 x3=ρ:=((congrFun (congrFun (ev_eq _ _) _) _).trans (by kernel_rfl)).trans (K _ rfl _ rfl _ rfl)
theorem db_tagged.j2_in (n:Nat) (x0:Int) (x1:Bool) (x2:Val) (x3:Itv) {ρ:Option (List TV)} (K:∀(v1:List Itm) (h1:v1=([(Itm.of (Itm.val (Db.text ((Val.text x2))))),(Itm.of (Itm.val (Db.map (Db.mapped ((Val.kids x2))))))]:List Itm)),cond x1
  (some [(.ag (Itv.cells (Itm.val (Db.text ((Val.text x2))))))])
  (cond (decide (x0=(15:Int)))
  (ck ((decide (Fld.bulks ((Val.kids x2))≤1073741824))&&decide ((3 * Fld.bulks ((Val.kids x2))+3)<n)) (some [(.ag (Itv.cells (Itm.val (Db.list v1))))]))
  (cond (decide (x0=(17:Int)))
  (some [(.ag (Itv.cells (Itm.val (Db.plus ((Val.bits x2))))))])
  (cond (decide (x0=(19:Int)))
  (some [(.ag (Itv.cells (Itm.val (Db.raw (Db.words (x2).high (x2).low)))))])
  (some [(.ag (Itv.cells (Itm.val (Db.simple ((22:UInt64))))))]))))=ρ):db_tagged.j2 n x0 x1 x2 x3=ρ:=((congrFun (congrFun (ev_eq _ _) _) _).trans (by kernel_rfl)).trans (K _ rfl)
theorem db_tagged.F_in (n:Nat) (v:Val) {ρ:Option (List TV)} (K:∀(v1:List Itm) (h1:v1=([(Itm.of (Itm.val (Db.plus ((UInt64.ofInt (Val.sub v)))))),(Itm.of (Itm.val (Db.raw ((Val.bytes v)))))]:List Itm)),cond (decide ((Val.kind v)=(4:Int)))
  (ck ((decide (Fld.bulks ((Val.kids v))≤1073741824))&&decide ((3 * Fld.bulks ((Val.kids v))+3)<n)) (some [(.ag (Itv.cells (Itm.val (Db.map (Db.mapped ((Val.kids v)))))))]))
  (cond (decide ((Val.kind v)=(5:Int)))
  (ck (decide ((((Val.bytes v))).length≤1099511627776)) (some [(.ag (Itv.cells (Itm.val (Db.list v1))))]))
  (cond (decide ((Val.kind v)=(7:Int)))
  (ck (decide ((((Val.bytes v))).length≤1099511627776)) (some [(.ag (Itv.cells (Itm.val (Db.raw ((Val.bytes v))))))]))
  (cond (decide ((Val.kind v)=(9:Int)))
  (db_tagged.j1 n (Val.kind v) (decide ((Val.kind v)=(9:Int))) v (Itv.mk (0:Int) (0:UInt64) ([]:List UInt8) ([]:Str) ([]:List Itm)))
  (db_tagged.j1 n (Val.kind v) (decide ((Val.kind v)=(18:Int))) v (Itv.mk (0:Int) (0:UInt64) ([]:List UInt8) ([]:Str) ([]:List Itm))))))=ρ):db_tagged.F n v=ρ:=Eq.trans (by kernel_rfl) (K _ rfl)
theorem db_tagged.chk (n:Nat):((Go.Proofs.Tryd.prog.funcs[60]?).any fun fn=>chkF Go.Proofs.Tryd.prog (fun k=>((envL trydbGl (db_tagged.env n)).fs k).2) fn db_tagged.d.erase)=true:=by kernel_rfl
end
noncomputable section
def db_Item.env:List (Nat × (Ctr × FSig)):=[(21,(tree_Check.c,tree_Check.sg)),(22,(db_mapped.c,db_mapped.sg))]
def db_Item.E:TEnv:=envL trydbGl db_Item.env
def db_Item.m:TM := .seq (.reg [
  ⟨.k (.bx 1026),[.s 0,.s 1026],[1,1026],none⟩,
  ⟨.al 1027 [(.i .i64 (0:Int)),(.u64 (0:UInt64)),(.sl .bs ([]:List UInt8)),(.s ([]:Str)),(.sl .il ([]:List Itm))] [],[.s 1027],[2,1027],none⟩,
  ⟨.al 1028 [(.i .i64 (0:Int)),(.i .i64 (0:Int)),(.sl .is ([]:List Int))] [],[.s 1028],[3,1028],none⟩]) none (.seq (.seq (.reg [
  ⟨.k (.ld 1026 0 9 true),[.s 1,.s 1026],[7],none⟩,
  ⟨.k (.call 21 (.plain 1 2)),[.s 7],[8],none⟩,
  ⟨.k .mv,[.s 8],[6],none⟩,
  ⟨.k (.ex 0),[.s 6],[9],none⟩,
  ⟨.k (.ex 1),[.s 6],[10],none⟩,
  ⟨.k .mv,[.s 9],[4],none⟩,
  ⟨.k .mv,[.s 10],[5],none⟩]) none (.seq (.reg [
  ⟨.k .mv,[.s 5],[11],none⟩,
  ⟨.k (.bin .neq),[.s 11,.c (.i .i64 (0:Int))],[12],none⟩]) none (.cond (.s 12) [] (.seq (.reg [
  ⟨.bd [(.i .i64 (0:Int)),(.u64 (0:UInt64)),(.sl .bs ([]:List UInt8)),(.s ([]:Str)),(.sl .il ([]:List Itm))] [],[],[13],none⟩,
  ⟨.k .mv,[.s 5],[14],none⟩,
  ⟨.k .mv,[.s 4],[15],none⟩,
  ⟨.bd [(.i .i64 (0:Int)),(.i .i64 (0:Int)),(.sl .is ([]:List Int))] [(0,1),(2,1)],[.s 14,.s 15],[16],none⟩,
  ⟨.k (.st 1027 0 5),[.s 2,.s 1027,.s 13],[1027],none⟩,
  ⟨.k (.st 1028 0 3),[.s 3,.s 1028,.s 16],[1028],none⟩]) none .ret) .skip))) none (.seq (.seq (.reg [
  ⟨.k (.fa 1026 0 0),[.s 1],[17],none⟩,
  ⟨.k (.ld 1026 0 1 false),[.s 17,.s 1026],[18],none⟩,
  ⟨.k (.bin .neq),[.s 18,.c (.i .i64 (3:Int))],[19],none⟩]) none (.cond (.s 19) [] (.seq (.reg [
  ⟨.bd [(.i .i64 (0:Int)),(.u64 (0:UInt64)),(.sl .bs ([]:List UInt8)),(.s ([]:Str)),(.sl .il ([]:List Itm))] [],[],[20],none⟩,
  ⟨.bd [(.i .i64 (0:Int)),(.i .i64 (0:Int)),(.sl .is ([]:List Int))] [(0,1)],[.c (.i .i64 (5:Int))],[21],none⟩,
  ⟨.k (.st 1027 0 5),[.s 2,.s 1027,.s 20],[1027],none⟩,
  ⟨.k (.st 1028 0 3),[.s 3,.s 1028,.s 21],[1028],none⟩]) none .ret) .skip)) none (.seq (.reg [
  ⟨.k (.fa 1026 0 8),[.s 1],[22],none⟩,
  ⟨.k (.ld 1026 8 1 false),[.s 22,.s 1026],[23],none⟩,
  ⟨.k (.call 22 (.plain 1 1)),[.s 23],[24],none⟩,
  ⟨.bd [(.i .i64 (0:Int)),(.i .i64 (0:Int)),(.sl .is ([]:List Int))] [],[],[25],none⟩,
  ⟨.k (.st 1027 0 5),[.s 2,.s 1027,.s 24],[1027],none⟩,
  ⟨.k (.st 1028 0 3),[.s 3,.s 1028,.s 25],[1028],none⟩]) none .ret)))
def db_Item.d:TFD:={ np:=1,m:=db_Item.m,ref:=none,tips:=[],res:=[.c 2 1027 5 true,.c 3 1028 3 true],own:=[],new:=none,tnew:=[] }
noncomputable def db_Item.F (v:Val):Option (List TV):=db_Item.d.run db_Item.E [(.ag (Val.cells v))]
theorem db_Item.F_in (v:Val) {ρ:Option (List TV)} (K:∀(v1:List Int) (h1:v1=((Tree.chkF (Fld.of [] v) []).1)) (v2:Int) (h2:v2=((Tree.chkF (Fld.of [] v) []).2)),ck (decide (Fld.bulk (Fld.of [] v)≤1099511627776)) (cond (!decide (v2=(0:Int)))
  (some [(.ag [(.i .i64 (0:Int)),(.u64 (0:UInt64)),(.sl .bs ([]:List UInt8)),(.s ([]:Str)),(.sl .il ([]:List Itm))]),(.ag [(.i .i64 v2),(.i .i64 (0:Int)),(.sl .is v1)])])
  (cond (!decide ((Val.kind v)=(3:Int)))
  (some [(.ag [(.i .i64 (0:Int)),(.u64 (0:UInt64)),(.sl .bs ([]:List UInt8)),(.s ([]:Str)),(.sl .il ([]:List Itm))]),(.ag [(.i .i64 (5:Int)),(.i .i64 (0:Int)),(.sl .is ([]:List Int))])])
  (ck (decide (Fld.bulks ((Val.kids v))≤1073741824)) (some [(.ag (Itv.cells (Itm.val (Db.map (Db.mapped ((Val.kids v))))))),(.ag [(.i .i64 (0:Int)),(.i .i64 (0:Int)),(.sl .is ([]:List Int))])]))))=ρ):db_Item.F v=ρ:=Eq.trans (by kernel_rfl) (K _ rfl _ rfl)
theorem db_Item.chk:((Go.Proofs.Tryd.prog.funcs[10]?).any fun fn=>chkF Go.Proofs.Tryd.prog (fun k=>((envL trydbGl db_Item.env).fs k).2) fn db_Item.d.erase)=true:=by kernel_rfl
end
noncomputable section
def db_none.env:List (Nat × (Ctr × FSig)):=[(42,(clone_is.c,clone_is.sg))]
def db_none.E:TEnv:=envL trydbGl db_none.env
def db_none.m:TM := .seq (.reg [
  ⟨.al 1006 [(.i .i64 (0:Int)),(.i .i64 (0:Int)),(.sl .is ([]:List Int))] [],[.s 1006],[2,1006],none⟩]) none (.seq (.reg [
  ⟨.k .mv,[.s 0],[3],none⟩,
  ⟨.k (.pcall 42 1 1 0 999999 1),[.s 3,.s (lk 999999)],[4],none⟩,
  ⟨.bd [(.i .i64 (0:Int)),(.i .i64 (0:Int)),(.sl .is ([]:List Int))] [(0,1),(2,1)],[.c (.i .i64 (12:Int)),.s 4],[5],none⟩,
  ⟨.k (.st 1006 0 3),[.s 2,.s 1006,.s 5],[1006],none⟩]) none .ret)
def db_none.d:TFD:={ np:=1,m:=db_none.m,ref:=none,tips:=[],res:=[.c 2 1006 3 true],own:=[],new:=none,tnew:=[],ps:=some (0,999999,1) }
noncomputable def db_none.F (path:List Int):Option (List TV):=db_none.d.run db_none.E [(.sl .is path)]
theorem db_none.F_eq (path:List Int):db_none.F path=ck (apOK (path).length 8) (some [(.ag [(.i .i64 (12:Int)),(.i .i64 (0:Int)),(.sl .is (path))]),(.sl .is path)]):=by kernel_rfl
theorem db_none.chk:((Go.Proofs.Tryd.prog.funcs[27]?).any fun fn=>chkF Go.Proofs.Tryd.prog (fun k=>((envL trydbGl db_none.env).fs k).2) fn db_none.d.erase)=true:=by kernel_rfl
end
noncomputable section
def db_number.env:List (Nat × (Ctr × FSig)):=[]
def db_number.E:TEnv:=envL trydbGl db_number.env
def db_number.m:TM := .seq (.reg [
  ⟨.k (.bx 1023),[.s 0,.s 1023],[1,1023],none⟩,
  ⟨.k .mv,[.c (.i .i64 (0:Int))],[2],none⟩,
  ⟨.k .mv,[.c (.b false)],[3],none⟩]) none (.seq (.block 0 [] (.seq (.reg [
  ⟨.k (.fa 1023 0 1),[.s 1],[5],none⟩,
  ⟨.k (.ld 1023 1 1 false),[.s 5,.s 1023],[6],none⟩,
  ⟨.k (.bin .geq),[.s 6,.c (.u64 (9223372036854775808:UInt64))],[7],none⟩,
  ⟨.k .mv,[.s 7],[4],none⟩]) none (.cond (.s 4) [] (.seq (.reg [
  ⟨.k .mv,[.c (.i .i64 (0:Int))],[2],none⟩,
  ⟨.k .mv,[.c (.b false)],[3],none⟩]) none .ret) (.seq (.reg [
  ⟨.k (.fa 1023 0 0),[.s 1],[9],none⟩,
  ⟨.k (.ld 1023 0 1 false),[.s 9,.s 1023],[10],none⟩,
  ⟨.k (.bin .eql),[.s 10,.c (.i .i64 (1:Int))],[11],none⟩,
  ⟨.k .mv,[.s 11],[8],none⟩]) none (.cond (.s 8) [] (.seq (.reg [
  ⟨.k (.fa 1023 0 1),[.s 1],[12],none⟩,
  ⟨.k (.ld 1023 1 1 false),[.s 12,.s 1023],[13],none⟩,
  ⟨.k (.ci .i64),[.s 13],[14],none⟩,
  ⟨.k .mv,[.s 14],[2],none⟩,
  ⟨.k .mv,[.c (.b true)],[3],none⟩]) none .ret) (.seq (.reg [
  ⟨.k (.fa 1023 0 0),[.s 1],[16],none⟩,
  ⟨.k (.ld 1023 0 1 false),[.s 16,.s 1023],[17],none⟩,
  ⟨.k (.bin .eql),[.s 17,.c (.i .i64 (2:Int))],[18],none⟩,
  ⟨.k .mv,[.s 18],[15],none⟩]) none (.cond (.s 15) [] (.seq (.reg [
  ⟨.k (.fa 1023 0 1),[.s 1],[19],none⟩,
  ⟨.k (.ld 1023 1 1 false),[.s 19,.s 1023],[20],none⟩,
  ⟨.k (.ci .i64),[.s 20],[21],none⟩,
  ⟨.k (.bin .sub),[.c (.i .i64 (-1:Int)),.s 21],[22],none⟩,
  ⟨.k .mv,[.s 22],[2],none⟩,
  ⟨.k .mv,[.c (.b true)],[3],none⟩]) none .ret) .skip))))))) none (.seq (.reg [
  ⟨.k .mv,[.c (.i .i64 (0:Int))],[2],none⟩,
  ⟨.k .mv,[.c (.b false)],[3],none⟩]) none .ret))
def db_number.d:TFD:={ np:=1,m:=db_number.m,ref:=none,tips:=[],res:=[.t 2,.t 3],own:=[],new:=none,tnew:=[] }
noncomputable def db_number.F (it:Itv):Option (List TV):=db_number.d.run db_number.E [(.ag (Itv.cells it))]
theorem db_number.F_in (it:Itv) {ρ:Option (List TV)} (K:∀(v1:Int) (h1:v1=(IntKind.i64.wrap (((Itv.n it)).toNat:Int))) (v2:Int) (h2:v2=(IntKind.i64.wrap ((-1:Int) - v1))),cond (decide ((9223372036854775808:UInt64)≤(Itv.n it)))
  (some [(.i .i64 (0:Int)),(.b false)])
  (cond (decide ((Itv.kind it)=(1:Int)))
  (some [(.i .i64 v1),(.b true)])
  (cond (decide ((Itv.kind it)=(2:Int)))
  (some [(.i .i64 v2),(.b true)])
  (some [(.i .i64 (0:Int)),(.b false)])))=ρ):db_number.F it=ρ:=Eq.trans (by kernel_rfl) (K _ rfl _ rfl)
theorem db_number.chk:((Go.Proofs.Tryd.prog.funcs[70]?).any fun fn=>chkF Go.Proofs.Tryd.prog (fun k=>((envL trydbGl db_number.env).fs k).2) fn db_number.d.erase)=true:=by kernel_rfl
end
noncomputable section
def db_regular.env:List (Nat × (Ctr × FSig)):=[(71,(sc_Itoa.c,sc_Itoa.sg))]
def db_regular.E:TEnv:=envL trydbGl db_regular.env
def db_regular.m1:TM := .seq (.seq (.reg [
  ⟨.k .mv,[.s 3],[4],none⟩,
  ⟨.k .mv,[.s 0],[5],none⟩,
  ⟨.k .len,[.s 5],[6],none⟩,
  ⟨.k (.bin .lss),[.s 4,.s 6],[7],none⟩]) none (.cond (.s 7) [] .skip (.exit 0))) none (.seq (.block 1 [] (.seq (.reg [
  ⟨.k .mv,[.s 0],[10],none⟩,
  ⟨.k .mv,[.s 3],[11],none⟩,
  ⟨.k (.ix 5),[.s 10,.s 11],[12],none⟩,
  ⟨.k (.fr 0 1 false),[.s 12],[13],none⟩,
  ⟨.k (.lr 1 false),[.s 13],[14],none⟩,
  ⟨.k (.bin .neq),[.s 14,.c (.i .i64 (4:Int))],[15],none⟩,
  ⟨.k .mv,[.s 15],[16],none⟩,
  ⟨.k .mv,[.s 0],[17],some (16,false)⟩,
  ⟨.k .mv,[.s 3],[18],some (16,false)⟩,
  ⟨.k (.ix 5),[.s 17,.s 18],[19],some (16,false)⟩,
  ⟨.k (.fr 3 1 false),[.s 19],[20],some (16,false)⟩,
  ⟨.k (.lr 1 false),[.s 20],[21],some (16,false)⟩,
  ⟨.k .mv,[.s 3],[22],some (16,false)⟩,
  ⟨.k (.bin .quo),[.s 22,.c (.i .i64 (2:Int))],[23],some (16,false)⟩,
  ⟨.k (.call 71 (.plain 1 1)),[.s 23],[24],some (16,false)⟩,
  ⟨.k (.bin .neq),[.s 21,.s 24],[25],some (16,false)⟩,
  ⟨.k .pick,[.s 16,.c (.b true),.s 25],[26],none⟩]) none (.cond (.s 26) [] (.seq (.reg [
  ⟨.k .mv,[.c (.b false)],[2],none⟩]) none .ret) .skip))) none (.reg [
  ⟨.k .mv,[.s 3],[8],none⟩,
  ⟨.k (.bin .add),[.s 8,.c (.i .i64 (2:Int))],[9],none⟩,
  ⟨.k .mv,[.s 9],[3],none⟩]))
def db_regular.m:TM := .seq (.reg [
  ⟨.k .mv,[.c (.b false)],[2],none⟩]) none (.seq (.seq (.reg [
  ⟨.k .mv,[.c (.i .i64 (0:Int))],[3],none⟩]) none (.block 0 [] (.loop [0,3] [] db_regular.m1))) none (.seq (.reg [
  ⟨.k .mv,[.c (.b true)],[2],none⟩]) none .ret))
def db_regular.d:TFD:={ np:=1,m:=db_regular.m,ref:=none,tips:=[],res:=[.t 2],own:=[],new:=none,tnew:=[] }
noncomputable def db_regular.F (l:List Itm):Option (List TV):=db_regular.d.run db_regular.E [(.sl .il l)]
noncomputable def db_regular.k1:Cont (List TV):=seqK (ev _ db_regular.E (.seq (.reg [
  ⟨.k .mv,[.c (.b true)],[2],none⟩]) none .ret)) none (endK db_regular.d)
noncomputable def db_regular.l1 (x0:List Itm) (x1:Int):Option (List TV):=loopL (evO _ db_regular.E db_regular.m1) isN [0,3] (headT [0,3] [(.sl .il x0),(.i .i64 x1)]) (blockK 0 db_regular.k1)
theorem db_regular.l1_in (x0:List Itm) (x1:Int) {ρ:Option (List TV)} (K:∀(v1:Int) (h1:v1=(Itm.kind (List.getD x0 (x1).toNat (STy.dflt .il)))) (v2:Bool) (h2:v2=(!(!decide (v1=(4:Int))))) (v3:Str) (h3:v3=(Itm.text (List.getD x0 (x1).toNat (STy.dflt .il)))) (v4:Int) (h4:v4=(IntKind.i64.wrap (Int.tdiv x1 (2:Int)))) (v5:Bool) (h5:v5=(cond (!decide (v1=(4:Int))) true (!decide (v3=(Lib.itoa v4))))) (v6:Int) (h6:v6=(IntKind.i64.wrap (x1+(2:Int)))),cond (decide (x1<((x0).length:Int)))
  (ck (idxOK x1 (x0).length) (ck (!v2 || ((v2&&v2)&&(idxOK x1 (x0).length))) (ck (!v2 || v2) (ck (!v2 || v2) (ck (!v2 || (v2&&(!decide ((2:Int)=0)))) (ck (!v2 || (v2&&(decide (-9223372036854775808≤v4∧v4≤9223372036854775807)))) (ck (!v2 || (v2&&v2)) (ck ((!decide (v1=(4:Int))) || v2) (cond v5
  (some [(.b false)])
  (db_regular.l1 x0 v6))))))))))
  (some [(.b true)])=ρ):db_regular.l1 x0 x1=ρ:=((ev_loop _ _ _ _ _ _).trans (by kernel_rfl)).trans (K _ rfl _ rfl _ rfl _ rfl _ rfl _ rfl)
theorem db_regular.F_eq (l:List Itm):db_regular.F l=db_regular.l1 l (0:Int):=by kernel_rfl
theorem db_regular.chk:((Go.Proofs.Tryd.prog.funcs[87]?).any fun fn=>chkF Go.Proofs.Tryd.prog (fun k=>((envL trydbGl db_regular.env).fs k).2) fn db_regular.d.erase)=true:=by kernel_rfl
end
noncomputable section
def db_kinds.env:List (Nat × (Ctr × FSig)):=[]
def db_kinds.E:TEnv:=envL trydbGl db_kinds.env
def db_kinds.m:TM := .seq (.reg [
  ⟨.k (.bx 1034),[.s 0,.s 1034],[3,1034],none⟩,
  ⟨.k .mv,[.c (.b false)],[6],none⟩]) none (.seq (.reg [
  ⟨.k (.fa 1034 0 0),[.s 3],[7],none⟩,
  ⟨.k (.ld 1034 0 1 false),[.s 7,.s 1034],[8],none⟩,
  ⟨.k (.bin .eql),[.s 8,.c (.i .i64 (5:Int))],[9],none⟩,
  ⟨.k .mv,[.s 9],[10],none⟩,
  ⟨.k (.fa 1034 0 4),[.s 3],[11],some (10,true)⟩,
  ⟨.k (.ld 1034 4 1 false),[.s 11,.s 1034],[12],some (10,true)⟩,
  ⟨.k .len,[.s 12],[13],some (10,true)⟩,
  ⟨.k (.bin .eql),[.s 13,.c (.i .i64 (2:Int))],[14],some (10,true)⟩,
  ⟨.k .pick,[.s 10,.s 14,.c (.b false)],[15],none⟩,
  ⟨.k .mv,[.s 15],[16],none⟩,
  ⟨.k (.fa 1034 0 4),[.s 3],[17],some (16,true)⟩,
  ⟨.k (.ld 1034 4 1 false),[.s 17,.s 1034],[18],some (16,true)⟩,
  ⟨.k (.ix 5),[.s 18,.c (.i .i64 (0:Int))],[19],some (16,true)⟩,
  ⟨.k (.fr 0 1 false),[.s 19],[20],some (16,true)⟩,
  ⟨.k (.lr 1 false),[.s 20],[21],some (16,true)⟩,
  ⟨.k .mv,[.s 1],[22],some (16,true)⟩,
  ⟨.k (.bin .eql),[.s 21,.s 22],[23],some (16,true)⟩,
  ⟨.k .pick,[.s 16,.s 23,.c (.b false)],[24],none⟩,
  ⟨.k .mv,[.s 24],[25],none⟩,
  ⟨.k (.fa 1034 0 4),[.s 3],[26],some (25,true)⟩,
  ⟨.k (.ld 1034 4 1 false),[.s 26,.s 1034],[27],some (25,true)⟩,
  ⟨.k (.ix 5),[.s 27,.c (.i .i64 (1:Int))],[28],some (25,true)⟩,
  ⟨.k (.fr 0 1 false),[.s 28],[29],some (25,true)⟩,
  ⟨.k (.lr 1 false),[.s 29],[30],some (25,true)⟩,
  ⟨.k .mv,[.s 2],[31],some (25,true)⟩,
  ⟨.k (.bin .eql),[.s 30,.s 31],[32],some (25,true)⟩,
  ⟨.k .pick,[.s 25,.s 32,.c (.b false)],[33],none⟩,
  ⟨.k .mv,[.s 33],[6],none⟩]) none .ret)
def db_kinds.d:TFD:={ np:=3,m:=db_kinds.m,ref:=none,tips:=[],res:=[.t 6],own:=[],new:=none,tnew:=[] }
noncomputable def db_kinds.F (it:Itv) (a:Int) (b:Int):Option (List TV):=db_kinds.d.run db_kinds.E [(.ag (Itv.cells it)),(.i .i64 a),(.i .i64 b)]
theorem db_kinds.F_in (it:Itv) (a:Int) (b:Int) {ρ:Option (List TV)} (K:∀(v1:Int) (h1:v1=(((Itv.kids it)).length:Int)) (v2:Bool) (h2:v2=(cond (decide ((Itv.kind it)=(5:Int))) (decide (v1=(2:Int))) false)) (v3:Int) (h3:v3=(Itm.kind (List.getD (Itv.kids it) ((0:Int)).toNat (STy.dflt .il)))) (v4:Bool) (h4:v4=(cond v2 (decide (v3=a)) false)) (v5:Int) (h5:v5=(Itm.kind (List.getD (Itv.kids it) ((1:Int)).toNat (STy.dflt .il)))) (v6:Bool) (h6:v6=(cond v4 (decide (v5=b)) false)),ck (!(decide ((Itv.kind it)=(5:Int))) || (decide ((Itv.kind it)=(5:Int)))) (ck (!(decide ((Itv.kind it)=(5:Int))) || (decide ((Itv.kind it)=(5:Int)))) (ck (!(decide ((Itv.kind it)=(5:Int))) || (decide ((Itv.kind it)=(5:Int)))) (ck (!(decide ((Itv.kind it)=(5:Int))) || (decide ((Itv.kind it)=(5:Int)))) (ck (!v2 || v2) (ck (!v2 || (v2&&(idxOK (0:Int) ((Itv.kids it)).length))) (ck (!v2 || v2) (ck (!v2 || v2) (ck (!v2 || (v2&&v2)) (ck (!v2 || v2) (ck (!v4 || v4) (ck (!v4 || (v4&&(idxOK (1:Int) ((Itv.kids it)).length))) (ck (!v4 || v4) (ck (!v4 || v4) (ck (!v4 || (v4&&v4)) (ck (!v4 || v4) (some [(.b v6)]))))))))))))))))=ρ):db_kinds.F it a b=ρ:=Eq.trans (by kernel_rfl) (K _ rfl _ rfl _ rfl _ rfl _ rfl _ rfl)
theorem db_kinds.chk:((Go.Proofs.Tryd.prog.funcs[88]?).any fun fn=>chkF Go.Proofs.Tryd.prog (fun k=>((envL trydbGl db_kinds.env).fs k).2) fn db_kinds.d.erase)=true:=by kernel_rfl
end
noncomputable section
def db_small.env:List (Nat × (Ctr × FSig)):=[(43,(st_Contains.c,st_Contains.sg)),(69,(clone_bs.c,clone_bs.sg)),(70,(db_number.c,db_number.sg)),(88,(db_kinds.c,db_kinds.sg))]
def db_small.E:TEnv:=envL trydbGl db_small.env
def db_small.m1:TM := .reg [
  ⟨.k (.bin .add),[.s 176,.c (.i .i64 (1:Int))],[197],none⟩,
  ⟨.k .mv,[.s 197],[176],none⟩]
def db_small.m2:TM := .seq (.reg [
  ⟨.k (.bin .lss),[.s 176,.s 175],[177],none⟩]) none (.seq (.cond (.s 177) [] .skip (.exit 1)) none (.seq (.block 2 [(4,.ptr 1212 0),(6,.ptr 1213 0),(1212,.cl []),(1213,.cl [])] (.seq (.reg [
  ⟨.k .mv,[.s 176],[178],none⟩,
  ⟨.k (.ix 1),[.s 174,.s 176],[179],none⟩,
  ⟨.k (.lr 1 false),[.s 179],[180],none⟩,
  ⟨.k .mv,[.s 178],[9],none⟩,
  ⟨.k .mv,[.s 180],[10],none⟩]) none (.seq (.reg [
  ⟨.k .mv,[.s 9],[181],none⟩,
  ⟨.k (.bin .lss),[.s 181,.c (.i .i64 (8:Int))],[182],none⟩]) none (.cond (.s 182) [(4,.ptr 1212 0),(6,.ptr 1213 0),(1212,.cl []),(1213,.cl [])] (.reg [
  ⟨.k (.fa 1213 0 2),[.s 6],[183],none⟩,
  ⟨.k (.ld 1213 2 1 false),[.s 183,.s 1213],[184],none⟩,
  ⟨.k (.bin .shl),[.s 184,.c (.u64 (8:UInt64))],[185],none⟩,
  ⟨.k .mv,[.s 10],[186],none⟩,
  ⟨.k (.ci .u64),[.s 186],[187],none⟩,
  ⟨.k (.bin .or),[.s 185,.s 187],[188],none⟩,
  ⟨.k (.fa 1213 0 2),[.s 6],[189],none⟩,
  ⟨.k (.st 1213 2 1),[.s 189,.s 1213,.s 188],[1213],none⟩]) (.reg [
  ⟨.k (.fa 1213 0 3),[.s 6],[190],none⟩,
  ⟨.k (.ld 1213 3 1 false),[.s 190,.s 1213],[191],none⟩,
  ⟨.k (.bin .shl),[.s 191,.c (.u64 (8:UInt64))],[192],none⟩,
  ⟨.k .mv,[.s 10],[193],none⟩,
  ⟨.k (.ci .u64),[.s 193],[194],none⟩,
  ⟨.k (.bin .or),[.s 192,.s 194],[195],none⟩,
  ⟨.k (.fa 1213 0 3),[.s 6],[196],none⟩,
  ⟨.k (.st 1213 3 1),[.s 196,.s 1213,.s 195],[1213],none⟩]))))) (some [4,6,7,174,175,176,1212,1213]) db_small.m1))
def db_small.m3:TM := .cond (.s 198) [(4,.ptr 1212 0),(6,.ptr 1213 0),(1212,.cl []),(1213,.cl [])] (.reg [
  ⟨.k (.fa 1211 0 0),[.s 3],[201],none⟩,
  ⟨.k (.ld 1211 0 1 false),[.s 201,.s 1211],[202],none⟩,
  ⟨.k (.bin .eql),[.s 202,.c (.i .i64 (8:Int))],[203],none⟩,
  ⟨.k .mv,[.s 203],[204],none⟩,
  ⟨.k (.fa 1211 0 1),[.s 3],[205],some (204,true)⟩,
  ⟨.k (.ld 1211 1 1 false),[.s 205,.s 1211],[206],some (204,true)⟩,
  ⟨.k (.bin .eql),[.s 206,.c (.u64 (22:UInt64))],[207],some (204,true)⟩,
  ⟨.k .pick,[.s 204,.s 207,.c (.b false)],[208],none⟩,
  ⟨.k .mv,[.s 208],[7],none⟩]) .skip
def db_small.m4:TM := .cond (.s 144) [(4,.ptr 1212 0),(6,.ptr 1213 0),(1212,.cl []),(1213,.cl [])] (.reg [
  ⟨.k (.fa 1211 0 0),[.s 3],[147],none⟩,
  ⟨.k (.ld 1211 0 1 false),[.s 147,.s 1211],[148],none⟩,
  ⟨.k (.bin .eql),[.s 148,.c (.i .i64 (4:Int))],[149],none⟩,
  ⟨.k (.fa 1211 0 3),[.s 3],[150],none⟩,
  ⟨.k (.ld 1211 3 1 false),[.s 150,.s 1211],[151],none⟩,
  ⟨.k .mv,[.s 149],[7],none⟩,
  ⟨.k (.fa 1213 0 4),[.s 6],[152],none⟩,
  ⟨.k (.st 1213 4 1),[.s 152,.s 1213,.s 151],[1213],none⟩]) (.seq (.reg [
  ⟨.k (.bin .eql),[.s 23,.c (.i .i64 (17:Int))],[154],none⟩,
  ⟨.k .mv,[.s 154],[153],none⟩]) none (.cond (.s 153) [(4,.ptr 1212 0),(6,.ptr 1213 0),(1212,.cl []),(1213,.cl [])] (.reg [
  ⟨.k (.fa 1211 0 0),[.s 3],[155],none⟩,
  ⟨.k (.ld 1211 0 1 false),[.s 155,.s 1211],[156],none⟩,
  ⟨.k (.bin .eql),[.s 156,.c (.i .i64 (1:Int))],[157],none⟩,
  ⟨.k (.fa 1211 0 1),[.s 3],[158],none⟩,
  ⟨.k (.ld 1211 1 1 false),[.s 158,.s 1211],[159],none⟩,
  ⟨.k .mv,[.s 157],[7],none⟩,
  ⟨.k (.fa 1213 0 1),[.s 6],[160],none⟩,
  ⟨.k (.st 1213 1 1),[.s 160,.s 1213,.s 159],[1213],none⟩]) (.seq (.reg [
  ⟨.k (.bin .eql),[.s 23,.c (.i .i64 (19:Int))],[162],none⟩,
  ⟨.k .mv,[.s 162],[161],none⟩]) none (.cond (.s 161) [(4,.ptr 1212 0),(6,.ptr 1213 0),(1212,.cl []),(1213,.cl [])] (.seq (.reg [
  ⟨.k (.fa 1211 0 0),[.s 3],[163],none⟩,
  ⟨.k (.ld 1211 0 1 false),[.s 163,.s 1211],[164],none⟩,
  ⟨.k (.bin .eql),[.s 164,.c (.i .i64 (3:Int))],[165],none⟩,
  ⟨.k .mv,[.s 165],[166],none⟩,
  ⟨.k (.fa 1211 0 2),[.s 3],[167],some (166,true)⟩,
  ⟨.k (.ld 1211 2 1 false),[.s 167,.s 1211],[168],some (166,true)⟩,
  ⟨.k .len,[.s 168],[169],some (166,true)⟩,
  ⟨.k (.bin .eql),[.s 169,.c (.i .i64 (16:Int))],[170],some (166,true)⟩,
  ⟨.k .pick,[.s 166,.s 170,.c (.b false)],[171],none⟩,
  ⟨.k .mv,[.s 171],[7],none⟩]) none (.seq (.reg [
  ⟨.k .mv,[.s 7],[172],none⟩]) none (.cond (.s 172) [(4,.ptr 1212 0),(6,.ptr 1213 0),(1212,.cl []),(1213,.cl [])] (.seq (.reg [
  ⟨.k (.fa 1211 0 2),[.s 3],[173],none⟩,
  ⟨.k (.ld 1211 2 1 false),[.s 173,.s 1211],[174],none⟩,
  ⟨.k .len,[.s 174],[175],none⟩,
  ⟨.k .mv,[.c (.i .i64 (0:Int))],[176],none⟩]) none (.block 1 [(4,.ptr 1212 0),(6,.ptr 1213 0),(1212,.cl []),(1213,.cl [])] (.loop [4,6,7,174,175,176,1212,1213] [(4,.ptr 1212 0),(6,.ptr 1213 0),(1212,.cl []),(1213,.cl [])] db_small.m2))) .skip))) (.seq (.seq (.reg [
  ⟨.k (.bin .eql),[.s 23,.c (.i .i64 (255:Int))],[199],none⟩,
  ⟨.k .mv,[.s 199],[198],none⟩]) none (.cond (.s 198) [(3,.ptr 1211 0),(4,.ptr 1212 0),(6,.ptr 1213 0),(1211,.cl []),(1212,.cl []),(1213,.cl [])] .skip (.reg [
  ⟨.k (.bin .eql),[.s 23,.c (.i .i64 (127:Int))],[200],none⟩,
  ⟨.k .mv,[.s 200],[198],none⟩]))) (some [3,4,6,7,198,1211,1212,1213]) db_small.m3)))))
def db_small.m5:TM := .cond (.s 74) [(4,.ptr 1212 0),(6,.ptr 1213 0),(1212,.cl []),(1213,.cl [])] (.seq (.reg [
  ⟨.k .mv,[.c (.i .i64 (0:Int))],[8],none⟩]) none (.seq (.reg [
  ⟨.k (.ld 1211 0 5 true),[.s 3,.s 1211],[78],none⟩,
  ⟨.k (.call 70 (.plain 1 2)),[.s 78],[79],none⟩,
  ⟨.k .mv,[.s 79],[77],none⟩,
  ⟨.k (.ex 0),[.s 77],[80],none⟩,
  ⟨.k (.ex 1),[.s 77],[81],none⟩,
  ⟨.k .mv,[.s 80],[8],none⟩,
  ⟨.k .mv,[.s 81],[7],none⟩]) none (.reg [
  ⟨.k .mv,[.s 8],[82],none⟩,
  ⟨.k (.ci .u64),[.s 82],[83],none⟩,
  ⟨.k (.fa 1213 0 1),[.s 6],[84],none⟩,
  ⟨.k (.st 1213 1 1),[.s 84,.s 1213,.s 83],[1213],none⟩]))) (.seq (.reg [
  ⟨.k (.bin .eql),[.s 23,.c (.i .i64 (11:Int))],[86],none⟩,
  ⟨.k .mv,[.s 86],[85],none⟩]) none (.cond (.s 85) [(4,.ptr 1212 0),(6,.ptr 1213 0),(1212,.cl []),(1213,.cl [])] (.seq (.reg [
  ⟨.k (.ld 1211 0 5 true),[.s 3,.s 1211],[87],none⟩,
  ⟨.k (.call 88 (.plain 3 1)),[.s 87,.c (.i .i64 (4:Int)),.c (.i .i64 (4:Int))],[88],none⟩,
  ⟨.k .mv,[.s 88],[89],none⟩,
  ⟨.k (.fa 1211 0 4),[.s 3],[90],some (89,true)⟩,
  ⟨.k (.ld 1211 4 1 false),[.s 90,.s 1211],[91],some (89,true)⟩,
  ⟨.k (.ix 5),[.s 91,.c (.i .i64 (0:Int))],[92],some (89,true)⟩,
  ⟨.k (.fr 3 1 false),[.s 92],[93],some (89,true)⟩,
  ⟨.k (.lr 1 false),[.s 93],[94],some (89,true)⟩,
  ⟨.k (.fa 1211 0 4),[.s 3],[95],some (89,true)⟩,
  ⟨.k (.ld 1211 4 1 false),[.s 95,.s 1211],[96],some (89,true)⟩,
  ⟨.k (.ix 5),[.s 96,.c (.i .i64 (1:Int))],[97],some (89,true)⟩,
  ⟨.k (.fr 3 1 false),[.s 97],[98],some (89,true)⟩,
  ⟨.k (.lr 1 false),[.s 98],[99],some (89,true)⟩,
  ⟨.k (.bin .add),[.s 94,.s 99],[100],some (89,true)⟩,
  ⟨.k (.call 43 (.plain 2 1)),[.s 100,.c (.s ([0]:Str))],[101],some (89,true)⟩,
  ⟨.k (.un .not),[.s 101],[102],some (89,true)⟩,
  ⟨.k .pick,[.s 89,.s 102,.c (.b false)],[103],none⟩,
  ⟨.k .mv,[.s 103],[7],none⟩]) none (.seq (.reg [
  ⟨.k .mv,[.s 7],[104],none⟩]) none (.cond (.s 104) [(4,.ptr 1212 0),(6,.ptr 1213 0),(1212,.cl []),(1213,.cl [])] (.reg [
  ⟨.k (.fa 1211 0 4),[.s 3],[105],none⟩,
  ⟨.k (.ld 1211 4 1 false),[.s 105,.s 1211],[106],none⟩,
  ⟨.k (.ix 5),[.s 106,.c (.i .i64 (0:Int))],[107],none⟩,
  ⟨.k (.fr 3 1 false),[.s 107],[108],none⟩,
  ⟨.k (.lr 1 false),[.s 108],[109],none⟩,
  ⟨.k (.fa 1211 0 4),[.s 3],[110],none⟩,
  ⟨.k (.ld 1211 4 1 false),[.s 110,.s 1211],[111],none⟩,
  ⟨.k (.ix 5),[.s 111,.c (.i .i64 (1:Int))],[112],none⟩,
  ⟨.k (.fr 3 1 false),[.s 112],[113],none⟩,
  ⟨.k (.lr 1 false),[.s 113],[114],none⟩,
  ⟨.k (.fa 1213 0 4),[.s 6],[115],none⟩,
  ⟨.k (.st 1213 4 1),[.s 115,.s 1213,.s 109],[1213],none⟩,
  ⟨.k (.fa 1213 0 5),[.s 6],[116],none⟩,
  ⟨.k (.st 1213 5 1),[.s 116,.s 1213,.s 114],[1213],none⟩]) .skip))) (.seq (.reg [
  ⟨.k (.bin .eql),[.s 23,.c (.i .i64 (12:Int))],[118],none⟩,
  ⟨.k .mv,[.s 118],[117],none⟩]) none (.cond (.s 117) [(4,.ptr 1212 0),(6,.ptr 1213 0),(1212,.cl []),(1213,.cl [])] (.seq (.reg [
  ⟨.k (.ld 1211 0 5 true),[.s 3,.s 1211],[119],none⟩,
  ⟨.k (.call 88 (.plain 3 1)),[.s 119,.c (.i .i64 (4:Int)),.c (.i .i64 (3:Int))],[120],none⟩,
  ⟨.k .mv,[.s 120],[121],none⟩,
  ⟨.k (.fa 1211 0 4),[.s 3],[122],some (121,true)⟩,
  ⟨.k (.ld 1211 4 1 false),[.s 122,.s 1211],[123],some (121,true)⟩,
  ⟨.k (.ix 5),[.s 123,.c (.i .i64 (1:Int))],[124],some (121,true)⟩,
  ⟨.k (.fr 2 1 false),[.s 124],[125],some (121,true)⟩,
  ⟨.k (.lr 1 false),[.s 125],[126],some (121,true)⟩,
  ⟨.k .len,[.s 126],[127],some (121,true)⟩,
  ⟨.k (.bin .eql),[.s 127,.c (.i .i64 (12:Int))],[128],some (121,true)⟩,
  ⟨.k .pick,[.s 121,.s 128,.c (.b false)],[129],none⟩,
  ⟨.k .mv,[.s 129],[7],none⟩]) none (.seq (.reg [
  ⟨.k .mv,[.s 7],[130],none⟩]) none (.cond (.s 130) [(4,.ptr 1212 0),(6,.ptr 1213 0),(1212,.cl []),(1213,.cl [])] (.reg [
  ⟨.k (.fa 1211 0 4),[.s 3],[131],none⟩,
  ⟨.k (.ld 1211 4 1 false),[.s 131,.s 1211],[132],none⟩,
  ⟨.k (.ix 5),[.s 132,.c (.i .i64 (0:Int))],[133],none⟩,
  ⟨.k (.fr 3 1 false),[.s 133],[134],none⟩,
  ⟨.k (.lr 1 false),[.s 134],[135],none⟩,
  ⟨.k (.fa 1211 0 4),[.s 3],[136],none⟩,
  ⟨.k (.ld 1211 4 1 false),[.s 136,.s 1211],[137],none⟩,
  ⟨.k (.ix 5),[.s 137,.c (.i .i64 (1:Int))],[138],none⟩,
  ⟨.k (.fr 2 1 false),[.s 138],[139],none⟩,
  ⟨.k (.lr 1 false),[.s 139],[140],none⟩,
  ⟨.k (.call 69 ⟨1,none,[],[],1,[(0,110,1)],none,[]⟩),[.s 140,.s (lk 110)],[141,lk 110],none⟩,
  ⟨.k (.fa 1213 0 4),[.s 6],[142],none⟩,
  ⟨.k (.st 1213 4 1),[.s 142,.s 1213,.s 135],[1213],none⟩,
  ⟨.k (.fa 1213 0 7),[.s 6],[143],none⟩,
  ⟨.k (.st 1213 7 1),[.s 143,.s 1213,.s 141],[1213],none⟩]) .skip))) (.seq (.seq (.reg [
  ⟨.k (.bin .eql),[.s 23,.c (.i .i64 (13:Int))],[145],none⟩,
  ⟨.k .mv,[.s 145],[144],none⟩]) none (.cond (.s 144) [(3,.ptr 1211 0),(4,.ptr 1212 0),(6,.ptr 1213 0),(1211,.cl []),(1212,.cl []),(1213,.cl [])] .skip (.reg [
  ⟨.k (.bin .eql),[.s 23,.c (.i .i64 (14:Int))],[146],none⟩,
  ⟨.k .mv,[.s 146],[144],none⟩]))) (some [3,4,6,7,23,144,1211,1212,1213]) db_small.m4)))))
def db_small.m6:TM := .seq (.reg [
  ⟨.k (.ld 1213 0 9 true),[.s 6,.s 1213],[209],none⟩,
  ⟨.k .mv,[.s 7],[210],none⟩,
  ⟨.k (.st 1212 0 9),[.s 4,.s 1212,.s 209],[1212],none⟩,
  ⟨.k .mv,[.s 210],[5],none⟩]) none .ret
def db_small.m:TM := .seq (.reg [
  ⟨.k (.bx 1211),[.s 1,.s 1211],[3,1211],none⟩,
  ⟨.al 1212 [(.i .i64 (0:Int)),(.u64 (0:UInt64)),(.u64 (0:UInt64)),(.u64 (0:UInt64)),(.s ([]:Str)),(.s ([]:Str)),(.i .i64 (0:Int)),(.sl .bs ([]:List UInt8)),(.sl .fl ([]:List Fld))] [],[.s 1212],[4,1212],none⟩,
  ⟨.k .mv,[.c (.b false)],[5],none⟩]) none (.seq (.seq (.reg [
  ⟨.k .mv,[.s 0],[11],none⟩,
  ⟨.k (.bin .lss),[.s 11,.c (.u64 (1000:UInt64))],[12],none⟩,
  ⟨.k .mv,[.s 12],[13],none⟩,
  ⟨.k .mv,[.s 0],[14],some (13,false)⟩,
  ⟨.k (.bin .gtr),[.s 14,.c (.u64 (1255:UInt64))],[15],some (13,false)⟩,
  ⟨.k .pick,[.s 13,.c (.b true),.s 15],[16],none⟩]) none (.cond (.s 16) [] (.seq (.reg [
  ⟨.bd [(.i .i64 (0:Int)),(.u64 (0:UInt64)),(.u64 (0:UInt64)),(.u64 (0:UInt64)),(.s ([]:Str)),(.s ([]:Str)),(.i .i64 (0:Int)),(.sl .bs ([]:List UInt8)),(.sl .fl ([]:List Fld))] [],[],[17],none⟩,
  ⟨.k (.st 1212 0 9),[.s 4,.s 1212,.s 17],[1212],none⟩,
  ⟨.k .mv,[.c (.b false)],[5],none⟩]) none .ret) .skip)) none (.seq (.reg [
  ⟨.k .mv,[.s 0],[18],none⟩,
  ⟨.k (.bin .sub),[.s 18,.c (.u64 (1000:UInt64))],[19],none⟩,
  ⟨.k (.ci .i64),[.s 19],[20],none⟩,
  ⟨.bd [(.i .i64 (0:Int)),(.u64 (0:UInt64)),(.u64 (0:UInt64)),(.u64 (0:UInt64)),(.s ([]:Str)),(.s ([]:Str)),(.i .i64 (0:Int)),(.sl .bs ([]:List UInt8)),(.sl .fl ([]:List Fld))] [(0,1)],[.s 20],[21],none⟩,
  ⟨.al 1213 [(.i .i64 (0:Int)),(.u64 (0:UInt64)),(.u64 (0:UInt64)),(.u64 (0:UInt64)),(.s ([]:Str)),(.s ([]:Str)),(.i .i64 (0:Int)),(.sl .bs ([]:List UInt8)),(.sl .fl ([]:List Fld))] [],[.s 1213],[6,1213],none⟩,
  ⟨.k (.st 1213 0 9),[.s 6,.s 1213,.s 21],[1213],none⟩]) none (.seq (.reg [
  ⟨.k .mv,[.c (.b false)],[7],none⟩]) none (.seq (.seq (.reg [
  ⟨.k (.fa 1213 0 0),[.s 6],[22],none⟩,
  ⟨.k (.ld 1213 0 1 false),[.s 22,.s 1213],[23],none⟩]) none (.block 0 [(4,.ptr 1212 0),(6,.ptr 1213 0),(1212,.cl []),(1213,.cl [])] (.seq (.reg [
  ⟨.k (.bin .eql),[.s 23,.c (.i .i64 (5:Int))],[25],none⟩,
  ⟨.k .mv,[.s 25],[24],none⟩]) none (.cond (.s 24) [(4,.ptr 1212 0),(6,.ptr 1213 0),(1212,.cl []),(1213,.cl [])] (.seq (.reg [
  ⟨.k (.ld 1211 0 5 true),[.s 3,.s 1211],[26],none⟩,
  ⟨.k (.call 88 (.plain 3 1)),[.s 26,.c (.i .i64 (1:Int)),.c (.i .i64 (3:Int))],[27],none⟩,
  ⟨.k .mv,[.s 27],[28],none⟩,
  ⟨.k (.fa 1211 0 4),[.s 3],[29],some (28,true)⟩,
  ⟨.k (.ld 1211 4 1 false),[.s 29,.s 1211],[30],some (28,true)⟩,
  ⟨.k (.ix 5),[.s 30,.c (.i .i64 (0:Int))],[31],some (28,true)⟩,
  ⟨.k (.fr 1 1 false),[.s 31],[32],some (28,true)⟩,
  ⟨.k (.lr 1 false),[.s 32],[33],some (28,true)⟩,
  ⟨.k (.bin .geq),[.s 33,.c (.u64 (1:UInt64))],[34],some (28,true)⟩,
  ⟨.k .pick,[.s 28,.s 34,.c (.b false)],[35],none⟩,
  ⟨.k .mv,[.s 35],[36],none⟩,
  ⟨.k (.fa 1211 0 4),[.s 3],[37],some (36,true)⟩,
  ⟨.k (.ld 1211 4 1 false),[.s 37,.s 1211],[38],some (36,true)⟩,
  ⟨.k (.ix 5),[.s 38,.c (.i .i64 (0:Int))],[39],some (36,true)⟩,
  ⟨.k (.fr 1 1 false),[.s 39],[40],some (36,true)⟩,
  ⟨.k (.lr 1 false),[.s 40],[41],some (36,true)⟩,
  ⟨.k (.bin .leq),[.s 41,.c (.u64 (255:UInt64))],[42],some (36,true)⟩,
  ⟨.k .pick,[.s 36,.s 42,.c (.b false)],[43],none⟩,
  ⟨.k .mv,[.s 43],[7],none⟩]) none (.seq (.reg [
  ⟨.k .mv,[.s 7],[44],none⟩]) none (.cond (.s 44) [(4,.ptr 1212 0),(6,.ptr 1213 0),(1212,.cl []),(1213,.cl [])] (.reg [
  ⟨.k (.fa 1211 0 4),[.s 3],[45],none⟩,
  ⟨.k (.ld 1211 4 1 false),[.s 45,.s 1211],[46],none⟩,
  ⟨.k (.ix 5),[.s 46,.c (.i .i64 (0:Int))],[47],none⟩,
  ⟨.k (.fr 1 1 false),[.s 47],[48],none⟩,
  ⟨.k (.lr 1 false),[.s 48],[49],none⟩,
  ⟨.k (.ci .i64),[.s 49],[50],none⟩,
  ⟨.k (.fa 1211 0 4),[.s 3],[51],none⟩,
  ⟨.k (.ld 1211 4 1 false),[.s 51,.s 1211],[52],none⟩,
  ⟨.k (.ix 5),[.s 52,.c (.i .i64 (1:Int))],[53],none⟩,
  ⟨.k (.fr 2 1 false),[.s 53],[54],none⟩,
  ⟨.k (.lr 1 false),[.s 54],[55],none⟩,
  ⟨.k (.call 69 ⟨1,none,[],[],1,[(0,108,1)],none,[]⟩),[.s 55,.s (lk 108)],[56,lk 108],none⟩,
  ⟨.k (.fa 1213 0 6),[.s 6],[57],none⟩,
  ⟨.k (.st 1213 6 1),[.s 57,.s 1213,.s 50],[1213],none⟩,
  ⟨.k (.fa 1213 0 7),[.s 6],[58],none⟩,
  ⟨.k (.st 1213 7 1),[.s 58,.s 1213,.s 56],[1213],none⟩]) .skip))) (.seq (.reg [
  ⟨.k (.bin .eql),[.s 23,.c (.i .i64 (7:Int))],[60],none⟩,
  ⟨.k .mv,[.s 60],[59],none⟩]) none (.cond (.s 59) [(4,.ptr 1212 0),(6,.ptr 1213 0),(1212,.cl []),(1213,.cl [])] (.reg [
  ⟨.k (.fa 1211 0 0),[.s 3],[61],none⟩,
  ⟨.k (.ld 1211 0 1 false),[.s 61,.s 1211],[62],none⟩,
  ⟨.k (.bin .eql),[.s 62,.c (.i .i64 (3:Int))],[63],none⟩,
  ⟨.k .mv,[.s 63],[64],none⟩,
  ⟨.k (.fa 1211 0 2),[.s 3],[65],some (64,true)⟩,
  ⟨.k (.ld 1211 2 1 false),[.s 65,.s 1211],[66],some (64,true)⟩,
  ⟨.k .len,[.s 66],[67],some (64,true)⟩,
  ⟨.k (.bin .eql),[.s 67,.c (.i .i64 (12:Int))],[68],some (64,true)⟩,
  ⟨.k .pick,[.s 64,.s 68,.c (.b false)],[69],none⟩,
  ⟨.k (.fa 1211 0 2),[.s 3],[70],none⟩,
  ⟨.k (.ld 1211 2 1 false),[.s 70,.s 1211],[71],none⟩,
  ⟨.k (.call 69 ⟨1,none,[],[],1,[(0,109,1)],none,[]⟩),[.s 71,.s (lk 109)],[72,lk 109],none⟩,
  ⟨.k .mv,[.s 69],[7],none⟩,
  ⟨.k (.fa 1213 0 7),[.s 6],[73],none⟩,
  ⟨.k (.st 1213 7 1),[.s 73,.s 1213,.s 72],[1213],none⟩]) (.seq (.seq (.reg [
  ⟨.k (.bin .eql),[.s 23,.c (.i .i64 (9:Int))],[75],none⟩,
  ⟨.k .mv,[.s 75],[74],none⟩]) none (.cond (.s 74) [(3,.ptr 1211 0),(4,.ptr 1212 0),(6,.ptr 1213 0),(1211,.cl []),(1212,.cl []),(1213,.cl [])] .skip (.reg [
  ⟨.k (.bin .eql),[.s 23,.c (.i .i64 (18:Int))],[76],none⟩,
  ⟨.k .mv,[.s 76],[74],none⟩]))) (some [3,4,6,7,23,74,1211,1212,1213]) db_small.m5))))))) (some [4,6,7,1212,1213]) db_small.m6))))
def db_small.d:TFD:={ np:=2,m:=db_small.m,ref:=none,tips:=[],res:=[.c 4 1212 9 true,.t 5],own:=[],new:=none,tnew:=[] }
noncomputable def db_small.F (n:UInt64) (it:Itv):Option (List TV):=db_small.d.run db_small.E [(.u64 n),(.ag (Itv.cells it))]
noncomputable def db_small.k1:Cont (List TV):=seqK (evO _ db_small.E db_small.m6) (some [4,6,7,1212,1213]) (endK db_small.d)
noncomputable def db_small.k2:Cont (List TV):=againK (evO _ db_small.E db_small.m2) isN [4,6,7,174,175,176,1212,1213] (blockK 1 (blockK 0 db_small.k1))
noncomputable def db_small.j1 (x0:Bool) (x1:Val) (x2:Val):Option (List TV):=evO _ db_small.E db_small.m6 (headT [4,6,7,1212,1213] [.pt,.pt,(.b x0),(.ag (Val.cells x1)),(.ag (Val.cells x2))]) (endK db_small.d)
noncomputable def db_small.j2 (x0:Bool) (x1:Int) (x2:Bool) (x3:Itv) (x4:Val) (x5:Val):Option (List TV):=evO _ db_small.E db_small.m5 (headT [3,4,6,7,23,74,1211,1212,1213] [.pt,.pt,.pt,(.b x0),(.i .i64 x1),(.b x2),(.ag (Itv.cells x3)),(.ag (Val.cells x4)),(.ag (Val.cells x5))]) (blockK 0 db_small.k1)
noncomputable def db_small.j3 (x0:Bool) (x1:Int) (x2:Bool) (x3:Itv) (x4:Val) (x5:Val):Option (List TV):=evO _ db_small.E db_small.m4 (headT [3,4,6,7,23,144,1211,1212,1213] [.pt,.pt,.pt,(.b x0),(.i .i64 x1),(.b x2),(.ag (Itv.cells x3)),(.ag (Val.cells x4)),(.ag (Val.cells x5))]) (blockK 0 db_small.k1)
noncomputable def db_small.l4 (x0:Bool) (x1:List UInt8) (x2:Int) (x3:Int) (x4:Val) (x5:Val):Option (List TV):=loopL (evO _ db_small.E db_small.m2) isN [4,6,7,174,175,176,1212,1213] (headT [4,6,7,174,175,176,1212,1213] [.pt,.pt,(.b x0),(.sl .bs x1),(.i .i64 x2),(.i .i64 x3),(.ag (Val.cells x4)),(.ag (Val.cells x5))]) (blockK 1 (blockK 0 db_small.k1))
noncomputable def db_small.j5 (x0:Bool) (x1:List UInt8) (x2:Int) (x3:Int) (x4:Val) (x5:Val):Option (List TV):=evO _ db_small.E db_small.m1 (headT [4,6,7,174,175,176,1212,1213] [.pt,.pt,(.b x0),(.sl .bs x1),(.i .i64 x2),(.i .i64 x3),(.ag (Val.cells x4)),(.ag (Val.cells x5))]) db_small.k2
noncomputable def db_small.j6 (x0:Bool) (x1:Bool) (x2:Itv) (x3:Val) (x4:Val):Option (List TV):=evO _ db_small.E db_small.m3 (headT [3,4,6,7,198,1211,1212,1213] [.pt,.pt,.pt,(.b x0),(.b x1),(.ag (Itv.cells x2)),(.ag (Val.cells x3)),(.ag (Val.cells x4))]) (blockK 0 db_small.k1)
theorem db_small.j1_eq (x0:Bool) (x1:Val) (x2:Val):db_small.j1 x0 x1 x2=some [(.ag (Val.cells x2)),(.b x0)]:=((congrFun (congrFun (ev_eq _ _) _) _).trans (by kernel_rfl))
theorem db_small.j2_in (x0:Bool) (x1:Int) (x2:Bool) (x3:Itv) (x4:Val) (x5:Val) {ρ:Option (List TV)} (K:∀(v1:Int) (h1:v1=((Db.number (Itm.of x3)).getD 0)) (v2:Bool) (h2:v2=((Db.number (Itm.of x3)).isSome)) (v3:Bool) (h3:v3=(Db.kinds (Itm.of x3) ((4:Int)) ((4:Int)))) (v4:Str) (h4:v4=(Itm.text (List.getD (Itv.kids x3) ((0:Int)).toNat (STy.dflt .il)))) (v5:Str) (h5:v5=(Itm.text (List.getD (Itv.kids x3) ((1:Int)).toNat (STy.dflt .il)))) (v6:Bool) (h6:v6=(cond v3 (!(decide (0≤Lib.indexByte ((v4++v5)) ((([0]:Str)).getD 0 0)))) false)) (v7:Bool) (h7:v7=(Db.kinds (Itm.of x3) ((4:Int)) ((3:Int)))) (v8:List UInt8) (h8:v8=(Itm.bytes (List.getD (Itv.kids x3) ((1:Int)).toNat (STy.dflt .il)))) (v9:Bool) (h9:v9=(cond v7 (decide (((v8).length:Int)=(12:Int))) false)),cond x2
  (db_small.j1 v2 x4 (Val.mk (Val.kind x5) (UInt64.ofInt v1) (Val.high x5) (Val.low x5) (Val.text x5) (Val.more x5) (Val.sub x5) (Val.bytes x5) (Val.kids x5)))
  (cond (decide (x1=(11:Int)))
  (ck (!v3 || v3) (ck (!v3 || (v3&&(idxOK (0:Int) ((Itv.kids x3)).length))) (ck (!v3 || v3) (ck (!v3 || v3) (ck (!v3 || v3) (ck (!v3 || (v3&&(idxOK (1:Int) ((Itv.kids x3)).length))) (ck (!v3 || v3) (ck (!v3 || v3) (ck (!v3 || ((v3&&v3)&&(decide ((v4).length+(v5).length≤9223372036854775807)))) (ck (!v3 || (v3&&(decide ((([0]:Str)).length=1)))) (ck (!v3 || v3) (ck (!v3 || v3) (cond v6
  (ck (idxOK (0:Int) ((Itv.kids x3)).length) (ck (idxOK (1:Int) ((Itv.kids x3)).length) (db_small.j1 v6 x4 (Val.mk (Val.kind x5) (Val.bits x5) (Val.high x5) (Val.low x5) v4 v5 (Val.sub x5) (Val.bytes x5) (Val.kids x5)))))
  (db_small.j1 v6 x4 x5))))))))))))))
  (cond (decide (x1=(12:Int)))
  (ck (!v7 || v7) (ck (!v7 || (v7&&(idxOK (1:Int) ((Itv.kids x3)).length))) (ck (!v7 || v7) (ck (!v7 || v7) (ck (!v7 || v7) (ck (!v7 || v7) (ck (!v7 || v7) (cond v9
  (ck (idxOK (0:Int) ((Itv.kids x3)).length) (ck (idxOK (1:Int) ((Itv.kids x3)).length) (ck (apOK (v8).length 1) (db_small.j1 v9 x4 (Val.mk (Val.kind x5) (Val.bits x5) (Val.high x5) (Val.low x5) v4 (Val.more x5) (Val.sub x5) (v8) (Val.kids x5))))))
  (db_small.j1 v9 x4 x5)))))))))
  (cond (decide (x1=(13:Int)))
  (db_small.j3 x0 x1 (decide (x1=(13:Int))) x3 x4 x5)
  (db_small.j3 x0 x1 (decide (x1=(14:Int))) x3 x4 x5))))=ρ):db_small.j2 x0 x1 x2 x3 x4 x5=ρ:=((congrFun (congrFun (ev_eq _ _) _) _).trans (by kernel_rfl)).trans (K _ rfl _ rfl _ rfl _ rfl _ rfl _ rfl _ rfl _ rfl _ rfl)
theorem db_small.j3_in (x0:Bool) (x1:Int) (x2:Bool) (x3:Itv) (x4:Val) (x5:Val) {ρ:Option (List TV)} (K:∀(v1:Int) (h1:v1=(((Itv.bytes x3)).length:Int)) (v2:Bool) (h2:v2=(cond (decide ((Itv.kind x3)=(3:Int))) (decide (v1=(16:Int))) false)),cond x2
  (db_small.j1 (decide ((Itv.kind x3)=(4:Int))) x4 (Val.mk (Val.kind x5) (Val.bits x5) (Val.high x5) (Val.low x5) (Itv.text x3) (Val.more x5) (Val.sub x5) (Val.bytes x5) (Val.kids x5)))
  (cond (decide (x1=(17:Int)))
  (db_small.j1 (decide ((Itv.kind x3)=(1:Int))) x4 (Val.mk (Val.kind x5) (Itv.n x3) (Val.high x5) (Val.low x5) (Val.text x5) (Val.more x5) (Val.sub x5) (Val.bytes x5) (Val.kids x5)))
  (cond (decide (x1=(19:Int)))
  (ck (!(decide ((Itv.kind x3)=(3:Int))) || (decide ((Itv.kind x3)=(3:Int)))) (ck (!(decide ((Itv.kind x3)=(3:Int))) || (decide ((Itv.kind x3)=(3:Int)))) (ck (!(decide ((Itv.kind x3)=(3:Int))) || (decide ((Itv.kind x3)=(3:Int)))) (ck (!(decide ((Itv.kind x3)=(3:Int))) || (decide ((Itv.kind x3)=(3:Int)))) (cond v2
  (db_small.l4 v2 (Itv.bytes x3) v1 (0:Int) x4 x5)
  (db_small.j1 v2 x4 x5))))))
  (cond (decide (x1=(255:Int)))
  (db_small.j6 x0 (decide (x1=(255:Int))) x3 x4 x5)
  (db_small.j6 x0 (decide (x1=(127:Int))) x3 x4 x5))))=ρ):db_small.j3 x0 x1 x2 x3 x4 x5=ρ:=((congrFun (congrFun (ev_eq _ _) _) _).trans (by kernel_rfl)).trans (K _ rfl _ rfl)
theorem db_small.l4_in (x0:Bool) (x1:List UInt8) (x2:Int) (x3:Int) (x4:Val) (x5:Val) {ρ:Option (List TV)} (K:∀(v1:UInt8) (h1:v1=(List.getD x1 (x3).toNat (0:UInt8))) (v2:UInt64) (h2:v2=(shl64 (Val.high x5) (((8:UInt64)).toNat))) (v3:UInt64) (h3:v3=(UInt64.ofInt ((v1).toNat:Int))) (v4:UInt64) (h4:v4=(shl64 (Val.low x5) (((8:UInt64)).toNat))),cond (decide (x3<x2))
  (ck (idxOK x3 (x1).length) (cond (decide (x3<(8:Int)))
  (db_small.j5 x0 x1 x2 x3 x4 (Val.mk (Val.kind x5) (Val.bits x5) (v2 ||| v3) (Val.low x5) (Val.text x5) (Val.more x5) (Val.sub x5) (Val.bytes x5) (Val.kids x5)))
  (db_small.j5 x0 x1 x2 x3 x4 (Val.mk (Val.kind x5) (Val.bits x5) (Val.high x5) (v4 ||| v3) (Val.text x5) (Val.more x5) (Val.sub x5) (Val.bytes x5) (Val.kids x5)))))
  (db_small.j1 x0 x4 x5)=ρ):db_small.l4 x0 x1 x2 x3 x4 x5=ρ:=((ev_loop _ _ _ _ _ _).trans (by kernel_rfl)).trans (K _ rfl _ rfl _ rfl _ rfl)
theorem db_small.j5_in (x0:Bool) (x1:List UInt8) (x2:Int) (x3:Int) (x4:Val) (x5:Val) {ρ:Option (List TV)} (K:∀(v1:Int) (h1:v1=(IntKind.i64.wrap (x3+(1:Int)))),db_small.l4 x0 x1 x2 v1 x4 x5=ρ):db_small.j5 x0 x1 x2 x3 x4 x5=ρ:=((congrFun (congrFun (ev_eq _ _) _) _).trans (by kernel_rfl)).trans (K _ rfl)
theorem db_small.j6_in (x0:Bool) (x1:Bool) (x2:Itv) (x3:Val) (x4:Val) {ρ:Option (List TV)} (K:∀(v1:Bool) (h1:v1=(cond (decide ((Itv.kind x2)=(8:Int))) (decide ((Itv.n x2)=(22:UInt64))) false)),cond x1
  (ck (!(decide ((Itv.kind x2)=(8:Int))) || (decide ((Itv.kind x2)=(8:Int)))) (ck (!(decide ((Itv.kind x2)=(8:Int))) || (decide ((Itv.kind x2)=(8:Int)))) (ck (!(decide ((Itv.kind x2)=(8:Int))) || (decide ((Itv.kind x2)=(8:Int)))) (db_small.j1 v1 x3 x4))))
  (db_small.j1 x0 x3 x4)=ρ):db_small.j6 x0 x1 x2 x3 x4=ρ:=((congrFun (congrFun (ev_eq _ _) _) _).trans (by kernel_rfl)).trans (K _ rfl)
theorem db_small.F_in (n:UInt64) (it:Itv) {ρ:Option (List TV)} (K:∀(v1:Bool) (h1:v1=(cond (decide (n<(1000:UInt64))) true (decide ((1255:UInt64)<n)))) (v2:Int) (h2:v2=(IntKind.i64.wrap (((n - (1000:UInt64))).toNat:Int))) (v3:Bool) (h3:v3=(Db.kinds (Itm.of it) ((1:Int)) ((3:Int)))) (v4:UInt64) (h4:v4=(Itm.n (List.getD (Itv.kids it) ((0:Int)).toNat (STy.dflt .il)))) (v5:Bool) (h5:v5=(cond v3 (decide ((1:UInt64)≤v4)) false)) (v6:Bool) (h6:v6=(cond v5 (decide (v4≤(255:UInt64))) false)) (v7:Int) (h7:v7=(IntKind.i64.wrap ((v4).toNat:Int))) (v8:List UInt8) (h8:v8=(Itm.bytes (List.getD (Itv.kids it) ((1:Int)).toNat (STy.dflt .il)))) (v9:Int) (h9:v9=(((Itv.bytes it)).length:Int)) (v10:Bool) (h10:v10=(cond (decide ((Itv.kind it)=(3:Int))) (decide (v9=(12:Int))) false)),ck (!(!(decide (n<(1000:UInt64)))) || (!(decide (n<(1000:UInt64))))) (ck ((decide (n<(1000:UInt64))) || (!(decide (n<(1000:UInt64))))) (cond v1
  (some [(.ag [(.i .i64 (0:Int)),(.u64 (0:UInt64)),(.u64 (0:UInt64)),(.u64 (0:UInt64)),(.s ([]:Str)),(.s ([]:Str)),(.i .i64 (0:Int)),(.sl .bs ([]:List UInt8)),(.sl .fl ([]:List Fld))]),(.b false)])
  (cond (decide (v2=(5:Int)))
  (ck (!v3 || v3) (ck (!v3 || (v3&&(idxOK (0:Int) ((Itv.kids it)).length))) (ck (!v3 || v3) (ck (!v3 || v3) (ck (!v3 || v3) (ck (!v3 || v3) (ck (!v5 || v5) (ck (!v5 || (v5&&(idxOK (0:Int) ((Itv.kids it)).length))) (ck (!v5 || v5) (ck (!v5 || v5) (ck (!v5 || v5) (ck (!v5 || v5) (cond v6
  (ck (idxOK (0:Int) ((Itv.kids it)).length) (ck (idxOK (1:Int) ((Itv.kids it)).length) (ck (apOK (v8).length 1) (db_small.j1 v6 (Val.mk (0:Int) (0:UInt64) (0:UInt64) (0:UInt64) ([]:Str) ([]:Str) (0:Int) ([]:List UInt8) ([]:List Fld)) (Val.mk v2 (0:UInt64) (0:UInt64) (0:UInt64) ([]:Str) ([]:Str) v7 (v8) ([]:List Fld))))))
  (db_small.j1 v6 (Val.mk (0:Int) (0:UInt64) (0:UInt64) (0:UInt64) ([]:Str) ([]:Str) (0:Int) ([]:List UInt8) ([]:List Fld)) (Val.mk v2 (0:UInt64) (0:UInt64) (0:UInt64) ([]:Str) ([]:Str) (0:Int) ([]:List UInt8) ([]:List Fld))))))))))))))))
  (cond (decide (v2=(7:Int)))
  (ck (!(decide ((Itv.kind it)=(3:Int))) || (decide ((Itv.kind it)=(3:Int)))) (ck (!(decide ((Itv.kind it)=(3:Int))) || (decide ((Itv.kind it)=(3:Int)))) (ck (!(decide ((Itv.kind it)=(3:Int))) || (decide ((Itv.kind it)=(3:Int)))) (ck (!(decide ((Itv.kind it)=(3:Int))) || (decide ((Itv.kind it)=(3:Int)))) (ck (apOK (((Itv.bytes it))).length 1) (db_small.j1 v10 (Val.mk (0:Int) (0:UInt64) (0:UInt64) (0:UInt64) ([]:Str) ([]:Str) (0:Int) ([]:List UInt8) ([]:List Fld)) (Val.mk v2 (0:UInt64) (0:UInt64) (0:UInt64) ([]:Str) ([]:Str) (0:Int) (((Itv.bytes it))) ([]:List Fld))))))))
  (cond (decide (v2=(9:Int)))
  (db_small.j2 false v2 (decide (v2=(9:Int))) it (Val.mk (0:Int) (0:UInt64) (0:UInt64) (0:UInt64) ([]:Str) ([]:Str) (0:Int) ([]:List UInt8) ([]:List Fld)) (Val.mk v2 (0:UInt64) (0:UInt64) (0:UInt64) ([]:Str) ([]:Str) (0:Int) ([]:List UInt8) ([]:List Fld)))
  (db_small.j2 false v2 (decide (v2=(18:Int))) it (Val.mk (0:Int) (0:UInt64) (0:UInt64) (0:UInt64) ([]:Str) ([]:Str) (0:Int) ([]:List UInt8) ([]:List Fld)) (Val.mk v2 (0:UInt64) (0:UInt64) (0:UInt64) ([]:Str) ([]:Str) (0:Int) ([]:List UInt8) ([]:List Fld))))))))=ρ):db_small.F n it=ρ:=Eq.trans (by kernel_rfl) (K _ rfl _ rfl _ rfl _ rfl _ rfl _ rfl _ rfl _ rfl _ rfl _ rfl)
theorem db_small.chk:((Go.Proofs.Tryd.prog.funcs[89]?).any fun fn=>chkF Go.Proofs.Tryd.prog (fun k=>((envL trydbGl db_small.env).fs k).2) fn db_small.d.erase)=true:=by kernel_rfl
end
noncomputable section
def db_with.env (n:Nat):List (Nat × (Ctr × FSig)):=[(27,(db_none.c,db_none.sg)),(43,(st_Contains.c,st_Contains.sg)),(44,(db_value.cn n,db_value.sg))]
def db_with.E (n:Nat):TEnv:=envL trydbGl (db_with.env n)
def db_with.m1:TM := .seq (.seq (.reg [
  ⟨.k .mv,[.s 8],[11],none⟩,
  ⟨.k .mv,[.s 1],[12],none⟩,
  ⟨.k .len,[.s 12],[13],none⟩,
  ⟨.k (.bin .lss),[.s 11,.s 13],[14],none⟩]) none (.cond (.s 14) [] .skip (.exit 0))) none (.seq (.block 1 [(2,.tip 999999 1),(3,.ptr 1070 0),(6,.ptr 1071 0),(7,.ptr 1072 0),(1070,.cl [(8,117,10)]),(1071,.cl []),(1072,.cl []),(lk 117,.live 10),(lk 999999,.pv 1)] (.seq (.seq (.reg [
  ⟨.k .mv,[.s 1],[17],none⟩,
  ⟨.k .mv,[.s 8],[18],none⟩,
  ⟨.k (.ix 5),[.s 17,.s 18],[19],none⟩,
  ⟨.k (.fr 0 1 false),[.s 19],[20],none⟩,
  ⟨.k (.lr 1 false),[.s 20],[21],none⟩,
  ⟨.k (.bin .neq),[.s 21,.c (.i .i64 (4:Int))],[22],none⟩,
  ⟨.k .mv,[.s 22],[23],none⟩,
  ⟨.k .mv,[.s 1],[24],some (23,false)⟩,
  ⟨.k .mv,[.s 8],[25],some (23,false)⟩,
  ⟨.k (.ix 5),[.s 24,.s 25],[26],some (23,false)⟩,
  ⟨.k (.fr 3 1 false),[.s 26],[27],some (23,false)⟩,
  ⟨.k (.lr 1 false),[.s 27],[28],some (23,false)⟩,
  ⟨.k (.call 43 (.plain 2 1)),[.s 28,.c (.s ([0]:Str))],[29],some (23,false)⟩,
  ⟨.k .pick,[.s 23,.c (.b true),.s 29],[30],none⟩]) none (.cond (.s 30) [] (.seq (.reg [
  ⟨.bd [(.i .i64 (0:Int)),(.u64 (0:UInt64)),(.u64 (0:UInt64)),(.u64 (0:UInt64)),(.s ([]:Str)),(.s ([]:Str)),(.i .i64 (0:Int)),(.sl .bs ([]:List UInt8)),(.sl .fl ([]:List Fld))] [],[],[31],none⟩,
  ⟨.k .mv,[.s 2],[32],none⟩,
  ⟨.k .mv,[.s 8],[33],none⟩,
  ⟨.bl .is 1,[.s 33],[34],none⟩,
  ⟨.k (.ppa 999999 106 1 8),[.s 32,.s 34,.s (lk 999999),.s (lk 106)],[35,lk 999999,lk 106],none⟩,
  ⟨.k (.pcall 27 1 1 0 106 1),[.s 35,.s (lk 106)],[36],none⟩,
  ⟨.k (.st 1071 0 9),[.s 6,.s 1071,.s 31],[1071],none⟩,
  ⟨.k (.st 1072 0 3),[.s 7,.s 1072,.s 36],[1072],none⟩]) none .ret) .skip)) none (.seq (.reg [
  ⟨.k .mv,[.s 1],[38],none⟩,
  ⟨.k .mv,[.s 8],[39],none⟩,
  ⟨.k (.bin .add),[.s 39,.c (.i .i64 (1:Int))],[40],none⟩,
  ⟨.k (.ix 5),[.s 38,.s 40],[41],none⟩,
  ⟨.k (.lr 5 true),[.s 41],[42],none⟩,
  ⟨.k .mv,[.s 2],[43],none⟩,
  ⟨.k .mv,[.s 8],[44],none⟩,
  ⟨.k (.bin .add),[.s 44,.c (.i .i64 (1:Int))],[45],none⟩,
  ⟨.bl .is 1,[.s 45],[46],none⟩,
  ⟨.k (.ppa 999999 110 1 8),[.s 43,.s 46,.s (lk 999999),.s (lk 110)],[47,lk 999999,lk 110],none⟩,
  ⟨.k (.pcall 44 2 2 1 110 1),[.s 42,.s 47,.s (lk 110)],[48],none⟩,
  ⟨.k .mv,[.s 48],[37],none⟩,
  ⟨.k (.ex 0),[.s 37],[49],none⟩,
  ⟨.k (.ex 1),[.s 37],[50],none⟩,
  ⟨.al 1073 [(.i .i64 (0:Int)),(.u64 (0:UInt64)),(.u64 (0:UInt64)),(.u64 (0:UInt64)),(.s ([]:Str)),(.s ([]:Str)),(.i .i64 (0:Int)),(.sl .bs ([]:List UInt8)),(.sl .fl ([]:List Fld))] [],[.s 1073],[9,1073],none⟩,
  ⟨.al 1074 [(.i .i64 (0:Int)),(.i .i64 (0:Int)),(.sl .is ([]:List Int))] [],[.s 1074],[10,1074],none⟩,
  ⟨.k (.st 1073 0 9),[.s 9,.s 1073,.s 49],[1073],none⟩,
  ⟨.k (.st 1074 0 3),[.s 10,.s 1074,.s 50],[1074],none⟩]) none (.seq (.seq (.reg [
  ⟨.k (.fa 1074 0 0),[.s 10],[51],none⟩,
  ⟨.k (.ld 1074 0 1 false),[.s 51,.s 1074],[52],none⟩,
  ⟨.k (.bin .neq),[.s 52,.c (.i .i64 (0:Int))],[53],none⟩]) none (.cond (.s 53) [] (.seq (.reg [
  ⟨.bd [(.i .i64 (0:Int)),(.u64 (0:UInt64)),(.u64 (0:UInt64)),(.u64 (0:UInt64)),(.s ([]:Str)),(.s ([]:Str)),(.i .i64 (0:Int)),(.sl .bs ([]:List UInt8)),(.sl .fl ([]:List Fld))] [],[],[54],none⟩,
  ⟨.k (.ld 1074 0 3 true),[.s 10,.s 1074],[55],none⟩,
  ⟨.k (.st 1071 0 9),[.s 6,.s 1071,.s 54],[1071],none⟩,
  ⟨.k (.st 1072 0 3),[.s 7,.s 1072,.s 55],[1072],none⟩]) none .ret) .skip)) none (.reg [
  ⟨.k (.fa 1070 0 8),[.s 3],[56],none⟩,
  ⟨.k (.ld 1070 8 1 false),[.s 56,.s 1070],[57],none⟩,
  ⟨.k .mv,[.s 1],[58],none⟩,
  ⟨.k .mv,[.s 8],[59],none⟩,
  ⟨.k (.ix 5),[.s 58,.s 59],[60],none⟩,
  ⟨.k (.fr 3 1 false),[.s 60],[61],none⟩,
  ⟨.k (.lr 1 false),[.s 61],[62],none⟩,
  ⟨.k (.ld 1073 0 9 true),[.s 9,.s 1073],[63],none⟩,
  ⟨.bd [(.s ([]:Str)),(.i .i64 (0:Int)),(.u64 (0:UInt64)),(.u64 (0:UInt64)),(.u64 (0:UInt64)),(.s ([]:Str)),(.s ([]:Str)),(.i .i64 (0:Int)),(.sl .bs ([]:List UInt8)),(.sl .fl ([]:List Fld))] [(0,1),(1,9)],[.s 62,.s 63],[64],none⟩,
  ⟨.bl .fl 1,[.s 64],[65],none⟩,
  ⟨.k (.ap 101 117 10 136),[.s 57,.s 65,.s (lk 101),.s (lk 117)],[66,lk 101,lk 117],none⟩,
  ⟨.k (.fa 1070 0 8),[.s 3],[67],none⟩,
  ⟨.k (.st 1070 8 1),[.s 67,.s 1070,.s 66],[1070],none⟩]))))) none (.reg [
  ⟨.k .mv,[.s 8],[15],none⟩,
  ⟨.k (.bin .add),[.s 15,.c (.i .i64 (2:Int))],[16],none⟩,
  ⟨.k .mv,[.s 16],[8],none⟩]))
def db_with.m:TM := .seq (.reg [
  ⟨.bxt 1070 [(8,101,.fl)],[.s 0,.s 1070,.s (lk 101)],[3,1070,lk 101],none⟩,
  ⟨.al 1071 [(.i .i64 (0:Int)),(.u64 (0:UInt64)),(.u64 (0:UInt64)),(.u64 (0:UInt64)),(.s ([]:Str)),(.s ([]:Str)),(.i .i64 (0:Int)),(.sl .bs ([]:List UInt8)),(.sl .fl ([]:List Fld))] [],[.s 1071],[6,1071],none⟩,
  ⟨.al 1072 [(.i .i64 (0:Int)),(.i .i64 (0:Int)),(.sl .is ([]:List Int))] [],[.s 1072],[7,1072],none⟩]) none (.seq (.seq (.reg [
  ⟨.k .mv,[.c (.i .i64 (0:Int))],[8],none⟩]) none (.block 0 [(3,.ptr 1070 0),(6,.ptr 1071 0),(7,.ptr 1072 0),(1070,.cl [(8,101,10)]),(1071,.cl []),(1072,.cl []),(lk 101,.live 10),(lk 999999,.pv 1)] (.loop [1,2,3,6,7,8,1070,1071,1072,lk 999999] [(2,.tip 999999 1),(3,.ptr 1070 0),(6,.ptr 1071 0),(7,.ptr 1072 0),(1070,.cl [(8,101,10)]),(1071,.cl []),(1072,.cl []),(lk 101,.live 10),(lk 999999,.pv 1)] db_with.m1))) none (.seq (.reg [
  ⟨.k (.ld 1070 0 9 true),[.s 3,.s 1070],[68],none⟩,
  ⟨.bd [(.i .i64 (0:Int)),(.i .i64 (0:Int)),(.sl .is ([]:List Int))] [],[],[69],none⟩,
  ⟨.stt 1071 0 9 [(7,118,.bs)],[.s 6,.s 1071,.s 68,.s (lk 118)],[1071,lk 118],none⟩,
  ⟨.k (.st 1072 0 3),[.s 7,.s 1072,.s 69],[1072],none⟩]) none .ret))
def db_with.d:TFD:={ np:=3,m:=db_with.m,ref:=none,tips:=[],res:=[.c 6 1071 9 true,.c 7 1072 3 true],own:=[],new:=none,tnew:=[],ps:=some (2,999999,1) }
noncomputable def db_with.F (n:Nat) (v:Val) (l:List Itm) (path:List Int):Option (List TV):=db_with.d.run (db_with.E n) [(.ag [(.i .i64 (Val.kind v)),(.u64 (Val.bits v)),(.u64 (Val.high v)),(.u64 (Val.low v)),(.s (Val.text v)),(.s (Val.more v)),(.i .i64 (Val.sub v)),(.c (.slice none 0 0)),(.c (.slice none 0 0))]),(.sl .il l),(.sl .is path)]
noncomputable def db_with.k1 (n:Nat):Cont (List TV):=seqK (ev _ (db_with.E n) (.seq (.reg [
  ⟨.k (.ld 1070 0 9 true),[.s 3,.s 1070],[68],none⟩,
  ⟨.bd [(.i .i64 (0:Int)),(.i .i64 (0:Int)),(.sl .is ([]:List Int))] [],[],[69],none⟩,
  ⟨.stt 1071 0 9 [(7,118,.bs)],[.s 6,.s 1071,.s 68,.s (lk 118)],[1071,lk 118],none⟩,
  ⟨.k (.st 1072 0 3),[.s 7,.s 1072,.s 69],[1072],none⟩]) none .ret)) none (endK db_with.d)
noncomputable def db_with.l1 (n:Nat) (x0:List Itm) (x1:Int) (x2:Int) (x3:UInt64) (x4:UInt64) (x5:UInt64) (x6:Str) (x7:Str) (x8:Int) (x9:List Fld) (x10:Val) (x11:Flt) (x12:List Int):Option (List TV):=loopL (evO _ (db_with.E n) db_with.m1) isN [1,2,3,6,7,8,1070,1071,1072,lk 999999] (headT [1,2,3,6,7,8,1070,1071,1072,lk 999999] [(.sl .il x0),.pt,.pt,.pt,.pt,(.i .i64 x1),(.ag [(.i .i64 x2),(.u64 x3),(.u64 x4),(.u64 x5),(.s x6),(.s x7),(.i .i64 x8),(.c (.slice none 0 0)),(.sl .fl x9)]),(.ag (Val.cells x10)),(.ag (Flt.cells x11)),(.sl .is x12)]) (blockK 0 (db_with.k1 n))
theorem db_with.l1_in (n:Nat) (x0:List Itm) (x1:Int) (x2:Int) (x3:UInt64) (x4:UInt64) (x5:UInt64) (x6:Str) (x7:Str) (x8:Int) (x9:List Fld) (x10:Val) (x11:Flt) (x12:List Int) {ρ:Option (List TV)} (K:∀(v1:Int) (h1:v1=(Itm.kind (List.getD x0 (x1).toNat (STy.dflt .il)))) (v2:Bool) (h2:v2=(!(!decide (v1=(4:Int))))) (v3:Str) (h3:v3=(Itm.text (List.getD x0 (x1).toNat (STy.dflt .il)))) (v4:Bool) (h4:v4=(cond (!decide (v1=(4:Int))) true (decide (0≤Lib.indexByte v3 ((([0]:Str)).getD 0 0))))) (v5:Flt) (h5:v5=((Flt.mk 12 0 ((x12++([x1]:List Int)))))) (v6:Int) (h6:v6=(IntKind.i64.wrap (x1+(1:Int)))) (v7:Val) (h7:v7=(Db.Got.val (Db.value (Itm.of (Itm.val (List.getD x0 (v6).toNat (STy.dflt .il)))) ((x12++([v6]:List Int)))))) (v8:Flt) (h8:v8=(Db.Got.flt (Db.value (Itm.of (Itm.val (List.getD x0 (v6).toNat (STy.dflt .il)))) ((x12++([v6]:List Int)))))) (v9:List Fld) (h9:v9=([(Fld.mk v3 (Val.kind v7) (Val.bits v7) (Val.high v7) (Val.low v7) (Val.text v7) (Val.more v7) (Val.sub v7) (Val.bytes v7) (Val.kids v7))]:List Fld)) (v10:Int) (h10:v10=(IntKind.i64.wrap (x1+(2:Int)))),cond (decide (x1<((x0).length:Int)))
  (ck (idxOK x1 (x0).length) (ck (!v2 || ((v2&&v2)&&(idxOK x1 (x0).length))) (ck (!v2 || v2) (ck (!v2 || v2) (ck (!v2 || (v2&&(decide ((([0]:Str)).length=1)))) (ck ((!decide (v1=(4:Int))) || v2) (cond v4
  (ck (apOK ((x12).length+(([x1]:List Int)).length) 8) (ck (decide ((((x12++([x1]:List Int)))).length≤1099511627776)) (some [(.ag [(.i .i64 (0:Int)),(.u64 (0:UInt64)),(.u64 (0:UInt64)),(.u64 (0:UInt64)),(.s ([]:Str)),(.s ([]:Str)),(.i .i64 (0:Int)),(.sl .bs ([]:List UInt8)),(.sl .fl ([]:List Fld))]),(.ag (Flt.cells v5)),(.sl .is x12)])))
  (ck (idxOK v6 (x0).length) (ck (apOK ((x12).length+(([v6]:List Int)).length) 8) (ck ((decide (Itm.bulk (Itm.of (Itm.val (List.getD x0 (v6).toNat (STy.dflt .il))))+(((x12++([v6]:List Int)))).length≤1073741824)&&decide (Cb.chk (Itm.of (Itm.val (List.getD x0 (v6).toNat (STy.dflt .il))))=0))&&decide ((2 * Itm.bulk (Itm.of (Itm.val (List.getD x0 (v6).toNat (STy.dflt .il))))+1)<n)) (cond (!decide ((Flt.err v8)=(0:Int)))
  (some [(.ag [(.i .i64 (0:Int)),(.u64 (0:UInt64)),(.u64 (0:UInt64)),(.u64 (0:UInt64)),(.s ([]:Str)),(.s ([]:Str)),(.i .i64 (0:Int)),(.sl .bs ([]:List UInt8)),(.sl .fl ([]:List Fld))]),(.ag (Flt.cells v8)),(.sl .is x12)])
  (ck (idxOK x1 (x0).length) (ck (apOK ((x9).length+(v9).length) 136) (db_with.l1 n x0 v10 x2 x3 x4 x5 x6 x7 x8 (x9++v9) x10 x11 x12))))))))))))))
  (some [(.ag [(.i .i64 x2),(.u64 x3),(.u64 x4),(.u64 x5),(.s x6),(.s x7),(.i .i64 x8),(.sl .bs ([]:List UInt8)),(.sl .fl x9)]),(.ag [(.i .i64 (0:Int)),(.i .i64 (0:Int)),(.sl .is ([]:List Int))]),(.sl .is x12)])=ρ):db_with.l1 n x0 x1 x2 x3 x4 x5 x6 x7 x8 x9 x10 x11 x12=ρ:=((ev_loop _ _ _ _ _ _).trans (by kernel_rfl)).trans (K _ rfl _ rfl _ rfl _ rfl _ rfl _ rfl _ rfl _ rfl _ rfl _ rfl)
theorem db_with.F_eq (n:Nat) (v:Val) (l:List Itm) (path:List Int):db_with.F n v l path=db_with.l1 n l (0:Int) (Val.kind v) (Val.bits v) (Val.high v) (Val.low v) (Val.text v) (Val.more v) (Val.sub v) ([]:List Fld) (Val.mk (0:Int) (0:UInt64) (0:UInt64) (0:UInt64) ([]:Str) ([]:Str) (0:Int) ([]:List UInt8) ([]:List Fld)) (Flt.mk (0:Int) (0:Int) ([]:List Int)) path:=by kernel_rfl
theorem db_with.chk (n:Nat):((Go.Proofs.Tryd.prog.funcs[28]?).any fun fn=>chkF Go.Proofs.Tryd.prog (fun k=>((envL trydbGl (db_with.env n)).fs k).2) fn db_with.d.erase)=true:=by kernel_rfl
end
noncomputable section
def db_value.env (n:Nat):List (Nat × (Ctr × FSig)):=[(27,(db_none.c,db_none.sg)),(28,(db_with.cn n,db_with.sg)),(44,(db_value.cn n,db_value.sg)),(69,(clone_bs.c,clone_bs.sg)),(70,(db_number.c,db_number.sg)),(71,(sc_Itoa.c,sc_Itoa.sg)),(72,(db_tag.cn n,db_tag.sg))]
def db_value.E (n:Nat):TEnv:=envL trydbGl (db_value.env n)
def db_value.m1:TM := .seq (.reg [
  ⟨.k (.bin .lss),[.s 82,.s 81],[83],none⟩]) none (.seq (.cond (.s 83) [] .skip (.exit 1)) none (.seq (.block 2 [(1,.tip 999999 1),(4,.ptr 1124 0),(5,.ptr 1125 0),(8,.ptr 1126 0),(1124,.cl []),(1125,.cl []),(1126,.cl [(8,130,10)]),(lk 130,.live 10),(lk 999999,.pv 1)] (.seq (.reg [
  ⟨.k .mv,[.s 82],[84],none⟩,
  ⟨.k (.ix 5),[.s 80,.s 82],[85],none⟩,
  ⟨.k (.lr 5 true),[.s 85],[86],none⟩,
  ⟨.al 1127 [(.i .i64 (0:Int)),(.u64 (0:UInt64)),(.sl .bs ([]:List UInt8)),(.s ([]:Str)),(.sl .il ([]:List Itm))] [],[.s 1127],[10,1127],none⟩,
  ⟨.k .mv,[.s 84],[9],none⟩,
  ⟨.k (.st 1127 0 5),[.s 10,.s 1127,.s 86],[1127],none⟩]) none (.seq (.reg [
  ⟨.k (.ld 1127 0 5 true),[.s 10,.s 1127],[88],none⟩,
  ⟨.k .mv,[.s 1],[89],none⟩,
  ⟨.k .mv,[.s 9],[90],none⟩,
  ⟨.bl .is 1,[.s 90],[91],none⟩,
  ⟨.k (.ppa 999999 123 1 8),[.s 89,.s 91,.s (lk 999999),.s (lk 123)],[92,lk 999999,lk 123],none⟩,
  ⟨.k (.pcall 44 2 2 1 123 1),[.s 88,.s 92,.s (lk 123)],[93],none⟩,
  ⟨.k .mv,[.s 93],[87],none⟩,
  ⟨.k (.ex 0),[.s 87],[94],none⟩,
  ⟨.k (.ex 1),[.s 87],[95],none⟩,
  ⟨.al 1128 [(.i .i64 (0:Int)),(.u64 (0:UInt64)),(.u64 (0:UInt64)),(.u64 (0:UInt64)),(.s ([]:Str)),(.s ([]:Str)),(.i .i64 (0:Int)),(.sl .bs ([]:List UInt8)),(.sl .fl ([]:List Fld))] [],[.s 1128],[11,1128],none⟩,
  ⟨.al 1129 [(.i .i64 (0:Int)),(.i .i64 (0:Int)),(.sl .is ([]:List Int))] [],[.s 1129],[12,1129],none⟩,
  ⟨.k (.st 1128 0 9),[.s 11,.s 1128,.s 94],[1128],none⟩,
  ⟨.k (.st 1129 0 3),[.s 12,.s 1129,.s 95],[1129],none⟩]) none (.seq (.seq (.reg [
  ⟨.k (.fa 1129 0 0),[.s 12],[96],none⟩,
  ⟨.k (.ld 1129 0 1 false),[.s 96,.s 1129],[97],none⟩,
  ⟨.k (.bin .neq),[.s 97,.c (.i .i64 (0:Int))],[98],none⟩]) none (.cond (.s 98) [] (.seq (.reg [
  ⟨.bd [(.i .i64 (0:Int)),(.u64 (0:UInt64)),(.u64 (0:UInt64)),(.u64 (0:UInt64)),(.s ([]:Str)),(.s ([]:Str)),(.i .i64 (0:Int)),(.sl .bs ([]:List UInt8)),(.sl .fl ([]:List Fld))] [],[],[99],none⟩,
  ⟨.k (.ld 1129 0 3 true),[.s 12,.s 1129],[100],none⟩,
  ⟨.k (.st 1124 0 9),[.s 4,.s 1124,.s 99],[1124],none⟩,
  ⟨.k (.st 1125 0 3),[.s 5,.s 1125,.s 100],[1125],none⟩]) none .ret) .skip)) none (.reg [
  ⟨.k (.fa 1126 0 8),[.s 8],[101],none⟩,
  ⟨.k (.ld 1126 8 1 false),[.s 101,.s 1126],[102],none⟩,
  ⟨.k .mv,[.s 9],[103],none⟩,
  ⟨.k (.call 71 (.plain 1 1)),[.s 103],[104],none⟩,
  ⟨.k (.ld 1128 0 9 true),[.s 11,.s 1128],[105],none⟩,
  ⟨.bd [(.s ([]:Str)),(.i .i64 (0:Int)),(.u64 (0:UInt64)),(.u64 (0:UInt64)),(.u64 (0:UInt64)),(.s ([]:Str)),(.s ([]:Str)),(.i .i64 (0:Int)),(.sl .bs ([]:List UInt8)),(.sl .fl ([]:List Fld))] [(0,1),(1,9)],[.s 104,.s 105],[106],none⟩,
  ⟨.bl .fl 1,[.s 106],[107],none⟩,
  ⟨.k (.ap 119 130 10 136),[.s 102,.s 107,.s (lk 119),.s (lk 130)],[108,lk 119,lk 130],none⟩,
  ⟨.k (.fa 1126 0 8),[.s 8],[109],none⟩,
  ⟨.k (.st 1126 8 1),[.s 109,.s 1126,.s 108],[1126],none⟩]))))) none (.reg [
  ⟨.k (.bin .add),[.s 82,.c (.i .i64 (1:Int))],[110],none⟩,
  ⟨.k .mv,[.s 110],[82],none⟩])))
def db_value.m2:TM := .cond (.s 46) [(1,.tip 999999 1),(4,.ptr 1124 0),(5,.ptr 1125 0),(1124,.cl []),(1125,.cl []),(lk 999999,.pv 1)] (.seq (.reg [
  ⟨.k (.ld 1123 0 5 true),[.s 2,.s 1123],[50],none⟩,
  ⟨.k (.call 70 (.plain 1 2)),[.s 50],[51],none⟩,
  ⟨.k .mv,[.s 51],[49],none⟩,
  ⟨.k (.ex 0),[.s 49],[52],none⟩,
  ⟨.k (.ex 1),[.s 49],[53],none⟩,
  ⟨.k .mv,[.s 52],[6],none⟩,
  ⟨.k .mv,[.s 53],[7],none⟩]) none (.seq (.reg [
  ⟨.k .mv,[.s 7],[54],none⟩,
  ⟨.k .mv,[.s 54],[55],none⟩,
  ⟨.k .mv,[.s 6],[56],some (55,true)⟩,
  ⟨.k .mv,[.s 6],[57],some (55,true)⟩,
  ⟨.k (.ci .i32),[.s 57],[58],some (55,true)⟩,
  ⟨.k (.ci .i64),[.s 58],[59],some (55,true)⟩,
  ⟨.k (.bin .eql),[.s 56,.s 59],[60],some (55,true)⟩,
  ⟨.k .pick,[.s 55,.s 60,.c (.b false)],[61],none⟩]) none (.cond (.s 61) [] (.seq (.reg [
  ⟨.k .mv,[.s 6],[62],none⟩,
  ⟨.k (.ci .u32),[.s 62],[63],none⟩,
  ⟨.k (.ci .u64),[.s 63],[64],none⟩,
  ⟨.bd [(.i .i64 (0:Int)),(.u64 (0:UInt64)),(.u64 (0:UInt64)),(.u64 (0:UInt64)),(.s ([]:Str)),(.s ([]:Str)),(.i .i64 (0:Int)),(.sl .bs ([]:List UInt8)),(.sl .fl ([]:List Fld))] [(0,1),(1,1)],[.c (.i .i64 (16:Int)),.s 64],[65],none⟩,
  ⟨.bd [(.i .i64 (0:Int)),(.i .i64 (0:Int)),(.sl .is ([]:List Int))] [],[],[66],none⟩,
  ⟨.k (.st 1124 0 9),[.s 4,.s 1124,.s 65],[1124],none⟩,
  ⟨.k (.st 1125 0 3),[.s 5,.s 1125,.s 66],[1125],none⟩]) none .ret) .skip))) (.seq (.reg [
  ⟨.k (.bin .eql),[.s 14,.c (.i .i64 (6:Int))],[68],none⟩,
  ⟨.k .mv,[.s 68],[67],none⟩]) none (.cond (.s 67) [] (.seq (.reg [
  ⟨.bd [(.i .i64 (0:Int)),(.u64 (0:UInt64)),(.u64 (0:UInt64)),(.u64 (0:UInt64)),(.s ([]:Str)),(.s ([]:Str)),(.i .i64 (0:Int)),(.c (.slice none 0 0)),(.c (.slice none 0 0))] [(0,1)],[.c (.i .i64 (3:Int))],[69],none⟩,
  ⟨.k (.fa 1123 0 4),[.s 2],[70],none⟩,
  ⟨.k (.ld 1123 4 1 false),[.s 70,.s 1123],[71],none⟩,
  ⟨.k .mv,[.s 1],[72],none⟩,
  ⟨.k (.pcall 28 3 2 2 999999 1),[.s 69,.s 71,.s 72,.s (lk 999999)],[73],none⟩,
  ⟨.k (.ex 0),[.s 73],[74],none⟩,
  ⟨.k (.ex 1),[.s 73],[75],none⟩,
  ⟨.k (.st 1124 0 9),[.s 4,.s 1124,.s 74],[1124],none⟩,
  ⟨.k (.st 1125 0 3),[.s 5,.s 1125,.s 75],[1125],none⟩]) none .ret) (.seq (.reg [
  ⟨.k (.bin .eql),[.s 14,.c (.i .i64 (5:Int))],[77],none⟩,
  ⟨.k .mv,[.s 77],[76],none⟩]) none (.cond (.s 76) [] (.seq (.reg [
  ⟨.bd [(.i .i64 (0:Int)),(.u64 (0:UInt64)),(.u64 (0:UInt64)),(.u64 (0:UInt64)),(.s ([]:Str)),(.s ([]:Str)),(.i .i64 (0:Int)),(.c (.slice none 0 0)),(.c (.slice none 0 0))] [(0,1)],[.c (.i .i64 (4:Int))],[78],none⟩,
  ⟨.al 1126 [(.i .i64 (0:Int)),(.u64 (0:UInt64)),(.u64 (0:UInt64)),(.u64 (0:UInt64)),(.s ([]:Str)),(.s ([]:Str)),(.i .i64 (0:Int)),(.sl .bs ([]:List UInt8)),(.sl .fl ([]:List Fld))] [],[.s 1126],[8,1126],none⟩,
  ⟨.stt 1126 0 9 [(8,119,.fl)],[.s 8,.s 1126,.s 78,.s (lk 119)],[1126,lk 119],none⟩]) none (.seq (.seq (.reg [
  ⟨.k (.fa 1123 0 4),[.s 2],[79],none⟩,
  ⟨.k (.ld 1123 4 1 false),[.s 79,.s 1123],[80],none⟩,
  ⟨.k .len,[.s 80],[81],none⟩,
  ⟨.k .mv,[.c (.i .i64 (0:Int))],[82],none⟩]) none (.block 1 [(4,.ptr 1124 0),(5,.ptr 1125 0),(8,.ptr 1126 0),(1124,.cl []),(1125,.cl []),(1126,.cl [(8,119,10)]),(lk 119,.live 10),(lk 999999,.pv 1)] (.loop [1,4,5,8,80,81,82,1124,1125,1126,lk 999999] [(1,.tip 999999 1),(4,.ptr 1124 0),(5,.ptr 1125 0),(8,.ptr 1126 0),(1124,.cl []),(1125,.cl []),(1126,.cl [(8,119,10)]),(lk 119,.live 10),(lk 999999,.pv 1)] db_value.m1))) none (.seq (.reg [
  ⟨.k (.ld 1126 0 9 true),[.s 8,.s 1126],[111],none⟩,
  ⟨.bd [(.i .i64 (0:Int)),(.i .i64 (0:Int)),(.sl .is ([]:List Int))] [],[],[112],none⟩,
  ⟨.stt 1124 0 9 [(7,131,.bs)],[.s 4,.s 1124,.s 111,.s (lk 131)],[1124,lk 131],none⟩,
  ⟨.k (.st 1125 0 3),[.s 5,.s 1125,.s 112],[1125],none⟩]) none .ret))) (.seq (.reg [
  ⟨.k (.bin .eql),[.s 14,.c (.i .i64 (7:Int))],[114],none⟩,
  ⟨.k .mv,[.s 114],[113],none⟩]) none (.cond (.s 113) [] (.seq (.reg [
  ⟨.k (.ld 1123 0 5 true),[.s 2,.s 1123],[115],none⟩,
  ⟨.k .mv,[.s 1],[116],none⟩,
  ⟨.k (.pcall 72 2 2 1 999999 1),[.s 115,.s 116,.s (lk 999999)],[117],none⟩,
  ⟨.k (.ex 0),[.s 117],[118],none⟩,
  ⟨.k (.ex 1),[.s 117],[119],none⟩,
  ⟨.k (.st 1124 0 9),[.s 4,.s 1124,.s 118],[1124],none⟩,
  ⟨.k (.st 1125 0 3),[.s 5,.s 1125,.s 119],[1125],none⟩]) none .ret) .skip))))))
def db_value.m3:TM := .seq (.reg [
  ⟨.bd [(.i .i64 (0:Int)),(.u64 (0:UInt64)),(.u64 (0:UInt64)),(.u64 (0:UInt64)),(.s ([]:Str)),(.s ([]:Str)),(.i .i64 (0:Int)),(.sl .bs ([]:List UInt8)),(.sl .fl ([]:List Fld))] [],[],[120],none⟩,
  ⟨.k .mv,[.s 1],[121],none⟩,
  ⟨.k (.pcall 27 1 1 0 999999 1),[.s 121,.s (lk 999999)],[122],none⟩,
  ⟨.k (.st 1124 0 9),[.s 4,.s 1124,.s 120],[1124],none⟩,
  ⟨.k (.st 1125 0 3),[.s 5,.s 1125,.s 122],[1125],none⟩]) none .ret
def db_value.m:TM := .seq (.reg [
  ⟨.k (.bx 1123),[.s 0,.s 1123],[2,1123],none⟩,
  ⟨.al 1124 [(.i .i64 (0:Int)),(.u64 (0:UInt64)),(.u64 (0:UInt64)),(.u64 (0:UInt64)),(.s ([]:Str)),(.s ([]:Str)),(.i .i64 (0:Int)),(.sl .bs ([]:List UInt8)),(.sl .fl ([]:List Fld))] [],[.s 1124],[4,1124],none⟩,
  ⟨.al 1125 [(.i .i64 (0:Int)),(.i .i64 (0:Int)),(.sl .is ([]:List Int))] [],[.s 1125],[5,1125],none⟩]) none (.seq (.seq (.reg [
  ⟨.k (.fa 1123 0 0),[.s 2],[13],none⟩,
  ⟨.k (.ld 1123 0 1 false),[.s 13,.s 1123],[14],none⟩]) none (.block 0 [(1,.tip 999999 1),(4,.ptr 1124 0),(5,.ptr 1125 0),(1124,.cl []),(1125,.cl []),(lk 999999,.pv 1)] (.seq (.reg [
  ⟨.k (.bin .eql),[.s 14,.c (.i .i64 (9:Int))],[16],none⟩,
  ⟨.k .mv,[.s 16],[15],none⟩]) none (.cond (.s 15) [] (.seq (.reg [
  ⟨.k (.fa 1123 0 1),[.s 2],[17],none⟩,
  ⟨.k (.ld 1123 1 1 false),[.s 17,.s 1123],[18],none⟩,
  ⟨.bd [(.i .i64 (0:Int)),(.u64 (0:UInt64)),(.u64 (0:UInt64)),(.u64 (0:UInt64)),(.s ([]:Str)),(.s ([]:Str)),(.i .i64 (0:Int)),(.sl .bs ([]:List UInt8)),(.sl .fl ([]:List Fld))] [(0,1),(1,1)],[.c (.i .i64 (1:Int)),.s 18],[19],none⟩,
  ⟨.bd [(.i .i64 (0:Int)),(.i .i64 (0:Int)),(.sl .is ([]:List Int))] [],[],[20],none⟩,
  ⟨.k (.st 1124 0 9),[.s 4,.s 1124,.s 19],[1124],none⟩,
  ⟨.k (.st 1125 0 3),[.s 5,.s 1125,.s 20],[1125],none⟩]) none .ret) (.seq (.reg [
  ⟨.k (.bin .eql),[.s 14,.c (.i .i64 (4:Int))],[22],none⟩,
  ⟨.k .mv,[.s 22],[21],none⟩]) none (.cond (.s 21) [] (.seq (.reg [
  ⟨.k (.fa 1123 0 3),[.s 2],[23],none⟩,
  ⟨.k (.ld 1123 3 1 false),[.s 23,.s 1123],[24],none⟩,
  ⟨.bd [(.i .i64 (0:Int)),(.u64 (0:UInt64)),(.u64 (0:UInt64)),(.u64 (0:UInt64)),(.s ([]:Str)),(.s ([]:Str)),(.i .i64 (0:Int)),(.sl .bs ([]:List UInt8)),(.sl .fl ([]:List Fld))] [(0,1),(4,1)],[.c (.i .i64 (2:Int)),.s 24],[25],none⟩,
  ⟨.bd [(.i .i64 (0:Int)),(.i .i64 (0:Int)),(.sl .is ([]:List Int))] [],[],[26],none⟩,
  ⟨.k (.st 1124 0 9),[.s 4,.s 1124,.s 25],[1124],none⟩,
  ⟨.k (.st 1125 0 3),[.s 5,.s 1125,.s 26],[1125],none⟩]) none .ret) (.seq (.reg [
  ⟨.k (.bin .eql),[.s 14,.c (.i .i64 (3:Int))],[28],none⟩,
  ⟨.k .mv,[.s 28],[27],none⟩]) none (.cond (.s 27) [] (.seq (.reg [
  ⟨.k (.fa 1123 0 2),[.s 2],[29],none⟩,
  ⟨.k (.ld 1123 2 1 false),[.s 29,.s 1123],[30],none⟩,
  ⟨.k (.call 69 ⟨1,none,[],[],1,[(0,109,1)],none,[]⟩),[.s 30,.s (lk 109)],[31,lk 109],none⟩,
  ⟨.bd [(.i .i64 (0:Int)),(.u64 (0:UInt64)),(.u64 (0:UInt64)),(.u64 (0:UInt64)),(.s ([]:Str)),(.s ([]:Str)),(.i .i64 (0:Int)),(.sl .bs ([]:List UInt8)),(.sl .fl ([]:List Fld))] [(0,1),(7,1)],[.c (.i .i64 (5:Int)),.s 31],[32],none⟩,
  ⟨.bd [(.i .i64 (0:Int)),(.i .i64 (0:Int)),(.sl .is ([]:List Int))] [],[],[33],none⟩,
  ⟨.k (.st 1124 0 9),[.s 4,.s 1124,.s 32],[1124],none⟩,
  ⟨.k (.st 1125 0 3),[.s 5,.s 1125,.s 33],[1125],none⟩]) none .ret) (.seq (.reg [
  ⟨.k (.bin .eql),[.s 14,.c (.i .i64 (8:Int))],[35],none⟩,
  ⟨.k .mv,[.s 35],[34],none⟩]) none (.cond (.s 34) [] (.seq (.reg [
  ⟨.bd [(.i .i64 (0:Int)),(.u64 (0:UInt64)),(.u64 (0:UInt64)),(.u64 (0:UInt64)),(.s ([]:Str)),(.s ([]:Str)),(.i .i64 (0:Int)),(.sl .bs ([]:List UInt8)),(.sl .fl ([]:List Fld))] [(0,1)],[.c (.i .i64 (8:Int))],[36],none⟩,
  ⟨.bd [(.i .i64 (0:Int)),(.u64 (0:UInt64)),(.u64 (0:UInt64)),(.u64 (0:UInt64)),(.s ([]:Str)),(.s ([]:Str)),(.i .i64 (0:Int)),(.sl .bs ([]:List UInt8)),(.sl .fl ([]:List Fld))] [(0,1),(1,1)],[.c (.i .i64 (8:Int)),.c (.u64 (1:UInt64))],[37],none⟩,
  ⟨.bd [(.i .i64 (0:Int)),(.u64 (0:UInt64)),(.u64 (0:UInt64)),(.u64 (0:UInt64)),(.s ([]:Str)),(.s ([]:Str)),(.i .i64 (0:Int)),(.sl .bs ([]:List UInt8)),(.sl .fl ([]:List Fld))] [(0,1)],[.c (.i .i64 (10:Int))],[38],none⟩,
  ⟨.bd [(.i .i64 (0:Int)),(.u64 (0:UInt64)),(.u64 (0:UInt64)),(.u64 (0:UInt64)),(.s ([]:Str)),(.s ([]:Str)),(.i .i64 (0:Int)),(.sl .bs ([]:List UInt8)),(.sl .fl ([]:List Fld))] [(0,1)],[.c (.i .i64 (6:Int))],[39],none⟩,
  ⟨.bd [(.i .i64 (0:Int)),(.u64 (0:UInt64)),(.u64 (0:UInt64)),(.u64 (0:UInt64)),(.s ([]:Str)),(.s ([]:Str)),(.i .i64 (0:Int)),(.sl .bs ([]:List UInt8)),(.sl .fl ([]:List Fld)),(.i .i64 (0:Int)),(.u64 (0:UInt64)),(.u64 (0:UInt64)),(.u64 (0:UInt64)),(.s ([]:Str)),(.s ([]:Str)),(.i .i64 (0:Int)),(.sl .bs ([]:List UInt8)),(.sl .fl ([]:List Fld)),(.i .i64 (0:Int)),(.u64 (0:UInt64)),(.u64 (0:UInt64)),(.u64 (0:UInt64)),(.s ([]:Str)),(.s ([]:Str)),(.i .i64 (0:Int)),(.sl .bs ([]:List UInt8)),(.sl .fl ([]:List Fld)),(.i .i64 (0:Int)),(.u64 (0:UInt64)),(.u64 (0:UInt64)),(.u64 (0:UInt64)),(.s ([]:Str)),(.s ([]:Str)),(.i .i64 (0:Int)),(.sl .bs ([]:List UInt8)),(.sl .fl ([]:List Fld))] [(0,9),(9,9),(18,9),(27,9)],[.s 36,.s 37,.s 38,.s 39],[40],none⟩,
  ⟨.k (.fa 1123 0 1),[.s 2],[41],none⟩,
  ⟨.k (.ld 1123 1 1 false),[.s 41,.s 1123],[42],none⟩,
  ⟨.k (.bin .sub),[.s 42,.c (.u64 (20:UInt64))],[43],none⟩,
  ⟨.k (.ai 4 9 true),[.s 40,.s 43],[44],none⟩,
  ⟨.bd [(.i .i64 (0:Int)),(.i .i64 (0:Int)),(.sl .is ([]:List Int))] [],[],[45],none⟩,
  ⟨.k (.st 1124 0 9),[.s 4,.s 1124,.s 44],[1124],none⟩,
  ⟨.k (.st 1125 0 3),[.s 5,.s 1125,.s 45],[1125],none⟩]) none .ret) (.seq (.seq (.reg [
  ⟨.k (.bin .eql),[.s 14,.c (.i .i64 (1:Int))],[47],none⟩,
  ⟨.k .mv,[.s 47],[46],none⟩]) none (.cond (.s 46) [(1,.tip 999999 1),(2,.ptr 1123 0),(4,.ptr 1124 0),(5,.ptr 1125 0),(1123,.cl []),(1124,.cl []),(1125,.cl []),(lk 999999,.pv 1)] .skip (.reg [
  ⟨.k (.bin .eql),[.s 14,.c (.i .i64 (2:Int))],[48],none⟩,
  ⟨.k .mv,[.s 48],[46],none⟩]))) (some [1,2,4,5,14,46,1123,1124,1125,lk 999999]) db_value.m2))))))))))) (some [1,4,5,1124,1125,lk 999999]) db_value.m3)
def db_value.d:TFD:={ np:=2,m:=db_value.m,ref:=none,tips:=[],res:=[.c 4 1124 9 true,.c 5 1125 3 true],own:=[],new:=none,tnew:=[],ps:=some (1,999999,1) }
noncomputable def db_value.F (n:Nat) (it:Itv) (path:List Int):Option (List TV):=db_value.d.run (db_value.E n) [(.ag (Itv.cells it)),(.sl .is path)]
noncomputable def db_value.k1 (n:Nat):Cont (List TV):=seqK (evO _ (db_value.E n) db_value.m3) (some [1,4,5,1124,1125,lk 999999]) (endK db_value.d)
noncomputable def db_value.k2 (n:Nat):Cont (List TV):=seqK (ev _ (db_value.E n) (.seq (.reg [
  ⟨.k (.ld 1126 0 9 true),[.s 8,.s 1126],[111],none⟩,
  ⟨.bd [(.i .i64 (0:Int)),(.i .i64 (0:Int)),(.sl .is ([]:List Int))] [],[],[112],none⟩,
  ⟨.stt 1124 0 9 [(7,131,.bs)],[.s 4,.s 1124,.s 111,.s (lk 131)],[1124,lk 131],none⟩,
  ⟨.k (.st 1125 0 3),[.s 5,.s 1125,.s 112],[1125],none⟩]) none .ret)) none (blockK 0 (db_value.k1 n))
noncomputable def db_value.j1 (n:Nat) (x0:Int) (x1:Bool) (x2:Itv) (x3:Val) (x4:Flt) (x5:List Int):Option (List TV):=evO _ (db_value.E n) db_value.m2 (headT [1,2,4,5,14,46,1123,1124,1125,lk 999999] [.pt,.pt,.pt,.pt,(.i .i64 x0),(.b x1),(.ag (Itv.cells x2)),(.ag (Val.cells x3)),(.ag (Flt.cells x4)),(.sl .is x5)]) (blockK 0 (db_value.k1 n))
noncomputable def db_value.j2 (n:Nat) (x0:Val) (x1:Flt) (x2:List Int):Option (List TV):=evO _ (db_value.E n) db_value.m3 (headT [1,4,5,1124,1125,lk 999999] [.pt,.pt,.pt,(.ag (Val.cells x0)),(.ag (Flt.cells x1)),(.sl .is x2)]) (endK db_value.d)
noncomputable def db_value.l3 (n:Nat) (x0:List Itm) (x1:Int) (x2:Int) (x3:Val) (x4:Flt) (x5:Int) (x6:UInt64) (x7:UInt64) (x8:UInt64) (x9:Str) (x10:Str) (x11:Int) (x12:List Fld) (x13:List Int):Option (List TV):=loopL (evO _ (db_value.E n) db_value.m1) isN [1,4,5,8,80,81,82,1124,1125,1126,lk 999999] (headT [1,4,5,8,80,81,82,1124,1125,1126,lk 999999] [.pt,.pt,.pt,.pt,(.sl .il x0),(.i .i64 x1),(.i .i64 x2),(.ag (Val.cells x3)),(.ag (Flt.cells x4)),(.ag [(.i .i64 x5),(.u64 x6),(.u64 x7),(.u64 x8),(.s x9),(.s x10),(.i .i64 x11),(.c (.slice none 0 0)),(.sl .fl x12)]),(.sl .is x13)]) (blockK 1 (db_value.k2 n))
theorem db_value.j1_in (n:Nat) (x0:Int) (x1:Bool) (x2:Itv) (x3:Val) (x4:Flt) (x5:List Int) {ρ:Option (List TV)} (K:∀(v1:Int) (h1:v1=((Db.number (Itm.of x2)).getD 0)) (v2:Bool) (h2:v2=((Db.number (Itm.of x2)).isSome)) (v3:Int) (h3:v3=(IntKind.i64.wrap (IntKind.i32.wrap v1))) (v4:Bool) (h4:v4=(cond v2 (decide (v1=v3)) false)) (v5:UInt64) (h5:v5=(UInt64.ofInt (((UInt32.ofInt v1)).toNat:Int))) (v6:Val) (h6:v6=(Db.Got.val (Db.Gots.got (Val.mk (3:Int) (0:UInt64) (0:UInt64) (0:UInt64) ([]:Str) ([]:Str) (0:Int) [] []) (Db.fields ((Itv.kids x2)) 0 x5)))) (v7:Flt) (h7:v7=(Db.Got.flt (Db.Gots.got (Val.mk (3:Int) (0:UInt64) (0:UInt64) (0:UInt64) ([]:Str) ([]:Str) (0:Int) [] []) (Db.fields ((Itv.kids x2)) 0 x5)))) (v8:Int) (h8:v8=(((Itv.kids x2)).length:Int)) (v9:Val) (h9:v9=(Db.Got.val (Db.value (Itm.of x2) x5))) (v10:Flt) (h10:v10=(Db.Got.flt (Db.value (Itm.of x2) x5))),cond x1
  (ck (!v2 || v2) (ck (!v2 || v2) (ck (!v2 || (v2&&v2)) (ck (!v2 || v2) (cond v4
  (some [(.ag [(.i .i64 (16:Int)),(.u64 v5),(.u64 (0:UInt64)),(.u64 (0:UInt64)),(.s ([]:Str)),(.s ([]:Str)),(.i .i64 (0:Int)),(.sl .bs ([]:List UInt8)),(.sl .fl ([]:List Fld))]),(.ag [(.i .i64 (0:Int)),(.i .i64 (0:Int)),(.sl .is ([]:List Int))]),(.sl .is x5)])
  (db_value.j2 n x3 x4 x5))))))
  (cond (decide (x0=(6:Int)))
  (ck ((decide (Itm.bulks ((Itv.kids x2))+(x5).length≤1073741824)&&decide (Cb.chks ((Itv.kids x2))=0∧(((Itv.kids x2))).length % 2=0))&&decide ((2 * Itm.bulks ((Itv.kids x2))+2)<n)) (some [(.ag (Val.cells v6)),(.ag (Flt.cells v7)),(.sl .is x5)]))
  (cond (decide (x0=(5:Int)))
  (db_value.l3 n (Itv.kids x2) v8 (0:Int) x3 x4 (4:Int) (0:UInt64) (0:UInt64) (0:UInt64) ([]:Str) ([]:Str) (0:Int) ([]:List Fld) x5)
  (cond (decide (x0=(7:Int)))
  (ck ((decide (Itm.bulk (Itm.of x2)+(x5).length≤1073741824)&&decide (Cb.chk (Itm.of x2)=0∧(x2).kind=7))&&decide ((2 * Itm.bulk (Itm.of x2))<n)) (some [(.ag (Val.cells v9)),(.ag (Flt.cells v10)),(.sl .is x5)]))
  (db_value.j2 n x3 x4 x5))))=ρ):db_value.j1 n x0 x1 x2 x3 x4 x5=ρ:=((congrFun (congrFun (ev_eq _ _) _) _).trans (by kernel_rfl)).trans (K _ rfl _ rfl _ rfl _ rfl _ rfl _ rfl _ rfl _ rfl _ rfl _ rfl)
theorem db_value.j2_eq (n:Nat) (x0:Val) (x1:Flt) (x2:List Int):db_value.j2 n x0 x1 x2=ck (decide ((x2).length≤1099511627776)) (some [(.ag [(.i .i64 (0:Int)),(.u64 (0:UInt64)),(.u64 (0:UInt64)),(.u64 (0:UInt64)),(.s ([]:Str)),(.s ([]:Str)),(.i .i64 (0:Int)),(.sl .bs ([]:List UInt8)),(.sl .fl ([]:List Fld))]),(.ag (Flt.cells ((Flt.mk 12 0 x2)))),(.sl .is x2)]):=((congrFun (congrFun (ev_eq _ _) _) _).trans (by kernel_rfl))
theorem db_value.l3_in (n:Nat) (x0:List Itm) (x1:Int) (x2:Int) (x3:Val) (x4:Flt) (x5:Int) (x6:UInt64) (x7:UInt64) (x8:UInt64) (x9:Str) (x10:Str) (x11:Int) (x12:List Fld) (x13:List Int) {ρ:Option (List TV)} (K:∀(v1:Val) (h1:v1=(Db.Got.val (Db.value (Itm.of (Itm.val (List.getD x0 (x2).toNat (STy.dflt .il)))) ((x13++([x2]:List Int)))))) (v2:Flt) (h2:v2=(Db.Got.flt (Db.value (Itm.of (Itm.val (List.getD x0 (x2).toNat (STy.dflt .il)))) ((x13++([x2]:List Int)))))) (v3:List Fld) (h3:v3=([(Fld.mk (Lib.itoa x2) (Val.kind v1) (Val.bits v1) (Val.high v1) (Val.low v1) (Val.text v1) (Val.more v1) (Val.sub v1) (Val.bytes v1) (Val.kids v1))]:List Fld)) (v4:Int) (h4:v4=(IntKind.i64.wrap (x2+(1:Int)))),cond (decide (x2<x1))
  (ck (idxOK x2 (x0).length) (ck (apOK ((x13).length+(([x2]:List Int)).length) 8) (ck ((decide (Itm.bulk (Itm.of (Itm.val (List.getD x0 (x2).toNat (STy.dflt .il))))+(((x13++([x2]:List Int)))).length≤1073741824)&&decide (Cb.chk (Itm.of (Itm.val (List.getD x0 (x2).toNat (STy.dflt .il))))=0))&&decide ((2 * Itm.bulk (Itm.of (Itm.val (List.getD x0 (x2).toNat (STy.dflt .il))))+1)<n)) (cond (!decide ((Flt.err v2)=(0:Int)))
  (some [(.ag [(.i .i64 (0:Int)),(.u64 (0:UInt64)),(.u64 (0:UInt64)),(.u64 (0:UInt64)),(.s ([]:Str)),(.s ([]:Str)),(.i .i64 (0:Int)),(.sl .bs ([]:List UInt8)),(.sl .fl ([]:List Fld))]),(.ag (Flt.cells v2)),(.sl .is x13)])
  (ck (decide (-9223372036854775808≤x2∧x2≤9223372036854775807)) (ck (apOK ((x12).length+(v3).length) 136) (db_value.l3 n x0 x1 v4 x3 x4 x5 x6 x7 x8 x9 x10 x11 (x12++v3) x13)))))))
  (some [(.ag [(.i .i64 x5),(.u64 x6),(.u64 x7),(.u64 x8),(.s x9),(.s x10),(.i .i64 x11),(.sl .bs ([]:List UInt8)),(.sl .fl x12)]),(.ag [(.i .i64 (0:Int)),(.i .i64 (0:Int)),(.sl .is ([]:List Int))]),(.sl .is x13)])=ρ):db_value.l3 n x0 x1 x2 x3 x4 x5 x6 x7 x8 x9 x10 x11 x12 x13=ρ:=((ev_loop _ _ _ _ _ _).trans (by kernel_rfl)).trans (K _ rfl _ rfl _ rfl _ rfl)
theorem db_value.F_in (n:Nat) (it:Itv) (path:List Int) {ρ:Option (List TV)} (K:∀(v1:Int) (h1:v1=(List.getD [(8:Int),(8:Int),(10:Int),(6:Int)] ((((((Itv.n it) - (20:UInt64))).toNat:Int)).toNat) (0:Int))) (v2:UInt64) (h2:v2=(List.getD [(0:UInt64),(1:UInt64),(0:UInt64),(0:UInt64)] ((((((Itv.n it) - (20:UInt64))).toNat:Int)).toNat) (0:UInt64))) (v3:UInt64) (h3:v3=(List.getD [(0:UInt64),(0:UInt64),(0:UInt64),(0:UInt64)] ((((((Itv.n it) - (20:UInt64))).toNat:Int)).toNat) (0:UInt64))) (v4:Str) (h4:v4=(List.getD [([]:Str),([]:Str),([]:Str),([]:Str)] ((((((Itv.n it) - (20:UInt64))).toNat:Int)).toNat) ([]:Str))) (v5:Int) (h5:v5=(List.getD [(0:Int),(0:Int),(0:Int),(0:Int)] ((((((Itv.n it) - (20:UInt64))).toNat:Int)).toNat) (0:Int))) (v6:List UInt8) (h6:v6=(List.getD ([([]:List UInt8),([]:List UInt8),([]:List UInt8),([]:List UInt8)]:List (List UInt8)) ((((((Itv.n it) - (20:UInt64))).toNat:Int)).toNat) [])) (v7:List Fld) (h7:v7=(List.getD ([([]:List Fld),([]:List Fld),([]:List Fld),([]:List Fld)]:List (List Fld)) ((((((Itv.n it) - (20:UInt64))).toNat:Int)).toNat) [])),cond (decide ((Itv.kind it)=(9:Int)))
  (some [(.ag [(.i .i64 (1:Int)),(.u64 (Itv.n it)),(.u64 (0:UInt64)),(.u64 (0:UInt64)),(.s ([]:Str)),(.s ([]:Str)),(.i .i64 (0:Int)),(.sl .bs ([]:List UInt8)),(.sl .fl ([]:List Fld))]),(.ag [(.i .i64 (0:Int)),(.i .i64 (0:Int)),(.sl .is ([]:List Int))]),(.sl .is path)])
  (cond (decide ((Itv.kind it)=(4:Int)))
  (some [(.ag [(.i .i64 (2:Int)),(.u64 (0:UInt64)),(.u64 (0:UInt64)),(.u64 (0:UInt64)),(.s (Itv.text it)),(.s ([]:Str)),(.i .i64 (0:Int)),(.sl .bs ([]:List UInt8)),(.sl .fl ([]:List Fld))]),(.ag [(.i .i64 (0:Int)),(.i .i64 (0:Int)),(.sl .is ([]:List Int))]),(.sl .is path)])
  (cond (decide ((Itv.kind it)=(3:Int)))
  (ck (apOK (((Itv.bytes it))).length 1) (some [(.ag [(.i .i64 (5:Int)),(.u64 (0:UInt64)),(.u64 (0:UInt64)),(.u64 (0:UInt64)),(.s ([]:Str)),(.s ([]:Str)),(.i .i64 (0:Int)),(.sl .bs (((Itv.bytes it)))),(.sl .fl ([]:List Fld))]),(.ag [(.i .i64 (0:Int)),(.i .i64 (0:Int)),(.sl .is ([]:List Int))]),(.sl .is path)]))
  (cond (decide ((Itv.kind it)=(8:Int)))
  (ck (idxOK ((((Itv.n it) - (20:UInt64))).toNat:Int) 4) (some [(.ag [(.i .i64 v1),(.u64 v2),(.u64 v3),(.u64 v3),(.s v4),(.s v4),(.i .i64 v5),(.sl .bs v6),(.sl .fl v7)]),(.ag [(.i .i64 (0:Int)),(.i .i64 (0:Int)),(.sl .is ([]:List Int))]),(.sl .is path)]))
  (cond (decide ((Itv.kind it)=(1:Int)))
  (db_value.j1 n (Itv.kind it) (decide ((Itv.kind it)=(1:Int))) it (Val.mk (0:Int) (0:UInt64) (0:UInt64) (0:UInt64) ([]:Str) ([]:Str) (0:Int) ([]:List UInt8) ([]:List Fld)) (Flt.mk (0:Int) (0:Int) ([]:List Int)) path)
  (db_value.j1 n (Itv.kind it) (decide ((Itv.kind it)=(2:Int))) it (Val.mk (0:Int) (0:UInt64) (0:UInt64) (0:UInt64) ([]:Str) ([]:Str) (0:Int) ([]:List UInt8) ([]:List Fld)) (Flt.mk (0:Int) (0:Int) ([]:List Int)) path)))))=ρ):db_value.F n it path=ρ:=Eq.trans (by kernel_rfl) (K _ rfl _ rfl _ rfl _ rfl _ rfl _ rfl _ rfl)
theorem db_value.chk (n:Nat):((Go.Proofs.Tryd.prog.funcs[44]?).any fun fn=>chkF Go.Proofs.Tryd.prog (fun k=>((envL trydbGl (db_value.env n)).fs k).2) fn db_value.d.erase)=true:=by kernel_rfl
end
noncomputable section
def db_tag.env (n:Nat):List (Nat × (Ctr × FSig)):=[(27,(db_none.c,db_none.sg)),(28,(db_with.cn n,db_with.sg)),(87,(db_regular.c,db_regular.sg)),(88,(db_kinds.c,db_kinds.sg)),(89,(db_small.c,db_small.sg))]
def db_tag.E (n:Nat):TEnv:=envL trydbGl (db_tag.env n)
def db_tag.m1:TM := .seq (.reg [
  ⟨.bd [(.i .i64 (0:Int)),(.u64 (0:UInt64)),(.u64 (0:UInt64)),(.u64 (0:UInt64)),(.s ([]:Str)),(.s ([]:Str)),(.i .i64 (0:Int)),(.sl .bs ([]:List UInt8)),(.sl .fl ([]:List Fld))] [],[],[66],none⟩,
  ⟨.k .mv,[.s 1],[67],none⟩,
  ⟨.k (.pcall 27 1 1 0 999999 1),[.s 67,.s (lk 999999)],[68],none⟩,
  ⟨.k (.st 1070 0 9),[.s 4,.s 1070,.s 66],[1070],none⟩,
  ⟨.k (.st 1071 0 3),[.s 5,.s 1071,.s 68],[1071],none⟩]) none .ret
def db_tag.m:TM := .seq (.reg [
  ⟨.k (.bx 1069),[.s 0,.s 1069],[2,1069],none⟩,
  ⟨.al 1070 [(.i .i64 (0:Int)),(.u64 (0:UInt64)),(.u64 (0:UInt64)),(.u64 (0:UInt64)),(.s ([]:Str)),(.s ([]:Str)),(.i .i64 (0:Int)),(.sl .bs ([]:List UInt8)),(.sl .fl ([]:List Fld))] [],[.s 1070],[4,1070],none⟩,
  ⟨.al 1071 [(.i .i64 (0:Int)),(.i .i64 (0:Int)),(.sl .is ([]:List Int))] [],[.s 1071],[5,1071],none⟩]) none (.seq (.reg [
  ⟨.k (.fa 1069 0 4),[.s 2],[9],none⟩,
  ⟨.k (.ld 1069 4 1 false),[.s 9,.s 1069],[10],none⟩,
  ⟨.k (.ix 5),[.s 10,.c (.i .i64 (0:Int))],[11],none⟩,
  ⟨.k (.lr 5 true),[.s 11],[12],none⟩,
  ⟨.al 1072 [(.i .i64 (0:Int)),(.u64 (0:UInt64)),(.sl .bs ([]:List UInt8)),(.s ([]:Str)),(.sl .il ([]:List Itm))] [],[.s 1072],[6,1072],none⟩,
  ⟨.k (.st 1072 0 5),[.s 6,.s 1072,.s 12],[1072],none⟩]) none (.seq (.seq (.reg [
  ⟨.k (.fa 1069 0 1),[.s 2],[13],none⟩,
  ⟨.k (.ld 1069 1 1 false),[.s 13,.s 1069],[14],none⟩]) none (.block 0 [(1,.tip 999999 1),(4,.ptr 1070 0),(5,.ptr 1071 0),(1070,.cl []),(1071,.cl []),(lk 999999,.pv 1)] (.seq (.reg [
  ⟨.k (.bin .eql),[.s 14,.c (.u64 (1004:UInt64))],[26],none⟩,
  ⟨.k .mv,[.s 26],[25],none⟩]) none (.cond (.s 25) [(1,.tip 999999 1),(4,.ptr 1070 0),(5,.ptr 1071 0),(1070,.cl []),(1071,.cl []),(lk 999999,.pv 1)] (.seq (.reg [
  ⟨.k (.fa 1072 0 0),[.s 6],[27],none⟩,
  ⟨.k (.ld 1072 0 1 false),[.s 27,.s 1072],[28],none⟩,
  ⟨.k (.bin .eql),[.s 28,.c (.i .i64 (6:Int))],[29],none⟩,
  ⟨.k .mv,[.s 29],[30],none⟩,
  ⟨.k (.fa 1072 0 4),[.s 6],[31],some (30,true)⟩,
  ⟨.k (.ld 1072 4 1 false),[.s 31,.s 1072],[32],some (30,true)⟩,
  ⟨.k (.call 87 (.plain 1 1)),[.s 32],[33],some (30,true)⟩,
  ⟨.k (.un .not),[.s 33],[34],some (30,true)⟩,
  ⟨.k .pick,[.s 30,.s 34,.c (.b false)],[35],none⟩]) none (.cond (.s 35) [] (.seq (.reg [
  ⟨.bd [(.i .i64 (0:Int)),(.u64 (0:UInt64)),(.u64 (0:UInt64)),(.u64 (0:UInt64)),(.s ([]:Str)),(.s ([]:Str)),(.i .i64 (0:Int)),(.c (.slice none 0 0)),(.c (.slice none 0 0))] [(0,1)],[.c (.i .i64 (4:Int))],[36],none⟩,
  ⟨.k (.fa 1072 0 4),[.s 6],[37],none⟩,
  ⟨.k (.ld 1072 4 1 false),[.s 37,.s 1072],[38],none⟩,
  ⟨.k .mv,[.s 1],[39],none⟩,
  ⟨.bl .is 1,[.c (.i .i64 (0:Int))],[40],none⟩,
  ⟨.k (.ppa 999999 106 1 8),[.s 39,.s 40,.s (lk 999999),.s (lk 106)],[41,lk 999999,lk 106],none⟩,
  ⟨.k (.pcall 28 3 2 2 106 1),[.s 36,.s 38,.s 41,.s (lk 106)],[42],none⟩,
  ⟨.k (.ex 0),[.s 42],[43],none⟩,
  ⟨.k (.ex 1),[.s 42],[44],none⟩,
  ⟨.k (.st 1070 0 9),[.s 4,.s 1070,.s 43],[1070],none⟩,
  ⟨.k (.st 1071 0 3),[.s 5,.s 1071,.s 44],[1071],none⟩]) none .ret) .skip)) (.seq (.reg [
  ⟨.k (.bin .eql),[.s 14,.c (.u64 (1015:UInt64))],[46],none⟩,
  ⟨.k .mv,[.s 46],[45],none⟩]) none (.cond (.s 45) [(1,.tip 999999 1),(4,.ptr 1070 0),(5,.ptr 1071 0),(1070,.cl []),(1071,.cl []),(lk 999999,.pv 1)] (.seq (.reg [
  ⟨.k (.ld 1072 0 5 true),[.s 6,.s 1072],[47],none⟩,
  ⟨.k (.call 88 (.plain 3 1)),[.s 47,.c (.i .i64 (4:Int)),.c (.i .i64 (6:Int))],[48],none⟩]) none (.cond (.s 48) [] (.seq (.reg [
  ⟨.k (.fa 1072 0 4),[.s 6],[49],none⟩,
  ⟨.k (.ld 1072 4 1 false),[.s 49,.s 1072],[50],none⟩,
  ⟨.k (.ix 5),[.s 50,.c (.i .i64 (0:Int))],[51],none⟩,
  ⟨.k (.fr 3 1 false),[.s 51],[52],none⟩,
  ⟨.k (.lr 1 false),[.s 52],[53],none⟩,
  ⟨.bd [(.i .i64 (0:Int)),(.u64 (0:UInt64)),(.u64 (0:UInt64)),(.u64 (0:UInt64)),(.s ([]:Str)),(.s ([]:Str)),(.i .i64 (0:Int)),(.c (.slice none 0 0)),(.c (.slice none 0 0))] [(0,1),(4,1)],[.c (.i .i64 (15:Int)),.s 53],[54],none⟩,
  ⟨.k (.fa 1072 0 4),[.s 6],[55],none⟩,
  ⟨.k (.ld 1072 4 1 false),[.s 55,.s 1072],[56],none⟩,
  ⟨.k (.ix 5),[.s 56,.c (.i .i64 (1:Int))],[57],none⟩,
  ⟨.k (.fr 4 1 false),[.s 57],[58],none⟩,
  ⟨.k (.lr 1 false),[.s 58],[59],none⟩,
  ⟨.k .mv,[.s 1],[60],none⟩,
  ⟨.bl .is 2,[.c (.i .i64 (0:Int)),.c (.i .i64 (1:Int))],[61],none⟩,
  ⟨.k (.ppa 999999 108 1 8),[.s 60,.s 61,.s (lk 999999),.s (lk 108)],[62,lk 999999,lk 108],none⟩,
  ⟨.k (.pcall 28 3 2 2 108 1),[.s 54,.s 59,.s 62,.s (lk 108)],[63],none⟩,
  ⟨.k (.ex 0),[.s 63],[64],none⟩,
  ⟨.k (.ex 1),[.s 63],[65],none⟩,
  ⟨.k (.st 1070 0 9),[.s 4,.s 1070,.s 64],[1070],none⟩,
  ⟨.k (.st 1071 0 3),[.s 5,.s 1071,.s 65],[1071],none⟩]) none .ret) .skip)) (.seq (.reg [
  ⟨.k (.fa 1069 0 1),[.s 2],[16],none⟩,
  ⟨.k (.ld 1069 1 1 false),[.s 16,.s 1069],[17],none⟩,
  ⟨.k (.ld 1072 0 5 true),[.s 6,.s 1072],[18],none⟩,
  ⟨.k (.call 89 (.plain 2 2)),[.s 17,.s 18],[19],none⟩,
  ⟨.k .mv,[.s 19],[15],none⟩,
  ⟨.k (.ex 0),[.s 15],[20],none⟩,
  ⟨.k (.ex 1),[.s 15],[21],none⟩,
  ⟨.al 1073 [(.i .i64 (0:Int)),(.u64 (0:UInt64)),(.u64 (0:UInt64)),(.u64 (0:UInt64)),(.s ([]:Str)),(.s ([]:Str)),(.i .i64 (0:Int)),(.sl .bs ([]:List UInt8)),(.sl .fl ([]:List Fld))] [],[.s 1073],[7,1073],none⟩,
  ⟨.k (.st 1073 0 9),[.s 7,.s 1073,.s 20],[1073],none⟩,
  ⟨.k .mv,[.s 21],[8],none⟩]) none (.seq (.reg [
  ⟨.k .mv,[.s 8],[22],none⟩]) none (.cond (.s 22) [] (.seq (.reg [
  ⟨.k (.ld 1073 0 9 true),[.s 7,.s 1073],[23],none⟩,
  ⟨.bd [(.i .i64 (0:Int)),(.i .i64 (0:Int)),(.sl .is ([]:List Int))] [],[],[24],none⟩,
  ⟨.k (.st 1070 0 9),[.s 4,.s 1070,.s 23],[1070],none⟩,
  ⟨.k (.st 1071 0 3),[.s 5,.s 1071,.s 24],[1071],none⟩]) none .ret) .skip))))))))) (some [1,4,5,1070,1071,lk 999999]) db_tag.m1))
def db_tag.d:TFD:={ np:=2,m:=db_tag.m,ref:=none,tips:=[],res:=[.c 4 1070 9 true,.c 5 1071 3 true],own:=[],new:=none,tnew:=[],ps:=some (1,999999,1) }
noncomputable def db_tag.F (n:Nat) (it:Itv) (path:List Int):Option (List TV):=db_tag.d.run (db_tag.E n) [(.ag (Itv.cells it)),(.sl .is path)]
noncomputable def db_tag.j1 (n:Nat) (x0:Val) (x1:Flt) (x2:List Int):Option (List TV):=evO _ (db_tag.E n) db_tag.m1 (headT [1,4,5,1070,1071,lk 999999] [.pt,.pt,.pt,(.ag (Val.cells x0)),(.ag (Flt.cells x1)),(.sl .is x2)]) (endK db_tag.d)
theorem db_tag.j1_eq (n:Nat) (x0:Val) (x1:Flt) (x2:List Int):db_tag.j1 n x0 x1 x2=ck (decide ((x2).length≤1099511627776)) (some [(.ag [(.i .i64 (0:Int)),(.u64 (0:UInt64)),(.u64 (0:UInt64)),(.u64 (0:UInt64)),(.s ([]:Str)),(.s ([]:Str)),(.i .i64 (0:Int)),(.sl .bs ([]:List UInt8)),(.sl .fl ([]:List Fld))]),(.ag (Flt.cells ((Flt.mk 12 0 x2)))),(.sl .is x2)]):=((congrFun (congrFun (ev_eq _ _) _) _).trans (by kernel_rfl))
theorem db_tag.F_in (n:Nat) (it:Itv) (path:List Int) {ρ:Option (List TV)} (K:∀(v1:Int) (h1:v1=(Itm.kind (List.getD (Itv.kids it) ((0:Int)).toNat (STy.dflt .il)))) (v2:List Itm) (h2:v2=(Itm.kids (List.getD (Itv.kids it) ((0:Int)).toNat (STy.dflt .il)))) (v3:Bool) (h3:v3=(cond (decide (v1=(6:Int))) (!(Db.regular v2)) false)) (v4:List Int) (h4:v4=(path++([(0:Int)]:List Int))) (v5:Val) (h5:v5=(Db.Got.val (Db.Gots.got (Val.mk (4:Int) (0:UInt64) (0:UInt64) (0:UInt64) ([]:Str) ([]:Str) (0:Int) [] []) (Db.fields v2 0 v4)))) (v6:Flt) (h6:v6=(Db.Got.flt (Db.Gots.got (Val.mk (4:Int) (0:UInt64) (0:UInt64) (0:UInt64) ([]:Str) ([]:Str) (0:Int) [] []) (Db.fields v2 0 v4)))) (v7:Bool) (h7:v7=(Db.kinds (Itm.of (Itm.val (List.getD (Itv.kids it) ((0:Int)).toNat (STy.dflt .il)))) ((4:Int)) ((6:Int)))) (v8:Str) (h8:v8=(Itm.text (List.getD v2 ((0:Int)).toNat (STy.dflt .il)))) (v9:List Itm) (h9:v9=(Itm.kids (List.getD v2 ((1:Int)).toNat (STy.dflt .il)))) (v10:List Int) (h10:v10=([(0:Int),(1:Int)]:List Int)) (v11:Val) (h11:v11=(Db.Got.val (Db.Gots.got (Val.mk (15:Int) (0:UInt64) (0:UInt64) (0:UInt64) v8 ([]:Str) (0:Int) [] []) (Db.fields v9 0 ((path++v10)))))) (v12:Flt) (h12:v12=(Db.Got.flt (Db.Gots.got (Val.mk (15:Int) (0:UInt64) (0:UInt64) (0:UInt64) v8 ([]:Str) (0:Int) [] []) (Db.fields v9 0 ((path++v10)))))) (v13:Val) (h13:v13=((Db.smallV ((Itv.n it)) (Itm.of (Itm.val (List.getD (Itv.kids it) ((0:Int)).toNat (STy.dflt .il))))).1)) (v14:Bool) (h14:v14=((Db.smallV ((Itv.n it)) (Itm.of (Itm.val (List.getD (Itv.kids it) ((0:Int)).toNat (STy.dflt .il))))).2)),ck (idxOK (0:Int) ((Itv.kids it)).length) (cond (decide ((Itv.n it)=(1004:UInt64)))
  (ck (!(decide (v1=(6:Int))) || (decide (v1=(6:Int)))) (ck (!(decide (v1=(6:Int))) || ((decide (v1=(6:Int)))&&(decide ((v2).length≤1099511627776)))) (ck (!(decide (v1=(6:Int))) || (decide (v1=(6:Int)))) (ck (!(decide (v1=(6:Int))) || (decide (v1=(6:Int)))) (cond v3
  (ck (apOK ((path).length+(([(0:Int)]:List Int)).length) 8) (ck ((decide (Itm.bulks v2+(v4).length≤1073741824)&&decide (Cb.chks v2=0∧(v2).length % 2=0))&&decide ((2 * Itm.bulks v2+2)<n)) (some [(.ag (Val.cells v5)),(.ag (Flt.cells v6)),(.sl .is path)])))
  (db_tag.j1 n (Val.mk (0:Int) (0:UInt64) (0:UInt64) (0:UInt64) ([]:Str) ([]:Str) (0:Int) ([]:List UInt8) ([]:List Fld)) (Flt.mk (0:Int) (0:Int) ([]:List Int)) path))))))
  (cond (decide ((Itv.n it)=(1015:UInt64)))
  (cond v7
  (ck (idxOK (0:Int) (v2).length) (ck (idxOK (1:Int) (v2).length) (ck (apOK ((path).length+(v10).length) 8) (ck ((decide (Itm.bulks v9+(((path++v10))).length≤1073741824)&&decide (Cb.chks v9=0∧(v9).length % 2=0))&&decide ((2 * Itm.bulks v9+2)<n)) (some [(.ag (Val.cells v11)),(.ag (Flt.cells v12)),(.sl .is path)])))))
  (db_tag.j1 n (Val.mk (0:Int) (0:UInt64) (0:UInt64) (0:UInt64) ([]:Str) ([]:Str) (0:Int) ([]:List UInt8) ([]:List Fld)) (Flt.mk (0:Int) (0:Int) ([]:List Int)) path))
  (ck (decide (Itm.bulk (Itm.of (Itm.val (List.getD (Itv.kids it) ((0:Int)).toNat (STy.dflt .il))))≤1099511627776)) (cond v14
  (some [(.ag (Val.cells v13)),(.ag [(.i .i64 (0:Int)),(.i .i64 (0:Int)),(.sl .is ([]:List Int))]),(.sl .is path)])
  (db_tag.j1 n (Val.mk (0:Int) (0:UInt64) (0:UInt64) (0:UInt64) ([]:Str) ([]:Str) (0:Int) ([]:List UInt8) ([]:List Fld)) (Flt.mk (0:Int) (0:Int) ([]:List Int)) path)))))=ρ):db_tag.F n it path=ρ:=Eq.trans (by kernel_rfl) (K _ rfl _ rfl _ rfl _ rfl _ rfl _ rfl _ rfl _ rfl _ rfl _ rfl _ rfl _ rfl _ rfl _ rfl)
theorem db_tag.chk (n:Nat):((Go.Proofs.Tryd.prog.funcs[72]?).any fun fn=>chkF Go.Proofs.Tryd.prog (fun k=>((envL trydbGl (db_tag.env n)).fs k).2) fn db_tag.d.erase)=true:=by kernel_rfl
end
noncomputable section
def db_Value.env:List (Nat × (Ctr × FSig)):=[(26,(cb_Check.c,cb_Check.sg)),(27,(db_none.c,db_none.sg)),(28,(db_with.c,db_with.sg))]
def db_Value.E:TEnv:=envL trydbGl db_Value.env
def db_Value.m:TM := .seq (.reg [
  ⟨.k (.bx 1023),[.s 0,.s 1023],[1,1023],none⟩,
  ⟨.al 1024 [(.i .i64 (0:Int)),(.u64 (0:UInt64)),(.u64 (0:UInt64)),(.u64 (0:UInt64)),(.s ([]:Str)),(.s ([]:Str)),(.i .i64 (0:Int)),(.sl .bs ([]:List UInt8)),(.sl .fl ([]:List Fld))] [],[.s 1024],[2,1024],none⟩,
  ⟨.al 1025 [(.i .i64 (0:Int)),(.i .i64 (0:Int)),(.sl .is ([]:List Int))] [],[.s 1025],[3,1025],none⟩]) none (.seq (.seq (.reg [
  ⟨.k (.ld 1023 0 5 true),[.s 1,.s 1023],[5],none⟩,
  ⟨.k (.call 26 (.plain 1 1)),[.s 5],[6],none⟩,
  ⟨.k .mv,[.s 6],[4],none⟩]) none (.seq (.reg [
  ⟨.k .mv,[.s 4],[7],none⟩,
  ⟨.k (.bin .neq),[.s 7,.c (.i .i64 (0:Int))],[8],none⟩]) none (.cond (.s 8) [] (.seq (.reg [
  ⟨.bd [(.i .i64 (0:Int)),(.u64 (0:UInt64)),(.u64 (0:UInt64)),(.u64 (0:UInt64)),(.s ([]:Str)),(.s ([]:Str)),(.i .i64 (0:Int)),(.sl .bs ([]:List UInt8)),(.sl .fl ([]:List Fld))] [],[],[9],none⟩,
  ⟨.k .mv,[.s 4],[10],none⟩,
  ⟨.bd [(.i .i64 (0:Int)),(.i .i64 (0:Int)),(.sl .is ([]:List Int))] [(0,1)],[.s 10],[11],none⟩,
  ⟨.k (.st 1024 0 9),[.s 2,.s 1024,.s 9],[1024],none⟩,
  ⟨.k (.st 1025 0 3),[.s 3,.s 1025,.s 11],[1025],none⟩]) none .ret) .skip))) none (.seq (.seq (.reg [
  ⟨.k (.fa 1023 0 0),[.s 1],[12],none⟩,
  ⟨.k (.ld 1023 0 1 false),[.s 12,.s 1023],[13],none⟩,
  ⟨.k (.bin .neq),[.s 13,.c (.i .i64 (6:Int))],[14],none⟩]) none (.cond (.s 14) [] (.seq (.reg [
  ⟨.bd [(.i .i64 (0:Int)),(.u64 (0:UInt64)),(.u64 (0:UInt64)),(.u64 (0:UInt64)),(.s ([]:Str)),(.s ([]:Str)),(.i .i64 (0:Int)),(.sl .bs ([]:List UInt8)),(.sl .fl ([]:List Fld))] [],[],[15],none⟩,
  ⟨.k (.pcaln 27 1 1 0 1),[.c (.sl .is ([]:List Int))],[16],none⟩,
  ⟨.k (.st 1024 0 9),[.s 2,.s 1024,.s 15],[1024],none⟩,
  ⟨.k (.st 1025 0 3),[.s 3,.s 1025,.s 16],[1025],none⟩]) none .ret) .skip)) none (.seq (.reg [
  ⟨.bd [(.i .i64 (0:Int)),(.u64 (0:UInt64)),(.u64 (0:UInt64)),(.u64 (0:UInt64)),(.s ([]:Str)),(.s ([]:Str)),(.i .i64 (0:Int)),(.c (.slice none 0 0)),(.c (.slice none 0 0))] [(0,1)],[.c (.i .i64 (3:Int))],[17],none⟩,
  ⟨.k (.fa 1023 0 4),[.s 1],[18],none⟩,
  ⟨.k (.ld 1023 4 1 false),[.s 18,.s 1023],[19],none⟩,
  ⟨.k (.pcaln 28 3 2 2 1),[.s 17,.s 19,.c (.sl .is ([]:List Int))],[20],none⟩,
  ⟨.k (.ex 0),[.s 20],[21],none⟩,
  ⟨.k (.ex 1),[.s 20],[22],none⟩,
  ⟨.k (.st 1024 0 9),[.s 2,.s 1024,.s 21],[1024],none⟩,
  ⟨.k (.st 1025 0 3),[.s 3,.s 1025,.s 22],[1025],none⟩]) none .ret)))
def db_Value.d:TFD:={ np:=1,m:=db_Value.m,ref:=none,tips:=[],res:=[.c 2 1024 9 true,.c 3 1025 3 true],own:=[],new:=none,tnew:=[] }
noncomputable def db_Value.F (it:Itv):Option (List TV):=db_Value.d.run db_Value.E [(.ag (Itv.cells it))]
theorem db_Value.F_in (it:Itv) {ρ:Option (List TV)} (K:∀(v1:Flt) (h1:v1=((Flt.mk 12 0 (([]:List Int))))) (v2:Val) (h2:v2=(Db.Got.val (Db.Gots.got (Val.mk (3:Int) (0:UInt64) (0:UInt64) (0:UInt64) ([]:Str) ([]:Str) (0:Int) [] []) (Db.fields ((Itv.kids it)) 0 (([]:List Int)))))) (v3:Flt) (h3:v3=(Db.Got.flt (Db.Gots.got (Val.mk (3:Int) (0:UInt64) (0:UInt64) (0:UInt64) ([]:Str) ([]:Str) (0:Int) [] []) (Db.fields ((Itv.kids it)) 0 (([]:List Int)))))),ck (decide (Itm.bulk (Itm.of it)≤1099511627776)) (cond (!decide ((Cb.chk (Itm.of it))=(0:Int)))
  (some [(.ag [(.i .i64 (0:Int)),(.u64 (0:UInt64)),(.u64 (0:UInt64)),(.u64 (0:UInt64)),(.s ([]:Str)),(.s ([]:Str)),(.i .i64 (0:Int)),(.sl .bs ([]:List UInt8)),(.sl .fl ([]:List Fld))]),(.ag [(.i .i64 (Cb.chk (Itm.of it))),(.i .i64 (0:Int)),(.sl .is ([]:List Int))])])
  (cond (!decide ((Itv.kind it)=(6:Int)))
  (ck (decide (((([]:List Int))).length≤1099511627776)) (some [(.ag [(.i .i64 (0:Int)),(.u64 (0:UInt64)),(.u64 (0:UInt64)),(.u64 (0:UInt64)),(.s ([]:Str)),(.s ([]:Str)),(.i .i64 (0:Int)),(.sl .bs ([]:List UInt8)),(.sl .fl ([]:List Fld))]),(.ag (Flt.cells v1))]))
  (ck (decide (Itm.bulks ((Itv.kids it))+((([]:List Int))).length≤1073741824)&&decide (Cb.chks ((Itv.kids it))=0∧(((Itv.kids it))).length % 2=0)) (some [(.ag (Val.cells v2)),(.ag (Flt.cells v3))]))))=ρ):db_Value.F it=ρ:=Eq.trans (by kernel_rfl) (K _ rfl _ rfl _ rfl)
theorem db_Value.chk:((Go.Proofs.Tryd.prog.funcs[15]?).any fun fn=>chkF Go.Proofs.Tryd.prog (fun k=>((envL trydbGl db_Value.env).fs k).2) fn db_Value.d.erase)=true:=by kernel_rfl
end
noncomputable section
end
noncomputable section
def ref28_Number.env:List (Nat × (Ctr × FSig)):=[]
def ref28_Number.E:TEnv:=envL trydbGl ref28_Number.env
def ref28_Number.m:TM := .seq (.reg [
  ⟨.k (.bx 1021),[.s 0,.s 1021],[1,1021],none⟩,
  ⟨.k .mv,[.c (.i .i64 (0:Int))],[2],none⟩,
  ⟨.k .mv,[.c (.b false)],[3],none⟩]) none (.seq (.seq (.reg [
  ⟨.k (.fa 1021 0 1),[.s 1],[4],none⟩,
  ⟨.k (.ld 1021 1 1 false),[.s 4,.s 1021],[5],none⟩,
  ⟨.k (.bin .geq),[.s 5,.c (.u64 (9223372036854775808:UInt64))],[6],none⟩]) none (.cond (.s 6) [] (.seq (.reg [
  ⟨.k .mv,[.c (.i .i64 (0:Int))],[2],none⟩,
  ⟨.k .mv,[.c (.b false)],[3],none⟩]) none .ret) .skip)) none (.seq (.seq (.reg [
  ⟨.k (.fa 1021 0 0),[.s 1],[7],none⟩,
  ⟨.k (.ld 1021 0 1 false),[.s 7,.s 1021],[8],none⟩,
  ⟨.k (.bin .eql),[.s 8,.c (.i .i64 (2:Int))],[9],none⟩]) none (.cond (.s 9) [] (.seq (.reg [
  ⟨.k (.fa 1021 0 1),[.s 1],[10],none⟩,
  ⟨.k (.ld 1021 1 1 false),[.s 10,.s 1021],[11],none⟩,
  ⟨.k (.ci .i64),[.s 11],[12],none⟩,
  ⟨.k (.un .neg),[.s 12],[13],none⟩,
  ⟨.k (.bin .sub),[.s 13,.c (.i .i64 (1:Int))],[14],none⟩,
  ⟨.k .mv,[.s 14],[2],none⟩,
  ⟨.k .mv,[.c (.b true)],[3],none⟩]) none .ret) .skip)) none (.seq (.reg [
  ⟨.k (.fa 1021 0 1),[.s 1],[15],none⟩,
  ⟨.k (.ld 1021 1 1 false),[.s 15,.s 1021],[16],none⟩,
  ⟨.k (.ci .i64),[.s 16],[17],none⟩,
  ⟨.k (.fa 1021 0 0),[.s 1],[18],none⟩,
  ⟨.k (.ld 1021 0 1 false),[.s 18,.s 1021],[19],none⟩,
  ⟨.k (.bin .eql),[.s 19,.c (.i .i64 (1:Int))],[20],none⟩,
  ⟨.k .mv,[.s 17],[2],none⟩,
  ⟨.k .mv,[.s 20],[3],none⟩]) none .ret)))
def ref28_Number.d:TFD:={ np:=1,m:=ref28_Number.m,ref:=none,tips:=[],res:=[.t 2,.t 3],own:=[],new:=none,tnew:=[] }
noncomputable def ref28_Number.F (it:Itv):Option (List TV):=ref28_Number.d.run ref28_Number.E [(.ag (Itv.cells it))]
theorem ref28_Number.F_in (it:Itv) {ρ:Option (List TV)} (K:∀(v1:Int) (h1:v1=(IntKind.i64.wrap (((Itv.n it)).toNat:Int))) (v2:Int) (h2:v2=(IntKind.i64.wrap ((IntKind.i64.wrap (0 - v1)) - (1:Int)))),cond (decide ((9223372036854775808:UInt64)≤(Itv.n it)))
  (some [(.i .i64 (0:Int)),(.b false)])
  (cond (decide ((Itv.kind it)=(2:Int)))
  (some [(.i .i64 v2),(.b true)])
  (some [(.i .i64 v1),(.b (decide ((Itv.kind it)=(1:Int))))]))=ρ):ref28_Number.F it=ρ:=Eq.trans (by kernel_rfl) (K _ rfl _ rfl)
theorem ref28_Number.chk:((Go.Proofs.Tryd.prog.funcs[90]?).any fun fn=>chkF Go.Proofs.Tryd.prog (fun k=>((envL trydbGl ref28_Number.env).fs k).2) fn ref28_Number.d.erase)=true:=by kernel_rfl
end
noncomputable section
end
end Go.Eng
namespace Go.Eng
noncomputable section
end
noncomputable section
end
noncomputable section
end
noncomputable section
end
noncomputable section
end
noncomputable section
end
noncomputable section
def ref28_longer.env:List (Nat × (Ctr × FSig)):=[]
def ref28_longer.E:TEnv:=envL trydbGl ref28_longer.env
def ref28_longer.m:TM := .seq (.reg [
  ⟨.k .mv,[.c (.sl .is ([]:List Int))],[4],none⟩]) none (.seq (.reg [
  ⟨.blt .is 0 101,[.s (lk 101)],[5,lk 101],none⟩,
  ⟨.k .mv,[.s 0],[6],none⟩,
  ⟨.k (.ap 101 102 1 8),[.s 5,.s 6,.s (lk 101),.s (lk 102)],[7,lk 101,lk 102],none⟩,
  ⟨.k .mv,[.s 1],[8],none⟩,
  ⟨.bl .is 1,[.s 8],[9],none⟩,
  ⟨.k (.ap 102 104 1 8),[.s 7,.s 9,.s (lk 102),.s (lk 104)],[10,lk 102,lk 104],none⟩,
  ⟨.k .mv,[.s 10],[4],none⟩]) none .ret)
def ref28_longer.d:TFD:={ np:=2,m:=ref28_longer.m,ref:=none,tips:=[],res:=[.t 4],own:=[],new:=none,tnew:=[] }
noncomputable def ref28_longer.F (p:List Int) (k:Int):Option (List TV):=ref28_longer.d.run ref28_longer.E [(.sl .is p),(.i .i64 k)]
theorem ref28_longer.F_in (p:List Int) (k:Int) {ρ:Option (List TV)} (K:∀(v1:List Int) (h1:v1=((([]:List Int)++p)++([k]:List Int))),ck (apOK ((([]:List Int)).length+(p).length) 8) (ck (apOK (((([]:List Int)++p)).length+(([k]:List Int)).length) 8) (some [(.sl .is v1)]))=ρ):ref28_longer.F p k=ρ:=Eq.trans (by kernel_rfl) (K _ rfl)
theorem ref28_longer.chk:((Go.Proofs.Tryd.prog.funcs[46]?).any fun fn=>chkF Go.Proofs.Tryd.prog (fun k=>((envL trydbGl ref28_longer.env).fs k).2) fn ref28_longer.d.erase)=true:=by kernel_rfl
end
noncomputable section
def ref28_regular.env:List (Nat × (Ctr × FSig)):=[(74,(ref5_Digits.c,ref5_Digits.sg))]
def ref28_regular.E:TEnv:=envL trydbGl ref28_regular.env
def ref28_regular.m1:TM := .seq (.seq (.reg [
  ⟨.k .mv,[.s 3],[4],none⟩,
  ⟨.k (.fa 1031 0 4),[.s 1],[5],none⟩,
  ⟨.k (.ld 1031 4 1 false),[.s 5,.s 1031],[6],none⟩,
  ⟨.k .len,[.s 6],[7],none⟩,
  ⟨.k (.bin .lss),[.s 4,.s 7],[8],none⟩]) none (.cond (.s 8) [] .skip (.exit 0))) none (.seq (.block 1 [(1,.ptr 1031 0),(1031,.cl [])] (.seq (.reg [
  ⟨.k (.fa 1031 0 4),[.s 1],[11],none⟩,
  ⟨.k (.ld 1031 4 1 false),[.s 11,.s 1031],[12],none⟩,
  ⟨.k .mv,[.s 3],[13],none⟩,
  ⟨.k (.ix 5),[.s 12,.s 13],[14],none⟩,
  ⟨.k (.fr 0 1 false),[.s 14],[15],none⟩,
  ⟨.k (.lr 1 false),[.s 15],[16],none⟩,
  ⟨.k (.bin .neq),[.s 16,.c (.i .i64 (4:Int))],[17],none⟩,
  ⟨.k .mv,[.s 17],[18],none⟩,
  ⟨.k (.fa 1031 0 4),[.s 1],[19],some (18,false)⟩,
  ⟨.k (.ld 1031 4 1 false),[.s 19,.s 1031],[20],some (18,false)⟩,
  ⟨.k .mv,[.s 3],[21],some (18,false)⟩,
  ⟨.k (.ix 5),[.s 20,.s 21],[22],some (18,false)⟩,
  ⟨.k (.fr 3 1 false),[.s 22],[23],some (18,false)⟩,
  ⟨.k (.lr 1 false),[.s 23],[24],some (18,false)⟩,
  ⟨.k .mv,[.s 3],[25],some (18,false)⟩,
  ⟨.k (.bin .quo),[.s 25,.c (.i .i64 (2:Int))],[26],some (18,false)⟩,
  ⟨.k (.ci .u64),[.s 26],[27],some (18,false)⟩,
  ⟨.k (.call 74 (.plain 1 1)),[.s 27],[28],some (18,false)⟩,
  ⟨.k (.bin .neq),[.s 24,.s 28],[29],some (18,false)⟩,
  ⟨.k .pick,[.s 18,.c (.b true),.s 29],[30],none⟩]) none (.cond (.s 30) [] (.seq (.reg [
  ⟨.k .mv,[.c (.b false)],[2],none⟩]) none .ret) .skip))) none (.reg [
  ⟨.k .mv,[.s 3],[9],none⟩,
  ⟨.k (.bin .add),[.s 9,.c (.i .i64 (2:Int))],[10],none⟩,
  ⟨.k .mv,[.s 10],[3],none⟩]))
def ref28_regular.m:TM := .seq (.reg [
  ⟨.k (.bx 1031),[.s 0,.s 1031],[1,1031],none⟩,
  ⟨.k .mv,[.c (.b false)],[2],none⟩]) none (.seq (.seq (.reg [
  ⟨.k .mv,[.c (.i .i64 (0:Int))],[3],none⟩]) none (.block 0 [] (.loop [1,3,1031] [(1,.ptr 1031 0),(1031,.cl [])] ref28_regular.m1))) none (.seq (.reg [
  ⟨.k .mv,[.c (.b true)],[2],none⟩]) none .ret))
def ref28_regular.d:TFD:={ np:=1,m:=ref28_regular.m,ref:=none,tips:=[],res:=[.t 2],own:=[],new:=none,tnew:=[] }
noncomputable def ref28_regular.F (it:Itv):Option (List TV):=ref28_regular.d.run ref28_regular.E [(.ag (Itv.cells it))]
noncomputable def ref28_regular.k1:Cont (List TV):=seqK (ev _ ref28_regular.E (.seq (.reg [
  ⟨.k .mv,[.c (.b true)],[2],none⟩]) none .ret)) none (endK ref28_regular.d)
noncomputable def ref28_regular.l1 (x0:Int) (x1:Itv):Option (List TV):=loopL (evO _ ref28_regular.E ref28_regular.m1) isN [1,3,1031] (headT [1,3,1031] [.pt,(.i .i64 x0),(.ag (Itv.cells x1))]) (blockK 0 ref28_regular.k1)
theorem ref28_regular.l1_in (x0:Int) (x1:Itv) {ρ:Option (List TV)} (K:∀(v1:Int) (h1:v1=(((Itv.kids x1)).length:Int)) (v2:Int) (h2:v2=(Itm.kind (List.getD (Itv.kids x1) (x0).toNat (STy.dflt .il)))) (v3:Bool) (h3:v3=(!(!decide (v2=(4:Int))))) (v4:Str) (h4:v4=(Itm.text (List.getD (Itv.kids x1) (x0).toNat (STy.dflt .il)))) (v5:Int) (h5:v5=(IntKind.i64.wrap (Int.tdiv x0 (2:Int)))) (v6:Str) (h6:v6=(digs (((UInt64.ofInt v5))).toNat)) (v7:Bool) (h7:v7=(cond (!decide (v2=(4:Int))) true (!decide (v4=v6)))) (v8:Int) (h8:v8=(IntKind.i64.wrap (x0+(2:Int)))),cond (decide (x0<v1))
  (ck (idxOK x0 ((Itv.kids x1)).length) (ck (!v3 || v3) (ck (!v3 || ((v3&&v3)&&(idxOK x0 ((Itv.kids x1)).length))) (ck (!v3 || v3) (ck (!v3 || v3) (ck (!v3 || (v3&&(!decide ((2:Int)=0)))) (ck (!v3 || v3) (ck (!v3 || v3) (ck (!v3 || (v3&&v3)) (ck ((!decide (v2=(4:Int))) || v3) (cond v7
  (some [(.b false)])
  (ref28_regular.l1 v8 x1))))))))))))
  (some [(.b true)])=ρ):ref28_regular.l1 x0 x1=ρ:=((ev_loop _ _ _ _ _ _).trans (by kernel_rfl)).trans (K _ rfl _ rfl _ rfl _ rfl _ rfl _ rfl _ rfl _ rfl)
theorem ref28_regular.F_eq (it:Itv):ref28_regular.F it=ref28_regular.l1 (0:Int) it:=by kernel_rfl
theorem ref28_regular.chk:((Go.Proofs.Tryd.prog.funcs[75]?).any fun fn=>chkF Go.Proofs.Tryd.prog (fun k=>((envL trydbGl ref28_regular.env).fs k).2) fn ref28_regular.d.erase)=true:=by kernel_rfl
end
noncomputable section
def ref28_Half.env:List (Nat × (Ctr × FSig)):=[(90,(ref28_Number.c,ref28_Number.sg))]
def ref28_Half.E:TEnv:=envL trydbGl ref28_Half.env
def ref28_Half.m:TM := .seq (.reg [
  ⟨.k (.bx 1025),[.s 0,.s 1025],[1,1025],none⟩,
  ⟨.al 1026 [(.i .i64 (0:Int)),(.u64 (0:UInt64)),(.u64 (0:UInt64)),(.u64 (0:UInt64)),(.s ([]:Str)),(.s ([]:Str)),(.i .i64 (0:Int)),(.sl .bs ([]:List UInt8)),(.sl .fl ([]:List Fld))] [],[.s 1026],[2,1026],none⟩,
  ⟨.k .mv,[.c (.b false)],[3],none⟩]) none (.seq (.reg [
  ⟨.k (.ld 1025 0 5 true),[.s 1,.s 1025],[7],none⟩,
  ⟨.k (.call 90 (.plain 1 2)),[.s 7],[8],none⟩,
  ⟨.k .mv,[.s 8],[6],none⟩,
  ⟨.k (.ex 0),[.s 6],[9],none⟩,
  ⟨.k (.ex 1),[.s 6],[10],none⟩,
  ⟨.k .mv,[.s 9],[4],none⟩,
  ⟨.k .mv,[.s 10],[5],none⟩]) none (.seq (.reg [
  ⟨.k .mv,[.s 4],[11],none⟩,
  ⟨.k (.ci .i32),[.s 11],[12],none⟩,
  ⟨.k (.ci .u32),[.s 12],[13],none⟩,
  ⟨.k (.ci .u64),[.s 13],[14],none⟩,
  ⟨.bd [(.i .i64 (0:Int)),(.u64 (0:UInt64)),(.u64 (0:UInt64)),(.u64 (0:UInt64)),(.s ([]:Str)),(.s ([]:Str)),(.i .i64 (0:Int)),(.sl .bs ([]:List UInt8)),(.sl .fl ([]:List Fld))] [(0,1),(1,1)],[.c (.i .i64 (16:Int)),.s 14],[15],none⟩,
  ⟨.k .mv,[.s 5],[16],none⟩,
  ⟨.k .mv,[.s 16],[17],none⟩,
  ⟨.k .mv,[.s 4],[18],some (17,true)⟩,
  ⟨.k (.bin .geq),[.s 18,.c (.i .i64 (-2147483648:Int))],[19],some (17,true)⟩,
  ⟨.k .pick,[.s 17,.s 19,.c (.b false)],[20],none⟩,
  ⟨.k .mv,[.s 20],[21],none⟩,
  ⟨.k .mv,[.s 4],[22],some (21,true)⟩,
  ⟨.k (.bin .lss),[.s 22,.c (.i .i64 (2147483648:Int))],[23],some (21,true)⟩,
  ⟨.k .pick,[.s 21,.s 23,.c (.b false)],[24],none⟩,
  ⟨.k (.st 1026 0 9),[.s 2,.s 1026,.s 15],[1026],none⟩,
  ⟨.k .mv,[.s 24],[3],none⟩]) none .ret))
def ref28_Half.d:TFD:={ np:=1,m:=ref28_Half.m,ref:=none,tips:=[],res:=[.c 2 1026 9 true,.t 3],own:=[],new:=none,tnew:=[] }
noncomputable def ref28_Half.F (it:Itv):Option (List TV):=ref28_Half.d.run ref28_Half.E [(.ag (Itv.cells it))]
theorem ref28_Half.F_in (it:Itv) {ρ:Option (List TV)} (K:∀(v1:Bool) (h1:v1=((Db.number (Itm.of it)).isSome)) (v2:Int) (h2:v2=(IntKind.i32.wrap (Db.numberI (Itm.of it)))) (v3:UInt64) (h3:v3=(UInt64.ofInt (((UInt32.ofInt v2)).toNat:Int))) (v4:Bool) (h4:v4=(cond v1 (decide ((-2147483648:Int)≤(Db.numberI (Itm.of it)))) false)) (v5:Bool) (h5:v5=(cond v4 (decide ((Db.numberI (Itm.of it))<(2147483648:Int))) false)),ck (!v1 || v1) (ck (!v1 || v1) (ck (!v4 || v4) (ck (!v4 || v4) (some [(.ag [(.i .i64 (16:Int)),(.u64 v3),(.u64 (0:UInt64)),(.u64 (0:UInt64)),(.s ([]:Str)),(.s ([]:Str)),(.i .i64 (0:Int)),(.sl .bs ([]:List UInt8)),(.sl .fl ([]:List Fld))]),(.b v5)]))))=ρ):ref28_Half.F it=ρ:=Eq.trans (by kernel_rfl) (K _ rfl _ rfl _ rfl _ rfl _ rfl)
theorem ref28_Half.chk:((Go.Proofs.Tryd.prog.funcs[73]?).any fun fn=>chkF Go.Proofs.Tryd.prog (fun k=>((envL trydbGl ref28_Half.env).fs k).2) fn ref28_Half.d.erase)=true:=by kernel_rfl
end
noncomputable section
def ref28_pair.env:List (Nat × (Ctr × FSig)):=[]
def ref28_pair.E:TEnv:=envL trydbGl ref28_pair.env
def ref28_pair.m:TM := .seq (.reg [
  ⟨.k (.bx 1012),[.s 0,.s 1012],[1,1012],none⟩,
  ⟨.k .mv,[.c (.b false)],[2],none⟩]) none (.seq (.reg [
  ⟨.k (.fa 1012 0 0),[.s 1],[3],none⟩,
  ⟨.k (.ld 1012 0 1 false),[.s 3,.s 1012],[4],none⟩,
  ⟨.k (.bin .eql),[.s 4,.c (.i .i64 (5:Int))],[5],none⟩,
  ⟨.k .mv,[.s 5],[6],none⟩,
  ⟨.k (.fa 1012 0 4),[.s 1],[7],some (6,true)⟩,
  ⟨.k (.ld 1012 4 1 false),[.s 7,.s 1012],[8],some (6,true)⟩,
  ⟨.k .len,[.s 8],[9],some (6,true)⟩,
  ⟨.k (.bin .eql),[.s 9,.c (.i .i64 (2:Int))],[10],some (6,true)⟩,
  ⟨.k .pick,[.s 6,.s 10,.c (.b false)],[11],none⟩,
  ⟨.k .mv,[.s 11],[2],none⟩]) none .ret)
def ref28_pair.d:TFD:={ np:=1,m:=ref28_pair.m,ref:=none,tips:=[],res:=[.t 2],own:=[],new:=none,tnew:=[] }
noncomputable def ref28_pair.F (it:Itv):Option (List TV):=ref28_pair.d.run ref28_pair.E [(.ag (Itv.cells it))]
theorem ref28_pair.F_in (it:Itv) {ρ:Option (List TV)} (K:∀(v1:Int) (h1:v1=(((Itv.kids it)).length:Int)) (v2:Bool) (h2:v2=(cond (decide ((Itv.kind it)=(5:Int))) (decide (v1=(2:Int))) false)),ck (!(decide ((Itv.kind it)=(5:Int))) || (decide ((Itv.kind it)=(5:Int)))) (ck (!(decide ((Itv.kind it)=(5:Int))) || (decide ((Itv.kind it)=(5:Int)))) (ck (!(decide ((Itv.kind it)=(5:Int))) || (decide ((Itv.kind it)=(5:Int)))) (ck (!(decide ((Itv.kind it)=(5:Int))) || (decide ((Itv.kind it)=(5:Int)))) (some [(.b v2)]))))=ρ):ref28_pair.F it=ρ:=Eq.trans (by kernel_rfl) (K _ rfl _ rfl)
theorem ref28_pair.chk:((Go.Proofs.Tryd.prog.funcs[76]?).any fun fn=>chkF Go.Proofs.Tryd.prog (fun k=>((envL trydbGl ref28_pair.env).fs k).2) fn ref28_pair.d.erase)=true:=by kernel_rfl
end
noncomputable section
def ref28_tagged.env:List (Nat × (Ctr × FSig)):=[(45,(ref2_Zero.c,ref2_Zero.sg)),(76,(ref28_pair.c,ref28_pair.sg)),(90,(ref28_Number.c,ref28_Number.sg)),(91,(ref1_High.c,ref1_High.sg))]
def ref28_tagged.E:TEnv:=envL trydbGl ref28_tagged.env
def ref28_tagged.m1:TM := .cond (.s 225) [] (.seq (.reg [
  ⟨.k (.ld 1240 0 9 true),[.s 6,.s 1240],[228],none⟩,
  ⟨.k (.fa 1238 0 0),[.s 3],[229],none⟩,
  ⟨.k (.ld 1238 0 1 false),[.s 229,.s 1238],[230],none⟩,
  ⟨.k (.bin .eql),[.s 230,.c (.i .i64 (8:Int))],[231],none⟩,
  ⟨.k .mv,[.s 231],[232],none⟩,
  ⟨.k (.fa 1238 0 1),[.s 3],[233],some (232,true)⟩,
  ⟨.k (.ld 1238 1 1 false),[.s 233,.s 1238],[234],some (232,true)⟩,
  ⟨.k (.bin .eql),[.s 234,.c (.u64 (22:UInt64))],[235],some (232,true)⟩,
  ⟨.k .pick,[.s 232,.s 235,.c (.b false)],[236],none⟩,
  ⟨.k (.st 1239 0 9),[.s 4,.s 1239,.s 228],[1239],none⟩,
  ⟨.k .mv,[.s 236],[5],none⟩]) none .ret) .skip
def ref28_tagged.m2:TM := .cond (.s 180) [] (.seq (.reg [
  ⟨.k (.fa 1238 0 3),[.s 3],[183],none⟩,
  ⟨.k (.ld 1238 3 1 false),[.s 183,.s 1238],[184],none⟩,
  ⟨.k (.fa 1240 0 4),[.s 6],[185],none⟩,
  ⟨.k (.st 1240 4 1),[.s 185,.s 1240,.s 184],[1240],none⟩]) none (.seq (.reg [
  ⟨.k (.ld 1240 0 9 true),[.s 6,.s 1240],[186],none⟩,
  ⟨.k (.fa 1238 0 0),[.s 3],[187],none⟩,
  ⟨.k (.ld 1238 0 1 false),[.s 187,.s 1238],[188],none⟩,
  ⟨.k (.bin .eql),[.s 188,.c (.i .i64 (4:Int))],[189],none⟩,
  ⟨.k (.st 1239 0 9),[.s 4,.s 1239,.s 186],[1239],none⟩,
  ⟨.k .mv,[.s 189],[5],none⟩]) none .ret)) (.seq (.reg [
  ⟨.k (.bin .eql),[.s 25,.c (.i .i64 (17:Int))],[191],none⟩,
  ⟨.k .mv,[.s 191],[190],none⟩]) none (.cond (.s 190) [] (.seq (.reg [
  ⟨.k (.fa 1238 0 1),[.s 3],[192],none⟩,
  ⟨.k (.ld 1238 1 1 false),[.s 192,.s 1238],[193],none⟩,
  ⟨.k (.fa 1240 0 1),[.s 6],[194],none⟩,
  ⟨.k (.st 1240 1 1),[.s 194,.s 1240,.s 193],[1240],none⟩]) none (.seq (.reg [
  ⟨.k (.ld 1240 0 9 true),[.s 6,.s 1240],[195],none⟩,
  ⟨.k (.fa 1238 0 0),[.s 3],[196],none⟩,
  ⟨.k (.ld 1238 0 1 false),[.s 196,.s 1238],[197],none⟩,
  ⟨.k (.bin .eql),[.s 197,.c (.i .i64 (1:Int))],[198],none⟩,
  ⟨.k (.st 1239 0 9),[.s 4,.s 1239,.s 195],[1239],none⟩,
  ⟨.k .mv,[.s 198],[5],none⟩]) none .ret)) (.seq (.reg [
  ⟨.k (.bin .eql),[.s 25,.c (.i .i64 (19:Int))],[200],none⟩,
  ⟨.k .mv,[.s 200],[199],none⟩]) none (.cond (.s 199) [] (.seq (.reg [
  ⟨.k (.fa 1238 0 2),[.s 3],[202],none⟩,
  ⟨.k (.ld 1238 2 1 false),[.s 202,.s 1238],[203],none⟩,
  ⟨.k (.call 91 (.plain 3 2)),[.s 203,.c (.i .i64 (0:Int)),.c (.i .i64 (8:Int))],[204],none⟩,
  ⟨.k .mv,[.s 204],[201],none⟩,
  ⟨.k (.ex 0),[.s 201],[205],none⟩,
  ⟨.k (.ex 1),[.s 201],[206],none⟩,
  ⟨.k (.fa 1240 0 2),[.s 6],[207],none⟩,
  ⟨.k (.st 1240 2 1),[.s 207,.s 1240,.s 205],[1240],none⟩]) none (.seq (.reg [
  ⟨.k (.fa 1238 0 2),[.s 3],[209],none⟩,
  ⟨.k (.ld 1238 2 1 false),[.s 209,.s 1238],[210],none⟩,
  ⟨.k (.call 91 (.plain 3 2)),[.s 210,.c (.i .i64 (8:Int)),.c (.i .i64 (8:Int))],[211],none⟩,
  ⟨.k .mv,[.s 211],[208],none⟩,
  ⟨.k (.ex 0),[.s 208],[212],none⟩,
  ⟨.k (.ex 1),[.s 208],[213],none⟩,
  ⟨.k (.fa 1240 0 3),[.s 6],[214],none⟩,
  ⟨.k (.st 1240 3 1),[.s 214,.s 1240,.s 212],[1240],none⟩]) none (.seq (.reg [
  ⟨.k (.ld 1240 0 9 true),[.s 6,.s 1240],[215],none⟩,
  ⟨.k (.fa 1238 0 0),[.s 3],[216],none⟩,
  ⟨.k (.ld 1238 0 1 false),[.s 216,.s 1238],[217],none⟩,
  ⟨.k (.bin .eql),[.s 217,.c (.i .i64 (3:Int))],[218],none⟩,
  ⟨.k .mv,[.s 218],[219],none⟩,
  ⟨.k (.fa 1238 0 2),[.s 3],[220],some (219,true)⟩,
  ⟨.k (.ld 1238 2 1 false),[.s 220,.s 1238],[221],some (219,true)⟩,
  ⟨.k .len,[.s 221],[222],some (219,true)⟩,
  ⟨.k (.bin .eql),[.s 222,.c (.i .i64 (16:Int))],[223],some (219,true)⟩,
  ⟨.k .pick,[.s 219,.s 223,.c (.b false)],[224],none⟩,
  ⟨.k (.st 1239 0 9),[.s 4,.s 1239,.s 215],[1239],none⟩,
  ⟨.k .mv,[.s 224],[5],none⟩]) none .ret))) (.seq (.seq (.reg [
  ⟨.k (.bin .eql),[.s 25,.c (.i .i64 (255:Int))],[226],none⟩,
  ⟨.k .mv,[.s 226],[225],none⟩]) none (.cond (.s 225) [(3,.ptr 1238 0),(4,.ptr 1239 0),(6,.ptr 1240 0),(1238,.cl []),(1239,.cl []),(1240,.cl [])] .skip (.reg [
  ⟨.k (.bin .eql),[.s 25,.c (.i .i64 (127:Int))],[227],none⟩,
  ⟨.k .mv,[.s 227],[225],none⟩]))) (some [3,4,6,225,1238,1239,1240]) ref28_tagged.m1)))))
def ref28_tagged.m3:TM := .cond (.s 91) [] (.seq (.reg [
  ⟨.k (.ld 1238 0 5 true),[.s 3,.s 1238],[95],none⟩,
  ⟨.k (.call 90 (.plain 1 2)),[.s 95],[96],none⟩,
  ⟨.k .mv,[.s 96],[94],none⟩,
  ⟨.k (.ex 0),[.s 94],[97],none⟩,
  ⟨.k (.ex 1),[.s 94],[98],none⟩,
  ⟨.k .mv,[.s 97],[7],none⟩,
  ⟨.k .mv,[.s 98],[8],none⟩]) none (.seq (.reg [
  ⟨.k .mv,[.s 7],[99],none⟩,
  ⟨.k (.ci .u64),[.s 99],[100],none⟩,
  ⟨.k (.fa 1240 0 1),[.s 6],[101],none⟩,
  ⟨.k (.st 1240 1 1),[.s 101,.s 1240,.s 100],[1240],none⟩]) none (.seq (.reg [
  ⟨.k (.ld 1240 0 9 true),[.s 6,.s 1240],[102],none⟩,
  ⟨.k .mv,[.s 8],[103],none⟩,
  ⟨.k (.st 1239 0 9),[.s 4,.s 1239,.s 102],[1239],none⟩,
  ⟨.k .mv,[.s 103],[5],none⟩]) none .ret))) (.seq (.reg [
  ⟨.k (.bin .eql),[.s 25,.c (.i .i64 (11:Int))],[105],none⟩,
  ⟨.k .mv,[.s 105],[104],none⟩]) none (.cond (.s 104) [] (.seq (.seq (.reg [
  ⟨.k (.ld 1238 0 5 true),[.s 3,.s 1238],[106],none⟩,
  ⟨.k (.call 76 (.plain 1 1)),[.s 106],[107],none⟩,
  ⟨.k (.un .not),[.s 107],[108],none⟩]) none (.cond (.s 108) [] (.seq (.reg [
  ⟨.bd [(.i .i64 (0:Int)),(.u64 (0:UInt64)),(.u64 (0:UInt64)),(.u64 (0:UInt64)),(.s ([]:Str)),(.s ([]:Str)),(.i .i64 (0:Int)),(.sl .bs ([]:List UInt8)),(.sl .fl ([]:List Fld))] [],[],[109],none⟩,
  ⟨.k (.st 1239 0 9),[.s 4,.s 1239,.s 109],[1239],none⟩,
  ⟨.k .mv,[.c (.b false)],[5],none⟩]) none .ret) .skip)) none (.seq (.reg [
  ⟨.k (.fa 1238 0 4),[.s 3],[110],none⟩,
  ⟨.k (.ld 1238 4 1 false),[.s 110,.s 1238],[111],none⟩,
  ⟨.k (.ix 5),[.s 111,.c (.i .i64 (0:Int))],[112],none⟩,
  ⟨.k (.lr 5 true),[.s 112],[113],none⟩,
  ⟨.k (.fa 1238 0 4),[.s 3],[114],none⟩,
  ⟨.k (.ld 1238 4 1 false),[.s 114,.s 1238],[115],none⟩,
  ⟨.k (.ix 5),[.s 115,.c (.i .i64 (1:Int))],[116],none⟩,
  ⟨.k (.lr 5 true),[.s 116],[117],none⟩,
  ⟨.al 1241 [(.i .i64 (0:Int)),(.u64 (0:UInt64)),(.sl .bs ([]:List UInt8)),(.s ([]:Str)),(.sl .il ([]:List Itm))] [],[.s 1241],[9,1241],none⟩,
  ⟨.al 1242 [(.i .i64 (0:Int)),(.u64 (0:UInt64)),(.sl .bs ([]:List UInt8)),(.s ([]:Str)),(.sl .il ([]:List Itm))] [],[.s 1242],[10,1242],none⟩,
  ⟨.k (.st 1241 0 5),[.s 9,.s 1241,.s 113],[1241],none⟩,
  ⟨.k (.st 1242 0 5),[.s 10,.s 1242,.s 117],[1242],none⟩]) none (.seq (.reg [
  ⟨.k (.fa 1241 0 3),[.s 9],[118],none⟩,
  ⟨.k (.ld 1241 3 1 false),[.s 118,.s 1241],[119],none⟩,
  ⟨.k (.fa 1242 0 3),[.s 10],[120],none⟩,
  ⟨.k (.ld 1242 3 1 false),[.s 120,.s 1242],[121],none⟩,
  ⟨.k (.fa 1240 0 4),[.s 6],[122],none⟩,
  ⟨.k (.st 1240 4 1),[.s 122,.s 1240,.s 119],[1240],none⟩,
  ⟨.k (.fa 1240 0 5),[.s 6],[123],none⟩,
  ⟨.k (.st 1240 5 1),[.s 123,.s 1240,.s 121],[1240],none⟩]) none (.seq (.reg [
  ⟨.k (.ld 1240 0 9 true),[.s 6,.s 1240],[124],none⟩,
  ⟨.k (.fa 1241 0 0),[.s 9],[125],none⟩,
  ⟨.k (.ld 1241 0 1 false),[.s 125,.s 1241],[126],none⟩,
  ⟨.k (.bin .eql),[.s 126,.c (.i .i64 (4:Int))],[127],none⟩,
  ⟨.k .mv,[.s 127],[128],none⟩,
  ⟨.k (.fa 1242 0 0),[.s 10],[129],some (128,true)⟩,
  ⟨.k (.ld 1242 0 1 false),[.s 129,.s 1242],[130],some (128,true)⟩,
  ⟨.k (.bin .eql),[.s 130,.c (.i .i64 (4:Int))],[131],some (128,true)⟩,
  ⟨.k .pick,[.s 128,.s 131,.c (.b false)],[132],none⟩,
  ⟨.k .mv,[.s 132],[133],none⟩,
  ⟨.k (.fa 1241 0 3),[.s 9],[134],some (133,true)⟩,
  ⟨.k (.ld 1241 3 1 false),[.s 134,.s 1241],[135],some (133,true)⟩,
  ⟨.k (.call 45 (.plain 1 1)),[.s 135],[136],some (133,true)⟩,
  ⟨.k (.un .not),[.s 136],[137],some (133,true)⟩,
  ⟨.k .pick,[.s 133,.s 137,.c (.b false)],[138],none⟩,
  ⟨.k .mv,[.s 138],[139],none⟩,
  ⟨.k (.fa 1242 0 3),[.s 10],[140],some (139,true)⟩,
  ⟨.k (.ld 1242 3 1 false),[.s 140,.s 1242],[141],some (139,true)⟩,
  ⟨.k (.call 45 (.plain 1 1)),[.s 141],[142],some (139,true)⟩,
  ⟨.k (.un .not),[.s 142],[143],some (139,true)⟩,
  ⟨.k .pick,[.s 139,.s 143,.c (.b false)],[144],none⟩,
  ⟨.k (.st 1239 0 9),[.s 4,.s 1239,.s 124],[1239],none⟩,
  ⟨.k .mv,[.s 144],[5],none⟩]) none .ret)))) (.seq (.reg [
  ⟨.k (.bin .eql),[.s 25,.c (.i .i64 (12:Int))],[146],none⟩,
  ⟨.k .mv,[.s 146],[145],none⟩]) none (.cond (.s 145) [] (.seq (.seq (.reg [
  ⟨.k (.ld 1238 0 5 true),[.s 3,.s 1238],[147],none⟩,
  ⟨.k (.call 76 (.plain 1 1)),[.s 147],[148],none⟩,
  ⟨.k (.un .not),[.s 148],[149],none⟩]) none (.cond (.s 149) [] (.seq (.reg [
  ⟨.bd [(.i .i64 (0:Int)),(.u64 (0:UInt64)),(.u64 (0:UInt64)),(.u64 (0:UInt64)),(.s ([]:Str)),(.s ([]:Str)),(.i .i64 (0:Int)),(.sl .bs ([]:List UInt8)),(.sl .fl ([]:List Fld))] [],[],[150],none⟩,
  ⟨.k (.st 1239 0 9),[.s 4,.s 1239,.s 150],[1239],none⟩,
  ⟨.k .mv,[.c (.b false)],[5],none⟩]) none .ret) .skip)) none (.seq (.reg [
  ⟨.k (.fa 1238 0 4),[.s 3],[151],none⟩,
  ⟨.k (.ld 1238 4 1 false),[.s 151,.s 1238],[152],none⟩,
  ⟨.k (.ix 5),[.s 152,.c (.i .i64 (0:Int))],[153],none⟩,
  ⟨.k (.lr 5 true),[.s 153],[154],none⟩,
  ⟨.k (.fa 1238 0 4),[.s 3],[155],none⟩,
  ⟨.k (.ld 1238 4 1 false),[.s 155,.s 1238],[156],none⟩,
  ⟨.k (.ix 5),[.s 156,.c (.i .i64 (1:Int))],[157],none⟩,
  ⟨.k (.lr 5 true),[.s 157],[158],none⟩,
  ⟨.al 1243 [(.i .i64 (0:Int)),(.u64 (0:UInt64)),(.sl .bs ([]:List UInt8)),(.s ([]:Str)),(.sl .il ([]:List Itm))] [],[.s 1243],[11,1243],none⟩,
  ⟨.al 1244 [(.i .i64 (0:Int)),(.u64 (0:UInt64)),(.sl .bs ([]:List UInt8)),(.s ([]:Str)),(.sl .il ([]:List Itm))] [],[.s 1244],[12,1244],none⟩,
  ⟨.k (.st 1243 0 5),[.s 11,.s 1243,.s 154],[1243],none⟩,
  ⟨.k (.st 1244 0 5),[.s 12,.s 1244,.s 158],[1244],none⟩]) none (.seq (.reg [
  ⟨.k (.fa 1243 0 3),[.s 11],[159],none⟩,
  ⟨.k (.ld 1243 3 1 false),[.s 159,.s 1243],[160],none⟩,
  ⟨.k (.fa 1244 0 2),[.s 12],[161],none⟩,
  ⟨.k (.ld 1244 2 1 false),[.s 161,.s 1244],[162],none⟩,
  ⟨.k (.fa 1240 0 4),[.s 6],[163],none⟩,
  ⟨.k (.st 1240 4 1),[.s 163,.s 1240,.s 160],[1240],none⟩,
  ⟨.k (.fa 1240 0 7),[.s 6],[164],none⟩,
  ⟨.k (.st 1240 7 1),[.s 164,.s 1240,.s 162],[1240],none⟩]) none (.seq (.reg [
  ⟨.k (.ld 1240 0 9 true),[.s 6,.s 1240],[165],none⟩,
  ⟨.k (.fa 1243 0 0),[.s 11],[166],none⟩,
  ⟨.k (.ld 1243 0 1 false),[.s 166,.s 1243],[167],none⟩,
  ⟨.k (.bin .eql),[.s 167,.c (.i .i64 (4:Int))],[168],none⟩,
  ⟨.k .mv,[.s 168],[169],none⟩,
  ⟨.k (.fa 1244 0 0),[.s 12],[170],some (169,true)⟩,
  ⟨.k (.ld 1244 0 1 false),[.s 170,.s 1244],[171],some (169,true)⟩,
  ⟨.k (.bin .eql),[.s 171,.c (.i .i64 (3:Int))],[172],some (169,true)⟩,
  ⟨.k .pick,[.s 169,.s 172,.c (.b false)],[173],none⟩,
  ⟨.k .mv,[.s 173],[174],none⟩,
  ⟨.k (.fa 1244 0 2),[.s 12],[175],some (174,true)⟩,
  ⟨.k (.ld 1244 2 1 false),[.s 175,.s 1244],[176],some (174,true)⟩,
  ⟨.k .len,[.s 176],[177],some (174,true)⟩,
  ⟨.k (.bin .eql),[.s 177,.c (.i .i64 (12:Int))],[178],some (174,true)⟩,
  ⟨.k .pick,[.s 174,.s 178,.c (.b false)],[179],none⟩,
  ⟨.k (.st 1239 0 9),[.s 4,.s 1239,.s 165],[1239],none⟩,
  ⟨.k .mv,[.s 179],[5],none⟩]) none .ret)))) (.seq (.seq (.reg [
  ⟨.k (.bin .eql),[.s 25,.c (.i .i64 (13:Int))],[181],none⟩,
  ⟨.k .mv,[.s 181],[180],none⟩]) none (.cond (.s 180) [(3,.ptr 1238 0),(4,.ptr 1239 0),(6,.ptr 1240 0),(1238,.cl []),(1239,.cl []),(1240,.cl [])] .skip (.reg [
  ⟨.k (.bin .eql),[.s 25,.c (.i .i64 (14:Int))],[182],none⟩,
  ⟨.k .mv,[.s 182],[180],none⟩]))) (some [3,4,6,25,180,1238,1239,1240]) ref28_tagged.m2)))))
def ref28_tagged.m:TM := .seq (.reg [
  ⟨.k (.bx 1238),[.s 1,.s 1238],[3,1238],none⟩,
  ⟨.al 1239 [(.i .i64 (0:Int)),(.u64 (0:UInt64)),(.u64 (0:UInt64)),(.u64 (0:UInt64)),(.s ([]:Str)),(.s ([]:Str)),(.i .i64 (0:Int)),(.sl .bs ([]:List UInt8)),(.sl .fl ([]:List Fld))] [],[.s 1239],[4,1239],none⟩,
  ⟨.k .mv,[.c (.b false)],[5],none⟩]) none (.seq (.seq (.reg [
  ⟨.k .mv,[.s 0],[13],none⟩,
  ⟨.k (.bin .lss),[.s 13,.c (.u64 (1000:UInt64))],[14],none⟩,
  ⟨.k .mv,[.s 14],[15],none⟩,
  ⟨.k .mv,[.s 0],[16],some (15,false)⟩,
  ⟨.k (.bin .gtr),[.s 16,.c (.u64 (1255:UInt64))],[17],some (15,false)⟩,
  ⟨.k .pick,[.s 15,.c (.b true),.s 17],[18],none⟩]) none (.cond (.s 18) [] (.seq (.reg [
  ⟨.bd [(.i .i64 (0:Int)),(.u64 (0:UInt64)),(.u64 (0:UInt64)),(.u64 (0:UInt64)),(.s ([]:Str)),(.s ([]:Str)),(.i .i64 (0:Int)),(.sl .bs ([]:List UInt8)),(.sl .fl ([]:List Fld))] [],[],[19],none⟩,
  ⟨.k (.st 1239 0 9),[.s 4,.s 1239,.s 19],[1239],none⟩,
  ⟨.k .mv,[.c (.b false)],[5],none⟩]) none .ret) .skip)) none (.seq (.reg [
  ⟨.k .mv,[.s 0],[20],none⟩,
  ⟨.k (.bin .sub),[.s 20,.c (.u64 (1000:UInt64))],[21],none⟩,
  ⟨.k (.ci .i64),[.s 21],[22],none⟩,
  ⟨.bd [(.i .i64 (0:Int)),(.u64 (0:UInt64)),(.u64 (0:UInt64)),(.u64 (0:UInt64)),(.s ([]:Str)),(.s ([]:Str)),(.i .i64 (0:Int)),(.sl .bs ([]:List UInt8)),(.sl .fl ([]:List Fld))] [(0,1)],[.s 22],[23],none⟩,
  ⟨.al 1240 [(.i .i64 (0:Int)),(.u64 (0:UInt64)),(.u64 (0:UInt64)),(.u64 (0:UInt64)),(.s ([]:Str)),(.s ([]:Str)),(.i .i64 (0:Int)),(.sl .bs ([]:List UInt8)),(.sl .fl ([]:List Fld))] [],[.s 1240],[6,1240],none⟩,
  ⟨.k (.st 1240 0 9),[.s 6,.s 1240,.s 23],[1240],none⟩]) none (.seq (.seq (.reg [
  ⟨.k (.fa 1240 0 0),[.s 6],[24],none⟩,
  ⟨.k (.ld 1240 0 1 false),[.s 24,.s 1240],[25],none⟩]) none (.block 0 [(4,.ptr 1239 0),(1239,.cl [])] (.seq (.reg [
  ⟨.k (.bin .eql),[.s 25,.c (.i .i64 (5:Int))],[27],none⟩,
  ⟨.k .mv,[.s 27],[26],none⟩]) none (.cond (.s 26) [] (.seq (.seq (.reg [
  ⟨.k (.ld 1238 0 5 true),[.s 3,.s 1238],[28],none⟩,
  ⟨.k (.call 76 (.plain 1 1)),[.s 28],[29],none⟩,
  ⟨.k (.un .not),[.s 29],[30],none⟩,
  ⟨.k .mv,[.s 30],[31],none⟩,
  ⟨.k (.fa 1238 0 4),[.s 3],[32],some (31,false)⟩,
  ⟨.k (.ld 1238 4 1 false),[.s 32,.s 1238],[33],some (31,false)⟩,
  ⟨.k (.ix 5),[.s 33,.c (.i .i64 (0:Int))],[34],some (31,false)⟩,
  ⟨.k (.fr 0 1 false),[.s 34],[35],some (31,false)⟩,
  ⟨.k (.lr 1 false),[.s 35],[36],some (31,false)⟩,
  ⟨.k (.bin .neq),[.s 36,.c (.i .i64 (1:Int))],[37],some (31,false)⟩,
  ⟨.k .pick,[.s 31,.c (.b true),.s 37],[38],none⟩,
  ⟨.k .mv,[.s 38],[39],none⟩,
  ⟨.k (.fa 1238 0 4),[.s 3],[40],some (39,false)⟩,
  ⟨.k (.ld 1238 4 1 false),[.s 40,.s 1238],[41],some (39,false)⟩,
  ⟨.k (.ix 5),[.s 41,.c (.i .i64 (0:Int))],[42],some (39,false)⟩,
  ⟨.k (.fr 1 1 false),[.s 42],[43],some (39,false)⟩,
  ⟨.k (.lr 1 false),[.s 43],[44],some (39,false)⟩,
  ⟨.k (.bin .lss),[.s 44,.c (.u64 (1:UInt64))],[45],some (39,false)⟩,
  ⟨.k .pick,[.s 39,.c (.b true),.s 45],[46],none⟩,
  ⟨.k .mv,[.s 46],[47],none⟩,
  ⟨.k (.fa 1238 0 4),[.s 3],[48],some (47,false)⟩,
  ⟨.k (.ld 1238 4 1 false),[.s 48,.s 1238],[49],some (47,false)⟩,
  ⟨.k (.ix 5),[.s 49,.c (.i .i64 (0:Int))],[50],some (47,false)⟩,
  ⟨.k (.fr 1 1 false),[.s 50],[51],some (47,false)⟩,
  ⟨.k (.lr 1 false),[.s 51],[52],some (47,false)⟩,
  ⟨.k (.bin .gtr),[.s 52,.c (.u64 (255:UInt64))],[53],some (47,false)⟩,
  ⟨.k .pick,[.s 47,.c (.b true),.s 53],[54],none⟩]) none (.cond (.s 54) [] (.seq (.reg [
  ⟨.bd [(.i .i64 (0:Int)),(.u64 (0:UInt64)),(.u64 (0:UInt64)),(.u64 (0:UInt64)),(.s ([]:Str)),(.s ([]:Str)),(.i .i64 (0:Int)),(.sl .bs ([]:List UInt8)),(.sl .fl ([]:List Fld))] [],[],[55],none⟩,
  ⟨.k (.st 1239 0 9),[.s 4,.s 1239,.s 55],[1239],none⟩,
  ⟨.k .mv,[.c (.b false)],[5],none⟩]) none .ret) .skip)) none (.seq (.reg [
  ⟨.k (.fa 1238 0 4),[.s 3],[56],none⟩,
  ⟨.k (.ld 1238 4 1 false),[.s 56,.s 1238],[57],none⟩,
  ⟨.k (.ix 5),[.s 57,.c (.i .i64 (0:Int))],[58],none⟩,
  ⟨.k (.fr 1 1 false),[.s 58],[59],none⟩,
  ⟨.k (.lr 1 false),[.s 59],[60],none⟩,
  ⟨.k (.ci .i64),[.s 60],[61],none⟩,
  ⟨.k (.fa 1238 0 4),[.s 3],[62],none⟩,
  ⟨.k (.ld 1238 4 1 false),[.s 62,.s 1238],[63],none⟩,
  ⟨.k (.ix 5),[.s 63,.c (.i .i64 (1:Int))],[64],none⟩,
  ⟨.k (.fr 2 1 false),[.s 64],[65],none⟩,
  ⟨.k (.lr 1 false),[.s 65],[66],none⟩,
  ⟨.k (.fa 1240 0 6),[.s 6],[67],none⟩,
  ⟨.k (.st 1240 6 1),[.s 67,.s 1240,.s 61],[1240],none⟩,
  ⟨.k (.fa 1240 0 7),[.s 6],[68],none⟩,
  ⟨.k (.st 1240 7 1),[.s 68,.s 1240,.s 66],[1240],none⟩]) none (.seq (.reg [
  ⟨.k (.ld 1240 0 9 true),[.s 6,.s 1240],[69],none⟩,
  ⟨.k (.fa 1238 0 4),[.s 3],[70],none⟩,
  ⟨.k (.ld 1238 4 1 false),[.s 70,.s 1238],[71],none⟩,
  ⟨.k (.ix 5),[.s 71,.c (.i .i64 (1:Int))],[72],none⟩,
  ⟨.k (.fr 0 1 false),[.s 72],[73],none⟩,
  ⟨.k (.lr 1 false),[.s 73],[74],none⟩,
  ⟨.k (.bin .eql),[.s 74,.c (.i .i64 (3:Int))],[75],none⟩,
  ⟨.k (.st 1239 0 9),[.s 4,.s 1239,.s 69],[1239],none⟩,
  ⟨.k .mv,[.s 75],[5],none⟩]) none .ret))) (.seq (.reg [
  ⟨.k (.bin .eql),[.s 25,.c (.i .i64 (7:Int))],[77],none⟩,
  ⟨.k .mv,[.s 77],[76],none⟩]) none (.cond (.s 76) [] (.seq (.reg [
  ⟨.k (.fa 1238 0 2),[.s 3],[78],none⟩,
  ⟨.k (.ld 1238 2 1 false),[.s 78,.s 1238],[79],none⟩,
  ⟨.k (.fa 1240 0 7),[.s 6],[80],none⟩,
  ⟨.k (.st 1240 7 1),[.s 80,.s 1240,.s 79],[1240],none⟩]) none (.seq (.reg [
  ⟨.k (.ld 1240 0 9 true),[.s 6,.s 1240],[81],none⟩,
  ⟨.k (.fa 1238 0 0),[.s 3],[82],none⟩,
  ⟨.k (.ld 1238 0 1 false),[.s 82,.s 1238],[83],none⟩,
  ⟨.k (.bin .eql),[.s 83,.c (.i .i64 (3:Int))],[84],none⟩,
  ⟨.k .mv,[.s 84],[85],none⟩,
  ⟨.k (.fa 1238 0 2),[.s 3],[86],some (85,true)⟩,
  ⟨.k (.ld 1238 2 1 false),[.s 86,.s 1238],[87],some (85,true)⟩,
  ⟨.k .len,[.s 87],[88],some (85,true)⟩,
  ⟨.k (.bin .eql),[.s 88,.c (.i .i64 (12:Int))],[89],some (85,true)⟩,
  ⟨.k .pick,[.s 85,.s 89,.c (.b false)],[90],none⟩,
  ⟨.k (.st 1239 0 9),[.s 4,.s 1239,.s 81],[1239],none⟩,
  ⟨.k .mv,[.s 90],[5],none⟩]) none .ret)) (.seq (.seq (.reg [
  ⟨.k (.bin .eql),[.s 25,.c (.i .i64 (9:Int))],[92],none⟩,
  ⟨.k .mv,[.s 92],[91],none⟩]) none (.cond (.s 91) [(3,.ptr 1238 0),(4,.ptr 1239 0),(6,.ptr 1240 0),(1238,.cl []),(1239,.cl []),(1240,.cl [])] .skip (.reg [
  ⟨.k (.bin .eql),[.s 25,.c (.i .i64 (18:Int))],[93],none⟩,
  ⟨.k .mv,[.s 93],[91],none⟩]))) (some [3,4,6,25,91,1238,1239,1240]) ref28_tagged.m3))))))) none (.seq (.reg [
  ⟨.bd [(.i .i64 (0:Int)),(.u64 (0:UInt64)),(.u64 (0:UInt64)),(.u64 (0:UInt64)),(.s ([]:Str)),(.s ([]:Str)),(.i .i64 (0:Int)),(.sl .bs ([]:List UInt8)),(.sl .fl ([]:List Fld))] [],[],[237],none⟩,
  ⟨.k (.st 1239 0 9),[.s 4,.s 1239,.s 237],[1239],none⟩,
  ⟨.k .mv,[.c (.b false)],[5],none⟩]) none .ret))))
def ref28_tagged.d:TFD:={ np:=2,m:=ref28_tagged.m,ref:=none,tips:=[],res:=[.c 4 1239 9 true,.t 5],own:=[],new:=none,tnew:=[] }
noncomputable def ref28_tagged.F (n:UInt64) (it:Itv):Option (List TV):=ref28_tagged.d.run ref28_tagged.E [(.u64 n),(.ag (Itv.cells it))]
noncomputable def ref28_tagged.k1:Cont (List TV):=seqK (ev _ ref28_tagged.E (.seq (.reg [
  ⟨.bd [(.i .i64 (0:Int)),(.u64 (0:UInt64)),(.u64 (0:UInt64)),(.u64 (0:UInt64)),(.s ([]:Str)),(.s ([]:Str)),(.i .i64 (0:Int)),(.sl .bs ([]:List UInt8)),(.sl .fl ([]:List Fld))] [],[],[237],none⟩,
  ⟨.k (.st 1239 0 9),[.s 4,.s 1239,.s 237],[1239],none⟩,
  ⟨.k .mv,[.c (.b false)],[5],none⟩]) none .ret)) none (endK ref28_tagged.d)
noncomputable def ref28_tagged.j1 (x0:Int) (x1:Bool) (x2:Itv) (x3:Val) (x4:Val):Option (List TV):=evO _ ref28_tagged.E ref28_tagged.m3 (headT [3,4,6,25,91,1238,1239,1240] [.pt,.pt,.pt,(.i .i64 x0),(.b x1),(.ag (Itv.cells x2)),(.ag (Val.cells x3)),(.ag (Val.cells x4))]) (blockK 0 ref28_tagged.k1)
noncomputable def ref28_tagged.j2 (x0:Int) (x1:Bool) (x2:Itv) (x3:Val) (x4:Val):Option (List TV):=evO _ ref28_tagged.E ref28_tagged.m2 (headT [3,4,6,25,180,1238,1239,1240] [.pt,.pt,.pt,(.i .i64 x0),(.b x1),(.ag (Itv.cells x2)),(.ag (Val.cells x3)),(.ag (Val.cells x4))]) (blockK 0 ref28_tagged.k1)
noncomputable def ref28_tagged.j3 (x0:Bool) (x1:Itv) (x2:Val) (x3:Val):Option (List TV):=evO _ ref28_tagged.E ref28_tagged.m1 (headT [3,4,6,225,1238,1239,1240] [.pt,.pt,.pt,(.b x0),(.ag (Itv.cells x1)),(.ag (Val.cells x2)),(.ag (Val.cells x3))]) (blockK 0 ref28_tagged.k1)
theorem ref28_tagged.j1_in (x0:Int) (x1:Bool) (x2:Itv) (x3:Val) (x4:Val) {ρ:Option (List TV)} (K:∀(v1:Bool) (h1:v1=((Db.number (Itm.of x2)).isSome)) (v2:UInt64) (h2:v2=(UInt64.ofInt (Db.numberI (Itm.of x2)))) (v3:Str) (h3:v3=(Itm.text (List.getD (Itv.kids x2) ((0:Int)).toNat (STy.dflt .il)))) (v4:Str) (h4:v4=(Itm.text (List.getD (Itv.kids x2) ((1:Int)).toNat (STy.dflt .il)))) (v5:Int) (h5:v5=(Itm.kind (List.getD (Itv.kids x2) ((0:Int)).toNat (STy.dflt .il)))) (v6:Int) (h6:v6=(Itm.kind (List.getD (Itv.kids x2) ((1:Int)).toNat (STy.dflt .il)))) (v7:Bool) (h7:v7=(cond (decide (v5=(4:Int))) (decide (v6=(4:Int))) false)) (v8:Bool) (h8:v8=(cond v7 (!(Utf.zero v3)) false)) (v9:Bool) (h9:v9=(cond v8 (!(Utf.zero v4)) false)) (v10:List UInt8) (h10:v10=(Itm.bytes (List.getD (Itv.kids x2) ((1:Int)).toNat (STy.dflt .il)))) (v11:Bool) (h11:v11=(cond (decide (v5=(4:Int))) (decide (v6=(3:Int))) false)) (v12:Bool) (h12:v12=(cond v11 (decide (((v10).length:Int)=(12:Int))) false)),cond x1
  (some [(.ag [(.i .i64 (Val.kind x4)),(.u64 v2),(.u64 (Val.high x4)),(.u64 (Val.low x4)),(.s (Val.text x4)),(.s (Val.more x4)),(.i .i64 (Val.sub x4)),(.sl .bs (Val.bytes x4)),(.sl .fl (Val.kids x4))]),(.b v1)])
  (cond (decide (x0=(11:Int)))
  (cond (!(decide ((x2).kind=5∧(x2).kids.length=2)))
  (some [(.ag [(.i .i64 (0:Int)),(.u64 (0:UInt64)),(.u64 (0:UInt64)),(.u64 (0:UInt64)),(.s ([]:Str)),(.s ([]:Str)),(.i .i64 (0:Int)),(.sl .bs ([]:List UInt8)),(.sl .fl ([]:List Fld))]),(.b false)])
  (ck (idxOK (0:Int) ((Itv.kids x2)).length) (ck (idxOK (1:Int) ((Itv.kids x2)).length) (ck (!(decide (v5=(4:Int))) || (decide (v5=(4:Int)))) (ck (!(decide (v5=(4:Int))) || (decide (v5=(4:Int)))) (ck (!(decide (v5=(4:Int))) || (decide (v5=(4:Int)))) (ck (!v7 || v7) (ck (!v7 || (v7&&(decide (v3.length≤1099511627776)))) (ck (!v7 || v7) (ck (!v7 || v7) (ck (!v8 || v8) (ck (!v8 || (v8&&(decide (v4.length≤1099511627776)))) (ck (!v8 || v8) (ck (!v8 || v8) (some [(.ag [(.i .i64 (Val.kind x4)),(.u64 (Val.bits x4)),(.u64 (Val.high x4)),(.u64 (Val.low x4)),(.s v3),(.s v4),(.i .i64 (Val.sub x4)),(.sl .bs (Val.bytes x4)),(.sl .fl (Val.kids x4))]),(.b v9)])))))))))))))))
  (cond (decide (x0=(12:Int)))
  (cond (!(decide ((x2).kind=5∧(x2).kids.length=2)))
  (some [(.ag [(.i .i64 (0:Int)),(.u64 (0:UInt64)),(.u64 (0:UInt64)),(.u64 (0:UInt64)),(.s ([]:Str)),(.s ([]:Str)),(.i .i64 (0:Int)),(.sl .bs ([]:List UInt8)),(.sl .fl ([]:List Fld))]),(.b false)])
  (ck (idxOK (0:Int) ((Itv.kids x2)).length) (ck (idxOK (1:Int) ((Itv.kids x2)).length) (ck (!(decide (v5=(4:Int))) || (decide (v5=(4:Int)))) (ck (!(decide (v5=(4:Int))) || (decide (v5=(4:Int)))) (ck (!(decide (v5=(4:Int))) || (decide (v5=(4:Int)))) (ck (!v11 || v11) (ck (!v11 || v11) (ck (!v11 || v11) (ck (!v11 || v11) (some [(.ag [(.i .i64 (Val.kind x4)),(.u64 (Val.bits x4)),(.u64 (Val.high x4)),(.u64 (Val.low x4)),(.s v3),(.s (Val.more x4)),(.i .i64 (Val.sub x4)),(.sl .bs v10),(.sl .fl (Val.kids x4))]),(.b v12)])))))))))))
  (cond (decide (x0=(13:Int)))
  (ref28_tagged.j2 x0 (decide (x0=(13:Int))) x2 x3 x4)
  (ref28_tagged.j2 x0 (decide (x0=(14:Int))) x2 x3 x4))))=ρ):ref28_tagged.j1 x0 x1 x2 x3 x4=ρ:=((congrFun (congrFun (ev_eq _ _) _) _).trans (by kernel_rfl)).trans (K _ rfl _ rfl _ rfl _ rfl _ rfl _ rfl _ rfl _ rfl _ rfl _ rfl _ rfl _ rfl)
theorem ref28_tagged.j2_in (x0:Int) (x1:Bool) (x2:Itv) (x3:Val) (x4:Val) {ρ:Option (List TV)} (K:∀(v1:UInt64) (h1:v1=(Cur.be (Mp.rng ((Itv.bytes x2)) ((0:Int)) ((8:Int))))) (v2:Bool) (h2:v2=(Mp.rngOK ((Itv.bytes x2)) ((0:Int)) ((8:Int)))) (v3:UInt64) (h3:v3=(Cur.be (Mp.rng ((Itv.bytes x2)) ((8:Int)) ((8:Int))))) (v4:Bool) (h4:v4=(Mp.rngOK ((Itv.bytes x2)) ((8:Int)) ((8:Int)))) (v5:Int) (h5:v5=(((Itv.bytes x2)).length:Int)) (v6:Bool) (h6:v6=(cond (decide ((Itv.kind x2)=(3:Int))) (decide (v5=(16:Int))) false)),cond x1
  (some [(.ag [(.i .i64 (Val.kind x4)),(.u64 (Val.bits x4)),(.u64 (Val.high x4)),(.u64 (Val.low x4)),(.s (Itv.text x2)),(.s (Val.more x4)),(.i .i64 (Val.sub x4)),(.sl .bs (Val.bytes x4)),(.sl .fl (Val.kids x4))]),(.b (decide ((Itv.kind x2)=(4:Int))))])
  (cond (decide (x0=(17:Int)))
  (some [(.ag [(.i .i64 (Val.kind x4)),(.u64 (Itv.n x2)),(.u64 (Val.high x4)),(.u64 (Val.low x4)),(.s (Val.text x4)),(.s (Val.more x4)),(.i .i64 (Val.sub x4)),(.sl .bs (Val.bytes x4)),(.sl .fl (Val.kids x4))]),(.b (decide ((Itv.kind x2)=(1:Int))))])
  (cond (decide (x0=(19:Int)))
  (ck (decide ((((Itv.bytes x2))).length≤1099511627776)) (ck (decide ((((Itv.bytes x2))).length≤1099511627776)) (ck (!(decide ((Itv.kind x2)=(3:Int))) || (decide ((Itv.kind x2)=(3:Int)))) (ck (!(decide ((Itv.kind x2)=(3:Int))) || (decide ((Itv.kind x2)=(3:Int)))) (ck (!(decide ((Itv.kind x2)=(3:Int))) || (decide ((Itv.kind x2)=(3:Int)))) (ck (!(decide ((Itv.kind x2)=(3:Int))) || (decide ((Itv.kind x2)=(3:Int)))) (some [(.ag [(.i .i64 (Val.kind x4)),(.u64 (Val.bits x4)),(.u64 v1),(.u64 v3),(.s (Val.text x4)),(.s (Val.more x4)),(.i .i64 (Val.sub x4)),(.sl .bs (Val.bytes x4)),(.sl .fl (Val.kids x4))]),(.b v6)])))))))
  (cond (decide (x0=(255:Int)))
  (ref28_tagged.j3 (decide (x0=(255:Int))) x2 x3 x4)
  (ref28_tagged.j3 (decide (x0=(127:Int))) x2 x3 x4))))=ρ):ref28_tagged.j2 x0 x1 x2 x3 x4=ρ:=((congrFun (congrFun (ev_eq _ _) _) _).trans (by kernel_rfl)).trans (K _ rfl _ rfl _ rfl _ rfl _ rfl _ rfl)
theorem ref28_tagged.j3_in (x0:Bool) (x1:Itv) (x2:Val) (x3:Val) {ρ:Option (List TV)} (K:∀(v1:Bool) (h1:v1=(cond (decide ((Itv.kind x1)=(8:Int))) (decide ((Itv.n x1)=(22:UInt64))) false)),cond x0
  (ck (!(decide ((Itv.kind x1)=(8:Int))) || (decide ((Itv.kind x1)=(8:Int)))) (ck (!(decide ((Itv.kind x1)=(8:Int))) || (decide ((Itv.kind x1)=(8:Int)))) (ck (!(decide ((Itv.kind x1)=(8:Int))) || (decide ((Itv.kind x1)=(8:Int)))) (some [(.ag (Val.cells x3)),(.b v1)]))))
  (some [(.ag [(.i .i64 (0:Int)),(.u64 (0:UInt64)),(.u64 (0:UInt64)),(.u64 (0:UInt64)),(.s ([]:Str)),(.s ([]:Str)),(.i .i64 (0:Int)),(.sl .bs ([]:List UInt8)),(.sl .fl ([]:List Fld))]),(.b false)])=ρ):ref28_tagged.j3 x0 x1 x2 x3=ρ:=((congrFun (congrFun (ev_eq _ _) _) _).trans (by kernel_rfl)).trans (K _ rfl)
theorem ref28_tagged.F_in (n:UInt64) (it:Itv) {ρ:Option (List TV)} (K:∀(v1:Bool) (h1:v1=(cond (decide (n<(1000:UInt64))) true (decide ((1255:UInt64)<n)))) (v2:Int) (h2:v2=(IntKind.i64.wrap (((n - (1000:UInt64))).toNat:Int))) (v3:Bool) (h3:v3=(!(!(decide ((it).kind=5∧(it).kids.length=2))))) (v4:Int) (h4:v4=(Itm.kind (List.getD (Itv.kids it) ((0:Int)).toNat (STy.dflt .il)))) (v5:Bool) (h5:v5=(cond (!(decide ((it).kind=5∧(it).kids.length=2))) true (!decide (v4=(1:Int))))) (v6:UInt64) (h6:v6=(Itm.n (List.getD (Itv.kids it) ((0:Int)).toNat (STy.dflt .il)))) (v7:Bool) (h7:v7=(cond v5 true (decide (v6<(1:UInt64))))) (v8:Bool) (h8:v8=(cond v7 true (decide ((255:UInt64)<v6)))) (v9:Int) (h9:v9=(IntKind.i64.wrap ((v6).toNat:Int))) (v10:List UInt8) (h10:v10=(Itm.bytes (List.getD (Itv.kids it) ((1:Int)).toNat (STy.dflt .il)))) (v11:Int) (h11:v11=(Itm.kind (List.getD (Itv.kids it) ((1:Int)).toNat (STy.dflt .il)))) (v12:Int) (h12:v12=(((Itv.bytes it)).length:Int)) (v13:Bool) (h13:v13=(cond (decide ((Itv.kind it)=(3:Int))) (decide (v12=(12:Int))) false)),ck (!(!(decide (n<(1000:UInt64)))) || (!(decide (n<(1000:UInt64))))) (ck ((decide (n<(1000:UInt64))) || (!(decide (n<(1000:UInt64))))) (cond v1
  (some [(.ag [(.i .i64 (0:Int)),(.u64 (0:UInt64)),(.u64 (0:UInt64)),(.u64 (0:UInt64)),(.s ([]:Str)),(.s ([]:Str)),(.i .i64 (0:Int)),(.sl .bs ([]:List UInt8)),(.sl .fl ([]:List Fld))]),(.b false)])
  (cond (decide (v2=(5:Int)))
  (ck (!v3 || v3) (ck (!v3 || (v3&&(idxOK (0:Int) ((Itv.kids it)).length))) (ck (!v3 || v3) (ck (!v3 || v3) (ck (!v3 || v3) (ck ((!(decide ((it).kind=5∧(it).kids.length=2))) || v3) (ck (!(!v5) || (!v5)) (ck (!(!v5) || ((!v5)&&(idxOK (0:Int) ((Itv.kids it)).length))) (ck (!(!v5) || (!v5)) (ck (!(!v5) || (!v5)) (ck (!(!v5) || (!v5)) (ck (v5 || (!v5)) (ck (!(!v7) || (!v7)) (ck (!(!v7) || ((!v7)&&(idxOK (0:Int) ((Itv.kids it)).length))) (ck (!(!v7) || (!v7)) (ck (!(!v7) || (!v7)) (ck (!(!v7) || (!v7)) (ck (v7 || (!v7)) (cond v8
  (some [(.ag [(.i .i64 (0:Int)),(.u64 (0:UInt64)),(.u64 (0:UInt64)),(.u64 (0:UInt64)),(.s ([]:Str)),(.s ([]:Str)),(.i .i64 (0:Int)),(.sl .bs ([]:List UInt8)),(.sl .fl ([]:List Fld))]),(.b false)])
  (ck (idxOK (0:Int) ((Itv.kids it)).length) (ck (idxOK (1:Int) ((Itv.kids it)).length) (ck (idxOK (1:Int) ((Itv.kids it)).length) (some [(.ag [(.i .i64 v2),(.u64 (0:UInt64)),(.u64 (0:UInt64)),(.u64 (0:UInt64)),(.s ([]:Str)),(.s ([]:Str)),(.i .i64 v9),(.sl .bs v10),(.sl .fl ([]:List Fld))]),(.b (decide (v11=(3:Int))))])))))))))))))))))))))))
  (cond (decide (v2=(7:Int)))
  (ck (!(decide ((Itv.kind it)=(3:Int))) || (decide ((Itv.kind it)=(3:Int)))) (ck (!(decide ((Itv.kind it)=(3:Int))) || (decide ((Itv.kind it)=(3:Int)))) (ck (!(decide ((Itv.kind it)=(3:Int))) || (decide ((Itv.kind it)=(3:Int)))) (ck (!(decide ((Itv.kind it)=(3:Int))) || (decide ((Itv.kind it)=(3:Int)))) (some [(.ag [(.i .i64 v2),(.u64 (0:UInt64)),(.u64 (0:UInt64)),(.u64 (0:UInt64)),(.s ([]:Str)),(.s ([]:Str)),(.i .i64 (0:Int)),(.sl .bs (Itv.bytes it)),(.sl .fl ([]:List Fld))]),(.b v13)])))))
  (cond (decide (v2=(9:Int)))
  (ref28_tagged.j1 v2 (decide (v2=(9:Int))) it (Val.mk (0:Int) (0:UInt64) (0:UInt64) (0:UInt64) ([]:Str) ([]:Str) (0:Int) ([]:List UInt8) ([]:List Fld)) (Val.mk v2 (0:UInt64) (0:UInt64) (0:UInt64) ([]:Str) ([]:Str) (0:Int) ([]:List UInt8) ([]:List Fld)))
  (ref28_tagged.j1 v2 (decide (v2=(18:Int))) it (Val.mk (0:Int) (0:UInt64) (0:UInt64) (0:UInt64) ([]:Str) ([]:Str) (0:Int) ([]:List UInt8) ([]:List Fld)) (Val.mk v2 (0:UInt64) (0:UInt64) (0:UInt64) ([]:Str) ([]:Str) (0:Int) ([]:List UInt8) ([]:List Fld))))))))=ρ):ref28_tagged.F n it=ρ:=Eq.trans (by kernel_rfl) (K _ rfl _ rfl _ rfl _ rfl _ rfl _ rfl _ rfl _ rfl _ rfl _ rfl _ rfl _ rfl _ rfl)
theorem ref28_tagged.chk:((Go.Proofs.Tryd.prog.funcs[77]?).any fun fn=>chkF Go.Proofs.Tryd.prog (fun k=>((envL trydbGl ref28_tagged.env).fs k).2) fn ref28_tagged.d.erase)=true:=by kernel_rfl
end
noncomputable section
def ref28_done.env:List (Nat × (Ctr × FSig)):=[]
def ref28_done.E:TEnv:=envL trydbGl ref28_done.env
def ref28_done.m:TM := .seq (.reg [
  ⟨.k (.bx 1013),[.s 0,.s 1013],[2,1013],none⟩,
  ⟨.k (.bx 1014),[.s 1,.s 1014],[3,1014],none⟩,
  ⟨.al 1015 [(.i .i64 (0:Int)),(.u64 (0:UInt64)),(.u64 (0:UInt64)),(.u64 (0:UInt64)),(.s ([]:Str)),(.s ([]:Str)),(.i .i64 (0:Int)),(.sl .bs ([]:List UInt8)),(.sl .fl ([]:List Fld))] [],[.s 1015],[4,1015],none⟩,
  ⟨.al 1016 [(.i .i64 (0:Int)),(.i .i64 (0:Int)),(.sl .is ([]:List Int))] [],[.s 1016],[5,1016],none⟩]) none (.seq (.seq (.reg [
  ⟨.k (.fa 1014 0 0),[.s 3],[6],none⟩,
  ⟨.k (.ld 1014 0 1 false),[.s 6,.s 1014],[7],none⟩,
  ⟨.k (.bin .neq),[.s 7,.c (.i .i64 (0:Int))],[8],none⟩]) none (.cond (.s 8) [] (.seq (.reg [
  ⟨.bd [(.i .i64 (0:Int)),(.u64 (0:UInt64)),(.u64 (0:UInt64)),(.u64 (0:UInt64)),(.s ([]:Str)),(.s ([]:Str)),(.i .i64 (0:Int)),(.sl .bs ([]:List UInt8)),(.sl .fl ([]:List Fld))] [],[],[9],none⟩,
  ⟨.k (.ld 1014 0 3 true),[.s 3,.s 1014],[10],none⟩,
  ⟨.k (.st 1015 0 9),[.s 4,.s 1015,.s 9],[1015],none⟩,
  ⟨.k (.st 1016 0 3),[.s 5,.s 1016,.s 10],[1016],none⟩]) none .ret) .skip)) none (.seq (.reg [
  ⟨.k (.ld 1013 0 9 true),[.s 2,.s 1013],[11],none⟩,
  ⟨.k (.ld 1014 0 3 true),[.s 3,.s 1014],[12],none⟩,
  ⟨.k (.st 1015 0 9),[.s 4,.s 1015,.s 11],[1015],none⟩,
  ⟨.k (.st 1016 0 3),[.s 5,.s 1016,.s 12],[1016],none⟩]) none .ret))
def ref28_done.d:TFD:={ np:=2,m:=ref28_done.m,ref:=none,tips:=[],res:=[.c 4 1015 9 true,.c 5 1016 3 true],own:=[],new:=none,tnew:=[] }
noncomputable def ref28_done.F (v:Val) (f:Flt):Option (List TV):=ref28_done.d.run ref28_done.E [(.ag (Val.cells v)),(.ag (Flt.cells f))]
theorem ref28_done.F_eq (v:Val) (f:Flt):ref28_done.F v f=cond (!decide ((Flt.err f)=(0:Int)))
  (some [(.ag [(.i .i64 (0:Int)),(.u64 (0:UInt64)),(.u64 (0:UInt64)),(.u64 (0:UInt64)),(.s ([]:Str)),(.s ([]:Str)),(.i .i64 (0:Int)),(.sl .bs ([]:List UInt8)),(.sl .fl ([]:List Fld))]),(.ag (Flt.cells f))])
  (some [(.ag (Val.cells v)),(.ag (Flt.cells f))]):=by kernel_rfl
theorem ref28_done.chk:((Go.Proofs.Tryd.prog.funcs[30]?).any fun fn=>chkF Go.Proofs.Tryd.prog (fun k=>((envL trydbGl ref28_done.env).fs k).2) fn ref28_done.d.erase)=true:=by kernel_rfl
end
noncomputable section
def ref28_fields.env (n:Nat):List (Nat × (Ctr × FSig)):=[(45,(ref2_Zero.c,ref2_Zero.sg)),(46,(ref28_longer.c,ref28_longer.sg)),(47,(ref28_value.cn n,ref28_value.sg))]
def ref28_fields.E (n:Nat):TEnv:=envL trydbGl (ref28_fields.env n)
def ref28_fields.m1:TM := .seq (.seq (.reg [
  ⟨.k .mv,[.s 7],[11],none⟩,
  ⟨.k (.fa 1062 0 4),[.s 2],[12],none⟩,
  ⟨.k (.ld 1062 4 1 false),[.s 12,.s 1062],[13],none⟩,
  ⟨.k .len,[.s 13],[14],none⟩,
  ⟨.k (.bin .lss),[.s 11,.s 14],[15],none⟩]) none (.cond (.s 15) [] .skip (.exit 0))) none (.seq (.block 1 [(2,.ptr 1062 0),(5,.ptr 1063 0),(6,.tip 111 10),(1062,.cl []),(1063,.cl []),(lk 111,.live 10)] (.seq (.reg [
  ⟨.k (.fa 1062 0 4),[.s 2],[18],none⟩,
  ⟨.k (.ld 1062 4 1 false),[.s 18,.s 1062],[19],none⟩,
  ⟨.k .mv,[.s 7],[20],none⟩,
  ⟨.k (.ix 5),[.s 19,.s 20],[21],none⟩,
  ⟨.k (.lr 5 true),[.s 21],[22],none⟩,
  ⟨.al 1064 [(.i .i64 (0:Int)),(.u64 (0:UInt64)),(.sl .bs ([]:List UInt8)),(.s ([]:Str)),(.sl .il ([]:List Itm))] [],[.s 1064],[8,1064],none⟩,
  ⟨.k (.st 1064 0 5),[.s 8,.s 1064,.s 22],[1064],none⟩]) none (.seq (.seq (.reg [
  ⟨.k (.fa 1064 0 0),[.s 8],[23],none⟩,
  ⟨.k (.ld 1064 0 1 false),[.s 23,.s 1064],[24],none⟩,
  ⟨.k (.bin .neq),[.s 24,.c (.i .i64 (4:Int))],[25],none⟩,
  ⟨.k .mv,[.s 25],[26],none⟩,
  ⟨.k (.fa 1064 0 3),[.s 8],[27],some (26,false)⟩,
  ⟨.k (.ld 1064 3 1 false),[.s 27,.s 1064],[28],some (26,false)⟩,
  ⟨.k (.call 45 (.plain 1 1)),[.s 28],[29],some (26,false)⟩,
  ⟨.k .pick,[.s 26,.c (.b true),.s 29],[30],none⟩]) none (.cond (.s 30) [] (.seq (.reg [
  ⟨.k .mv,[.s 1],[31],none⟩,
  ⟨.k .mv,[.s 7],[32],none⟩,
  ⟨.k (.call 46 (.plain 2 1)),[.s 31,.s 32],[33],none⟩,
  ⟨.bd [(.i .i64 (0:Int)),(.i .i64 (0:Int)),(.sl .is ([]:List Int))] [(0,1),(2,1)],[.c (.i .i64 (12:Int)),.s 33],[34],none⟩,
  ⟨.k .mv,[.c (.sl .fl ([]:List Fld))],[4],none⟩,
  ⟨.k (.st 1063 0 3),[.s 5,.s 1063,.s 34],[1063],none⟩]) none .ret) .skip)) none (.seq (.reg [
  ⟨.k (.fa 1062 0 4),[.s 2],[36],none⟩,
  ⟨.k (.ld 1062 4 1 false),[.s 36,.s 1062],[37],none⟩,
  ⟨.k .mv,[.s 7],[38],none⟩,
  ⟨.k (.bin .add),[.s 38,.c (.i .i64 (1:Int))],[39],none⟩,
  ⟨.k (.ix 5),[.s 37,.s 39],[40],none⟩,
  ⟨.k (.lr 5 true),[.s 40],[41],none⟩,
  ⟨.k .mv,[.s 1],[42],none⟩,
  ⟨.k .mv,[.s 7],[43],none⟩,
  ⟨.k (.bin .add),[.s 43,.c (.i .i64 (1:Int))],[44],none⟩,
  ⟨.k (.call 46 (.plain 2 1)),[.s 42,.s 44],[45],none⟩,
  ⟨.k (.call 47 (.plain 2 2)),[.s 41,.s 45],[46],none⟩,
  ⟨.k .mv,[.s 46],[35],none⟩,
  ⟨.k (.ex 0),[.s 35],[47],none⟩,
  ⟨.k (.ex 1),[.s 35],[48],none⟩,
  ⟨.al 1065 [(.i .i64 (0:Int)),(.u64 (0:UInt64)),(.u64 (0:UInt64)),(.u64 (0:UInt64)),(.s ([]:Str)),(.s ([]:Str)),(.i .i64 (0:Int)),(.sl .bs ([]:List UInt8)),(.sl .fl ([]:List Fld))] [],[.s 1065],[9,1065],none⟩,
  ⟨.al 1066 [(.i .i64 (0:Int)),(.i .i64 (0:Int)),(.sl .is ([]:List Int))] [],[.s 1066],[10,1066],none⟩,
  ⟨.k (.st 1065 0 9),[.s 9,.s 1065,.s 47],[1065],none⟩,
  ⟨.k (.st 1066 0 3),[.s 10,.s 1066,.s 48],[1066],none⟩]) none (.seq (.seq (.reg [
  ⟨.k (.fa 1066 0 0),[.s 10],[49],none⟩,
  ⟨.k (.ld 1066 0 1 false),[.s 49,.s 1066],[50],none⟩,
  ⟨.k (.bin .neq),[.s 50,.c (.i .i64 (0:Int))],[51],none⟩]) none (.cond (.s 51) [] (.seq (.reg [
  ⟨.k (.ld 1066 0 3 true),[.s 10,.s 1066],[52],none⟩,
  ⟨.k .mv,[.c (.sl .fl ([]:List Fld))],[4],none⟩,
  ⟨.k (.st 1063 0 3),[.s 5,.s 1063,.s 52],[1063],none⟩]) none .ret) .skip)) none (.reg [
  ⟨.k .mv,[.s 6],[53],none⟩,
  ⟨.k (.fa 1064 0 3),[.s 8],[54],none⟩,
  ⟨.k (.ld 1064 3 1 false),[.s 54,.s 1064],[55],none⟩,
  ⟨.k (.ld 1065 0 9 true),[.s 9,.s 1065],[56],none⟩,
  ⟨.bd [(.s ([]:Str)),(.i .i64 (0:Int)),(.u64 (0:UInt64)),(.u64 (0:UInt64)),(.u64 (0:UInt64)),(.s ([]:Str)),(.s ([]:Str)),(.i .i64 (0:Int)),(.sl .bs ([]:List UInt8)),(.sl .fl ([]:List Fld))] [(0,1),(1,9)],[.s 55,.s 56],[57],none⟩,
  ⟨.bl .fl 1,[.s 57],[58],none⟩,
  ⟨.k (.ap 102 111 10 136),[.s 53,.s 58,.s (lk 102),.s (lk 111)],[59,lk 102,lk 111],none⟩,
  ⟨.k .mv,[.s 59],[6],none⟩])))))) none (.reg [
  ⟨.k .mv,[.s 7],[16],none⟩,
  ⟨.k (.bin .add),[.s 16,.c (.i .i64 (2:Int))],[17],none⟩,
  ⟨.k .mv,[.s 17],[7],none⟩]))
def ref28_fields.m:TM := .seq (.reg [
  ⟨.k (.bx 1062),[.s 0,.s 1062],[2,1062],none⟩,
  ⟨.k .mv,[.c (.sl .fl ([]:List Fld))],[4],none⟩,
  ⟨.al 1063 [(.i .i64 (0:Int)),(.i .i64 (0:Int)),(.sl .is ([]:List Int))] [],[.s 1063],[5,1063],none⟩]) none (.seq (.reg [
  ⟨.nl .fl 102,[.s (lk 102)],[6,lk 102],none⟩]) none (.seq (.seq (.reg [
  ⟨.k .mv,[.c (.i .i64 (0:Int))],[7],none⟩]) none (.block 0 [(5,.ptr 1063 0),(6,.tip 102 10),(1063,.cl []),(lk 102,.live 10)] (.loop [1,2,5,6,7,1062,1063] [(2,.ptr 1062 0),(5,.ptr 1063 0),(6,.tip 102 10),(1062,.cl []),(1063,.cl []),(lk 102,.live 10)] ref28_fields.m1))) none (.seq (.reg [
  ⟨.k .mv,[.s 6],[60],none⟩,
  ⟨.bd [(.i .i64 (0:Int)),(.i .i64 (0:Int)),(.sl .is ([]:List Int))] [],[],[61],none⟩,
  ⟨.k .mv,[.s 60],[4],none⟩,
  ⟨.k (.st 1063 0 3),[.s 5,.s 1063,.s 61],[1063],none⟩]) none .ret)))
def ref28_fields.d:TFD:={ np:=2,m:=ref28_fields.m,ref:=none,tips:=[],res:=[.t 4,.c 5 1063 3 true],own:=[],new:=none,tnew:=[] }
noncomputable def ref28_fields.F (n:Nat) (it:Itv) (p:List Int):Option (List TV):=ref28_fields.d.run (ref28_fields.E n) [(.ag (Itv.cells it)),(.sl .is p)]
noncomputable def ref28_fields.k1 (n:Nat):Cont (List TV):=seqK (ev _ (ref28_fields.E n) (.seq (.reg [
  ⟨.k .mv,[.s 6],[60],none⟩,
  ⟨.bd [(.i .i64 (0:Int)),(.i .i64 (0:Int)),(.sl .is ([]:List Int))] [],[],[61],none⟩,
  ⟨.k .mv,[.s 60],[4],none⟩,
  ⟨.k (.st 1063 0 3),[.s 5,.s 1063,.s 61],[1063],none⟩]) none .ret)) none (endK ref28_fields.d)
noncomputable def ref28_fields.l1 (n:Nat) (x0:List Int) (x1:List Fld) (x2:Int) (x3:Itv) (x4:Flt):Option (List TV):=loopL (evO _ (ref28_fields.E n) ref28_fields.m1) isN [1,2,5,6,7,1062,1063] (headT [1,2,5,6,7,1062,1063] [(.sl .is x0),.pt,.pt,(.sl .fl x1),(.i .i64 x2),(.ag (Itv.cells x3)),(.ag (Flt.cells x4))]) (blockK 0 (ref28_fields.k1 n))
theorem ref28_fields.l1_in (n:Nat) (x0:List Int) (x1:List Fld) (x2:Int) (x3:Itv) (x4:Flt) {ρ:Option (List TV)} (K:∀(v1:Int) (h1:v1=(((Itv.kids x3)).length:Int)) (v2:Int) (h2:v2=(Itm.kind (List.getD (Itv.kids x3) (x2).toNat (STy.dflt .il)))) (v3:Bool) (h3:v3=(!(!decide (v2=(4:Int))))) (v4:Str) (h4:v4=(Itm.text (List.getD (Itv.kids x3) (x2).toNat (STy.dflt .il)))) (v5:Bool) (h5:v5=(cond (!decide (v2=(4:Int))) true (Utf.zero v4))) (v6:Int) (h6:v6=(IntKind.i64.wrap (x2+(1:Int)))) (v7:Val) (h7:v7=(Db.Got.val (Db.value (Itm.of (Itm.val (List.getD (Itv.kids x3) (v6).toNat (STy.dflt .il)))) (((x0++[v6])))))) (v8:Flt) (h8:v8=(Db.Got.flt (Db.value (Itm.of (Itm.val (List.getD (Itv.kids x3) (v6).toNat (STy.dflt .il)))) (((x0++[v6])))))) (v9:List Fld) (h9:v9=([(Fld.mk v4 (Val.kind v7) (Val.bits v7) (Val.high v7) (Val.low v7) (Val.text v7) (Val.more v7) (Val.sub v7) (Val.bytes v7) (Val.kids v7))]:List Fld)) (v10:Int) (h10:v10=(IntKind.i64.wrap (x2+(2:Int)))),cond (decide (x2<v1))
  (ck (idxOK x2 ((Itv.kids x3)).length) (ck (!v3 || v3) (ck (!v3 || (v3&&(decide (v4.length≤1099511627776)))) (ck ((!decide (v2=(4:Int))) || v3) (cond v5
  (ck (decide (x0.length≤1099511627776)) (some [(.sl .fl ([]:List Fld)),(.ag [(.i .i64 (12:Int)),(.i .i64 (0:Int)),(.sl .is ((x0++[x2])))])]))
  (ck (idxOK v6 ((Itv.kids x3)).length) (ck (decide (x0.length≤1099511627776)) (ck ((decide (Itm.bulk (Itm.of (Itm.val (List.getD (Itv.kids x3) (v6).toNat (STy.dflt .il))))+((((x0++[v6])))).length≤1073741824)&&decide (Cb.chk (Itm.of (Itm.val (List.getD (Itv.kids x3) (v6).toNat (STy.dflt .il))))=0))&&decide ((2 * Itm.bulk (Itm.of (Itm.val (List.getD (Itv.kids x3) (v6).toNat (STy.dflt .il))))+1)<n)) (cond (!decide ((Flt.err v8)=(0:Int)))
  (some [(.sl .fl ([]:List Fld)),(.ag (Flt.cells v8))])
  (ck (apOK ((x1).length+(v9).length) 136) (ref28_fields.l1 n x0 (x1++v9) v10 x3 x4)))))))))))
  (some [(.sl .fl x1),(.ag [(.i .i64 (0:Int)),(.i .i64 (0:Int)),(.sl .is ([]:List Int))])])=ρ):ref28_fields.l1 n x0 x1 x2 x3 x4=ρ:=((ev_loop _ _ _ _ _ _).trans (by kernel_rfl)).trans (K _ rfl _ rfl _ rfl _ rfl _ rfl _ rfl _ rfl _ rfl _ rfl _ rfl)
theorem ref28_fields.F_eq (n:Nat) (it:Itv) (p:List Int):ref28_fields.F n it p=ref28_fields.l1 n p ([]:List Fld) (0:Int) it (Flt.mk (0:Int) (0:Int) ([]:List Int)):=by kernel_rfl
theorem ref28_fields.chk (n:Nat):((Go.Proofs.Tryd.prog.funcs[29]?).any fun fn=>chkF Go.Proofs.Tryd.prog (fun k=>((envL trydbGl (ref28_fields.env n)).fs k).2) fn ref28_fields.d.erase)=true:=by kernel_rfl
end
noncomputable section
def ref28_value.env (n:Nat):List (Nat × (Ctr × FSig)):=[(29,(ref28_fields.cn n,ref28_fields.sg)),(30,(ref28_done.c,ref28_done.sg)),(46,(ref28_longer.c,ref28_longer.sg)),(47,(ref28_value.cn n,ref28_value.sg)),(73,(ref28_Half.c,ref28_Half.sg)),(74,(ref5_Digits.c,ref5_Digits.sg)),(75,(ref28_regular.c,ref28_regular.sg)),(76,(ref28_pair.c,ref28_pair.sg)),(77,(ref28_tagged.c,ref28_tagged.sg))]
def ref28_value.E (n:Nat):TEnv:=envL trydbGl (ref28_value.env n)
def ref28_value.m1:TM := .seq (.seq (.reg [
  ⟨.k .mv,[.s 12],[92],none⟩,
  ⟨.k (.fa 1218 0 4),[.s 2],[93],none⟩,
  ⟨.k (.ld 1218 4 1 false),[.s 93,.s 1218],[94],none⟩,
  ⟨.k .len,[.s 94],[95],none⟩,
  ⟨.k (.bin .lss),[.s 92,.s 95],[96],none⟩]) none (.cond (.s 96) [] .skip (.exit 2))) none (.seq (.block 3 [(2,.ptr 1218 0),(4,.ptr 1219 0),(5,.ptr 1220 0),(11,.ptr 1224 0),(1218,.cl []),(1219,.cl []),(1220,.cl []),(1224,.cl [(8,137,10)]),(lk 137,.live 10)] (.seq (.reg [
  ⟨.k (.fa 1218 0 4),[.s 2],[100],none⟩,
  ⟨.k (.ld 1218 4 1 false),[.s 100,.s 1218],[101],none⟩,
  ⟨.k .mv,[.s 12],[102],none⟩,
  ⟨.k (.ix 5),[.s 101,.s 102],[103],none⟩,
  ⟨.k (.lr 5 true),[.s 103],[104],none⟩,
  ⟨.k .mv,[.s 1],[105],none⟩,
  ⟨.k .mv,[.s 12],[106],none⟩,
  ⟨.k (.call 46 (.plain 2 1)),[.s 105,.s 106],[107],none⟩,
  ⟨.k (.call 47 (.plain 2 2)),[.s 104,.s 107],[108],none⟩,
  ⟨.k .mv,[.s 108],[99],none⟩,
  ⟨.k (.ex 0),[.s 99],[109],none⟩,
  ⟨.k (.ex 1),[.s 99],[110],none⟩,
  ⟨.al 1225 [(.i .i64 (0:Int)),(.u64 (0:UInt64)),(.u64 (0:UInt64)),(.u64 (0:UInt64)),(.s ([]:Str)),(.s ([]:Str)),(.i .i64 (0:Int)),(.sl .bs ([]:List UInt8)),(.sl .fl ([]:List Fld))] [],[.s 1225],[13,1225],none⟩,
  ⟨.al 1226 [(.i .i64 (0:Int)),(.i .i64 (0:Int)),(.sl .is ([]:List Int))] [],[.s 1226],[14,1226],none⟩,
  ⟨.k (.st 1225 0 9),[.s 13,.s 1225,.s 109],[1225],none⟩,
  ⟨.k (.st 1226 0 3),[.s 14,.s 1226,.s 110],[1226],none⟩]) none (.seq (.seq (.reg [
  ⟨.k (.fa 1226 0 0),[.s 14],[111],none⟩,
  ⟨.k (.ld 1226 0 1 false),[.s 111,.s 1226],[112],none⟩,
  ⟨.k (.bin .neq),[.s 112,.c (.i .i64 (0:Int))],[113],none⟩]) none (.cond (.s 113) [] (.seq (.reg [
  ⟨.bd [(.i .i64 (0:Int)),(.u64 (0:UInt64)),(.u64 (0:UInt64)),(.u64 (0:UInt64)),(.s ([]:Str)),(.s ([]:Str)),(.i .i64 (0:Int)),(.sl .bs ([]:List UInt8)),(.sl .fl ([]:List Fld))] [],[],[114],none⟩,
  ⟨.k (.ld 1226 0 3 true),[.s 14,.s 1226],[115],none⟩,
  ⟨.k (.st 1219 0 9),[.s 4,.s 1219,.s 114],[1219],none⟩,
  ⟨.k (.st 1220 0 3),[.s 5,.s 1220,.s 115],[1220],none⟩]) none .ret) .skip)) none (.reg [
  ⟨.k (.fa 1224 0 8),[.s 11],[116],none⟩,
  ⟨.k (.ld 1224 8 1 false),[.s 116,.s 1224],[117],none⟩,
  ⟨.k .mv,[.s 12],[118],none⟩,
  ⟨.k (.ci .u64),[.s 118],[119],none⟩,
  ⟨.k (.call 74 (.plain 1 1)),[.s 119],[120],none⟩,
  ⟨.k (.ld 1225 0 9 true),[.s 13,.s 1225],[121],none⟩,
  ⟨.bd [(.s ([]:Str)),(.i .i64 (0:Int)),(.u64 (0:UInt64)),(.u64 (0:UInt64)),(.u64 (0:UInt64)),(.s ([]:Str)),(.s ([]:Str)),(.i .i64 (0:Int)),(.sl .bs ([]:List UInt8)),(.sl .fl ([]:List Fld))] [(0,1),(1,9)],[.s 120,.s 121],[122],none⟩,
  ⟨.bl .fl 1,[.s 122],[123],none⟩,
  ⟨.k (.ap 130 137 10 136),[.s 117,.s 123,.s (lk 130),.s (lk 137)],[124,lk 130,lk 137],none⟩,
  ⟨.k (.fa 1224 0 8),[.s 11],[125],none⟩,
  ⟨.k (.st 1224 8 1),[.s 125,.s 1224,.s 124],[1224],none⟩])))) none (.reg [
  ⟨.k .mv,[.s 12],[97],none⟩,
  ⟨.k (.bin .add),[.s 97,.c (.i .i64 (1:Int))],[98],none⟩,
  ⟨.k .mv,[.s 98],[12],none⟩]))
def ref28_value.m2:TM := .cond (.s 26) [] (.seq (.reg [
  ⟨.k (.ld 1218 0 5 true),[.s 2,.s 1218],[30],none⟩,
  ⟨.k (.call 73 (.plain 1 2)),[.s 30],[31],none⟩,
  ⟨.k .mv,[.s 31],[29],none⟩,
  ⟨.k (.ex 0),[.s 29],[32],none⟩,
  ⟨.k (.ex 1),[.s 29],[33],none⟩,
  ⟨.al 1222 [(.i .i64 (0:Int)),(.u64 (0:UInt64)),(.u64 (0:UInt64)),(.u64 (0:UInt64)),(.s ([]:Str)),(.s ([]:Str)),(.i .i64 (0:Int)),(.sl .bs ([]:List UInt8)),(.sl .fl ([]:List Fld))] [],[.s 1222],[7,1222],none⟩,
  ⟨.k (.st 1222 0 9),[.s 7,.s 1222,.s 32],[1222],none⟩,
  ⟨.k .mv,[.s 33],[8],none⟩]) none (.seq (.seq (.reg [
  ⟨.k .mv,[.s 8],[34],none⟩,
  ⟨.k (.un .not),[.s 34],[35],none⟩]) none (.cond (.s 35) [] (.seq (.reg [
  ⟨.bd [(.i .i64 (0:Int)),(.u64 (0:UInt64)),(.u64 (0:UInt64)),(.u64 (0:UInt64)),(.s ([]:Str)),(.s ([]:Str)),(.i .i64 (0:Int)),(.sl .bs ([]:List UInt8)),(.sl .fl ([]:List Fld))] [],[],[36],none⟩,
  ⟨.k (.ld 1221 0 3 true),[.s 6,.s 1221],[37],none⟩,
  ⟨.k (.st 1219 0 9),[.s 4,.s 1219,.s 36],[1219],none⟩,
  ⟨.k (.st 1220 0 3),[.s 5,.s 1220,.s 37],[1220],none⟩]) none .ret) .skip)) none (.seq (.reg [
  ⟨.k (.ld 1222 0 9 true),[.s 7,.s 1222],[38],none⟩,
  ⟨.bd [(.i .i64 (0:Int)),(.i .i64 (0:Int)),(.sl .is ([]:List Int))] [],[],[39],none⟩,
  ⟨.k (.st 1219 0 9),[.s 4,.s 1219,.s 38],[1219],none⟩,
  ⟨.k (.st 1220 0 3),[.s 5,.s 1220,.s 39],[1220],none⟩]) none .ret))) (.seq (.reg [
  ⟨.k (.bin .eql),[.s 25,.c (.i .i64 (3:Int))],[41],none⟩,
  ⟨.k .mv,[.s 41],[40],none⟩]) none (.cond (.s 40) [] (.seq (.reg [
  ⟨.k (.fa 1218 0 2),[.s 2],[42],none⟩,
  ⟨.k (.ld 1218 2 1 false),[.s 42,.s 1218],[43],none⟩,
  ⟨.bd [(.i .i64 (0:Int)),(.u64 (0:UInt64)),(.u64 (0:UInt64)),(.u64 (0:UInt64)),(.s ([]:Str)),(.s ([]:Str)),(.i .i64 (0:Int)),(.sl .bs ([]:List UInt8)),(.sl .fl ([]:List Fld))] [(0,1),(7,1)],[.c (.i .i64 (5:Int)),.s 43],[44],none⟩,
  ⟨.bd [(.i .i64 (0:Int)),(.i .i64 (0:Int)),(.sl .is ([]:List Int))] [],[],[45],none⟩,
  ⟨.k (.st 1219 0 9),[.s 4,.s 1219,.s 44],[1219],none⟩,
  ⟨.k (.st 1220 0 3),[.s 5,.s 1220,.s 45],[1220],none⟩]) none .ret) (.seq (.reg [
  ⟨.k (.bin .eql),[.s 25,.c (.i .i64 (4:Int))],[47],none⟩,
  ⟨.k .mv,[.s 47],[46],none⟩]) none (.cond (.s 46) [] (.seq (.reg [
  ⟨.k (.fa 1218 0 3),[.s 2],[48],none⟩,
  ⟨.k (.ld 1218 3 1 false),[.s 48,.s 1218],[49],none⟩,
  ⟨.bd [(.i .i64 (0:Int)),(.u64 (0:UInt64)),(.u64 (0:UInt64)),(.u64 (0:UInt64)),(.s ([]:Str)),(.s ([]:Str)),(.i .i64 (0:Int)),(.sl .bs ([]:List UInt8)),(.sl .fl ([]:List Fld))] [(0,1),(4,1)],[.c (.i .i64 (2:Int)),.s 49],[50],none⟩,
  ⟨.bd [(.i .i64 (0:Int)),(.i .i64 (0:Int)),(.sl .is ([]:List Int))] [],[],[51],none⟩,
  ⟨.k (.st 1219 0 9),[.s 4,.s 1219,.s 50],[1219],none⟩,
  ⟨.k (.st 1220 0 3),[.s 5,.s 1220,.s 51],[1220],none⟩]) none .ret) (.seq (.reg [
  ⟨.k (.bin .eql),[.s 25,.c (.i .i64 (9:Int))],[53],none⟩,
  ⟨.k .mv,[.s 53],[52],none⟩]) none (.cond (.s 52) [] (.seq (.reg [
  ⟨.k (.fa 1218 0 1),[.s 2],[54],none⟩,
  ⟨.k (.ld 1218 1 1 false),[.s 54,.s 1218],[55],none⟩,
  ⟨.bd [(.i .i64 (0:Int)),(.u64 (0:UInt64)),(.u64 (0:UInt64)),(.u64 (0:UInt64)),(.s ([]:Str)),(.s ([]:Str)),(.i .i64 (0:Int)),(.sl .bs ([]:List UInt8)),(.sl .fl ([]:List Fld))] [(0,1),(1,1)],[.c (.i .i64 (1:Int)),.s 55],[56],none⟩,
  ⟨.bd [(.i .i64 (0:Int)),(.i .i64 (0:Int)),(.sl .is ([]:List Int))] [],[],[57],none⟩,
  ⟨.k (.st 1219 0 9),[.s 4,.s 1219,.s 56],[1219],none⟩,
  ⟨.k (.st 1220 0 3),[.s 5,.s 1220,.s 57],[1220],none⟩]) none .ret) (.seq (.reg [
  ⟨.k (.bin .eql),[.s 25,.c (.i .i64 (8:Int))],[59],none⟩,
  ⟨.k .mv,[.s 59],[58],none⟩]) none (.cond (.s 58) [] (.seq (.seq (.reg [
  ⟨.k (.fa 1218 0 1),[.s 2],[60],none⟩,
  ⟨.k (.ld 1218 1 1 false),[.s 60,.s 1218],[61],none⟩]) none (.block 1 [(2,.ptr 1218 0),(4,.ptr 1219 0),(5,.ptr 1220 0),(1218,.cl []),(1219,.cl []),(1220,.cl [])] (.seq (.reg [
  ⟨.k (.bin .eql),[.s 61,.c (.u64 (22:UInt64))],[63],none⟩,
  ⟨.k .mv,[.s 63],[62],none⟩]) none (.cond (.s 62) [] (.seq (.reg [
  ⟨.bd [(.i .i64 (0:Int)),(.u64 (0:UInt64)),(.u64 (0:UInt64)),(.u64 (0:UInt64)),(.s ([]:Str)),(.s ([]:Str)),(.i .i64 (0:Int)),(.sl .bs ([]:List UInt8)),(.sl .fl ([]:List Fld))] [(0,1)],[.c (.i .i64 (10:Int))],[64],none⟩,
  ⟨.bd [(.i .i64 (0:Int)),(.i .i64 (0:Int)),(.sl .is ([]:List Int))] [],[],[65],none⟩,
  ⟨.k (.st 1219 0 9),[.s 4,.s 1219,.s 64],[1219],none⟩,
  ⟨.k (.st 1220 0 3),[.s 5,.s 1220,.s 65],[1220],none⟩]) none .ret) (.seq (.reg [
  ⟨.k (.bin .eql),[.s 61,.c (.u64 (23:UInt64))],[67],none⟩,
  ⟨.k .mv,[.s 67],[66],none⟩]) none (.cond (.s 66) [] (.seq (.reg [
  ⟨.bd [(.i .i64 (0:Int)),(.u64 (0:UInt64)),(.u64 (0:UInt64)),(.u64 (0:UInt64)),(.s ([]:Str)),(.s ([]:Str)),(.i .i64 (0:Int)),(.sl .bs ([]:List UInt8)),(.sl .fl ([]:List Fld))] [(0,1)],[.c (.i .i64 (6:Int))],[68],none⟩,
  ⟨.bd [(.i .i64 (0:Int)),(.i .i64 (0:Int)),(.sl .is ([]:List Int))] [],[],[69],none⟩,
  ⟨.k (.st 1219 0 9),[.s 4,.s 1219,.s 68],[1219],none⟩,
  ⟨.k (.st 1220 0 3),[.s 5,.s 1220,.s 69],[1220],none⟩]) none .ret) .skip)))))) none (.seq (.reg [
  ⟨.k (.fa 1218 0 1),[.s 2],[70],none⟩,
  ⟨.k (.ld 1218 1 1 false),[.s 70,.s 1218],[71],none⟩,
  ⟨.k (.bin .sub),[.s 71,.c (.u64 (20:UInt64))],[72],none⟩,
  ⟨.bd [(.i .i64 (0:Int)),(.u64 (0:UInt64)),(.u64 (0:UInt64)),(.u64 (0:UInt64)),(.s ([]:Str)),(.s ([]:Str)),(.i .i64 (0:Int)),(.sl .bs ([]:List UInt8)),(.sl .fl ([]:List Fld))] [(0,1),(1,1)],[.c (.i .i64 (8:Int)),.s 72],[73],none⟩,
  ⟨.bd [(.i .i64 (0:Int)),(.i .i64 (0:Int)),(.sl .is ([]:List Int))] [],[],[74],none⟩,
  ⟨.k (.st 1219 0 9),[.s 4,.s 1219,.s 73],[1219],none⟩,
  ⟨.k (.st 1220 0 3),[.s 5,.s 1220,.s 74],[1220],none⟩]) none .ret)) (.seq (.reg [
  ⟨.k (.bin .eql),[.s 25,.c (.i .i64 (6:Int))],[76],none⟩,
  ⟨.k .mv,[.s 76],[75],none⟩]) none (.cond (.s 75) [] (.seq (.reg [
  ⟨.k (.ld 1218 0 5 true),[.s 2,.s 1218],[78],none⟩,
  ⟨.k .mv,[.s 1],[79],none⟩,
  ⟨.k (.call 29 (.plain 2 2)),[.s 78,.s 79],[80],none⟩,
  ⟨.k .mv,[.s 80],[77],none⟩,
  ⟨.k (.ex 0),[.s 77],[81],none⟩,
  ⟨.k (.ex 1),[.s 77],[82],none⟩,
  ⟨.al 1223 [(.i .i64 (0:Int)),(.i .i64 (0:Int)),(.sl .is ([]:List Int))] [],[.s 1223],[10,1223],none⟩,
  ⟨.k .mv,[.s 81],[9],none⟩,
  ⟨.k (.st 1223 0 3),[.s 10,.s 1223,.s 82],[1223],none⟩]) none (.seq (.reg [
  ⟨.k .mv,[.s 9],[83],none⟩,
  ⟨.bd [(.i .i64 (0:Int)),(.u64 (0:UInt64)),(.u64 (0:UInt64)),(.u64 (0:UInt64)),(.s ([]:Str)),(.s ([]:Str)),(.i .i64 (0:Int)),(.sl .bs ([]:List UInt8)),(.sl .fl ([]:List Fld))] [(0,1),(8,1)],[.c (.i .i64 (3:Int)),.s 83],[84],none⟩,
  ⟨.k (.ld 1223 0 3 true),[.s 10,.s 1223],[85],none⟩,
  ⟨.k (.call 30 (.plain 2 2)),[.s 84,.s 85],[86],none⟩,
  ⟨.k (.ex 0),[.s 86],[87],none⟩,
  ⟨.k (.ex 1),[.s 86],[88],none⟩,
  ⟨.k (.st 1219 0 9),[.s 4,.s 1219,.s 87],[1219],none⟩,
  ⟨.k (.st 1220 0 3),[.s 5,.s 1220,.s 88],[1220],none⟩]) none .ret)) (.seq (.reg [
  ⟨.k (.bin .eql),[.s 25,.c (.i .i64 (5:Int))],[90],none⟩,
  ⟨.k .mv,[.s 90],[89],none⟩]) none (.cond (.s 89) [] (.seq (.reg [
  ⟨.bd [(.i .i64 (0:Int)),(.u64 (0:UInt64)),(.u64 (0:UInt64)),(.u64 (0:UInt64)),(.s ([]:Str)),(.s ([]:Str)),(.i .i64 (0:Int)),(.c (.slice none 0 0)),(.c (.slice none 0 0))] [(0,1)],[.c (.i .i64 (4:Int))],[91],none⟩,
  ⟨.al 1224 [(.i .i64 (0:Int)),(.u64 (0:UInt64)),(.u64 (0:UInt64)),(.u64 (0:UInt64)),(.s ([]:Str)),(.s ([]:Str)),(.i .i64 (0:Int)),(.sl .bs ([]:List UInt8)),(.sl .fl ([]:List Fld))] [],[.s 1224],[11,1224],none⟩,
  ⟨.stt 1224 0 9 [(8,130,.fl)],[.s 11,.s 1224,.s 91,.s (lk 130)],[1224,lk 130],none⟩]) none (.seq (.seq (.reg [
  ⟨.k .mv,[.c (.i .i64 (0:Int))],[12],none⟩]) none (.block 2 [(4,.ptr 1219 0),(5,.ptr 1220 0),(11,.ptr 1224 0),(1219,.cl []),(1220,.cl []),(1224,.cl [(8,130,10)]),(lk 130,.live 10)] (.loop [1,2,4,5,11,12,1218,1219,1220,1224] [(2,.ptr 1218 0),(4,.ptr 1219 0),(5,.ptr 1220 0),(11,.ptr 1224 0),(1218,.cl []),(1219,.cl []),(1220,.cl []),(1224,.cl [(8,130,10)]),(lk 130,.live 10)] ref28_value.m1))) none (.seq (.reg [
  ⟨.k (.ld 1224 0 9 true),[.s 11,.s 1224],[126],none⟩,
  ⟨.bd [(.i .i64 (0:Int)),(.i .i64 (0:Int)),(.sl .is ([]:List Int))] [],[],[127],none⟩,
  ⟨.stt 1219 0 9 [(7,138,.bs)],[.s 4,.s 1219,.s 126,.s (lk 138)],[1219,lk 138],none⟩,
  ⟨.k (.st 1220 0 3),[.s 5,.s 1220,.s 127],[1220],none⟩]) none .ret))) .skip))))))))))))
def ref28_value.m:TM := .seq (.reg [
  ⟨.k (.bx 1218),[.s 0,.s 1218],[2,1218],none⟩,
  ⟨.al 1219 [(.i .i64 (0:Int)),(.u64 (0:UInt64)),(.u64 (0:UInt64)),(.u64 (0:UInt64)),(.s ([]:Str)),(.s ([]:Str)),(.i .i64 (0:Int)),(.sl .bs ([]:List UInt8)),(.sl .fl ([]:List Fld))] [],[.s 1219],[4,1219],none⟩,
  ⟨.al 1220 [(.i .i64 (0:Int)),(.i .i64 (0:Int)),(.sl .is ([]:List Int))] [],[.s 1220],[5,1220],none⟩]) none (.seq (.reg [
  ⟨.k .mv,[.s 1],[22],none⟩,
  ⟨.bd [(.i .i64 (0:Int)),(.i .i64 (0:Int)),(.sl .is ([]:List Int))] [(0,1),(2,1)],[.c (.i .i64 (12:Int)),.s 22],[23],none⟩,
  ⟨.al 1221 [(.i .i64 (0:Int)),(.i .i64 (0:Int)),(.sl .is ([]:List Int))] [],[.s 1221],[6,1221],none⟩,
  ⟨.k (.st 1221 0 3),[.s 6,.s 1221,.s 23],[1221],none⟩]) none (.seq (.seq (.reg [
  ⟨.k (.fa 1218 0 0),[.s 2],[24],none⟩,
  ⟨.k (.ld 1218 0 1 false),[.s 24,.s 1218],[25],none⟩]) none (.block 0 [(2,.ptr 1218 0),(4,.ptr 1219 0),(5,.ptr 1220 0),(6,.ptr 1221 0),(1218,.cl []),(1219,.cl []),(1220,.cl []),(1221,.cl [])] (.seq (.seq (.reg [
  ⟨.k (.bin .eql),[.s 25,.c (.i .i64 (1:Int))],[27],none⟩,
  ⟨.k .mv,[.s 27],[26],none⟩]) none (.cond (.s 26) [(2,.ptr 1218 0),(4,.ptr 1219 0),(5,.ptr 1220 0),(6,.ptr 1221 0),(1218,.cl []),(1219,.cl []),(1220,.cl []),(1221,.cl [])] .skip (.reg [
  ⟨.k (.bin .eql),[.s 25,.c (.i .i64 (2:Int))],[28],none⟩,
  ⟨.k .mv,[.s 28],[26],none⟩]))) (some [1,2,4,5,6,25,26,1218,1219,1220,1221]) ref28_value.m2))) none (.seq (.reg [
  ⟨.k (.fa 1218 0 4),[.s 2],[128],none⟩,
  ⟨.k (.ld 1218 4 1 false),[.s 128,.s 1218],[129],none⟩,
  ⟨.k (.ix 5),[.s 129,.c (.i .i64 (0:Int))],[130],none⟩,
  ⟨.k (.lr 5 true),[.s 130],[131],none⟩,
  ⟨.al 1227 [(.i .i64 (0:Int)),(.u64 (0:UInt64)),(.sl .bs ([]:List UInt8)),(.s ([]:Str)),(.sl .il ([]:List Itm))] [],[.s 1227],[15,1227],none⟩,
  ⟨.k (.st 1227 0 5),[.s 15,.s 1227,.s 131],[1227],none⟩]) none (.seq (.block 4 [(2,.ptr 1218 0),(4,.ptr 1219 0),(5,.ptr 1220 0),(6,.ptr 1221 0),(15,.ptr 1227 0),(1218,.cl []),(1219,.cl []),(1220,.cl []),(1221,.cl []),(1227,.cl [])] (.seq (.reg [
  ⟨.k (.fa 1218 0 1),[.s 2],[133],none⟩,
  ⟨.k (.ld 1218 1 1 false),[.s 133,.s 1218],[134],none⟩,
  ⟨.k (.bin .eql),[.s 134,.c (.u64 (1004:UInt64))],[135],none⟩,
  ⟨.k .mv,[.s 135],[136],none⟩,
  ⟨.k (.fa 1227 0 0),[.s 15],[137],some (136,true)⟩,
  ⟨.k (.ld 1227 0 1 false),[.s 137,.s 1227],[138],some (136,true)⟩,
  ⟨.k (.bin .eql),[.s 138,.c (.i .i64 (6:Int))],[139],some (136,true)⟩,
  ⟨.k .pick,[.s 136,.s 139,.c (.b false)],[140],none⟩,
  ⟨.k .mv,[.s 140],[141],none⟩,
  ⟨.k (.ld 1227 0 5 true),[.s 15,.s 1227],[142],some (141,true)⟩,
  ⟨.k (.call 75 (.plain 1 1)),[.s 142],[143],some (141,true)⟩,
  ⟨.k (.un .not),[.s 143],[144],some (141,true)⟩,
  ⟨.k .pick,[.s 141,.s 144,.c (.b false)],[145],none⟩,
  ⟨.k .mv,[.s 145],[132],none⟩]) none (.cond (.s 132) [] (.seq (.reg [
  ⟨.k (.ld 1227 0 5 true),[.s 15,.s 1227],[147],none⟩,
  ⟨.k .mv,[.s 1],[148],none⟩,
  ⟨.k (.call 46 (.plain 2 1)),[.s 148,.c (.i .i64 (0:Int))],[149],none⟩,
  ⟨.k (.call 29 (.plain 2 2)),[.s 147,.s 149],[150],none⟩,
  ⟨.k .mv,[.s 150],[146],none⟩,
  ⟨.k (.ex 0),[.s 146],[151],none⟩,
  ⟨.k (.ex 1),[.s 146],[152],none⟩,
  ⟨.al 1228 [(.i .i64 (0:Int)),(.i .i64 (0:Int)),(.sl .is ([]:List Int))] [],[.s 1228],[17,1228],none⟩,
  ⟨.k .mv,[.s 151],[16],none⟩,
  ⟨.k (.st 1228 0 3),[.s 17,.s 1228,.s 152],[1228],none⟩]) none (.seq (.reg [
  ⟨.k .mv,[.s 16],[153],none⟩,
  ⟨.bd [(.i .i64 (0:Int)),(.u64 (0:UInt64)),(.u64 (0:UInt64)),(.u64 (0:UInt64)),(.s ([]:Str)),(.s ([]:Str)),(.i .i64 (0:Int)),(.sl .bs ([]:List UInt8)),(.sl .fl ([]:List Fld))] [(0,1),(8,1)],[.c (.i .i64 (4:Int)),.s 153],[154],none⟩,
  ⟨.k (.ld 1228 0 3 true),[.s 17,.s 1228],[155],none⟩,
  ⟨.k (.call 30 (.plain 2 2)),[.s 154,.s 155],[156],none⟩,
  ⟨.k (.ex 0),[.s 156],[157],none⟩,
  ⟨.k (.ex 1),[.s 156],[158],none⟩,
  ⟨.k (.st 1219 0 9),[.s 4,.s 1219,.s 157],[1219],none⟩,
  ⟨.k (.st 1220 0 3),[.s 5,.s 1220,.s 158],[1220],none⟩]) none .ret)) (.seq (.reg [
  ⟨.k (.fa 1218 0 1),[.s 2],[160],none⟩,
  ⟨.k (.ld 1218 1 1 false),[.s 160,.s 1218],[161],none⟩,
  ⟨.k (.bin .eql),[.s 161,.c (.u64 (1015:UInt64))],[162],none⟩,
  ⟨.k .mv,[.s 162],[163],none⟩,
  ⟨.k (.ld 1227 0 5 true),[.s 15,.s 1227],[164],some (163,true)⟩,
  ⟨.k (.call 76 (.plain 1 1)),[.s 164],[165],some (163,true)⟩,
  ⟨.k .pick,[.s 163,.s 165,.c (.b false)],[166],none⟩,
  ⟨.k .mv,[.s 166],[167],none⟩,
  ⟨.k (.fa 1227 0 4),[.s 15],[168],some (167,true)⟩,
  ⟨.k (.ld 1227 4 1 false),[.s 168,.s 1227],[169],some (167,true)⟩,
  ⟨.k (.ix 5),[.s 169,.c (.i .i64 (0:Int))],[170],some (167,true)⟩,
  ⟨.k (.fr 0 1 false),[.s 170],[171],some (167,true)⟩,
  ⟨.k (.lr 1 false),[.s 171],[172],some (167,true)⟩,
  ⟨.k (.bin .eql),[.s 172,.c (.i .i64 (4:Int))],[173],some (167,true)⟩,
  ⟨.k .pick,[.s 167,.s 173,.c (.b false)],[174],none⟩,
  ⟨.k .mv,[.s 174],[175],none⟩,
  ⟨.k (.fa 1227 0 4),[.s 15],[176],some (175,true)⟩,
  ⟨.k (.ld 1227 4 1 false),[.s 176,.s 1227],[177],some (175,true)⟩,
  ⟨.k (.ix 5),[.s 177,.c (.i .i64 (1:Int))],[178],some (175,true)⟩,
  ⟨.k (.fr 0 1 false),[.s 178],[179],some (175,true)⟩,
  ⟨.k (.lr 1 false),[.s 179],[180],some (175,true)⟩,
  ⟨.k (.bin .eql),[.s 180,.c (.i .i64 (6:Int))],[181],some (175,true)⟩,
  ⟨.k .pick,[.s 175,.s 181,.c (.b false)],[182],none⟩,
  ⟨.k .mv,[.s 182],[159],none⟩]) none (.cond (.s 159) [] (.seq (.reg [
  ⟨.k (.fa 1227 0 4),[.s 15],[184],none⟩,
  ⟨.k (.ld 1227 4 1 false),[.s 184,.s 1227],[185],none⟩,
  ⟨.k (.ix 5),[.s 185,.c (.i .i64 (1:Int))],[186],none⟩,
  ⟨.k (.lr 5 true),[.s 186],[187],none⟩,
  ⟨.k .mv,[.s 1],[188],none⟩,
  ⟨.k (.call 46 (.plain 2 1)),[.s 188,.c (.i .i64 (0:Int))],[189],none⟩,
  ⟨.k (.call 46 (.plain 2 1)),[.s 189,.c (.i .i64 (1:Int))],[190],none⟩,
  ⟨.k (.call 29 (.plain 2 2)),[.s 187,.s 190],[191],none⟩,
  ⟨.k .mv,[.s 191],[183],none⟩,
  ⟨.k (.ex 0),[.s 183],[192],none⟩,
  ⟨.k (.ex 1),[.s 183],[193],none⟩,
  ⟨.al 1229 [(.i .i64 (0:Int)),(.i .i64 (0:Int)),(.sl .is ([]:List Int))] [],[.s 1229],[19,1229],none⟩,
  ⟨.k .mv,[.s 192],[18],none⟩,
  ⟨.k (.st 1229 0 3),[.s 19,.s 1229,.s 193],[1229],none⟩]) none (.seq (.reg [
  ⟨.k (.fa 1227 0 4),[.s 15],[194],none⟩,
  ⟨.k (.ld 1227 4 1 false),[.s 194,.s 1227],[195],none⟩,
  ⟨.k (.ix 5),[.s 195,.c (.i .i64 (0:Int))],[196],none⟩,
  ⟨.k (.fr 3 1 false),[.s 196],[197],none⟩,
  ⟨.k (.lr 1 false),[.s 197],[198],none⟩,
  ⟨.k .mv,[.s 18],[199],none⟩,
  ⟨.bd [(.i .i64 (0:Int)),(.u64 (0:UInt64)),(.u64 (0:UInt64)),(.u64 (0:UInt64)),(.s ([]:Str)),(.s ([]:Str)),(.i .i64 (0:Int)),(.sl .bs ([]:List UInt8)),(.sl .fl ([]:List Fld))] [(0,1),(4,1),(8,1)],[.c (.i .i64 (15:Int)),.s 198,.s 199],[200],none⟩,
  ⟨.k (.ld 1229 0 3 true),[.s 19,.s 1229],[201],none⟩,
  ⟨.k (.call 30 (.plain 2 2)),[.s 200,.s 201],[202],none⟩,
  ⟨.k (.ex 0),[.s 202],[203],none⟩,
  ⟨.k (.ex 1),[.s 202],[204],none⟩,
  ⟨.k (.st 1219 0 9),[.s 4,.s 1219,.s 203],[1219],none⟩,
  ⟨.k (.st 1220 0 3),[.s 5,.s 1220,.s 204],[1220],none⟩]) none .ret)) .skip))))) none (.seq (.reg [
  ⟨.k (.fa 1218 0 1),[.s 2],[206],none⟩,
  ⟨.k (.ld 1218 1 1 false),[.s 206,.s 1218],[207],none⟩,
  ⟨.k (.ld 1227 0 5 true),[.s 15,.s 1227],[208],none⟩,
  ⟨.k (.call 77 (.plain 2 2)),[.s 207,.s 208],[209],none⟩,
  ⟨.k .mv,[.s 209],[205],none⟩,
  ⟨.k (.ex 0),[.s 205],[210],none⟩,
  ⟨.k (.ex 1),[.s 205],[211],none⟩,
  ⟨.al 1230 [(.i .i64 (0:Int)),(.u64 (0:UInt64)),(.u64 (0:UInt64)),(.u64 (0:UInt64)),(.s ([]:Str)),(.s ([]:Str)),(.i .i64 (0:Int)),(.sl .bs ([]:List UInt8)),(.sl .fl ([]:List Fld))] [],[.s 1230],[20,1230],none⟩,
  ⟨.k (.st 1230 0 9),[.s 20,.s 1230,.s 210],[1230],none⟩,
  ⟨.k .mv,[.s 211],[21],none⟩]) none (.seq (.seq (.reg [
  ⟨.k .mv,[.s 21],[212],none⟩,
  ⟨.k (.un .not),[.s 212],[213],none⟩]) none (.cond (.s 213) [] (.seq (.reg [
  ⟨.bd [(.i .i64 (0:Int)),(.u64 (0:UInt64)),(.u64 (0:UInt64)),(.u64 (0:UInt64)),(.s ([]:Str)),(.s ([]:Str)),(.i .i64 (0:Int)),(.sl .bs ([]:List UInt8)),(.sl .fl ([]:List Fld))] [],[],[214],none⟩,
  ⟨.k (.ld 1221 0 3 true),[.s 6,.s 1221],[215],none⟩,
  ⟨.k (.st 1219 0 9),[.s 4,.s 1219,.s 214],[1219],none⟩,
  ⟨.k (.st 1220 0 3),[.s 5,.s 1220,.s 215],[1220],none⟩]) none .ret) .skip)) none (.seq (.reg [
  ⟨.k (.ld 1230 0 9 true),[.s 20,.s 1230],[216],none⟩,
  ⟨.bd [(.i .i64 (0:Int)),(.i .i64 (0:Int)),(.sl .is ([]:List Int))] [],[],[217],none⟩,
  ⟨.k (.st 1219 0 9),[.s 4,.s 1219,.s 216],[1219],none⟩,
  ⟨.k (.st 1220 0 3),[.s 5,.s 1220,.s 217],[1220],none⟩]) none .ret)))))))
def ref28_value.d:TFD:={ np:=2,m:=ref28_value.m,ref:=none,tips:=[],res:=[.c 4 1219 9 true,.c 5 1220 3 true],own:=[],new:=none,tnew:=[] }
noncomputable def ref28_value.F (n:Nat) (it:Itv) (p:List Int):Option (List TV):=ref28_value.d.run (ref28_value.E n) [(.ag (Itv.cells it)),(.sl .is p)]
noncomputable def ref28_value.k1 (n:Nat):Cont (List TV):=seqK (ev _ (ref28_value.E n) (.seq (.reg [
  ⟨.k (.fa 1218 0 4),[.s 2],[128],none⟩,
  ⟨.k (.ld 1218 4 1 false),[.s 128,.s 1218],[129],none⟩,
  ⟨.k (.ix 5),[.s 129,.c (.i .i64 (0:Int))],[130],none⟩,
  ⟨.k (.lr 5 true),[.s 130],[131],none⟩,
  ⟨.al 1227 [(.i .i64 (0:Int)),(.u64 (0:UInt64)),(.sl .bs ([]:List UInt8)),(.s ([]:Str)),(.sl .il ([]:List Itm))] [],[.s 1227],[15,1227],none⟩,
  ⟨.k (.st 1227 0 5),[.s 15,.s 1227,.s 131],[1227],none⟩]) none (.seq (.block 4 [(2,.ptr 1218 0),(4,.ptr 1219 0),(5,.ptr 1220 0),(6,.ptr 1221 0),(15,.ptr 1227 0),(1218,.cl []),(1219,.cl []),(1220,.cl []),(1221,.cl []),(1227,.cl [])] (.seq (.reg [
  ⟨.k (.fa 1218 0 1),[.s 2],[133],none⟩,
  ⟨.k (.ld 1218 1 1 false),[.s 133,.s 1218],[134],none⟩,
  ⟨.k (.bin .eql),[.s 134,.c (.u64 (1004:UInt64))],[135],none⟩,
  ⟨.k .mv,[.s 135],[136],none⟩,
  ⟨.k (.fa 1227 0 0),[.s 15],[137],some (136,true)⟩,
  ⟨.k (.ld 1227 0 1 false),[.s 137,.s 1227],[138],some (136,true)⟩,
  ⟨.k (.bin .eql),[.s 138,.c (.i .i64 (6:Int))],[139],some (136,true)⟩,
  ⟨.k .pick,[.s 136,.s 139,.c (.b false)],[140],none⟩,
  ⟨.k .mv,[.s 140],[141],none⟩,
  ⟨.k (.ld 1227 0 5 true),[.s 15,.s 1227],[142],some (141,true)⟩,
  ⟨.k (.call 75 (.plain 1 1)),[.s 142],[143],some (141,true)⟩,
  ⟨.k (.un .not),[.s 143],[144],some (141,true)⟩,
  ⟨.k .pick,[.s 141,.s 144,.c (.b false)],[145],none⟩,
  ⟨.k .mv,[.s 145],[132],none⟩]) none (.cond (.s 132) [] (.seq (.reg [
  ⟨.k (.ld 1227 0 5 true),[.s 15,.s 1227],[147],none⟩,
  ⟨.k .mv,[.s 1],[148],none⟩,
  ⟨.k (.call 46 (.plain 2 1)),[.s 148,.c (.i .i64 (0:Int))],[149],none⟩,
  ⟨.k (.call 29 (.plain 2 2)),[.s 147,.s 149],[150],none⟩,
  ⟨.k .mv,[.s 150],[146],none⟩,
  ⟨.k (.ex 0),[.s 146],[151],none⟩,
  ⟨.k (.ex 1),[.s 146],[152],none⟩,
  ⟨.al 1228 [(.i .i64 (0:Int)),(.i .i64 (0:Int)),(.sl .is ([]:List Int))] [],[.s 1228],[17,1228],none⟩,
  ⟨.k .mv,[.s 151],[16],none⟩,
  ⟨.k (.st 1228 0 3),[.s 17,.s 1228,.s 152],[1228],none⟩]) none (.seq (.reg [
  ⟨.k .mv,[.s 16],[153],none⟩,
  ⟨.bd [(.i .i64 (0:Int)),(.u64 (0:UInt64)),(.u64 (0:UInt64)),(.u64 (0:UInt64)),(.s ([]:Str)),(.s ([]:Str)),(.i .i64 (0:Int)),(.sl .bs ([]:List UInt8)),(.sl .fl ([]:List Fld))] [(0,1),(8,1)],[.c (.i .i64 (4:Int)),.s 153],[154],none⟩,
  ⟨.k (.ld 1228 0 3 true),[.s 17,.s 1228],[155],none⟩,
  ⟨.k (.call 30 (.plain 2 2)),[.s 154,.s 155],[156],none⟩,
  ⟨.k (.ex 0),[.s 156],[157],none⟩,
  ⟨.k (.ex 1),[.s 156],[158],none⟩,
  ⟨.k (.st 1219 0 9),[.s 4,.s 1219,.s 157],[1219],none⟩,
  ⟨.k (.st 1220 0 3),[.s 5,.s 1220,.s 158],[1220],none⟩]) none .ret)) (.seq (.reg [
  ⟨.k (.fa 1218 0 1),[.s 2],[160],none⟩,
  ⟨.k (.ld 1218 1 1 false),[.s 160,.s 1218],[161],none⟩,
  ⟨.k (.bin .eql),[.s 161,.c (.u64 (1015:UInt64))],[162],none⟩,
  ⟨.k .mv,[.s 162],[163],none⟩,
  ⟨.k (.ld 1227 0 5 true),[.s 15,.s 1227],[164],some (163,true)⟩,
  ⟨.k (.call 76 (.plain 1 1)),[.s 164],[165],some (163,true)⟩,
  ⟨.k .pick,[.s 163,.s 165,.c (.b false)],[166],none⟩,
  ⟨.k .mv,[.s 166],[167],none⟩,
  ⟨.k (.fa 1227 0 4),[.s 15],[168],some (167,true)⟩,
  ⟨.k (.ld 1227 4 1 false),[.s 168,.s 1227],[169],some (167,true)⟩,
  ⟨.k (.ix 5),[.s 169,.c (.i .i64 (0:Int))],[170],some (167,true)⟩,
  ⟨.k (.fr 0 1 false),[.s 170],[171],some (167,true)⟩,
  ⟨.k (.lr 1 false),[.s 171],[172],some (167,true)⟩,
  ⟨.k (.bin .eql),[.s 172,.c (.i .i64 (4:Int))],[173],some (167,true)⟩,
  ⟨.k .pick,[.s 167,.s 173,.c (.b false)],[174],none⟩,
  ⟨.k .mv,[.s 174],[175],none⟩,
  ⟨.k (.fa 1227 0 4),[.s 15],[176],some (175,true)⟩,
  ⟨.k (.ld 1227 4 1 false),[.s 176,.s 1227],[177],some (175,true)⟩,
  ⟨.k (.ix 5),[.s 177,.c (.i .i64 (1:Int))],[178],some (175,true)⟩,
  ⟨.k (.fr 0 1 false),[.s 178],[179],some (175,true)⟩,
  ⟨.k (.lr 1 false),[.s 179],[180],some (175,true)⟩,
  ⟨.k (.bin .eql),[.s 180,.c (.i .i64 (6:Int))],[181],some (175,true)⟩,
  ⟨.k .pick,[.s 175,.s 181,.c (.b false)],[182],none⟩,
  ⟨.k .mv,[.s 182],[159],none⟩]) none (.cond (.s 159) [] (.seq (.reg [
  ⟨.k (.fa 1227 0 4),[.s 15],[184],none⟩,
  ⟨.k (.ld 1227 4 1 false),[.s 184,.s 1227],[185],none⟩,
  ⟨.k (.ix 5),[.s 185,.c (.i .i64 (1:Int))],[186],none⟩,
  ⟨.k (.lr 5 true),[.s 186],[187],none⟩,
  ⟨.k .mv,[.s 1],[188],none⟩,
  ⟨.k (.call 46 (.plain 2 1)),[.s 188,.c (.i .i64 (0:Int))],[189],none⟩,
  ⟨.k (.call 46 (.plain 2 1)),[.s 189,.c (.i .i64 (1:Int))],[190],none⟩,
  ⟨.k (.call 29 (.plain 2 2)),[.s 187,.s 190],[191],none⟩,
  ⟨.k .mv,[.s 191],[183],none⟩,
  ⟨.k (.ex 0),[.s 183],[192],none⟩,
  ⟨.k (.ex 1),[.s 183],[193],none⟩,
  ⟨.al 1229 [(.i .i64 (0:Int)),(.i .i64 (0:Int)),(.sl .is ([]:List Int))] [],[.s 1229],[19,1229],none⟩,
  ⟨.k .mv,[.s 192],[18],none⟩,
  ⟨.k (.st 1229 0 3),[.s 19,.s 1229,.s 193],[1229],none⟩]) none (.seq (.reg [
  ⟨.k (.fa 1227 0 4),[.s 15],[194],none⟩,
  ⟨.k (.ld 1227 4 1 false),[.s 194,.s 1227],[195],none⟩,
  ⟨.k (.ix 5),[.s 195,.c (.i .i64 (0:Int))],[196],none⟩,
  ⟨.k (.fr 3 1 false),[.s 196],[197],none⟩,
  ⟨.k (.lr 1 false),[.s 197],[198],none⟩,
  ⟨.k .mv,[.s 18],[199],none⟩,
  ⟨.bd [(.i .i64 (0:Int)),(.u64 (0:UInt64)),(.u64 (0:UInt64)),(.u64 (0:UInt64)),(.s ([]:Str)),(.s ([]:Str)),(.i .i64 (0:Int)),(.sl .bs ([]:List UInt8)),(.sl .fl ([]:List Fld))] [(0,1),(4,1),(8,1)],[.c (.i .i64 (15:Int)),.s 198,.s 199],[200],none⟩,
  ⟨.k (.ld 1229 0 3 true),[.s 19,.s 1229],[201],none⟩,
  ⟨.k (.call 30 (.plain 2 2)),[.s 200,.s 201],[202],none⟩,
  ⟨.k (.ex 0),[.s 202],[203],none⟩,
  ⟨.k (.ex 1),[.s 202],[204],none⟩,
  ⟨.k (.st 1219 0 9),[.s 4,.s 1219,.s 203],[1219],none⟩,
  ⟨.k (.st 1220 0 3),[.s 5,.s 1220,.s 204],[1220],none⟩]) none .ret)) .skip))))) none (.seq (.reg [
  ⟨.k (.fa 1218 0 1),[.s 2],[206],none⟩,
  ⟨.k (.ld 1218 1 1 false),[.s 206,.s 1218],[207],none⟩,
  ⟨.k (.ld 1227 0 5 true),[.s 15,.s 1227],[208],none⟩,
  ⟨.k (.call 77 (.plain 2 2)),[.s 207,.s 208],[209],none⟩,
  ⟨.k .mv,[.s 209],[205],none⟩,
  ⟨.k (.ex 0),[.s 205],[210],none⟩,
  ⟨.k (.ex 1),[.s 205],[211],none⟩,
  ⟨.al 1230 [(.i .i64 (0:Int)),(.u64 (0:UInt64)),(.u64 (0:UInt64)),(.u64 (0:UInt64)),(.s ([]:Str)),(.s ([]:Str)),(.i .i64 (0:Int)),(.sl .bs ([]:List UInt8)),(.sl .fl ([]:List Fld))] [],[.s 1230],[20,1230],none⟩,
  ⟨.k (.st 1230 0 9),[.s 20,.s 1230,.s 210],[1230],none⟩,
  ⟨.k .mv,[.s 211],[21],none⟩]) none (.seq (.seq (.reg [
  ⟨.k .mv,[.s 21],[212],none⟩,
  ⟨.k (.un .not),[.s 212],[213],none⟩]) none (.cond (.s 213) [] (.seq (.reg [
  ⟨.bd [(.i .i64 (0:Int)),(.u64 (0:UInt64)),(.u64 (0:UInt64)),(.u64 (0:UInt64)),(.s ([]:Str)),(.s ([]:Str)),(.i .i64 (0:Int)),(.sl .bs ([]:List UInt8)),(.sl .fl ([]:List Fld))] [],[],[214],none⟩,
  ⟨.k (.ld 1221 0 3 true),[.s 6,.s 1221],[215],none⟩,
  ⟨.k (.st 1219 0 9),[.s 4,.s 1219,.s 214],[1219],none⟩,
  ⟨.k (.st 1220 0 3),[.s 5,.s 1220,.s 215],[1220],none⟩]) none .ret) .skip)) none (.seq (.reg [
  ⟨.k (.ld 1230 0 9 true),[.s 20,.s 1230],[216],none⟩,
  ⟨.bd [(.i .i64 (0:Int)),(.i .i64 (0:Int)),(.sl .is ([]:List Int))] [],[],[217],none⟩,
  ⟨.k (.st 1219 0 9),[.s 4,.s 1219,.s 216],[1219],none⟩,
  ⟨.k (.st 1220 0 3),[.s 5,.s 1220,.s 217],[1220],none⟩]) none .ret)))))) none (endK ref28_value.d)
noncomputable def ref28_value.k2 (n:Nat):Cont (List TV):=seqK (ev _ (ref28_value.E n) (.seq (.reg [
  ⟨.k (.ld 1224 0 9 true),[.s 11,.s 1224],[126],none⟩,
  ⟨.bd [(.i .i64 (0:Int)),(.i .i64 (0:Int)),(.sl .is ([]:List Int))] [],[],[127],none⟩,
  ⟨.stt 1219 0 9 [(7,138,.bs)],[.s 4,.s 1219,.s 126,.s (lk 138)],[1219,lk 138],none⟩,
  ⟨.k (.st 1220 0 3),[.s 5,.s 1220,.s 127],[1220],none⟩]) none .ret)) none (blockK 0 (ref28_value.k1 n))
noncomputable def ref28_value.j1 (n:Nat) (x0:List Int) (x1:Int) (x2:Bool) (x3:Itv) (x4:Val) (x5:Flt) (x6:Flt):Option (List TV):=evO _ (ref28_value.E n) ref28_value.m2 (headT [1,2,4,5,6,25,26,1218,1219,1220,1221] [(.sl .is x0),.pt,.pt,.pt,.pt,(.i .i64 x1),(.b x2),(.ag (Itv.cells x3)),(.ag (Val.cells x4)),(.ag (Flt.cells x5)),(.ag (Flt.cells x6))]) (blockK 0 (ref28_value.k1 n))
noncomputable def ref28_value.l2 (n:Nat) (x0:List Int) (x1:Int) (x2:Itv) (x3:Val) (x4:Flt) (x5:Int) (x6:UInt64) (x7:UInt64) (x8:UInt64) (x9:Str) (x10:Str) (x11:Int) (x12:List Fld):Option (List TV):=loopL (evO _ (ref28_value.E n) ref28_value.m1) isN [1,2,4,5,11,12,1218,1219,1220,1224] (headT [1,2,4,5,11,12,1218,1219,1220,1224] [(.sl .is x0),.pt,.pt,.pt,.pt,(.i .i64 x1),(.ag (Itv.cells x2)),(.ag (Val.cells x3)),(.ag (Flt.cells x4)),(.ag [(.i .i64 x5),(.u64 x6),(.u64 x7),(.u64 x8),(.s x9),(.s x10),(.i .i64 x11),(.c (.slice none 0 0)),(.sl .fl x12)])]) (blockK 2 (ref28_value.k2 n))
theorem ref28_value.j1_in (n:Nat) (x0:List Int) (x1:Int) (x2:Bool) (x3:Itv) (x4:Val) (x5:Flt) (x6:Flt) {ρ:Option (List TV)} (K:∀(v1:List Fld) (h1:v1=(Db.Gots.lst (Db.fields (x3).kids 0 x0))) (v2:Flt) (h2:v2=(Db.Gots.flt (Db.fields (x3).kids 0 x0))) (v3:Val) (h3:v3=((if (v2).err=0 then (Val.mk (3:Int) (0:UInt64) (0:UInt64) (0:UInt64) ([]:Str) ([]:Str) (0:Int) ([]:List UInt8) v1) else Db.zero))) (v4:Int) (h4:v4=(Itm.kind (List.getD (Itv.kids x3) ((0:Int)).toNat (STy.dflt .il)))) (v5:Bool) (h5:v5=(cond (decide ((Itv.n x3)=(1004:UInt64))) (decide (v4=(6:Int))) false)) (v6:Bool) (h6:v6=(Db.regular ((Itm.val (List.getD (Itv.kids x3) ((0:Int)).toNat (STy.dflt .il)))).kids)) (v7:List Fld) (h7:v7=(Db.Gots.lst (Db.fields ((Itm.val (List.getD (Itv.kids x3) ((0:Int)).toNat (STy.dflt .il)))).kids 0 (((x0++[((0:Int))])))))) (v8:Flt) (h8:v8=(Db.Gots.flt (Db.fields ((Itm.val (List.getD (Itv.kids x3) ((0:Int)).toNat (STy.dflt .il)))).kids 0 (((x0++[((0:Int))])))))) (v9:Val) (h9:v9=((if (v8).err=0 then (Val.mk (4:Int) (0:UInt64) (0:UInt64) (0:UInt64) ([]:Str) ([]:Str) (0:Int) ([]:List UInt8) v7) else Db.zero))) (v10:Bool) (h10:v10=(decide (((Itm.val (List.getD (Itv.kids x3) ((0:Int)).toNat (STy.dflt .il)))).kind=5∧((Itm.val (List.getD (Itv.kids x3) ((0:Int)).toNat (STy.dflt .il)))).kids.length=2))) (v11:Bool) (h11:v11=(cond (decide ((Itv.n x3)=(1015:UInt64))) v10 false)) (v12:List Itm) (h12:v12=(Itm.kids (List.getD (Itv.kids x3) ((0:Int)).toNat (STy.dflt .il)))) (v13:Int) (h13:v13=(Itm.kind (List.getD v12 ((0:Int)).toNat (STy.dflt .il)))) (v14:Bool) (h14:v14=(cond v11 (decide (v13=(4:Int))) false)) (v15:Int) (h15:v15=(Itm.kind (List.getD v12 ((1:Int)).toNat (STy.dflt .il)))) (v16:Bool) (h16:v16=(cond v14 (decide (v15=(6:Int))) false)) (v17:List Int) (h17:v17=(((((x0++[((0:Int))])))++[((1:Int))]))) (v18:List Fld) (h18:v18=(Db.Gots.lst (Db.fields ((Itm.val (List.getD v12 ((1:Int)).toNat (STy.dflt .il)))).kids 0 v17))) (v19:Flt) (h19:v19=(Db.Gots.flt (Db.fields ((Itm.val (List.getD v12 ((1:Int)).toNat (STy.dflt .il)))).kids 0 v17))) (v20:Str) (h20:v20=(Itm.text (List.getD v12 ((0:Int)).toNat (STy.dflt .il)))) (v21:Val) (h21:v21=((if (v19).err=0 then (Val.mk (15:Int) (0:UInt64) (0:UInt64) (0:UInt64) v20 ([]:Str) (0:Int) ([]:List UInt8) v18) else Db.zero))) (v22:Val) (h22:v22=((Db.taggedV ((Itv.n x3)) (Itm.of (Itm.val (List.getD (Itv.kids x3) ((0:Int)).toNat (STy.dflt .il))))).1)) (v23:Bool) (h23:v23=((Db.taggedV ((Itv.n x3)) (Itm.of (Itm.val (List.getD (Itv.kids x3) ((0:Int)).toNat (STy.dflt .il))))).2)),cond x2
  (cond (!((Db.half (Itm.of x3)).2))
  (some [(.ag [(.i .i64 (0:Int)),(.u64 (0:UInt64)),(.u64 (0:UInt64)),(.u64 (0:UInt64)),(.s ([]:Str)),(.s ([]:Str)),(.i .i64 (0:Int)),(.sl .bs ([]:List UInt8)),(.sl .fl ([]:List Fld))]),(.ag (Flt.cells x6))])
  (some [(.ag (Val.cells ((Db.half (Itm.of x3)).1))),(.ag [(.i .i64 (0:Int)),(.i .i64 (0:Int)),(.sl .is ([]:List Int))])]))
  (cond (decide (x1=(3:Int)))
  (some [(.ag [(.i .i64 (5:Int)),(.u64 (0:UInt64)),(.u64 (0:UInt64)),(.u64 (0:UInt64)),(.s ([]:Str)),(.s ([]:Str)),(.i .i64 (0:Int)),(.sl .bs (Itv.bytes x3)),(.sl .fl ([]:List Fld))]),(.ag [(.i .i64 (0:Int)),(.i .i64 (0:Int)),(.sl .is ([]:List Int))])])
  (cond (decide (x1=(4:Int)))
  (some [(.ag [(.i .i64 (2:Int)),(.u64 (0:UInt64)),(.u64 (0:UInt64)),(.u64 (0:UInt64)),(.s (Itv.text x3)),(.s ([]:Str)),(.i .i64 (0:Int)),(.sl .bs ([]:List UInt8)),(.sl .fl ([]:List Fld))]),(.ag [(.i .i64 (0:Int)),(.i .i64 (0:Int)),(.sl .is ([]:List Int))])])
  (cond (decide (x1=(9:Int)))
  (some [(.ag [(.i .i64 (1:Int)),(.u64 (Itv.n x3)),(.u64 (0:UInt64)),(.u64 (0:UInt64)),(.s ([]:Str)),(.s ([]:Str)),(.i .i64 (0:Int)),(.sl .bs ([]:List UInt8)),(.sl .fl ([]:List Fld))]),(.ag [(.i .i64 (0:Int)),(.i .i64 (0:Int)),(.sl .is ([]:List Int))])])
  (cond (decide (x1=(8:Int)))
  (cond (decide ((Itv.n x3)=(22:UInt64)))
  (some [(.ag [(.i .i64 (10:Int)),(.u64 (0:UInt64)),(.u64 (0:UInt64)),(.u64 (0:UInt64)),(.s ([]:Str)),(.s ([]:Str)),(.i .i64 (0:Int)),(.sl .bs ([]:List UInt8)),(.sl .fl ([]:List Fld))]),(.ag [(.i .i64 (0:Int)),(.i .i64 (0:Int)),(.sl .is ([]:List Int))])])
  (cond (decide ((Itv.n x3)=(23:UInt64)))
  (some [(.ag [(.i .i64 (6:Int)),(.u64 (0:UInt64)),(.u64 (0:UInt64)),(.u64 (0:UInt64)),(.s ([]:Str)),(.s ([]:Str)),(.i .i64 (0:Int)),(.sl .bs ([]:List UInt8)),(.sl .fl ([]:List Fld))]),(.ag [(.i .i64 (0:Int)),(.i .i64 (0:Int)),(.sl .is ([]:List Int))])])
  (some [(.ag [(.i .i64 (8:Int)),(.u64 ((Itv.n x3) - (20:UInt64))),(.u64 (0:UInt64)),(.u64 (0:UInt64)),(.s ([]:Str)),(.s ([]:Str)),(.i .i64 (0:Int)),(.sl .bs ([]:List UInt8)),(.sl .fl ([]:List Fld))]),(.ag [(.i .i64 (0:Int)),(.i .i64 (0:Int)),(.sl .is ([]:List Int))])])))
  (cond (decide (x1=(6:Int)))
  (ck ((decide (Itm.bulks (x3).kids+(x0).length≤1073741824)&&decide (Cb.chks (x3).kids=0∧(x3).kids.length % 2=0))&&decide ((2 * Itm.bulks (x3).kids+2)<n)) (some [(.ag (Val.cells v3)),(.ag (Flt.cells (v2)))]))
  (cond (decide (x1=(5:Int)))
  (ref28_value.l2 n x0 (0:Int) x3 x4 x5 (4:Int) (0:UInt64) (0:UInt64) (0:UInt64) ([]:Str) ([]:Str) (0:Int) ([]:List Fld))
  (ck (idxOK (0:Int) ((Itv.kids x3)).length) (ck (!(decide ((Itv.n x3)=(1004:UInt64))) || (decide ((Itv.n x3)=(1004:UInt64)))) (ck (!(decide ((Itv.n x3)=(1004:UInt64))) || (decide ((Itv.n x3)=(1004:UInt64)))) (ck (!(decide ((Itv.n x3)=(1004:UInt64))) || (decide ((Itv.n x3)=(1004:UInt64)))) (ck (!v5 || (v5&&(decide (Itm.bulk (Itm.of (Itm.val (List.getD (Itv.kids x3) ((0:Int)).toNat (STy.dflt .il))))≤1099511627776)))) (ck (!v5 || v5) (ck (!v5 || v5) (cond (cond v5 (!v6) false)
  (ck (decide (x0.length≤1099511627776)) (ck ((decide (Itm.bulks ((Itm.val (List.getD (Itv.kids x3) ((0:Int)).toNat (STy.dflt .il)))).kids+((((x0++[((0:Int))])))).length≤1073741824)&&decide (Cb.chks ((Itm.val (List.getD (Itv.kids x3) ((0:Int)).toNat (STy.dflt .il)))).kids=0∧((Itm.val (List.getD (Itv.kids x3) ((0:Int)).toNat (STy.dflt .il)))).kids.length % 2=0))&&decide ((2 * Itm.bulks ((Itm.val (List.getD (Itv.kids x3) ((0:Int)).toNat (STy.dflt .il)))).kids+2)<n)) (some [(.ag (Val.cells v9)),(.ag (Flt.cells (v8)))])))
  (ck (!(decide ((Itv.n x3)=(1015:UInt64))) || (decide ((Itv.n x3)=(1015:UInt64)))) (ck (!(decide ((Itv.n x3)=(1015:UInt64))) || (decide ((Itv.n x3)=(1015:UInt64)))) (ck (!v11 || v11) (ck (!v11 || (v11&&(idxOK (0:Int) (v12).length))) (ck (!v11 || v11) (ck (!v11 || v11) (ck (!v11 || v11) (ck (!v11 || v11) (ck (!v14 || v14) (ck (!v14 || (v14&&(idxOK (1:Int) (v12).length))) (ck (!v14 || v14) (ck (!v14 || v14) (ck (!v14 || v14) (ck (!v14 || v14) (cond v16
  (ck (idxOK (1:Int) (v12).length) (ck (decide (x0.length≤1099511627776)) (ck (decide ((((x0++[((0:Int))]))).length≤1099511627776)) (ck ((decide (Itm.bulks ((Itm.val (List.getD v12 ((1:Int)).toNat (STy.dflt .il)))).kids+(v17).length≤1073741824)&&decide (Cb.chks ((Itm.val (List.getD v12 ((1:Int)).toNat (STy.dflt .il)))).kids=0∧((Itm.val (List.getD v12 ((1:Int)).toNat (STy.dflt .il)))).kids.length % 2=0))&&decide ((2 * Itm.bulks ((Itm.val (List.getD v12 ((1:Int)).toNat (STy.dflt .il)))).kids+2)<n)) (ck (idxOK (0:Int) (v12).length) (some [(.ag (Val.cells v21)),(.ag (Flt.cells (v19)))]))))))
  (ck (decide (Itm.bulk (Itm.of (Itm.val (List.getD (Itv.kids x3) ((0:Int)).toNat (STy.dflt .il))))≤1099511627776)) (cond (!v23)
  (some [(.ag [(.i .i64 (0:Int)),(.u64 (0:UInt64)),(.u64 (0:UInt64)),(.u64 (0:UInt64)),(.s ([]:Str)),(.s ([]:Str)),(.i .i64 (0:Int)),(.sl .bs ([]:List UInt8)),(.sl .fl ([]:List Fld))]),(.ag (Flt.cells x6))])
  (some [(.ag (Val.cells v22)),(.ag [(.i .i64 (0:Int)),(.i .i64 (0:Int)),(.sl .is ([]:List Int))])]))))))))))))))))))))))))))))))))=ρ):ref28_value.j1 n x0 x1 x2 x3 x4 x5 x6=ρ:=((congrFun (congrFun (ev_eq _ _) _) _).trans (by kernel_rfl)).trans (K _ rfl _ rfl _ rfl _ rfl _ rfl _ rfl _ rfl _ rfl _ rfl _ rfl _ rfl _ rfl _ rfl _ rfl _ rfl _ rfl _ rfl _ rfl _ rfl _ rfl _ rfl _ rfl _ rfl)
theorem ref28_value.l2_in (n:Nat) (x0:List Int) (x1:Int) (x2:Itv) (x3:Val) (x4:Flt) (x5:Int) (x6:UInt64) (x7:UInt64) (x8:UInt64) (x9:Str) (x10:Str) (x11:Int) (x12:List Fld) {ρ:Option (List TV)} (K:∀(v1:Int) (h1:v1=(((Itv.kids x2)).length:Int)) (v2:Val) (h2:v2=(Db.Got.val (Db.value (Itm.of (Itm.val (List.getD (Itv.kids x2) (x1).toNat (STy.dflt .il)))) (((x0++[x1])))))) (v3:Flt) (h3:v3=(Db.Got.flt (Db.value (Itm.of (Itm.val (List.getD (Itv.kids x2) (x1).toNat (STy.dflt .il)))) (((x0++[x1])))))) (v4:Str) (h4:v4=(digs (((UInt64.ofInt x1))).toNat)) (v5:List Fld) (h5:v5=([(Fld.mk v4 (Val.kind v2) (Val.bits v2) (Val.high v2) (Val.low v2) (Val.text v2) (Val.more v2) (Val.sub v2) (Val.bytes v2) (Val.kids v2))]:List Fld)) (v6:Int) (h6:v6=(IntKind.i64.wrap (x1+(1:Int)))),cond (decide (x1<v1))
  (ck (idxOK x1 ((Itv.kids x2)).length) (ck (decide (x0.length≤1099511627776)) (ck ((decide (Itm.bulk (Itm.of (Itm.val (List.getD (Itv.kids x2) (x1).toNat (STy.dflt .il))))+((((x0++[x1])))).length≤1073741824)&&decide (Cb.chk (Itm.of (Itm.val (List.getD (Itv.kids x2) (x1).toNat (STy.dflt .il))))=0))&&decide ((2 * Itm.bulk (Itm.of (Itm.val (List.getD (Itv.kids x2) (x1).toNat (STy.dflt .il))))+1)<n)) (cond (!decide ((Flt.err v3)=(0:Int)))
  (some [(.ag [(.i .i64 (0:Int)),(.u64 (0:UInt64)),(.u64 (0:UInt64)),(.u64 (0:UInt64)),(.s ([]:Str)),(.s ([]:Str)),(.i .i64 (0:Int)),(.sl .bs ([]:List UInt8)),(.sl .fl ([]:List Fld))]),(.ag (Flt.cells v3))])
  (ck (apOK ((x12).length+(v5).length) 136) (ref28_value.l2 n x0 v6 x2 x3 x4 x5 x6 x7 x8 x9 x10 x11 (x12++v5)))))))
  (some [(.ag [(.i .i64 x5),(.u64 x6),(.u64 x7),(.u64 x8),(.s x9),(.s x10),(.i .i64 x11),(.sl .bs ([]:List UInt8)),(.sl .fl x12)]),(.ag [(.i .i64 (0:Int)),(.i .i64 (0:Int)),(.sl .is ([]:List Int))])])=ρ):ref28_value.l2 n x0 x1 x2 x3 x4 x5 x6 x7 x8 x9 x10 x11 x12=ρ:=((ev_loop _ _ _ _ _ _).trans (by kernel_rfl)).trans (K _ rfl _ rfl _ rfl _ rfl _ rfl _ rfl)
theorem ref28_value.F_eq (n:Nat) (it:Itv) (p:List Int):ref28_value.F n it p=cond (decide ((Itv.kind it)=(1:Int)))
  (ref28_value.j1 n p (Itv.kind it) (decide ((Itv.kind it)=(1:Int))) it (Val.mk (0:Int) (0:UInt64) (0:UInt64) (0:UInt64) ([]:Str) ([]:Str) (0:Int) ([]:List UInt8) ([]:List Fld)) (Flt.mk (0:Int) (0:Int) ([]:List Int)) (Flt.mk (12:Int) (0:Int) p))
  (ref28_value.j1 n p (Itv.kind it) (decide ((Itv.kind it)=(2:Int))) it (Val.mk (0:Int) (0:UInt64) (0:UInt64) (0:UInt64) ([]:Str) ([]:Str) (0:Int) ([]:List UInt8) ([]:List Fld)) (Flt.mk (0:Int) (0:Int) ([]:List Int)) (Flt.mk (12:Int) (0:Int) p)):=by kernel_rfl
theorem ref28_value.chk (n:Nat):((Go.Proofs.Tryd.prog.funcs[47]?).any fun fn=>chkF Go.Proofs.Tryd.prog (fun k=>((envL trydbGl (ref28_value.env n)).fs k).2) fn ref28_value.d.erase)=true:=by kernel_rfl
end
noncomputable section
def ref28_Value.env:List (Nat × (Ctr × FSig)):=[(18,(ref28_Check.c,ref28_Check.sg)),(29,(ref28_fields.c,ref28_fields.sg)),(30,(ref28_done.c,ref28_done.sg))]
def ref28_Value.E:TEnv:=envL trydbGl ref28_Value.env
def ref28_Value.m:TM := .seq (.reg [
  ⟨.k (.bx 1030),[.s 0,.s 1030],[1,1030],none⟩,
  ⟨.al 1031 [(.i .i64 (0:Int)),(.u64 (0:UInt64)),(.u64 (0:UInt64)),(.u64 (0:UInt64)),(.s ([]:Str)),(.s ([]:Str)),(.i .i64 (0:Int)),(.sl .bs ([]:List UInt8)),(.sl .fl ([]:List Fld))] [],[.s 1031],[2,1031],none⟩,
  ⟨.al 1032 [(.i .i64 (0:Int)),(.i .i64 (0:Int)),(.sl .is ([]:List Int))] [],[.s 1032],[3,1032],none⟩]) none (.seq (.reg [
  ⟨.k (.ld 1030 0 5 true),[.s 1,.s 1030],[7],none⟩,
  ⟨.k (.call 18 (.plain 1 1)),[.s 7],[8],none⟩,
  ⟨.k .mv,[.s 8],[4],none⟩]) none (.seq (.seq (.reg [
  ⟨.k .mv,[.s 4],[9],none⟩,
  ⟨.k (.bin .neq),[.s 9,.c (.i .i64 (0:Int))],[10],none⟩]) none (.cond (.s 10) [] (.seq (.reg [
  ⟨.bd [(.i .i64 (0:Int)),(.u64 (0:UInt64)),(.u64 (0:UInt64)),(.u64 (0:UInt64)),(.s ([]:Str)),(.s ([]:Str)),(.i .i64 (0:Int)),(.sl .bs ([]:List UInt8)),(.sl .fl ([]:List Fld))] [],[],[11],none⟩,
  ⟨.k .mv,[.s 4],[12],none⟩,
  ⟨.bd [(.i .i64 (0:Int)),(.i .i64 (0:Int)),(.sl .is ([]:List Int))] [(0,1)],[.s 12],[13],none⟩,
  ⟨.k (.st 1031 0 9),[.s 2,.s 1031,.s 11],[1031],none⟩,
  ⟨.k (.st 1032 0 3),[.s 3,.s 1032,.s 13],[1032],none⟩]) none .ret) .skip)) none (.seq (.seq (.reg [
  ⟨.k (.fa 1030 0 0),[.s 1],[14],none⟩,
  ⟨.k (.ld 1030 0 1 false),[.s 14,.s 1030],[15],none⟩,
  ⟨.k (.bin .neq),[.s 15,.c (.i .i64 (6:Int))],[16],none⟩]) none (.cond (.s 16) [] (.seq (.reg [
  ⟨.bd [(.i .i64 (0:Int)),(.u64 (0:UInt64)),(.u64 (0:UInt64)),(.u64 (0:UInt64)),(.s ([]:Str)),(.s ([]:Str)),(.i .i64 (0:Int)),(.sl .bs ([]:List UInt8)),(.sl .fl ([]:List Fld))] [],[],[17],none⟩,
  ⟨.bd [(.i .i64 (0:Int)),(.i .i64 (0:Int)),(.sl .is ([]:List Int))] [(0,1)],[.c (.i .i64 (12:Int))],[18],none⟩,
  ⟨.k (.st 1031 0 9),[.s 2,.s 1031,.s 17],[1031],none⟩,
  ⟨.k (.st 1032 0 3),[.s 3,.s 1032,.s 18],[1032],none⟩]) none .ret) .skip)) none (.seq (.reg [
  ⟨.k (.ld 1030 0 5 true),[.s 1,.s 1030],[20],none⟩,
  ⟨.k (.call 29 (.plain 2 2)),[.s 20,.c (.sl .is ([]:List Int))],[21],none⟩,
  ⟨.k .mv,[.s 21],[19],none⟩,
  ⟨.k (.ex 0),[.s 19],[22],none⟩,
  ⟨.k (.ex 1),[.s 19],[23],none⟩,
  ⟨.al 1033 [(.i .i64 (0:Int)),(.i .i64 (0:Int)),(.sl .is ([]:List Int))] [],[.s 1033],[6,1033],none⟩,
  ⟨.k .mv,[.s 22],[5],none⟩,
  ⟨.k (.st 1033 0 3),[.s 6,.s 1033,.s 23],[1033],none⟩]) none (.seq (.reg [
  ⟨.k .mv,[.s 5],[24],none⟩,
  ⟨.bd [(.i .i64 (0:Int)),(.u64 (0:UInt64)),(.u64 (0:UInt64)),(.u64 (0:UInt64)),(.s ([]:Str)),(.s ([]:Str)),(.i .i64 (0:Int)),(.sl .bs ([]:List UInt8)),(.sl .fl ([]:List Fld))] [(0,1),(8,1)],[.c (.i .i64 (3:Int)),.s 24],[25],none⟩,
  ⟨.k (.ld 1033 0 3 true),[.s 6,.s 1033],[26],none⟩,
  ⟨.k (.call 30 (.plain 2 2)),[.s 25,.s 26],[27],none⟩,
  ⟨.k (.ex 0),[.s 27],[28],none⟩,
  ⟨.k (.ex 1),[.s 27],[29],none⟩,
  ⟨.k (.st 1031 0 9),[.s 2,.s 1031,.s 28],[1031],none⟩,
  ⟨.k (.st 1032 0 3),[.s 3,.s 1032,.s 29],[1032],none⟩]) none .ret)))))
def ref28_Value.d:TFD:={ np:=1,m:=ref28_Value.m,ref:=none,tips:=[],res:=[.c 2 1031 9 true,.c 3 1032 3 true],own:=[],new:=none,tnew:=[] }
noncomputable def ref28_Value.F (it:Itv):Option (List TV):=ref28_Value.d.run ref28_Value.E [(.ag (Itv.cells it))]
theorem ref28_Value.F_in (it:Itv) {ρ:Option (List TV)} (K:∀(v1:List Fld) (h1:v1=(Db.Gots.lst (Db.fields (it).kids 0 (([]:List Int))))) (v2:Flt) (h2:v2=(Db.Gots.flt (Db.fields (it).kids 0 (([]:List Int))))) (v3:Val) (h3:v3=((if (v2).err=0 then (Val.mk (3:Int) (0:UInt64) (0:UInt64) (0:UInt64) ([]:Str) ([]:Str) (0:Int) ([]:List UInt8) v1) else Db.zero))),ck (decide (Itm.bulk (Itm.of it)≤1099511627776)) (cond (!decide ((Cb.chk (Itm.of it))=(0:Int)))
  (some [(.ag [(.i .i64 (0:Int)),(.u64 (0:UInt64)),(.u64 (0:UInt64)),(.u64 (0:UInt64)),(.s ([]:Str)),(.s ([]:Str)),(.i .i64 (0:Int)),(.sl .bs ([]:List UInt8)),(.sl .fl ([]:List Fld))]),(.ag [(.i .i64 (Cb.chk (Itm.of it))),(.i .i64 (0:Int)),(.sl .is ([]:List Int))])])
  (cond (!decide ((Itv.kind it)=(6:Int)))
  (some [(.ag [(.i .i64 (0:Int)),(.u64 (0:UInt64)),(.u64 (0:UInt64)),(.u64 (0:UInt64)),(.s ([]:Str)),(.s ([]:Str)),(.i .i64 (0:Int)),(.sl .bs ([]:List UInt8)),(.sl .fl ([]:List Fld))]),(.ag [(.i .i64 (12:Int)),(.i .i64 (0:Int)),(.sl .is ([]:List Int))])])
  (ck (decide (Itm.bulks (it).kids+((([]:List Int))).length≤1073741824)&&decide (Cb.chks (it).kids=0∧(it).kids.length % 2=0)) (some [(.ag (Val.cells v3)),(.ag (Flt.cells (v2)))]))))=ρ):ref28_Value.F it=ρ:=Eq.trans (by kernel_rfl) (K _ rfl _ rfl _ rfl)
theorem ref28_Value.chk:((Go.Proofs.Tryd.prog.funcs[16]?).any fun fn=>chkF Go.Proofs.Tryd.prog (fun k=>((envL trydbGl ref28_Value.env).fs k).2) fn ref28_Value.d.erase)=true:=by kernel_rfl
end
noncomputable section
def law30_awake.env:List (Nat × (Ctr × FSig)):=[(10,(db_Item.c,db_Item.sg)),(15,(db_Value.c,db_Value.sg))]
def law30_awake.E:TEnv:=envL trydbGl law30_awake.env
def law30_awake.m:TM := .seq (.reg [
  ⟨.k .mv,[.c (.b false)],[0],none⟩]) none (.seq (.reg [
  ⟨.bd [(.i .i64 (0:Int)),(.u64 (0:UInt64)),(.u64 (0:UInt64)),(.u64 (0:UInt64)),(.s ([]:Str)),(.s ([]:Str)),(.i .i64 (0:Int)),(.sl .bs ([]:List UInt8)),(.sl .fl ([]:List Fld))] [(0,1),(1,1)],[.c (.i .i64 (18:Int)),.c (.u64 (1:UInt64))],[6],none⟩,
  ⟨.bd [(.s ([]:Str)),(.i .i64 (0:Int)),(.u64 (0:UInt64)),(.u64 (0:UInt64)),(.u64 (0:UInt64)),(.s ([]:Str)),(.s ([]:Str)),(.i .i64 (0:Int)),(.sl .bs ([]:List UInt8)),(.sl .fl ([]:List Fld))] [(0,1),(1,9)],[.c (.s ([97]:Str)),.s 6],[7],none⟩,
  ⟨.bl .fl 1,[.s 7],[8],none⟩,
  ⟨.bd [(.i .i64 (0:Int)),(.u64 (0:UInt64)),(.u64 (0:UInt64)),(.u64 (0:UInt64)),(.s ([]:Str)),(.s ([]:Str)),(.i .i64 (0:Int)),(.sl .bs ([]:List UInt8)),(.sl .fl ([]:List Fld))] [(0,1),(8,1)],[.c (.i .i64 (3:Int)),.s 8],[9],none⟩,
  ⟨.k (.call 10 (.plain 1 2)),[.s 9],[10],none⟩,
  ⟨.k .mv,[.s 10],[5],none⟩,
  ⟨.k (.ex 0),[.s 5],[11],none⟩,
  ⟨.k (.ex 1),[.s 5],[12],none⟩,
  ⟨.al 1061 [(.i .i64 (0:Int)),(.u64 (0:UInt64)),(.sl .bs ([]:List UInt8)),(.s ([]:Str)),(.sl .il ([]:List Itm))] [],[.s 1061],[1,1061],none⟩,
  ⟨.al 1062 [(.i .i64 (0:Int)),(.i .i64 (0:Int)),(.sl .is ([]:List Int))] [],[.s 1062],[2,1062],none⟩,
  ⟨.k (.st 1061 0 5),[.s 1,.s 1061,.s 11],[1061],none⟩,
  ⟨.k (.st 1062 0 3),[.s 2,.s 1062,.s 12],[1062],none⟩]) none (.seq (.reg [
  ⟨.bd [(.i .i64 (0:Int)),(.u64 (0:UInt64)),(.sl .bs ([]:List UInt8)),(.s ([]:Str)),(.sl .il ([]:List Itm))] [(0,1)],[.c (.i .i64 (1:Int))],[14],none⟩,
  ⟨.k (.call 15 (.plain 1 2)),[.s 14],[15],none⟩,
  ⟨.k .mv,[.s 15],[13],none⟩,
  ⟨.k (.ex 0),[.s 13],[16],none⟩,
  ⟨.k (.ex 1),[.s 13],[17],none⟩,
  ⟨.al 1063 [(.i .i64 (0:Int)),(.u64 (0:UInt64)),(.u64 (0:UInt64)),(.u64 (0:UInt64)),(.s ([]:Str)),(.s ([]:Str)),(.i .i64 (0:Int)),(.sl .bs ([]:List UInt8)),(.sl .fl ([]:List Fld))] [],[.s 1063],[3,1063],none⟩,
  ⟨.al 1064 [(.i .i64 (0:Int)),(.i .i64 (0:Int)),(.sl .is ([]:List Int))] [],[.s 1064],[4,1064],none⟩,
  ⟨.k (.st 1063 0 9),[.s 3,.s 1063,.s 16],[1063],none⟩,
  ⟨.k (.st 1064 0 3),[.s 4,.s 1064,.s 17],[1064],none⟩]) none (.seq (.reg [
  ⟨.k (.fa 1062 0 0),[.s 2],[18],none⟩,
  ⟨.k (.ld 1062 0 1 false),[.s 18,.s 1062],[19],none⟩,
  ⟨.k (.bin .eql),[.s 19,.c (.i .i64 (0:Int))],[20],none⟩,
  ⟨.k .mv,[.s 20],[21],none⟩,
  ⟨.k (.fa 1061 0 0),[.s 1],[22],some (21,true)⟩,
  ⟨.k (.ld 1061 0 1 false),[.s 22,.s 1061],[23],some (21,true)⟩,
  ⟨.k (.bin .eql),[.s 23,.c (.i .i64 (6:Int))],[24],some (21,true)⟩,
  ⟨.k .pick,[.s 21,.s 24,.c (.b false)],[25],none⟩,
  ⟨.k .mv,[.s 25],[26],none⟩,
  ⟨.k (.fa 1061 0 4),[.s 1],[27],some (26,true)⟩,
  ⟨.k (.ld 1061 4 1 false),[.s 27,.s 1061],[28],some (26,true)⟩,
  ⟨.k .len,[.s 28],[29],some (26,true)⟩,
  ⟨.k (.bin .eql),[.s 29,.c (.i .i64 (2:Int))],[30],some (26,true)⟩,
  ⟨.k .pick,[.s 26,.s 30,.c (.b false)],[31],none⟩,
  ⟨.k .mv,[.s 31],[32],none⟩,
  ⟨.k (.fa 1061 0 4),[.s 1],[33],some (32,true)⟩,
  ⟨.k (.ld 1061 4 1 false),[.s 33,.s 1061],[34],some (32,true)⟩,
  ⟨.k (.ix 5),[.s 34,.c (.i .i64 (0:Int))],[35],some (32,true)⟩,
  ⟨.k (.fr 3 1 false),[.s 35],[36],some (32,true)⟩,
  ⟨.k (.lr 1 false),[.s 36],[37],some (32,true)⟩,
  ⟨.k (.bin .eql),[.s 37,.c (.s ([97]:Str))],[38],some (32,true)⟩,
  ⟨.k .pick,[.s 32,.s 38,.c (.b false)],[39],none⟩,
  ⟨.k .mv,[.s 39],[40],none⟩,
  ⟨.k (.fa 1061 0 4),[.s 1],[41],some (40,true)⟩,
  ⟨.k (.ld 1061 4 1 false),[.s 41,.s 1061],[42],some (40,true)⟩,
  ⟨.k (.ix 5),[.s 42,.c (.i .i64 (1:Int))],[43],some (40,true)⟩,
  ⟨.k (.fr 0 1 false),[.s 43],[44],some (40,true)⟩,
  ⟨.k (.lr 1 false),[.s 44],[45],some (40,true)⟩,
  ⟨.k (.bin .eql),[.s 45,.c (.i .i64 (7:Int))],[46],some (40,true)⟩,
  ⟨.k .pick,[.s 40,.s 46,.c (.b false)],[47],none⟩,
  ⟨.k .mv,[.s 47],[48],none⟩,
  ⟨.k (.fa 1061 0 4),[.s 1],[49],some (48,true)⟩,
  ⟨.k (.ld 1061 4 1 false),[.s 49,.s 1061],[50],some (48,true)⟩,
  ⟨.k (.ix 5),[.s 50,.c (.i .i64 (1:Int))],[51],some (48,true)⟩,
  ⟨.k (.fr 1 1 false),[.s 51],[52],some (48,true)⟩,
  ⟨.k (.lr 1 false),[.s 52],[53],some (48,true)⟩,
  ⟨.k (.bin .eql),[.s 53,.c (.u64 (1018:UInt64))],[54],some (48,true)⟩,
  ⟨.k .pick,[.s 48,.s 54,.c (.b false)],[55],none⟩,
  ⟨.k .mv,[.s 55],[56],none⟩,
  ⟨.k (.fa 1064 0 0),[.s 4],[57],some (56,true)⟩,
  ⟨.k (.ld 1064 0 1 false),[.s 57,.s 1064],[58],some (56,true)⟩,
  ⟨.k (.bin .eql),[.s 58,.c (.i .i64 (12:Int))],[59],some (56,true)⟩,
  ⟨.k .pick,[.s 56,.s 59,.c (.b false)],[60],none⟩,
  ⟨.k .mv,[.s 60],[0],none⟩]) none .ret)))
def law30_awake.d:TFD:={ np:=0,m:=law30_awake.m,ref:=none,tips:=[],res:=[.t 0],own:=[],new:=none,tnew:=[] }
noncomputable def law30_awake.F  : Option (List TV):=law30_awake.d.run law30_awake.E []
theorem law30_awake.F_in  {ρ:Option (List TV)} (K:∀(v1:List Fld) (h1:v1=([(Fld.mk ([97]:Str) (18:Int) (1:UInt64) (0:UInt64) (0:UInt64) ([]:Str) ([]:Str) (0:Int) ([]:List UInt8) ([]:List Fld))]:List Fld)) (v2:Flt) (h2:v2=((Db.enc (Val.mk (3:Int) (0:UInt64) (0:UInt64) (0:UInt64) ([]:Str) ([]:Str) (0:Int) ([]:List UInt8) v1)).2)) (v3:Val) (h3:v3=((Db.dec (Itm.of (Itv.mk (1:Int) (0:UInt64) ([]:List UInt8) ([]:Str) ([]:List Itm)))).1)) (v4:Flt) (h4:v4=((Db.dec (Itm.of (Itv.mk (1:Int) (0:UInt64) ([]:List UInt8) ([]:Str) ([]:List Itm)))).2)) (v5:Int) (h5:v5=(Itm.kind ((Db.enc (Val.mk (3:Int) (0:UInt64) (0:UInt64) (0:UInt64) ([]:Str) ([]:Str) (0:Int) ([]:List UInt8) v1)).1))) (v6:Bool) (h6:v6=(cond (decide ((Flt.err v2)=(0:Int))) (decide (v5=(6:Int))) false)) (v7:List Itm) (h7:v7=(Itm.kids ((Db.enc (Val.mk (3:Int) (0:UInt64) (0:UInt64) (0:UInt64) ([]:Str) ([]:Str) (0:Int) ([]:List UInt8) v1)).1))) (v8:Bool) (h8:v8=(cond v6 (decide (((v7).length:Int)=(2:Int))) false)) (v9:Str) (h9:v9=(Itm.text (List.getD v7 ((0:Int)).toNat (STy.dflt .il)))) (v10:Bool) (h10:v10=(cond v8 (decide (v9=([97]:Str))) false)) (v11:Int) (h11:v11=(Itm.kind (List.getD v7 ((1:Int)).toNat (STy.dflt .il)))) (v12:Bool) (h12:v12=(cond v10 (decide (v11=(7:Int))) false)) (v13:UInt64) (h13:v13=(Itm.n (List.getD v7 ((1:Int)).toNat (STy.dflt .il)))) (v14:Bool) (h14:v14=(cond v12 (decide (v13=(1018:UInt64))) false)) (v15:Bool) (h15:v15=(cond v14 (decide ((Flt.err v4)=(12:Int))) false)),ck (decide (Fld.bulk (Fld.of [] (Val.mk (3:Int) (0:UInt64) (0:UInt64) (0:UInt64) ([]:Str) ([]:Str) (0:Int) ([]:List UInt8) v1))≤1073741824)) (ck (decide (Itm.bulk (Itm.of (Itv.mk (1:Int) (0:UInt64) ([]:List UInt8) ([]:Str) ([]:List Itm)))≤1073741824)) (ck (!(decide ((Flt.err v2)=(0:Int))) || (decide ((Flt.err v2)=(0:Int)))) (ck (!(decide ((Flt.err v2)=(0:Int))) || (decide ((Flt.err v2)=(0:Int)))) (ck (!(decide ((Flt.err v2)=(0:Int))) || (decide ((Flt.err v2)=(0:Int)))) (ck (!v6 || v6) (ck (!v6 || v6) (ck (!v6 || v6) (ck (!v6 || v6) (ck (!v8 || v8) (ck (!v8 || (v8&&(idxOK (0:Int) (v7).length))) (ck (!v8 || v8) (ck (!v8 || v8) (ck (!v8 || v8) (ck (!v8 || v8) (ck (!v10 || v10) (ck (!v10 || (v10&&(idxOK (1:Int) (v7).length))) (ck (!v10 || v10) (ck (!v10 || v10) (ck (!v10 || v10) (ck (!v10 || v10) (ck (!v12 || v12) (ck (!v12 || (v12&&(idxOK (1:Int) (v7).length))) (ck (!v12 || v12) (ck (!v12 || v12) (ck (!v12 || v12) (ck (!v12 || v12) (ck (!v14 || v14) (ck (!v14 || v14) (ck (!v14 || v14) (some [(.b v15)]))))))))))))))))))))))))))))))=ρ):law30_awake.F  = ρ:=Eq.trans (by kernel_rfl) (K _ rfl _ rfl _ rfl _ rfl _ rfl _ rfl _ rfl _ rfl _ rfl _ rfl _ rfl _ rfl _ rfl _ rfl _ rfl)
theorem law30_awake.chk:((Go.Proofs.Tryd.prog.funcs[8]?).any fun fn=>chkF Go.Proofs.Tryd.prog (fun k=>((envL trydbGl law30_awake.env).fs k).2) fn law30_awake.d.erase)=true:=by kernel_rfl
end
end Go.Eng
