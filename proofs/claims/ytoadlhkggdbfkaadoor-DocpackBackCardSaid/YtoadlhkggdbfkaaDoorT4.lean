/- Texts of my own, one behind the other: DdGp1, DdG, DdUtfP, DdT1, DdT2, DdT3, DdT4, DdRegP, DdBookP. -/
import Derived.Test.YtoadlhkggdbfkaaDoorT3
set_option linter.unusedVariables false
set_option linter.unusedSimpArgs false
namespace Go.Eng
open Go.Proofs
noncomputable section
def ref29_own.env:EV:=[(29,(ref2_Whole.c,ref2_Whole.sg))]
def ref29_own.E:TEnv:=envL trydGl ref29_own.env
def ref29_own.m:TM:=oS [oK (.k (.bx 1165)) [0,1165] [1,1165],oW (.i .i64 0) 2] (oS [oA 1165 0 0 1 4,oL 1165 0 1 4 5,oI .neq 5 (.i .i64 3) 6,oV 6 7,oG 7 true (oA 1165 0 0 1 8),oG 7 true (oL 1165 0 1 8 9),oG 7 true (oI .neq 9 (.i .i64 4) 10),oP 7 10 false 11,oV 11 12,oG 12 true (oA 1165 0 0 1 13),oG 12 true (oL 1165 0 1 13 14),oG 12 true (oI .neq 14 (.i .i64 5) 15),oP 12 15 false 16,oV 16 17,oG 17 true (oA 1165 0 0 1 18),oG 17 true (oL 1165 0 1 18 19),oG 17 true (oI .neq 19 (.i .i64 6) 20),oP 17 20 false 21,oV 21 3] (.seq (.block 0 [] (oS [oA 1165 0 0 1 23,oL 1165 0 1 23 24,oI .lss 24 (.i .i64 1) 25,oV 25 26,oG 26 false (oA 1165 0 0 1 27),oG 26 false (oL 1165 0 1 27 28),oG 26 false (oI .gtr 28 (.i .i64 10) 29),oX (.k .pick) [.s 26,.c (.b true),.s 29] [30],oV 30 31,oG 31 false (oA 1165 0 0 1 32),oG 31 false (oL 1165 0 1 32 33),oG 31 false (oI .eql 33 (.i .i64 7) 34),oX (.k .pick) [.s 31,.c (.b true),.s 34] [35],oV 35 22] (.cond (.s 22) [] (oS [oW (.i .i64 5) 2] .ret) (oS [oV 3 37,oK (.k (.un .not)) [37] [38],oV 38 39,oG 39 true (oA 1165 0 1 1 40),oG 39 true (oL 1165 1 1 40 41),oG 39 true (oI .neq 41 (.u64 0) 42),oP 39 42 false 43,oV 43 44,oG 44 false (oA 1165 0 0 1 45),oG 44 false (oL 1165 0 1 45 46),oG 44 false (oI .neq 46 (.i .i64 3) 47),oG 44 false (oV 47 48),oG 48 true (oA 1165 0 0 1 49),oG 48 true (oL 1165 0 1 49 50),oG 48 true (oI .neq 50 (.i .i64 10) 51),oG 44 false (oP 48 51 false 52),oG 44 false (oV 52 53),oG 53 true (oA 1165 0 2 1 54),oG 53 true (oL 1165 2 1 54 55),oG 53 true (oK (.k .len) [55] [56]),oG 53 true (oI .gtr 56 (.i .i64 0) 57),oG 44 false (oP 53 57 false 58),oX (.k .pick) [.s 44,.c (.b true),.s 58] [59],oV 59 60,oG 60 false (oA 1165 0 0 1 61),oG 60 false (oL 1165 0 1 61 62),oG 60 false (oI .neq 62 (.i .i64 4) 63),oG 60 false (oV 63 64),oG 64 true (oA 1165 0 3 1 65),oG 64 true (oL 1165 3 1 65 66),oG 64 true (oI .neq 66 (.s []) 67),oG 60 false (oP 64 67 false 68),oX (.k .pick) [.s 60,.c (.b true),.s 68] [69],oV 69 36] (.cond (.s 36) [] (oS [oW (.i .i64 1) 2] .ret) (oS [oA 1165 0 0 1 71,oL 1165 0 1 71 72,oI .neq 72 (.i .i64 5) 73,oV 73 74,oG 74 true (oA 1165 0 0 1 75),oG 74 true (oL 1165 0 1 75 76),oG 74 true (oI .neq 76 (.i .i64 6) 77),oP 74 77 false 78,oV 78 79,oG 79 true (oA 1165 0 4 1 80),oG 79 true (oL 1165 4 1 80 81),oG 79 true (oK (.k .len) [81] [82]),oG 79 true (oI .gtr 82 (.i .i64 0) 83),oP 79 83 false 84,oV 84 70] (.cond (.s 70) [] (oS [oW (.i .i64 1) 2] .ret) (oS [oA 1165 0 0 1 86,oL 1165 0 1 86 87,oI .eql 87 (.i .i64 2) 88,oV 88 89,oG 89 true (oA 1165 0 1 1 90),oG 89 true (oL 1165 1 1 90 91),oG 89 true (oI .geq 91 (.u64 9223372036854775808) 92),oP 89 92 false 93,oV 93 94,oG 94 false (oA 1165 0 0 1 95),oG 94 false (oL 1165 0 1 95 96),oG 94 false (oI .eql 96 (.i .i64 8) 97),oG 94 false (oV 97 98),oG 98 true (oA 1165 0 1 1 99),oG 98 true (oL 1165 1 1 99 100),oG 98 true (oI .lss 100 (.u64 20) 101),oG 98 true (oV 101 102),oG 102 false (oA 1165 0 1 1 103),oG 102 false (oL 1165 1 1 103 104),oG 102 false (oI .gtr 104 (.u64 22) 105),oG 98 true (oX (.k .pick) [.s 102,.c (.b true),.s 105] [106]),oG 94 false (oP 98 106 false 107),oX (.k .pick) [.s 94,.c (.b true),.s 107] [108],oV 108 109,oG 109 false (oA 1165 0 0 1 110),oG 109 false (oL 1165 0 1 110 111),oG 109 false (oI .eql 111 (.i .i64 10) 112),oG 109 false (oV 112 113),oG 113 true (oA 1165 0 1 1 114),oG 113 true (oL 1165 1 1 114 115),oG 113 true (oI .gtr 115 (.u64 127) 116),oG 109 false (oP 113 116 false 117),oX (.k .pick) [.s 109,.c (.b true),.s 117] [118],oV 118 119,oG 119 false (oA 1165 0 0 1 120),oG 119 false (oL 1165 0 1 120 121),oG 119 false (oI .eql 121 (.i .i64 6) 122),oG 119 false (oV 122 123),oG 123 true (oA 1165 0 4 1 124),oG 123 true (oL 1165 4 1 124 125),oG 123 true (oK (.k .len) [125] [126]),oG 123 true (oI .rem 126 (.i .i64 2) 127),oG 123 true (oI .neq 127 (.i .i64 0) 128),oG 119 false (oP 123 128 false 129),oX (.k .pick) [.s 119,.c (.b true),.s 129] [130],oV 130 85] (.cond (.s 85) [] (oS [oW (.i .i64 1) 2] .ret) (oS [oA 1165 0 2 1 132,oL 1165 2 1 132 133,oK (.k .len) [133] [134],oI .geq 134 (.i .i64 4294967296) 135,oV 135 136,oG 136 false (oA 1165 0 3 1 137),oG 136 false (oL 1165 3 1 137 138),oG 136 false (oK (.k .lns) [138] [139]),oG 136 false (oI .geq 139 (.i .i64 4294967296) 140),oX (.k .pick) [.s 136,.c (.b true),.s 140] [141],oV 141 142,oG 142 false (oA 1165 0 0 1 143),oG 142 false (oL 1165 0 1 143 144),oG 142 false (oI .eql 144 (.i .i64 5) 145),oG 142 false (oV 145 146),oG 146 true (oA 1165 0 4 1 147),oG 146 true (oL 1165 4 1 147 148),oG 146 true (oK (.k .len) [148] [149]),oG 146 true (oI .geq 149 (.i .i64 4294967296) 150),oG 142 false (oP 146 150 false 151),oX (.k .pick) [.s 142,.c (.b true),.s 151] [152],oV 152 153,oG 153 false (oA 1165 0 4 1 154),oG 153 false (oL 1165 4 1 154 155),oG 153 false (oK (.k .len) [155] [156]),oG 153 false (oI .quo 156 (.i .i64 2) 157),oG 153 false (oI .geq 157 (.i .i64 4294967296) 158),oX (.k .pick) [.s 153,.c (.b true),.s 158] [159],oV 159 131] (.cond (.s 131) [] (oS [oW (.i .i64 1) 2] .ret) (oS [oA 1165 0 3 1 161,oL 1165 3 1 161 162,oC 29 1 1 [162] 163,oK (.k (.un .not)) [163] [164],oV 164 160] (.cond (.s 160) [] (oS [oW (.i .i64 4) 2] .ret) .skip))))))))))))) none (oS [oW (.i .i64 0) 2] .ret)))
def ref29_own.d:TFD:=D0 1 ref29_own.m [.t 2]
def ref29_own.F (it:Itv):OT:=ref29_own.d.run ref29_own.E [(.ag (Itv.cells it))]
theorem ref29_own.F_in (it:Itv) {ρ:OT} (K:∀(v1:Bool) (h1:v1=(cond (!decide ((Itv.kind it)=(3:Int))) (!decide ((Itv.kind it)=(4:Int))) false)) (v2:Bool) (h2:v2=(cond v1 (!decide ((Itv.kind it)=(5:Int))) false)) (v3:Bool) (h3:v3=(cond v2 (!decide ((Itv.kind it)=(6:Int))) false)) (v4:Bool) (h4:v4=(cond (decide ((Itv.kind it)<(1:Int))) true (decide ((10:Int)<(Itv.kind it))))) (v5:Bool) (h5:v5=(cond v4 true (decide ((Itv.kind it)=(7:Int))))) (v6:Bool) (h6:v6=(cond (!v3) (!decide ((Itv.n it)=(0:UInt64))) false)) (v7:Bool) (h7:v7=((!v6)&&(!decide ((Itv.kind it)=(3:Int))))) (v8:Bool) (h8:v8=(cond (!decide ((Itv.kind it)=(3:Int))) (!decide ((Itv.kind it)=(10:Int))) false)) (v9:Int) (h9:v9=(((Itv.bytes it)).length:Int)) (v10:Bool) (h10:v10=(cond v8 (decide ((0:Int)<v9)) false)) (v11:Bool) (h11:v11=((!(cond v6 true v10))&&(!decide ((Itv.kind it)=(4:Int))))) (v12:Bool) (h12:v12=(cond (!decide ((Itv.kind it)=(4:Int))) (!decide ((Itv.text it)=([]:Str))) false)) (v13:Bool) (h13:v13=(cond (cond v6 true v10) true v12)) (v14:Bool) (h14:v14=(cond (!decide ((Itv.kind it)=(5:Int))) (!decide ((Itv.kind it)=(6:Int))) false)) (v15:Int) (h15:v15=(((Itv.kids it)).length:Int)) (v16:Bool) (h16:v16=(cond v14 (decide ((0:Int)<v15)) false)) (v17:Bool) (h17:v17=(cond (decide ((Itv.kind it)=(2:Int))) (decide ((9223372036854775808:UInt64)≤(Itv.n it))) false)) (v18:Bool) (h18:v18=((!v17)&&(decide ((Itv.kind it)=(8:Int))))) (v19:Bool) (h19:v19=(v18&&(!(decide ((Itv.n it)<(20:UInt64)))))) (v20:Bool) (h20:v20=(cond (decide ((Itv.n it)<(20:UInt64))) true (decide ((22:UInt64)<(Itv.n it))))) (v21:Bool) (h21:v21=(cond (decide ((Itv.kind it)=(8:Int))) v20 false)) (v22:Bool) (h22:v22=((!(cond v17 true v21))&&(decide ((Itv.kind it)=(10:Int))))) (v23:Bool) (h23:v23=(cond (decide ((Itv.kind it)=(10:Int))) (decide ((127:UInt64)<(Itv.n it))) false)) (v24:Bool) (h24:v24=(cond (cond v17 true v21) true v23)) (v25:Bool) (h25:v25=((!v24)&&(decide ((Itv.kind it)=(6:Int))))) (v26:Bool) (h26:v26=(cond (decide ((Itv.kind it)=(6:Int))) (!decide ((Int.tmod v15 (2:Int))=(0:Int))) false)) (v27:Int) (h27:v27=(((Itv.text it)).length:Int)) (v28:Bool) (h28:v28=(cond (decide ((4294967296:Int)≤v9)) true (decide ((4294967296:Int)≤v27)))) (v29:Bool) (h29:v29=((!v28)&&(decide ((Itv.kind it)=(5:Int))))) (v30:Bool) (h30:v30=(cond (decide ((Itv.kind it)=(5:Int))) (decide ((4294967296:Int)≤v15)) false)) (v31:Int) (h31:v31=(IntKind.i64.wrap (Int.tdiv v15 (2:Int)))) (v32:Bool) (h32:v32=(cond (cond v28 true v30) true (decide ((4294967296:Int)≤v31)))) (v33:Bool) (h33:v33=(!(Utf.whole ((Itv.text it))))),ck (!(!decide ((Itv.kind it)=(3:Int))) || (!decide ((Itv.kind it)=(3:Int)))) (ck (!(!decide ((Itv.kind it)=(3:Int))) || (!decide ((Itv.kind it)=(3:Int)))) (ck (!(!decide ((Itv.kind it)=(3:Int))) || (!decide ((Itv.kind it)=(3:Int)))) (ck (!v1 || v1) (ck (!v1 || v1) (ck (!v1 || v1) (ck (!v2 || v2) (ck (!v2 || v2) (ck (!v2 || v2) (ck (!(!(decide ((Itv.kind it)<(1:Int)))) || (!(decide ((Itv.kind it)<(1:Int))))) (ck (!(!(decide ((Itv.kind it)<(1:Int)))) || (!(decide ((Itv.kind it)<(1:Int))))) (ck ((decide ((Itv.kind it)<(1:Int))) || (!(decide ((Itv.kind it)<(1:Int))))) (ck (!(!v4) || (!v4)) (ck (!(!v4) || (!v4)) (ck (v4 || (!v4)) (cond v5
  (some [(.i .i64 5)])
  (ck (!(!v3) || (!v3)) (ck (!(!v3) || (!v3)) (ck (!(!v3) || (!v3)) (ck (!(!v6) || (!v6)) (ck (!(!v6) || (!v6)) (ck (!(!v6) || (!v6)) (ck (!v7 || v7) (ck (!v7 || v7) (ck (!(!v6) || ((!v6)&&(!(!decide ((Itv.kind it)=(3:Int))) || v7))) (ck (!(!v6) || (!v6)) (ck (!((!v6)&&v8) || ((!v6)&&v8)) (ck (!((!v6)&&v8) || ((!v6)&&v8)) (ck (!((!v6)&&v8) || ((!v6)&&v8)) (ck (!(!v6) || ((!v6)&&(!v8 || ((!v6)&&v8)))) (ck (v6 || (!v6)) (ck (!(!(cond v6 true v10)) || (!(cond v6 true v10))) (ck (!(!(cond v6 true v10)) || (!(cond v6 true v10))) (ck (!(!(cond v6 true v10)) || (!(cond v6 true v10))) (ck (!v11 || v11) (ck (!v11 || v11) (ck (!(!(cond v6 true v10)) || ((!(cond v6 true v10))&&(!(!decide ((Itv.kind it)=(4:Int))) || v11))) (ck ((cond v6 true v10) || (!(cond v6 true v10))) (cond v13
  (some [(.i .i64 1)])
  (ck (!(!decide ((Itv.kind it)=(5:Int))) || (!decide ((Itv.kind it)=(5:Int)))) (ck (!(!decide ((Itv.kind it)=(5:Int))) || (!decide ((Itv.kind it)=(5:Int)))) (ck (!(!decide ((Itv.kind it)=(5:Int))) || (!decide ((Itv.kind it)=(5:Int)))) (ck (!v14 || v14) (ck (!v14 || v14) (ck (!v14 || v14) (ck (!v14 || v14) (cond v16
  (some [(.i .i64 1)])
  (ck (!(decide ((Itv.kind it)=(2:Int))) || (decide ((Itv.kind it)=(2:Int)))) (ck (!(decide ((Itv.kind it)=(2:Int))) || (decide ((Itv.kind it)=(2:Int)))) (ck (!(decide ((Itv.kind it)=(2:Int))) || (decide ((Itv.kind it)=(2:Int)))) (ck (!(!v17) || (!v17)) (ck (!(!v17) || (!v17)) (ck (!(!v17) || (!v17)) (ck (!v18 || v18) (ck (!v18 || v18) (ck (!v18 || v18) (ck (!v19 || v19) (ck (!v19 || v19) (ck (!v18 || (v18&&((decide ((Itv.n it)<(20:UInt64))) || v19))) (ck (!(!v17) || ((!v17)&&(!(decide ((Itv.kind it)=(8:Int))) || v18))) (ck (v17 || (!v17)) (ck (!(!(cond v17 true v21)) || (!(cond v17 true v21))) (ck (!(!(cond v17 true v21)) || (!(cond v17 true v21))) (ck (!(!(cond v17 true v21)) || (!(cond v17 true v21))) (ck (!v22 || v22) (ck (!v22 || v22) (ck (!(!(cond v17 true v21)) || ((!(cond v17 true v21))&&(!(decide ((Itv.kind it)=(10:Int))) || v22))) (ck ((cond v17 true v21) || (!(cond v17 true v21))) (ck (!(!v24) || (!v24)) (ck (!(!v24) || (!v24)) (ck (!(!v24) || (!v24)) (ck (!v25 || v25) (ck (!v25 || v25) (ck (!v25 || (v25&&(!decide ((2:Int)=0)))) (ck (!v25 || v25) (ck (!(!v24) || ((!v24)&&(!(decide ((Itv.kind it)=(6:Int))) || v25))) (ck (v24 || (!v24)) (cond (cond v24 true v26)
  (some [(.i .i64 1)])
  (ck (!(!(decide ((4294967296:Int)≤v9))) || (!(decide ((4294967296:Int)≤v9)))) (ck (!(!(decide ((4294967296:Int)≤v9))) || (!(decide ((4294967296:Int)≤v9)))) (ck (!(!(decide ((4294967296:Int)≤v9))) || (!(decide ((4294967296:Int)≤v9)))) (ck ((decide ((4294967296:Int)≤v9)) || (!(decide ((4294967296:Int)≤v9)))) (ck (!(!v28) || (!v28)) (ck (!(!v28) || (!v28)) (ck (!(!v28) || (!v28)) (ck (!v29 || v29) (ck (!v29 || v29) (ck (!v29 || v29) (ck (!(!v28) || ((!v28)&&(!(decide ((Itv.kind it)=(5:Int))) || v29))) (ck (v28 || (!v28)) (ck (!(!(cond v28 true v30)) || (!(cond v28 true v30))) (ck (!(!(cond v28 true v30)) || (!(cond v28 true v30))) (ck (!(!(cond v28 true v30)) || ((!(cond v28 true v30))&&(!decide ((2:Int)=0)))) (ck (!(!(cond v28 true v30)) || (!(cond v28 true v30))) (ck ((cond v28 true v30) || (!(cond v28 true v30))) (cond v32
  (some [(.i .i64 1)])
  (ck (decide (((Itv.text it)).length≤1099511627776)) (cond v33
  (some [(.i .i64 4)])
  (some [(.i .i64 0)]))))))))))))))))))))))))))))))))))))))))))))))))))))))))))))))))))))))))))))))))))))))))))))))))))=ρ):ref29_own.F it=ρ:=Eq.trans (by kernel_rfl) (K _ rfl _ rfl _ rfl _ rfl _ rfl _ rfl _ rfl _ rfl _ rfl _ rfl _ rfl _ rfl _ rfl _ rfl _ rfl _ rfl _ rfl _ rfl _ rfl _ rfl _ rfl _ rfl _ rfl _ rfl _ rfl _ rfl _ rfl _ rfl _ rfl _ rfl _ rfl _ rfl _ rfl)
theorem ref29_own.chk:CK 19 ref29_own.env ref29_own.d:=ckOf (by kernel_rfl)
def ref29_Check.env (n:Nat):EV:=[(10,(ref29_Check.cn n,ref29_Check.sg)),(19,(ref29_own.c,ref29_own.sg))]
def ref29_Check.E (n:Nat):TEnv:=envL trydGl (ref29_Check.env n)
def ref29_Check.m1:TM := .seq (oS [oV 4 7,oA 1025 0 4 1 8,oL 1025 4 1 8 9,oK (.k .len) [9] [10],oB .lss 7 10 11,oV 11 12,oG 12 true (oV 3 13),oG 12 true (oI .eql 13 (.i .i64 0) 14),oP 12 14 false 15] (.cond (.s 15) [] .skip (.exit 0))) none (.seq (.block 1 [(1,.ptr 1025 0),(1025,.cl [])] (.reg [oA 1025 0 4 1 18,oL 1025 4 1 18 19,oV 4 20,oK (.k (.ix 5)) [19,20] [21],oK (.k (.lr 5 true)) [21] [22],oC 10 1 1 [22] 23,oV 23 3])) none (.reg [oV 4 16,oI .add 16 (.i .i64 1) 17,oV 17 4]))
def ref29_Check.m:TM:=oS [oK (.k (.bx 1025)) [0,1025] [1,1025],oW (.i .i64 0) 2] (oS [oM 1025 0 5 1 5,oC 19 1 1 [5] 6,oV 6 3] (.seq (oS [oW (.i .i64 0) 4] (.block 0 [] (.loop [1,3,4,1025] [(1,.ptr 1025 0),(1025,.cl [])] ref29_Check.m1))) none (oS [oV 3 24,oV 24 2] .ret)))
def ref29_Check.d:TFD:=D0 1 ref29_Check.m [.t 2]
def ref29_Check.F (n:Nat) (it:Itv):OT:=ref29_Check.d.run (ref29_Check.E n) [(.ag (Itv.cells it))]
def ref29_Check.k1 (n:Nat):Cont (List TV):=seqK (ev _ (ref29_Check.E n) (oS [oV 3 24,oV 24 2] .ret)) none (endK ref29_Check.d)
def ref29_Check.l1 (n:Nat) (x0:Int) (x1:Int) (x2:Itv):OT:=loopL (evO _ (ref29_Check.E n) ref29_Check.m1) isN [1,3,4,1025] (headT [1,3,4,1025] [.pt,(.i .i64 x0),(.i .i64 x1),(.ag (Itv.cells x2))]) (blockK 0 (ref29_Check.k1 n))
theorem ref29_Check.l1_in (n:Nat) (x0:Int) (x1:Int) (x2:Itv) {ρ:OT} (K:∀(v1:Int) (h1:v1=(((Itv.kids x2)).length:Int)) (v2:Bool) (h2:v2=(cond (decide (x1<v1)) (decide (x0=(0:Int))) false)) (v3:Int) (h3:v3=(Mp.chk (Itm.of (Itm.val (List.getD (Itv.kids x2) (x1).toNat (STy.dflt .il)))))) (v4:Int) (h4:v4=(IntKind.i64.wrap (x1+(1:Int)))),ck (!(decide (x1<v1)) || (decide (x1<v1))) (ck (!(decide (x1<v1)) || (decide (x1<v1))) (cond v2
  (ck (idxOK x1 ((Itv.kids x2)).length) (ck ((decide (Itm.bulk (Itm.of (Itm.val (List.getD (Itv.kids x2) (x1).toNat (STy.dflt .il))))≤1099511627776))&&decide ((Itm.bulk (Itm.of (Itm.val (List.getD (Itv.kids x2) (x1).toNat (STy.dflt .il)))))<n)) (ref29_Check.l1 n v3 v4 x2)))
  (some [(.i .i64 x0)])))=ρ):ref29_Check.l1 n x0 x1 x2=ρ:=((ev_loop _ _ _ _ _ _).trans (by kernel_rfl)).trans (K _ rfl _ rfl _ rfl _ rfl)
theorem ref29_Check.F_eq (n:Nat) (it:Itv):ref29_Check.F n it=ck (decide (Itm.bulk (Itm.of it)≤1099511627776)) (ref29_Check.l1 n (Mp.own (Itm.of it)) (0:Int) it):=by kernel_rfl
theorem ref29_Check.chk (n:Nat):CK 10 (ref29_Check.env n) ref29_Check.d:=ckOf (by kernel_rfl)
def ref28_Same.env (n:Nat):EV:=[(7,(ref28_Same.cn n,ref28_Same.sg))]
def ref28_Same.E (n:Nat):TEnv:=envL trydGl (ref28_Same.env n)
def ref28_Same.m1:TM := .seq (oS [oV 5 43,oA 1062 0 4 2 44,oL 1062 4 1 44 45,oK (.k .len) [45] [46],oB .lss 43 46 47] (.cond (.s 47) [] .skip (.exit 0))) none (.seq (.block 1 [(2,.ptr 1062 0),(3,.ptr 1063 0),(1062,.cl []),(1063,.cl [])] (oS [oA 1062 0 4 2 50,oL 1062 4 1 50 51,oV 5 52,oK (.k (.ix 5)) [51,52] [53],oK (.k (.lr 5 true)) [53] [54],oA 1063 0 4 3 55,oL 1063 4 1 55 56,oV 5 57,oK (.k (.ix 5)) [56,57] [58],oK (.k (.lr 5 true)) [58] [59],oC 7 2 1 [54,59] 60,oK (.k (.un .not)) [60] [61]] (.cond (.s 61) [] (oS [oW (.b false) 4] .ret) .skip))) none (.reg [oV 5 48,oI .add 48 (.i .i64 1) 49,oV 49 5]))
def ref28_Same.m:TM:=oS [oK (.k (.bx 1062)) [0,1062] [2,1062],oK (.k (.bx 1063)) [1,1063] [3,1063],oW (.b false) 4] (.seq (oS [oA 1062 0 0 2 6,oL 1062 0 1 6 7,oA 1063 0 0 3 8,oL 1063 0 1 8 9,oB .neq 7 9 10,oV 10 11,oG 11 false (oA 1062 0 1 2 12),oG 11 false (oL 1062 1 1 12 13),oG 11 false (oA 1063 0 1 3 14),oG 11 false (oL 1063 1 1 14 15),oG 11 false (oB .neq 13 15 16),oX (.k .pick) [.s 11,.c (.b true),.s 16] [17],oV 17 18,oG 18 false (oA 1062 0 3 2 19),oG 18 false (oL 1062 3 1 19 20),oG 18 false (oA 1063 0 3 3 21),oG 18 false (oL 1063 3 1 21 22),oG 18 false (oB .neq 20 22 23),oX (.k .pick) [.s 18,.c (.b true),.s 23] [24],oV 24 25,oG 25 false (oA 1062 0 2 2 26),oG 25 false (oL 1062 2 1 26 27),oG 25 false (oK (.k .bs) [27] [28]),oG 25 false (oA 1063 0 2 3 29),oG 25 false (oL 1063 2 1 29 30),oG 25 false (oK (.k .bs) [30] [31]),oG 25 false (oB .neq 28 31 32),oX (.k .pick) [.s 25,.c (.b true),.s 32] [33],oV 33 34,oG 34 false (oA 1062 0 4 2 35),oG 34 false (oL 1062 4 1 35 36),oG 34 false (oK (.k .len) [36] [37]),oG 34 false (oA 1063 0 4 3 38),oG 34 false (oL 1063 4 1 38 39),oG 34 false (oK (.k .len) [39] [40]),oG 34 false (oB .neq 37 40 41),oX (.k .pick) [.s 34,.c (.b true),.s 41] [42]] (.cond (.s 42) [] (oS [oW (.b false) 4] .ret) .skip)) none (.seq (oS [oW (.i .i64 0) 5] (.block 0 [] (.loop [2,3,5,1062,1063] [(2,.ptr 1062 0),(3,.ptr 1063 0),(1062,.cl []),(1063,.cl [])] ref28_Same.m1))) none (oS [oW (.b true) 4] .ret)))
def ref28_Same.d:TFD:=D0 2 ref28_Same.m [.t 4]
def ref28_Same.F (n:Nat) (a:Itv) (b:Itv):OT:=ref28_Same.d.run (ref28_Same.E n) [(.ag (Itv.cells a)),(.ag (Itv.cells b))]
def ref28_Same.k1 (n:Nat):Cont (List TV):=seqK (ev _ (ref28_Same.E n) (oS [oW (.b true) 4] .ret)) none (endK ref28_Same.d)
def ref28_Same.l1 (n:Nat) (x0:Int) (x1:Itv) (x2:Itv):OT:=loopL (evO _ (ref28_Same.E n) ref28_Same.m1) isN [2,3,5,1062,1063] (headT [2,3,5,1062,1063] [.pt,.pt,(.i .i64 x0),(.ag (Itv.cells x1)),(.ag (Itv.cells x2))]) (blockK 0 (ref28_Same.k1 n))
theorem ref28_Same.l1_in (n:Nat) (x0:Int) (x1:Itv) (x2:Itv) {ρ:OT} (K:∀(v1:Int) (h1:v1=(((Itv.kids x1)).length:Int)) (v2:Bool) (h2:v2=(Itm.same (Itm.of (Itm.val (List.getD (Itv.kids x1) (x0).toNat (STy.dflt .il)))) (Itm.of (Itm.val (List.getD (Itv.kids x2) (x0).toNat (STy.dflt .il)))))) (v3:Int) (h3:v3=(IntKind.i64.wrap (x0+(1:Int)))),cond (decide (x0<v1))
  (ck (idxOK x0 ((Itv.kids x1)).length) (ck (idxOK x0 ((Itv.kids x2)).length) (ck ((decide (Itm.bulk (Itm.of (Itm.val (List.getD (Itv.kids x1) (x0).toNat (STy.dflt .il))))≤1099511627776))&&decide ((Itm.bulk (Itm.of (Itm.val (List.getD (Itv.kids x1) (x0).toNat (STy.dflt .il)))))<n)) (cond (!v2)
  (some [(.b false)])
  (ref28_Same.l1 n v3 x1 x2)))))
  (some [(.b true)])=ρ):ref28_Same.l1 n x0 x1 x2=ρ:=((ev_loop _ _ _ _ _ _).trans (by kernel_rfl)).trans (K _ rfl _ rfl _ rfl)
theorem ref28_Same.F_in (n:Nat) (a:Itv) (b:Itv) {ρ:OT} (K:∀(v1:Bool) (h1:v1=(!(!decide ((Itv.kind a)=(Itv.kind b))))) (v2:Bool) (h2:v2=(cond (!decide ((Itv.kind a)=(Itv.kind b))) true (!decide ((Itv.n a)=(Itv.n b))))) (v3:Bool) (h3:v3=(cond v2 true (!decide ((Itv.text a)=(Itv.text b))))) (v4:Bool) (h4:v4=(cond v3 true (!decide ((Itv.bytes a)=(Itv.bytes b))))) (v5:Int) (h5:v5=(((Itv.kids a)).length:Int)) (v6:Int) (h6:v6=(((Itv.kids b)).length:Int)) (v7:Bool) (h7:v7=(cond v4 true (!decide (v5=v6)))),ck (!v1 || v1) (ck (!v1 || v1) (ck (!v1 || (v1&&v1)) (ck ((!decide ((Itv.kind a)=(Itv.kind b))) || v1) (ck (!(!v2) || (!v2)) (ck (!(!v2) || (!v2)) (ck (!(!v2) || ((!v2)&&(!v2))) (ck (v2 || (!v2)) (ck (!(!v3) || (!v3)) (ck (!(!v3) || (!v3)) (ck (!(!v3) || (!v3)) (ck (!(!v3) || (!v3)) (ck (!(!v3) || ((!v3)&&(!v3))) (ck (v3 || (!v3)) (ck (!(!v4) || (!v4)) (ck (!(!v4) || (!v4)) (ck (!(!v4) || (!v4)) (ck (!(!v4) || (!v4)) (ck (!(!v4) || ((!v4)&&(!v4))) (ck (v4 || (!v4)) (cond v7
  (some [(.b false)])
  (ref28_Same.l1 n (0:Int) a b)))))))))))))))))))))=ρ):ref28_Same.F n a b=ρ:=Eq.trans (by kernel_rfl) (K _ rfl _ rfl _ rfl _ rfl _ rfl _ rfl _ rfl)
theorem ref28_Same.chk (n:Nat):CK 7 (ref28_Same.env n) ref28_Same.d:=ckOf (by kernel_rfl)
def book_Room.env:EV:=[]
def book_Room.E:TEnv:=envL trydGl book_Room.env
def book_Room.m1:TM := .seq (oS [oV 5 6,oV 1 7,oK (.k .len) [7] [8],oB .lss 6 8 9] (.cond (.s 9) [] .skip (.exit 0))) none (.seq (.block 1 [] (.seq (oS [oV 0 12,oI .lss 12 (.i .i64 0) 13,oV 13 14,oG 14 false (oV 1 15),oG 14 false (oV 5 16),oG 14 false (oK (.k (.ix 1)) [15,16] [17]),oG 14 false (oK (.k (.lr 1 false)) [17] [18]),oG 14 false (oV 0 19),oG 14 false (oB .gtr 18 19 20),oX (.k .pick) [.s 14,.c (.b true),.s 20] [21]] (.cond (.s 21) [] (oS [oW (.i .i64 (-1)) 4] .ret) .skip)) none (.reg [oV 0 22,oV 1 23,oV 5 24,oK (.k (.ix 1)) [23,24] [25],oK (.k (.lr 1 false)) [25] [26],oB .sub 22 26 27,oV 27 0]))) none (.reg [oV 5 10,oI .add 10 (.i .i64 1) 11,oV 11 5]))
def book_Room.m:TM:=oS [oW (.i .i64 0) 4] (.seq (oS [oW (.i .i64 0) 5] (.block 0 [] (.loop [0,1,5] [] book_Room.m1))) none (oS [oV 0 28,oV 28 4] .ret))
def book_Room.d:TFD:=D0 2 book_Room.m [.t 4]
def book_Room.F (left:Int) (sizes:List Int):OT:=book_Room.d.run book_Room.E [(.i .i64 left),(.sl .is sizes)]
def book_Room.k1:Cont (List TV):=seqK (ev _ book_Room.E (oS [oV 0 28,oV 28 4] .ret)) none (endK book_Room.d)
def book_Room.l1 (x0:Int) (x1:List Int) (x2:Int):OT:=loopL (evO _ book_Room.E book_Room.m1) isN [0,1,5] (headT [0,1,5] [(.i .i64 x0),(.sl .is x1),(.i .i64 x2)]) (blockK 0 book_Room.k1)
theorem book_Room.l1_in (x0:Int) (x1:List Int) (x2:Int) {ρ:OT} (K:∀(v1:Int) (h1:v1=(List.getD x1 (x2).toNat (0:Int))) (v2:Bool) (h2:v2=(cond (decide (x0<(0:Int))) true (decide (x0<v1)))) (v3:Int) (h3:v3=(IntKind.i64.wrap (x2+(1:Int)))),cond (decide (x2<((x1).length:Int)))
  (ck (!(!(decide (x0<(0:Int)))) || (((!(decide (x0<(0:Int))))&&(!(decide (x0<(0:Int)))))&&(idxOK x2 (x1).length))) (ck (!(!(decide (x0<(0:Int)))) || (!(decide (x0<(0:Int))))) (ck (!(!(decide (x0<(0:Int)))) || ((!(decide (x0<(0:Int))))&&(!(decide (x0<(0:Int)))))) (ck ((decide (x0<(0:Int))) || (!(decide (x0<(0:Int))))) (cond v2
  (some [(.i .i64 (-1))])
  (ck (idxOK x2 (x1).length) (book_Room.l1 (IntKind.i64.wrap (x0 - v1)) x1 v3)))))))
  (some [(.i .i64 x0)])=ρ):book_Room.l1 x0 x1 x2=ρ:=((ev_loop _ _ _ _ _ _).trans (by kernel_rfl)).trans (K _ rfl _ rfl _ rfl)
theorem book_Room.F_eq (left:Int) (sizes:List Int):book_Room.F left sizes=book_Room.l1 left sizes (0:Int):=by kernel_rfl
theorem book_Room.chk:CK 20 book_Room.env book_Room.d:=ckOf (by kernel_rfl)
def sl_IndexByte.env:EV:=[]
def sl_IndexByte.E:TEnv:=envL trydGl sl_IndexByte.env
def sl_IndexByte.m:TM:=oS [oW (.i .i64 0) 4] (oS [oV 0 5,oV 1 6,oK (.k .xib) [5,6] [7],oV 7 4] .ret)
def sl_IndexByte.d:TFD:=D0 2 sl_IndexByte.m [.t 4]
def sl_IndexByte.F (s:Str) (c:UInt8):OT:=sl_IndexByte.d.run sl_IndexByte.E [(.s s),(.u8 c)]
theorem sl_IndexByte.F_eq (s:Str) (c:UInt8):sl_IndexByte.F s c=some [(.i .i64 (Lib.indexByte s c))]:=by kernel_rfl
theorem sl_IndexByte.chk:CK 57 sl_IndexByte.env sl_IndexByte.d:=ckOf (by kernel_rfl)
def sl_Index.env:EV:=[(57,(sl_IndexByte.c,sl_IndexByte.sg))]
def sl_Index.E:TEnv:=envL trydGl sl_Index.env
def sl_Index.m1:TM := .seq (oS [oV 0 78,oV 8 79,oI .add 79 (.i .i64 1) 80,oK (.k .si) [78,80] [81],oV 7 82,oB .eql 81 82 83,oV 83 84,oG 84 true (oV 0 85),oG 84 true (oV 8 86),oG 84 true (oV 8 87),oG 84 true (oV 5 88),oG 84 true (oB .add 87 88 89),oG 84 true (oK (.k (.ss true true)) [85,86,89] [90]),oG 84 true (oV 1 91),oG 84 true (oB .eql 90 91 92),oP 84 92 false 93] (.cond (.s 93) [] (oS [oV 8 94,oV 94 4] .ret) .skip)) none (oS [oV 8 95,oI .add 95 (.i .i64 1) 96,oV 96 8] (oS [oV 10 97,oI .add 97 (.i .i64 1) 98,oV 98 10] (oS [oV 5 99,oX (.k (.lr 1 false)) [.g 0] [100],oB .leq 99 100 101,oV 101 102,oG 102 true (oV 10 103),oG 102 true (oV 8 104),oG 102 true (oC 59 1 1 [104] 105),oG 102 true (oB .gtr 103 105 106),oP 102 106 false 107] (.cond (.s 107) [] (oS [oV 0 108,oV 8 109,oK (.k (.ss true false)) [108,109] [110],oV 1 111,oK (.k (.nev true)) [] [112],oV 112 12] (.seq (oS [oV 12 113,oI .geq 113 (.i .i64 0) 114] (.cond (.s 114) [] (oS [oV 12 115,oV 8 116,oB .add 115 116 117,oV 117 4] .ret) .skip)) none (oS [oW (.i .i64 (-1)) 4] .ret))) (oS [oV 5 118,oX (.k (.lr 1 false)) [.g 0] [119],oB .gtr 118 119 120,oV 120 121,oG 121 true (oV 10 122),oG 121 true (oV 8 123),oG 121 true (oI .shr 123 (.u64 4) 124),oG 121 true (oX (.k (.bin .add)) [.c (.i .i64 4),.s 124] [125]),oG 121 true (oB .geq 122 125 126),oP 121 126 false 127,oV 127 128,oG 128 true (oV 8 129),oG 128 true (oV 9 130),oG 128 true (oB .lss 129 130 131),oP 128 131 false 132] (.cond (.s 132) [] (oS [oV 0 133,oV 8 134,oK (.k (.ss true false)) [133,134] [135],oV 1 136,oC 60 2 1 [135,136] 137,oV 137 13] (.seq (oS [oV 13 138,oI .lss 138 (.i .i64 0) 139] (.cond (.s 139) [] (oS [oW (.i .i64 (-1)) 4] .ret) .skip)) none (oS [oV 8 140,oV 13 141,oB .add 140 141 142,oV 142 4] .ret))) .skip))))))
def sl_Index.m2:TM := .seq (oS [oV 8 57,oV 9 58,oB .lss 57 58 59] (.cond (.s 59) [] .skip (.exit 1))) none (.block 2 [] (.seq (oS [oV 0 60,oV 8 61,oK (.k .si) [60,61] [62],oV 6 63,oB .neq 62 63 64] (.cond (.s 64) [] (oS [oV 0 65,oV 8 66,oI .add 66 (.i .i64 1) 67,oV 9 68,oK (.k (.ss true true)) [65,67,68] [69],oV 6 70,oC 57 2 1 [69,70] 71,oV 71 11] (.seq (oS [oV 11 72,oI .lss 72 (.i .i64 0) 73] (.cond (.s 73) [] (oS [oW (.i .i64 (-1)) 4] .ret) .skip)) none (.reg [oV 8 74,oV 11 75,oI .add 75 (.i .i64 1) 76,oB .add 74 76 77,oV 77 8]))) .skip)) (some [0,1,5,6,7,8,9,10]) sl_Index.m1))
def sl_Index.m:TM:=oS [oW (.i .i64 0) 4] (oS [oV 1 14,oK (.k .lns) [14] [15],oV 15 5] (.seq (.block 0 [] (oS [oV 5 17,oI .eql 17 (.i .i64 0) 18,oV 18 19,oG 19 false (oV 1 20),oG 19 false (oV 0 21),oG 19 false (oB .eql 20 21 22),oX (.k .pick) [.s 19,.c (.b true),.s 22] [23],oV 23 16] (.cond (.s 16) [] (oS [oW (.i .i64 0) 4] .ret) (oS [oV 5 25,oI .eql 25 (.i .i64 1) 26,oV 26 24] (.cond (.s 24) [] (oS [oV 0 27,oV 1 28,oX (.k .si) [.s 28,.c (.i .i64 0)] [29],oC 57 2 1 [27,29] 30,oV 30 4] .ret) (oS [oV 5 32,oV 0 33,oK (.k .lns) [33] [34],oB .geq 32 34 35,oV 35 31] (.cond (.s 31) [] (oS [oW (.i .i64 (-1)) 4] .ret) (oS [oV 5 37,oX (.k (.lr 1 false)) [.g 0] [38],oB .leq 37 38 39,oV 39 40,oG 40 true (oV 0 41),oG 40 true (oK (.k .lns) [41] [42]),oG 40 true (oI .leq 42 (.i .i64 64) 43),oP 40 43 false 44,oV 44 36] (.cond (.s 36) [] (oS [oV 0 45,oV 1 46,oK (.k (.nev true)) [] [47],oV 47 4] .ret) .skip))))))))) none (oS [oV 1 48,oX (.k .si) [.s 48,.c (.i .i64 0)] [49],oV 49 6] (oS [oV 1 50,oX (.k .si) [.s 50,.c (.i .i64 1)] [51],oV 51 7] (oS [oW (.i .i64 0) 8] (oS [oV 0 52,oK (.k .lns) [52] [53],oV 5 54,oB .sub 53 54 55,oI .add 55 (.i .i64 1) 56,oV 56 9] (oS [oW (.i .i64 0) 10] (.seq (.block 1 [] (.loop [0,1,5,6,7,8,9,10] [] sl_Index.m2)) none (oS [oW (.i .i64 (-1)) 4] .ret)))))))))
def sl_Index.d:TFD:=D0 2 sl_Index.m [.t 4]
def sl_Index.F (s:Str) (t:Str):OT:=sl_Index.d.run sl_Index.E [(.s s),(.s t)]
theorem sl_Index.F_in (s:Str) (t:Str) {ρ:OT} (K:∀(v1:Bool) (h1:v1=(cond (decide (((t).length:Int)=(0:Int))) true (decide (t=s)))) (v2:UInt8) (h2:v2=(List.getD t ((0:Int)).toNat (0:UInt8))),ck (!(!(decide (((t).length:Int)=(0:Int)))) || ((!(decide (((t).length:Int)=(0:Int))))&&(!(decide (((t).length:Int)=(0:Int)))))) (ck ((decide (((t).length:Int)=(0:Int))) || (!(decide (((t).length:Int)=(0:Int))))) (cond v1
  (some [(.i .i64 0)])
  (cond (decide (((t).length:Int)=(1:Int)))
  (ck (idxOK (0:Int) (t).length) (some [(.i .i64 (Lib.indexByte s v2))]))
  (cond (decide (((s).length:Int)≤((t).length:Int)))
  (some [(.i .i64 (-1))])
  (none)))))=ρ):sl_Index.F s t=ρ:=Eq.trans (by kernel_rfl) (K _ rfl _ rfl)
theorem sl_Index.chk:CK 48 sl_Index.env sl_Index.d:=ckOf (by kernel_rfl)
def st_Index.env:EV:=[(48,(sl_Index.c,sl_Index.sg))]
def st_Index.E:TEnv:=envL trydGl st_Index.env
def st_Index.m:TM:=oS [oW (.i .i64 0) 4] (oS [oV 0 5,oV 1 6,oC 48 2 1 [5,6] 7,oV 7 4] .ret)
def st_Index.d:TFD:=D0 2 st_Index.m [.t 4]
def st_Index.F (s:Str) (t:Str):OT:=st_Index.d.run st_Index.E [(.s s),(.s t)]
theorem st_Index.F_in (s:Str) (t:Str) {ρ:OT} (K:∀(v1:Int) (h1:v1=(Lib.indexByte s (t.getD 0 0))),ck (decide (t.length=1)) (some [(.i .i64 v1)])=ρ):st_Index.F s t=ρ:=Eq.trans (by kernel_rfl) (K _ rfl)
theorem st_Index.chk:CK 41 st_Index.env st_Index.d:=ckOf (by kernel_rfl)
def st_Contains.env:EV:=[(41,(st_Index.c,st_Index.sg))]
def st_Contains.E:TEnv:=envL trydGl st_Contains.env
def st_Contains.m:TM:=oS [oW (.b false) 4] (oS [oV 0 5,oV 1 6,oC 41 2 1 [5,6] 7,oI .geq 7 (.i .i64 0) 8,oV 8 4] .ret)
def st_Contains.d:TFD:=D0 2 st_Contains.m [.t 4]
def st_Contains.F (s:Str) (t:Str):OT:=st_Contains.d.run st_Contains.E [(.s s),(.s t)]
theorem st_Contains.F_in (s:Str) (t:Str) {ρ:OT} (K:∀(v1:Int) (h1:v1=(Lib.indexByte s (t.getD 0 0))),ck (decide (t.length=1)) (some [(.b (decide ((0:Int)≤v1)))])=ρ):st_Contains.F s t=ρ:=Eq.trans (by kernel_rfl) (K _ rfl)
theorem st_Contains.chk:CK 27 st_Contains.env st_Contains.d:=ckOf (by kernel_rfl)
theorem clone_is.ok:KO 26 (clone_is.c) clone_is.sg:=cloneP_ok (t := .is) (b:=8) (by kernel_rfl)
def tree_Name.env:EV:=[]
def tree_Name.E:TEnv:=envL trydGl tree_Name.env
def tree_Name.m:TM:=oS [oW (.s []) 2] (oS [oX (.bd [(.s []),(.s []),(.s []),(.s []),(.s []),(.s []),(.s []),(.s []),(.s []),(.s []),(.s []),(.s []),(.s []),(.s []),(.s []),(.s []),(.s []),(.s []),(.s []),(.s [])] [(0,1),(1,1),(2,1),(3,1),(4,1),(5,1),(6,1),(7,1),(8,1),(9,1),(10,1),(11,1),(12,1),(13,1),(14,1),(15,1),(16,1),(17,1),(18,1),(19,1)]) [.c (.s []),.c (.s ([100,111,117,98,108,101]:Str)),.c (.s ([115,116,114,105,110,103]:Str)),.c (.s ([100,111,99,117,109,101,110,116]:Str)),.c (.s ([97,114,114,97,121]:Str)),.c (.s ([98,105,110,97,114,121]:Str)),.c (.s ([117,110,100,101,102,105,110,101,100]:Str)),.c (.s ([111,98,106,101,99,116,105,100]:Str)),.c (.s ([98,111,111,108]:Str)),.c (.s ([100,97,116,101]:Str)),.c (.s ([110,117,108,108]:Str)),.c (.s ([114,101,103,101,120]:Str)),.c (.s ([112,111,105,110,116,101,114]:Str)),.c (.s ([99,111,100,101]:Str)),.c (.s ([115,121,109,98,111,108]:Str)),.c (.s ([115,99,111,112,101,100]:Str)),.c (.s ([105,110,116,51,50]:Str)),.c (.s ([116,105,109,101,115,116,97,109,112]:Str)),.c (.s ([105,110,116,54,52]:Str)),.c (.s ([100,101,99,105,109,97,108]:Str))] [4],oN 1021 [(.s []),(.s []),(.s []),(.s []),(.s []),(.s []),(.s []),(.s []),(.s []),(.s []),(.s []),(.s []),(.s []),(.s []),(.s []),(.s []),(.s []),(.s []),(.s []),(.s [])] 3,oT 1021 0 20 3 4] (.seq (.block 0 [(3,.ptr 1021 0),(1021,.cl [])] (oS [oV 0 6,oI .eql 6 (.i .i64 127) 7,oV 7 5] (.cond (.s 5) [] (oS [oW (.s ([109,97,120,107,101,121]:Str)) 2] .ret) (oS [oV 0 9,oI .eql 9 (.i .i64 255) 10,oV 10 8] (.cond (.s 8) [] (oS [oW (.s ([109,105,110,107,101,121]:Str)) 2] .ret) (oS [oV 0 12,oI .lss 12 (.i .i64 0) 13,oV 13 14,oG 14 false (oV 0 15),oG 14 false (oI .geq 15 (.i .i64 20) 16),oX (.k .pick) [.s 14,.c (.b true),.s 16] [17],oV 17 11] (.cond (.s 11) [] (oS [oW (.s []) 2] .ret) .skip))))))) none (oS [oV 0 18,oK (.k (.la 1021 20 1)) [3,18,1021] [19],oK (.k (.ll 1021 1)) [19,1021] [20],oV 20 2] .ret)))
def tree_Name.d:TFD:=D0 1 tree_Name.m [.t 2]
def tree_Name.F (k:Int):OT:=tree_Name.d.run tree_Name.E [(.i .i64 k)]
theorem tree_Name.F_in (k:Int) {ρ:OT} (K:∀(v1:Bool) (h1:v1=(cond (decide (k<(0:Int))) true (decide ((20:Int)≤k)))) (v2:Str) (h2:v2=(List.getD [([]:Str),([100,111,117,98,108,101]:Str),([115,116,114,105,110,103]:Str),([100,111,99,117,109,101,110,116]:Str),([97,114,114,97,121]:Str),([98,105,110,97,114,121]:Str),([117,110,100,101,102,105,110,101,100]:Str),([111,98,106,101,99,116,105,100]:Str),([98,111,111,108]:Str),([100,97,116,101]:Str),([110,117,108,108]:Str),([114,101,103,101,120]:Str),([112,111,105,110,116,101,114]:Str),([99,111,100,101]:Str),([115,121,109,98,111,108]:Str),([115,99,111,112,101,100]:Str),([105,110,116,51,50]:Str),([116,105,109,101,115,116,97,109,112]:Str),([105,110,116,54,52]:Str),([100,101,99,105,109,97,108]:Str)] ((k).toNat) ([]:Str))),cond (decide (k=(127:Int)))
  (some [(.s ([109,97,120,107,101,121]:Str))])
  (cond (decide (k=(255:Int)))
  (some [(.s ([109,105,110,107,101,121]:Str))])
  (ck (!(!(decide (k<(0:Int)))) || (!(decide (k<(0:Int))))) (ck ((decide (k<(0:Int))) || (!(decide (k<(0:Int))))) (cond v1
  (some [(.s [])])
  (ck (idxOK k 20) (ck (decide ((k).toNat<20)) (some [(.s v2)])))))))=ρ):tree_Name.F k=ρ:=Eq.trans (by kernel_rfl) (K _ rfl _ rfl)
theorem tree_Name.chk:CK 30 tree_Name.env tree_Name.d:=ckOf (by kernel_rfl)
def tree_fields.env:EV:=[]
def tree_fields.E:TEnv:=envL trydGl tree_fields.env
def tree_fields.m1:TM := .cond (.s 64) [(1,.ptr 1115 0),(1115,.cl [])] (.reg [oA 1115 0 8 1 67,oX (.k (.st 1115 8 1)) [.s 67,.s 1115,.c (.sl .fl ([]:List Fld))] [1115]]) (oS [oI .eql 5 (.i .i64 15) 69,oV 69 68] (.cond (.s 68) [(1,.ptr 1115 0),(1115,.cl [])] (.reg [oA 1115 0 4 1 70,oX (.k (.st 1115 4 1)) [.s 70,.s 1115,.c (.s [])] [1115],oA 1115 0 8 1 71,oX (.k (.st 1115 8 1)) [.s 71,.s 1115,.c (.sl .fl ([]:List Fld))] [1115]]) .skip))
def tree_fields.m2:TM := .cond (.s 28) [(1,.ptr 1115 0),(1115,.cl [])] (.reg [oA 1115 0 4 1 32,oX (.k (.st 1115 4 1)) [.s 32,.s 1115,.c (.s [])] [1115]]) (oS [oI .eql 5 (.i .i64 11) 34,oV 34 33] (.cond (.s 33) [(1,.ptr 1115 0),(1115,.cl [])] (.reg [oA 1115 0 4 1 35,oX (.k (.st 1115 4 1)) [.s 35,.s 1115,.c (.s [])] [1115],oA 1115 0 5 1 36,oX (.k (.st 1115 5 1)) [.s 36,.s 1115,.c (.s [])] [1115]]) (oS [oI .eql 5 (.i .i64 5) 38,oV 38 37] (.cond (.s 37) [(1,.ptr 1115 0),(1115,.cl [])] (.reg [oA 1115 0 6 1 39,oL 1115 6 1 39 40,oI .geq 40 (.i .i64 0) 41,oV 41 42,oG 42 true (oA 1115 0 6 1 43),oG 42 true (oL 1115 6 1 43 44),oG 42 true (oI .leq 44 (.i .i64 255) 45),oP 42 45 false 46,oV 46 3,oA 1115 0 6 1 47,oX (.k (.st 1115 6 1)) [.s 47,.s 1115,.c (.i .i64 0)] [1115],oA 1115 0 7 1 48,oX (.k (.st 1115 7 1)) [.s 48,.s 1115,.c (.sl .bs ([]:List UInt8))] [1115]]) (oS [oI .eql 5 (.i .i64 7) 50,oV 50 49] (.cond (.s 49) [(1,.ptr 1115 0),(1115,.cl [])] (.reg [oA 1115 0 7 1 51,oL 1115 7 1 51 52,oK (.k .len) [52] [53],oI .eql 53 (.i .i64 12) 54,oV 54 3,oA 1115 0 7 1 55,oX (.k (.st 1115 7 1)) [.s 55,.s 1115,.c (.sl .bs ([]:List UInt8))] [1115]]) (oS [oI .eql 5 (.i .i64 12) 57,oV 57 56] (.cond (.s 56) [(1,.ptr 1115 0),(1115,.cl [])] (.reg [oA 1115 0 7 1 58,oL 1115 7 1 58 59,oK (.k .len) [59] [60],oI .eql 60 (.i .i64 12) 61,oV 61 3,oA 1115 0 4 1 62,oX (.k (.st 1115 4 1)) [.s 62,.s 1115,.c (.s [])] [1115],oA 1115 0 7 1 63,oX (.k (.st 1115 7 1)) [.s 63,.s 1115,.c (.sl .bs ([]:List UInt8))] [1115]]) (.seq (oS [oI .eql 5 (.i .i64 3) 65,oV 65 64] (.cond (.s 64) [(1,.ptr 1115 0),(1115,.cl [])] .skip (.reg [oI .eql 5 (.i .i64 4) 66,oV 66 64]))) (some [1,3,5,64,1115]) tree_fields.m1)))))))))
def tree_fields.m3:TM := .cond (.s 6) [(1,.ptr 1115 0),(1115,.cl [])] (.reg [oA 1115 0 1 1 11,oX (.k (.st 1115 1 1)) [.s 11,.s 1115,.c (.u64 0)] [1115]]) (oS [oI .eql 5 (.i .i64 16) 13,oV 13 12] (.cond (.s 12) [(1,.ptr 1115 0),(1115,.cl [])] (.reg [oA 1115 0 1 1 14,oL 1115 1 1 14 15,oI .lss 15 (.u64 4294967296) 16,oV 16 3,oA 1115 0 1 1 17,oX (.k (.st 1115 1 1)) [.s 17,.s 1115,.c (.u64 0)] [1115]]) (oS [oI .eql 5 (.i .i64 8) 19,oV 19 18] (.cond (.s 18) [(1,.ptr 1115 0),(1115,.cl [])] (.reg [oA 1115 0 1 1 20,oL 1115 1 1 20 21,oI .lss 21 (.u64 2) 22,oV 22 3,oA 1115 0 1 1 23,oX (.k (.st 1115 1 1)) [.s 23,.s 1115,.c (.u64 0)] [1115]]) (oS [oI .eql 5 (.i .i64 19) 25,oV 25 24] (.cond (.s 24) [(1,.ptr 1115 0),(1115,.cl [])] (.reg [oA 1115 0 2 1 26,oX (.k (.st 1115 2 1)) [.s 26,.s 1115,.c (.u64 0)] [1115],oA 1115 0 3 1 27,oX (.k (.st 1115 3 1)) [.s 27,.s 1115,.c (.u64 0)] [1115]]) (.seq (oS [oI .eql 5 (.i .i64 2) 29,oV 29 28] (.cond (.s 28) [(1,.ptr 1115 0),(1115,.cl [])] .skip (oS [oI .eql 5 (.i .i64 13) 30,oV 30 28] (.cond (.s 28) [(1,.ptr 1115 0),(1115,.cl [])] .skip (.reg [oI .eql 5 (.i .i64 14) 31,oV 31 28]))))) (some [1,3,5,28,1115]) tree_fields.m2)))))))
def tree_fields.m4:TM:=oS [oV 3 72,oV 72 73,oG 73 true (oA 1115 0 1 1 74),oG 73 true (oL 1115 1 1 74 75),oG 73 true (oI .eql 75 (.u64 0) 76),oP 73 76 false 77,oV 77 78,oG 78 true (oA 1115 0 2 1 79),oG 78 true (oL 1115 2 1 79 80),oG 78 true (oI .eql 80 (.u64 0) 81),oP 78 81 false 82,oV 82 83,oG 83 true (oA 1115 0 3 1 84),oG 83 true (oL 1115 3 1 84 85),oG 83 true (oI .eql 85 (.u64 0) 86),oP 83 86 false 87,oV 87 88,oG 88 true (oA 1115 0 4 1 89),oG 88 true (oL 1115 4 1 89 90),oG 88 true (oI .eql 90 (.s []) 91),oP 88 91 false 92,oV 92 93,oG 93 true (oA 1115 0 5 1 94),oG 93 true (oL 1115 5 1 94 95),oG 93 true (oI .eql 95 (.s []) 96),oP 93 96 false 97,oV 97 98,oG 98 true (oA 1115 0 6 1 99),oG 98 true (oL 1115 6 1 99 100),oG 98 true (oI .eql 100 (.i .i64 0) 101),oP 98 101 false 102,oV 102 103,oG 103 true (oA 1115 0 7 1 104),oG 103 true (oL 1115 7 1 104 105),oG 103 true (oK (.k .len) [105] [106]),oG 103 true (oI .eql 106 (.i .i64 0) 107),oP 103 107 false 108,oV 108 109,oG 109 true (oA 1115 0 8 1 110),oG 109 true (oL 1115 8 1 110 111),oG 109 true (oK (.k .len) [111] [112]),oG 109 true (oI .eql 112 (.i .i64 0) 113),oP 109 113 false 114,oV 114 2] .ret
def tree_fields.m:TM:=oS [oK (.k (.bx 1115)) [0,1115] [1,1115],oW (.b false) 2] (oS [oW (.b true) 3] (.seq (oS [oA 1115 0 0 1 4,oL 1115 0 1 4 5] (.block 0 [(1,.ptr 1115 0),(1115,.cl [])] (.seq (oS [oI .eql 5 (.i .i64 1) 7,oV 7 6] (.cond (.s 6) [(1,.ptr 1115 0),(1115,.cl [])] .skip (oS [oI .eql 5 (.i .i64 9) 8,oV 8 6] (.cond (.s 6) [(1,.ptr 1115 0),(1115,.cl [])] .skip (oS [oI .eql 5 (.i .i64 17) 9,oV 9 6] (.cond (.s 6) [(1,.ptr 1115 0),(1115,.cl [])] .skip (.reg [oI .eql 5 (.i .i64 18) 10,oV 10 6]))))))) (some [1,3,5,6,1115]) tree_fields.m3))) (some [1,3,1115]) tree_fields.m4))
def tree_fields.d:TFD:=D0 1 tree_fields.m [.t 2]
def tree_fields.F (v:Val):OT:=tree_fields.d.run tree_fields.E [(.ag (Val.cells v))]
def tree_fields.k1:Cont (List TV):=seqK (evO _ tree_fields.E tree_fields.m4) (some [1,3,1115]) (endK tree_fields.d)
def tree_fields.j1 (x0:Bool) (x1:Int) (x2:Bool) (x3:Val):OT:=evO _ tree_fields.E tree_fields.m3 (headT [1,3,5,6,1115] [.pt,(.b x0),(.i .i64 x1),(.b x2),(.ag (Val.cells x3))]) (blockK 0 tree_fields.k1)
def tree_fields.j2 (x0:Bool) (x1:Val):OT:=evO _ tree_fields.E tree_fields.m4 (headT [1,3,1115] [.pt,(.b x0),(.ag (Val.cells x1))]) (endK tree_fields.d)
def tree_fields.j3 (x0:Bool) (x1:Int) (x2:Bool) (x3:Val):OT:=evO _ tree_fields.E tree_fields.m2 (headT [1,3,5,28,1115] [.pt,(.b x0),(.i .i64 x1),(.b x2),(.ag (Val.cells x3))]) (blockK 0 tree_fields.k1)
def tree_fields.j4 (x0:Bool) (x1:Int) (x2:Bool) (x3:Val):OT:=evO _ tree_fields.E tree_fields.m1 (headT [1,3,5,64,1115] [.pt,(.b x0),(.i .i64 x1),(.b x2),(.ag (Val.cells x3))]) (blockK 0 tree_fields.k1)
theorem tree_fields.j1_eq (x0:Bool) (x1:Int) (x2:Bool) (x3:Val):tree_fields.j1 x0 x1 x2 x3=cond x2
  (tree_fields.j2 x0 (Val.mk (Val.kind x3) 0 (Val.high x3) (Val.low x3) (Val.text x3) (Val.more x3) (Val.sub x3) (Val.bytes x3) (Val.kids x3)))
  (cond (decide (x1=(16:Int)))
  (tree_fields.j2 (decide ((Val.bits x3)<(4294967296:UInt64))) (Val.mk (Val.kind x3) 0 (Val.high x3) (Val.low x3) (Val.text x3) (Val.more x3) (Val.sub x3) (Val.bytes x3) (Val.kids x3)))
  (cond (decide (x1=(8:Int)))
  (tree_fields.j2 (decide ((Val.bits x3)<(2:UInt64))) (Val.mk (Val.kind x3) 0 (Val.high x3) (Val.low x3) (Val.text x3) (Val.more x3) (Val.sub x3) (Val.bytes x3) (Val.kids x3)))
  (cond (decide (x1=(19:Int)))
  (tree_fields.j2 x0 (Val.mk (Val.kind x3) (Val.bits x3) 0 0 (Val.text x3) (Val.more x3) (Val.sub x3) (Val.bytes x3) (Val.kids x3)))
  (cond (decide (x1=(2:Int)))
  (tree_fields.j3 x0 x1 (decide (x1=(2:Int))) x3)
  (cond (decide (x1=(13:Int)))
  (tree_fields.j3 x0 x1 (decide (x1=(13:Int))) x3)
  (tree_fields.j3 x0 x1 (decide (x1=(14:Int))) x3)))))):=((congrFun (congrFun (ev_eq _ _) _) _).trans (by kernel_rfl))
theorem tree_fields.j2_in (x0:Bool) (x1:Val) {ρ:OT} (K:∀(v1:Bool) (h1:v1=(cond x0 (decide ((Val.bits x1)=(0:UInt64))) false)) (v2:Bool) (h2:v2=(cond v1 (decide ((Val.high x1)=(0:UInt64))) false)) (v3:Bool) (h3:v3=(cond v2 (decide ((Val.low x1)=(0:UInt64))) false)) (v4:Bool) (h4:v4=(cond v3 (decide ((Val.text x1)=([]:Str))) false)) (v5:Bool) (h5:v5=(cond v4 (decide ((Val.more x1)=([]:Str))) false)) (v6:Bool) (h6:v6=(cond v5 (decide ((Val.sub x1)=(0:Int))) false)) (v7:Int) (h7:v7=(((Val.bytes x1)).length:Int)) (v8:Bool) (h8:v8=(cond v6 (decide (v7=(0:Int))) false)) (v9:Int) (h9:v9=(((Val.kids x1)).length:Int)) (v10:Bool) (h10:v10=(cond v8 (decide (v9=(0:Int))) false)),ck (!x0 || x0) (ck (!x0 || x0) (ck (!x0 || x0) (ck (!v1 || v1) (ck (!v1 || v1) (ck (!v1 || v1) (ck (!v2 || v2) (ck (!v2 || v2) (ck (!v2 || v2) (ck (!v3 || v3) (ck (!v3 || v3) (ck (!v3 || v3) (ck (!v4 || v4) (ck (!v4 || v4) (ck (!v4 || v4) (ck (!v5 || v5) (ck (!v5 || v5) (ck (!v5 || v5) (ck (!v6 || v6) (ck (!v6 || v6) (ck (!v6 || v6) (ck (!v6 || v6) (ck (!v8 || v8) (ck (!v8 || v8) (ck (!v8 || v8) (ck (!v8 || v8) (some [(.b v10)]))))))))))))))))))))))))))=ρ):tree_fields.j2 x0 x1=ρ:=((congrFun (congrFun (ev_eq _ _) _) _).trans (by kernel_rfl)).trans (K _ rfl _ rfl _ rfl _ rfl _ rfl _ rfl _ rfl _ rfl _ rfl _ rfl)
theorem tree_fields.j3_in (x0:Bool) (x1:Int) (x2:Bool) (x3:Val) {ρ:OT} (K:∀(v1:Bool) (h1:v1=(cond (decide ((0:Int)≤(Val.sub x3))) (decide ((Val.sub x3)≤(255:Int))) false)) (v2:Int) (h2:v2=(((Val.bytes x3)).length:Int)),cond x2
  (tree_fields.j2 x0 (Val.mk (Val.kind x3) (Val.bits x3) (Val.high x3) (Val.low x3) [] (Val.more x3) (Val.sub x3) (Val.bytes x3) (Val.kids x3)))
  (cond (decide (x1=(11:Int)))
  (tree_fields.j2 x0 (Val.mk (Val.kind x3) (Val.bits x3) (Val.high x3) (Val.low x3) [] [] (Val.sub x3) (Val.bytes x3) (Val.kids x3)))
  (cond (decide (x1=(5:Int)))
  (ck (!(decide ((0:Int)≤(Val.sub x3))) || (decide ((0:Int)≤(Val.sub x3)))) (ck (!(decide ((0:Int)≤(Val.sub x3))) || (decide ((0:Int)≤(Val.sub x3)))) (ck (!(decide ((0:Int)≤(Val.sub x3))) || (decide ((0:Int)≤(Val.sub x3)))) (tree_fields.j2 v1 (Val.mk (Val.kind x3) (Val.bits x3) (Val.high x3) (Val.low x3) (Val.text x3) (Val.more x3) 0 [] (Val.kids x3))))))
  (cond (decide (x1=(7:Int)))
  (tree_fields.j2 (decide (v2=(12:Int))) (Val.mk (Val.kind x3) (Val.bits x3) (Val.high x3) (Val.low x3) (Val.text x3) (Val.more x3) (Val.sub x3) [] (Val.kids x3)))
  (cond (decide (x1=(12:Int)))
  (tree_fields.j2 (decide (v2=(12:Int))) (Val.mk (Val.kind x3) (Val.bits x3) (Val.high x3) (Val.low x3) [] (Val.more x3) (Val.sub x3) [] (Val.kids x3)))
  (cond (decide (x1=(3:Int)))
  (tree_fields.j4 x0 x1 (decide (x1=(3:Int))) x3)
  (tree_fields.j4 x0 x1 (decide (x1=(4:Int))) x3))))))=ρ):tree_fields.j3 x0 x1 x2 x3=ρ:=((congrFun (congrFun (ev_eq _ _) _) _).trans (by kernel_rfl)).trans (K _ rfl _ rfl)
theorem tree_fields.j4_eq (x0:Bool) (x1:Int) (x2:Bool) (x3:Val):tree_fields.j4 x0 x1 x2 x3=cond x2
  (tree_fields.j2 x0 (Val.mk (Val.kind x3) (Val.bits x3) (Val.high x3) (Val.low x3) (Val.text x3) (Val.more x3) (Val.sub x3) (Val.bytes x3) []))
  (cond (decide (x1=(15:Int)))
  (tree_fields.j2 x0 (Val.mk (Val.kind x3) (Val.bits x3) (Val.high x3) (Val.low x3) [] (Val.more x3) (Val.sub x3) (Val.bytes x3) []))
  (tree_fields.j2 x0 x3)):=((congrFun (congrFun (ev_eq _ _) _) _).trans (by kernel_rfl))
theorem tree_fields.F_eq (v:Val):tree_fields.F v=cond (decide ((Val.kind v)=(1:Int)))
  (tree_fields.j1 true (Val.kind v) (decide ((Val.kind v)=(1:Int))) v)
  (cond (decide ((Val.kind v)=(9:Int)))
  (tree_fields.j1 true (Val.kind v) (decide ((Val.kind v)=(9:Int))) v)
  (cond (decide ((Val.kind v)=(17:Int)))
  (tree_fields.j1 true (Val.kind v) (decide ((Val.kind v)=(17:Int))) v)
  (tree_fields.j1 true (Val.kind v) (decide ((Val.kind v)=(18:Int))) v))):=by kernel_rfl
theorem tree_fields.chk:CK 31 tree_fields.env tree_fields.d:=ckOf (by kernel_rfl)
def tree_whole.env:EV:=[(25,(utf_Check.c,utf_Check.sg)),(27,(st_Contains.c,st_Contains.sg))]
def tree_whole.E:TEnv:=envL trydGl tree_whole.env
def tree_whole.m:TM:=oS [oW (.b false) 4] (oS [oV 0 8,oK (.k .sb) [8] [9],oC 25 1 2 [9] 10,oV 10 7,oE 0 7 11,oE 1 7 12,oV 11 5,oV 12 6] (oS [oV 6 13,oV 13 14,oG 14 true (oV 1 15),oG 14 true (oV 15 16),oG 16 true (oV 0 17),oG 16 true (oX (.k (.call 27 (.plain 2 1))) [.s 17,.c (.s ([0]:Str))] [18]),oG 14 true (oP 16 18 false 19),oG 14 true (oK (.k (.un .not)) [19] [20]),oP 14 20 false 21,oV 21 4] .ret))
def tree_whole.d:TFD:=D0 2 tree_whole.m [.t 4]
def tree_whole.F (s:Str) (plain:Bool):OT:=tree_whole.d.run tree_whole.E [(.s s),(.b plain)]
theorem tree_whole.F_in (s:Str) (plain:Bool) {ρ:OT} (K:∀(v1:Bool) (h1:v1=(cond plain (decide (0≤Lib.indexByte s ((([0]:Str)).getD 0 0))) false)) (v2:Bool) (h2:v2=(cond (Utf.whole s) (!v1) false)),ck (lenOK (s).length) (ck (decide (s.length≤1099511627776)) (ck (!(Utf.whole s) || (Utf.whole s)) (ck (!((Utf.whole s)&&plain) || (((Utf.whole s)&&plain)&&(decide ((([0]:Str)).length=1)))) (ck (!(Utf.whole s) || ((Utf.whole s)&&(!plain || ((Utf.whole s)&&plain)))) (ck (!(Utf.whole s) || (Utf.whole s)) (ck (!(Utf.whole s) || (Utf.whole s)) (some [(.b v2)])))))))=ρ):tree_whole.F s plain=ρ:=Eq.trans (by kernel_rfl) (K _ rfl _ rfl)
theorem tree_whole.chk:CK 32 tree_whole.env tree_whole.d:=ckOf (by kernel_rfl)
def tree_check.env (n:Nat):EV:=[(21,(tree_check.cn n,tree_check.sg)),(26,(clone_is.c,clone_is.sg)),(30,(tree_Name.c,tree_Name.sg)),(31,(tree_fields.c,tree_fields.sg)),(32,(tree_whole.c,tree_whole.sg))]
def tree_check.E (n:Nat):TEnv:=envL trydGl (tree_check.env n)
def tree_check.m1:TM:=oS [oB .lss 52 51 53] (.seq (.cond (.s 53) [] .skip (.exit 1)) none (.seq (.block 2 [(2,.tip 999999 1),(lk 999999,.pv 1)] (oS [oV 52 54,oK (.k (.ix 10)) [50,52] [55],oK (.k (.lr 10 true)) [55] [56],oN 1075 zD 10,oV 54 9,oT 1075 0 10 10 56] (oS [oA 1075 0 1 10 58,oM 1075 1 9 58 59,oA 1075 0 0 10 60,oL 1075 0 1 60 61,oV 2 62,oV 9 63,oK (.bl .is 1) [63] [64],oK (.k (.ppa 999999 104 1 8)) [62,64,(lk 999999),(lk 104)] [65,lk 999999,lk 104],oK (.k (.pcall 21 3 2 2 104 1)) [59,61,65,(lk 104)] [66],oV 66 57,oE 0 57 67,oE 1 57 68,oV 67 11,oV 68 12] (oS [oV 12 69,oI .neq 69 (.i .i64 0) 70] (.cond (.s 70) [] (oS [oV 11 71,oV 12 72,oV 71 6,oV 72 7] .ret) .skip))))) none (.reg [oI .add 52 (.i .i64 1) 73,oV 73 52])))
def tree_check.m:TM:=oS [oK (.k (.bx 1074)) [0,1074] [3,1074],oW (.sl .is ([]:List Int)) 6,oW (.i .i64 0) 7] (oS [oA 1074 0 0 3 13,oL 1074 0 1 13 14,oI .eql 14 (.i .i64 11) 15,oV 15 8] (.seq (.block 0 [(2,.tip 999999 1),(3,.ptr 1074 0),(1074,.cl []),(lk 999999,.pv 1)] (oS [oA 1074 0 0 3 17,oL 1074 0 1 17 18,oC 30 1 1 [18] 19,oI .eql 19 (.s []) 20,oV 20 16] (.cond (.s 16) [] (oS [oV 2 21,oK (.k (.pcall 26 1 1 0 999999 1)) [21,(lk 999999)] [22],oV 22 6,oW (.i .i64 5) 7] .ret) (oS [oM 1074 0 9 3 24,oC 31 1 1 [24] 25,oK (.k (.un .not)) [25] [26],oV 26 23] (.cond (.s 23) [] (oS [oV 2 27,oK (.k (.pcall 26 1 1 0 999999 1)) [27,(lk 999999)] [28],oV 28 6,oW (.i .i64 1) 7] .ret) (oS [oA 1074 0 4 3 30,oL 1074 4 1 30 31,oV 8 32,oC 32 2 1 [31,32] 33,oK (.k (.un .not)) [33] [34],oV 34 35,oG 35 false (oA 1074 0 5 3 36),oG 35 false (oL 1074 5 1 36 37),oG 35 false (oV 8 38),oG 35 false (oC 32 2 1 [37,38] 39),oG 35 false (oK (.k (.un .not)) [39] [40]),oX (.k .pick) [.s 35,.c (.b true),.s 40] [41],oV 41 42,oG 42 false (oV 1 43),oG 42 false (oX (.k (.call 32 (.plain 2 1))) [.s 43,.c (.b true)] [44]),oG 42 false (oK (.k (.un .not)) [44] [45]),oX (.k .pick) [.s 42,.c (.b true),.s 45] [46],oV 46 29] (.cond (.s 29) [] (oS [oV 2 47,oK (.k (.pcall 26 1 1 0 999999 1)) [47,(lk 999999)] [48],oV 48 6,oW (.i .i64 4) 7] .ret) .skip))))))) none (.seq (oS [oA 1074 0 8 3 49,oL 1074 8 1 49 50,oK (.k .len) [50] [51],oW (.i .i64 0) 52] (.block 1 [(lk 999999,.pv 1)] (.loop [2,50,51,52,lk 999999] [(2,.tip 999999 1),(lk 999999,.pv 1)] tree_check.m1))) none (oS [oW (.sl .is ([]:List Int)) 6,oW (.i .i64 0) 7] .ret))))
def tree_check.d:TFD:={ np:=3,m:=tree_check.m,ref:=none,tips:=[],res:=[.t 6,.t 7],own:=[],new:=none,tnew:=[],ps:=some (2,999999,1) }
def tree_check.F (n:Nat) (v:Val) (name:Str) (path:List Int):OT:=tree_check.d.run (tree_check.E n) [(.ag (Val.cells v)),(.s name),(.sl .is path)]
def tree_check.k1 (n:Nat):Cont (List TV):=seqK (ev _ (tree_check.E n) (oS [oW (.sl .is ([]:List Int)) 6,oW (.i .i64 0) 7] .ret)) none (endK tree_check.d)
def tree_check.l1 (n:Nat) (x0:List Fld) (x1:Int) (x2:Int) (x3:List Int):OT:=loopL (evO _ (tree_check.E n) tree_check.m1) isN [2,50,51,52,lk 999999] (headT [2,50,51,52,lk 999999] [.pt,(.sl .fl x0),(.i .i64 x1),(.i .i64 x2),(.sl .is x3)]) (blockK 1 (tree_check.k1 n))
theorem tree_check.l1_in (n:Nat) (x0:List Fld) (x1:Int) (x2:Int) (x3:List Int) {ρ:OT} (K:∀(v1:Fld) (h1:v1=(List.getD x0 (x2).toNat (STy.dflt .fl))) (v2:List Int) (h2:v2=((Tree.chkF (Fld.of ((Fld.name v1)) (Fld.val v1)) ((x3++([x2]:List Int)))).1)) (v3:Int) (h3:v3=((Tree.chkF (Fld.of ((Fld.name v1)) (Fld.val v1)) ((x3++([x2]:List Int)))).2)) (v4:Int) (h4:v4=(IntKind.i64.wrap (x2+(1:Int)))),cond (decide (x2<x1))
  (ck (idxOK x2 (x0).length) (ck (apOK ((x3).length+(([x2]:List Int)).length) 8) (ck ((decide (Fld.bulk (Fld.of ((Fld.name v1)) (Fld.val v1))+((x3++([x2]:List Int))).length≤1099511627776))&&decide ((Fld.bulk (Fld.of ((Fld.name v1)) (Fld.val v1)))<n)) (cond (!decide (v3=(0:Int)))
  (some [(.sl .is v2),(.i .i64 v3),(.sl .is x3)])
  (tree_check.l1 n x0 x1 v4 x3)))))
  (some [(.sl .is ([]:List Int)),(.i .i64 0),(.sl .is x3)])=ρ):tree_check.l1 n x0 x1 x2 x3=ρ:=((ev_loop _ _ _ _ _ _).trans (by kernel_rfl)).trans (K _ rfl _ rfl _ rfl _ rfl)
theorem tree_check.F_in (n:Nat) (v:Val) (name:Str) (path:List Int) {ρ:OT} (K:∀(v1:Bool) (h1:v1=(Tree.wholeT ((Val.text v)) ((decide ((Val.kind v)=(11:Int)))))) (v2:Bool) (h2:v2=(Tree.wholeT ((Val.more v)) ((decide ((Val.kind v)=(11:Int)))))) (v3:Bool) (h3:v3=(cond (cond (!v1) true (!v2)) true (!(Tree.wholeT name true)))) (v4:Int) (h4:v4=(((Val.kids v)).length:Int)),cond (decide ((Tree.name ((Val.kind v)))=([]:Str)))
  (ck (apOK (path).length 8) (some [(.sl .is (path)),(.i .i64 5),(.sl .is path)]))
  (cond (!(Tree.fieldsOK v))
  (ck (apOK (path).length 8) (some [(.sl .is (path)),(.i .i64 1),(.sl .is path)]))
  (ck (decide (((Val.text v)).length≤1099511627776)) (ck (!(!(!v1)) || (!(!v1))) (ck (!(!(!v1)) || (((!(!v1))&&(!(!v1)))&&(decide (((Val.more v)).length≤1099511627776)))) (ck (!(!(!v1)) || (!(!v1))) (ck ((!v1) || (!(!v1))) (ck (!(!(cond (!v1) true (!v2))) || ((!(cond (!v1) true (!v2)))&&(decide (name.length≤1099511627776)))) (ck (!(!(cond (!v1) true (!v2))) || (!(cond (!v1) true (!v2)))) (ck ((cond (!v1) true (!v2)) || (!(cond (!v1) true (!v2)))) (cond v3
  (ck (apOK (path).length 8) (some [(.sl .is (path)),(.i .i64 4),(.sl .is path)]))
  (tree_check.l1 n (Val.kids v) v4 (0:Int) path)))))))))))=ρ):tree_check.F n v name path=ρ:=Eq.trans (by kernel_rfl) (K _ rfl _ rfl _ rfl _ rfl)
theorem tree_check.chk (n:Nat):CK 21 (tree_check.env n) tree_check.d:=ckOf (by kernel_rfl)
def tree_Check.env:EV:=[(21,(tree_check.c,tree_check.sg))]
def tree_Check.E:TEnv:=envL trydGl tree_Check.env
def tree_Check.m:TM:=oS [oK (.k (.bx 1008)) [0,1008] [1,1008],oW (.sl .is ([]:List Int)) 2,oW (.i .i64 0) 3] (oS [oM 1008 0 9 1 4,oX (.k (.pcaln 21 3 2 2 1)) [.s 4,.c (.s []),.c (.sl .is ([]:List Int))] [5],oE 0 5 6,oE 1 5 7,oV 6 2,oV 7 3] .ret)
def tree_Check.d:TFD:=D0 1 tree_Check.m [.t 2,.t 3]
def tree_Check.F (v:Val):OT:=tree_Check.d.run tree_Check.E [(.ag (Val.cells v))]
theorem tree_Check.F_in (v:Val) {ρ:OT} (K:∀(v1:List Int) (h1:v1=((Tree.chkF (Fld.of (([]:Str)) v) (([]:List Int))).1)) (v2:Int) (h2:v2=((Tree.chkF (Fld.of (([]:Str)) v) (([]:List Int))).2)),ck (decide (Fld.bulk (Fld.of (([]:Str)) v)+(([]:List Int)).length≤1099511627776)) (some [(.sl .is v1),(.i .i64 v2)])=ρ):tree_Check.F v=ρ:=Eq.trans (by kernel_rfl) (K _ rfl _ rfl)
theorem tree_Check.chk:CK 12 tree_Check.env tree_Check.d:=ckOf (by kernel_rfl)
def tree_Depth.env (n:Nat):EV:=[(13,(tree_Depth.cn n,tree_Depth.sg))]
def tree_Depth.E (n:Nat):TEnv:=envL trydGl (tree_Depth.env n)
def tree_Depth.m1:TM:=oS [oB .lss 22 21 23] (.seq (.cond (.s 23) [] .skip (.exit 0)) none (.seq (.block 1 [] (oS [oK (.k (.ix 10)) [20,22] [24],oK (.k (.lr 10 true)) [24] [25],oN 1035 zD 5,oT 1035 0 10 5 25] (.reg [oV 3 26,oA 1035 0 1 5 27,oM 1035 1 9 27 28,oC 13 1 1 [28] 29,oK (.k .mx) [26,29] [30],oV 30 3]))) none (.reg [oI .add 22 (.i .i64 1) 31,oV 31 22])))
def tree_Depth.m:TM:=oS [oK (.k (.bx 1034)) [0,1034] [1,1034],oW (.i .i64 0) 2] (.seq (oS [oA 1034 0 0 1 6,oL 1034 0 1 6 7,oI .neq 7 (.i .i64 3) 8,oV 8 9,oG 9 true (oA 1034 0 0 1 10),oG 9 true (oL 1034 0 1 10 11),oG 9 true (oI .neq 11 (.i .i64 4) 12),oP 9 12 false 13,oV 13 14,oG 14 true (oA 1034 0 0 1 15),oG 14 true (oL 1034 0 1 15 16),oG 14 true (oI .neq 16 (.i .i64 15) 17),oP 14 17 false 18] (.cond (.s 18) [] (oS [oW (.i .i64 0) 2] .ret) .skip)) none (oS [oW (.i .i64 0) 3] (.seq (oS [oA 1034 0 8 1 19,oL 1034 8 1 19 20,oK (.k .len) [20] [21],oW (.i .i64 0) 22] (.block 0 [] (.loop [3,20,21,22] [] tree_Depth.m1))) none (oS [oV 3 32,oI .add 32 (.i .i64 1) 33,oV 33 2] .ret))))
def tree_Depth.d:TFD:=D0 1 tree_Depth.m [.t 2]
def tree_Depth.F (n:Nat) (v:Val):OT:=tree_Depth.d.run (tree_Depth.E n) [(.ag (Val.cells v))]
def tree_Depth.k1 (n:Nat):Cont (List TV):=seqK (ev _ (tree_Depth.E n) (oS [oV 3 32,oI .add 32 (.i .i64 1) 33,oV 33 2] .ret)) none (endK tree_Depth.d)
def tree_Depth.l1 (n:Nat) (x0:Int) (x1:List Fld) (x2:Int) (x3:Int):OT:=loopL (evO _ (tree_Depth.E n) tree_Depth.m1) isN [3,20,21,22] (headT [3,20,21,22] [(.i .i64 x0),(.sl .fl x1),(.i .i64 x2),(.i .i64 x3)]) (blockK 0 (tree_Depth.k1 n))
theorem tree_Depth.l1_in (n:Nat) (x0:Int) (x1:List Fld) (x2:Int) (x3:Int) {ρ:OT} (K:∀(v1:Fld) (h1:v1=(List.getD x1 (x3).toNat (STy.dflt .fl))) (v2:Int) (h2:v2=((Tree.depth (Fld.of [] (Fld.val v1)):Int))) (v3:Int) (h3:v3=(IntKind.i64.wrap (x3+(1:Int)))) (v4:Int) (h4:v4=(IntKind.i64.wrap (x0+(1:Int)))),cond (decide (x3<x2))
  (ck (idxOK x3 (x1).length) (ck ((decide (Fld.bulk (Fld.of [] (Fld.val v1))≤1099511627776))&&decide ((Fld.bulk (Fld.of [] (Fld.val v1)))<n)) (tree_Depth.l1 n (maxI x0 v2) x1 x2 v3)))
  (some [(.i .i64 v4)])=ρ):tree_Depth.l1 n x0 x1 x2 x3=ρ:=((ev_loop _ _ _ _ _ _).trans (by kernel_rfl)).trans (K _ rfl _ rfl _ rfl _ rfl)
theorem tree_Depth.F_in (n:Nat) (v:Val) {ρ:OT} (K:∀(v1:Bool) (h1:v1=(cond (!decide ((Val.kind v)=(3:Int))) (!decide ((Val.kind v)=(4:Int))) false)) (v2:Bool) (h2:v2=(cond v1 (!decide ((Val.kind v)=(15:Int))) false)) (v3:Int) (h3:v3=(((Val.kids v)).length:Int)),ck (!(!decide ((Val.kind v)=(3:Int))) || (!decide ((Val.kind v)=(3:Int)))) (ck (!(!decide ((Val.kind v)=(3:Int))) || (!decide ((Val.kind v)=(3:Int)))) (ck (!(!decide ((Val.kind v)=(3:Int))) || (!decide ((Val.kind v)=(3:Int)))) (ck (!v1 || v1) (ck (!v1 || v1) (ck (!v1 || v1) (cond v2
  (some [(.i .i64 0)])
  (tree_Depth.l1 n (0:Int) (Val.kids v) v3 (0:Int))))))))=ρ):tree_Depth.F n v=ρ:=Eq.trans (by kernel_rfl) (K _ rfl _ rfl _ rfl)
theorem tree_Depth.chk (n:Nat):CK 13 (tree_Depth.env n) tree_Depth.d:=ckOf (by kernel_rfl)
def ref17_Own.env:EV:=[]
def ref17_Own.E:TEnv:=envL trydGl ref17_Own.env
def ref17_Own.m:TM:=oS [oK (.k (.bx 1061)) [0,1061] [2,1061],oK (.k (.bx 1062)) [1,1062] [3,1062],oW (.b false) 4] (oS [oA 1061 0 0 2 5,oL 1061 0 1 5 6,oA 1062 0 0 3 7,oL 1062 0 1 7 8,oB .eql 6 8 9,oV 9 10,oG 10 true (oA 1061 0 1 2 11),oG 10 true (oL 1061 1 1 11 12),oG 10 true (oA 1062 0 1 3 13),oG 10 true (oL 1062 1 1 13 14),oG 10 true (oB .eql 12 14 15),oP 10 15 false 16,oV 16 17,oG 17 true (oA 1061 0 2 2 18),oG 17 true (oL 1061 2 1 18 19),oG 17 true (oA 1062 0 2 3 20),oG 17 true (oL 1062 2 1 20 21),oG 17 true (oB .eql 19 21 22),oP 17 22 false 23,oV 23 24,oG 24 true (oA 1061 0 3 2 25),oG 24 true (oL 1061 3 1 25 26),oG 24 true (oA 1062 0 3 3 27),oG 24 true (oL 1062 3 1 27 28),oG 24 true (oB .eql 26 28 29),oP 24 29 false 30,oV 30 31,oG 31 true (oA 1061 0 4 2 32),oG 31 true (oL 1061 4 1 32 33),oG 31 true (oA 1062 0 4 3 34),oG 31 true (oL 1062 4 1 34 35),oG 31 true (oB .eql 33 35 36),oP 31 36 false 37,oV 37 38,oG 38 true (oA 1061 0 5 2 39),oG 38 true (oL 1061 5 1 39 40),oG 38 true (oA 1062 0 5 3 41),oG 38 true (oL 1062 5 1 41 42),oG 38 true (oB .eql 40 42 43),oP 38 43 false 44,oV 44 45,oG 45 true (oA 1061 0 6 2 46),oG 45 true (oL 1061 6 1 46 47),oG 45 true (oA 1062 0 6 3 48),oG 45 true (oL 1062 6 1 48 49),oG 45 true (oB .eql 47 49 50),oP 45 50 false 51,oV 51 52,oG 52 true (oA 1061 0 7 2 53),oG 52 true (oL 1061 7 1 53 54),oG 52 true (oK (.k .bs) [54] [55]),oG 52 true (oA 1062 0 7 3 56),oG 52 true (oL 1062 7 1 56 57),oG 52 true (oK (.k .bs) [57] [58]),oG 52 true (oB .eql 55 58 59),oP 52 59 false 60,oV 60 4] .ret)
def ref17_Own.d:TFD:=D0 2 ref17_Own.m [.t 4]
def ref17_Own.F (a:Val) (b:Val):OT:=ref17_Own.d.run ref17_Own.E [(.ag (Val.cells a)),(.ag (Val.cells b))]
theorem ref17_Own.F_in (a:Val) (b:Val) {ρ:OT} (K:∀(v1:Bool) (h1:v1=(cond (decide ((Val.kind a)=(Val.kind b))) (decide ((Val.bits a)=(Val.bits b))) false)) (v2:Bool) (h2:v2=(cond v1 (decide ((Val.high a)=(Val.high b))) false)) (v3:Bool) (h3:v3=(cond v2 (decide ((Val.low a)=(Val.low b))) false)) (v4:Bool) (h4:v4=(cond v3 (decide ((Val.text a)=(Val.text b))) false)) (v5:Bool) (h5:v5=(cond v4 (decide ((Val.more a)=(Val.more b))) false)) (v6:Bool) (h6:v6=(cond v5 (decide ((Val.sub a)=(Val.sub b))) false)) (v7:Bool) (h7:v7=(cond v6 (decide ((Val.bytes a)=(Val.bytes b))) false)),ck (!(decide ((Val.kind a)=(Val.kind b))) || (decide ((Val.kind a)=(Val.kind b)))) (ck (!(decide ((Val.kind a)=(Val.kind b))) || (decide ((Val.kind a)=(Val.kind b)))) (ck (!(decide ((Val.kind a)=(Val.kind b))) || ((decide ((Val.kind a)=(Val.kind b)))&&(decide ((Val.kind a)=(Val.kind b))))) (ck (!(decide ((Val.kind a)=(Val.kind b))) || (decide ((Val.kind a)=(Val.kind b)))) (ck (!v1 || v1) (ck (!v1 || v1) (ck (!v1 || (v1&&v1)) (ck (!v1 || v1) (ck (!v2 || v2) (ck (!v2 || v2) (ck (!v2 || (v2&&v2)) (ck (!v2 || v2) (ck (!v3 || v3) (ck (!v3 || v3) (ck (!v3 || (v3&&v3)) (ck (!v3 || v3) (ck (!v4 || v4) (ck (!v4 || v4) (ck (!v4 || (v4&&v4)) (ck (!v4 || v4) (ck (!v5 || v5) (ck (!v5 || v5) (ck (!v5 || (v5&&v5)) (ck (!v5 || v5) (ck (!v6 || v6) (ck (!v6 || v6) (ck (!v6 || v6) (ck (!v6 || v6) (ck (!v6 || (v6&&v6)) (ck (!v6 || v6) (some [(.b v7)]))))))))))))))))))))))))))))))=ρ):ref17_Own.F a b=ρ:=Eq.trans (by kernel_rfl) (K _ rfl _ rfl _ rfl _ rfl _ rfl _ rfl _ rfl)
theorem ref17_Own.chk:CK 18 ref17_Own.env ref17_Own.d:=ckOf (by kernel_rfl)
def ref17_Same.env (n:Nat):EV:=[(9,(ref17_Same.cn n,ref17_Same.sg)),(18,(ref17_Own.c,ref17_Own.sg))]
def ref17_Same.E (n:Nat):TEnv:=envL trydGl (ref17_Same.env n)
def ref17_Same.m1:TM := .seq (oS [oV 5 19,oA 1055 0 8 2 20,oL 1055 8 1 20 21,oK (.k .len) [21] [22],oB .lss 19 22 23] (.cond (.s 23) [] .skip (.exit 0))) none (.seq (.block 1 [(2,.ptr 1055 0),(3,.ptr 1056 0),(1055,.cl []),(1056,.cl [])] (oS [oA 1055 0 8 2 26,oL 1055 8 1 26 27,oV 5 28,oK (.k (.ix 10)) [27,28] [29],oK (.k (.fr 0 1 false)) [29] [30],oK (.k (.lr 1 false)) [30] [31],oA 1056 0 8 3 32,oL 1056 8 1 32 33,oV 5 34,oK (.k (.ix 10)) [33,34] [35],oK (.k (.fr 0 1 false)) [35] [36],oK (.k (.lr 1 false)) [36] [37],oB .neq 31 37 38,oV 38 39,oG 39 false (oA 1055 0 8 2 40),oG 39 false (oL 1055 8 1 40 41),oG 39 false (oV 5 42),oG 39 false (oK (.k (.ix 10)) [41,42] [43]),oG 39 false (oK (.k (.fr 1 9 true)) [43] [44]),oG 39 false (oK (.k (.lr 9 true)) [44] [45]),oG 39 false (oA 1056 0 8 3 46),oG 39 false (oL 1056 8 1 46 47),oG 39 false (oV 5 48),oG 39 false (oK (.k (.ix 10)) [47,48] [49]),oG 39 false (oK (.k (.fr 1 9 true)) [49] [50]),oG 39 false (oK (.k (.lr 9 true)) [50] [51]),oG 39 false (oC 9 2 1 [45,51] 52),oG 39 false (oK (.k (.un .not)) [52] [53]),oX (.k .pick) [.s 39,.c (.b true),.s 53] [54]] (.cond (.s 54) [] (oS [oW (.b false) 4] .ret) .skip))) none (.reg [oV 5 24,oI .add 24 (.i .i64 1) 25,oV 25 5]))
def ref17_Same.m:TM:=oS [oK (.k (.bx 1055)) [0,1055] [2,1055],oK (.k (.bx 1056)) [1,1056] [3,1056],oW (.b false) 4] (.seq (oS [oM 1055 0 9 2 6,oM 1056 0 9 3 7,oC 18 2 1 [6,7] 8,oK (.k (.un .not)) [8] [9],oV 9 10,oG 10 false (oA 1055 0 8 2 11),oG 10 false (oL 1055 8 1 11 12),oG 10 false (oK (.k .len) [12] [13]),oG 10 false (oA 1056 0 8 3 14),oG 10 false (oL 1056 8 1 14 15),oG 10 false (oK (.k .len) [15] [16]),oG 10 false (oB .neq 13 16 17),oX (.k .pick) [.s 10,.c (.b true),.s 17] [18]] (.cond (.s 18) [] (oS [oW (.b false) 4] .ret) .skip)) none (.seq (oS [oW (.i .i64 0) 5] (.block 0 [] (.loop [2,3,5,1055,1056] [(2,.ptr 1055 0),(3,.ptr 1056 0),(1055,.cl []),(1056,.cl [])] ref17_Same.m1))) none (oS [oW (.b true) 4] .ret)))
def ref17_Same.d:TFD:=D0 2 ref17_Same.m [.t 4]
def ref17_Same.F (n:Nat) (a:Val) (b:Val):OT:=ref17_Same.d.run (ref17_Same.E n) [(.ag (Val.cells a)),(.ag (Val.cells b))]
def ref17_Same.k1 (n:Nat):Cont (List TV):=seqK (ev _ (ref17_Same.E n) (oS [oW (.b true) 4] .ret)) none (endK ref17_Same.d)
def ref17_Same.l1 (n:Nat) (x0:Int) (x1:Val) (x2:Val):OT:=loopL (evO _ (ref17_Same.E n) ref17_Same.m1) isN [2,3,5,1055,1056] (headT [2,3,5,1055,1056] [.pt,.pt,(.i .i64 x0),(.ag (Val.cells x1)),(.ag (Val.cells x2))]) (blockK 0 (ref17_Same.k1 n))
theorem ref17_Same.l1_in (n:Nat) (x0:Int) (x1:Val) (x2:Val) {ρ:OT} (K:∀(v1:Int) (h1:v1=(((Val.kids x1)).length:Int)) (v2:Fld) (h2:v2=(List.getD (Val.kids x1) (x0).toNat (STy.dflt .fl))) (v3:Fld) (h3:v3=(List.getD (Val.kids x2) (x0).toNat (STy.dflt .fl))) (v4:Bool) (h4:v4=(!(!decide ((Fld.name v2)=(Fld.name v3))))) (v5:Bool) (h5:v5=(Tree.same (Fld.val v2) (Fld.val v3))) (v6:Bool) (h6:v6=(cond (!decide ((Fld.name v2)=(Fld.name v3))) true (!v5))) (v7:Int) (h7:v7=(IntKind.i64.wrap (x0+(1:Int)))),cond (decide (x0<v1))
  (ck (idxOK x0 ((Val.kids x1)).length) (ck (idxOK x0 ((Val.kids x2)).length) (ck (!v4 || v4) (ck (!v4 || ((v4&&v4)&&(idxOK x0 ((Val.kids x1)).length))) (ck (!v4 || v4) (ck (!v4 || v4) (ck (!v4 || v4) (ck (!v4 || ((v4&&v4)&&(idxOK x0 ((Val.kids x2)).length))) (ck (!v4 || v4) (ck (!v4 || v4) (ck (!v4 || ((v4&&v4)&&((decide (Fld.bulk (Fld.of [] (Fld.val v2))≤1099511627776))&&decide ((Fld.bulk (Fld.of [] (Fld.val v2)))<n)))) (ck (!v4 || v4) (ck ((!decide ((Fld.name v2)=(Fld.name v3))) || v4) (cond v6
  (some [(.b false)])
  (ref17_Same.l1 n v7 x1 x2)))))))))))))))
  (some [(.b true)])=ρ):ref17_Same.l1 n x0 x1 x2=ρ:=((ev_loop _ _ _ _ _ _).trans (by kernel_rfl)).trans (K _ rfl _ rfl _ rfl _ rfl _ rfl _ rfl _ rfl)
theorem ref17_Same.F_in (n:Nat) (a:Val) (b:Val) {ρ:OT} (K:∀(v1:Int) (h1:v1=(((Val.kids a)).length:Int)) (v2:Int) (h2:v2=(((Val.kids b)).length:Int)) (v3:Bool) (h3:v3=(cond (!(Tree.ownSame a b)) true (!decide (v1=v2)))),ck (!(!(!(Tree.ownSame a b))) || (!(!(Tree.ownSame a b)))) (ck (!(!(!(Tree.ownSame a b))) || (!(!(Tree.ownSame a b)))) (ck (!(!(!(Tree.ownSame a b))) || (!(!(Tree.ownSame a b)))) (ck (!(!(!(Tree.ownSame a b))) || (!(!(Tree.ownSame a b)))) (ck (!(!(!(Tree.ownSame a b))) || ((!(!(Tree.ownSame a b)))&&(!(!(Tree.ownSame a b))))) (ck ((!(Tree.ownSame a b)) || (!(!(Tree.ownSame a b)))) (cond v3
  (some [(.b false)])
  (ref17_Same.l1 n (0:Int) a b)))))))=ρ):ref17_Same.F n a b=ρ:=Eq.trans (by kernel_rfl) (K _ rfl _ rfl _ rfl)
theorem ref17_Same.chk (n:Nat):CK 9 (ref17_Same.env n) ref17_Same.d:=ckOf (by kernel_rfl)
def book_Value.env (n:Nat):EV:=[(11,(book_Value.cn n,book_Value.sg)),(20,(book_Room.c,book_Room.sg))]
def book_Value.E (n:Nat):TEnv:=envL trydGl (book_Value.env n)
def book_Value.m1:TM := .seq (oS [oV 5 18,oA 1047 0 8 3 19,oL 1047 8 1 19 20,oK (.k .len) [20] [21],oB .lss 18 21 22,oV 22 23,oG 23 true (oV 0 24),oG 23 true (oI .geq 24 (.i .i64 0) 25),oP 23 25 false 26] (.cond (.s 26) [] .skip (.exit 0))) none (.seq (.block 1 [(3,.ptr 1047 0),(1047,.cl [])] (.reg [oV 0 29,oA 1047 0 8 3 30,oL 1047 8 1 30 31,oV 5 32,oK (.k (.ix 10)) [31,32] [33],oK (.k (.fr 0 1 false)) [33] [34],oK (.k (.lr 1 false)) [34] [35],oK (.k .lns) [35] [36],oK (.bl .is 1) [36] [37],oC 20 2 1 [29,37] 38,oA 1047 0 8 3 39,oL 1047 8 1 39 40,oV 5 41,oK (.k (.ix 10)) [40,41] [42],oK (.k (.fr 1 9 true)) [42] [43],oK (.k (.lr 9 true)) [43] [44],oC 11 2 1 [38,44] 45,oV 45 0])) none (.reg [oV 5 27,oI .add 27 (.i .i64 1) 28,oV 28 5]))
def book_Value.m:TM:=oS [oK (.k (.bx 1047)) [1,1047] [3,1047],oW (.i .i64 0) 4] (oS [oV 0 6,oA 1047 0 4 3 7,oL 1047 4 1 7 8,oK (.k .lns) [8] [9],oA 1047 0 5 3 10,oL 1047 5 1 10 11,oK (.k .lns) [11] [12],oA 1047 0 7 3 13,oL 1047 7 1 13 14,oK (.k .len) [14] [15],oX (.bl .is 4) [.c (.i .i64 2),.s 9,.s 12,.s 15] [16],oC 20 2 1 [6,16] 17,oV 17 0] (.seq (oS [oW (.i .i64 0) 5] (.block 0 [] (.loop [0,3,5,1047] [(3,.ptr 1047 0),(1047,.cl [])] book_Value.m1))) none (oS [oV 0 46,oV 46 4] .ret)))
def book_Value.d:TFD:=D0 2 book_Value.m [.t 4]
def book_Value.F (n:Nat) (left:Int) (v:Val):OT:=book_Value.d.run (book_Value.E n) [(.i .i64 left),(.ag (Val.cells v))]
def book_Value.k1 (n:Nat):Cont (List TV):=seqK (ev _ (book_Value.E n) (oS [oV 0 46,oV 46 4] .ret)) none (endK book_Value.d)
def book_Value.l1 (n:Nat) (x0:Int) (x1:Int) (x2:Val):OT:=loopL (evO _ (book_Value.E n) book_Value.m1) isN [0,3,5,1047] (headT [0,3,5,1047] [(.i .i64 x0),.pt,(.i .i64 x1),(.ag (Val.cells x2))]) (blockK 0 (book_Value.k1 n))
theorem book_Value.l1_in (n:Nat) (x0:Int) (x1:Int) (x2:Val) {ρ:OT} (K:∀(v1:Int) (h1:v1=(((Val.kids x2)).length:Int)) (v2:Bool) (h2:v2=(cond (decide (x1<v1)) (decide ((0:Int)≤x0)) false)) (v3:Fld) (h3:v3=(List.getD (Val.kids x2) (x1).toNat (STy.dflt .fl))) (v4:Int) (h4:v4=(((Fld.name v3)).length:Int)) (v5:Int) (h5:v5=(Book.room x0 (([v4]:List Int)))) (v6:Int) (h6:v6=(Book.value v5 (Fld.of [] (Fld.val v3)))) (v7:Int) (h7:v7=(IntKind.i64.wrap (x1+(1:Int)))),ck (!(decide (x1<v1)) || (decide (x1<v1))) (ck (!(decide (x1<v1)) || (decide (x1<v1))) (cond v2
  (ck (idxOK x1 ((Val.kids x2)).length) (ck (decide (x0≤10000∧(([v4]:List Int)).length≤10)&&(([v4]:List Int)).all (fun s=>decide (0≤s))) (ck (idxOK x1 ((Val.kids x2)).length) (ck ((decide (v5≤10000))&&decide ((Fld.bulk (Fld.of [] (Fld.val v3)))<n)) (book_Value.l1 n v6 v7 x2)))))
  (some [(.i .i64 x0)])))=ρ):book_Value.l1 n x0 x1 x2=ρ:=((ev_loop _ _ _ _ _ _).trans (by kernel_rfl)).trans (K _ rfl _ rfl _ rfl _ rfl _ rfl _ rfl _ rfl)
theorem book_Value.F_in (n:Nat) (left:Int) (v:Val) {ρ:OT} (K:∀(v1:Int) (h1:v1=(((Val.text v)).length:Int)) (v2:Int) (h2:v2=(((Val.more v)).length:Int)) (v3:Int) (h3:v3=(((Val.bytes v)).length:Int)) (v4:List Int) (h4:v4=([(2:Int),v1,v2,v3]:List Int)),ck (decide (left≤10000∧v4.length≤10)&&v4.all (fun s=>decide (0≤s))) (book_Value.l1 n (Book.room left v4) (0:Int) v)=ρ):book_Value.F n left v=ρ:=Eq.trans (by kernel_rfl) (K _ rfl _ rfl _ rfl _ rfl)
theorem book_Value.chk (n:Nat):CK 11 (book_Value.env n) book_Value.d:=ckOf (by kernel_rfl)
def book_Small.env:EV:=[(11,(book_Value.c,book_Value.sg))]
def book_Small.E:TEnv:=envL trydGl book_Small.env
def book_Small.m:TM:=oS [oK (.k (.bx 1006)) [0,1006] [1,1006],oW (.b false) 2] (oS [oM 1006 0 9 1 3,oX (.k (.call 11 (.plain 2 1))) [.c (.i .i64 1200),.s 3] [4],oI .geq 4 (.i .i64 0) 5,oV 5 2] .ret)
def book_Small.d:TFD:=D0 1 book_Small.m [.t 2]
def book_Small.F (v:Val):OT:=book_Small.d.run book_Small.E [(.ag (Val.cells v))]
theorem book_Small.F_in (v:Val) {ρ:OT} (K:∀(v1:Int) (h1:v1=(Book.value ((1200:Int)) (Fld.of [] v))),ck (decide (((1200:Int))≤10000)) (some [(.b (decide ((0:Int)≤v1)))])=ρ):book_Small.F v=ρ:=Eq.trans (by kernel_rfl) (K _ rfl)
theorem book_Small.chk:CK 5 book_Small.env book_Small.d:=ckOf (by kernel_rfl)
theorem sc_Itoa.ok:KO 42 (sc_Itoa.c) sc_Itoa.sg:=itoa_ok rfl Tryd.itoa
def tree_Regular.env:EV:=[(42,(sc_Itoa.c,sc_Itoa.sg))]
def tree_Regular.E:TEnv:=envL trydGl tree_Regular.env
def tree_Regular.m1:TM:=oS [oB .lss 7 6 8] (.seq (.cond (.s 8) [] .skip (.exit 0)) none (.seq (.block 1 [] (oS [oV 7 9,oK (.k (.ix 10)) [5,7] [10],oK (.k (.lr 10 true)) [10] [11],oN 1018 zD 4,oV 9 3,oT 1018 0 10 4 11] (oS [oA 1018 0 0 4 12,oL 1018 0 1 12 13,oV 3 14,oC 42 1 1 [14] 15,oB .neq 13 15 16] (.cond (.s 16) [] (oS [oW (.b false) 2] .ret) .skip)))) none (.reg [oI .add 7 (.i .i64 1) 17,oV 17 7])))
def tree_Regular.m:TM:=oS [oW (.b false) 2] (.seq (oS [oV 0 5,oK (.k .len) [5] [6],oW (.i .i64 0) 7] (.block 0 [] (.loop [5,6,7] [] tree_Regular.m1))) none (oS [oW (.b true) 2] .ret))
def tree_Regular.d:TFD:=D0 1 tree_Regular.m [.t 2]
def tree_Regular.F (l:List Fld):OT:=tree_Regular.d.run tree_Regular.E [(.sl .fl l)]
def tree_Regular.k1:Cont (List TV):=seqK (ev _ tree_Regular.E (oS [oW (.b true) 2] .ret)) none (endK tree_Regular.d)
def tree_Regular.l1 (x0:List Fld) (x1:Int) (x2:Int):OT:=loopL (evO _ tree_Regular.E tree_Regular.m1) isN [5,6,7] (headT [5,6,7] [(.sl .fl x0),(.i .i64 x1),(.i .i64 x2)]) (blockK 0 tree_Regular.k1)
theorem tree_Regular.l1_in (x0:List Fld) (x1:Int) (x2:Int) {ρ:OT} (K:∀(v1:Fld) (h1:v1=(List.getD x0 (x2).toNat (STy.dflt .fl))) (v2:Int) (h2:v2=(IntKind.i64.wrap (x2+(1:Int)))),cond (decide (x2<x1))
  (ck (idxOK x2 (x0).length) (ck (decide (-9223372036854775808≤x2∧x2≤9223372036854775807)) (cond (!decide ((Fld.name v1)=(Lib.itoa x2)))
  (some [(.b false)])
  (tree_Regular.l1 x0 x1 v2))))
  (some [(.b true)])=ρ):tree_Regular.l1 x0 x1 x2=ρ:=((ev_loop _ _ _ _ _ _).trans (by kernel_rfl)).trans (K _ rfl _ rfl)
theorem tree_Regular.F_eq (l:List Fld):tree_Regular.F l=tree_Regular.l1 l ((l).length:Int) (0:Int):=by kernel_rfl
theorem tree_Regular.chk:CK 33 tree_Regular.env tree_Regular.d:=ckOf (by kernel_rfl)
def st_Cut.env:EV:=[(63,(sl_Cut.c,sl_Cut.sg))]
def st_Cut.E:TEnv:=envL trydGl st_Cut.env
def st_Cut.m:TM:=oS [oW (.s []) 4,oW (.s []) 5,oW (.b false) 6] (oS [oV 0 7,oV 1 8,oC 63 2 3 [7,8] 9,oE 0 9 10,oE 1 9 11,oE 2 9 12,oV 10 4,oV 11 5,oV 12 6] .ret)
def st_Cut.d:TFD:=D0 2 st_Cut.m [.t 4,.t 5,.t 6]
def st_Cut.F (s:Str) (t:Str):OT:=st_Cut.d.run st_Cut.E [(.s s),(.s t)]
theorem st_Cut.F_in (s:Str) (t:Str) {ρ:OT} (K:∀(v1:Str) (h1:v1=((Dk.cut s (t.getD 0 0)).2.1)) (v2:Bool) (h2:v2=((Dk.cut s (t.getD 0 0)).2.2)),ck (decide (t.length=1∧s.length≤1099511627776)) (some [(.s ((Dk.cut s (t.getD 0 0)).1)),(.s v1),(.b v2)])=ρ):st_Cut.F s t=ρ:=Eq.trans (by kernel_rfl) (K _ rfl _ rfl)
theorem st_Cut.chk:CK 53 st_Cut.env st_Cut.d:=ckOf (by kernel_rfl)
def sl_Cut.env:EV:=[(48,(sl_Index.c,sl_Index.sg))]
def sl_Cut.E:TEnv:=envL trydGl sl_Cut.env
def sl_Cut.m:TM:=oS [oW (.s []) 4,oW (.s []) 5,oW (.b false) 6] (.seq (oS [oV 0 8,oV 1 9,oC 48 2 1 [8,9] 10,oV 10 7] (oS [oV 7 11,oI .geq 11 (.i .i64 0) 12] (.cond (.s 12) [] (oS [oV 0 13,oV 7 14,oK (.k (.ss false true)) [13,14] [15],oV 0 16,oV 7 17,oV 1 18,oK (.k .lns) [18] [19],oB .add 17 19 20,oK (.k (.ss true false)) [16,20] [21],oV 15 4,oV 21 5,oW (.b true) 6] .ret) .skip))) none (oS [oV 0 22,oV 22 4,oW (.s []) 5,oW (.b false) 6] .ret))
def sl_Cut.d:TFD:=D0 2 sl_Cut.m [.t 4,.t 5,.t 6]
def sl_Cut.F (s:Str) (t:Str):OT:=sl_Cut.d.run sl_Cut.E [(.s s),(.s t)]
theorem sl_Cut.F_in (s:Str) (t:Str) {ρ:OT} (K:∀(v1:Int) (h1:v1=(Lib.indexByte s (t.getD 0 0))) (v2:Int) (h2:v2=(IntKind.i64.wrap (v1+((t).length:Int)))),ck (decide (t.length=1)) (cond (decide ((0:Int)≤v1))
  (ck (cutOK 0 v1 (s).length) (ck (cutOK v2 (s).length (s).length) (some [(.s (List.take (v1).toNat s)),(.s (List.drop (v2).toNat s)),(.b true)])))
  (some [(.s s),(.s []),(.b false)]))=ρ):sl_Cut.F s t=ρ:=Eq.trans (by kernel_rfl) (K _ rfl _ rfl)
theorem sl_Cut.chk:CK 63 sl_Cut.env sl_Cut.d:=ckOf (by kernel_rfl)
def dk_text.env:EV:=[]
def dk_text.E:TEnv:=envL trydGl dk_text.env
def dk_text.m:TM:=oS [oN 1005 zI 2] (oS [oV 0 3,oX (.bd zI [(0,1),(3,1)]) [.c (.i .i64 4),.s 3] [4],oT 1005 0 5 2 4] .ret)
def dk_text.d:TFD:=D0 1 dk_text.m [.c 2 1005 5 true]
def dk_text.F (s:Str):OT:=dk_text.d.run dk_text.E [(.s s)]
theorem dk_text.F_eq (s:Str):dk_text.F s=some [(.ag [(.i .i64 4),(.u64 0),(.sl .bs ([]:List UInt8)),(.s s),(.sl .il ([]:List Itm))])]:=by kernel_rfl
theorem dk_text.chk:CK 22 dk_text.env dk_text.d:=ckOf (by kernel_rfl)
def dk_simple.env:EV:=[]
def dk_simple.E:TEnv:=envL trydGl dk_simple.env
def dk_simple.m:TM:=oS [oN 1005 zI 2] (oS [oV 0 3,oX (.bd zI [(0,1),(1,1)]) [.c (.i .i64 8),.s 3] [4],oT 1005 0 5 2 4] .ret)
def dk_simple.d:TFD:=D0 1 dk_simple.m [.c 2 1005 5 true]
def dk_simple.F (n:UInt64):OT:=dk_simple.d.run dk_simple.E [(.u64 n)]
theorem dk_simple.F_eq (n:UInt64):dk_simple.F n=some [(.ag [(.i .i64 8),(.u64 n),(.sl .bs ([]:List UInt8)),(.s []),(.sl .il ([]:List Itm))])]:=by kernel_rfl
theorem dk_simple.chk:CK 35 dk_simple.env dk_simple.d:=ckOf (by kernel_rfl)
def dk_high.env:EV:=[]
def dk_high.E:TEnv:=envL trydGl dk_high.env
def dk_high.m1:TM := .seq (oS [oV 6 9,oI .geq 9 (.i .i64 0) 10] (.cond (.s 10) [] .skip (.exit 0))) none (.seq (.block 1 [(5,.tip 103 1),(lk 103,.live 1)] (.reg [oV 5 13,oV 0 14,oV 6 15,oX (.k (.bin .mul)) [.c (.i .i64 8),.s 15] [16],oB .shr 14 16 17,oK (.k (.ci .u8)) [17] [18],oK (.bl .bs 1) [18] [19],oK (.k (.ap 101 103 1 1)) [13,19,(lk 101),(lk 103)] [20,lk 101,lk 103],oV 20 5])) none (.reg [oV 6 11,oI .sub 11 (.i .i64 1) 12,oV 12 6]))
def dk_high.m:TM:=oS [oW (.sl .bs ([]:List UInt8)) 4] (oS [oK (.nl .bs 101) [(lk 101)] [5,lk 101]] (.seq (oS [oV 1 7,oI .sub 7 (.i .i64 1) 8,oV 8 6] (.block 0 [(5,.tip 101 1),(lk 101,.live 1)] (.loop [0,5,6] [(5,.tip 101 1),(lk 101,.live 1)] dk_high.m1))) none (oS [oV 5 21,oV 21 4] .ret)))
def dk_high.d:TFD:={ np:=2,m:=dk_high.m,ref:=none,tips:=[],res:=[.t 4],own:=[(0,1)],new:=none,tnew:=[] }
def dk_high.F (v:UInt64) (n:Int):OT:=dk_high.d.run dk_high.E [(.u64 v),(.i .i64 n)]
def dk_high.k1:Cont (List TV):=seqK (ev _ dk_high.E (oS [oV 5 21,oV 21 4] .ret)) none (endK dk_high.d)
def dk_high.l1 (x0:UInt64) (x1:List UInt8) (x2:Int):OT:=loopL (evO _ dk_high.E dk_high.m1) isN [0,5,6] (headT [0,5,6] [(.u64 x0),(.sl .bs x1),(.i .i64 x2)]) (blockK 0 dk_high.k1)
theorem dk_high.l1_in (x0:UInt64) (x1:List UInt8) (x2:Int) {ρ:OT} (K:∀(v1:Int) (h1:v1=(IntKind.i64.wrap ((8:Int) * x2))) (v2:UInt8) (h2:v2=(UInt8.ofInt (((shr64 x0 ((v1).toNat))).toNat:Int))) (v3:Int) (h3:v3=(IntKind.i64.wrap (x2 - (1:Int)))),cond (decide ((0:Int)≤x2))
  (ck (decide (0≤v1)) (ck (apOK ((x1).length+(([v2]:List UInt8)).length) 1) (dk_high.l1 x0 (x1++([v2]:List UInt8)) v3)))
  (some [(.sl .bs x1)])=ρ):dk_high.l1 x0 x1 x2=ρ:=((ev_loop _ _ _ _ _ _).trans (by kernel_rfl)).trans (K _ rfl _ rfl _ rfl)
theorem dk_high.F_in (v:UInt64) (n:Int) {ρ:OT} (K:∀(v1:Int) (h1:v1=(IntKind.i64.wrap (n - (1:Int)))),dk_high.l1 v ([]:List UInt8) v1=ρ):dk_high.F v n=ρ:=Eq.trans (by kernel_rfl) (K _ rfl)
theorem dk_high.chk:CK 46 dk_high.env dk_high.d:=ckOf (by kernel_rfl)
def dk_integer.env:EV:=[]
def dk_integer.E:TEnv:=envL trydGl dk_integer.env
def dk_integer.m:TM:=oS [oN 1012 zI 2] (.seq (oS [oV 0 3,oI .lss 3 (.i .i64 0) 4] (.cond (.s 4) [] (oS [oV 0 5,oK (.k (.ci .u64)) [5] [6],oK (.k (.un .xor)) [6] [7],oX (.bd zI [(0,1),(1,1)]) [.c (.i .i64 2),.s 7] [8],oT 1012 0 5 2 8] .ret) .skip)) none (oS [oV 0 9,oK (.k (.ci .u64)) [9] [10],oX (.bd zI [(0,1),(1,1)]) [.c (.i .i64 1),.s 10] [11],oT 1012 0 5 2 11] .ret))
def dk_integer.d:TFD:=D0 1 dk_integer.m [.c 2 1012 5 true]
def dk_integer.F (v:Int):OT:=dk_integer.d.run dk_integer.E [(.i .i64 v)]
theorem dk_integer.F_eq (v:Int):dk_integer.F v=cond (decide (v<(0:Int)))
  (some [(.ag [(.i .i64 2),(.u64 (~~~(UInt64.ofInt v))),(.sl .bs ([]:List UInt8)),(.s []),(.sl .il ([]:List Itm))])])
  (some [(.ag [(.i .i64 1),(.u64 (UInt64.ofInt v)),(.sl .bs ([]:List UInt8)),(.s []),(.sl .il ([]:List Itm))])]):=by kernel_rfl
theorem dk_integer.chk:CK 36 dk_integer.env dk_integer.d:=ckOf (by kernel_rfl)
def dk_mapped.env (n:Nat):EV:=[(22,(dk_text.c,dk_text.sg)),(23,(dk_item.cn n,dk_item.sg))]
def dk_mapped.E (n:Nat):TEnv:=envL trydGl (dk_mapped.env n)
def dk_mapped.m1:TM:=oS [oB .lss 9 8 10] (.seq (.cond (.s 10) [] .skip (.exit 0)) none (.seq (.block 1 [(2,.ptr 1026 0),(3,.ptr 1027 0),(1026,.cl []),(1027,.cl [(4,109,5)]),(lk 109,.live 5)] (oS [oK (.k (.ix 10)) [7,9] [11],oK (.k (.lr 10 true)) [11] [12],oN 1028 zD 5,oT 1028 0 10 5 12] (.reg [oA 1027 0 4 3 13,oL 1027 4 1 13 14,oA 1028 0 0 5 15,oL 1028 0 1 15 16,oC 22 1 1 [16] 17,oA 1028 0 1 5 18,oM 1028 1 9 18 19,oC 23 1 1 [19] 20,oK (.bl .il 2) [17,20] [21],oK (.k (.ap 105 109 5 80)) [14,21,(lk 105),(lk 109)] [22,lk 105,lk 109],oA 1027 0 4 3 23,oT 1027 4 1 23 22]))) none (.reg [oI .add 9 (.i .i64 1) 24,oV 24 9])))
def dk_mapped.m:TM:=oS [oN 1026 zI 2] (oS [oX (.bd [(.i .i64 0),(.u64 0),(.c (.slice none 0 0)),(.s []),(.c (.slice none 0 0))] [(0,1)]) [.c (.i .i64 6)] [6],oN 1027 zI 3,oK (.stt 1027 0 5 [(4,105,.il)]) [3,1027,6,(lk 105)] [1027,lk 105]] (.seq (oS [oV 0 7,oK (.k .len) [7] [8],oW (.i .i64 0) 9] (.block 0 [(2,.ptr 1026 0),(3,.ptr 1027 0),(1026,.cl []),(1027,.cl [(4,105,5)]),(lk 105,.live 5)] (.loop [2,3,7,8,9,1026,1027] [(2,.ptr 1026 0),(3,.ptr 1027 0),(1026,.cl []),(1027,.cl [(4,105,5)]),(lk 105,.live 5)] dk_mapped.m1))) none (oS [oM 1027 0 5 3 25,oK (.stt 1026 0 5 [(2,110,.bs)]) [2,1026,25,(lk 110)] [1026,lk 110]] .ret)))
def dk_mapped.d:TFD:=D0 1 dk_mapped.m [.c 2 1026 5 true]
def dk_mapped.F (n:Nat) (l:List Fld):OT:=dk_mapped.d.run (dk_mapped.E n) [(.sl .fl l)]
def dk_mapped.k1 (n:Nat):Cont (List TV):=seqK (ev _ (dk_mapped.E n) (oS [oM 1027 0 5 3 25,oK (.stt 1026 0 5 [(2,110,.bs)]) [2,1026,25,(lk 110)] [1026,lk 110]] .ret)) none (endK dk_mapped.d)
def dk_mapped.l1 (n:Nat) (x0:List Fld) (x1:Int) (x2:Int) (x3:Itv) (x4:Int) (x5:UInt64) (x6:Str) (x7:List Itm):OT:=loopL (evO _ (dk_mapped.E n) dk_mapped.m1) isN [2,3,7,8,9,1026,1027] (headT [2,3,7,8,9,1026,1027] [.pt,.pt,(.sl .fl x0),(.i .i64 x1),(.i .i64 x2),(.ag (Itv.cells x3)),(.ag [(.i .i64 x4),(.u64 x5),(.c (.slice none 0 0)),(.s x6),(.sl .il x7)])]) (blockK 0 (dk_mapped.k1 n))
theorem dk_mapped.l1_in (n:Nat) (x0:List Fld) (x1:Int) (x2:Int) (x3:Itv) (x4:Int) (x5:UInt64) (x6:Str) (x7:List Itm) {ρ:OT} (K:∀(v1:Fld) (h1:v1=(List.getD x0 (x2).toNat (STy.dflt .fl))) (v2:List Itm) (h2:v2=([(Itm.of (Itm.val (Db.text ((Fld.name v1))))),(Itm.of (Itm.val (Dk.item (Fld.of [] (Fld.val v1)))))]:List Itm)) (v3:Int) (h3:v3=(IntKind.i64.wrap (x2+(1:Int)))),cond (decide (x2<x1))
  (ck (idxOK x2 (x0).length) (ck ((decide (Fld.bulk (Fld.of [] (Fld.val v1))≤1048576)&&Tree.fine (Fld.of [] (Fld.val v1)))&&decide ((4 * Fld.bulk (Fld.of [] (Fld.val v1))+2)<n)) (ck (apOK ((x7).length+(v2).length) 80) (dk_mapped.l1 n x0 x1 v3 x3 x4 x5 x6 (x7++v2)))))
  (some [(.ag [(.i .i64 x4),(.u64 x5),(.sl .bs ([]:List UInt8)),(.s x6),(.sl .il x7)])])=ρ):dk_mapped.l1 n x0 x1 x2 x3 x4 x5 x6 x7=ρ:=((ev_loop _ _ _ _ _ _).trans (by kernel_rfl)).trans (K _ rfl _ rfl _ rfl)
theorem dk_mapped.F_eq (n:Nat) (l:List Fld):dk_mapped.F n l=dk_mapped.l1 n l ((l).length:Int) (0:Int) (Itv.mk 0 0 [] [] []) (6:Int) (0:UInt64) ([]:Str) ([]:List Itm):=by kernel_rfl
theorem dk_mapped.chk (n:Nat):CK 14 (dk_mapped.env n) dk_mapped.d:=ckOf (by kernel_rfl)
def dk_laid.env (n:Nat):EV:=[(14,(dk_mapped.cn n,dk_mapped.sg)),(55,(mp_Encode.c,mp_Encode.sg))]
def dk_laid.E (n:Nat):TEnv:=envL trydGl (dk_laid.env n)
def dk_laid.m:TM:=oS [oW (.sl .bs ([]:List UInt8)) 2] (oS [oV 0 6,oC 14 1 1 [6] 7,oC 55 1 2 [7] 8,oV 8 5,oE 0 5 9,oE 1 5 10,oV 9 3,oV 10 4] (oS [oV 3 11,oV 11 2] .ret))
def dk_laid.d:TFD:=D0 1 dk_laid.m [.t 2]
def dk_laid.F (n:Nat) (l:List Fld):OT:=dk_laid.d.run (dk_laid.E n) [(.sl .fl l)]
theorem dk_laid.F_in (n:Nat) (l:List Fld) {ρ:OT} (K:∀(v1:List UInt8) (h1:v1=(Mp.enc (Itm.of (Itm.val (Db.map (Dk.mapped l)))))) (v2:Int) (h2:v2=(Mp.chk (Itm.of (Itm.val (Db.map (Dk.mapped l)))))),ck ((decide (Fld.bulks l≤1048576)&&Tree.fines l)&&decide ((4 * Fld.bulks l+3)<n)) (ck (decide (Itm.bulk (Itm.of (Itm.val (Db.map (Dk.mapped l))))≤1073741824)) (some [(.sl .bs v1)]))=ρ):dk_laid.F n l=ρ:=Eq.trans (by kernel_rfl) (K _ rfl _ rfl)
theorem dk_laid.chk (n:Nat):CK 45 (dk_laid.env n) dk_laid.d:=ckOf (by kernel_rfl)
def dk_item.env (n:Nat):EV:=[(14,(dk_mapped.cn n,dk_mapped.sg)),(22,(dk_text.c,dk_text.sg)),(23,(dk_item.cn n,dk_item.sg)),(33,(tree_Regular.c,tree_Regular.sg)),(34,(clone_bs.c,clone_bs.sg)),(35,(dk_simple.c,dk_simple.sg)),(36,(dk_integer.c,dk_integer.sg)),(37,(dk_sort.c,dk_sort.sg)),(38,(dk_inner.cn n,dk_inner.sg))]
def dk_item.E (n:Nat):TEnv:=envL trydGl (dk_item.env n)
def dk_item.m1:TM:=oS [oB .lss 32 31 33] (.seq (.cond (.s 33) [] .skip (.exit 1)) none (.seq (.block 2 [(2,.ptr 1078 0),(3,.ptr 1079 0),(1078,.cl []),(1079,.cl [(4,111,5)]),(lk 111,.live 5)] (oS [oK (.k (.ix 10)) [30,32] [34],oK (.k (.lr 10 true)) [34] [35],oN 1080 zD 5,oT 1080 0 10 5 35] (.reg [oA 1079 0 4 3 36,oL 1079 4 1 36 37,oA 1080 0 1 5 38,oM 1080 1 9 38 39,oC 23 1 1 [39] 40,oK (.bl .il 1) [40] [41],oK (.k (.ap 107 111 5 80)) [37,41,(lk 107),(lk 111)] [42,lk 107,lk 111],oA 1079 0 4 3 43,oT 1079 4 1 43 42]))) none (.reg [oI .add 32 (.i .i64 1) 44,oV 44 32])))
def dk_item.m2:TM:=oS [oA 1077 0 0 1 71,oL 1077 0 1 71 72,oC 37 1 1 [72] 73,oM 1077 0 9 1 74,oC 38 1 1 [74] 75,oX (.bd zI [(0,1),(1,1),(2,1)]) [.c (.i .i64 10),.s 73,.s 75] [76],oT 1078 0 5 2 76] .ret
def dk_item.m:TM:=oS [oK (.k (.bx 1077)) [0,1077] [1,1077],oN 1078 zI 2] (.seq (oS [oA 1077 0 0 1 6,oL 1077 0 1 6 7] (.block 0 [(1,.ptr 1077 0),(2,.ptr 1078 0),(1077,.cl []),(1078,.cl [])] (oS [oI .eql 7 (.i .i64 1) 9,oV 9 8] (.cond (.s 8) [] (oS [oA 1077 0 1 1 10,oL 1077 1 1 10 11,oX (.bd zI [(0,1),(1,1)]) [.c (.i .i64 9),.s 11] [12],oT 1078 0 5 2 12] .ret) (oS [oI .eql 7 (.i .i64 2) 14,oV 14 13] (.cond (.s 13) [] (oS [oA 1077 0 4 1 15,oL 1077 4 1 15 16,oC 22 1 1 [16] 17,oT 1078 0 5 2 17] .ret) (oS [oI .eql 7 (.i .i64 3) 19,oV 19 18] (.cond (.s 18) [] (oS [oA 1077 0 8 1 20,oL 1077 8 1 20 21,oC 14 1 1 [21] 22,oT 1078 0 5 2 22] .ret) (oS [oI .eql 7 (.i .i64 4) 24,oV 24 23] (.cond (.s 23) [(1,.ptr 1077 0),(2,.ptr 1078 0),(1077,.cl []),(1078,.cl [])] (oS [oA 1077 0 8 1 25,oL 1077 8 1 25 26,oC 33 1 1 [26] 27] (.cond (.s 27) [] (oS [oX (.bd [(.i .i64 0),(.u64 0),(.c (.slice none 0 0)),(.s []),(.c (.slice none 0 0))] [(0,1)]) [.c (.i .i64 5)] [28],oN 1079 zI 3,oK (.stt 1079 0 5 [(4,107,.il)]) [3,1079,28,(lk 107)] [1079,lk 107]] (.seq (oS [oA 1077 0 8 1 29,oL 1077 8 1 29 30,oK (.k .len) [30] [31],oW (.i .i64 0) 32] (.block 1 [(2,.ptr 1078 0),(3,.ptr 1079 0),(1078,.cl []),(1079,.cl [(4,107,5)]),(lk 107,.live 5)] (.loop [2,3,30,31,32,1078,1079] [(2,.ptr 1078 0),(3,.ptr 1079 0),(1078,.cl []),(1079,.cl [(4,107,5)]),(lk 107,.live 5)] dk_item.m1))) none (oS [oM 1079 0 5 3 45,oK (.stt 1078 0 5 [(2,112,.bs)]) [2,1078,45,(lk 112)] [1078,lk 112]] .ret))) .skip)) (oS [oI .eql 7 (.i .i64 5) 47,oV 47 46] (.cond (.s 46) [(1,.ptr 1077 0),(2,.ptr 1078 0),(1077,.cl []),(1078,.cl [])] (oS [oA 1077 0 6 1 48,oL 1077 6 1 48 49,oI .eql 49 (.i .i64 0) 50] (.cond (.s 50) [] (oS [oA 1077 0 7 1 51,oL 1077 7 1 51 52,oK (.k (.call 34 ⟨1,none,[],[],1,[(0,113,1)],none,[]⟩)) [52,(lk 113)] [53,lk 113],oX (.bd zI [(0,1),(2,1)]) [.c (.i .i64 3),.s 53] [54],oT 1078 0 5 2 54] .ret) .skip)) (oS [oI .eql 7 (.i .i64 10) 56,oV 56 55] (.cond (.s 55) [] (oS [oX (.k (.call 35 (.plain 1 1))) [.c (.u64 22)] [57],oT 1078 0 5 2 57] .ret) (oS [oI .eql 7 (.i .i64 8) 59,oV 59 58] (.cond (.s 58) [] (oS [oA 1077 0 1 1 60,oL 1077 1 1 60 61,oX (.k (.bin .add)) [.c (.u64 20),.s 61] [62],oC 35 1 1 [62] 63,oT 1078 0 5 2 63] .ret) (oS [oI .eql 7 (.i .i64 16) 65,oV 65 64] (.cond (.s 64) [] (oS [oA 1077 0 1 1 66,oL 1077 1 1 66 67,oK (.k (.ci .i32)) [67] [68],oK (.k (.ci .i64)) [68] [69],oC 36 1 1 [69] 70,oT 1078 0 5 2 70] .ret) .skip)))))))))))))))))) (some [1,2,1077,1078]) dk_item.m2)
def dk_item.d:TFD:=D0 1 dk_item.m [.c 2 1078 5 true]
def dk_item.F (n:Nat) (v:Val):OT:=dk_item.d.run (dk_item.E n) [(.ag (Val.cells v))]
def dk_item.k1 (n:Nat):Cont (List TV):=seqK (evO _ (dk_item.E n) dk_item.m2) (some [1,2,1077,1078]) (endK dk_item.d)
def dk_item.k2 (n:Nat):Cont (List TV):=seqK (ev _ (dk_item.E n) (oS [oM 1079 0 5 3 45,oK (.stt 1078 0 5 [(2,112,.bs)]) [2,1078,45,(lk 112)] [1078,lk 112]] .ret)) none (blockK 0 (dk_item.k1 n))
def dk_item.l1 (n:Nat) (x0:List Fld) (x1:Int) (x2:Int) (x3:Itv) (x4:Int) (x5:UInt64) (x6:Str) (x7:List Itm):OT:=loopL (evO _ (dk_item.E n) dk_item.m1) isN [2,3,30,31,32,1078,1079] (headT [2,3,30,31,32,1078,1079] [.pt,.pt,(.sl .fl x0),(.i .i64 x1),(.i .i64 x2),(.ag (Itv.cells x3)),(.ag [(.i .i64 x4),(.u64 x5),(.c (.slice none 0 0)),(.s x6),(.sl .il x7)])]) (blockK 1 (dk_item.k2 n))
def dk_item.j2 (n:Nat) (x0:Val) (x1:Itv):OT:=evO _ (dk_item.E n) dk_item.m2 (headT [1,2,1077,1078] [.pt,.pt,(.ag (Val.cells x0)),(.ag (Itv.cells x1))]) (endK dk_item.d)
theorem dk_item.l1_in (n:Nat) (x0:List Fld) (x1:Int) (x2:Int) (x3:Itv) (x4:Int) (x5:UInt64) (x6:Str) (x7:List Itm) {ρ:OT} (K:∀(v1:Fld) (h1:v1=(List.getD x0 (x2).toNat (STy.dflt .fl))) (v2:List Itm) (h2:v2=([(Itm.of (Itm.val (Dk.item (Fld.of [] (Fld.val v1)))))]:List Itm)) (v3:Int) (h3:v3=(IntKind.i64.wrap (x2+(1:Int)))),cond (decide (x2<x1))
  (ck (idxOK x2 (x0).length) (ck ((decide (Fld.bulk (Fld.of [] (Fld.val v1))≤1048576)&&Tree.fine (Fld.of [] (Fld.val v1)))&&decide ((4 * Fld.bulk (Fld.of [] (Fld.val v1))+2)<n)) (ck (apOK ((x7).length+(v2).length) 80) (dk_item.l1 n x0 x1 v3 x3 x4 x5 x6 (x7++v2)))))
  (some [(.ag [(.i .i64 x4),(.u64 x5),(.sl .bs ([]:List UInt8)),(.s x6),(.sl .il x7)])])=ρ):dk_item.l1 n x0 x1 x2 x3 x4 x5 x6 x7=ρ:=((ev_loop _ _ _ _ _ _).trans (by kernel_rfl)).trans (K _ rfl _ rfl _ rfl)
theorem dk_item.j2_in (n:Nat) (x0:Val) (x1:Itv) {ρ:OT} (K:∀(v1:List UInt8) (h1:v1=(Dk.inner x0 (Mp.lay (Db.map (Dk.mapped (x0).kids))))),ck ((decide (Fld.bulk (Fld.of [] x0)≤1048576)&&Tree.fine (Fld.of [] x0))&&decide ((4 * Fld.bulk (Fld.of [] x0)+1)<n)) (some [(.ag [(.i .i64 10),(.u64 (Dk.sort ((Val.kind x0)))),(.sl .bs v1),(.s []),(.sl .il ([]:List Itm))])])=ρ):dk_item.j2 n x0 x1=ρ:=((congrFun (congrFun (ev_eq _ _) _) _).trans (by kernel_rfl)).trans (K _ rfl)
theorem dk_item.F_in (n:Nat) (v:Val) {ρ:OT} (K:∀(v1:Bool) (h1:v1=(Tree.regular ((Val.kids v)))) (v2:Int) (h2:v2=(((Val.kids v)).length:Int)) (v3:UInt64) (h3:v3=((20:UInt64)+(Val.bits v))) (v4:Int) (h4:v4=(IntKind.i32.wrap (((Val.bits v)).toNat:Int))),cond (decide ((Val.kind v)=(1:Int)))
  (some [(.ag [(.i .i64 9),(.u64 (Val.bits v)),(.sl .bs ([]:List UInt8)),(.s []),(.sl .il ([]:List Itm))])])
  (cond (decide ((Val.kind v)=(2:Int)))
  (some [(.ag (Itv.cells (Itm.val (Db.text ((Val.text v))))))])
  (cond (decide ((Val.kind v)=(3:Int)))
  (ck ((decide (Fld.bulks ((Val.kids v))≤1048576)&&Tree.fines ((Val.kids v)))&&decide ((4 * Fld.bulks ((Val.kids v))+3)<n)) (some [(.ag (Itv.cells (Itm.val (Db.map (Dk.mapped ((Val.kids v)))))))]))
  (cond (decide ((Val.kind v)=(4:Int)))
  (ck (decide (((Val.kids v)).length≤1099511627776)) (cond v1
  (dk_item.l1 n (Val.kids v) v2 (0:Int) (Itv.mk 0 0 [] [] []) (5:Int) (0:UInt64) ([]:Str) ([]:List Itm))
  (dk_item.j2 n v (Itv.mk 0 0 [] [] []))))
  (cond (decide ((Val.kind v)=(5:Int)))
  (cond (decide ((Val.sub v)=(0:Int)))
  (ck (apOK (((Val.bytes v))).length 1) (some [(.ag [(.i .i64 3),(.u64 0),(.sl .bs (((Val.bytes v)))),(.s []),(.sl .il ([]:List Itm))])]))
  (dk_item.j2 n v (Itv.mk 0 0 [] [] [])))
  (cond (decide ((Val.kind v)=(10:Int)))
  (some [(.ag (Itv.cells (Itm.val (Db.simple ((22:UInt64))))))])
  (cond (decide ((Val.kind v)=(8:Int)))
  (some [(.ag (Itv.cells (Itm.val (Db.simple v3))))])
  (cond (decide ((Val.kind v)=(16:Int)))
  (ck (decide (-9223372036854775808≤((IntKind.i64.wrap v4))∧((IntKind.i64.wrap v4))≤9223372036854775807)) (some [(.ag (Itv.cells (Itm.val (Db.integer ((IntKind.i64.wrap v4))))))]))
  (dk_item.j2 n v (Itv.mk 0 0 [] [] [])))))))))=ρ):dk_item.F n v=ρ:=Eq.trans (by kernel_rfl) (K _ rfl _ rfl _ rfl _ rfl)
theorem dk_item.chk (n:Nat):CK 23 (dk_item.env n) dk_item.d:=ckOf (by kernel_rfl)
def dk_sort.env:EV:=[]
def dk_sort.E:TEnv:=envL trydGl dk_sort.env
def dk_sort.m:TM:=oS [oW (.u64 0) 2] (.seq (oS [oV 0 3,oI .eql 3 (.i .i64 255) 4] (.cond (.s 4) [] (oS [oW (.u64 126) 2] .ret) .skip)) none (oS [oV 0 5,oK (.k (.ci .u64)) [5] [6],oV 6 2] .ret))
def dk_sort.d:TFD:=D0 1 dk_sort.m [.t 2]
def dk_sort.F (k:Int):OT:=dk_sort.d.run dk_sort.E [(.i .i64 k)]
theorem dk_sort.F_eq (k:Int):dk_sort.F k=cond (decide (k=(255:Int)))
  (some [(.u64 126)])
  (some [(.u64 (UInt64.ofInt k))]):=by kernel_rfl
theorem dk_sort.chk:CK 37 dk_sort.env dk_sort.d:=ckOf (by kernel_rfl)
def dk_inner.env (n:Nat):EV:=[(34,(clone_bs.c,clone_bs.sg)),(45,(dk_laid.cn n,dk_laid.sg)),(46,(dk_high.c,dk_high.sg))]
def dk_inner.E (n:Nat):TEnv:=envL trydGl (dk_inner.env n)
def dk_inner.m1:TM := .cond (.s 48) [] (oS [oA 1077 0 4 1 51,oL 1077 4 1 51 52,oK (.k .sb) [52] [53],oV 53 2] .ret) (oS [oI .eql 4 (.i .i64 15) 55,oV 55 54] (.cond (.s 54) [] (oS [oA 1077 0 4 1 56,oL 1077 4 1 56 57,oK (.k .lns) [57] [58],oK (.k (.ci .u64)) [58] [59],oX (.k (.call 46 ⟨2,none,[],[],1,[(0,109,1)],none,[]⟩)) [.s 59,.c (.i .i64 4),.s (lk 109)] [60,lk 109],oA 1077 0 4 1 61,oL 1077 4 1 61 62,oK (.k (.aps 109 110 1)) [60,62,(lk 109),(lk 110)] [63,lk 109,lk 110],oA 1077 0 8 1 64,oL 1077 8 1 64 65,oC 45 1 1 [65] 66,oK (.k (.ap 110 111 1 1)) [63,66,(lk 110),(lk 111)] [67,lk 110,lk 111],oV 67 2] .ret) (oS [oI .eql 4 (.i .i64 19) 69,oV 69 68] (.cond (.s 68) [] (oS [oA 1077 0 2 1 70,oL 1077 2 1 70 71,oX (.k (.call 46 ⟨2,none,[],[],1,[(0,112,1)],none,[]⟩)) [.s 71,.c (.i .i64 8),.s (lk 112)] [72,lk 112],oA 1077 0 3 1 73,oL 1077 3 1 73 74,oX (.k (.call 46 ⟨2,none,[],[],1,[(0,113,1)],none,[]⟩)) [.s 74,.c (.i .i64 8),.s (lk 113)] [75,lk 113],oK (.k (.ap 112 114 1 1)) [72,75,(lk 112),(lk 114)] [76,lk 112,lk 114],oV 76 2] .ret) .skip))))
def dk_inner.m2:TM := .cond (.s 24) [] (oS [oA 1077 0 1 1 28,oL 1077 1 1 28 29,oX (.k (.call 46 ⟨2,none,[],[],1,[(0,104,1)],none,[]⟩)) [.s 29,.c (.i .i64 8),.s (lk 104)] [30,lk 104],oV 30 2] .ret) (oS [oI .eql 4 (.i .i64 11) 32,oV 32 31] (.cond (.s 31) [] (oS [oA 1077 0 4 1 33,oL 1077 4 1 33 34,oI .add 34 (.s ([0]:Str)) 35,oA 1077 0 5 1 36,oL 1077 5 1 36 37,oB .add 35 37 38,oK (.k .sb) [38] [39],oV 39 2] .ret) (oS [oI .eql 4 (.i .i64 12) 41,oV 41 40] (.cond (.s 40) [] (oS [oA 1077 0 7 1 42,oL 1077 7 1 42 43,oK (.k (.call 34 ⟨1,none,[],[],1,[(0,106,1)],none,[]⟩)) [43,(lk 106)] [44,lk 106],oA 1077 0 4 1 45,oL 1077 4 1 45 46,oK (.k (.aps 106 107 1)) [44,46,(lk 106),(lk 107)] [47,lk 106,lk 107],oV 47 2] .ret) (.seq (oS [oI .eql 4 (.i .i64 13) 49,oV 49 48] (.cond (.s 48) [(1,.ptr 1077 0),(1077,.cl [])] .skip (.reg [oI .eql 4 (.i .i64 14) 50,oV 50 48]))) (some [1,4,48,1077]) dk_inner.m1)))))
def dk_inner.m:TM:=oS [oK (.k (.bx 1077)) [0,1077] [1,1077],oW (.sl .bs ([]:List UInt8)) 2] (.seq (oS [oA 1077 0 0 1 3,oL 1077 0 1 3 4] (.block 0 [] (oS [oI .eql 4 (.i .i64 4) 6,oV 6 5] (.cond (.s 5) [] (oS [oA 1077 0 8 1 7,oL 1077 8 1 7 8,oC 45 1 1 [8] 9,oV 9 2] .ret) (oS [oI .eql 4 (.i .i64 5) 11,oV 11 10] (.cond (.s 10) [] (oS [oA 1077 0 6 1 12,oL 1077 6 1 12 13,oK (.k (.ci .u8)) [13] [14],oK (.blt .bs 1 101) [14,(lk 101)] [15,lk 101],oA 1077 0 7 1 16,oL 1077 7 1 16 17,oK (.k (.ap 101 102 1 1)) [15,17,(lk 101),(lk 102)] [18,lk 101,lk 102],oV 18 2] .ret) (oS [oI .eql 4 (.i .i64 7) 20,oV 20 19] (.cond (.s 19) [] (oS [oA 1077 0 7 1 21,oL 1077 7 1 21 22,oK (.k (.call 34 ⟨1,none,[],[],1,[(0,103,1)],none,[]⟩)) [22,(lk 103)] [23,lk 103],oV 23 2] .ret) (.seq (oS [oI .eql 4 (.i .i64 9) 25,oV 25 24] (.cond (.s 24) [(1,.ptr 1077 0),(1077,.cl [])] .skip (oS [oI .eql 4 (.i .i64 17) 26,oV 26 24] (.cond (.s 24) [(1,.ptr 1077 0),(1077,.cl [])] .skip (.reg [oI .eql 4 (.i .i64 18) 27,oV 27 24]))))) (some [1,4,24,1077]) dk_inner.m2))))))))) none (oS [oW (.sl .bs ([]:List UInt8)) 2] .ret))
def dk_inner.d:TFD:=D0 1 dk_inner.m [.t 2]
def dk_inner.F (n:Nat) (v:Val):OT:=dk_inner.d.run (dk_inner.E n) [(.ag (Val.cells v))]
def dk_inner.k1 (n:Nat):Cont (List TV):=seqK (ev _ (dk_inner.E n) (oS [oW (.sl .bs ([]:List UInt8)) 2] .ret)) none (endK dk_inner.d)
def dk_inner.j1 (n:Nat) (x0:Int) (x1:Bool) (x2:Val):OT:=evO _ (dk_inner.E n) dk_inner.m2 (headT [1,4,24,1077] [.pt,(.i .i64 x0),(.b x1),(.ag (Val.cells x2))]) (blockK 0 (dk_inner.k1 n))
def dk_inner.j2 (n:Nat) (x0:Int) (x1:Bool) (x2:Val):OT:=evO _ (dk_inner.E n) dk_inner.m1 (headT [1,4,48,1077] [.pt,(.i .i64 x0),(.b x1),(.ag (Val.cells x2))]) (blockK 0 (dk_inner.k1 n))
theorem dk_inner.j1_in (n:Nat) (x0:Int) (x1:Bool) (x2:Val) {ρ:OT} (K:∀(v1:List UInt8) (h1:v1=(Cur.putHigh ((Val.bits x2)) (((8:Int))).toNat)) (v2:Str) (h2:v2=((Val.text x2)++([0]:Str))) (v3:List UInt8) (h3:v3=((((Val.bytes x2)))++(Val.text x2))),cond x1
  (ck (decide (0≤((8:Int))∧((8:Int))≤8)) (some [(.sl .bs v1)]))
  (cond (decide (x0=(11:Int)))
  (ck (decide (((Val.text x2)).length+(([0]:Str)).length≤9223372036854775807)) (ck (decide ((v2).length+((Val.more x2)).length≤9223372036854775807)) (ck (lenOK ((v2++(Val.more x2))).length) (some [(.sl .bs (v2++(Val.more x2)))]))))
  (cond (decide (x0=(12:Int)))
  (ck (apOK (((Val.bytes x2))).length 1) (ck (apOK (((((Val.bytes x2)))).length+((Val.text x2)).length) 1) (some [(.sl .bs v3)])))
  (cond (decide (x0=(13:Int)))
  (dk_inner.j2 n x0 (decide (x0=(13:Int))) x2)
  (dk_inner.j2 n x0 (decide (x0=(14:Int))) x2))))=ρ):dk_inner.j1 n x0 x1 x2=ρ:=((congrFun (congrFun (ev_eq _ _) _) _).trans (by kernel_rfl)).trans (K _ rfl _ rfl _ rfl)
theorem dk_inner.j2_in (n:Nat) (x0:Int) (x1:Bool) (x2:Val) {ρ:OT} (K:∀(v1:Int) (h1:v1=(((Val.text x2)).length:Int)) (v2:List UInt8) (h2:v2=(Cur.putHigh ((UInt64.ofInt v1)) (((4:Int))).toNat)) (v3:List UInt8) (h3:v3=(Mp.lay (Db.map (Dk.mapped ((Val.kids x2)))))) (v4:List UInt8) (h4:v4=((v2++(Val.text x2))++v3)) (v5:List UInt8) (h5:v5=(Cur.putHigh ((Val.high x2)) (((8:Int))).toNat)) (v6:List UInt8) (h6:v6=(Cur.putHigh ((Val.low x2)) (((8:Int))).toNat)),cond x1
  (ck (lenOK ((Val.text x2)).length) (some [(.sl .bs (Val.text x2))]))
  (cond (decide (x0=(15:Int)))
  (ck (decide (0≤((4:Int))∧((4:Int))≤8)) (ck (apOK ((v2).length+((Val.text x2)).length) 1) (ck ((decide (Fld.bulks ((Val.kids x2))≤1048576)&&Tree.fines ((Val.kids x2)))&&decide ((4 * Fld.bulks ((Val.kids x2))+4)<n)) (ck (apOK (((v2++(Val.text x2))).length+(v3).length) 1) (some [(.sl .bs v4)])))))
  (cond (decide (x0=(19:Int)))
  (ck (decide (0≤((8:Int))∧((8:Int))≤8)) (ck (decide (0≤((8:Int))∧((8:Int))≤8)) (ck (apOK ((v5).length+(v6).length) 1) (some [(.sl .bs (v5++v6))]))))
  (some [(.sl .bs ([]:List UInt8))])))=ρ):dk_inner.j2 n x0 x1 x2=ρ:=((congrFun (congrFun (ev_eq _ _) _) _).trans (by kernel_rfl)).trans (K _ rfl _ rfl _ rfl _ rfl _ rfl _ rfl)
theorem dk_inner.F_in (n:Nat) (v:Val) {ρ:OT} (K:∀(v1:List UInt8) (h1:v1=(Mp.lay (Db.map (Dk.mapped ((Val.kids v)))))) (v2:List UInt8) (h2:v2=([(UInt8.ofInt (Val.sub v))]:List UInt8)),cond (decide ((Val.kind v)=(4:Int)))
  (ck ((decide (Fld.bulks ((Val.kids v))≤1048576)&&Tree.fines ((Val.kids v)))&&decide ((4 * Fld.bulks ((Val.kids v))+4)<n)) (some [(.sl .bs v1)]))
  (cond (decide ((Val.kind v)=(5:Int)))
  (ck (apOK ((v2).length+((Val.bytes v)).length) 1) (some [(.sl .bs (v2++(Val.bytes v)))]))
  (cond (decide ((Val.kind v)=(7:Int)))
  (ck (apOK (((Val.bytes v))).length 1) (some [(.sl .bs (((Val.bytes v))))]))
  (cond (decide ((Val.kind v)=(9:Int)))
  (dk_inner.j1 n (Val.kind v) (decide ((Val.kind v)=(9:Int))) v)
  (cond (decide ((Val.kind v)=(17:Int)))
  (dk_inner.j1 n (Val.kind v) (decide ((Val.kind v)=(17:Int))) v)
  (dk_inner.j1 n (Val.kind v) (decide ((Val.kind v)=(18:Int))) v)))))=ρ):dk_inner.F n v=ρ:=Eq.trans (by kernel_rfl) (K _ rfl _ rfl)
theorem dk_inner.chk (n:Nat):CK 38 (dk_inner.env n) dk_inner.d:=ckOf (by kernel_rfl)
def dk_Item.env:EV:=[(12,(tree_Check.c,tree_Check.sg)),(13,(tree_Depth.c,tree_Depth.sg)),(14,(dk_mapped.c,dk_mapped.sg))]
def dk_Item.E:TEnv:=envL trydGl dk_Item.env
def dk_Item.m:TM:=oS [oK (.k (.bx 1031)) [0,1031] [1,1031],oN 1032 zI 2,oN 1033 zT 3] (.seq (oS [oM 1031 0 9 1 7,oC 12 1 2 [7] 8,oV 8 6,oE 0 6 9,oE 1 6 10,oV 9 4,oV 10 5] (oS [oV 5 11,oI .neq 11 (.i .i64 0) 12] (.cond (.s 12) [] (oS [oK (.bd zI []) [] [13],oV 5 14,oV 4 15,oK (.bd zT [(0,1),(2,1)]) [14,15] [16],oT 1032 0 5 2 13,oT 1033 0 3 3 16] .ret) .skip))) none (.seq (oS [oA 1031 0 0 1 17,oL 1031 0 1 17 18,oI .neq 18 (.i .i64 3) 19] (.cond (.s 19) [] (oS [oK (.bd zI []) [] [20],oX (.bd zT [(0,1)]) [.c (.i .i64 5)] [21],oT 1032 0 5 2 20,oT 1033 0 3 3 21] .ret) .skip)) none (.seq (oS [oM 1031 0 9 1 22,oC 13 1 1 [22] 23,oI .gtr 23 (.i .i64 200) 24] (.cond (.s 24) [] (oS [oK (.bd zI []) [] [25],oX (.bd zT [(0,1)]) [.c (.i .i64 8)] [26],oT 1032 0 5 2 25,oT 1033 0 3 3 26] .ret) .skip)) none (oS [oA 1031 0 8 1 27,oL 1031 8 1 27 28,oC 14 1 1 [28] 29,oK (.bd zT []) [] [30],oT 1032 0 5 2 29,oT 1033 0 3 3 30] .ret))))
def dk_Item.d:TFD:=D0 1 dk_Item.m [.c 2 1032 5 true,.c 3 1033 3 true]
def dk_Item.F (v:Val):OT:=dk_Item.d.run dk_Item.E [(.ag (Val.cells v))]
theorem dk_Item.F_in (v:Val) {ρ:OT} (K:∀(v1:List Int) (h1:v1=((Tree.chkF (Fld.of [] v) []).1)) (v2:Int) (h2:v2=((Tree.chkF (Fld.of [] v) []).2)) (v3:Int) (h3:v3=((Tree.depth (Fld.of [] v):Int))),ck (decide (Fld.bulk (Fld.of [] v)≤1099511627776)) (cond (!decide (v2=(0:Int)))
  (some [(.ag [(.i .i64 0),(.u64 0),(.sl .bs ([]:List UInt8)),(.s []),(.sl .il ([]:List Itm))]),(.ag [(.i .i64 v2),(.i .i64 0),(.sl .is v1)])])
  (cond (!decide ((Val.kind v)=(3:Int)))
  (some [(.ag [(.i .i64 0),(.u64 0),(.sl .bs ([]:List UInt8)),(.s []),(.sl .il ([]:List Itm))]),(.ag [(.i .i64 5),(.i .i64 0),(.sl .is ([]:List Int))])])
  (ck (decide (Fld.bulk (Fld.of [] v)≤1099511627776)) (cond (decide ((200:Int)<v3))
  (some [(.ag [(.i .i64 0),(.u64 0),(.sl .bs ([]:List UInt8)),(.s []),(.sl .il ([]:List Itm))]),(.ag [(.i .i64 8),(.i .i64 0),(.sl .is ([]:List Int))])])
  (ck (decide (Fld.bulks ((Val.kids v))≤1048576)&&Tree.fines ((Val.kids v))) (some [(.ag (Itv.cells (Itm.val (Db.map (Dk.mapped ((Val.kids v))))))),(.ag [(.i .i64 0),(.i .i64 0),(.sl .is ([]:List Int))])]))))))=ρ):dk_Item.F v=ρ:=Eq.trans (by kernel_rfl) (K _ rfl _ rfl _ rfl)
theorem dk_Item.chk:CK 6 dk_Item.env dk_Item.d:=ckOf (by kernel_rfl)
def dk_none.env:EV:=[(26,(clone_is.c,clone_is.sg))]
def dk_none.E:TEnv:=envL trydGl dk_none.env
def dk_none.m:TM:=oS [oN 1006 zT 2] (oS [oV 0 3,oK (.k (.pcall 26 1 1 0 999999 1)) [3,(lk 999999)] [4],oX (.bd zT [(0,1),(2,1)]) [.c (.i .i64 12),.s 4] [5],oT 1006 0 3 2 5] .ret)
def dk_none.d:TFD:={ np:=1,m:=dk_none.m,ref:=none,tips:=[],res:=[.c 2 1006 3 true],own:=[],new:=none,tnew:=[],ps:=some (0,999999,1) }
def dk_none.F (path:List Int):OT:=dk_none.d.run dk_none.E [(.sl .is path)]
theorem dk_none.F_eq (path:List Int):dk_none.F path=ck (apOK (path).length 8) (some [(.ag [(.i .i64 12),(.i .i64 0),(.sl .is (path))]),(.sl .is path)]):=by kernel_rfl
theorem dk_none.chk:CK 16 dk_none.env dk_none.d:=ckOf (by kernel_rfl)
def dk_with.env (n:Nat):EV:=[(16,(dk_none.c,dk_none.sg)),(27,(st_Contains.c,st_Contains.sg)),(28,(dk_value.cn n,dk_value.sg))]
def dk_with.E (n:Nat):TEnv:=envL trydGl (dk_with.env n)
def dk_with.m1:TM := .seq (oS [oV 10 13,oV 1 14,oK (.k .len) [14] [15],oB .lss 13 15 16] (.cond (.s 16) [] .skip (.exit 0))) none (.seq (.block 1 [(2,.tip 999999 1),(4,.ptr 1073 0),(8,.ptr 1074 0),(9,.ptr 1075 0),(1073,.cl [(8,114,10)]),(1074,.cl []),(1075,.cl []),(lk 114,.live 10),(lk 999999,.pv 1)] (.seq (oS [oV 1 19,oV 10 20,oK (.k (.ix 5)) [19,20] [21],oK (.k (.fr 0 1 false)) [21] [22],oK (.k (.lr 1 false)) [22] [23],oI .neq 23 (.i .i64 4) 24,oV 24 25,oG 25 false (oV 1 26),oG 25 false (oV 10 27),oG 25 false (oK (.k (.ix 5)) [26,27] [28]),oG 25 false (oK (.k (.fr 3 1 false)) [28] [29]),oG 25 false (oK (.k (.lr 1 false)) [29] [30]),oG 25 false (oX (.k (.call 27 (.plain 2 1))) [.s 30,.c (.s ([0]:Str))] [31]),oX (.k .pick) [.s 25,.c (.b true),.s 31] [32]] (.cond (.s 32) [] (oS [oK (.bd zV []) [] [33],oV 2 34,oV 10 35,oK (.bl .is 1) [35] [36],oK (.k (.ppa 999999 105 1 8)) [34,36,(lk 999999),(lk 105)] [37,lk 999999,lk 105],oK (.k (.pcall 16 1 1 0 105 1)) [37,(lk 105)] [38],oT 1074 0 9 8 33,oT 1075 0 3 9 38] .ret) .skip)) none (oS [oV 1 40,oV 10 41,oI .add 41 (.i .i64 1) 42,oK (.k (.ix 5)) [40,42] [43],oK (.k (.lr 5 true)) [43] [44],oV 2 45,oV 10 46,oI .add 46 (.i .i64 1) 47,oK (.bl .is 1) [47] [48],oK (.k (.ppa 999999 108 1 8)) [45,48,(lk 999999),(lk 108)] [49,lk 999999,lk 108],oV 3 50,oK (.k (.pcall 28 3 2 1 108 1)) [44,49,50,(lk 108)] [51],oV 51 39,oE 0 39 52,oE 1 39 53,oN 1076 zV 11,oN 1077 zT 12,oT 1076 0 9 11 52,oT 1077 0 3 12 53] (.seq (oS [oA 1077 0 0 12 54,oL 1077 0 1 54 55,oI .neq 55 (.i .i64 0) 56] (.cond (.s 56) [] (oS [oK (.bd zV []) [] [57],oM 1077 0 3 12 58,oT 1074 0 9 8 57,oT 1075 0 3 9 58] .ret) .skip)) none (.reg [oA 1073 0 8 4 59,oL 1073 8 1 59 60,oV 1 61,oV 10 62,oK (.k (.ix 5)) [61,62] [63],oK (.k (.fr 3 1 false)) [63] [64],oK (.k (.lr 1 false)) [64] [65],oM 1076 0 9 11 66,oK (.bd zD [(0,1),(1,9)]) [65,66] [67],oK (.bl .fl 1) [67] [68],oK (.k (.ap 100 114 10 136)) [60,68,(lk 100),(lk 114)] [69,lk 100,lk 114],oA 1073 0 8 4 70,oT 1073 8 1 70 69]))))) none (.reg [oV 10 17,oI .add 17 (.i .i64 2) 18,oV 18 10]))
def dk_with.m:TM:=oS [oK (.bxt 1073 [(8,100,.fl)]) [0,1073,(lk 100)] [4,1073,lk 100],oN 1074 zV 8,oN 1075 zT 9] (.seq (oS [oW (.i .i64 0) 10] (.block 0 [(4,.ptr 1073 0),(8,.ptr 1074 0),(9,.ptr 1075 0),(1073,.cl [(8,100,10)]),(1074,.cl []),(1075,.cl []),(lk 100,.live 10),(lk 999999,.pv 1)] (.loop [1,2,3,4,8,9,10,1073,1074,1075,lk 999999] [(2,.tip 999999 1),(4,.ptr 1073 0),(8,.ptr 1074 0),(9,.ptr 1075 0),(1073,.cl [(8,100,10)]),(1074,.cl []),(1075,.cl []),(lk 100,.live 10),(lk 999999,.pv 1)] dk_with.m1))) none (oS [oM 1073 0 9 4 71,oK (.bd zT []) [] [72],oT 1074 0 9 8 71,oT 1075 0 3 9 72] .ret))
def dk_with.d:TFD:={ np:=4,m:=dk_with.m,ref:=none,tips:=[],res:=[.c 8 1074 9 true,.c 9 1075 3 true],own:=[],new:=none,tnew:=[],ps:=some (2,999999,1) }
def dk_with.F (n:Nat) (v:Val) (l:List Itm) (path:List Int) (within:Int):OT:=dk_with.d.run (dk_with.E n) [(.ag [(.i .i64 (Val.kind v)),(.u64 (Val.bits v)),(.u64 (Val.high v)),(.u64 (Val.low v)),(.s (Val.text v)),(.s (Val.more v)),(.i .i64 (Val.sub v)),(.sl .bs (Val.bytes v)),(.c (.slice none 0 0))]),(.sl .il l),(.sl .is path),(.i .i64 within)]
def dk_with.k1 (n:Nat):Cont (List TV):=seqK (ev _ (dk_with.E n) (oS [oM 1073 0 9 4 71,oK (.bd [(.i .i64 0),(.i .i64 0),(.sl .is ([]:List Int))] []) [] [72],oT 1074 0 9 8 71,oT 1075 0 3 9 72] .ret)) none (endK dk_with.d)
def dk_with.l1 (n:Nat) (x0:List Itm) (x1:Int) (x2:Int) (x3:Val) (x4:Val) (x5:Flt) (x6:List Int):OT:=loopL (evO _ (dk_with.E n) dk_with.m1) isN [1,2,3,4,8,9,10,1073,1074,1075,lk 999999] (headT [1,2,3,4,8,9,10,1073,1074,1075,lk 999999] [(.sl .il x0),.pt,(.i .i64 x1),.pt,.pt,.pt,(.i .i64 x2),(.ag (Val.cells x3)),(.ag (Val.cells x4)),(.ag (Flt.cells x5)),(.sl .is x6)]) (blockK 0 (dk_with.k1 n))
theorem dk_with.l1_in (n:Nat) (x0:List Itm) (x1:Int) (x2:Int) (x3:Val) (x4:Val) (x5:Flt) (x6:List Int) {ρ:OT} (K:∀(v1:Int) (h1:v1=(Itm.kind (List.getD x0 (x2).toNat (STy.dflt .il)))) (v2:Bool) (h2:v2=(!(!decide (v1=(4:Int))))) (v3:Str) (h3:v3=(Itm.text (List.getD x0 (x2).toNat (STy.dflt .il)))) (v4:Bool) (h4:v4=(cond (!decide (v1=(4:Int))) true (decide (0≤Lib.indexByte v3 ((([0]:Str)).getD 0 0))))) (v5:Flt) (h5:v5=((Flt.mk 12 0 ((x6++([x2]:List Int)))))) (v6:Int) (h6:v6=(IntKind.i64.wrap (x2+(1:Int)))) (v7:Val) (h7:v7=(Db.Got.val (Dk.value (200 - x1).toNat (Itm.of (Itm.val (List.getD x0 (v6).toNat (STy.dflt .il)))) ((x6++([v6]:List Int)))))) (v8:Flt) (h8:v8=(Db.Got.flt (Dk.value (200 - x1).toNat (Itm.of (Itm.val (List.getD x0 (v6).toNat (STy.dflt .il)))) ((x6++([v6]:List Int)))))) (v9:List Fld) (h9:v9=([(Fld.mk v3 (Val.kind v7) (Val.bits v7) (Val.high v7) (Val.low v7) (Val.text v7) (Val.more v7) (Val.sub v7) (Val.bytes v7) (Val.kids v7))]:List Fld)) (v10:Int) (h10:v10=(IntKind.i64.wrap (x2+(2:Int)))),cond (decide (x2<((x0).length:Int)))
  (ck (idxOK x2 (x0).length) (ck (!v2 || ((v2&&v2)&&(idxOK x2 (x0).length))) (ck (!v2 || v2) (ck (!v2 || v2) (ck (!v2 || (v2&&(decide ((([0]:Str)).length=1)))) (ck ((!decide (v1=(4:Int))) || v2) (cond v4
  (ck (apOK ((x6).length+(([x2]:List Int)).length) 8) (ck (decide ((((x6++([x2]:List Int)))).length≤1099511627776)) (some [(.ag [(.i .i64 0),(.u64 0),(.u64 0),(.u64 0),(.s []),(.s []),(.i .i64 0),(.sl .bs ([]:List UInt8)),(.sl .fl ([]:List Fld))]),(.ag (Flt.cells v5)),(.sl .is x6)])))
  (ck (idxOK v6 (x0).length) (ck (apOK ((x6).length+(([v6]:List Int)).length) 8) (ck ((decide ((Mp.lay (Itm.of (Itm.val (List.getD x0 (v6).toNat (STy.dflt .il))))).length+(((x6++([v6]:List Int)))).length≤536870912)&&decide (Mp.chk (Itm.of (Itm.val (List.getD x0 (v6).toNat (STy.dflt .il))))=0∧0≤x1∧x1≤200))&&decide ((4 * (Mp.lay (Itm.of (Itm.val (List.getD x0 (v6).toNat (STy.dflt .il))))).length)<n)) (cond (!decide ((Flt.err v8)=(0:Int)))
  (some [(.ag [(.i .i64 0),(.u64 0),(.u64 0),(.u64 0),(.s []),(.s []),(.i .i64 0),(.sl .bs ([]:List UInt8)),(.sl .fl ([]:List Fld))]),(.ag (Flt.cells v8)),(.sl .is x6)])
  (ck (idxOK x2 (x0).length) (ck (apOK (((Val.kids x3)).length+(v9).length) 136) (dk_with.l1 n x0 x1 v10 (Val.mk (Val.kind x3) (Val.bits x3) (Val.high x3) (Val.low x3) (Val.text x3) (Val.more x3) (Val.sub x3) (Val.bytes x3) ((Val.kids x3)++v9)) x4 x5 x6))))))))))))))
  (some [(.ag (Val.cells x3)),(.ag [(.i .i64 0),(.i .i64 0),(.sl .is ([]:List Int))]),(.sl .is x6)])=ρ):dk_with.l1 n x0 x1 x2 x3 x4 x5 x6=ρ:=((ev_loop _ _ _ _ _ _).trans (by kernel_rfl)).trans (K _ rfl _ rfl _ rfl _ rfl _ rfl _ rfl _ rfl _ rfl _ rfl _ rfl)
theorem dk_with.F_eq (n:Nat) (v:Val) (l:List Itm) (path:List Int) (within:Int):dk_with.F n v l path within=dk_with.l1 n l within (0:Int) (Val.mk (Val.kind v) (Val.bits v) (Val.high v) (Val.low v) (Val.text v) (Val.more v) (Val.sub v) (Val.bytes v) []) (Val.mk 0 0 0 0 [] [] 0 [] []) (Flt.mk 0 0 []) path:=by kernel_rfl
theorem dk_with.chk (n:Nat):CK 17 (dk_with.env n) dk_with.d:=ckOf (by kernel_rfl)
end
end Go.Eng
namespace Go.Eng
open Go.Proofs
noncomputable section
def dk_value.env (n:Nat):EV:=[(16,(dk_none.c,dk_none.sg)),(17,(dk_with.cn n,dk_with.sg)),(28,(dk_value.cn n,dk_value.sg)),(34,(clone_bs.c,clone_bs.sg)),(42,(sc_Itoa.c,sc_Itoa.sg)),(43,(dk_ext.cn n,dk_ext.sg))]
def dk_value.E (n:Nat):TEnv:=envL trydGl (dk_value.env n)
def dk_value.m1:TM:=oS [oB .lss 84 83 85] (.seq (.cond (.s 85) [] .skip (.exit 1)) none (.seq (.block 2 [(1,.tip 999999 1),(6,.ptr 1131 0),(7,.ptr 1132 0),(8,.ptr 1133 0),(1131,.cl []),(1132,.cl []),(1133,.cl [(8,127,10)]),(lk 127,.live 10),(lk 999999,.pv 1)] (oS [oV 84 86,oK (.k (.ix 5)) [82,84] [87],oK (.k (.lr 5 true)) [87] [88],oN 1134 zI 10,oV 86 9,oT 1134 0 5 10 88] (oS [oM 1134 0 5 10 90,oV 1 91,oV 9 92,oK (.bl .is 1) [92] [93],oK (.k (.ppa 999999 121 1 8)) [91,93,(lk 999999),(lk 121)] [94,lk 999999,lk 121],oV 2 95,oK (.k (.pcall 28 3 2 1 121 1)) [90,94,95,(lk 121)] [96],oV 96 89,oE 0 89 97,oE 1 89 98,oN 1135 zV 11,oN 1136 zT 12,oT 1135 0 9 11 97,oT 1136 0 3 12 98] (.seq (oS [oA 1136 0 0 12 99,oL 1136 0 1 99 100,oI .neq 100 (.i .i64 0) 101] (.cond (.s 101) [] (oS [oK (.bd zV []) [] [102],oM 1136 0 3 12 103,oT 1131 0 9 6 102,oT 1132 0 3 7 103] .ret) .skip)) none (.reg [oA 1133 0 8 8 104,oL 1133 8 1 104 105,oV 9 106,oC 42 1 1 [106] 107,oM 1135 0 9 11 108,oK (.bd zD [(0,1),(1,9)]) [107,108] [109],oK (.bl .fl 1) [109] [110],oK (.k (.ap 117 127 10 136)) [105,110,(lk 117),(lk 127)] [111,lk 117,lk 127],oA 1133 0 8 8 112,oT 1133 8 1 112 111]))))) none (.reg [oI .add 84 (.i .i64 1) 113,oV 113 84])))
def dk_value.m2:TM:=oS [oK (.bd zV []) [] [127],oV 1 128,oK (.k (.pcall 16 1 1 0 999999 1)) [128,(lk 999999)] [129],oT 1131 0 9 6 127,oT 1132 0 3 7 129] .ret
def dk_value.m:TM:=oS [oK (.k (.bx 1130)) [0,1130] [3,1130],oN 1131 zV 6,oN 1132 zT 7] (.seq (oS [oA 1130 0 0 3 15,oL 1130 0 1 15 16] (.block 0 [(1,.tip 999999 1),(6,.ptr 1131 0),(7,.ptr 1132 0),(1131,.cl []),(1132,.cl []),(lk 999999,.pv 1)] (oS [oI .eql 16 (.i .i64 9) 18,oV 18 17] (.cond (.s 17) [] (oS [oA 1130 0 1 3 19,oL 1130 1 1 19 20,oX (.bd zV [(0,1),(1,1)]) [.c (.i .i64 1),.s 20] [21],oK (.bd zT []) [] [22],oT 1131 0 9 6 21,oT 1132 0 3 7 22] .ret) (oS [oI .eql 16 (.i .i64 4) 24,oV 24 23] (.cond (.s 23) [] (oS [oA 1130 0 3 3 25,oL 1130 3 1 25 26,oX (.bd zV [(0,1),(4,1)]) [.c (.i .i64 2),.s 26] [27],oK (.bd zT []) [] [28],oT 1131 0 9 6 27,oT 1132 0 3 7 28] .ret) (oS [oI .eql 16 (.i .i64 3) 30,oV 30 29] (.cond (.s 29) [] (oS [oA 1130 0 2 3 31,oL 1130 2 1 31 32,oK (.k (.call 34 ⟨1,none,[],[],1,[(0,107,1)],none,[]⟩)) [32,(lk 107)] [33,lk 107],oX (.bd zV [(0,1),(7,1)]) [.c (.i .i64 5),.s 33] [34],oK (.bd zT []) [] [35],oT 1131 0 9 6 34,oT 1132 0 3 7 35] .ret) (oS [oI .eql 16 (.i .i64 8) 37,oV 37 36] (.cond (.s 36) [] (oS [oX (.bd zV [(0,1)]) [.c (.i .i64 8)] [38],oX (.bd zV [(0,1),(1,1)]) [.c (.i .i64 8),.c (.u64 1)] [39],oX (.bd zV [(0,1)]) [.c (.i .i64 10)] [40],oK (.bd [(.i .i64 0),(.u64 0),(.u64 0),(.u64 0),(.s []),(.s []),(.i .i64 0),(.sl .bs ([]:List UInt8)),(.sl .fl ([]:List Fld)),(.i .i64 0),(.u64 0),(.u64 0),(.u64 0),(.s []),(.s []),(.i .i64 0),(.sl .bs ([]:List UInt8)),(.sl .fl ([]:List Fld)),(.i .i64 0),(.u64 0),(.u64 0),(.u64 0),(.s []),(.s []),(.i .i64 0),(.sl .bs ([]:List UInt8)),(.sl .fl ([]:List Fld))] [(0,9),(9,9),(18,9)]) [38,39,40] [41],oA 1130 0 1 3 42,oL 1130 1 1 42 43,oI .sub 43 (.u64 20) 44,oK (.k (.ai 3 9 true)) [41,44] [45],oK (.bd zT []) [] [46],oT 1131 0 9 6 45,oT 1132 0 3 7 46] .ret) (oS [oI .eql 16 (.i .i64 1) 48,oV 48 47] (.cond (.s 47) [(1,.tip 999999 1),(6,.ptr 1131 0),(7,.ptr 1132 0),(1131,.cl []),(1132,.cl []),(lk 999999,.pv 1)] (oS [oA 1130 0 1 3 49,oL 1130 1 1 49 50,oI .lss 50 (.u64 2147483648) 51] (.cond (.s 51) [] (oS [oA 1130 0 1 3 52,oL 1130 1 1 52 53,oX (.bd zV [(0,1),(1,1)]) [.c (.i .i64 16),.s 53] [54],oK (.bd zT []) [] [55],oT 1131 0 9 6 54,oT 1132 0 3 7 55] .ret) .skip)) (oS [oI .eql 16 (.i .i64 2) 57,oV 57 56] (.cond (.s 56) [(1,.tip 999999 1),(6,.ptr 1131 0),(7,.ptr 1132 0),(1131,.cl []),(1132,.cl []),(lk 999999,.pv 1)] (oS [oA 1130 0 1 3 58,oL 1130 1 1 58 59,oI .lss 59 (.u64 2147483648) 60] (.cond (.s 60) [] (oS [oA 1130 0 1 3 61,oL 1130 1 1 61 62,oK (.k (.un .xor)) [62] [63],oK (.k (.ci .u32)) [63] [64],oK (.k (.ci .u64)) [64] [65],oX (.bd zV [(0,1),(1,1)]) [.c (.i .i64 16),.s 65] [66],oK (.bd zT []) [] [67],oT 1131 0 9 6 66,oT 1132 0 3 7 67] .ret) .skip)) (oS [oI .eql 16 (.i .i64 6) 69,oV 69 68] (.cond (.s 68) [] (oS [oX (.bd [(.i .i64 0),(.u64 0),(.u64 0),(.u64 0),(.s []),(.s []),(.i .i64 0),(.sl .bs ([]:List UInt8)),(.c (.slice none 0 0))] [(0,1)]) [.c (.i .i64 3)] [70],oA 1130 0 4 3 71,oL 1130 4 1 71 72,oV 1 73,oV 2 74,oK (.k (.pcall 17 4 2 2 999999 1)) [70,72,73,74,(lk 999999)] [75],oE 0 75 76,oE 1 75 77,oT 1131 0 9 6 76,oT 1132 0 3 7 77] .ret) (oS [oI .eql 16 (.i .i64 5) 79,oV 79 78] (.cond (.s 78) [] (oS [oX (.bd [(.i .i64 0),(.u64 0),(.u64 0),(.u64 0),(.s []),(.s []),(.i .i64 0),(.sl .bs ([]:List UInt8)),(.c (.slice none 0 0))] [(0,1)]) [.c (.i .i64 4)] [80],oN 1133 zV 8,oK (.stt 1133 0 9 [(8,117,.fl)]) [8,1133,80,(lk 117)] [1133,lk 117]] (.seq (oS [oA 1130 0 4 3 81,oL 1130 4 1 81 82,oK (.k .len) [82] [83],oW (.i .i64 0) 84] (.block 1 [(6,.ptr 1131 0),(7,.ptr 1132 0),(8,.ptr 1133 0),(1131,.cl []),(1132,.cl []),(1133,.cl [(8,117,10)]),(lk 117,.live 10),(lk 999999,.pv 1)] (.loop [1,2,6,7,8,82,83,84,1131,1132,1133,lk 999999] [(1,.tip 999999 1),(6,.ptr 1131 0),(7,.ptr 1132 0),(8,.ptr 1133 0),(1131,.cl []),(1132,.cl []),(1133,.cl [(8,117,10)]),(lk 117,.live 10),(lk 999999,.pv 1)] dk_value.m1))) none (oS [oM 1133 0 9 8 114,oK (.bd zT []) [] [115],oT 1131 0 9 6 114,oT 1132 0 3 7 115] .ret))) (oS [oI .eql 16 (.i .i64 10) 117,oV 117 116] (.cond (.s 116) [(1,.tip 999999 1),(6,.ptr 1131 0),(7,.ptr 1132 0),(1131,.cl []),(1132,.cl []),(lk 999999,.pv 1)] (oS [oM 1130 0 5 3 119,oV 2 120,oC 43 2 2 [119,120] 121,oV 121 118,oE 0 118 122,oE 1 118 123,oN 1137 zV 13,oT 1137 0 9 13 122,oV 123 14] (oS [oV 14 124] (.cond (.s 124) [] (oS [oM 1137 0 9 13 125,oK (.bd zT []) [] [126],oT 1131 0 9 6 125,oT 1132 0 3 7 126] .ret) .skip))) .skip)))))))))))))))))))) (some [1,6,7,1131,1132,lk 999999]) dk_value.m2)
def dk_value.d:TFD:={ np:=3,m:=dk_value.m,ref:=none,tips:=[],res:=[.c 6 1131 9 true,.c 7 1132 3 true],own:=[],new:=none,tnew:=[],ps:=some (1,999999,1) }
def dk_value.F (n:Nat) (it:Itv) (path:List Int) (within:Int):OT:=dk_value.d.run (dk_value.E n) [(.ag (Itv.cells it)),(.sl .is path),(.i .i64 within)]
def dk_value.k1 (n:Nat):Cont (List TV):=seqK (evO _ (dk_value.E n) dk_value.m2) (some [1,6,7,1131,1132,lk 999999]) (endK dk_value.d)
def dk_value.k2 (n:Nat):Cont (List TV):=seqK (ev _ (dk_value.E n) (oS [oM 1133 0 9 8 114,oK (.bd [(.i .i64 0),(.i .i64 0),(.sl .is ([]:List Int))] []) [] [115],oT 1131 0 9 6 114,oT 1132 0 3 7 115] .ret)) none (blockK 0 (dk_value.k1 n))
def dk_value.j1 (n:Nat) (x0:Val) (x1:Flt) (x2:List Int):OT:=evO _ (dk_value.E n) dk_value.m2 (headT [1,6,7,1131,1132,lk 999999] [.pt,.pt,.pt,(.ag (Val.cells x0)),(.ag (Flt.cells x1)),(.sl .is x2)]) (endK dk_value.d)
def dk_value.l2 (n:Nat) (x0:Int) (x1:List Itm) (x2:Int) (x3:Int) (x4:Val) (x5:Flt) (x6:Val) (x7:List Int):OT:=loopL (evO _ (dk_value.E n) dk_value.m1) isN [1,2,6,7,8,82,83,84,1131,1132,1133,lk 999999] (headT [1,2,6,7,8,82,83,84,1131,1132,1133,lk 999999] [.pt,(.i .i64 x0),.pt,.pt,.pt,(.sl .il x1),(.i .i64 x2),(.i .i64 x3),(.ag (Val.cells x4)),(.ag (Flt.cells x5)),(.ag (Val.cells x6)),(.sl .is x7)]) (blockK 1 (dk_value.k2 n))
theorem dk_value.j1_eq (n:Nat) (x0:Val) (x1:Flt) (x2:List Int):dk_value.j1 n x0 x1 x2=ck (decide ((x2).length≤1099511627776)) (some [(.ag [(.i .i64 0),(.u64 0),(.u64 0),(.u64 0),(.s []),(.s []),(.i .i64 0),(.sl .bs ([]:List UInt8)),(.sl .fl ([]:List Fld))]),(.ag (Flt.cells ((Flt.mk 12 0 x2)))),(.sl .is x2)]):=((congrFun (congrFun (ev_eq _ _) _) _).trans (by kernel_rfl))
theorem dk_value.l2_in (n:Nat) (x0:Int) (x1:List Itm) (x2:Int) (x3:Int) (x4:Val) (x5:Flt) (x6:Val) (x7:List Int) {ρ:OT} (K:∀(v1:Val) (h1:v1=(Db.Got.val (Dk.value (200 - x0).toNat (Itm.of (Itm.val (List.getD x1 (x3).toNat (STy.dflt .il)))) ((x7++([x3]:List Int)))))) (v2:Flt) (h2:v2=(Db.Got.flt (Dk.value (200 - x0).toNat (Itm.of (Itm.val (List.getD x1 (x3).toNat (STy.dflt .il)))) ((x7++([x3]:List Int)))))) (v3:List Fld) (h3:v3=([(Fld.mk (Lib.itoa x3) (Val.kind v1) (Val.bits v1) (Val.high v1) (Val.low v1) (Val.text v1) (Val.more v1) (Val.sub v1) (Val.bytes v1) (Val.kids v1))]:List Fld)) (v4:Int) (h4:v4=(IntKind.i64.wrap (x3+(1:Int)))),cond (decide (x3<x2))
  (ck (idxOK x3 (x1).length) (ck (apOK ((x7).length+(([x3]:List Int)).length) 8) (ck ((decide ((Mp.lay (Itm.of (Itm.val (List.getD x1 (x3).toNat (STy.dflt .il))))).length+(((x7++([x3]:List Int)))).length≤536870912)&&decide (Mp.chk (Itm.of (Itm.val (List.getD x1 (x3).toNat (STy.dflt .il))))=0∧0≤x0∧x0≤200))&&decide ((4 * (Mp.lay (Itm.of (Itm.val (List.getD x1 (x3).toNat (STy.dflt .il))))).length)<n)) (cond (!decide ((Flt.err v2)=(0:Int)))
  (some [(.ag [(.i .i64 0),(.u64 0),(.u64 0),(.u64 0),(.s []),(.s []),(.i .i64 0),(.sl .bs ([]:List UInt8)),(.sl .fl ([]:List Fld))]),(.ag (Flt.cells v2)),(.sl .is x7)])
  (ck (decide (-9223372036854775808≤x3∧x3≤9223372036854775807)) (ck (apOK (((Val.kids x6)).length+(v3).length) 136) (dk_value.l2 n x0 x1 x2 v4 x4 x5 (Val.mk (Val.kind x6) (Val.bits x6) (Val.high x6) (Val.low x6) (Val.text x6) (Val.more x6) (Val.sub x6) (Val.bytes x6) ((Val.kids x6)++v3)) x7)))))))
  (some [(.ag (Val.cells x6)),(.ag [(.i .i64 0),(.i .i64 0),(.sl .is ([]:List Int))]),(.sl .is x7)])=ρ):dk_value.l2 n x0 x1 x2 x3 x4 x5 x6 x7=ρ:=((ev_loop _ _ _ _ _ _).trans (by kernel_rfl)).trans (K _ rfl _ rfl _ rfl _ rfl)
theorem dk_value.F_in (n:Nat) (it:Itv) (path:List Int) (within:Int) {ρ:OT} (K:∀(v1:Int) (h1:v1=(List.getD [(8:Int),(8:Int),(10:Int)] ((((((Itv.n it) - (20:UInt64))).toNat:Int)).toNat) (0:Int))) (v2:UInt64) (h2:v2=(List.getD [(0:UInt64),(1:UInt64),(0:UInt64)] ((((((Itv.n it) - (20:UInt64))).toNat:Int)).toNat) (0:UInt64))) (v3:UInt64) (h3:v3=(List.getD [(0:UInt64),(0:UInt64),(0:UInt64)] ((((((Itv.n it) - (20:UInt64))).toNat:Int)).toNat) (0:UInt64))) (v4:Str) (h4:v4=(List.getD [([]:Str),([]:Str),([]:Str)] ((((((Itv.n it) - (20:UInt64))).toNat:Int)).toNat) ([]:Str))) (v5:Int) (h5:v5=(List.getD [(0:Int),(0:Int),(0:Int)] ((((((Itv.n it) - (20:UInt64))).toNat:Int)).toNat) (0:Int))) (v6:List UInt8) (h6:v6=(List.getD ([([]:List UInt8),([]:List UInt8),([]:List UInt8)]:List (List UInt8)) ((((((Itv.n it) - (20:UInt64))).toNat:Int)).toNat) [])) (v7:List Fld) (h7:v7=(List.getD ([([]:List Fld),([]:List Fld),([]:List Fld)]:List (List Fld)) ((((((Itv.n it) - (20:UInt64))).toNat:Int)).toNat) [])) (v8:UInt32) (h8:v8=(UInt32.ofInt (((~~~(Itv.n it))).toNat:Int))) (v9:UInt64) (h9:v9=(UInt64.ofInt ((v8).toNat:Int))) (v10:Val) (h10:v10=(Db.Got.val (Db.Gots.got (Val.mk 3 0 0 0 [] [] 0 [] []) (Dk.fields (200 - within).toNat ((Itv.kids it)) 0 path)))) (v11:Flt) (h11:v11=(Db.Got.flt (Db.Gots.got (Val.mk 3 0 0 0 [] [] 0 [] []) (Dk.fields (200 - within).toNat ((Itv.kids it)) 0 path)))) (v12:Int) (h12:v12=(((Itv.kids it)).length:Int)) (v13:Val) (h13:v13=((Dk.extV (200 - within).toNat (it).n (it).bytes).1)) (v14:Bool) (h14:v14=((Dk.extV (200 - within).toNat (it).n (it).bytes).2)),cond (decide ((Itv.kind it)=(9:Int)))
  (some [(.ag [(.i .i64 1),(.u64 (Itv.n it)),(.u64 0),(.u64 0),(.s []),(.s []),(.i .i64 0),(.sl .bs ([]:List UInt8)),(.sl .fl ([]:List Fld))]),(.ag [(.i .i64 0),(.i .i64 0),(.sl .is ([]:List Int))]),(.sl .is path)])
  (cond (decide ((Itv.kind it)=(4:Int)))
  (some [(.ag [(.i .i64 2),(.u64 0),(.u64 0),(.u64 0),(.s (Itv.text it)),(.s []),(.i .i64 0),(.sl .bs ([]:List UInt8)),(.sl .fl ([]:List Fld))]),(.ag [(.i .i64 0),(.i .i64 0),(.sl .is ([]:List Int))]),(.sl .is path)])
  (cond (decide ((Itv.kind it)=(3:Int)))
  (ck (apOK (((Itv.bytes it))).length 1) (some [(.ag [(.i .i64 5),(.u64 0),(.u64 0),(.u64 0),(.s []),(.s []),(.i .i64 0),(.sl .bs (((Itv.bytes it)))),(.sl .fl ([]:List Fld))]),(.ag [(.i .i64 0),(.i .i64 0),(.sl .is ([]:List Int))]),(.sl .is path)]))
  (cond (decide ((Itv.kind it)=(8:Int)))
  (ck (idxOK ((((Itv.n it) - (20:UInt64))).toNat:Int) 3) (some [(.ag [(.i .i64 v1),(.u64 v2),(.u64 v3),(.u64 v3),(.s v4),(.s v4),(.i .i64 v5),(.sl .bs v6),(.sl .fl v7)]),(.ag [(.i .i64 0),(.i .i64 0),(.sl .is ([]:List Int))]),(.sl .is path)]))
  (cond (decide ((Itv.kind it)=(1:Int)))
  (cond (decide ((Itv.n it)<(2147483648:UInt64)))
  (some [(.ag [(.i .i64 16),(.u64 (Itv.n it)),(.u64 0),(.u64 0),(.s []),(.s []),(.i .i64 0),(.sl .bs ([]:List UInt8)),(.sl .fl ([]:List Fld))]),(.ag [(.i .i64 0),(.i .i64 0),(.sl .is ([]:List Int))]),(.sl .is path)])
  (dk_value.j1 n (Val.mk 0 0 0 0 [] [] 0 [] []) (Flt.mk 0 0 []) path))
  (cond (decide ((Itv.kind it)=(2:Int)))
  (cond (decide ((Itv.n it)<(2147483648:UInt64)))
  (some [(.ag [(.i .i64 16),(.u64 v9),(.u64 0),(.u64 0),(.s []),(.s []),(.i .i64 0),(.sl .bs ([]:List UInt8)),(.sl .fl ([]:List Fld))]),(.ag [(.i .i64 0),(.i .i64 0),(.sl .is ([]:List Int))]),(.sl .is path)])
  (dk_value.j1 n (Val.mk 0 0 0 0 [] [] 0 [] []) (Flt.mk 0 0 []) path))
  (cond (decide ((Itv.kind it)=(6:Int)))
  (ck ((decide ((Mp.lays ((Itv.kids it))).length+(path).length≤536870912)&&decide (Mp.chks ((Itv.kids it))=0∧(((Itv.kids it))).length % 2=0∧0≤within∧within≤200))&&decide ((4 * (Mp.lays ((Itv.kids it))).length+3)<n)) (some [(.ag (Val.cells v10)),(.ag (Flt.cells v11)),(.sl .is path)]))
  (cond (decide ((Itv.kind it)=(5:Int)))
  (dk_value.l2 n within (Itv.kids it) v12 (0:Int) (Val.mk 0 0 0 0 [] [] 0 [] []) (Flt.mk 0 0 []) (Val.mk 4 0 0 0 [] [] 0 [] []) path)
  (cond (decide ((Itv.kind it)=(10:Int)))
  (ck ((decide ((it).bytes.length≤536870912∧(it).n≤127∧0≤within∧within≤200))&&decide ((4 * (it).bytes.length+2)<n)) (cond v14
  (some [(.ag (Val.cells v13)),(.ag [(.i .i64 0),(.i .i64 0),(.sl .is ([]:List Int))]),(.sl .is path)])
  (dk_value.j1 n (Val.mk 0 0 0 0 [] [] 0 [] []) (Flt.mk 0 0 []) path)))
  (dk_value.j1 n (Val.mk 0 0 0 0 [] [] 0 [] []) (Flt.mk 0 0 []) path)))))))))=ρ):dk_value.F n it path within=ρ:=Eq.trans (by kernel_rfl) (K _ rfl _ rfl _ rfl _ rfl _ rfl _ rfl _ rfl _ rfl _ rfl _ rfl _ rfl _ rfl _ rfl _ rfl)
theorem dk_value.chk (n:Nat):CK 28 (dk_value.env n) dk_value.d:=ckOf (by kernel_rfl)
def dk_word.env:EV:=[]
def dk_word.E:TEnv:=envL trydGl dk_word.env
def dk_word.m1:TM:=oS [oB .lss 8 7 9] (.seq (.cond (.s 9) [] .skip (.exit 0)) none (.seq (.block 1 [] (oS [oK (.k (.ix 1)) [6,8] [10],oK (.k (.lr 1 false)) [10] [11],oV 11 5] (.reg [oV 3 12,oI .shl 12 (.u64 8) 13,oV 5 14,oK (.k (.ci .u64)) [14] [15],oB .or 13 15 16,oV 16 3]))) none (.reg [oI .add 8 (.i .i64 1) 17,oV 17 8])))
def dk_word.m:TM:=oS [oW (.u64 0) 2] (oS [oW (.u64 0) 3] (.seq (oS [oV 0 6,oK (.k .len) [6] [7],oW (.i .i64 0) 8] (.block 0 [] (.loop [3,6,7,8] [] dk_word.m1))) none (oS [oV 3 18,oV 18 2] .ret)))
def dk_word.d:TFD:=D0 1 dk_word.m [.t 2]
def dk_word.F (b:List UInt8):OT:=dk_word.d.run dk_word.E [(.sl .bs b)]
def dk_word.k1:Cont (List TV):=seqK (ev _ dk_word.E (oS [oV 3 18,oV 18 2] .ret)) none (endK dk_word.d)
def dk_word.l1 (x0:UInt64) (x1:List UInt8) (x2:Int) (x3:Int):OT:=loopL (evO _ dk_word.E dk_word.m1) isN [3,6,7,8] (headT [3,6,7,8] [(.u64 x0),(.sl .bs x1),(.i .i64 x2),(.i .i64 x3)]) (blockK 0 dk_word.k1)
theorem dk_word.l1_in (x0:UInt64) (x1:List UInt8) (x2:Int) (x3:Int) {ρ:OT} (K:∀(v1:UInt8) (h1:v1=(List.getD x1 (x3).toNat (0:UInt8))) (v2:UInt64) (h2:v2=(shl64 x0 (((8:UInt64)).toNat))) (v3:UInt64) (h3:v3=(UInt64.ofInt ((v1).toNat:Int))) (v4:Int) (h4:v4=(IntKind.i64.wrap (x3+(1:Int)))),cond (decide (x3<x2))
  (ck (idxOK x3 (x1).length) (dk_word.l1 (v2 ||| v3) x1 x2 v4))
  (some [(.u64 x0)])=ρ):dk_word.l1 x0 x1 x2 x3=ρ:=((ev_loop _ _ _ _ _ _).trans (by kernel_rfl)).trans (K _ rfl _ rfl _ rfl _ rfl)
theorem dk_word.F_eq (b:List UInt8):dk_word.F b=dk_word.l1 (0:UInt64) b ((b).length:Int) (0:Int):=by kernel_rfl
theorem dk_word.chk:CK 51 dk_word.env dk_word.d:=ckOf (by kernel_rfl)
def dk_whole.env:EV:=[(25,(utf_Check.c,utf_Check.sg))]
def dk_whole.E:TEnv:=envL trydGl dk_whole.env
def dk_whole.m:TM:=oS [oW (.b false) 2] (oS [oV 0 6,oC 25 1 2 [6] 7,oV 7 5,oE 0 5 8,oE 1 5 9,oV 8 3,oV 9 4] (oS [oV 4 10,oV 10 2] .ret))
def dk_whole.d:TFD:=D0 1 dk_whole.m [.t 2]
def dk_whole.F (b:List UInt8):OT:=dk_whole.d.run dk_whole.E [(.sl .bs b)]
theorem dk_whole.F_eq (b:List UInt8):dk_whole.F b=ck (decide (b.length≤1099511627776)) (some [(.b (Utf.whole b))]):=by kernel_rfl
theorem dk_whole.chk:CK 52 dk_whole.env dk_whole.d:=ckOf (by kernel_rfl)
def dk_ext.env (n:Nat):EV:=[(27,(st_Contains.c,st_Contains.sg)),(33,(tree_Regular.c,tree_Regular.sg)),(34,(clone_bs.c,clone_bs.sg)),(50,(dk_read.cn n,dk_read.sg)),(51,(dk_word.c,dk_word.sg)),(52,(dk_whole.c,dk_whole.sg)),(53,(st_Cut.c,st_Cut.sg))]
def dk_ext.E (n:Nat):TEnv:=envL trydGl (dk_ext.env n)
def dk_ext.m1:TM := .cond (.s 197) [(4,.ptr 1207 0),(7,.ptr 1208 0),(1207,.cl []),(1208,.cl [])] (.reg [oV 6 201,oK (.k .len) [201] [202],oI .eql 202 (.i .i64 0) 203,oV 203 8]) .skip
def dk_ext.m2:TM := .cond (.s 175) [(4,.ptr 1207 0),(7,.ptr 1208 0),(1207,.cl []),(1208,.cl [])] (.reg [oV 6 178,oC 52 1 1 [178] 179,oV 6 180,oK (.k .bs) [180] [181],oV 179 8,oA 1208 0 4 7 182,oT 1208 4 1 182 181]) (oS [oI .eql 27 (.i .i64 19) 184,oV 184 183] (.cond (.s 183) [(4,.ptr 1207 0),(7,.ptr 1208 0),(1207,.cl []),(1208,.cl [])] (oS [oV 6 185,oK (.k .len) [185] [186],oI .eql 186 (.i .i64 16) 187,oV 187 8] (oS [oV 8 188] (.cond (.s 188) [(4,.ptr 1207 0),(7,.ptr 1208 0),(1207,.cl []),(1208,.cl [])] (.reg [oV 6 189,oX (.k (.sc 1 false true)) [.s 189,.c (.i .i64 8)] [190],oC 51 1 1 [190] 191,oV 6 192,oX (.k (.sc 1 true false)) [.s 192,.c (.i .i64 8)] [193],oC 51 1 1 [193] 194,oA 1208 0 2 7 195,oT 1208 2 1 195 191,oA 1208 0 3 7 196,oT 1208 3 1 196 194]) .skip))) (.seq (oS [oI .eql 27 (.i .i64 6) 198,oV 198 197] (.cond (.s 197) [(4,.ptr 1207 0),(7,.ptr 1208 0),(1207,.cl []),(1208,.cl [])] .skip (oS [oI .eql 27 (.i .i64 255) 199,oV 199 197] (.cond (.s 197) [(4,.ptr 1207 0),(7,.ptr 1208 0),(1207,.cl []),(1208,.cl [])] .skip (.reg [oI .eql 27 (.i .i64 127) 200,oV 200 197]))))) (some [4,6,7,8,197,1207,1208]) dk_ext.m1)))
def dk_ext.m3:TM := .cond (.s 117) [(4,.ptr 1207 0),(7,.ptr 1208 0),(1207,.cl []),(1208,.cl [])] (.reg [oV 6 121,oK (.k .len) [121] [122],oI .eql 122 (.i .i64 8) 123,oV 6 124,oC 51 1 1 [124] 125,oV 123 8,oA 1208 0 1 7 126,oT 1208 1 1 126 125]) (oS [oI .eql 27 (.i .i64 11) 128,oV 128 127] (.cond (.s 127) [(4,.ptr 1207 0),(7,.ptr 1208 0),(1207,.cl []),(1208,.cl [])] (oS [oV 6 130,oK (.k .bs) [130] [131],oX (.k (.call 53 (.plain 2 3))) [.s 131,.c (.s ([0]:Str))] [132],oV 132 129,oE 0 129 133,oE 1 129 134,oE 2 129 135,oV 133 10,oV 134 11,oV 135 12] (.reg [oV 12 136,oV 136 137,oG 137 true (oV 11 138),oG 137 true (oX (.k (.call 27 (.plain 2 1))) [.s 138,.c (.s ([0]:Str))] [139]),oG 137 true (oK (.k (.un .not)) [139] [140]),oP 137 140 false 141,oV 141 142,oG 142 true (oV 10 143),oG 142 true (oK (.k .sb) [143] [144]),oG 142 true (oC 52 1 1 [144] 145),oP 142 145 false 146,oV 146 147,oG 147 true (oV 11 148),oG 147 true (oK (.k .sb) [148] [149]),oG 147 true (oC 52 1 1 [149] 150),oP 147 150 false 151,oV 10 152,oV 11 153,oV 151 8,oA 1208 0 4 7 154,oT 1208 4 1 154 152,oA 1208 0 5 7 155,oT 1208 5 1 155 153])) (oS [oI .eql 27 (.i .i64 12) 157,oV 157 156] (.cond (.s 156) [(4,.ptr 1207 0),(7,.ptr 1208 0),(1207,.cl []),(1208,.cl [])] (oS [oV 6 158,oK (.k .len) [158] [159],oI .geq 159 (.i .i64 12) 160,oV 160 161,oG 161 true (oV 6 162),oG 161 true (oX (.k (.sc 1 true false)) [.s 162,.c (.i .i64 12)] [163]),oG 161 true (oC 52 1 1 [163] 164),oP 161 164 false 165,oV 165 8] (oS [oV 8 166] (.cond (.s 166) [(4,.ptr 1207 0),(7,.ptr 1208 0),(1207,.cl []),(1208,.cl [])] (.reg [oV 6 167,oX (.k (.sc 1 false true)) [.s 167,.c (.i .i64 12)] [168],oK (.k (.call 34 ⟨1,none,[],[],1,[(0,109,1)],none,[]⟩)) [168,(lk 109)] [169,lk 109],oV 6 170,oX (.k (.sc 1 true false)) [.s 170,.c (.i .i64 12)] [171],oK (.k .bs) [171] [172],oA 1208 0 7 7 173,oT 1208 7 1 173 169,oA 1208 0 4 7 174,oT 1208 4 1 174 172]) .skip))) (.seq (oS [oI .eql 27 (.i .i64 13) 176,oV 176 175] (.cond (.s 175) [(4,.ptr 1207 0),(7,.ptr 1208 0),(1207,.cl []),(1208,.cl [])] .skip (.reg [oI .eql 27 (.i .i64 14) 177,oV 177 175]))) (some [4,6,7,8,27,175,1207,1208]) dk_ext.m2)))))
def dk_ext.m4:TM:=oS [oM 1208 0 9 7 204,oV 8 205,oK (.stt 1207 0 9 [(8,110,.fl)]) [4,1207,204,(lk 110)] [1207,lk 110],oV 205 5] .ret
def dk_ext.m5:TM := .seq (oS [oV 1 23,oI .geq 23 (.i .i64 200) 24] (.cond (.s 24) [] (oS [oK (.bd zV []) [] [25],oT 1207 0 9 4 25,oW (.b false) 5] .ret) .skip)) none (.seq (oS [oA 1208 0 0 7 26,oL 1208 0 1 26 27] (.block 0 [(4,.ptr 1207 0),(7,.ptr 1208 0),(1207,.cl []),(1208,.cl [])] (oS [oI .eql 27 (.i .i64 4) 29,oV 29 28] (.cond (.s 28) [] (oS [oM 1208 0 9 7 31,oV 6 32,oV 1 33,oC 50 3 2 [31,32,33] 34,oV 34 30,oE 0 30 35,oE 1 30 36,oT 1208 0 9 7 35,oV 36 8] (oS [oM 1208 0 9 7 37,oV 8 38,oV 38 39,oG 39 true (oA 1208 0 8 7 40),oG 39 true (oL 1208 8 1 40 41),oG 39 true (oC 33 1 1 [41] 42),oG 39 true (oK (.k (.un .not)) [42] [43]),oP 39 43 false 44,oT 1207 0 9 4 37,oV 44 5] .ret)) (oS [oI .eql 27 (.i .i64 15) 46,oV 46 45] (.cond (.s 45) [] (.seq (oS [oV 6 47,oK (.k .len) [47] [48],oI .lss 48 (.i .i64 4) 49,oV 49 50,oG 50 false (oV 6 51),oG 50 false (oX (.k (.sc 1 false true)) [.s 51,.c (.i .i64 4)] [52]),oG 50 false (oC 51 1 1 [52] 53),oG 50 false (oV 6 54),oG 50 false (oK (.k .len) [54] [55]),oG 50 false (oI .sub 55 (.i .i64 4) 56),oG 50 false (oK (.k (.ci .u64)) [56] [57]),oG 50 false (oB .gtr 53 57 58),oX (.k .pick) [.s 50,.c (.b true),.s 58] [59]] (.cond (.s 59) [] (oS [oK (.bd zV []) [] [60],oT 1207 0 9 4 60,oW (.b false) 5] .ret) .skip)) none (oS [oV 6 61,oX (.k (.sc 1 false true)) [.s 61,.c (.i .i64 4)] [62],oC 51 1 1 [62] 63,oK (.k (.ci .i64)) [63] [64],oX (.k (.bin .add)) [.c (.i .i64 4),.s 64] [65],oV 65 9] (oS [oV 6 66,oV 9 67,oX (.k (.sc 1 true true)) [.s 66,.c (.i .i64 4),.s 67] [68],oK (.k .bs) [68] [69],oA 1208 0 4 7 70,oT 1208 4 1 70 69] (oS [oM 1208 0 9 7 72,oV 6 73,oV 9 74,oK (.k (.sc 1 true false)) [73,74] [75],oV 1 76,oC 50 3 2 [72,75,76] 77,oV 77 71,oE 0 71 78,oE 1 71 79,oT 1208 0 9 7 78,oV 79 8] (oS [oM 1208 0 9 7 80,oV 8 81,oV 81 82,oG 82 true (oV 6 83),oG 82 true (oV 9 84),oG 82 true (oX (.k (.sc 1 true true)) [.s 83,.c (.i .i64 4),.s 84] [85]),oG 82 true (oC 52 1 1 [85] 86),oP 82 86 false 87,oT 1207 0 9 4 80,oV 87 5] .ret))))) (oS [oI .eql 27 (.i .i64 5) 89,oV 89 88] (.cond (.s 88) [(4,.ptr 1207 0),(7,.ptr 1208 0),(1207,.cl []),(1208,.cl [])] (oS [oV 6 90,oK (.k .len) [90] [91],oI .gtr 91 (.i .i64 0) 92,oV 92 93,oG 93 true (oV 6 94),oG 93 true (oX (.k (.ix 1)) [.s 94,.c (.i .i64 0)] [95]),oG 93 true (oK (.k (.lr 1 false)) [95] [96]),oG 93 true (oI .neq 96 (.u8 0) 97),oP 93 97 false 98,oV 98 8] (oS [oV 8 99] (.cond (.s 99) [(4,.ptr 1207 0),(7,.ptr 1208 0),(1207,.cl []),(1208,.cl [])] (.reg [oV 6 100,oX (.k (.ix 1)) [.s 100,.c (.i .i64 0)] [101],oK (.k (.lr 1 false)) [101] [102],oK (.k (.ci .i64)) [102] [103],oV 6 104,oX (.k (.sc 1 true false)) [.s 104,.c (.i .i64 1)] [105],oK (.k (.call 34 ⟨1,none,[],[],1,[(0,107,1)],none,[]⟩)) [105,(lk 107)] [106,lk 107],oA 1208 0 6 7 107,oT 1208 6 1 107 103,oA 1208 0 7 7 108,oT 1208 7 1 108 106]) .skip))) (oS [oI .eql 27 (.i .i64 7) 110,oV 110 109] (.cond (.s 109) [(4,.ptr 1207 0),(7,.ptr 1208 0),(1207,.cl []),(1208,.cl [])] (.reg [oV 6 111,oK (.k .len) [111] [112],oI .eql 112 (.i .i64 12) 113,oV 6 114,oK (.k (.call 34 ⟨1,none,[],[],1,[(0,108,1)],none,[]⟩)) [114,(lk 108)] [115,lk 108],oV 113 8,oA 1208 0 7 7 116,oT 1208 7 1 116 115]) (.seq (oS [oI .eql 27 (.i .i64 9) 118,oV 118 117] (.cond (.s 117) [(4,.ptr 1207 0),(7,.ptr 1208 0),(1207,.cl []),(1208,.cl [])] .skip (oS [oI .eql 27 (.i .i64 17) 119,oV 119 117] (.cond (.s 117) [(4,.ptr 1207 0),(7,.ptr 1208 0),(1207,.cl []),(1208,.cl [])] .skip (.reg [oI .eql 27 (.i .i64 18) 120,oV 120 117]))))) (some [4,6,7,8,27,117,1207,1208]) dk_ext.m3))))))))))) (some [4,7,8,1207,1208]) dk_ext.m4)
def dk_ext.m:TM:=oS [oK (.k (.bx 1206)) [0,1206] [2,1206],oN 1207 zV 4,oW (.b false) 5] (oS [oA 1206 0 2 2 13,oL 1206 2 1 13 14,oV 14 6] (oS [oA 1206 0 1 2 15,oL 1206 1 1 15 16,oK (.k (.ci .i64)) [16] [17],oK (.bd [(.i .i64 0),(.u64 0),(.u64 0),(.u64 0),(.s []),(.s []),(.i .i64 0),(.sl .bs ([]:List UInt8)),(.c (.slice none 0 0))] [(0,1)]) [17] [18],oN 1208 zV 7,oT 1208 0 9 7 18] (oS [oW (.b false) 8] (.seq (oS [oA 1208 0 0 7 19,oL 1208 0 1 19 20,oI .eql 20 (.i .i64 126) 21] (.cond (.s 21) [(4,.ptr 1207 0),(7,.ptr 1208 0),(1207,.cl []),(1208,.cl [])] (.reg [oA 1208 0 0 7 22,oX (.k (.st 1208 0 1)) [.s 22,.s 1208,.c (.i .i64 255)] [1208]]) .skip)) (some [1,4,6,7,8,1207,1208]) dk_ext.m5))))
def dk_ext.d:TFD:=D0 2 dk_ext.m [.c 4 1207 9 true,.t 5]
def dk_ext.F (n:Nat) (it:Itv) (within:Int):OT:=dk_ext.d.run (dk_ext.E n) [(.ag (Itv.cells it)),(.i .i64 within)]
def dk_ext.k1 (n:Nat):Cont (List TV):=seqK (evO _ (dk_ext.E n) dk_ext.m4) (some [4,7,8,1207,1208]) (endK dk_ext.d)
def dk_ext.j1 (n:Nat) (x0:Int) (x1:List UInt8) (x2:Bool) (x3:Val) (x4:Int) (x5:UInt64) (x6:UInt64) (x7:UInt64) (x8:Str) (x9:Str) (x10:Int) (x11:List UInt8):OT:=evO _ (dk_ext.E n) dk_ext.m5 (headT [1,4,6,7,8,1207,1208] [(.i .i64 x0),.pt,(.sl .bs x1),.pt,(.b x2),(.ag (Val.cells x3)),(.ag [(.i .i64 x4),(.u64 x5),(.u64 x6),(.u64 x7),(.s x8),(.s x9),(.i .i64 x10),(.sl .bs x11),(.c (.slice none 0 0))])]) (endK dk_ext.d)
def dk_ext.j2 (n:Nat) (x0:Bool) (x1:Val) (x2:Int) (x3:UInt64) (x4:UInt64) (x5:UInt64) (x6:Str) (x7:Str) (x8:Int) (x9:List UInt8):OT:=evO _ (dk_ext.E n) dk_ext.m4 (headT [4,7,8,1207,1208] [.pt,.pt,(.b x0),(.ag (Val.cells x1)),(.ag [(.i .i64 x2),(.u64 x3),(.u64 x4),(.u64 x5),(.s x6),(.s x7),(.i .i64 x8),(.sl .bs x9),(.c (.slice none 0 0))])]) (endK dk_ext.d)
def dk_ext.j3 (n:Nat) (x0:List UInt8) (x1:Bool) (x2:Int) (x3:Bool) (x4:Val) (x5:Int) (x6:UInt64) (x7:UInt64) (x8:UInt64) (x9:Str) (x10:Str) (x11:Int) (x12:List UInt8):OT:=evO _ (dk_ext.E n) dk_ext.m3 (headT [4,6,7,8,27,117,1207,1208] [.pt,(.sl .bs x0),.pt,(.b x1),(.i .i64 x2),(.b x3),(.ag (Val.cells x4)),(.ag [(.i .i64 x5),(.u64 x6),(.u64 x7),(.u64 x8),(.s x9),(.s x10),(.i .i64 x11),(.sl .bs x12),(.c (.slice none 0 0))])]) (blockK 0 (dk_ext.k1 n))
def dk_ext.j4 (n:Nat) (x0:List UInt8) (x1:Bool) (x2:Int) (x3:Bool) (x4:Val) (x5:Int) (x6:UInt64) (x7:UInt64) (x8:UInt64) (x9:Str) (x10:Str) (x11:Int) (x12:List UInt8):OT:=evO _ (dk_ext.E n) dk_ext.m2 (headT [4,6,7,8,27,175,1207,1208] [.pt,(.sl .bs x0),.pt,(.b x1),(.i .i64 x2),(.b x3),(.ag (Val.cells x4)),(.ag [(.i .i64 x5),(.u64 x6),(.u64 x7),(.u64 x8),(.s x9),(.s x10),(.i .i64 x11),(.sl .bs x12),(.c (.slice none 0 0))])]) (blockK 0 (dk_ext.k1 n))
def dk_ext.j5 (n:Nat) (x0:List UInt8) (x1:Bool) (x2:Bool) (x3:Val) (x4:Int) (x5:UInt64) (x6:UInt64) (x7:UInt64) (x8:Str) (x9:Str) (x10:Int) (x11:List UInt8):OT:=evO _ (dk_ext.E n) dk_ext.m1 (headT [4,6,7,8,197,1207,1208] [.pt,(.sl .bs x0),.pt,(.b x1),(.b x2),(.ag (Val.cells x3)),(.ag [(.i .i64 x4),(.u64 x5),(.u64 x6),(.u64 x7),(.s x8),(.s x9),(.i .i64 x10),(.sl .bs x11),(.c (.slice none 0 0))])]) (blockK 0 (dk_ext.k1 n))
theorem dk_ext.j1_in (n:Nat) (x0:Int) (x1:List UInt8) (x2:Bool) (x3:Val) (x4:Int) (x5:UInt64) (x6:UInt64) (x7:UInt64) (x8:Str) (x9:Str) (x10:Int) (x11:List UInt8) {ρ:OT} (K:∀(v1:Val) (h1:v1=((Dk.readV (199 - x0).toNat (Val.mk x4 x5 x6 x7 x8 x9 x10 x11 []) x1).1)) (v2:Bool) (h2:v2=((Dk.readV (199 - x0).toNat (Val.mk x4 x5 x6 x7 x8 x9 x10 x11 []) x1).2)) (v3:Bool) (h3:v3=(Tree.regular ((Val.kids v1)))) (v4:List UInt8) (h4:v4=(List.take ((4:Int)).toNat x1)) (v5:Int) (h5:v5=(IntKind.i64.wrap (((x1).length:Int) - (4:Int)))) (v6:Bool) (h6:v6=(cond (decide (((x1).length:Int)<(4:Int))) true (decide ((UInt64.ofInt v5)<(Cur.be v4))))) (v7:Int) (h7:v7=(IntKind.i64.wrap (((Cur.be v4)).toNat:Int))) (v8:Int) (h8:v8=(IntKind.i64.wrap ((4:Int)+v7))) (v9:List UInt8) (h9:v9=(List.drop ((4:Int)).toNat (List.take (v8).toNat x1))) (v10:Val) (h10:v10=((Dk.readV (199 - x0).toNat (Val.mk x4 x5 x6 x7 v9 x9 x10 x11 []) ((List.drop (v8).toNat x1))).1)) (v11:Bool) (h11:v11=((Dk.readV (199 - x0).toNat (Val.mk x4 x5 x6 x7 v9 x9 x10 x11 []) ((List.drop (v8).toNat x1))).2)) (v12:Bool) (h12:v12=(cond v11 (Utf.whole v9) false)) (v13:UInt8) (h13:v13=(List.getD x1 ((0:Int)).toNat (0:UInt8))) (v14:Bool) (h14:v14=(cond (decide ((0:Int)<((x1).length:Int))) (!decide (v13=(0:UInt8))) false)) (v15:Int) (h15:v15=(IntKind.i64.wrap ((v13).toNat:Int))) (v16:List UInt8) (h16:v16=(List.drop ((1:Int)).toNat x1)),cond (decide ((200:Int)≤x0))
  (some [(.ag [(.i .i64 0),(.u64 0),(.u64 0),(.u64 0),(.s []),(.s []),(.i .i64 0),(.sl .bs ([]:List UInt8)),(.sl .fl ([]:List Fld))]),(.b false)])
  (cond (decide (x4=(4:Int)))
  (ck ((decide ((x1).length≤536870912∧0≤x0∧x0<200))&&decide ((4 * (x1).length+1)<n)) (ck (!v2 || v2) (ck (!v2 || (v2&&(decide (((Val.kids v1)).length≤1099511627776)))) (ck (!v2 || v2) (ck (!v2 || v2) (some [(.ag (Val.cells v1)),(.b (cond v2 (!v3) false))]))))))
  (cond (decide (x4=(15:Int)))
  (ck (!(!(decide (((x1).length:Int)<(4:Int)))) || ((!(decide (((x1).length:Int)<(4:Int))))&&(cutOK 0 (4:Int) (x1).length))) (ck (!(!(decide (((x1).length:Int)<(4:Int)))) || ((!(decide (((x1).length:Int)<(4:Int))))&&(decide ((v4).length≤1099511627776)))) (ck (!(!(decide (((x1).length:Int)<(4:Int)))) || (!(decide (((x1).length:Int)<(4:Int))))) (ck (!(!(decide (((x1).length:Int)<(4:Int)))) || (!(decide (((x1).length:Int)<(4:Int))))) (ck (!(!(decide (((x1).length:Int)<(4:Int)))) || (!(decide (((x1).length:Int)<(4:Int))))) (ck (!(!(decide (((x1).length:Int)<(4:Int)))) || ((!(decide (((x1).length:Int)<(4:Int))))&&(!(decide (((x1).length:Int)<(4:Int)))))) (ck ((decide (((x1).length:Int)<(4:Int))) || (!(decide (((x1).length:Int)<(4:Int))))) (cond v6
  (some [(.ag [(.i .i64 0),(.u64 0),(.u64 0),(.u64 0),(.s []),(.s []),(.i .i64 0),(.sl .bs ([]:List UInt8)),(.sl .fl ([]:List Fld))]),(.b false)])
  (ck (cutOK 0 (4:Int) (x1).length) (ck (decide ((v4).length≤1099511627776)) (ck (cutOK (4:Int) v8 (x1).length) (ck (cutOK v8 (x1).length (x1).length) (ck ((decide ((((List.drop (v8).toNat x1))).length≤536870912∧0≤x0∧x0<200))&&decide ((4 * (((List.drop (v8).toNat x1))).length+1)<n)) (ck (!v11 || ((v11&&v11)&&(cutOK (4:Int) v8 (x1).length))) (ck (!v11 || (v11&&(decide ((v9).length≤1099511627776)))) (ck (!v11 || v11) (some [(.ag (Val.cells v10)),(.b v12)])))))))))))))))))
  (cond (decide (x4=(5:Int)))
  (ck (!(decide ((0:Int)<((x1).length:Int))) || ((decide ((0:Int)<((x1).length:Int)))&&(idxOK (0:Int) (x1).length))) (ck (!(decide ((0:Int)<((x1).length:Int))) || (decide ((0:Int)<((x1).length:Int)))) (ck (!(decide ((0:Int)<((x1).length:Int))) || (decide ((0:Int)<((x1).length:Int)))) (ck (!(decide ((0:Int)<((x1).length:Int))) || (decide ((0:Int)<((x1).length:Int)))) (cond v14
  (ck (idxOK (0:Int) (x1).length) (ck (cutOK (1:Int) (x1).length (x1).length) (ck (apOK (v16).length 1) (dk_ext.j2 n v14 x3 x4 x5 x6 x7 x8 x9 v15 (v16)))))
  (dk_ext.j2 n v14 x3 x4 x5 x6 x7 x8 x9 x10 x11))))))
  (cond (decide (x4=(7:Int)))
  (ck (apOK (x1).length 1) (dk_ext.j2 n (decide (((x1).length:Int)=(12:Int))) x3 x4 x5 x6 x7 x8 x9 x10 (x1)))
  (cond (decide (x4=(9:Int)))
  (dk_ext.j3 n x1 x2 x4 (decide (x4=(9:Int))) x3 x4 x5 x6 x7 x8 x9 x10 x11)
  (cond (decide (x4=(17:Int)))
  (dk_ext.j3 n x1 x2 x4 (decide (x4=(17:Int))) x3 x4 x5 x6 x7 x8 x9 x10 x11)
  (dk_ext.j3 n x1 x2 x4 (decide (x4=(18:Int))) x3 x4 x5 x6 x7 x8 x9 x10 x11)))))))=ρ):dk_ext.j1 n x0 x1 x2 x3 x4 x5 x6 x7 x8 x9 x10 x11=ρ:=((congrFun (congrFun (ev_eq _ _) _) _).trans (by kernel_rfl)).trans (K _ rfl _ rfl _ rfl _ rfl _ rfl _ rfl _ rfl _ rfl _ rfl _ rfl _ rfl _ rfl _ rfl _ rfl _ rfl _ rfl)
theorem dk_ext.j2_eq (n:Nat) (x0:Bool) (x1:Val) (x2:Int) (x3:UInt64) (x4:UInt64) (x5:UInt64) (x6:Str) (x7:Str) (x8:Int) (x9:List UInt8):dk_ext.j2 n x0 x1 x2 x3 x4 x5 x6 x7 x8 x9=some [(.ag [(.i .i64 x2),(.u64 x3),(.u64 x4),(.u64 x5),(.s x6),(.s x7),(.i .i64 x8),(.sl .bs x9),(.sl .fl ([]:List Fld))]),(.b x0)]:=((congrFun (congrFun (ev_eq _ _) _) _).trans (by kernel_rfl))
theorem dk_ext.j3_in (n:Nat) (x0:List UInt8) (x1:Bool) (x2:Int) (x3:Bool) (x4:Val) (x5:Int) (x6:UInt64) (x7:UInt64) (x8:UInt64) (x9:Str) (x10:Str) (x11:Int) (x12:List UInt8) {ρ:OT} (K:∀(v1:Str) (h1:v1=((Dk.cut x0 ((([0]:Str)).getD 0 0)).1)) (v2:Str) (h2:v2=((Dk.cut x0 ((([0]:Str)).getD 0 0)).2.1)) (v3:Bool) (h3:v3=((Dk.cut x0 ((([0]:Str)).getD 0 0)).2.2)) (v4:Bool) (h4:v4=(cond v3 (!(decide (0≤Lib.indexByte v2 ((([0]:Str)).getD 0 0)))) false)) (v5:Bool) (h5:v5=(cond v4 (Utf.whole v1) false)) (v6:Bool) (h6:v6=(cond v5 (Utf.whole v2) false)) (v7:List UInt8) (h7:v7=(List.drop ((12:Int)).toNat x0)) (v8:Bool) (h8:v8=(cond (decide ((12:Int)≤((x0).length:Int))) (Utf.whole v7) false)) (v9:List UInt8) (h9:v9=(List.take ((12:Int)).toNat x0)),cond x3
  (ck (decide ((x0).length≤1099511627776)) (dk_ext.j2 n (decide (((x0).length:Int)=(8:Int))) x4 x5 (Cur.be x0) x7 x8 x9 x10 x11 x12))
  (cond (decide (x2=(11:Int)))
  (ck (decide ((([0]:Str)).length=1∧x0.length≤1099511627776)) (ck (!v3 || (v3&&(decide ((([0]:Str)).length=1)))) (ck (!v3 || v3) (ck (!v3 || v3) (ck (!v4 || (v4&&(lenOK (v1).length))) (ck (!v4 || (v4&&(decide ((v1).length≤1099511627776)))) (ck (!v4 || v4) (ck (!v5 || (v5&&(lenOK (v2).length))) (ck (!v5 || (v5&&(decide ((v2).length≤1099511627776)))) (ck (!v5 || v5) (dk_ext.j2 n v6 x4 x5 x6 x7 x8 v1 v2 x11 x12)))))))))))
  (cond (decide (x2=(12:Int)))
  (ck (!(decide ((12:Int)≤((x0).length:Int))) || ((decide ((12:Int)≤((x0).length:Int)))&&(cutOK (12:Int) (x0).length (x0).length))) (ck (!(decide ((12:Int)≤((x0).length:Int))) || ((decide ((12:Int)≤((x0).length:Int)))&&(decide ((v7).length≤1099511627776)))) (ck (!(decide ((12:Int)≤((x0).length:Int))) || (decide ((12:Int)≤((x0).length:Int)))) (cond v8
  (ck (cutOK 0 (12:Int) (x0).length) (ck (apOK (v9).length 1) (ck (cutOK (12:Int) (x0).length (x0).length) (dk_ext.j2 n v8 x4 x5 x6 x7 x8 v7 x10 x11 (v9)))))
  (dk_ext.j2 n v8 x4 x5 x6 x7 x8 x9 x10 x11 x12)))))
  (cond (decide (x2=(13:Int)))
  (dk_ext.j4 n x0 x1 x2 (decide (x2=(13:Int))) x4 x5 x6 x7 x8 x9 x10 x11 x12)
  (dk_ext.j4 n x0 x1 x2 (decide (x2=(14:Int))) x4 x5 x6 x7 x8 x9 x10 x11 x12))))=ρ):dk_ext.j3 n x0 x1 x2 x3 x4 x5 x6 x7 x8 x9 x10 x11 x12=ρ:=((congrFun (congrFun (ev_eq _ _) _) _).trans (by kernel_rfl)).trans (K _ rfl _ rfl _ rfl _ rfl _ rfl _ rfl _ rfl _ rfl _ rfl)
theorem dk_ext.j4_in (n:Nat) (x0:List UInt8) (x1:Bool) (x2:Int) (x3:Bool) (x4:Val) (x5:Int) (x6:UInt64) (x7:UInt64) (x8:UInt64) (x9:Str) (x10:Str) (x11:Int) (x12:List UInt8) {ρ:OT} (K:∀(v1:List UInt8) (h1:v1=(List.take ((8:Int)).toNat x0)) (v2:List UInt8) (h2:v2=(List.drop ((8:Int)).toNat x0)),cond x3
  (ck (decide ((x0).length≤1099511627776)) (dk_ext.j2 n (Utf.whole x0) x4 x5 x6 x7 x8 x0 x10 x11 x12))
  (cond (decide (x2=(19:Int)))
  (cond (decide (((x0).length:Int)=(16:Int)))
  (ck (cutOK 0 (8:Int) (x0).length) (ck (decide ((v1).length≤1099511627776)) (ck (cutOK (8:Int) (x0).length (x0).length) (ck (decide ((v2).length≤1099511627776)) (dk_ext.j2 n (decide (((x0).length:Int)=(16:Int))) x4 x5 x6 (Cur.be v1) (Cur.be v2) x9 x10 x11 x12)))))
  (dk_ext.j2 n (decide (((x0).length:Int)=(16:Int))) x4 x5 x6 x7 x8 x9 x10 x11 x12))
  (cond (decide (x2=(6:Int)))
  (dk_ext.j5 n x0 x1 (decide (x2=(6:Int))) x4 x5 x6 x7 x8 x9 x10 x11 x12)
  (cond (decide (x2=(255:Int)))
  (dk_ext.j5 n x0 x1 (decide (x2=(255:Int))) x4 x5 x6 x7 x8 x9 x10 x11 x12)
  (dk_ext.j5 n x0 x1 (decide (x2=(127:Int))) x4 x5 x6 x7 x8 x9 x10 x11 x12))))=ρ):dk_ext.j4 n x0 x1 x2 x3 x4 x5 x6 x7 x8 x9 x10 x11 x12=ρ:=((congrFun (congrFun (ev_eq _ _) _) _).trans (by kernel_rfl)).trans (K _ rfl _ rfl)
theorem dk_ext.j5_eq (n:Nat) (x0:List UInt8) (x1:Bool) (x2:Bool) (x3:Val) (x4:Int) (x5:UInt64) (x6:UInt64) (x7:UInt64) (x8:Str) (x9:Str) (x10:Int) (x11:List UInt8):dk_ext.j5 n x0 x1 x2 x3 x4 x5 x6 x7 x8 x9 x10 x11=cond x2
  (dk_ext.j2 n (decide (((x0).length:Int)=(0:Int))) x3 x4 x5 x6 x7 x8 x9 x10 x11)
  (dk_ext.j2 n x1 x3 x4 x5 x6 x7 x8 x9 x10 x11):=((congrFun (congrFun (ev_eq _ _) _) _).trans (by kernel_rfl))
theorem dk_ext.F_in (n:Nat) (it:Itv) (within:Int) {ρ:OT} (K:∀(v1:Int) (h1:v1=(IntKind.i64.wrap (((Itv.n it)).toNat:Int))),cond (decide (v1=(126:Int)))
  (dk_ext.j1 n within (Itv.bytes it) false (Val.mk 0 0 0 0 [] [] 0 [] []) (255:Int) (0:UInt64) (0:UInt64) (0:UInt64) ([]:Str) ([]:Str) (0:Int) ([]:List UInt8))
  (dk_ext.j1 n within (Itv.bytes it) false (Val.mk 0 0 0 0 [] [] 0 [] []) v1 (0:UInt64) (0:UInt64) (0:UInt64) ([]:Str) ([]:Str) (0:Int) ([]:List UInt8))=ρ):dk_ext.F n it within=ρ:=Eq.trans (by kernel_rfl) (K _ rfl)
theorem dk_ext.chk (n:Nat):CK 43 (dk_ext.env n) dk_ext.d:=ckOf (by kernel_rfl)
def dk_read.env (n:Nat):EV:=[(17,(dk_with.cn n,dk_with.sg)),(62,(mp_Decode.c,mp_Decode.sg))]
def dk_read.E (n:Nat):TEnv:=envL trydGl (dk_read.env n)
def dk_read.m:TM:=oS [oK (.k (.bx 1037)) [0,1037] [3,1037],oN 1038 zV 6,oW (.b false) 7] (oS [oV 1 11,oX (.k (.call 62 (.plain 2 2))) [.s 11,.c (.i .i64 1000)] [12],oV 12 10,oE 0 10 13,oE 1 10 14,oN 1039 zI 8,oN 1040 zT 9,oT 1039 0 5 8 13,oT 1040 0 3 9 14] (.seq (oS [oA 1040 0 0 9 15,oL 1040 0 1 15 16,oI .neq 16 (.i .i64 0) 17,oV 17 18,oG 18 false (oA 1039 0 0 8 19),oG 18 false (oL 1039 0 1 19 20),oG 18 false (oI .neq 20 (.i .i64 6) 21),oX (.k .pick) [.s 18,.c (.b true),.s 21] [22]] (.cond (.s 22) [] (oS [oK (.bd zV []) [] [23],oT 1038 0 9 6 23,oW (.b false) 7] .ret) .skip)) none (oS [oM 1037 0 9 3 25,oA 1039 0 4 8 26,oL 1039 4 1 26 27,oV 2 28,oI .add 28 (.i .i64 1) 29,oX (.k (.pcaln 17 4 2 2 1)) [.s 25,.s 27,.c (.sl .is ([]:List Int)),.s 29] [30],oV 30 24,oE 0 24 31,oE 1 24 32,oT 1037 0 9 3 31,oT 1040 0 3 9 32] (oS [oM 1037 0 9 3 33,oA 1040 0 0 9 34,oL 1040 0 1 34 35,oI .eql 35 (.i .i64 0) 36,oT 1038 0 9 6 33,oV 36 7] .ret))))
def dk_read.d:TFD:=D0 3 dk_read.m [.c 6 1038 9 true,.t 7]
def dk_read.F (n:Nat) (v:Val) (b:List UInt8) (within:Int):OT:=dk_read.d.run (dk_read.E n) [(.ag [(.i .i64 (Val.kind v)),(.u64 (Val.bits v)),(.u64 (Val.high v)),(.u64 (Val.low v)),(.s (Val.text v)),(.s (Val.more v)),(.i .i64 (Val.sub v)),(.sl .bs (Val.bytes v)),(.c (.slice none 0 0))]),(.sl .bs b),(.i .i64 within)]
theorem dk_read.F_in (n:Nat) (v:Val) (b:List UInt8) (within:Int) {ρ:OT} (K:∀(v1:Flt) (h1:v1=((Mp.dec b ((1000:Int))).2)) (v2:Bool) (h2:v2=(!(!decide ((Flt.err v1)=(0:Int))))) (v3:Int) (h3:v3=(Itm.kind ((Mp.dec b ((1000:Int))).1))) (v4:Bool) (h4:v4=(cond (!decide ((Flt.err v1)=(0:Int))) true (!decide (v3=(6:Int))))) (v5:List Itm) (h5:v5=(Itm.kids ((Mp.dec b ((1000:Int))).1))) (v6:Int) (h6:v6=(IntKind.i64.wrap (within+(1:Int)))) (v7:Val) (h7:v7=(Db.Got.val (Db.Gots.got (Val.mk (Val.kind v) (Val.bits v) (Val.high v) (Val.low v) (Val.text v) (Val.more v) (Val.sub v) (Val.bytes v) []) (Dk.fields (200 - v6).toNat v5 0 (([]:List Int)))))) (v8:Flt) (h8:v8=(Db.Got.flt (Db.Gots.got (Val.mk (Val.kind v) (Val.bits v) (Val.high v) (Val.low v) (Val.text v) (Val.more v) (Val.sub v) (Val.bytes v) []) (Dk.fields (200 - v6).toNat v5 0 (([]:List Int)))))),ck (decide ((b).length≤1099511627776)) (ck (!v2 || v2) (ck (!v2 || v2) (ck ((!decide ((Flt.err v1)=(0:Int))) || v2) (cond v4
  (some [(.ag [(.i .i64 0),(.u64 0),(.u64 0),(.u64 0),(.s []),(.s []),(.i .i64 0),(.sl .bs ([]:List UInt8)),(.sl .fl ([]:List Fld))]),(.b false)])
  (ck ((decide ((Mp.lays v5).length+((([]:List Int))).length≤536870912)&&decide (Mp.chks v5=0∧(v5).length % 2=0∧0≤v6∧v6≤200))&&decide ((4 * (Mp.lays v5).length+3)<n)) (some [(.ag (Val.cells v7)),(.b (decide ((Flt.err v8)=(0:Int))))]))))))=ρ):dk_read.F n v b within=ρ:=Eq.trans (by kernel_rfl) (K _ rfl _ rfl _ rfl _ rfl _ rfl _ rfl _ rfl _ rfl)
theorem dk_read.chk (n:Nat):CK 50 (dk_read.env n) dk_read.d:=ckOf (by kernel_rfl)
def dk_Value.env:EV:=[(15,(mp_Check.c,mp_Check.sg)),(16,(dk_none.c,dk_none.sg)),(17,(dk_with.c,dk_with.sg))]
def dk_Value.E:TEnv:=envL trydGl dk_Value.env
def dk_Value.m:TM:=oS [oK (.k (.bx 1023)) [0,1023] [1,1023],oN 1024 zV 2,oN 1025 zT 3] (.seq (oS [oM 1023 0 5 1 5,oC 15 1 1 [5] 6,oV 6 4] (oS [oV 4 7,oI .neq 7 (.i .i64 0) 8] (.cond (.s 8) [] (oS [oK (.bd zV []) [] [9],oV 4 10,oK (.bd zT [(0,1)]) [10] [11],oT 1024 0 9 2 9,oT 1025 0 3 3 11] .ret) .skip))) none (.seq (oS [oA 1023 0 0 1 12,oL 1023 0 1 12 13,oI .neq 13 (.i .i64 6) 14] (.cond (.s 14) [] (oS [oK (.bd zV []) [] [15],oX (.k (.pcaln 16 1 1 0 1)) [.c (.sl .is ([]:List Int))] [16],oT 1024 0 9 2 15,oT 1025 0 3 3 16] .ret) .skip)) none (oS [oX (.bd [(.i .i64 0),(.u64 0),(.u64 0),(.u64 0),(.s []),(.s []),(.i .i64 0),(.sl .bs ([]:List UInt8)),(.c (.slice none 0 0))] [(0,1)]) [.c (.i .i64 3)] [17],oA 1023 0 4 1 18,oL 1023 4 1 18 19,oX (.k (.pcaln 17 4 2 2 1)) [.s 17,.s 19,.c (.sl .is ([]:List Int)),.c (.i .i64 0)] [20],oE 0 20 21,oE 1 20 22,oT 1024 0 9 2 21,oT 1025 0 3 3 22] .ret)))
def dk_Value.d:TFD:=D0 1 dk_Value.m [.c 2 1024 9 true,.c 3 1025 3 true]
def dk_Value.F (it:Itv):OT:=dk_Value.d.run dk_Value.E [(.ag (Itv.cells it))]
theorem dk_Value.F_in (it:Itv) {ρ:OT} (K:∀(v1:Flt) (h1:v1=((Flt.mk 12 0 (([]:List Int))))) (v2:Val) (h2:v2=(Db.Got.val (Db.Gots.got (Val.mk 3 0 0 0 [] [] 0 [] []) (Dk.fields (200 - ((0:Int))).toNat ((Itv.kids it)) 0 (([]:List Int)))))) (v3:Flt) (h3:v3=(Db.Got.flt (Db.Gots.got (Val.mk 3 0 0 0 [] [] 0 [] []) (Dk.fields (200 - ((0:Int))).toNat ((Itv.kids it)) 0 (([]:List Int)))))),ck (decide (Itm.bulk (Itm.of it)≤1099511627776)) (cond (!decide ((Mp.chk (Itm.of it))=(0:Int)))
  (some [(.ag [(.i .i64 0),(.u64 0),(.u64 0),(.u64 0),(.s []),(.s []),(.i .i64 0),(.sl .bs ([]:List UInt8)),(.sl .fl ([]:List Fld))]),(.ag [(.i .i64 (Mp.chk (Itm.of it))),(.i .i64 0),(.sl .is ([]:List Int))])])
  (cond (!decide ((Itv.kind it)=(6:Int)))
  (ck (decide (((([]:List Int))).length≤1099511627776)) (some [(.ag [(.i .i64 0),(.u64 0),(.u64 0),(.u64 0),(.s []),(.s []),(.i .i64 0),(.sl .bs ([]:List UInt8)),(.sl .fl ([]:List Fld))]),(.ag (Flt.cells v1))]))
  (ck (decide ((Mp.lays ((Itv.kids it))).length+((([]:List Int))).length≤536870912)&&decide (Mp.chks ((Itv.kids it))=0∧(((Itv.kids it))).length % 2=0∧0≤((0:Int))∧((0:Int))≤200)) (some [(.ag (Val.cells v2)),(.ag (Flt.cells v3))]))))=ρ):dk_Value.F it=ρ:=Eq.trans (by kernel_rfl) (K _ rfl _ rfl _ rfl)
theorem dk_Value.chk:CK 8 dk_Value.env dk_Value.d:=ckOf (by kernel_rfl)
def law31_awake.env:EV:=[(6,(dk_Item.c,dk_Item.sg)),(8,(dk_Value.c,dk_Value.sg))]
def law31_awake.E:TEnv:=envL trydGl law31_awake.env
def law31_awake.m:TM:=oS [oW (.b false) 0] (oS [oX (.bd zV [(0,1),(1,1)]) [.c (.i .i64 18),.c (.u64 1)] [6],oX (.bd zD [(0,1),(1,9)]) [.c (.s ([97]:Str)),.s 6] [7],oK (.bl .fl 1) [7] [8],oX (.bd zV [(0,1),(8,1)]) [.c (.i .i64 3),.s 8] [9],oC 6 1 2 [9] 10,oV 10 5,oE 0 5 11,oE 1 5 12,oN 1070 zI 1,oN 1071 zT 2,oT 1070 0 5 1 11,oT 1071 0 3 2 12] (oS [oX (.bd zI [(0,1)]) [.c (.i .i64 1)] [14],oC 8 1 2 [14] 15,oV 15 13,oE 0 13 16,oE 1 13 17,oN 1072 zV 3,oN 1073 zT 4,oT 1072 0 9 3 16,oT 1073 0 3 4 17] (oS [oA 1071 0 0 2 18,oL 1071 0 1 18 19,oI .eql 19 (.i .i64 0) 20,oV 20 21,oG 21 true (oA 1070 0 0 1 22),oG 21 true (oL 1070 0 1 22 23),oG 21 true (oI .eql 23 (.i .i64 6) 24),oP 21 24 false 25,oV 25 26,oG 26 true (oA 1070 0 4 1 27),oG 26 true (oL 1070 4 1 27 28),oG 26 true (oK (.k .len) [28] [29]),oG 26 true (oI .eql 29 (.i .i64 2) 30),oP 26 30 false 31,oV 31 32,oG 32 true (oA 1070 0 4 1 33),oG 32 true (oL 1070 4 1 33 34),oG 32 true (oX (.k (.ix 5)) [.s 34,.c (.i .i64 0)] [35]),oG 32 true (oK (.k (.fr 3 1 false)) [35] [36]),oG 32 true (oK (.k (.lr 1 false)) [36] [37]),oG 32 true (oI .eql 37 (.s ([97]:Str)) 38),oP 32 38 false 39,oV 39 40,oG 40 true (oA 1070 0 4 1 41),oG 40 true (oL 1070 4 1 41 42),oG 40 true (oX (.k (.ix 5)) [.s 42,.c (.i .i64 1)] [43]),oG 40 true (oK (.k (.fr 0 1 false)) [43] [44]),oG 40 true (oK (.k (.lr 1 false)) [44] [45]),oG 40 true (oI .eql 45 (.i .i64 10) 46),oP 40 46 false 47,oV 47 48,oG 48 true (oA 1070 0 4 1 49),oG 48 true (oL 1070 4 1 49 50),oG 48 true (oX (.k (.ix 5)) [.s 50,.c (.i .i64 1)] [51]),oG 48 true (oK (.k (.fr 1 1 false)) [51] [52]),oG 48 true (oK (.k (.lr 1 false)) [52] [53]),oG 48 true (oI .eql 53 (.u64 18) 54),oP 48 54 false 55,oV 55 56,oG 56 true (oA 1070 0 4 1 57),oG 56 true (oL 1070 4 1 57 58),oG 56 true (oX (.k (.ix 5)) [.s 58,.c (.i .i64 1)] [59]),oG 56 true (oK (.k (.fr 2 1 false)) [59] [60]),oG 56 true (oK (.k (.lr 1 false)) [60] [61]),oG 56 true (oK (.k .len) [61] [62]),oG 56 true (oI .eql 62 (.i .i64 8) 63),oP 56 63 false 64,oV 64 65,oG 65 true (oA 1073 0 0 4 66),oG 65 true (oL 1073 0 1 66 67),oG 65 true (oI .eql 67 (.i .i64 12) 68),oP 65 68 false 69,oV 69 0] .ret)))
def law31_awake.d:TFD:=D0 0 law31_awake.m [.t 0]
def law31_awake.F  : OT:=law31_awake.d.run law31_awake.E []
theorem law31_awake.F_in  {ρ:OT} (K:∀(v1:List Fld) (h1:v1=([(Fld.mk ([97]:Str) 18 1 0 0 [] [] 0 [] [])]:List Fld)) (v2:Flt) (h2:v2=((Dk.enc (Val.mk 3 0 0 0 [] [] 0 [] v1)).2)) (v3:Val) (h3:v3=((Dk.dec (Itm.of (Itv.mk 1 0 [] [] []))).1)) (v4:Flt) (h4:v4=((Dk.dec (Itm.of (Itv.mk 1 0 [] [] []))).2)) (v5:Int) (h5:v5=(Itm.kind ((Dk.enc (Val.mk 3 0 0 0 [] [] 0 [] v1)).1))) (v6:Bool) (h6:v6=(cond (decide ((Flt.err v2)=(0:Int))) (decide (v5=(6:Int))) false)) (v7:List Itm) (h7:v7=(Itm.kids ((Dk.enc (Val.mk 3 0 0 0 [] [] 0 [] v1)).1))) (v8:Bool) (h8:v8=(cond v6 (decide (((v7).length:Int)=(2:Int))) false)) (v9:Str) (h9:v9=(Itm.text (List.getD v7 ((0:Int)).toNat (STy.dflt .il)))) (v10:Bool) (h10:v10=(cond v8 (decide (v9=([97]:Str))) false)) (v11:Int) (h11:v11=(Itm.kind (List.getD v7 ((1:Int)).toNat (STy.dflt .il)))) (v12:Bool) (h12:v12=(cond v10 (decide (v11=(10:Int))) false)) (v13:UInt64) (h13:v13=(Itm.n (List.getD v7 ((1:Int)).toNat (STy.dflt .il)))) (v14:Bool) (h14:v14=(cond v12 (decide (v13=(18:UInt64))) false)) (v15:List UInt8) (h15:v15=(Itm.bytes (List.getD v7 ((1:Int)).toNat (STy.dflt .il)))) (v16:Bool) (h16:v16=(cond v14 (decide (((v15).length:Int)=(8:Int))) false)) (v17:Bool) (h17:v17=(cond v16 (decide ((Flt.err v4)=(12:Int))) false)),ck (decide (Fld.bulk (Fld.of [] (Val.mk 3 0 0 0 [] [] 0 [] v1))≤1048576)) (ck (decide (Itm.bulk (Itm.of (Itv.mk 1 0 [] [] []))≤1048576)) (ck (!(decide ((Flt.err v2)=(0:Int))) || (decide ((Flt.err v2)=(0:Int)))) (ck (!(decide ((Flt.err v2)=(0:Int))) || (decide ((Flt.err v2)=(0:Int)))) (ck (!(decide ((Flt.err v2)=(0:Int))) || (decide ((Flt.err v2)=(0:Int)))) (ck (!v6 || v6) (ck (!v6 || v6) (ck (!v6 || v6) (ck (!v6 || v6) (ck (!v8 || v8) (ck (!v8 || (v8&&(idxOK (0:Int) (v7).length))) (ck (!v8 || v8) (ck (!v8 || v8) (ck (!v8 || v8) (ck (!v8 || v8) (ck (!v10 || v10) (ck (!v10 || (v10&&(idxOK (1:Int) (v7).length))) (ck (!v10 || v10) (ck (!v10 || v10) (ck (!v10 || v10) (ck (!v10 || v10) (ck (!v12 || v12) (ck (!v12 || (v12&&(idxOK (1:Int) (v7).length))) (ck (!v12 || v12) (ck (!v12 || v12) (ck (!v12 || v12) (ck (!v12 || v12) (ck (!v14 || v14) (ck (!v14 || (v14&&(idxOK (1:Int) (v7).length))) (ck (!v14 || v14) (ck (!v14 || v14) (ck (!v14 || v14) (ck (!v14 || v14) (ck (!v14 || v14) (ck (!v16 || v16) (ck (!v16 || v16) (ck (!v16 || v16) (some [(.b v17)])))))))))))))))))))))))))))))))))))))=ρ):law31_awake.F  = ρ:=Eq.trans (by kernel_rfl) (K _ rfl _ rfl _ rfl _ rfl _ rfl _ rfl _ rfl _ rfl _ rfl _ rfl _ rfl _ rfl _ rfl _ rfl _ rfl _ rfl _ rfl)
theorem law31_awake.chk:CK 4 law31_awake.env law31_awake.d:=ckOf (by kernel_rfl)
end
end Go.Eng
namespace Go.Eng
open Go.IntWalk
theorem utf_is.goal (r:Int):utf_is.F r=some [.b (Utf.isRune r)]:=by
 refine utf_is.F_in r ?_
 intro v1 h1 v2 h2 v3 h3
 subst h1 h2 h3
 by_cases a:0≤r <;> by_cases b:r≤1114111 <;> by_cases c:r<55296 <;> simp [ck,a,b,c,Utf.isRune]
theorem and192:∀n,n<256→((n &&& 192=128) ↔ (128≤n∧n<192)):=by decide +kernel
theorem and63:∀n,n<256→(128≤n∧n<192)→n &&& 63=n - 128:=by decide +kernel
theorem and31:∀n,n<256→(192≤n∧n<224)→n &&& 31=n - 192:=by decide +kernel
theorem and15:∀n,n<256→(224≤n∧n<240)→n &&& 15=n - 224:=by decide +kernel
theorem and7:∀n,n<256→(240≤n∧n<248)→n &&& 7=n - 240:=by decide +kernel
theorem u8lt (c:UInt8):c.toNat<256:=by have:=c.toNat_lt;simpa using this
theorem cont_byte (c:UInt8):decide ((c &&& (192:UInt8))=(128:UInt8))=decide (128≤c.toNat∧c.toNat<192):=by
 have h:=and192 c.toNat (u8lt c)
 rw [Bool.eq_iff_iff]
 simp only [decide_eq_true_eq]
 rw [←h,←UInt8.toNat_inj,UInt8.toNat_and]
 exact Iff.rfl
theorem low6 (c:UInt8) (h:128≤c.toNat∧c.toNat<192):((c &&& (63:UInt8)).toNat:Int)=((c.toNat - 128:Nat):Int):=by
 rw [UInt8.toNat_and]
 exact congrArg _ (and63 c.toNat (u8lt c) h)
def mres (r:Option Nat) (more least:Nat):OT:=match r with
 | some r=>if r<least∨Utf.isRune r=false then some [.i .i64 0,.i .i64 0] else some [.i .i64 r,.i .i64 (more+1:Int)]
 | none=>some [.i .i64 0,.i .i64 0]
theorem mres_eq (c:Nat) (more least:Nat) (l:Str):mres (Utf.cont c more l) more least=some [.i .i64 (Utf.multi c more least l).1,.i .i64 (Utf.multi c more least l).2]:=by
 unfold mres Utf.multi
 cases Utf.cont c more l with
 | none=>rfl
 | some r=>simp only;split <;> rfl
theorem utf_Rune.end_ (r:Nat) (more least:Nat) (hm:more<8) :
  (ck (!(!(decide ((r:Int)<(least:Int)))) || (!(decide ((r:Int)<(least:Int))))) (ck (!(!(decide ((r:Int)<(least:Int)))) || (!(decide ((r:Int)<(least:Int))))) (ck ((decide ((r:Int)<(least:Int))) || (!(decide ((r:Int)<(least:Int))))) (cond (cond (decide ((r:Int)<(least:Int))) true (!(Utf.isRune r)))
  (utf_Rune.l1)
  (some [(.i .i64 (r:Int)),(.i .i64 (IntKind.i64.wrap ((more:Int)+(1:Int))))])))))=mres (some r) more least:=by
 simp only [Bool.not_or_self,Bool.or_not_self,ck_true]
 rw [i64_in _ (by omega),utf_Rune.l1_eq]
 unfold mres
 by_cases h:r<least
 ·simp [h]
 ·simp only [show ¬((r:Int)<(least:Int)) by omega,decide_false,cond_false,h,false_or]
  cases Utf.isRune r <;> simp
theorem utf_Rune.l3_ok (b:Str) (at_:Nat) (more least:Nat) (hm:more<8) (hb:b.length≤1099511627776) (hlt:at_+more<b.length):∀(k i r:Nat),i+k=more+1→r<2 ^ (10+6 * i) →
  utf_Rune.l3 b at_ r more least i=mres (Utf.cont r k (b.drop (at_+i))) more least:=by
 intro k
 induction k with
 | zero =>
  intro i r hi hr
  refine utf_Rune.l3_in _ _ _ _ _ _ ?_
  intro v1 h1 v2 h2 v3 h3 v4 h4 v5 h5 v6 h6 v7 h7
  rw [show decide ((i:Int)≤(more:Int))=false by simp;omega,cond_false]
  subst h6 h7
  rw [Utf.cont]
  exact utf_Rune.end_ r more least hm
 | succ k ih =>
  intro i r hi hr
  refine utf_Rune.l3_in _ _ _ _ _ _ ?_
  intro v1 h1 v2 h2 v3 h3 v4 h4 v5 h5 v6 h6 v7 h7
  have hw:IntKind.i64.wrap ((at_:Int)+(i:Int))=((at_+i:Nat):Int):=by rw [i64_in _ (by omega)];omega
  have hdr:=drop_cons (l:=b) (i:=at_+i) (by omega) 0
  rw [show decide ((i:Int)≤(more:Int))=true by simp;omega,cond_true,hw]
  rw [hw,Int.toNat_natCast] at h1
  rw [ck_of (idx_ok (by omega) (by omega)),hdr,←h1,Utf.cont,h2,cont_byte]
  by_cases hc:128≤v1.toNat∧v1.toNat<192
  ·rw [if_pos hc,decide_eq_true hc]
   simp only [Bool.not_true,cond_false]
   rw [ck_of (idx_ok (by omega) (by omega))]
   have hp:2 ^ (10+6 * i) * 64=2 ^ (10+6 * (i+1)):=by rw [show 10+6 * (i+1)=(10+6 * i)+6 by omega,Nat.pow_add 2 (10+6 * i) 6]
   have hp2:2 ^ (10+6 * (i+1))≤2 ^ 58:=Nat.pow_le_pow_right (by omega) (by omega)
   have hr64:r * 64+64≤2 ^ (10+6 * (i+1)):=by
    rw [←hp];have:=Nat.mul_le_mul_right 64 (Nat.succ_le_of_lt hr);omega
   have e3:v3=((r * 64:Nat):Int):=by
    rw [h3]
    have:(min (((6:UInt64)).toNat) (IntKind.i64.bits))=6:=by decide
    rw [this,i64_in _ (by simp at hp2;omega)];simp
   have e4:v4=((v1.toNat - 128:Nat):Int):=by
    rw [h4,low6 v1 hc];exact i64_in _ (by omega)
   have e5:v5=((i+1:Nat):Int):=by rw [h5,i64_in _ (by omega)];omega
   have e6:intBitsV .or .i64 v3 v4=((r * 64+(v1.toNat - 128):Nat):Int):=by
    rw [e3,e4,or_i64 _ _ (by simp at hp2;omega) (by omega)]
    have:=or_add (a:=r) (b:=v1.toNat - 128) (k:=6) (by simp;omega)
    simp at this
    rw [this]
   rw [e6,e5,ih (i+1) _ (by omega) (by omega),Nat.add_assoc]
  ·rw [if_neg hc,decide_eq_false hc]
   simp only [Bool.not_false,cond_true]
   rw [utf_Rune.l1_eq];rfl
theorem utf_Rune.j2_ok (b : Str) (at_ : Nat) (r more least : Nat) (hm : 1 ≤ more ∧ more < 8) (hb : b.length ≤ 1099511627776) (hlt : at_ < b.length) (hr : r < 1024) :
    utf_Rune.j2 b at_ r more least = mres (Utf.cont r more (b.drop (at_ + 1))) more least := by
  have hcn : ∀ (k r : Nat) (l : Str), l.length < k → Utf.cont r k l = none := by
    intro k
    induction k with
    | zero => intro r l h; omega
    | succ k ih =>
      intro r l h
      cases l with
      | nil => rfl
      | cons c l => rw [Utf.cont]; split
                    · exact ih _ _ (by simp at h; omega)
                    · rfl
  have key := fun (h : at_ + more < b.length) => utf_Rune.l3_ok b at_ more least hm.2 hb h more 1 r (by omega) (by simp; omega)
  by_cases hx : at_ + more < b.length
  · rw [← key hx]
    refine utf_Rune.j2_in _ _ _ _ _ ?_
    intro v1 h1 v2 h2 v3 h3 v4 h4 v5 h5 v6 h6 v7 h7 v8 h8 v9 h9 v10 h10
    symm
    refine utf_Rune.l3_in _ _ _ _ _ _ ?_
    intro w1 k1 w2 k2 w3 k3 w4 k4 w5 k5 w6 k6 w7 k7
    have e1 : v1 = (b.length : Int) - at_ := by rw [h1]; exact i64_in _ (by omega)
    have e2 : v2 = (b.length : Int) - at_ - 1 := by rw [h2, e1]; exact i64_in _ (by omega)
    rw [show decide (v2 < (more : Int)) = false by simp; omega, cond_false]
    have a1 : ((1 : Nat) : Int) = 1 := rfl
    simp only [a1] at k1 k2 k3 k4 k5 k6 k7 ⊢
    subst h3; subst h4; subst h5; subst h6; subst h7; subst h8; subst h9; subst h10; subst k1; subst k2; subst k3; subst k4; subst k5; subst k6; subst k7
    rfl
  · refine utf_Rune.j2_in _ _ _ _ _ ?_
    intro v1 h1 v2 h2 v3 h3 v4 h4 v5 h5 v6 h6 v7 h7 v8 h8 v9 h9 v10 h10
    have e1 : v1 = (b.length : Int) - at_ := by rw [h1]; exact i64_in _ (by omega)
    have e2 : v2 = (b.length : Int) - at_ - 1 := by rw [h2, e1]; exact i64_in _ (by omega)
    rw [show decide (v2 < (more : Int)) = true by simp; omega, cond_true, utf_Rune.l1_eq, hcn _ _ _ (by simp; omega)]
    rfl
theorem rng (lo hi n:Nat):(cond (decide ((lo:Int)≤(n:Int))) (decide ((n:Int)<(hi:Int))) false)=decide (lo≤n∧n<hi):=by
 by_cases a:lo≤n
 ·rw [show decide ((lo:Int)≤(n:Int))=true by simp;omega,cond_true,Bool.eq_iff_iff];simp;omega
 ·rw [show decide ((lo:Int)≤(n:Int))=false by simp;omega,cond_false,decide_eq_false (by omega)]
theorem utf_Rune.goal (b:Str) (at_:Int) (hp:decide (b.length≤1099511627776)=true):utf_Rune.F b at_=some [.i .i64 (Utf.runeAt b at_).1,.i .i64 (Utf.runeAt b at_).2]:=by
 have hb:b.length≤1099511627776:=of_decide_eq_true hp
 refine utf_Rune.F_in b at_ ?_
 intro v1 h1 v2 h2 v3 h3 v4 h4 v5 h5 v6 h6 v7 h7 v8 h8 v9 h9
 unfold Utf.runeAt
 by_cases h0:at_<0
 ·subst h1
  simp [h0,ck,utf_Rune.l1_eq]
 ·have hd0:decide (at_<0)=false:=decide_eq_false h0
  obtain ⟨i,rfl⟩:=Int.eq_ofNat_of_zero_le (show 0≤at_ by omega)
  rw [hd0] at h1 ⊢
  subst h1
  simp only [Bool.not_false,Bool.not_true,Bool.false_or,Bool.or_true,ck_true,cond_false,Int.toNat_natCast] at h2 ⊢
  by_cases hl:b.length≤i
  ·rw [show decide ((b.length:Int)≤(i:Int))=true by simp;omega,if_pos (.inr (by omega)),cond_true,utf_Rune.l1_eq];rfl
  ·rw [show decide ((b.length:Int)≤(i:Int))=false by simp;omega,if_neg (by omega),cond_false,ck_of (idx_ok (by omega) (by omega)),drop_cons (l:=b) (i:=i) (by omega) 0,←h2,Utf.rune]
   have hc:=u8lt v2
   have e3:v3=(v2.toNat:Int):=by rw [h3];exact i64_in _ (by omega)
   have an:∀(m:Nat),m<256→intBitsV .and .i64 v3 m=((v2.toNat &&& m:Nat):Int):=fun m h=>by rw [e3,and_i64 _ _ (by omega) (by omega)]
   have an1:v5=((v2.toNat &&& 31:Nat):Int):=h5.trans (an 31 (by omega))
   have an2:v7=((v2.toNat &&& 15:Nat):Int):=h7.trans (an 15 (by omega))
   have an3:v9=((v2.toNat &&& 7:Nat):Int):=h9.trans (an 7 (by omega))
   have e4:v4=decide (192≤v2.toNat∧v2.toNat<224):=by rw [h4,e3];exact rng 192 224 _
   have e6:v6=decide (224≤v2.toNat∧v2.toNat<240):=by rw [h6,e3];exact rng 224 240 _
   have e8:v8=decide (240≤v2.toNat∧v2.toNat<248):=by rw [h8,e3];exact rng 240 248 _
   have J:∀(r more least:Nat),1≤more∧more<8→r<1024→utf_Rune.j2 b i r more least=some [.i .i64 (Utf.multi r more least (b.drop (i+1))).1,.i .i64 (Utf.multi r more least (b.drop (i+1))).2]:=fun r more least h1 h2 =>
    (utf_Rune.j2_ok b i r more least h1 hb (by omega) h2).trans (mres_eq _ _ _ _)
   simp only [Bool.not_or_self,ck_true]
   by_cases c1:v2.toNat<128
   ·rw [if_pos c1,e3,show decide ((v2.toNat:Int)<128)=true by simp;omega,cond_true];rfl
   ·rw [if_neg c1,show decide (v3<(128:Int))=false by rw [e3];simp;omega,cond_false,e4]
    by_cases c2:192≤v2.toNat∧v2.toNat<224
    ·rw [if_pos c2,decide_eq_true c2,cond_true,an1,and31 _ hc c2];exact J _ 1 128 (by omega) (by omega)
    ·rw [if_neg c2,decide_eq_false c2,cond_false,e6]
     by_cases c3:224≤v2.toNat∧v2.toNat<240
     ·rw [if_pos c3,decide_eq_true c3,cond_true,an2,and15 _ hc c3];exact J _ 2 2048 (by omega) (by omega)
     ·rw [if_neg c3,decide_eq_false c3,cond_false,e8]
      by_cases c4:240≤v2.toNat∧v2.toNat<248
      ·rw [if_pos c4,decide_eq_true c4,cond_true,an3,and7 _ hc c4];exact J _ 3 65536 (by omega) (by omega)
      ·rw [if_neg c4,decide_eq_false c4,cond_false,utf_Rune.l1_eq];rfl
theorem Utf.rune_size (l:Str):0≤(Utf.rune l).2∧(Utf.rune l).2≤l.length:=by
 have hcl:∀(k r q:Nat) (l:Str),Utf.cont r k l=some q→k≤l.length:=by
  intro k
  induction k with
  | zero=>intro r q l _;omega
  | succ k ih =>
   intro r q l h
   cases l with
   | nil=>cases h
   | cons c l =>
    rw [Utf.cont] at h
    split at h
    ·have:=ih _ _ _ h;simp;omega
    ·cases h
 have hmu:∀(r more least:Nat) (l:Str),0≤(Utf.multi r more least l).2∧(Utf.multi r more least l).2≤l.length+1:=by
  intro r more least l
  unfold Utf.multi
  cases h:Utf.cont r more l with
  | none=>simp;omega
  | some q =>
   have:=hcl _ _ _ _ h
   simp only
   split <;> simp <;> omega
 cases l with
 | nil=>exact ⟨by decide,by decide⟩
 | cons c l =>
  unfold Utf.rune
  simp only [List.length_cons]
  split
  ·simp;omega
  ·split
   ·have:=hmu (c.toNat - 192) 1 128 l;omega
   ·split
    ·have:=hmu (c.toNat - 224) 2 2048 l;omega
    ·split
     ·have:=hmu (c.toNat - 240) 3 65536 l;omega
     ·simp;omega
theorem Utf.lookN_ge (l:Str):∀n,l.length≤n→Utf.lookN n l=Utf.lookN l.length l:=by
 have key:∀(m:Nat) (l:Str),l.length≤m→∀n,l.length≤n→Utf.lookN n l=Utf.lookN l.length l:=by
  intro m
  induction m with
  | zero =>
   intro l hl n hn
   have:l=[]:=List.length_eq_zero_iff.1 (by omega)
   subst this
   cases n with
   | zero=>rfl
   | succ n=>rfl
  | succ m ih =>
   intro l hl n hn
   cases h:l.length with
   | zero =>
    have:l=[]:=List.length_eq_zero_iff.1 h
    subst this
    cases n <;> rfl
   | succ k =>
    cases n with
    | zero=>omega
    | succ n =>
     unfold Utf.lookN
     have hs:=Utf.rune_size l
     by_cases h0:(Utf.rune l).2=0
     ·rw [if_pos h0,if_pos h0]
     ·rw [if_neg h0,if_neg h0]
      have hd:(l.drop (Utf.rune l).2.toNat).length≤k:=by simp;omega
      rw [ih _ (by simp;omega) n (by simp;omega),ih _ (by simp;omega) k hd]
 exact fun n hn=>key _ l (Nat.le_refl _) n hn
theorem Utf.look_step (l:Str) (h:(Utf.rune l).2≠0):Utf.look l=((Utf.look (l.drop (Utf.rune l).2.toNat)).1+(Utf.rune l).2.toNat,(Utf.look (l.drop (Utf.rune l).2.toNat)).2+1):=by
 have hs:=Utf.rune_size l
 unfold Utf.look
 cases hl:l.length with
 | zero=>omega
 | succ k =>
  rw [Utf.lookN,if_neg h]
  simp only
  rw [Utf.lookN_ge _ k (by simp;omega)]
theorem Utf.look_none (l:Str) (h:(Utf.rune l).2=0):Utf.look l=(0,0):=by
 unfold Utf.look
 cases l.length with
 | zero=>rfl
 | succ k=>rw [Utf.lookN,if_pos h]
theorem Utf.runeAt_nat (b:Str) (i:Nat) (h:i<b.length):Utf.runeAt b i=Utf.rune (b.drop i):=by
 unfold Utf.runeAt;rw [if_neg (by omega),Int.toNat_natCast]
theorem utf_look.l1_ok (b:Str) (hb:b.length≤1099511627776):∀(m i k:Nat),b.length - i≤m→i≤b.length→k≤i →
  utf_look.l1 b i k=some [.i .i64 ((i+(Utf.look (b.drop i)).1:Nat):Int),.i .i64 ((k+(Utf.look (b.drop i)).2:Nat):Int)]:=by
 intro m
 induction m with
 | zero =>
  intro i k hm hi hk
  refine utf_look.l1_in _ _ _ ?_
  intro v1 h1 v2 h2
  rw [show decide ((i:Int)<(b.length:Int))=false by simp;omega,cond_false,utf_look.j2_eq,List.drop_of_length_le (by omega)]
  rfl
 | succ m ih =>
  intro i k hm hi hk
  by_cases hlt:i<b.length
  ·refine utf_look.l1_in _ _ _ ?_
   intro v1 h1 v2 h2
   rw [Utf.runeAt_nat b i hlt] at h1 ⊢
   have hs:=Utf.rune_size (b.drop i)
   rw [List.length_drop] at hs
   rw [show decide ((i:Int)<(b.length:Int))=true by simp;omega,cond_true,ck_of (decide_eq_true hb)]
   by_cases h0:(Utf.rune (b.drop i)).2=0
   ·rw [decide_eq_true h0,cond_true,utf_look.j2_eq,Utf.look_none _ h0];rfl
   ·rw [decide_eq_false h0,cond_false,Utf.look_step _ h0]
    have e1:v1=((i+(Utf.rune (b.drop i)).2.toNat:Nat):Int):=by rw [h1,i64_in _ (by omega)];omega
    have e2:v2=((k+1:Nat):Int):=by rw [h2,i64_in _ (by omega)];omega
    rw [e1,e2,ih _ _ (by omega) (by omega) (by omega),List.drop_drop]
    simp only [Option.some.injEq,List.cons.injEq,TV.i.injEq,true_and,and_true]
    exact ⟨by omega,by omega⟩
  ·refine utf_look.l1_in _ _ _ ?_
   intro v1 h1 v2 h2
   rw [show decide ((i:Int)<(b.length:Int))=false by simp;omega,cond_false,utf_look.j2_eq,List.drop_of_length_le (by omega)]
   rfl
theorem utf_look.goal (b:Str) (hp:decide (b.length≤1099511627776)=true):utf_look.F b=some [.i .i64 ((Utf.look b).1:Int),.i .i64 ((Utf.look b).2:Int)]:=by
 rw [utf_look.F_eq]
 have:=utf_look.l1_ok b (of_decide_eq_true hp) b.length 0 0 (by omega) (by omega) (by omega)
 simpa using this
theorem utf_Check.goal (b:Str) (hp:decide (b.length≤1099511627776)=true):utf_Check.F b=some [.i .i64 ((Utf.look b).1:Int),.b (Utf.whole b)]:=by
 have e:decide (((Utf.look b).1:Int)=(b.length:Int))=Utf.whole b:=by unfold Utf.whole;rw [Bool.eq_iff_iff];simp;omega
 rw [utf_Check.F_eq,ck_of hp,e]
theorem ref2_Rune.end_ (r:Nat) (more least:Nat) {v7 v9:Bool} (h7:v7=(cond (decide ((r:Int)<(least:Int))) true (decide ((1114111:Int)<(r:Int))))) (h9:v9=(cond (decide ((55296:Int)≤(r:Int))) (decide ((r:Int)≤(57343:Int))) false)) :
  cond (cond v7 true v9)
  (some [(.i .i64 (0:Int)),(.i .i64 (0:Int))])
  (some [(.i .i64 (r:Int)),(.i .i64 ((more+1:Nat):Int))])=mres (some r) more least:=by
 have e:cond v7 true v9=decide (r<least∨Utf.isRune r=false):=by
  subst h7 h9
  unfold Utf.isRune
  rw [Bool.eq_iff_iff]
  by_cases a:r<least
  ·simp [a]
  ·by_cases b:1114111<r
   ·simp [a,show (1114111:Int)<(r:Int) by omega] <;> omega
   ·by_cases c:55296≤r
    ·simp [a,show ¬(1114111:Int)<(r:Int) by omega,show (55296:Int)≤(r:Int) by omega] <;> omega
    ·simp [a,show ¬(1114111:Int)<(r:Int) by omega,show ¬(55296:Int)≤(r:Int) by omega] <;> omega
 rw [e]
 unfold mres
 by_cases h:r<least∨Utf.isRune r=false
 ·rw [decide_eq_true h];simp only [h,if_true,cond_true]
 ·rw [decide_eq_false h];simp only [h,if_false,cond_false];rfl
theorem ck6 (a b c:Bool) (hc:c=(!a&&b)):(!(!a) || ((!a)&&(!b || c)))=true:=by subst hc;cases a <;> cases b <;> rfl
theorem ref2_Rune.l2_ok (b:Str) (at_:Nat) (more least:Nat) (hm:more<8) (hb:b.length≤1099511627776) (hlt:at_+more<b.length):∀(k i r:Nat),i+k=more+1→r<2 ^ (10+6 * i) →
  ref2_Rune.l2 b at_ ((more+1:Nat):Int) r least i=mres (Utf.cont r k (b.drop (at_+i))) more least:=by
 intro k
 induction k with
 | zero =>
  intro i r hi hr
  refine ref2_Rune.l2_in _ _ _ _ _ _ ?_
  intro v1 h1 v2 h2 v3 h3 v4 h4 v5 h5 v6 h6 v7 h7 v8 h8 v9 h9
  rw [show decide ((i:Int)<((more+1:Nat):Int))=false by simp;omega,cond_false]
  simp only [Bool.not_or_self,Bool.or_not_self,ck_true]
  rw [ck_of (ck6 _ _ _ h8),Utf.cont]
  exact ref2_Rune.end_ r more least h7 h9
 | succ k ih =>
  intro i r hi hr
  refine ref2_Rune.l2_in _ _ _ _ _ _ ?_
  intro v1 h1 v2 h2 v3 h3 v4 h4 v5 h5 v6 h6 v7 h7 v8 h8 v9 h9
  have hw:IntKind.i64.wrap ((at_:Int)+(i:Int))=((at_+i:Nat):Int):=by rw [i64_in _ (by omega)];omega
  have hdr:=drop_cons (l:=b) (i:=at_+i) (by omega) 0
  have hu:=u8lt v1
  rw [show decide ((i:Int)<((more+1:Nat):Int))=true by simp;omega,cond_true,hw]
  rw [hw,Int.toNat_natCast] at h1
  have e2:v2=(v1.toNat:Int):=by rw [h2];exact i64_in _ (by omega)
  have e3:v3=!decide (128≤v1.toNat∧v1.toNat<192):=by
   rw [h3,e2,Bool.eq_iff_iff]
   by_cases a:v1.toNat<128
   ·simp [a];omega
   ·simp [show ¬(v1.toNat:Int)<128 by omega];omega
  simp only [Bool.not_or_self,Bool.or_not_self,ck_true]
  rw [ck_of (idx_ok (by omega) (by omega)),hdr,←h1,Utf.cont,e3]
  by_cases hc:128≤v1.toNat∧v1.toNat<192
  ·rw [if_pos hc,decide_eq_true hc]
   simp only [Bool.not_true,cond_false]
   have hp:2 ^ (10+6 * i) * 64=2 ^ (10+6 * (i+1)):=by rw [show 10+6 * (i+1)=(10+6 * i)+6 by omega,Nat.pow_add 2 (10+6 * i) 6]
   have hp2:2 ^ (10+6 * (i+1))≤2 ^ 58:=Nat.pow_le_pow_right (by omega) (by omega)
   have hr64:r * 64+64≤2 ^ (10+6 * (i+1)):=by
    rw [←hp];have:=Nat.mul_le_mul_right 64 (Nat.succ_le_of_lt hr);omega
   simp at hp2
   have e4:v4=((r * 64:Nat):Int):=by rw [h4,i64_in _ (by omega)];simp
   have e5:v5=((r * 64+(v1.toNat - 128):Nat):Int):=by
    rw [h5,e4,e2,i64_in (((r * 64:Nat):Int)+(v1.toNat:Int)) (by omega),i64_in _ (by omega)];omega
   have e6:v6=((i+1:Nat):Int):=by rw [h6,i64_in _ (by omega)];omega
   rw [e5,e6,ih (i+1) _ (by omega) (by omega),Nat.add_assoc]
  ·rw [if_neg hc,decide_eq_false hc]
   simp only [Bool.not_false,cond_true]
   rfl
theorem Utf.cont_short:∀(k r:Nat) (l:Str),l.length<k→Utf.cont r k l=none:=by
 intro k
 induction k with
 | zero=>intro r l h;omega
 | succ k ih =>
  intro r l h
  cases l with
  | nil=>rfl
  | cons c l =>
   rw [Utf.cont]
   split
   ·exact ih _ _ (by simp at h;omega)
   ·rfl
theorem ref2_Rune.j1_ok (b:Str) (at_:Nat) (r more least:Nat) (hm:1≤more∧more<8) (hb:b.length≤1099511627776) (hlt:at_<b.length) (hr:r<1024) :
  ref2_Rune.j1 b at_ ((more+1:Nat):Int) r least=mres (Utf.cont r more (b.drop (at_+1))) more least:=by
 refine ref2_Rune.j1_in _ _ _ _ _ ?_
 intro v1 h1
 have e1:v1=(b.length:Int) - at_:=by rw [h1];exact i64_in _ (by omega)
 by_cases hx:at_+more<b.length
 ·rw [show decide (v1<((more+1:Nat):Int))=false by rw [e1];simp;omega,cond_false]
  exact ref2_Rune.l2_ok b at_ more least hm.2 hb hx more 1 r (by omega) (by simp;omega)
 ·rw [show decide (v1<((more+1:Nat):Int))=true by rw [e1];simp;omega,cond_true,Utf.cont_short _ _ _ (by simp;omega)]
  rfl
theorem ref2_Rune.goal (b:Str) (at_:Int) (hp:decide (b.length≤1099511627776)=true):ref2_Rune.F b at_=some [.i .i64 (Utf.runeAt b at_).1,.i .i64 (Utf.runeAt b at_).2]:=by
 have hb:b.length≤1099511627776:=of_decide_eq_true hp
 refine ref2_Rune.F_in b at_ ?_
 intro v1 h1 v2 h2 v3 h3 v4 h4 v5 h5 v6 h6 v7 h7 v8 h8 v9 h9
 unfold Utf.runeAt
 simp only [Bool.not_or_self,Bool.or_not_self,Bool.and_self,ck_true]
 by_cases h0:at_<0
 ·rw [h1,decide_eq_true h0,cond_true,cond_true,if_pos (.inl h0)]
 ·rw [h1,decide_eq_false h0,cond_false]
  obtain ⟨i,rfl⟩:=Int.eq_ofNat_of_zero_le (show 0≤at_ by omega)
  rw [Int.toNat_natCast] at h2
  by_cases hl:b.length≤i
  ·rw [show decide ((b.length:Int)≤(i:Int))=true by simp;omega,if_pos (.inr (by omega)),cond_true]
  ·rw [show decide ((b.length:Int)≤(i:Int))=false by simp;omega,if_neg (by omega),cond_false,ck_of (idx_ok (by omega) (by omega)),Int.toNat_natCast,drop_cons (l:=b) (i:=i) (by omega) 0,←h2,Utf.rune]
   have hc:=u8lt v2
   have e3:v3=(v2.toNat:Int):=by rw [h3];exact i64_in _ (by omega)
   have e4:v4=decide (192≤v2.toNat∧v2.toNat<224):=by rw [h4,e3];exact rng 192 224 _
   have e6:v6=decide (224≤v2.toNat∧v2.toNat<240):=by rw [h6,e3];exact rng 224 240 _
   have e8:v8=decide (240≤v2.toNat∧v2.toNat<248):=by rw [h8,e3];exact rng 240 248 _
   have J:∀(r more least:Nat),1≤more∧more<8→r<1024→ref2_Rune.j1 b i ((more+1:Nat):Int) r least=some [.i .i64 (Utf.multi r more least (b.drop (i+1))).1,.i .i64 (Utf.multi r more least (b.drop (i+1))).2]:=fun r more least h1 h2 =>
    (ref2_Rune.j1_ok b i r more least h1 hb (by omega) h2).trans (mres_eq _ _ _ _)
   by_cases c1:v2.toNat<128
   ·rw [if_pos c1,e3,show decide ((v2.toNat:Int)<128)=true by simp;omega,cond_true]
   ·rw [if_neg c1,show decide (v3<(128:Int))=false by rw [e3];simp;omega,cond_false,e4]
    by_cases c2:192≤v2.toNat∧v2.toNat<224
    ·rw [if_pos c2,decide_eq_true c2,cond_true,show v5=((v2.toNat - 192:Nat):Int) by rw [h5,e3,i64_in _ (by omega)];omega];exact J _ 1 128 (by omega) (by omega)
    ·rw [if_neg c2,decide_eq_false c2,cond_false,e6]
     by_cases c3:224≤v2.toNat∧v2.toNat<240
     ·rw [if_pos c3,decide_eq_true c3,cond_true,show v7=((v2.toNat - 224:Nat):Int) by rw [h7,e3,i64_in _ (by omega)];omega];exact J _ 2 2048 (by omega) (by omega)
     ·rw [if_neg c3,decide_eq_false c3,cond_false,e8]
      by_cases c4:240≤v2.toNat∧v2.toNat<248
      ·rw [if_pos c4,decide_eq_true c4,cond_true,show v9=((v2.toNat - 240:Nat):Int) by rw [h9,e3,i64_in _ (by omega)];omega];exact J _ 3 65536 (by omega) (by omega)
      ·rw [if_neg c4,decide_eq_false c4,cond_false]
theorem ref2_Check.l1_ok (b:Str) (hb:b.length≤1099511627776):∀(m i:Nat),b.length - i≤m→i≤b.length →
  ref2_Check.l1 b i=some [.i .i64 ((i+(Utf.look (b.drop i)).1:Nat):Int),.b (decide (i+(Utf.look (b.drop i)).1=b.length))]:=by
 intro m
 induction m with
 | zero =>
  intro i hm hi
  refine ref2_Check.l1_in _ _ ?_
  intro v1 h1
  rw [show decide ((i:Int)<(b.length:Int))=false by simp;omega,cond_false,List.drop_of_length_le (by omega)]
  have:(Utf.look []).1=0:=by decide
  rw [this,decide_eq_true (show i+0=b.length by omega),show i+0=b.length by omega]
 | succ m ih =>
  intro i hm hi
  refine ref2_Check.l1_in _ _ ?_
  intro v1 h1
  by_cases hlt:i<b.length
  ·rw [Utf.runeAt_nat b i hlt] at h1 ⊢
   have hs:=Utf.rune_size (b.drop i)
   rw [List.length_drop] at hs
   rw [show decide ((i:Int)<(b.length:Int))=true by simp;omega,cond_true,ck_of (decide_eq_true hb)]
   by_cases h0:(Utf.rune (b.drop i)).2=0
   ·rw [decide_eq_true h0,cond_true,Utf.look_none _ h0,decide_eq_false (show ¬i+(0,0).1=b.length by simp;omega)];rfl
   ·rw [decide_eq_false h0,cond_false,Utf.look_step _ h0]
    have e1:v1=((i+(Utf.rune (b.drop i)).2.toNat:Nat):Int):=by rw [h1,i64_in _ (by omega)];omega
    rw [e1,ih _ (by omega) (by omega),List.drop_drop]
    simp only [Option.some.injEq,List.cons.injEq,TV.i.injEq,TV.b.injEq,true_and,and_true]
    refine ⟨by omega,?_⟩
    rw [Bool.eq_iff_iff];simp;omega
  ·rw [show decide ((i:Int)<(b.length:Int))=false by simp;omega,cond_false,List.drop_of_length_le (by omega)]
   have:(Utf.look []).1=0:=by decide
   rw [this,decide_eq_true (show i+0=b.length by omega),show i+0=b.length by omega]
theorem ref2_Check.goal (b:Str) (hp:decide (b.length≤1099511627776)=true):ref2_Check.F b=some [.i .i64 ((Utf.look b).1:Int),.b (Utf.whole b)]:=by
 rw [ref2_Check.F_eq]
 have:=ref2_Check.l1_ok b (of_decide_eq_true hp) b.length 0 (by omega) (by omega)
 simpa [Utf.whole] using this
theorem ref2_Whole.goal (s:Str) (hp:decide (s.length≤1099511627776)=true):ref2_Whole.F s=some [.b (Utf.whole s)]:=by
 rw [ref2_Whole.F_eq,ck_of (big_len (of_decide_eq_true hp)),ck_of hp]
end Go.Eng
namespace Go.Eng
open Go.IntWalk
theorem sl_IndexByte.goal (s:Str) (c:UInt8):sl_IndexByte.F s c=some [.i .i64 (Lib.indexByte s c)]:=sl_IndexByte.F_eq s c
theorem sl_Index.goal (s t:Str) (hp:decide (t.length=1)=true):sl_Index.F s t=some [.i .i64 (Lib.indexByte s (t.getD 0 0))]:=by
 have hl:t.length=1:=of_decide_eq_true hp
 refine sl_Index.F_in s t ?_
 intro v1 h1 v2 h2
 have e0:decide ((t.length:Int)=0)=false:=decide_eq_false (by omega)
 have e1:decide ((t.length:Int)=1)=true:=decide_eq_true (by omega)
 rw [e0] at h1 ⊢
 simp only [Bool.not_false,Bool.not_true,Bool.false_or,Bool.and_self,ck_true,cond_false] at h1 ⊢
 by_cases hs:t=s
 ·subst hs
  rw [h1,decide_eq_true rfl,cond_true]
  obtain ⟨c,rfl⟩:∃c,t=[c]:=by
   match t,hl with
   | [c],_=>exact ⟨c,rfl⟩
  simp [Lib.indexByte]
 ·rw [h1,decide_eq_false hs,cond_false,e1,cond_true,ck_of (idx_ok (by omega) (by omega)),h2];rfl
theorem st_Index.goal (s t:Str) (hp:decide (t.length=1)=true):st_Index.F s t=some [.i .i64 (Lib.indexByte s (t.getD 0 0))]:=by
 refine st_Index.F_in s t ?_
 intro v1 h1
 rw [ck_of hp,h1]
theorem st_Contains.goal (s t:Str) (hp:decide (t.length=1)=true):st_Contains.F s t=some [.b (decide (0≤Lib.indexByte s (t.getD 0 0)))]:=by
 refine st_Contains.F_in s t ?_
 intro v1 h1
 rw [ck_of hp,h1]
theorem tree_Name.goal (k:Int):tree_Name.F k=some [.s (Tree.name k)]:=by
 refine tree_Name.F_in k ?_
 intro v1 h1 v2 h2
 unfold Tree.name
 by_cases a:k=127
 ·rw [if_pos a,decide_eq_true a];rfl
 ·rw [if_neg a,decide_eq_false a,cond_false]
  by_cases b:k=255
  ·rw [if_pos b,decide_eq_true b];rfl
  ·rw [if_neg b,decide_eq_false b,cond_false]
   simp only [Bool.not_or_self,Bool.or_not_self,ck_true]
   by_cases c:k<0∨20≤k
   ·rw [if_pos c,show v1=true by rw [h1];by_cases d:k<0 <;> simp [d];omega];rfl
   ·rw [if_neg c,show v1=false by rw [h1];by_cases d:k<0 <;> simp [d] <;> omega,cond_false,ck_of (idx_ok (by omega) (by omega)),ck_of (by simp;omega),h2];rfl
theorem Tree.name_none (k:Int) (h:k ∉ Tree.kinds):Tree.name k=[]:=by
 simp only [Tree.kinds,List.mem_cons,List.not_mem_nil,not_or] at h
 unfold Tree.name
 rw [if_neg (by omega),if_neg (by omega)]
 by_cases c:k<0∨20≤k
 ·rw [if_pos c]
 ·have:k=0:=by omega
  subst this
  rfl
end Go.Eng
namespace Go.Eng
open Go.IntWalk
theorem indexByte_contains (c:UInt8):∀s:Str,decide (0≤Lib.indexByte s c)=s.contains c
 | []=>by simp [Lib.indexByte]
 | b :: l=>by
  have ih:=indexByte_contains c l
  have hge:=Lib.indexByte_ge l c
  rw [List.contains_cons,←ih]
  rw [Lib.indexByte]
  by_cases h:b=c
  ·subst h;simp
  ·rw [if_neg (by simpa using h),show (c == b)=false by rw [beq_eq_false_iff_ne];exact fun e=>h e.symm,Bool.false_or]
   by_cases h1:Lib.indexByte l c=-1
   ·rw [h1];rfl
   ·rw [if_neg (by simpa using h1),decide_eq_true (by omega),decide_eq_true (by omega)]
theorem tree_whole.goal (s:Str) (plain:Bool) (hp:decide (s.length≤1099511627776)=true):tree_whole.F s plain=some [.b (Tree.wholeT s plain)]:=by
 have e:decide (0≤Lib.indexByte s (([0]:Str).getD 0 0))=Utf.zero s:=indexByte_contains 0 s
 refine tree_whole.F_in s plain ?_
 intro v1 h1 v2 h2
 rw [ck_of (big_len (of_decide_eq_true hp)),ck_of hp]
 rw [e] at h1
 subst h1 h2
 unfold Tree.wholeT
 cases Utf.whole s <;> cases plain <;> cases Utf.zero s <;> rfl
theorem tree_fields.goal (v:Val):tree_fields.F v=some [.b (Tree.fieldsOK v)]:=by
 have J2:∀(x:Bool) (v:Val),tree_fields.j2 x v=some [.b (x&&decide (v.bits=0)&&decide (v.high=0)&&decide (v.low=0)&&decide (v.text=[])&&decide (v.more=[])&&decide (v.sub=0)&&decide (v.bytes=[])&&decide (v.kids=[]))]:=by
  intro x v
  refine tree_fields.j2_in x v ?_
  intro v1 h1 v2 h2 v3 h3 v4 h4 v5 h5 v6 h6 v7 h7 v8 h8 v9 h9 v10 h10
  simp only [Bool.not_or_self,ck_true]
  have e1:decide (v7=0)=decide (v.bytes=[]):=by rw [h7,Bool.eq_iff_iff];simp
  have e2:decide (v9=0)=decide (v.kids=[]):=by rw [h9,Bool.eq_iff_iff];simp
  rw [e1] at h8
  rw [e2] at h10
  subst h1 h2 h3 h4 h5 h6 h8 h10
  simp only [Bool.cond_false_right]
 have J3:∀(x0:Bool) (x1:Int) (x2:Bool) (x3:Val),tree_fields.j3 x0 x1 x2 x3=cond x2
  (tree_fields.j2 x0 (Val.mk (Val.kind x3) (Val.bits x3) (Val.high x3) (Val.low x3) ([]:Str) (Val.more x3) (Val.sub x3) (Val.bytes x3) (Val.kids x3)))
  (cond (decide (x1=(11:Int)))
  (tree_fields.j2 x0 (Val.mk (Val.kind x3) (Val.bits x3) (Val.high x3) (Val.low x3) ([]:Str) ([]:Str) (Val.sub x3) (Val.bytes x3) (Val.kids x3)))
  (cond (decide (x1=(5:Int)))
  (tree_fields.j2 (decide (0≤x3.sub)&&decide (x3.sub≤255)) (Val.mk (Val.kind x3) (Val.bits x3) (Val.high x3) (Val.low x3) (Val.text x3) (Val.more x3) (0:Int) ([]:List UInt8) (Val.kids x3)))
  (cond (decide (x1=(7:Int)))
  (tree_fields.j2 (decide (x3.bytes.length=12)) (Val.mk (Val.kind x3) (Val.bits x3) (Val.high x3) (Val.low x3) (Val.text x3) (Val.more x3) (Val.sub x3) ([]:List UInt8) (Val.kids x3)))
  (cond (decide (x1=(12:Int)))
  (tree_fields.j2 (decide (x3.bytes.length=12)) (Val.mk (Val.kind x3) (Val.bits x3) (Val.high x3) (Val.low x3) ([]:Str) (Val.more x3) (Val.sub x3) ([]:List UInt8) (Val.kids x3)))
  (cond (decide (x1=(3:Int)))
  (tree_fields.j4 x0 x1 (decide (x1=(3:Int))) x3)
  (tree_fields.j4 x0 x1 (decide (x1=(4:Int))) x3)))))):=by
  intro x0 x1 x2 x3
  refine tree_fields.j3_in x0 x1 x2 x3 ?_
  intro v1 h1 v2 h2
  have e:decide (v2=12)=decide (x3.bytes.length=12):=by rw [h2,Bool.eq_iff_iff];simp;omega
  simp only [Bool.not_or_self,ck_true,e,h1,Bool.cond_false_right]
 obtain ⟨k,b,hi,lo,t,m,s,y,ks⟩:=v
 simp only [tree_fields.F_eq,tree_fields.j1_eq,J3,tree_fields.j4_eq,J2,Tree.fieldsOK,Tree.hasN]
 by_cases a1:k=1
 ·subst a1;simp;grind
 by_cases a2:k=2
 ·subst a2;simp;grind
 by_cases a3:k=3
 ·subst a3;simp;grind
 by_cases a4:k=4
 ·subst a4;simp;grind
 by_cases a5:k=5
 ·subst a5;simp;grind
 by_cases a7:k=7
 ·subst a7;simp;grind
 by_cases a8:k=8
 ·subst a8;simp;grind
 by_cases a9:k=9
 ·subst a9;simp;grind
 by_cases a11:k=11
 ·subst a11;simp;grind
 by_cases a12:k=12
 ·subst a12;simp;grind
 by_cases a13:k=13
 ·subst a13;simp;grind
 by_cases a14:k=14
 ·subst a14;simp;grind
 by_cases a15:k=15
 ·subst a15;simp;grind
 by_cases a16:k=16
 ·subst a16;simp;grind
 by_cases a17:k=17
 ·subst a17;simp;grind
 by_cases a18:k=18
 ·subst a18;simp;grind
 by_cases a19:k=19
 ·subst a19;simp;grind
 simp [a1,a2,a3,a4,a5,a7,a8,a9,a11,a12,a13,a14,a15,a16,a17,a18,a19];grind
end Go.Eng
namespace Go.Eng
open Go.IntWalk
theorem TreeAx.lens (v:Val) (n:Str) (m:Nat) (h:Fld.bulk (Fld.of n v)≤m):v.text.length≤m∧v.more.length≤m∧n.length≤m∧v.bytes.length≤m∧Fld.bulks v.kids+1≤m:=by
 simp only [Fld.of,Fld.bulk] at h;omega
theorem Fld.bulk_pos (f:Fld):1≤f.bulk:=by cases f;simp only [Fld.bulk];omega
theorem Fld.bulks_get:∀(l:List Fld) (i:Nat) (d:Fld),i<l.length→(l.getD i d).bulk≤Fld.bulks l
 | f :: l,0,d,_=>by simp [Fld.bulks]
 | f :: l,i+1,d,h=>by
  have:=Fld.bulks_get l i d (by simpa using h)
  simp only [List.getD_cons_succ,Fld.bulks];omega
theorem Fld.bulks_len:∀(l:List Fld),l.length≤Fld.bulks l
 | []=>by simp
 | f :: l=>by have:=Fld.bulks_len l;have:=Fld.bulk_pos f;simp only [List.length_cons,Fld.bulks];omega
theorem Fld.of_eta (f:Fld):Fld.of f.name f.val=f:=by cases f;rfl
theorem Fld.bulk_val (f:Fld):Fld.bulk (Fld.of [] f.val)≤f.bulk:=by cases f;simp only [Fld.of,Fld.val,Fld.bulk,Fld.kind,Fld.bits,Fld.high,Fld.low,Fld.text,Fld.more,Fld.sub,Fld.bytes,Fld.kids];simp
theorem tree_own (v:Val) (n:Str):Tree.ownN v n=(if Tree.name v.kind=[] then 5 else if Tree.fieldsOK v=false then 1 else if Tree.wholeT v.text (decide (v.kind=11))=false∨Tree.wholeT v.more (decide (v.kind=11))=false∨Tree.wholeT n true=false then 4 else 0):=by
 unfold Tree.ownN Tree.own
 grind
theorem Tree.chkF_of (n:Str) (v:Val) (p:List Int):Tree.chkF (Fld.of n v) p=if Tree.ownN v n≠0 then (p,Tree.ownN v n) else Tree.chkL v.kids 0 p:=by
 cases v;simp only [Fld.of,Tree.chkF]
theorem tree_check.l1_ok (n:Nat) (ks:List Fld) (p:List Int) (hb:Fld.bulks ks+p.length<1099511627776) (hn:Fld.bulks ks<n):∀(m i:Nat),i+m=ks.length →
  tree_check.l1 n ks (ks.length:Int) i p=some [.sl .is (Tree.chkL (ks.drop i) i p).1,.i .i64 (Tree.chkL (ks.drop i) i p).2,.sl .is p]:=by
 have hlen:=Fld.bulks_len ks
 intro m
 induction m with
 | zero =>
  intro i hi
  refine tree_check.l1_in _ _ _ _ _ ?_
  intro v1 h1 v2 h2 v3 h3 v4 h4
  rw [decide_eq_false (by omega),cond_false,List.drop_of_length_le (by omega)];rfl
 | succ m ih =>
  intro i hi
  refine tree_check.l1_in _ _ _ _ _ ?_
  intro v1 h1 v2 h2 v3 h3 v4 h4
  rw [Int.toNat_natCast] at h1
  have hg:=Fld.bulks_get ks i (STy.dflt .fl) (by omega)
  rw [←h1] at hg
  rw [Fld.of_eta] at h2 h3 ⊢
  rw [decide_eq_true (by omega),cond_true,ck_of (idx_ok (by omega) (by omega)),ck_of (big_ap (by simp;omega) (by simp;omega)),decide_eq_true (by simp;omega),decide_eq_true (by omega),Bool.and_self,ck_true,drop_cons (l:=ks) (i:=i) (by omega) (STy.dflt .fl),←h1,Tree.chkL]
  by_cases h:v3=0
  ·rw [decide_eq_true h,if_neg (by rw [h3] at h;simpa using h)]
   simp only [Bool.not_true,cond_false]
   rw [show v4=((i+1:Nat):Int) by rw [h4,i64_in _ (by omega)];omega,ih _ (by omega)]
  ·rw [decide_eq_false h,if_pos (by rw [h3] at h;simpa using h)]
   simp only [Bool.not_false,cond_true]
   rw [h2,h3]
theorem tree_check.goal (n:Nat) (v:Val) (name:Str) (path:List Int) (hp:((decide (Fld.bulk (Fld.of name v)+path.length≤1099511627776))&&decide ((Fld.bulk (Fld.of name v))<n+1))=true) :
  tree_check.F n v name path=some [.sl .is (Tree.chkF (Fld.of name v) path).1,.i .i64 (Tree.chkF (Fld.of name v) path).2,.sl .is path]:=by
 simp only [Bool.and_eq_true,decide_eq_true_eq] at hp
 obtain ⟨hp,hn⟩:=hp
 obtain ⟨b1,b2,b3,_,_⟩:=TreeAx.lens v name 1099511627776 (by omega)
 have hks:Fld.bulks v.kids<Fld.bulk (Fld.of name v):=by simp only [Fld.of,Fld.bulk];omega
 refine tree_check.F_in n v name path ?_
 intro v1 h1 v2 h2 v3 h3 v4 h4
 rw [Tree.chkF_of,tree_own]
 simp only [Bool.not_or_self,Bool.or_not_self,Bool.and_self,ck_true,decide_eq_true b1,decide_eq_true b2,decide_eq_true b3,Bool.and_true]
 have hap:apOK path.length 8=true:=big_ap (by omega) (by omega)
 simp only [hap,ck_true]
 by_cases a:Tree.name v.kind=[]
 ·rw [decide_eq_true a];simp [a]
 ·rw [decide_eq_false a,cond_false]
  by_cases b:Tree.fieldsOK v=false
  ·rw [b];simp [a]
  ·have b':Tree.fieldsOK v=true:=by simpa using b
   rw [b']
   have e3:v3=decide (Tree.wholeT v.text (decide (v.kind=11))=false∨Tree.wholeT v.more (decide (v.kind=11))=false∨Tree.wholeT name true=false):=by
    subst h1 h2 h3
    cases Tree.wholeT v.text (decide (v.kind=11)) <;> cases Tree.wholeT v.more (decide (v.kind=11)) <;> cases Tree.wholeT name true <;> rfl
   rw [e3,h4]
   by_cases c:Tree.wholeT v.text (decide (v.kind=11))=false∨Tree.wholeT v.more (decide (v.kind=11))=false∨Tree.wholeT name true=false
   ·rw [decide_eq_true c];simp [a,c]
   ·rw [decide_eq_false c]
    simp only [Bool.not_true,cond_false,if_neg a,if_neg c]
    have:=tree_check.l1_ok n v.kids path (by omega) (by omega) v.kids.length 0 (by omega)
    rw [List.drop_zero] at this
    simpa using this
theorem tree_Check.goal (v:Val) (hp:decide (Fld.bulk (Fld.of [] v)≤1099511627776)=true):tree_Check.F v=some [.sl .is (Tree.chkF (Fld.of [] v) []).1,.i .i64 (Tree.chkF (Fld.of [] v) []).2]:=by
 refine tree_Check.F_in v ?_
 intro v1 h1 v2 h2
 rw [ck_of (by simpa using hp),h1,h2]
end Go.Eng
namespace Go.Eng
open Go.IntWalk
theorem Tree.same_iff (a b:Val):Tree.same a b=true ↔ a=b:=by unfold Tree.same;simp
theorem Tree.same_eq (a b:Val) (c:Bool) (h:c=true ↔ a=b):Tree.same a b=c:=by
 rw [Bool.eq_iff_iff,Tree.same_iff,h]
theorem Fld.ext_iff (a b:Fld):a=b ↔ a.name=b.name∧a.val=b.val:=by
 cases a;cases b;simp [Fld.name,Fld.val,Fld.kind,Fld.bits,Fld.high,Fld.low,Fld.text,Fld.more,Fld.sub,Fld.bytes,Fld.kids]
theorem drop_eq {α:Type} {a b:List α} {i:Nat} (ha:i<a.length) (hb:i<b.length) (d:α):a.drop i=b.drop i ↔ a.getD i d=b.getD i d∧a.drop (i+1)=b.drop (i+1):=by
 rw [drop_cons ha d,drop_cons hb d,List.cons.injEq]
theorem Val.ext_own (a b:Val):a=b ↔ Tree.ownSame a b=true∧a.kids=b.kids:=by
 cases a;cases b;simp [Tree.ownSame,and_assoc]
theorem ref17_Own.goal (a b:Val):ref17_Own.F a b=some [.b (Tree.ownSame a b)]:=by
 refine ref17_Own.F_in a b ?_
 intro v1 h1 v2 h2 v3 h3 v4 h4 v5 h5 v6 h6 v7 h7
 subst h1 h2 h3 h4 h5 h6 h7
 simp only [Bool.and_self,Bool.not_or_self,ck_true,Bool.cond_false_right]
 rfl
theorem ref17_Same.l1_ok (n:Nat) (a b:Val) (hl:a.kids.length=b.kids.length) (hb:Fld.bulks a.kids<1099511627776) (hn:Fld.bulks a.kids<n):∀(m i:Nat),i+m=a.kids.length →
  ∃c:Bool,ref17_Same.l1 n i a b=some [.b c]∧(c=true ↔ a.kids.drop i=b.kids.drop i):=by
 have hlen:=Fld.bulks_len a.kids
 intro m
 induction m with
 | zero =>
  intro i hi
  refine ⟨true,?_,by rw [List.drop_of_length_le (by omega),List.drop_of_length_le (by omega)];simp⟩
  refine ref17_Same.l1_in _ _ _ _ ?_
  intro v1 h1 v2 h2 v3 h3 v4 h4 v5 h5 v6 h6 v7 h7
  rw [decide_eq_false (by omega),cond_false]
 | succ m ih =>
  intro i hi
  obtain ⟨c,hc1,hc2⟩:=ih (i+1) (by omega)
  by_cases h:(a.kids.getD i (STy.dflt .fl))=(b.kids.getD i (STy.dflt .fl))
  ·refine ⟨c,?_,hc2.trans ⟨fun x=>(drop_eq (i:=i) (by omega) (by omega) (STy.dflt .fl)).2 ⟨h,x⟩,fun x=>((drop_eq (i:=i) (by omega) (by omega) (STy.dflt .fl)).1 x).2⟩⟩
   refine ref17_Same.l1_in _ _ _ _ ?_
   intro v1 h1 v2 h2 v3 h3 v4 h4 v5 h5 v6 h6 v7 h7
   rw [Int.toNat_natCast] at h2 h3
   have hg:=Fld.bulks_get a.kids i (STy.dflt .fl) (by omega)
   rw [←h2] at hg h
   rw [←h3] at h
   have hv:=Fld.bulk_val v2
   rw [decide_eq_true (by omega),cond_true,show v7=((i+1:Nat):Int) by rw [h7,i64_in _ (by omega)];omega,hc1,show idxOK (i:Int) a.kids.length=true from idx_ok (by omega) (by omega),show idxOK (i:Int) b.kids.length=true from idx_ok (by omega) (by omega),decide_eq_true (show Fld.bulk (Fld.of [] v2.val)<n by omega),decide_eq_true (show Fld.bulk (Fld.of [] v2.val)≤1099511627776 by omega)]
   have e5:v5=true:=by rw [h5,Tree.same_iff,h]
   rw [e5,h,decide_eq_true rfl] at h6
   rw [h,decide_eq_true rfl] at h4 ⊢
   subst h4 h6
   rfl
  ·refine ⟨false,?_,⟨fun x=>(by cases x),fun x=>(h ((drop_eq (i:=i) (by omega) (by omega) (STy.dflt .fl)).1 x).1).elim⟩⟩
   refine ref17_Same.l1_in _ _ _ _ ?_
   intro v1 h1 v2 h2 v3 h3 v4 h4 v5 h5 v6 h6 v7 h7
   rw [Int.toNat_natCast] at h2 h3
   have hg:=Fld.bulks_get a.kids i (STy.dflt .fl) (by omega)
   rw [←h2] at hg h
   rw [←h3] at h
   have hv:=Fld.bulk_val v2
   rw [decide_eq_true (by omega),cond_true,show idxOK (i:Int) a.kids.length=true from idx_ok (by omega) (by omega),show idxOK (i:Int) b.kids.length=true from idx_ok (by omega) (by omega),decide_eq_true (show Fld.bulk (Fld.of [] v2.val)<n by omega),decide_eq_true (show Fld.bulk (Fld.of [] v2.val)≤1099511627776 by omega)]
   by_cases hN:v2.name=v3.name
   ·have e5:v5=false:=by
     have:v5≠true:=by rw [h5,Ne,Tree.same_iff];exact fun e=>h ((Fld.ext_iff _ _).2 ⟨hN,e⟩)
     simpa using this
    rw [e5,decide_eq_true hN] at h6
    rw [decide_eq_true hN] at h4 ⊢
    subst h4 h6
    rfl
   ·rw [decide_eq_false hN] at h4 h6 ⊢
    subst h4 h6
    rfl
theorem ref17_Same.goal (n:Nat) (a b:Val) (hp:((decide (Fld.bulk (Fld.of [] a)≤1099511627776))&&decide ((Fld.bulk (Fld.of [] a))<n+1))=true):ref17_Same.F n a b=some [.b (Tree.same a b)]:=by
 simp only [Bool.and_eq_true,decide_eq_true_eq] at hp
 obtain ⟨hbig,hn⟩:=hp
 have hks:Fld.bulks a.kids<Fld.bulk (Fld.of [] a):=by simp only [Fld.of,Fld.bulk];omega
 refine ref17_Same.F_in n a b ?_
 intro v1 h1 v2 h2 v3 h3
 simp only [Bool.and_self,Bool.not_or_self,Bool.or_not_self,ck_true]
 by_cases hl:a.kids.length=b.kids.length
 ·obtain ⟨c,hc1,hc2⟩:=ref17_Same.l1_ok n a b hl (by omega) (by omega) a.kids.length 0 (by omega)
  rw [decide_eq_true (by omega)] at h3
  rw [List.drop_zero,List.drop_zero] at hc2
  rw [h3]
  cases ho:Tree.ownSame a b
  ·rw [Tree.same_eq a b false (by rw [Val.ext_own,ho];simp)];rfl
  ·rw [Tree.same_eq a b c (by rw [Val.ext_own,ho,hc2];simp)];exact hc1
 ·rw [decide_eq_false (by omega)] at h3
  have:v3=true:=by rw [h3];cases Tree.ownSame a b <;> rfl
  rw [this,Tree.same_eq a b false (by constructor;(· intro h;cases h);(· intro h;rw [h] at hl;exact (hl rfl).elim))];rfl
theorem Tree.depth_val (f:Fld):Tree.depth (Fld.of [] f.val)=Tree.depth f:=by cases f;rfl
theorem Tree.depth_of (n:Str) (v:Val):Tree.depth (Fld.of n v)=if v.kind=3∨v.kind=4∨v.kind=15 then Tree.depthL v.kids+1 else 0:=by cases v;rfl
theorem Tree.depthL_le:∀l:List Fld,Tree.depthL l≤Fld.bulks l∧∀f∈l,Tree.depth f≤Fld.bulk f
 | []=>by simp [Tree.depthL]
 | f :: l=>by
  obtain ⟨h1,h2⟩:=Tree.depthL_le l
  have hf:Tree.depth f≤Fld.bulk f:=by
   obtain ⟨n,k,b,h,lo,t,m,s,y,ks⟩:=f
   have:=(Tree.depthL_le ks).1
   unfold Tree.depth Fld.bulk
   split <;> omega
  refine ⟨by simp only [Tree.depthL,Fld.bulks];omega,fun g hg=>?_⟩
  rcases List.mem_cons.1 hg with rfl | hg
  ·exact hf
  ·exact h2 g hg
theorem Tree.depth_le (f:Fld):Tree.depth f≤Fld.bulk f:=(Tree.depthL_le [f]).2 f (List.mem_cons_self ..)
theorem tree_Depth.l1_ok (n:Nat) (ks:List Fld) (hb:Fld.bulks ks<1099511627776) (hn:Fld.bulks ks<n):∀(m i d:Nat),i+m=ks.length→d≤1099511627776 →
  tree_Depth.l1 n d ks (ks.length:Int) i=some [.i .i64 ((max d (Tree.depthL (ks.drop i))+1:Nat):Int)]:=by
 have hlen:=Fld.bulks_len ks
 intro m
 induction m with
 | zero =>
  intro i d hi hd
  refine tree_Depth.l1_in _ _ _ _ _ ?_
  intro v1 h1 v2 h2 v3 h3 v4 h4
  rw [decide_eq_false (by omega),cond_false,List.drop_of_length_le (by omega),h4,i64_in _ (by omega)]
  simp [Tree.depthL]
 | succ m ih =>
  intro i d hi hd
  refine tree_Depth.l1_in _ _ _ _ _ ?_
  intro v1 h1 v2 h2 v3 h3 v4 h4
  rw [Int.toNat_natCast] at h1
  have hg:=Fld.bulks_get ks i (STy.dflt .fl) (by omega)
  rw [←h1] at hg
  have hv:=Fld.bulk_val v1
  have hdv:=Tree.depth_le v1
  rw [decide_eq_true (by omega),cond_true,ck_of (idx_ok (by omega) (by omega)),decide_eq_true (show Fld.bulk (Fld.of [] v1.val)<n by omega),decide_eq_true (show Fld.bulk (Fld.of [] v1.val)≤1099511627776 by omega),Bool.and_self,ck_true,
   show v3=((i+1:Nat):Int) by rw [h3,i64_in _ (by omega)];omega,h2,Tree.depth_val,show maxI (d:Int) (Tree.depth v1:Int)=((max d (Tree.depth v1):Nat):Int) by unfold maxI;split <;> omega,ih _ _ (by omega) (by omega),drop_cons (l:=ks) (i:=i) (by omega) (STy.dflt .fl),←h1,Tree.depthL,Nat.max_assoc]
theorem tree_Depth.goal (n:Nat) (v:Val) (hp:((decide (Fld.bulk (Fld.of [] v)≤1099511627776))&&decide ((Fld.bulk (Fld.of [] v))<n+1))=true):tree_Depth.F n v=some [.i .i64 (Tree.depth (Fld.of [] v):Int)]:=by
 simp only [Bool.and_eq_true,decide_eq_true_eq] at hp
 obtain ⟨hbig,hn⟩:=hp
 have hks:Fld.bulks v.kids<Fld.bulk (Fld.of [] v):=by simp only [Fld.of,Fld.bulk];omega
 refine tree_Depth.F_in n v ?_
 intro v1 h1 v2 h2 v3 h3
 simp only [Bool.not_or_self,ck_true]
 have key:=tree_Depth.l1_ok n v.kids (by omega) (by omega) v.kids.length 0 0 (by omega) (by omega)
 rw [List.drop_zero] at key
 rw [Tree.depth_of]
 by_cases h:v.kind=3∨v.kind=4∨v.kind=15
 ·rw [if_pos h,show v2=false by subst h1 h2;rcases h with h | h | h <;> simp [h],cond_false,h3]
  rw [Nat.zero_max] at key
  exact key
 ·rw [if_neg h,show v2=true by subst h1 h2;simp only [not_or] at h;simp [h.1,h.2.1,h.2.2],cond_true];rfl
end Go.Eng
namespace Go.Eng
open Go.IntWalk
theorem digs_lt {n:Nat} (h:n<10):digs n=[UInt8.ofNat (48+n)]:=by rw [digs,dif_pos h]
theorem digs_ge {n:Nat} (h:¬n<10):digs n=digs (n / 10)++[UInt8.ofNat (48+n % 10)]:=by rw [digs,dif_neg h]
theorem tree_Regular.l1_ok (l:List Fld) (hb:l.length≤1099511627776):∀(m i:Nat),i+m=l.length→tree_Regular.l1 l (l.length:Int) i=some [.b (Tree.regularFrom i (l.drop i))]:=by
 intro m
 induction m with
 | zero =>
  intro i hi
  refine tree_Regular.l1_in _ _ _ ?_
  intro v1 h1 v2 h2
  rw [decide_eq_false (by omega),cond_false,List.drop_of_length_le (by omega)];rfl
 | succ m ih =>
  intro i hi
  refine tree_Regular.l1_in _ _ _ ?_
  intro v1 h1 v2 h2
  rw [Int.toNat_natCast] at h1
  rw [decide_eq_true (by omega),cond_true,ck_of (idx_ok (by omega) (by omega)),ck_of (decide_eq_true (by omega)),show v2=((i+1:Nat):Int) by rw [h2,i64_in _ (by omega)];omega,ih _ (by omega),drop_cons (l:=l) (i:=i) (by omega) (STy.dflt .fl),←h1,Tree.regularFrom,itoa_nat]
  by_cases a:v1.name=digs i
  ·rw [decide_eq_true a];rfl
  ·rw [decide_eq_false a];rfl
theorem tree_Regular.goal (l:List Fld) (hp:decide (l.length≤1099511627776)=true):tree_Regular.F l=some [.b (Tree.regular l)]:=by
 rw [tree_Regular.F_eq]
 exact tree_Regular.l1_ok l (of_decide_eq_true hp) l.length 0 (by omega)
end Go.Eng
namespace Go.Eng
open Go.IntWalk
theorem book_Room.l1_ok (sizes:List Int) (hl:sizes.length≤10) (hs:∀s∈sizes,0≤s):∀(m i:Nat) (left:Int),i+m=sizes.length→left≤10000→book_Room.l1 left sizes i=some [.i .i64 (Book.room left (sizes.drop i))]:=by
 intro m
 induction m with
 | zero =>
  intro i left hi hle
  refine book_Room.l1_in _ _ _ ?_
  intro v1 h1 v2 h2 v3 h3
  rw [decide_eq_false (by omega),cond_false,List.drop_of_length_le (by omega)];rfl
 | succ m ih =>
  intro i left hi hle
  refine book_Room.l1_in _ _ _ ?_
  intro v1 h1 v2 h2 v3 h3
  rw [Int.toNat_natCast] at h1
  have h0:0≤v1:=hs v1 (by rw [h1,List.getD_eq_getElem?_getD,List.getElem?_eq_getElem (show i<sizes.length by omega)];simp)
  rw [decide_eq_true (by omega),cond_true,show idxOK (i:Int) sizes.length=true from idx_ok (by omega) (by omega),drop_cons (l:=sizes) (i:=i) (by omega) 0,←h1,Book.room]
  simp only [Bool.and_self,Bool.and_true,Bool.not_or_self,Bool.or_not_self,ck_true]
  by_cases a:left<0∨left<v1
  ·rw [if_pos a,show v2=true by rw [h2];by_cases b:left<0 <;> simp [b];omega];rfl
  ·rw [if_neg a,show v2=false by rw [h2];by_cases b:left<0 <;> simp [b] <;> omega,cond_false,show v3=((i+1:Nat):Int) by rw [h3,i64_in _ (by omega)];omega,i64_in _ (by omega),ih _ _ (by omega) (by omega)]
theorem book_Room.goal (left:Int) (sizes:List Int) (hp:(decide (left≤10000∧sizes.length≤10)&&sizes.all (fun s=>decide (0≤s)))=true):book_Room.F left sizes=some [.i .i64 (Book.room left sizes)]:=by
 simp only [Bool.and_eq_true,decide_eq_true_eq,List.all_eq_true] at hp
 rw [book_Room.F_eq]
 exact book_Room.l1_ok sizes hp.1.2 hp.2 sizes.length 0 left (by omega) hp.1.1
theorem Book.room1 (left a:Int) (ha:0≤a) (hl:left≤10000):Book.room left [a]≤10000∧(Book.room left [a]=-1∨(Book.room left [a]=left - a∧0≤left - a)):=by
 simp only [Book.room];split <;> omega
theorem Book.room4 (left a b c d:Int) (ha:0≤a) (hb:0≤b) (hc:0≤c) (hd:0≤d) (hl:left≤10000) :
  Book.room left [a,b,c,d]≤10000∧(Book.room left [a,b,c,d]=-1∨(Book.room left [a,b,c,d]=left - a - b - c - d∧0≤left - a - b - c - d)):=by
 simp only [Book.room]
 split
 ·omega
 ·split
  ·omega
  ·split
   ·omega
   ·split <;> omega
mutual
theorem Book.value_le:∀(f:Fld) (left:Int),left≤10000→Book.value left f≤10000∧(0≤Book.value left f→(Fld.bulk f:Int) - f.name.length≤left - Book.value left f)
 | .mk n k b h l t m s y ks,left,hl=>by
  have h1:=Book.room4 left 2 t.length m.length y.length (by omega) (by omega) (by omega) (by omega) hl
  have h2:=Book.values_le ks (Book.room left [2,(t.length:Int),(m.length:Int),(y.length:Int)]) h1.1
  simp only [Book.value,Fld.bulk,Fld.name]
  refine ⟨h2.1,fun h0=>?_⟩
  rcases h1.2 with e | ⟨e,e0⟩
  ·have:=h2.2.2 (by omega);omega
  ·have:=h2.2.1 h0;omega
theorem Book.values_le:∀(ks:List Fld) (left:Int),left≤10000→Book.values left ks≤10000∧(0≤Book.values left ks→(Fld.bulks ks:Int)≤left - Book.values left ks)∧(left<0→Book.values left ks<0)
 | [],left,hl=>by simp only [Book.values,Fld.bulks];omega
 | f :: r,left,hl=>by
  simp only [Book.values,Fld.bulks]
  by_cases h:left<0
  ·rw [if_pos h];omega
  ·rw [if_neg h]
   have h1:=Book.room1 left f.name.length (by omega) hl
   have h2:=Book.value_le f (Book.room left [(f.name.length:Int)]) h1.1
   have h3:=Book.values_le r (Book.value (Book.room left [(f.name.length:Int)]) f) h2.1
   refine ⟨h3.1,fun h0=>?_,fun h0=>by omega⟩
   have h4:=h3.2.1 h0
   have h5:0≤Book.value (Book.room left [(f.name.length:Int)]) f:=by
    by_cases h6:Book.value (Book.room left [(f.name.length:Int)]) f<0
    ·have:=h3.2.2 h6;omega
    ·omega
   have h7:=h2.2 h5
   have hb:(f.name.length:Int)≤Fld.bulk f:=by cases f;simp only [Fld.name,Fld.bulk];omega
   rcases h1.2 with e | ⟨e,e0⟩
   ·omega
   ·omega
end
theorem Book.small_bulk (v:Val) (h:0≤Book.value 1200 (Fld.of [] v)):Fld.bulk (Fld.of [] v)≤10000:=by
 have:=(Book.value_le (Fld.of [] v) 1200 (by omega)).2 h
 have hn:(Fld.of [] v).name=[]:=rfl
 rw [hn] at this
 simp at this;omega
theorem Book.value_val (left:Int) (f:Fld):Book.value left (Fld.of [] f.val)=Book.value left f:=by cases f;rfl
theorem Book.value_lt (f:Fld) (left:Int) (hl:left≤10000) (h0:0≤Book.value left f):Book.value left f+1≤left:=by
 have:=(Book.value_le f left hl).2 h0
 have hb:(f.name.length:Int)+1≤Fld.bulk f:=by cases f;simp only [Fld.name,Fld.bulk];omega
 omega
theorem book_Value.l1_ok (n:Nat) (v:Val) (hn:Fld.bulks v.kids<n):∀(m i:Nat) (left:Int),i+m=v.kids.length→(i:Int)+left≤10000 →
  book_Value.l1 n left i v=some [.i .i64 (Book.values left (v.kids.drop i))]:=by
 intro m
 induction m with
 | zero =>
  intro i left hi hle
  refine book_Value.l1_in _ _ _ _ ?_
  intro v1 h1 v2 h2 v3 h3 v4 h4 v5 h5 v6 h6 v7 h7
  simp only [Bool.not_or_self,ck_true]
  rw [show v2=false by rw [h2,decide_eq_false (by omega)];rfl,cond_false,List.drop_of_length_le (by omega)];rfl
 | succ m ih =>
  intro i left hi hle
  refine book_Value.l1_in _ _ _ _ ?_
  intro v1 h1 v2 h2 v3 h3 v4 h4 v5 h5 v6 h6 v7 h7
  rw [Int.toNat_natCast] at h3
  have hg:=Fld.bulks_get v.kids i (STy.dflt .fl) (by omega)
  rw [←h3] at hg
  have hv:=Fld.bulk_val v3
  have r1:=Book.room1 left v4 (by omega) (by omega)
  rw [←h5] at r1
  have r2:=Book.value_lt v3 v5 r1.1
  rw [Book.value_val] at h6
  simp only [Bool.not_or_self,ck_true]
  rw [drop_cons (l:=v.kids) (i:=i) (by omega) (STy.dflt .fl),←h3,Book.values]
  by_cases h:left<0
  ·rw [if_pos h,show v2=false by rw [h2,decide_eq_false (show ¬0≤left by omega)];simp];rfl
  ·have r3:(i:Int)+1+v6≤10000:=by
    rw [h6]
    by_cases hx:0≤Book.value v5 v3
    ·have:=r2 hx;omega
    ·omega
   rw [if_neg h,show v2=true by rw [h2,decide_eq_true (by omega),decide_eq_true (by omega)];rfl,cond_true,ck_of (idx_ok (by omega) (by omega)),ck_of (by simp;omega),ck_of (idx_ok (by omega) (by omega)),decide_eq_true r1.1,decide_eq_true (by omega),Bool.and_self,ck_true,
    show v7=((i+1:Nat):Int) by rw [h7,i64_in _ (by omega)];omega,ih _ _ (by omega) (by omega),h6,h5,h4]
theorem book_Value.goal (n:Nat) (left:Int) (v:Val) (hp:((decide (left≤10000))&&decide ((Fld.bulk (Fld.of [] v))<n+1))=true):book_Value.F n left v=some [.i .i64 (Book.value left (Fld.of [] v))]:=by
 simp only [Bool.and_eq_true,decide_eq_true_eq] at hp
 obtain ⟨hl,hn⟩:=hp
 have hks:Fld.bulks v.kids<Fld.bulk (Fld.of [] v):=by simp only [Fld.of,Fld.bulk];omega
 refine book_Value.F_in n left v ?_
 intro v1 h1 v2 h2 v3 h3 v4 h4
 have r:=Book.room4 left 2 v1 v2 v3 (by omega) (by omega) (by omega) (by omega) hl
 rw [←h4] at r
 rw [ck_of (by rw [h4];simp;omega)]
 have key:=book_Value.l1_ok n v (by omega) v.kids.length 0 (Book.room left v4) (by omega) (by omega)
 rw [List.drop_zero] at key
 refine key.trans ?_
 rw [h4,h1,h2,h3]
 rfl
theorem book_Small.goal (v:Val):book_Small.F v=some [.b (decide (0≤Book.value 1200 (Fld.of [] v)))]:=by
 refine book_Small.F_in v ?_
 intro v1 h1
 rw [ck_of (by decide),h1]
end Go.Eng
