/- Texts of my own, one behind the other: HrG3, HrG4, HrG5, HrG6, HrG, HrUtfP, HrTreeP1, HrTreeP2, HrTreeP3, HrTreeP4, HrMore, HrSized, HrMp1, HrMp2, HrCur, HrMp3, HrDkR1, HrDec, HrRegP, HrDb1, HrDk1. -/
import Derived.Test.YtjkjoincmkmglaaGreatDoorT3
import Derived.WalkKit
import Derived.WalkSpells
import Derived.WalkLawsBesides
import Derived.ChangeSlices
import Derived.Maps.OwnOps
set_option linter.defProp false
set_option linter.unusedVariables false
set_option linter.unusedSimpArgs false
open Decidable renaming decide→nP
open Option renaming some→Bm
open Option renaming none→Kk
open Bool renaming true→Qf
open Bool renaming false→Qg
noncomputable section
set_option maxRecDepth 100000
namespace Go.Eng
open Go.Proofs
variable{ρ:OT}
def abH:cz:=cP gz zs [(367,amr,bz)]
def aby:Hint:=.s .o (.j (sc [0,1,2]) .o (.j (sc [0,1,2]) .o (.s .o (.s .o (.s .o (.s .o (.s .o (.s .o (.s .o (.s .o (.s .o (.s .o (.s .o (.j (sc [2,8,9,10,11,13,14,15]) (.b (.l (sc [2,8,9,10,11,13,14,15,16]) .o)) (.s .o (.s .o (.s .o (.j (sc [2,8,14,15,17,18]) (.b (.l (sc [2,8,9,10,14,15,16,17,18]) .o)) .o))))))))))))))))))
def ay6(a b y:UInt64):OT:=bT PG abH 353 bP aby [.u64 a,.u64 b,.u64 y]
def alh(x0 x1 x2:UInt64):OT:=dj PG abH 353 bP aby 3 [.u64 x0,.u64 x1,.u64 x2]
def alg(x0 x1 x2:UInt64):OT:=dj PG abH 353 bP aby 7 [.u64 x0,.u64 x1,.u64 x2]
def adq(x0 x1 x2 x3 x4 x5 x6 x7 x8:UInt64):OT:=de PG abH 353 bP aby 81919 [.u64 x0,.u64 x1,.u64 x2,.u64 x3,.u64 x4,.u64 x5,.u64 x6,.u64 x7,.u64 x8]
def ads(x0 x1 x2 x3 x4 x5 x6 x7:UInt64):OT:=dj PG abH 353 bP aby 32767 [.u64 x0,.u64 x1,.u64 x2,.u64 x3,.u64 x4,.u64 x5,.u64 x6,.u64 x7]
def adp(x0 x1 x2 x3 x4 x5 x6 x7 x8:UInt64):OT:=de PG abH 353 bP aby 1310719 [.u64 x0,.u64 x1,.u64 x2,.u64 x3,.u64 x4,.u64 x5,.u64 x6,.u64 x7,.u64 x8]
def adr(x0 x1 x2 x3 x4 x5:UInt64):OT:=dj PG abH 353 bP aby 524287 [.u64 x0,.u64 x1,.u64 x2,.u64 x3,.u64 x4,.u64 x5]
theorem ayZ(x0 x1 x2:UInt64):alh x0 x1 x2=cond (nP (x2<=x0)) Kk (alg x0 x1 x2):=oa (by kernel_rfl) rfl
theorem ay0(x0 x1 x2:UInt64)(K:∀v1,v1=kZ x2 (UInt64.ofInt (0)).toNat->∀v2,v2=dc v1 (32:UInt64).toNat->∀v3,v3=(v1&&&4294967295)->∀v4,v4=kZ x0 (UInt64.ofInt (0)).toNat->∀v5,v5=64 -(UInt64.ofInt (0))->∀v6,v6=(v4|||(dc x1 v5.toNat))->∀v7,v7=kZ x1 (UInt64.ofInt (0)).toNat->∀v8,v8=dc v7 (32:UInt64).toNat->∀v9,v9=(v7&&&4294967295)->cond (nP (x0=0)) (ck (!decide (x2=0)) (ck (!decide (x2=0)) (Bm [.u64 (x1/x2),.u64 (x1% x2)]))) (ck (nP (9223372036854775808<=x2.toNat)) (ck (!decide (v2=0)) (adq v1 (UInt64.ofInt (0)) v2 v3 v6 v8 v9 (v6/v2) (v6 -((v6/v2)*v2)))))=ρ):alg x0 x1 x2=ρ:=oa (by kernel_rfl) (jL (vg K:):)
theorem ayX(x0 x1 x2 x3 x4 x5 x6 x7 x8:UInt64)(K:∀v1,v1=(4294967296*x8)+x5->∀v2,v2=cond (nP (4294967296<=x7)) Qf (nP (v1<(x7*x3)))->ck (!(!(nP (4294967296<=x7)))||((!(nP (4294967296<=x7)))&&(!(nP (4294967296<=x7))))) (ck (!(!(nP (4294967296<=x7)))||(!(nP (4294967296<=x7)))) (ck (!(!(nP (4294967296<=x7)))||((!(nP (4294967296<=x7)))&&(!(nP (4294967296<=x7))))) (ck (!(!(nP (4294967296<=x7)))||((!(nP (4294967296<=x7)))&&(!(nP (4294967296<=x7))))) (ck ((nP (4294967296<=x7))||(!(nP (4294967296<=x7)))) (cond v2 (cond (nP (4294967296<=(x8+x2))) (ads x0 x1 x2 x3 x4 x5 x6 (x7 -1)) (adq x0 x1 x2 x3 x4 x5 x6 (x7 -1) (x8+x2))) (ads x0 x1 x2 x3 x4 x5 x6 x7))))))=ρ):adq x0 x1 x2 x3 x4 x5 x6 x7 x8=ρ:=mY (by kernel_rfl) (nY K:)
theorem ay7(x0 x1 x2 x3 x4 x5 x6 x7:UInt64)(K:∀v1,v1=(x4*4294967296)+x5->∀v2,v2=((v1 -(x7*x0))/x2)*x2->ck (!decide (x2=0)) (adp x0 x1 x2 x3 x6 x7 ((v1 -(x7*x0)) -v2) (v1 -(x7*x0)) ((v1 -(x7*x0))/x2))=ρ):ads x0 x1 x2 x3 x4 x5 x6 x7=ρ:=oa (by kernel_rfl) (nY K:)
theorem ay5(x0 x1 x2 x3 x4 x5 x6 x7 x8:UInt64)(K:∀v1,v1=(4294967296*x6)+x4->∀v2,v2=cond (nP (4294967296<=x8)) Qf (nP (v1<(x8*x3)))->ck (!(!(nP (4294967296<=x8)))||((!(nP (4294967296<=x8)))&&(!(nP (4294967296<=x8))))) (ck (!(!(nP (4294967296<=x8)))||(!(nP (4294967296<=x8)))) (ck (!(!(nP (4294967296<=x8)))||((!(nP (4294967296<=x8)))&&(!(nP (4294967296<=x8))))) (ck (!(!(nP (4294967296<=x8)))||((!(nP (4294967296<=x8)))&&(!(nP (4294967296<=x8))))) (ck ((nP (4294967296<=x8))||(!(nP (4294967296<=x8)))) (cond v2 (cond (nP (4294967296<=(x6+x2))) (adr x0 x1 x4 x5 x7 (x8 -1)) (adp x0 x1 x2 x3 x4 x5 (x6+x2) x7 (x8 -1))) (adr x0 x1 x4 x5 x7 x8))))))=ρ):adp x0 x1 x2 x3 x4 x5 x6 x7 x8=ρ:=mY (by kernel_rfl) (nY K:)
theorem ay4(x0 x1 x2 x3 x4 x5:UInt64)(K:∀v1,v1=(x3*4294967296)+x5->∀v2,v2=(x4*4294967296)+x2->∀v3,v3=dc (v2 -(x5*x0)) x1.toNat->Bm [.u64 v1,.u64 v3]=ρ):adr x0 x1 x2 x3 x4 x5=ρ:=oa (by kernel_rfl) (uJ K:)
theorem ay1(a b y:UInt64):ay6 a b y=cond (nP (y=0)) Kk (alh a b y):=by kernel_rfl
def apn(a b:iD):OT:=bT PG eD 320 bz (.o) [.ag a.cells,.ag b.cells]
theorem apm(a b:iD)(K:∀v1,v1=(nP (a.high=b.high)&&nP (a.low=b.low))->∀v2,v2=((!(nP (a.high<b.high)))&&(nP (a.high=b.high)))->∀v3,v3=cond (nP (a.high=b.high)) (nP (a.low<b.low)) Qg->∀v4,v4=cond (nP (a.high<b.high)) Qf v3->cond v1 (Bm [.i .i64 0]) (ck (!(!(nP (a.high<b.high)))||(!(nP (a.high<b.high)))) (ck (!(!(nP (a.high<b.high)))||(!(nP (a.high<b.high)))) (ck (!(!(nP (a.high<b.high)))||((!(nP (a.high<b.high)))&&(!(nP (a.high<b.high))))) (ck (!(!(nP (a.high<b.high)))||(!(nP (a.high<b.high)))) (ck (!v2||v2) (ck (!v2||v2) (ck (!v2||(v2&&v2)) (ck (!(!(nP (a.high<b.high)))||((!(nP (a.high<b.high)))&&(!(nP (a.high=b.high))||v2))) (ck ((nP (a.high<b.high))||(!(nP (a.high<b.high)))) (cond v4 (Bm [.i .i64 (-1)]) (Bm [.i .i64 1])))))))))))=ρ):apn a b=ρ:=Eq.trans (by kernel_rfl) (vg K:)
def azP:cz:=cP gz zs [(298,alQ,bP)]
def apu(a b:UInt64):OT:=bT PG azP 352 bz (.o) [.u64 a,.u64 b]
theorem apt(a b:UInt64)(K:∀v1,v1=UInt64.ofNat (a.toNat*b.toNat/18446744073709551616)->∀v2,v2=UInt64.ofNat (a.toNat*b.toNat)->Bm [.ag [.u64 v1,.u64 v2]]=ρ):apu a b=ρ:=Eq.trans (by kernel_rfl) (nY K:)
def azO:cz:=cP gz zs [(353,aoC,bP)]
def apr(a:iD)(b:UInt64):OT:=bT PG azO 322 jh (.o) [.ag a.cells,.u64 b]
theorem apq(a:iD)(b:UInt64)(K:∀v1,v1=UInt64.ofNat (((0:UInt64).toNat*18446744073709551616+a.high.toNat)/b.toNat)->∀v2,v2=UInt64.ofNat (((0:UInt64).toNat*18446744073709551616+a.high.toNat)% b.toNat)->∀v3,v3=UInt64.ofNat ((v2.toNat*18446744073709551616+a.low.toNat)/b.toNat)->∀v4,v4=UInt64.ofNat ((v2.toNat*18446744073709551616+a.low.toNat)% b.toNat)->cond (nP (b=0)) (Bm [.ag [.u64 0,.u64 0],.u64 0,.b Qg]) (ck (nP (9223372036854775808<=b.toNat/\(0:UInt64).toNat<b.toNat)) (ck (nP (9223372036854775808<=b.toNat/\v2.toNat<b.toNat)) (Bm [.ag [.u64 v1,.u64 v3],.u64 v4,.b Qf])))=ρ):apr a b=ρ:=Eq.trans (by kernel_rfl) (vg K:)
def anO:cz:=cP gz zs [(199,adA,bz),(314,afn,bz),(322,alJ,jh),(323,amN,bz)]
def ah3:Hint:=.s .o (.s .o (.s (.b (.l [(1,.ptr 53 0),(3,.no),(53,.cl [])] .o)) (.j (sc [3]) .o .o)))
def awG(a:iD):OT:=bT PG anO 283 bz ah3 [.ag a.cells]
def abc(x0:bE)(x1 x2:UInt64):OT:=de PG anO 283 bz ah3 19 [.pt,.s x0,.ag [.u64 x1,.u64 x2]]
def aar(x0:bE):OT:=dj PG anO 283 bz ah3 15 [.s x0]
theorem akv(x0:bE)(x1 x2:UInt64)(K:∀v1,v1=iD.of ((iD.mk x1 x2).val/(10000000000000000000:UInt64).toNat)->∀v2,v2=UInt64.ofNat ((iD.mk x1 x2).val%(10000000000000000000:UInt64).toNat)->∀v3,v3=((Nr.dec v2.toNat).length:Int)->∀v4,v4=IntKind.i64.wrap ((19:Int) -v3)->∀v5,v5=(Sh.fk v4)++(Nr.dec v2.toNat)->∀v6,v6=cond (nP (x0=([]:bE))) Qf (!decide (x2=(0:UInt64)))->cond (!decide (x1=(0:UInt64))) (ck (nP (9223372036854775808<=(10000000000000000000:UInt64).toNat)) (ck (nP ((10:Int)=10)) (ck (nP (([48]:bE)=[48]/\0<=v4/\v4<=100)) (ck (nP ((Sh.fk v4).length+(Nr.dec v2.toNat).length<=9223372036854775807)) (ck (nP (v5.length+x0.length<=9223372036854775807)) (abc (v5++x0) v1.high v1.low)))))) (ck (!(!(nP (x0=([]:bE))))||(!(nP (x0=([]:bE))))) (ck (!(!(nP (x0=([]:bE))))||(!(nP (x0=([]:bE))))) (ck ((nP (x0=([]:bE)))||(!(nP (x0=([]:bE))))) (cond v6 (ck (nP ((10:Int)=10)) (ck (nP ((Nr.dec x2.toNat).length+x0.length<=9223372036854775807)) (aar ((Nr.dec x2.toNat)++x0)))) (aar x0)))))=ρ):abc x0 x1 x2=ρ:=mY (by kernel_rfl) (jL (qv K:):)
theorem awD(x0:bE)(K:∀(v1:Int)(h1:v1=(IntKind.i64.wrap (((x0).length:Int) -(1:Int))))(v2:bE)(h2:v2=(Lib.trimLeftS ((List.take (v1).toNat x0)) (([48]:bE))))(v3:bE)(h3:v3=(v2++(List.drop (v1).toNat x0))),ck (iF 0 v1 (x0).length) (ck (nP ((((List.take (v1).toNat x0))).length<=1099511627776/\((([48]:bE))).length<=100)&&((([48]:bE))).all (λb=>nP (b.toNat<128))) (ck (iF v1 (x0).length (x0).length) (ck (nP ((v2).length+((List.drop (v1).toNat x0)).length<=9223372036854775807)) (Bm [(.s v3)]))))=ρ):aar x0=ρ:=((fD _ _ _ _ _ _ _).trans (by kernel_rfl)).trans (K _ rfl _ rfl _ rfl)
theorem awF(a:iD):awG a=abc [] a.high a.low:=by kernel_rfl
def aAf:cz:=cP gz zs [(352,alK,bz)]
def arv:OT:=bT PG aAf 321 bz (.o) []
theorem aru(K:∀v1,v1=iD.of ((100000000000000000:UInt64).toNat*(100000000000000000:UInt64).toNat)->Bm [.ag v1.cells]=ρ):arv=ρ:=Eq.trans (by kernel_rfl) (qv K:)
def aww:cz:=cP gz zs [(320,ae2,bz),(321,afY,bz)]
def anL:Hint:=.s .o (.s .o (.s .o (.s .o (.s .o (.j [(0,.no),(5,.no),(6,.ptr 58 0),(58,.cl [])] .o .o)))))
def awv(h l:UInt64):OT:=bT PG aww 280 aa9 anL [.u64 h,.u64 l]
def aes(x0:UInt64)(x1:Bool)(x2 x3:UInt64):OT:=dj PG aww 280 aa9 anL 63 [.u64 x0,.b x1,.pt,.ag [.u64 x2,.u64 x3]]
theorem akt(x0:UInt64)(x1:Bool)(x2 x3:UInt64)(K:∀v1,v1=dc x0 (49:UInt64).toNat->∀v2,v2=IntKind.i64.wrap ((v1&&&16383).toNat:Int)->∀v3,v3=IntKind.i64.wrap (v2 -6176)->Bm [.i .i64 1,.b x1,.ag [.u64 x2,.u64 x3],.i .i64 v3]=ρ):aes x0 x1 x2 x3=ρ:=oa (by kernel_rfl) (uJ K:)
theorem awu(h l:UInt64)(K:∀v1,v1=dc h (63:UInt64).toNat->∀v2,v2=dc h (58:UInt64).toNat->∀v3,v3=nP ((v2&&&31)=31)->∀v4,v4=nP ((v2&&&31)=30)->∀v5,v5=dc (v2&&&31) (3:UInt64).toNat->∀v6,v6=dc h (47:UInt64).toNat->∀v7,v7=IntKind.i64.wrap ((v6&&&16383).toNat:Int)->∀v8,v8=IntKind.i64.wrap (v7 -6176)->∀v9,v9=(h&&&562949953421311)->∀v10,v10=cond (nP ((iD.mk v9 l).val=(Cn.yo).val)) 0 (cond (nP ((iD.mk v9 l).val<(Cn.yo).val)) (-1) 1)->cond v3 (Bm [.i .i64 3,.b (nP (v1=1)),.ag [.u64 0,.u64 0],.i .i64 0]) (cond v4 (Bm [.i .i64 2,.b (nP (v1=1)),.ag [.u64 0,.u64 0],.i .i64 0]) (cond (nP (v5=3)) (Bm [.i .i64 1,.b (nP (v1=1)),.ag [.u64 0,.u64 0],.i .i64 v8]) (cond (nP (0<=v10)) (aes h (nP (v1=1)) 0 0) (aes h (nP (v1=1)) v9 l))))=ρ):awv h l=ρ:=Eq.trans (by kernel_rfl) (jL (jL K:):)
def asI:cz:=cP gz zs [(320,ae2,bz),(321,afY,bz)]
def ams:Hint:=.s .o (.s .o (.s .o (.j [(4,.ptr 38 0),(6,.no),(38,.cl [])] .o .o)))
def asH(n:Bool)(c:iD)(x:Int):OT:=bT PG asI 281 jh ams [.b n,.ag c.cells,.i .i64 x]
def aea(x0 x1 x2:UInt64):OT:=dj PG asI 281 jh ams 15 [.pt,.u64 x0,.ag [.u64 x1,.u64 x2]]
theorem ajq(x0 x1 x2:UInt64):aea x0 x1 x2=Bm [.u64 x0,.u64 x2,.b Qf]:=oa (by kernel_rfl) rfl
theorem asG(n:Bool)(c:iD)(x:Int)(K:∀v1,v1=cond (nP (c.val=(Cn.yo).val)) 0 (cond (nP (c.val<(Cn.yo).val)) (-1) 1)->∀v2,v2=cond (nP (0<=v1)) Qf (nP (x<(-6176)))->∀v3,v3=cond v2 Qf (nP (6111<x))->∀v4,v4=IntKind.i64.wrap (x+6176)->∀v5,v5=kZ (UInt64.ofInt v4) (49:UInt64).toNat->∀v6,v6=((v5|||c.high)|||9223372036854775808)->ck (!(!(nP (0<=v1)))||(!(nP (0<=v1)))) (ck ((nP (0<=v1))||(!(nP (0<=v1)))) (ck (!(!v2)||(!v2)) (ck (v2||(!v2)) (cond v3 (Bm [.u64 0,.u64 0,.b Qg]) (cond n (aea v6 c.high c.low) (aea (v5|||c.high) c.high c.low))))))=ρ):asH n c x=ρ:=Eq.trans (by kernel_rfl) (jL (qv K:):)
def aAh:cz:=cP gz zs [(280,ah0,aa9),(281,amt,jh)]
def arC(h l:UInt64):OT:=bT PG aAh 226 bz (.o) [.u64 h,.u64 l]
theorem arB(h l:UInt64)(K:∀v1,v1=cond (nP (h=8935141660703064064)) (nP (l=0)) Qg->∀v2,v2=(h&&&~~~9223372036854775808)->∀v3,v3=cond (nP (v2=8646911284551352320)) (nP (l=0)) Qg->∀v4,v4=(Cn.join (Cn.split h l).2.1 (Cn.split h l).2.2.1 (Cn.split h l).2.2.2).1->∀v5,v5=(Cn.join (Cn.split h l).2.1 (Cn.split h l).2.2.1 (Cn.split h l).2.2.2).2.1->∀v6,v6=(Cn.join (Cn.split h l).2.1 (Cn.split h l).2.2.1 (Cn.split h l).2.2.2).2.2->∀v7,v7=cond v6 (nP (v4=h)) Qg->∀v8,v8=cond v7 (nP (v5=l)) Qg->cond (nP ((Cn.split h l).1=3)) (ck (!(nP (h=8935141660703064064))||(nP (h=8935141660703064064))) (ck (!(nP (h=8935141660703064064))||(nP (h=8935141660703064064))) (Bm [.b v1]))) (cond (nP ((Cn.split h l).1=2)) (ck (!(nP (v2=8646911284551352320))||(nP (v2=8646911284551352320))) (ck (!(nP (v2=8646911284551352320))||(nP (v2=8646911284551352320))) (Bm [.b v3]))) (ck (Nr.i64 (Cn.split h l).2.2.2) (ck (!v6||(v6&&v6)) (ck (!v6||v6) (ck (!v7||(v7&&v7)) (ck (!v7||v7) (Bm [.b v8])))))))=ρ):arC h l=ρ:=Eq.trans (by kernel_rfl) (jL (uJ K:):)
def anc:cz:=cP gz zs [(188,ady,bz),(199,adA,bz)]
def ahq:Hint:=.s .o (.s .o (.s .o (.s (.b (.s .o (.s .o (.s .o (.s (.j (sc [0,1,5]) .o .o) .o))))) (.s .o (.j (sc [6,7]) .o .o)))))
def au1(d:bE)(x:Int):OT:=bT PG anc 282 bz ahq [.s d,.i .i64 x]
def acj(x0:bE)(x1 x2:Int):OT:=dj PG anc 282 bz ahq 743 [.s x0,.i .i64 x1,.i .i64 x2]
def aci(x0:Int)(x1:bE):OT:=dj PG anc 282 bz ahq 63 [.i .i64 x0,.s x1]
theorem auZ(x0:bE)(x1:Int)(x2:Int)(K:∀(v1:bE)(h1:v1=(List.take ((IntKind.i64.wrap (x2+x1))).toNat x0))(v2:bE)(h2:v2=(List.drop ((IntKind.i64.wrap (x2+x1))).toNat x0)),ck (iF 0 (IntKind.i64.wrap (x2+x1)) (x0).length) (ck (nP ((v1).length+(([46]:bE)).length<=9223372036854775807)) (ck (iF (IntKind.i64.wrap (x2+x1)) (x0).length (x0).length) (ck (nP (((v1++([46]:bE))).length+(v2).length<=9223372036854775807)) (Bm [(.s ((v1++([46]:bE))++v2))]))))=ρ):acj x0 x1 x2=ρ:=((fD _ _ _ _ _ _ _).trans (by kernel_rfl)).trans (K _ rfl _ rfl)
theorem auY(x0:Int)(x1:bE)(K:∀v1,v1=Nr.itoa (IntKind.i64.wrap (0 -x0))->∀v2,v2=(x1++[69,45])++v1->∀v3,v3=(x1++[69,43])++(Nr.itoa x0)->cond (nP (x0<0)) (ck (nP (x1.length+([69,45]:bE).length<=9223372036854775807)) (ck (Nr.i64 (IntKind.i64.wrap (0 -x0))) (ck (nP ((x1++[69,45]).length+v1.length<=9223372036854775807)) (Bm [.s v2])))) (ck (nP (x1.length+([69,43]:bE).length<=9223372036854775807)) (ck (Nr.i64 x0) (ck (nP ((x1++[69,43]).length+(Nr.itoa x0).length<=9223372036854775807)) (Bm [.s v3]))))=ρ):aci x0 x1=ρ:=oa (by kernel_rfl) (uJ K:)
theorem au0(d:bE)(x:Int)(K:∀(v1:Int)(h1:v1=(IntKind.i64.wrap (x+((d).length:Int))))(v2:Int)(h2:v2=(IntKind.i64.wrap (v1 -(1:Int))))(v3:Bool)(h3:v3=(cond (nP (x<(0:Int))) (nP ((-6:Int)<=v2)) Qg))(v4:Int)(h4:v4=(IntKind.i64.wrap ((1:Int) -x)))(v5:Int)(h5:v5=(IntKind.i64.wrap (v4 -((d).length:Int))))(v6:Int)(h6:v6=((((Sh.fk v5)++d)).length:Int))(v7:bE)(h7:v7=(List.take ((1:Int)).toNat d))(v8:bE)(h8:v8=(List.drop ((1:Int)).toNat d)),cond (nP (x=(0:Int))) (Bm [(.s d)]) (ck (!(nP (x<(0:Int)))||(nP (x<(0:Int)))) (ck (!(nP (x<(0:Int)))||(nP (x<(0:Int)))) (cond v3 (cond (nP (((d).length:Int)<=(IntKind.i64.wrap (0 -x)))) (ck (nP ((([48]:bE))=[48]/\0<=v5/\v5<=100)) (ck (nP (((Sh.fk v5)).length+(d).length<=9223372036854775807)) (acj ((Sh.fk v5)++d) x v6))) (acj d x ((d).length:Int))) (ck (iF 0 (1:Int) (d).length) (cond (nP ((1:Int)<((d).length:Int))) (ck (iF (1:Int) (d).length (d).length) (ck (nP ((([46]:bE)).length+(v8).length<=9223372036854775807)) (ck (nP ((v7).length+((([46]:bE)++v8)).length<=9223372036854775807)) (aci v2 (v7++(([46]:bE)++v8)))))) (aci v2 v7))))))=ρ):au1 d x=ρ:=Eq.trans (by kernel_rfl) (K _ rfl _ rfl _ rfl _ rfl _ rfl _ rfl _ rfl _ rfl)
def asR:cz:=cP gz zs [(280,ah0,aa9),(282,anb,bz),(283,anN,bz)]
def amw:Hint:=.s .o (.s .o (.s .o (.j (sc [6,9]) .o .o)))
def asQ(h l:UInt64):OT:=bT PG asR 227 bz amw [.u64 h,.u64 l]
def abV(x0:Bool)(x1:bE):OT:=dj PG asR 227 bz amw 15 [.b x0,.s x1]
theorem asO(x0:Bool)(x1:bE):abV x0 x1=cond x0 (ck (nP (([45]:bE).length+x1.length<=9223372036854775807)) (Bm [.s (([45]:bE)++x1)])) (Bm [.s x1]):=oa (by kernel_rfl) rfl
theorem asP(h l:UInt64)(K:∀v1,v1=Nr.dec (Cn.split h l).2.2.1.val->∀v2,v2=Cn.laid v1 (Cn.split h l).2.2.2->cond (nP ((Cn.split h l).1=3)) (Bm [.s [78,97,78]]) (cond (nP ((Cn.split h l).1=2)) (abV (Cn.split h l).2.1 [73,110,102,105,110,105,116,121]) (ck (nP (1<=v1.length/\v1.length<=40/\-10000<=(Cn.split h l).2.2.2/\(Cn.split h l).2.2.2<=100000)) (abV (Cn.split h l).2.1 v2)))=ρ):asQ h l=ρ:=Eq.trans (by kernel_rfl) (nY K:)
def ahP:Hint:=.s .o (.s .o (.s (.b (.l [(0,.no),(3,.dB 800000),(800000,.pv)] .o)) (.j [(3,.dB 800000),(800000,.pv)] .o .o)))
def awc(b:List UInt8):OT:=bT PG eD 228 bz ahP [.sl .bs b]
def acD(x0 x1:List UInt8):OT:=de PG eD 228 bz ahP 19 [.sl .bs x0,.pt,.sl .bs x1]
def acE(x0:List UInt8):OT:=dj PG eD 228 bz ahP 15 [.pt,.sl .bs x0]
theorem akk(x0 x1:List UInt8)(K:∀v1,v1=List.getD x0 (0:Int).toNat 0->∀v2,v2=oF v1 (2:UInt64).toNat->∀v3,v3=List.getD [65,66,67,68,69,70,71,72,73,74,75,76,77,78,79,80,81,82,83,84,85,86,87,88,89,90,97,98,99,100,101,102,103,104,105,106,107,108,109,110,111,112,113,114,115,116,117,118,119,120,121,122,48,49,50,51,52,53,54,55,56,57,43,47] (v2.toNat:Int).toNat 0->∀v4,v4=pj (v1&&&3) (4:UInt64).toNat->∀v5,v5=List.getD x0 (1:Int).toNat 0->∀v6,v6=oF v5 (4:UInt64).toNat->∀v7,v7=List.getD [65,66,67,68,69,70,71,72,73,74,75,76,77,78,79,80,81,82,83,84,85,86,87,88,89,90,97,98,99,100,101,102,103,104,105,106,107,108,109,110,111,112,113,114,115,116,117,118,119,120,121,122,48,49,50,51,52,53,54,55,56,57,43,47] ((v4|||v6).toNat:Int).toNat 0->∀v8,v8=pj (v5&&&15) (2:UInt64).toNat->∀v9,v9=List.getD x0 (2:Int).toNat 0->∀v10,v10=oF v9 (6:UInt64).toNat->∀v11,v11=List.getD [65,66,67,68,69,70,71,72,73,74,75,76,77,78,79,80,81,82,83,84,85,86,87,88,89,90,97,98,99,100,101,102,103,104,105,106,107,108,109,110,111,112,113,114,115,116,117,118,119,120,121,122,48,49,50,51,52,53,54,55,56,57,43,47] ((v8|||v10).toNat:Int).toNat 0->∀v12,v12=List.getD [65,66,67,68,69,70,71,72,73,74,75,76,77,78,79,80,81,82,83,84,85,86,87,88,89,90,97,98,99,100,101,102,103,104,105,106,107,108,109,110,111,112,113,114,115,116,117,118,119,120,121,122,48,49,50,51,52,53,54,55,56,57,43,47] ((v9&&&63).toNat:Int).toNat 0->∀jQ,jQ=([v3,v7,v11,v12]:List UInt8)->∀iW,iW=List.drop (3:Int).toNat x0->∀jb,jb=List.getD [65,66,67,68,69,70,71,72,73,74,75,76,77,78,79,80,81,82,83,84,85,86,87,88,89,90,97,98,99,100,101,102,103,104,105,106,107,108,109,110,111,112,113,114,115,116,117,118,119,120,121,122,48,49,50,51,52,53,54,55,56,57,43,47] (v4.toNat:Int).toNat 0->∀lU,lU=([v3,jb,61,61]:List UInt8)->∀sQ,sQ=List.getD [65,66,67,68,69,70,71,72,73,74,75,76,77,78,79,80,81,82,83,84,85,86,87,88,89,90,97,98,99,100,101,102,103,104,105,106,107,108,109,110,111,112,113,114,115,116,117,118,119,120,121,122,48,49,50,51,52,53,54,55,56,57,43,47] (v8.toNat:Int).toNat 0->∀s9,s9=([v3,v7,sQ,61]:List UInt8)->cond (nP (3<=(x0.length:Int))) (ck (bH 0 x0.length) (ck (bH (v2.toNat:Int) ([65,66,67,68,69,70,71,72,73,74,75,76,77,78,79,80,81,82,83,84,85,86,87,88,89,90,97,98,99,100,101,102,103,104,105,106,107,108,109,110,111,112,113,114,115,116,117,118,119,120,121,122,48,49,50,51,52,53,54,55,56,57,43,47]:bE).length) (ck (bH 0 x0.length) (ck (bH 1 x0.length) (ck (bH ((v4|||v6).toNat:Int) ([65,66,67,68,69,70,71,72,73,74,75,76,77,78,79,80,81,82,83,84,85,86,87,88,89,90,97,98,99,100,101,102,103,104,105,106,107,108,109,110,111,112,113,114,115,116,117,118,119,120,121,122,48,49,50,51,52,53,54,55,56,57,43,47]:bE).length) (ck (bH 1 x0.length) (ck (bH 2 x0.length) (ck (bH ((v8|||v10).toNat:Int) ([65,66,67,68,69,70,71,72,73,74,75,76,77,78,79,80,81,82,83,84,85,86,87,88,89,90,97,98,99,100,101,102,103,104,105,106,107,108,109,110,111,112,113,114,115,116,117,118,119,120,121,122,48,49,50,51,52,53,54,55,56,57,43,47]:bE).length) (ck (bH 2 x0.length) (ck (bH ((v9&&&63).toNat:Int) ([65,66,67,68,69,70,71,72,73,74,75,76,77,78,79,80,81,82,83,84,85,86,87,88,89,90,97,98,99,100,101,102,103,104,105,106,107,108,109,110,111,112,113,114,115,116,117,118,119,120,121,122,48,49,50,51,52,53,54,55,56,57,43,47]:bE).length) (ck (dU (x1.length+jQ.length) 1) (ck (iF 3 x0.length x0.length) (acD iW (x1++jQ)))))))))))))) (cond (nP ((x0.length:Int)=1)) (ck (bH 0 x0.length) (ck (bH (v2.toNat:Int) ([65,66,67,68,69,70,71,72,73,74,75,76,77,78,79,80,81,82,83,84,85,86,87,88,89,90,97,98,99,100,101,102,103,104,105,106,107,108,109,110,111,112,113,114,115,116,117,118,119,120,121,122,48,49,50,51,52,53,54,55,56,57,43,47]:bE).length) (ck (bH 0 x0.length) (ck (bH (v4.toNat:Int) ([65,66,67,68,69,70,71,72,73,74,75,76,77,78,79,80,81,82,83,84,85,86,87,88,89,90,97,98,99,100,101,102,103,104,105,106,107,108,109,110,111,112,113,114,115,116,117,118,119,120,121,122,48,49,50,51,52,53,54,55,56,57,43,47]:bE).length) (ck (dU (x1.length+lU.length) 1) (acE (x1++lU))))))) (cond (nP ((x0.length:Int)=2)) (ck (bH 0 x0.length) (ck (bH (v2.toNat:Int) ([65,66,67,68,69,70,71,72,73,74,75,76,77,78,79,80,81,82,83,84,85,86,87,88,89,90,97,98,99,100,101,102,103,104,105,106,107,108,109,110,111,112,113,114,115,116,117,118,119,120,121,122,48,49,50,51,52,53,54,55,56,57,43,47]:bE).length) (ck (bH 0 x0.length) (ck (bH 1 x0.length) (ck (bH ((v4|||v6).toNat:Int) ([65,66,67,68,69,70,71,72,73,74,75,76,77,78,79,80,81,82,83,84,85,86,87,88,89,90,97,98,99,100,101,102,103,104,105,106,107,108,109,110,111,112,113,114,115,116,117,118,119,120,121,122,48,49,50,51,52,53,54,55,56,57,43,47]:bE).length) (ck (bH 1 x0.length) (ck (bH (v8.toNat:Int) ([65,66,67,68,69,70,71,72,73,74,75,76,77,78,79,80,81,82,83,84,85,86,87,88,89,90,97,98,99,100,101,102,103,104,105,106,107,108,109,110,111,112,113,114,115,116,117,118,119,120,121,122,48,49,50,51,52,53,54,55,56,57,43,47]:bE).length) (ck (dU (x1.length+s9.length) 1) (acE (x1++s9)))))))))) (acE x1)))=ρ):acD x0 x1=ρ:=mY (by kernel_rfl) (jL (uJ (jL (jL K:):):):)
theorem acC(x0:List UInt8):acE x0=Bm [.s x0]:=oa (by kernel_rfl) rfl
theorem awb(b:List UInt8):awc b=acD b ([]:List UInt8):=by kernel_rfl
def apO(s:bE):OT:=bT PG eD 180 bz (.o) [.s s]
theorem apN(s:bE):apO s=Bm [.ag [.i .i64 5,.s s,.sl .ml ([]:List Mem)]]:=by kernel_rfl
def azS:cz:=cP gz zs [(102,adB,bz)]
def apK(v:Int):OT:=bT PG azS 181 bz (.o) [.i .i64 v]
theorem apJ(v:Int):apK v=ck (Nr.i64 v) (Bm [.ag [.i .i64 4,.s (Nr.itoa v),.sl .ml ([]:List Mem)]]):=by kernel_rfl
def apM(s:bE)(j:eV):OT:=bT PG eD 178 bz (.o) [.s s,.ag j.cells]
theorem apL(s:bE)(j:eV)(K:∀v1,v1=([Mem.mk s j.kind j.text j.kids]:List Mem)->Bm [.ag [.i .i64 7,.s [],.sl .ml v1]]=ρ):apM s j=ρ:=Eq.trans (by kernel_rfl) (qv K:)
def apQ(s:bE)(j:eV)(t:bE)(k:eV):OT:=bT PG eD 179 bz (.o) [.s s,.ag j.cells,.s t,.ag k.cells]
theorem apP(s:bE)(j:eV)(t:bE)(k:eV)(K:∀v1,v1=([Mem.mk s j.kind j.text j.kids,Mem.mk t k.kind k.text k.kids]:List Mem)->Bm [.ag [.i .i64 7,.s [],.sl .ml v1]]=ρ):apQ s j t k=ρ:=Eq.trans (by kernel_rfl) (qv K:)
def atu:cz:=cP gz zs [(229,aeu,bz)]
def amJ:Hint:=.s .o (.s .o (.s (.s .o (.b (.l [(0,.no),(3,.dB 800000),(4,.no),(800000,.pv)] .o))) .o))
def att(v:UInt64):OT:=bT PG atu 225 bz amJ [.u64 v]
def ab2(x0:UInt64)(x1:Int)(x2:List UInt8):OT:=de PG atu 225 bz amJ 43 [.u64 x0,.pt,.i .i64 x1,.sl .bs x2]
theorem ajB(x0:UInt64)(x1:Int)(x2:List UInt8)(K:∀v1,v1=UInt8.ofInt ((dc x0 x1.toNat).toNat:Int)->∀v2,v2=IntKind.i64.wrap (x1 -8)->cond (nP (0<=x1)) (ck (nP (0<=x1)) (ck (dU (x2.length+([v1]:List UInt8).length) 1) (ab2 x0 v2 (x2++([v1]:List UInt8))))) (ck (nP (x2.length<=1099511627776)) (Bm [.s (pT.text x2)]))=ρ):ab2 x0 x1 x2=ρ:=mY (by kernel_rfl) (nY K:)
theorem ats(v:UInt64):att v=ab2 v 56 ([]:List UInt8):=by kernel_rfl
def aAt:cz:=cP gz zs [(98,ag1,bz),(102,adB,bz),(178,adS,bz),(179,adW,bz),(180,adU,bz),(181,afc,bz),(225,amK,bz),(226,amd,bz),(227,amx,bz)]
def asr(v:Val):OT:=bT PG aAt 182 bP (.o) [.ag v.cells]
theorem asq(v:Val)(K:∀v1,v1=cond (nP ((Sh.text v.bits)=[78,97,78])) (!decide (v.bits=9221120237041090560)) Qg->∀v2,v2=Cn.str (Cn.high v.bits)->∀v3,v3=Cn.one [36,100,111,117,98,108,101,66,105,116,115] v2->∀v4,v4=Cn.str (Sh.text v.bits)->∀v5,v5=Cn.one [36,110,117,109,98,101,114,68,111,117,98,108,101] v4->∀v6,v6=IntKind.i64.wrap (v.bits.toNat:Int)->∀v7,v7=Cn.one [36,110,117,109,98,101,114,76,111,110,103] (Cn.str (Nr.itoa v6))->∀v8,v8=Cn.one [36,100,97,116,101] v7->∀v9,v9=IntKind.i32.wrap (v.bits.toNat:Int)->∀v10,v10=Nr.itoa (IntKind.i64.wrap v9)->∀v11,v11=Cn.one [36,110,117,109,98,101,114,73,110,116] (Cn.str v10)->∀v12,v12=dc v.bits (32:UInt64).toNat->∀jQ,jQ=IntKind.i64.wrap (v12.toNat:Int)->∀iW,iW=(v.bits&&&4294967295)->∀jb,jb=IntKind.i64.wrap (iW.toNat:Int)->∀lU,lU=Cn.two [116] (Cn.num jQ) [105] (Cn.num jb)->∀sQ,sQ=Cn.one [36,116,105,109,101,115,116,97,109,112] lU->∀s9,s9=Cn.vC v.high v.low->∀pn,pn=Cn.y9 v.high v.low->∀v20,v20=Cn.one [36,110,117,109,98,101,114,68,101,99,105,109,97,108] (Cn.str pn)->∀v21,v21=(Cn.high v.high)++(Cn.high v.low)->∀v22,v22=Cn.one [36,100,101,99,105,109,97,108,66,105,116,115] (Cn.str v21)->cond (nP (v.kind=1)) (ck (!(nP ((Sh.text v.bits)=[78,97,78]))||(nP ((Sh.text v.bits)=[78,97,78]))) (ck (!(nP ((Sh.text v.bits)=[78,97,78]))||(nP ((Sh.text v.bits)=[78,97,78]))) (ck (!(nP ((Sh.text v.bits)=[78,97,78]))||(nP ((Sh.text v.bits)=[78,97,78]))) (cond v1 (Bm [.ag v3.cells,.b Qf]) (Bm [.ag v5.cells,.b Qf]))))) (cond (nP (v.kind=9)) (ck (Nr.i64 v6) (Bm [.ag v8.cells,.b Qf])) (cond (nP (v.kind=16)) (ck (Nr.i64 (IntKind.i64.wrap v9)) (Bm [.ag v11.cells,.b Qf])) (cond (nP (v.kind=18)) (ck (Nr.i64 v6) (Bm [.ag v7.cells,.b Qf])) (cond (nP (v.kind=17)) (ck (Nr.i64 jQ) (ck (Nr.i64 jb) (Bm [.ag sQ.cells,.b Qf]))) (cond (nP (v.kind=19)) (cond s9 (Bm [.ag v20.cells,.b Qf]) (ck (nP ((Cn.high v.high).length+(Cn.high v.low).length<=9223372036854775807)) (Bm [.ag v22.cells,.b Qf]))) (Bm [.ag [.i .i64 0,.s [],.sl .ml ([]:List Mem)],.b Qg]))))))=ρ):asr v=ρ:=Eq.trans (by kernel_rfl) (jL (nY (jL (jL (jL K:):):):):)
def azV:cz:=cP gz zs [(178,adS,bz),(179,adW,bz),(180,adU,bz),(228,anE,bz),(229,aeu,bz)]
def aqd(v:Val):OT:=bT PG azV 183 bz (.o) [.ag v.cells]
theorem aqc(v:Val)(K:∀v1,v1=Cn.str (Cn.base v.bytes)->∀v2,v2=([UInt8.ofInt v.sub]:List UInt8)->∀v3,v3=Cn.two [98,97,115,101,54,52] v1 [115,117,98,84,121,112,101] (Cn.str (pT.text v2))->∀v4,v4=Cn.one [36,98,105,110,97,114,121] v3->∀v5,v5=Cn.str (pT.text v.bytes)->∀v6,v6=Cn.one [36,111,105,100] v5->∀v7,v7=Cn.two [112,97,116,116,101,114,110] (Cn.str v.text) [111,112,116,105,111,110,115] (Cn.str v.more)->∀v8,v8=Cn.one [36,114,101,103,117,108,97,114,69,120,112,114,101,115,115,105,111,110] v7->∀v9,v9=Cn.two [36,114,101,102] (Cn.str v.text) [36,105,100] v6->∀v10,v10=Cn.one [36,100,98,80,111,105,110,116,101,114] v9->∀v11,v11=Cn.one [36,99,111,100,101] (Cn.str v.text)->∀v12,v12=Cn.one [36,115,121,109,98,111,108] (Cn.str v.text)->cond (nP (v.kind=5)) (ck (nP (v.bytes.length<=1099511627776)) (ck (nP (v2.length<=1099511627776)) (Bm [.ag v4.cells]))) (cond (nP (v.kind=7)) (ck (nP (v.bytes.length<=1099511627776)) (Bm [.ag v6.cells])) (cond (nP (v.kind=11)) (Bm [.ag v8.cells]) (cond (nP (v.kind=12)) (ck (nP (v.bytes.length<=1099511627776)) (Bm [.ag v10.cells])) (cond (nP (v.kind=13)) (Bm [.ag v11.cells]) (cond (nP (v.kind=14)) (Bm [.ag v12.cells]) (Bm [.ag (Cn.str v.text).cells]))))))=ρ):aqd v=ρ:=Eq.trans (by kernel_rfl) (jL (nY (jL K:):):)
def avx(n:Nat):cz:=cP gz zs [(126,acg n,bz)] [51]
def ann:Hint:=.s .o (.s .o (.s (.s .o (.b (.l [(2,.ptr 28 0),(3,.ptr 29 0),(7,.no),(8,.no),(9,.no),(28,.cl [(2,800000)]),(29,.cl [(2,800001)]),(800000,.pv),(800001,.pv)] .o))) .o))
def avw(n:Nat)(l:List bB):OT:=bT PG (avx n) 77 oE ann [.sl .fl l]
def acq(n:Nat)(x0:List bB)(x1 x2 x3:Int)(x4:bE)(x5:Int)(x6:bE)(x7 x8:List Mem):OT:=de PG (avx n) 77 oE ann 43 [.pt,.pt,.sl .fl x0,.i .i64 x1,.i .i64 x2,.ag [.i .i64 x3,.s x4,.pt],.ag [.i .i64 x5,.s x6,.pt],.sl .ml x7,.sl .ml x8]
theorem aj9(n:Nat)(x0:List bB)(x1 x2 x3:Int)(x4:bE)(x5:Int)(x6:bE)(x7 x8:List Mem)(K:∀v1,v1=List.getD x0 x2.toNat (eu.dH .fl)->∀v2,v2=(Cn.C2 v1.val).kind->∀v3,v3=(Cn.C2 v1.val).text->∀v4,v4=(Cn.C2 v1.val).kids->∀v5,v5=([Mem.mk v1.name v2 v3 v4]:List Mem)->∀v6,v6=IntKind.i64.wrap (x2+1)->cond (nP (x2<x1)) (ck (bH x2 x0.length) (ck ((nP ((bB.of [] v1.val).bC<=1099511627776))&&nP ((2*(bB.of [] v1.val).bC)<n)) (ck (dU (x8.length+v5.length) 64) (acq n x0 x1 v6 x3 x4 x5 x6 x7 (x8++v5))))) (Bm [.ag [.i .i64 x5,.s x6,.sl .ml x8]])=ρ):acq n x0 x1 x2 x3 x4 x5 x6 x7 x8=ρ:=mY (by kernel_rfl) (jL (qv K:):)
theorem avv(n:Nat)(l:List bB):avw n l=acq n l (l.length:Int) 0 0 [] 7 [] ([]:List Mem) ([]:List Mem):=by kernel_rfl
def auT(n:Nat):cz:=cP gz zs [(77,aa2 n,oE),(130,adI,bz),(177,ahh,bz),(178,adS,bz),(179,adW,bz),(180,adU,bz),(181,afc,bz),(182,amq,bP),(183,alU,bz)]
def am9:Hint:=.s .o (.s (.s .o (.b (.s .o (.s .o (.s .o (.s (.s .o (.s .o (.s .o (.s (.s .o (.b (.l [(2,.ptr 97 0),(3,.ptr 98 0),(44,.no),(45,.no),(97,.cl [(2,800000)]),(98,.cl [(2,800001)]),(800000,.pv),(800001,.pv)] .o))) .o)))) .o)))))) .o)
def auS(n:Nat)(v:Val):OT:=bT PG (auT n) 126 bz am9 [.ag v.cells]
def acf(n:Nat)(x0 x1 x2:Int)(x3:bE)(x4:Int)(x5:bE)(x6 x7:List Mem):OT:=de PG (auT n) 126 bz am9 22389 [.pt,.pt,.i .i64 x0,.i .i64 x1,.ag [.i .i64 x2,.s x3,.pt],.ag [.i .i64 x4,.s x5,.pt],.sl .ml x6,.sl .ml x7]
theorem ajX(n:Nat)(x0 x1 x2:Int)(x3:bE)(x4:Int)(x5:bE)(x6 x7:List Mem)(K:∀v1,v1=List.set x7 x1.toNat (Mem.mk [] (List.getD x7 x1.toNat (eu.dH .ml)).kind (List.getD x7 x1.toNat (eu.dH .ml)).text (List.getD x7 x1.toNat (eu.dH .ml)).kids)->∀v2,v2=IntKind.i64.wrap (x1+1)->cond (nP (x1<x0)) (ck (bH x1 x7.length) (ck (nP (x1.toNat<x7.length)) (acf n x0 v2 x2 x3 x4 x5 x6 v1))) (Bm [.ag [.i .i64 x4,.s x5,.sl .ml x7]])=ρ):acf n x0 x1 x2 x3 x4 x5 x6 x7=ρ:=mY (by kernel_rfl) (nY K:)
theorem auR(n:Nat)(v:Val)(K:∀v1,v1=(v.kids.length:Int)->∀v2,v2=List.getD v.kids (0:Int).toNat (eu.dH .fl)->∀v3,v3=List.isPrefixOf [36] v2.name->∀v4,v4=cond (nP (0<v1)) v3 Qg->∀v5,v5=(Cn.tV v.kids).kids->∀v6,v6=(Cn.tV v.kids).kind->∀v7,v7=(Cn.tV v.kids).text->∀v8,v8=Cn.one [36,100,111,99,117,109,101,110,116] (eV.mk v6 v7 v5)->∀v9,v9=Tree.regular v.kids->∀v10,v10=Cn.one [36,97,114,114,97,121] (eV.mk v6 v7 v5)->∀v11,v11=Cn.two [36,99,111,100,101] (Cn.str v.text) [36,115,99,111,112,101] (eV.mk v6 v7 v5)->∀v12,v12=Cn.one [36,117,110,100,101,102,105,110,101,100] (eV.mk 3 [] ([]:List Mem))->∀jQ,jQ=IntKind.i64.wrap (v.bits.toNat:Int)->∀iW,iW=IntKind.i64.wrap (2+jQ)->∀jb,jb=Cn.one [36,109,105,110,75,101,121] (Cn.num 1)->∀lU,lU=Cn.one [36,109,97,120,75,101,121] (Cn.num 1)->cond (nP (v.kind=3)) (ck (!(nP (0<v1))||(nP (0<v1))) (ck (!(nP (0<v1))||((nP (0<v1))&&(bH 0 v.kids.length))) (ck (!(nP (0<v1))||(nP (0<v1))) (ck (!(nP (0<v1))||(nP (0<v1))) (ck (!(nP (0<v1))||(nP (0<v1))) (ck (!(nP (0<v1))||(nP (0<v1))) (cond v4 (ck ((nP (bB.bD v.kids<=1099511627776))&&nP ((2*bB.bD v.kids+1)<n)) (Bm [.ag v8.cells])) (ck ((nP (bB.bD v.kids<=1099511627776))&&nP ((2*bB.bD v.kids+1)<n)) (Bm [.ag [.i .i64 v6,.s v7,.sl .ml v5]]))))))))) (cond (nP (v.kind=4)) (ck ((nP (bB.bD v.kids<=1099511627776))&&nP ((2*bB.bD v.kids+1)<n)) (ck (nP (v.kids.length<=1099511627776)) (cond (!v9) (Bm [.ag v10.cells]) (acf n (v5.length:Int) 0 0 [] 6 v7 ([]:List Mem) v5)))) (cond (nP (v.kind=15)) (ck ((nP (bB.bD v.kids<=1099511627776))&&nP ((2*bB.bD v.kids+1)<n)) (Bm [.ag v11.cells])) (cond (nP (v.kind=6)) (Bm [.ag v12.cells]) (cond (nP (v.kind=8)) (Bm [.ag [.i .i64 iW,.s [],.sl .ml ([]:List Mem)]]) (cond (nP (v.kind=10)) (Bm [.ag [.i .i64 1,.s [],.sl .ml ([]:List Mem)]]) (cond (nP (v.kind=255)) (ck (Nr.i64 1) (Bm [.ag jb.cells])) (cond (nP (v.kind=127)) (ck (Nr.i64 1) (Bm [.ag lU.cells])) (cond (Cn.tH v).2 (Bm [.ag (Cn.tH v).1.cells]) (ck (nP ((bB.of [] v).bC<=1099511627776)) (Bm [.ag (Cn.wC v).cells]))))))))))=ρ):auS n v=ρ:=Eq.trans (by kernel_rfl) (jL (qv (jL (jL K:):):):)
def aAe:cz:=cP gz zs [(44,abG,bP),(77,ano,oE)]
def arq(v:Val):OT:=bT PG aAe 49 bP (.o) [.ag v.cells]
theorem arp(v:Val)(K:∀v1,v1=(Tree.gw (bB.of [] v) []).1->∀v2,v2=(Tree.gw (bB.of [] v) []).2->∀v3,v3=(Cn.tV v.kids).kids->∀v4,v4=(Cn.tV v.kids).kind->∀v5,v5=(Cn.tV v.kids).text->ck (nP ((bB.of [] v).bC<=1099511627776)) (cond (!decide (v2=0)) (Bm [.ag [.i .i64 0,.s [],.sl .ml ([]:List Mem)],.ag [.i .i64 v2,.i .i64 0,.sl .is v1]]) (cond (!decide (v.kind=3)) (Bm [.ag [.i .i64 0,.s [],.sl .ml ([]:List Mem)],.ag [.i .i64 5,.i .i64 0,.sl .is ([]:List Int)]]) (ck (nP (bB.bD v.kids<=1099511627776)) (Bm [.ag [.i .i64 v4,.s v5,.sl .ml v3],.ag [.i .i64 0,.i .i64 0,.sl .is ([]:List Int)]]))))=ρ):arq v=ρ:=Eq.trans (by kernel_rfl) (jL K:)
def azJ:cz:=cP gz zs [(84,adE,bP)]
def aoV(s:bE):OT:=bT PG azJ 127 bz (.o) [.s s]
theorem aoU(s:bE):aoV s=ck (mZ s.length) (ck (nP (s.length<=1099511627776)) (Bm [.b (fJ.whole s)])):=by kernel_rfl
end Go.Eng
namespace Go.Eng
open Go.Proofs
variable{ρ:OT}
def aoq(n:Nat):cz:=cP gz zs [(78,abp n,bz),(100,aiW,bz),(127,aeS,bz)]
def aiC:Hint:=.s .o (.s .o (.s (.s .o (.b (.l [(1,.ptr 105 0),(47,.no),(48,.no),(49,.no),(105,.cl [])] .o))) (.s .o (.s .o (.s (.s .o (.b (.l (sc [87,88,89]) .o))) .o)))))
def ayi(n:Nat)(j:eV):OT:=bT PG (aoq n) 78 bz aiC [.ag j.cells]
def adb(n:Nat)(x0:List Mem)(x1 x2:Int)(x3:eV):OT:=de PG (aoq n) 78 bz aiC 43 [.pt,.sl .ml x0,.i .i64 x1,.i .i64 x2,.ag x3.cells]
def ada(n:Nat)(x0:List Mem)(x1 x2:Int):OT:=de PG (aoq n) 78 bz aiC 351 [.sl .ml x0,.i .i64 x1,.i .i64 x2]
theorem ak0(n:Nat)(x0:List Mem)(x1 x2:Int)(x3:eV)(K:∀v1,v1=List.getD x0 x2.toNat (eu.dH .ml)->∀v2,v2=cond (nP (x3.kind=6)) (!decide (v1.name=[])) Qg->∀v3,v3=IntKind.i64.wrap (x2+1)->∀v4,v4=((nP (x3.kind=4))&&(!(nP ((Nr.kA x3.text)=0))))->∀v5,v5=(x3.text.length:Int)->∀v6,v6=cond (nP ((Nr.kA x3.text)=0)) Qf (nP (300<v5))->∀v7,v7=cond (nP (x3.kind=4)) v6 Qg->∀v8,v8=!(fJ.whole x3.text)->∀v9,v9=cond (nP (x3.kind=5)) v8 Qg->∀v10,v10=(x3.kids.length:Int)->cond (nP (x2<x1)) (ck (bH x2 x0.length) (ck (!(nP (x3.kind=6))||(nP (x3.kind=6))) (ck (!(nP (x3.kind=6))||(nP (x3.kind=6))) (ck (!(nP (x3.kind=6))||(nP (x3.kind=6))) (cond v2 (Bm [.i .i64 1]) (adb n x0 x1 v3 x3)))))) (ck (!(nP (x3.kind=4))||(nP (x3.kind=4))) (ck (!(nP (x3.kind=4))||((nP (x3.kind=4))&&(nP (x3.text.length<=1099511627776)))) (ck (!(nP (x3.kind=4))||(nP (x3.kind=4))) (ck (!(nP (x3.kind=4))||(nP (x3.kind=4))) (ck (!v4||v4) (ck (!v4||v4) (ck (!v4||v4) (ck (!(nP (x3.kind=4))||((nP (x3.kind=4))&&((nP ((Nr.kA x3.text)=0))||v4))) (ck (!(nP (x3.kind=4))||(nP (x3.kind=4))) (cond v7 (Bm [.i .i64 10]) (ck (!(nP (x3.kind=5))||(nP (x3.kind=5))) (ck (!(nP (x3.kind=5))||((nP (x3.kind=5))&&(nP (x3.text.length<=1099511627776)))) (ck (!(nP (x3.kind=5))||(nP (x3.kind=5))) (ck (!(nP (x3.kind=5))||(nP (x3.kind=5))) (cond v9 (Bm [.i .i64 4]) (ada n x3.kids v10 0))))))))))))))))=ρ):adb n x0 x1 x2 x3=ρ:=mY (by kernel_rfl) (jL (jL K:):)
theorem akY(n:Nat)(x0:List Mem)(x1 x2:Int)(K:∀v1,v1=List.getD x0 x2.toNat (eu.dH .ml)->∀v2,v2=!(fJ.whole v1.name)->∀v3,v3=IntKind.i64.wrap (x2+1)->cond (nP (x2<x1)) (ck (bH x2 x0.length) (ck (nP (v1.name.length<=1099511627776)) (cond v2 (Bm [.i .i64 4]) (ck ((nP (v1.val.bC<=1099511627776))&&nP (v1.val.bC<n)) (cond (!decide ((Cn.pS v1.val)=0)) (Bm [.i .i64 (Cn.pS v1.val)]) (ada n x0 x1 v3)))))) (Bm [.i .i64 0])=ρ):ada n x0 x1 x2=ρ:=mY (by kernel_rfl) (uJ K:)
theorem ayh(n:Nat)(j:eV)(K:∀v1,v1=cond (nP (j.kind<1)) Qf (nP (7<j.kind))->∀v2,v2=(j.kids.length:Int)->∀v3,v3=cond (nP (0<v2)) (!decide (j.kind=6)) Qg->∀v4,v4=cond v3 (!decide (j.kind=7)) Qg->∀v5,v5=cond (!decide (j.text=[])) (!decide (j.kind=4)) Qg->∀v6,v6=cond v5 (!decide (j.kind=5)) Qg->ck (!(!(nP (j.kind<1)))||(!(nP (j.kind<1)))) (ck (!(!(nP (j.kind<1)))||(!(nP (j.kind<1)))) (ck ((nP (j.kind<1))||(!(nP (j.kind<1)))) (cond v1 (Bm [.i .i64 1]) (ck (!(nP (0<v2))||(nP (0<v2))) (ck (!(nP (0<v2))||(nP (0<v2))) (ck (!(nP (0<v2))||(nP (0<v2))) (ck (!v3||v3) (ck (!v3||v3) (ck (!v3||v3) (cond v4 (Bm [.i .i64 1]) (ck (!(!decide (j.text=[]))||(!decide (j.text=[]))) (ck (!(!decide (j.text=[]))||(!decide (j.text=[]))) (ck (!(!decide (j.text=[]))||(!decide (j.text=[]))) (ck (!v5||v5) (ck (!v5||v5) (ck (!v5||v5) (cond v6 (Bm [.i .i64 1]) (adb n j.kids v2 0 j))))))))))))))))))=ρ):ayi n j=ρ:=Eq.trans (by kernel_rfl) (jL (qv K:):)
def an0:cz:=cP gz zs [(127,aeS,bz),(229,aeu,bz),(230,amH,bz)]
def aih:Hint:=.s .o (.s .o (.s .o (.s (.s .o (.b (.l [(0,.no),(4,.dB 800000),(13,.no),(14,.no),(800000,.pv)] (.s .o (.s .o (.j [(0,.no),(4,.dB 800000),(13,.no),(14,.no),(800000,.pv)] .o .o)))))) .o)))
def axg(s:bE):OT:=bT PG an0 184 bP aih [.s s]
def acP(x0:bE)(x1 x2:Int)(x3:List UInt8):OT:=de PG an0 184 bP aih 87 [.s x0,.pt,.i .i64 x1,.i .i64 x2,.sl .bs x3]
def abi(x0:bE)(x1 x2:Int)(x3:List UInt8):OT:=dj PG an0 184 bP aih 919 [.s x0,.pt,.i .i64 x1,.i .i64 x2,.sl .bs x3]
theorem akE(x0:bE)(x1 x2:Int)(x3:List UInt8)(K:∀v1,v1=List.getD x0 x2.toNat 0->∀v2,v2=Lib.indexByte [34,92,8,12,10,13,9] v1->∀v3,v3=List.getD [34,92,98,102,110,114,116] v2.toNat 0->∀v4,v4=([92,v3]:List UInt8)->∀v5,v5=x3++[92,117,48,48]->∀v6,v6=pT.text ([v1]:List UInt8)->∀v7,v7=([34]:List UInt8)->cond (nP (x2<x1)) (ck (bH x2 x0.length) (cond (nP (0<=v2)) (ck (bH v2 ([34,92,98,102,110,114,116]:bE).length) (ck (dU (x3.length+v4.length) 1) (abi x0 x1 x2 (x3++v4)))) (cond (nP (v1<32)) (ck (dU (x3.length+([92,117,48,48]:bE).length) 1) (ck (nP (([v1]:List UInt8).length<=1099511627776)) (ck (dU (v5.length+v6.length) 1) (abi x0 x1 x2 (v5++v6))))) (ck (dU (x3.length+([v1]:List UInt8).length) 1) (abi x0 x1 x2 (x3++([v1]:List UInt8))))))) (ck (dU (x3.length+v7.length) 1) (Bm [.s (x3++v7),.b Qf]))=ρ):acP x0 x1 x2 x3=ρ:=mY (by kernel_rfl) (jL (nY K:):)
theorem axe(x0:bE)(x1 x2:Int)(x3:List UInt8)(K:∀v1,v1=IntKind.i64.wrap (x2+1)->acP x0 x1 v1 x3=ρ):abi x0 x1 x2 x3=ρ:=oa (by kernel_rfl) (qv K:)
theorem axf(s:bE)(K:∀v1,v1=([34]:List UInt8)->ck (nP (s.length<=1099511627776)) (cond (!(fJ.whole s)) (Bm [.s [],.b Qg]) (acP s (s.length:Int) 0 v1))=ρ):axg s=ρ:=Eq.trans (by kernel_rfl) (qv K:)
def aAA:cz:=cP gz zs [(184,anZ,bP)]
def atk(b:List UInt8)(s:bE):OT:=bT PG aAA 128 aeb (.o) [.sl .bs b,.s s]
theorem atj(b:List UInt8)(s:bE):atk b s=ck (nP (s.length<=1000000000000)) (ck (dU (b.length+(Cn.mK s).length) 1) (Bm [.sl .bs (b++(Cn.mK s))])):=by kernel_rfl
def aeE(n:Nat):cz:=cP gz zs [(79,abo n,Ya),(128,amG,aeb)]
def adH:Hint:=.s .o (.s .o (.s .o (.j [(0,.dB 1000000),(3,.ptr 76 0),(5,.no),(6,.no),(76,.cl []),(1000000,.pv)] .o (.s .o (.s (.s .o (.b (.l [(0,.dB 800000),(3,.ptr 76 0),(6,.no),(43,.no),(44,.no),(45,.no),(76,.cl []),(800000,.pv)] (.s .o (.s .o (.s (.b (.s .o (.j [(0,.dB 800000),(3,.ptr 76 0),(6,.no),(8,.ptr 81 0),(43,.no),(44,.no),(45,.no),(76,.cl []),(81,.cl []),(800000,.pv)] .o (.j [(0,.dB 800000),(3,.ptr 76 0),(6,.no),(8,.ptr 81 0),(43,.no),(44,.no),(45,.no),(76,.cl []),(81,.cl []),(800000,.pv)] .o .o)))) .o)))))) .o)))))
def aya(n:Nat)(b:List UInt8)(j:eV):OT:=bT PG (aeE n) 79 Ya adH [.sl .bs b,.ag j.cells]
def ac8(n:Nat)(x0 x1:UInt8)(x2:eV)(x3:List UInt8):OT:=dj PG (aeE n) 79 Ya adH 15 [.pt,.pt,.u8 x0,.u8 x1,.ag x2.cells,.sl .bs x3]
def ac5(n:Nat)(x0:UInt8)(x1:List Mem)(x2 x3:Int)(x4:eV)(x5:List UInt8):OT:=de PG (aeE n) 79 Ya adH 351 [.pt,.pt,.u8 x0,.sl .ml x1,.i .i64 x2,.i .i64 x3,.ag x4.cells,.sl .bs x5]
def ac7(n:Nat)(x0:UInt8)(x1:List Mem)(x2 x3:Int)(x4:eV)(x5:Mem)(x6:List UInt8):OT:=dj PG (aeE n) 79 Ya adH 26207 [.pt,.pt,.u8 x0,.pt,.sl .ml x1,.i .i64 x2,.i .i64 x3,.ag x4.cells,.ag x5.cells,.sl .bs x6]
def ac6(n:Nat)(x0:UInt8)(x1:List Mem)(x2 x3:Int)(x4:eV)(x5:Mem)(x6:List UInt8):OT:=dj PG (aeE n) 79 Ya adH 58975 [.pt,.pt,.u8 x0,.pt,.sl .ml x1,.i .i64 x2,.i .i64 x3,.ag x4.cells,.ag x5.cells,.sl .bs x6]
theorem ax8(n:Nat)(x0 x1:UInt8)(x2:eV)(x3:List UInt8)(K:∀v1,v1=(x2.kids.length:Int)->ck (dU (x3.length+([x0]:List UInt8).length) 1) (ac5 n x1 x2.kids v1 0 x2 (x3++([x0]:List UInt8)))=ρ):ac8 n x0 x1 x2 x3=ρ:=oa (by kernel_rfl) (qv K:)
theorem akV(n:Nat)(x0:UInt8)(x1:List Mem)(x2 x3:Int)(x4:eV)(x5:List UInt8)(K:∀v1,v1=List.getD x1 x3.toNat (eu.dH .ml)->∀v2,v2=([44]:List UInt8)->cond (nP (x3<x2)) (ck (bH x3 x1.length) (cond (nP (0<x3)) (ck (dU (x5.length+v2.length) 1) (ac7 n x0 x1 x2 x3 x4 v1 (x5++v2))) (ac7 n x0 x1 x2 x3 x4 v1 x5))) (ck (dU (x5.length+([x0]:List UInt8).length) 1) (Bm [.sl .bs (x5++([x0]:List UInt8))]))=ρ):ac5 n x0 x1 x2 x3 x4 x5=ρ:=mY (by kernel_rfl) (nY K:)
theorem ax6(n:Nat)(x0:UInt8)(x1:List Mem)(x2 x3:Int)(x4:eV)(x5:Mem)(x6:List UInt8)(K:∀v1,v1=x6++Cn.mK x5.name->∀v2,v2=([58]:List UInt8)->cond (nP (x4.kind=7)) (ck (nP (x6.length+6*x5.name.length<=5000000000000)) (ck (dU (v1.length+v2.length) 1) (ac6 n x0 x1 x2 x3 x4 x5 (v1++v2)))) (ac6 n x0 x1 x2 x3 x4 x5 x6)=ρ):ac7 n x0 x1 x2 x3 x4 x5 x6=ρ:=oa (by kernel_rfl) (nY K:)
theorem ayb(n:Nat)(x0:UInt8)(x1:List Mem)(x2 x3:Int)(x4:eV)(x5:Mem)(x6:List UInt8)(K:∀v1,v1=x6++Cn.yC x5.val->∀v2,v2=IntKind.i64.wrap (x3+1)->ck ((nP (x6.length+12*x5.val.bC<=4000000000000))&&nP (x5.val.bC<n)) (ac5 n x0 x1 x2 v2 x4 v1)=ρ):ac6 n x0 x1 x2 x3 x4 x5 x6=ρ:=oa (by kernel_rfl) (nY K:)
theorem ax9(n:Nat)(b:List UInt8)(j:eV)(K:∀v1,v1=b++([110,117,108,108]:bE)->∀v2,v2=b++([102,97,108,115,101]:bE)->∀v3,v3=b++([116,114,117,101]:bE)->∀v4,v4=b++Cn.mK j.text->cond (nP (j.kind=1)) (ck (dU (b.length+([110,117,108,108]:bE).length) 1) (Bm [.sl .bs v1])) (cond (nP (j.kind=2)) (ck (dU (b.length+([102,97,108,115,101]:bE).length) 1) (Bm [.sl .bs v2])) (cond (nP (j.kind=3)) (ck (dU (b.length+([116,114,117,101]:bE).length) 1) (Bm [.sl .bs v3])) (cond (nP (j.kind=4)) (ck (dU (b.length+j.text.length) 1) (Bm [.sl .bs (b++j.text)])) (cond (nP (j.kind=5)) (ck (nP (b.length+6*j.text.length<=5000000000000)) (Bm [.sl .bs v4])) (cond (nP (j.kind=7)) (ac8 n 123 125 j b) (ac8 n 91 93 j b))))))=ρ):aya n b j=ρ:=Eq.trans (by kernel_rfl) (vg K:)
def aAq:cz:=cP gz zs [(78,aop,bz),(79,aom,Ya)]
def asb(j:eV):OT:=bT PG aAq 50 bP (.o) [.ag j.cells]
theorem asa(j:eV)(K:∀v1,v1=([]:List UInt8)++Cn.yC j->ck (nP (j.bC<=1099511627776)) (cond (!decide ((Cn.pS j)=0)) (Bm [.s [],.i .i64 (Cn.pS j)]) (ck (nP (([]:List UInt8).length+12*j.bC<=4000000000000)) (Bm [.s v1,.i .i64 0])))=ρ):asb j=ρ:=Eq.trans (by kernel_rfl) (qv K:)
def azU:cz:=cP gz zs [(49,afV,bP),(50,agn,bP)]
def aqa(v:Val):OT:=bT PG azU 31 bP (.o) [.ag v.cells]
theorem ap9(v:Val):aqa v=ck (nP ((bB.of [] v).bC<=1099511627776)) (cond (!decide ((Cn.jO v).2=0)) (Bm [.s [],.ag [.i .i64 (Cn.jO v).2,.i .i64 0,.sl .is (Cn.jO v).1]]) (ck (nP (12*(Cn.pB v).bC<=1000000000000)) (Bm [.s (Cn.oH (Cn.pB v)),.ag [.i .i64 (Cn.pS (Cn.pB v)),.i .i64 0,.sl .is ([]:List Int)]]))):=by kernel_rfl
def atU(a:List UInt8):OT:=bT PG eD 26 lA (.o) [.sl .bs a]
theorem atT(a:List UInt8):atU a=cond (List.isEmpty a) (both (Bm [.sl .bs ([]:List UInt8)]) (ck (dU (([]:List UInt8).length+a.length) 1) (Bm [.sl .bs (([]:List UInt8)++a)]))) (ck (dU (([]:List UInt8).length+a.length) 1) (Bm [.sl .bs (([]:List UInt8)++a)])):=by kernel_rfl
def apW(b:UInt64):OT:=bT PG eD 146 bz (.o) [.u64 b]
theorem apV(b:UInt64)(K:∀v1,v1=(b&&&~~~9223372036854775808)->∀v2,v2=IntKind.i64.wrap (v1.toNat:Int)->∀v3,v3=dc b (63:UInt64).toNat->cond (nP (v3=1)) (Bm [.i .i64 (IntKind.i64.wrap (0 -v2))]) (Bm [.i .i64 v2])=ρ):apW b=ρ:=Eq.trans (by kernel_rfl) (uJ K:)
def azK:cz:=cP gz zs [(97,adC,aam),(146,alP,bz)]
def apb(a b:UInt64):OT:=bT PG azK 99 bP (.o) [.u64 a,.u64 b]
theorem apa(a b:UInt64)(K:∀v1,v1=cond (nP ((Nr.split a).1=4)) Qf (nP ((Nr.split b).1=4))->ck (!(!(nP ((Nr.split a).1=4)))||(!(nP ((Nr.split a).1=4)))) (ck ((nP ((Nr.split a).1=4))||(!(nP ((Nr.split a).1=4)))) (cond v1 (Bm [.i .i64 0,.b Qg]) (cond (nP ((Rl.order a)<(Rl.order b))) (Bm [.i .i64 (-1),.b Qf]) (cond (nP ((Rl.order b)<(Rl.order a))) (Bm [.i .i64 1,.b Qf]) (Bm [.i .i64 0,.b Qf])))))=ρ):apb a b=ρ:=Eq.trans (by kernel_rfl) (qv K:)
def ao1(t:bE):OT:=bT PG eD 185 bz (.o) [.s t]
theorem ao0(t:bE):ao1 t=Bm [.ag [.i .i64 4,.s t,.sl .ml ([]:List Mem)]]:=by kernel_rfl
def aAo:cz:=cP gz zs [(97,adC,aam),(98,ag1,bz),(99,alE,bP),(100,aiW,bz)]
def ar7(b:UInt64):OT:=bT PG aAo 60 bP (.o) [.u64 b]
theorem ar6(b:UInt64)(K:∀v1,v1=(b&&&~~~9223372036854775808)->∀v2,v2=(Rl.EI v1 4845873199050653696).1->∀v3,v3=(Rl.EI v1 4845873199050653696).2->∀v4,v4=cond (nP (v2<0)) Qf (nP ((Nr.kA (Sh.text b))=2))->cond (nP ((Nr.split b).1=1)) (Bm [.s [48],.b (!(Nr.split b).2.1)]) (cond (!decide ((Nr.split b).1=2)) (Bm [.s [],.b Qg]) (ck (!(!(nP (v2<0)))||((!(nP (v2<0)))&&(nP ((Sh.text b).length<=1099511627776)))) (ck (!(!(nP (v2<0)))||(!(nP (v2<0)))) (ck ((nP (v2<0))||(!(nP (v2<0)))) (Bm [.s (Sh.text b),.b v4])))))=ρ):ar7 b=ρ:=Eq.trans (by kernel_rfl) (vg K:)
def azN:cz:=cP gz zs [] [19]
def apk(s:bE)(j:eV):OT:=bT PG azN 187 oE (.o) [.s s,.ag j.cells]
theorem apj(s:bE)(j:eV)(K:∀v1,v1=([Mem.mk s j.kind j.text j.kids]:List Mem)->Bm [.ag [.i .i64 7,.s [],.sl .ml v1]]=ρ):apk s j=ρ:=Eq.trans (by kernel_rfl) (qv K:)
def aiF(n:Nat):cz:=cP gz zs [(26,aaQ,lA),(38,abr n,bz),(60,agj,bP),(61,alv,bP)]
def aeG:Hint:=.s .o (.s .o (.s .o (.s (.s .o (.b (.l [(1,.ptr 76 0),(2,.ptr 77 0),(17,.no),(18,.no),(19,.no),(76,.cl [(8,800000)]),(77,.cl [(8,800001)]),(800000,.pv),(800001,.pv)] .o))) (.s .o (.j [(1,.ptr 76 0),(2,.ptr 77 0),(6,.no),(7,.no),(76,.cl [(8,800000)]),(77,.cl [(8,800001)]),(800000,.pv),(800001,.pv)] .o (.j [(1,.ptr 76 0),(2,.ptr 77 0),(76,.cl [(8,800000)]),(77,.cl [(8,800001)]),(800000,.pv),(800001,.pv)] .o .o))))))
def aym(n:Nat)(v:Val):OT:=bT PG (aiF n) 38 bz aeG [.ag v.cells]
def ade(n:Nat)(x0:List bB)(x1 x2 x3:Int)(x4 x5 x6:UInt64)(x7 x8:bE)(x9:Int)(lM:List UInt8)(kh:Int)(lN q7 pU:UInt64)(ud xc:bE)(xG:Int)(zZ:List UInt8)(CV NC:List bB):OT:=de PG (aiF n) 38 bz aeG 87 [.pt,.pt,.sl .fl x0,.i .i64 x1,.i .i64 x2,.ag [.i .i64 x3,.u64 x4,.u64 x5,.u64 x6,.s x7,.s x8,.i .i64 x9,.sl .bs lM,.pt],.ag [.i .i64 kh,.u64 lN,.u64 q7,.u64 pU,.s ud,.s xc,.i .i64 xG,.sl .bs zZ,.pt],.sl .fl CV,.sl .fl NC]
def abq(n:Nat)(x0:Int)(x1:Bool)(x2:Int)(x3 x4 x5:UInt64)(x6 x7:bE)(x8:Int)(x9:List UInt8)(lM:Int)(kh lN q7:UInt64)(pU ud:bE)(xc:Int)(xG:List UInt8)(zZ CV:List bB):OT:=dj PG (aiF n) 38 bz aeG 63 [.pt,.pt,.i .i64 x0,.b x1,.ag [.i .i64 x2,.u64 x3,.u64 x4,.u64 x5,.s x6,.s x7,.i .i64 x8,.sl .bs x9,.pt],.ag [.i .i64 lM,.u64 kh,.u64 lN,.u64 q7,.s pU,.s ud,.i .i64 xc,.sl .bs xG,.pt],.sl .fl zZ,.sl .fl CV]
def adf(n:Nat)(x0:Int)(x1 x2 x3:UInt64)(x4 x5:bE)(x6:Int)(x7:List UInt8)(x8:Int)(x9 lM kh:UInt64)(lN q7:bE)(pU:Int)(ud:List UInt8)(xc xG:List bB):OT:=dj PG (aiF n) 38 bz aeG 127 [.pt,.pt,.ag [.i .i64 x0,.u64 x1,.u64 x2,.u64 x3,.s x4,.s x5,.i .i64 x6,.sl .bs x7,.pt],.ag [.i .i64 x8,.u64 x9,.u64 lM,.u64 kh,.s lN,.s q7,.i .i64 pU,.sl .bs ud,.pt],.sl .fl xc,.sl .fl xG]
theorem ak2(n:Nat)(x0:List bB)(x1:Int)(x2:Int)(x3:Int)(x4:UInt64)(x5:UInt64)(x6:UInt64)(x7:bE)(x8:bE)(x9:Int)(lM:List UInt8)(kh:Int)(lN:UInt64)(q7:UInt64)(pU:UInt64)(ud:bE)(xc:bE)(xG:Int)(zZ:List UInt8)(CV:List bB)(NC:List bB)(K:∀(v1:bB)(h1:v1=(List.getD x0 (x2).toNat (eu.dH .fl)))(v2:Int)(h2:v2=(Val.kind (Rl.jN (bB.val v1))))(v3:UInt64)(h3:v3=(Val.bits (Rl.jN (bB.val v1))))(v4:UInt64)(h4:v4=(Val.high (Rl.jN (bB.val v1))))(v5:UInt64)(h5:v5=(Val.low (Rl.jN (bB.val v1))))(v6:bE)(h6:v6=(Val.text (Rl.jN (bB.val v1))))(v7:bE)(h7:v7=(Val.more (Rl.jN (bB.val v1))))(v8:Int)(h8:v8=(Val.sub (Rl.jN (bB.val v1))))(v9:List UInt8)(h9:v9=(Val.bytes (Rl.jN (bB.val v1))))(v10:List bB)(kv:v10=(Val.kids (Rl.jN (bB.val v1))))(v11:List bB)(nK:v11=([(bB.mk (bB.name v1) v2 v3 v4 v5 v6 v7 v8 v9 v10)]:List bB))(v12:Int)(mS:v12=(IntKind.i64.wrap (x2+(1:Int))))(jQ:Int)(rm:jQ=(IntKind.i64.wrap ((x4).toNat:Int)))(iW:Int)(s0:iW=((Rl.lZ (((Rl.number x4).1))).getD 0))(jb:Bool)(sZ:jb=((Rl.lZ (((Rl.number x4).1))).isSome)),cond (nP (x2<x1)) (ck (bH x2 (x0).length) (ck ((nP (bB.bC (bB.of [] (bB.val v1))<=1000000000000))&&nP ((bB.bC (bB.of [] (bB.val v1)))<n)) (ck (dU ((CV).length+(v11).length) 136) (ade n x0 x1 v12 x3 x4 x5 x6 x7 x8 x9 lM kh lN q7 pU ud xc xG zZ (CV++v11) NC)))) (cond (nP (x3=(1:Int))) (cond ((Rl.number x4).2) (ck (nP (((((Rl.number x4).1))).length<=281474976710656)) (abq n iW jb x3 x4 x5 x6 x7 x8 x9 lM kh lN q7 pU ud xc xG zZ CV NC)) (abq n jQ (nP (x3=(18:Int))) x3 x4 x5 x6 x7 x8 x9 lM kh lN q7 pU ud xc xG zZ CV NC)) (abq n jQ (nP (x3=(18:Int))) x3 x4 x5 x6 x7 x8 x9 lM kh lN q7 pU ud xc xG zZ CV NC))=ρ):ade n x0 x1 x2 x3 x4 x5 x6 x7 x8 x9 lM kh lN q7 pU ud xc xG zZ CV NC=ρ:=((gJ _ _ _ _ _ _ _).trans (by kernel_rfl)).trans (K _ rfl _ rfl _ rfl _ rfl _ rfl _ rfl _ rfl _ rfl _ rfl _ rfl _ rfl _ rfl _ rfl _ rfl _ rfl)
theorem ayk(n:Nat)(x0:Int)(x1:Bool)(x2:Int)(x3 x4 x5:UInt64)(x6 x7:bE)(x8:Int)(x9:List UInt8)(lM:Int)(kh lN q7:UInt64)(pU ud:bE)(xc:Int)(xG:List UInt8)(zZ CV:List bB)(K:∀v1,v1=IntKind.i64.wrap (IntKind.i32.wrap x0)->∀v2,v2=UInt64.ofInt ((UInt32.ofInt x0).toNat:Int)->cond (!x1) (adf n x2 x3 x4 x5 x6 x7 x8 x9 lM kh lN q7 pU ud xc xG zZ CV) (cond (nP (x0=v1)) (adf n 16 v2 x4 x5 x6 x7 x8 x9 lM kh lN q7 pU ud xc xG zZ CV) (adf n 18 (UInt64.ofInt x0) x4 x5 x6 x7 x8 x9 lM kh lN q7 pU ud xc xG zZ CV))=ρ):abq n x0 x1 x2 x3 x4 x5 x6 x7 x8 x9 lM kh lN q7 pU ud xc xG zZ CV=ρ:=oa (by kernel_rfl) (nY K:)
theorem aeF(n:Nat)(x0:Int)(x1 x2 x3:UInt64)(x4 x5:bE)(x6:Int)(x7:List UInt8)(x8:Int)(x9 lM kh:UInt64)(lN q7:bE)(pU:Int)(ud:List UInt8)(xc xG:List bB):adf n x0 x1 x2 x3 x4 x5 x6 x7 x8 x9 lM kh lN q7 pU ud xc xG=Bm [.ag [.i .i64 x0,.u64 x1,.u64 x2,.u64 x3,.s x4,.s x5,.i .i64 x6,.sl .bs x7,.sl .fl xc]]:=oa (by kernel_rfl) rfl
theorem ayl(n:Nat)(v:Val)(K:∀v1,v1=(v.kids.length:Int)->ck (dU v.bytes.length 1) (ade n v.kids v1 0 v.kind v.bits v.high v.low v.text v.more v.sub v.bytes 0 0 0 0 [] [] 0 ([]:List UInt8) ([]:List bB) ([]:List bB))=ρ):aym n v=ρ:=Eq.trans (by kernel_rfl) (qv K:)
def aAl:cz:=cP gz zs [(143,alO,bz)]
def arO(a b:Val):OT:=bT PG aAl 95 bz (.o) [.ag a.cells,.ag b.cells]
theorem arN(a b:Val)(K:∀v1,v1=cond (nP (a.kind=b.kind)) (nP (a.bits=b.bits)) Qg->∀v2,v2=cond v1 (nP (a.high=b.high)) Qg->∀v3,v3=cond v2 (nP (a.low=b.low)) Qg->∀v4,v4=cond v3 (nP (a.text=b.text)) Qg->∀v5,v5=cond v4 (nP (a.more=b.more)) Qg->∀v6,v6=cond v5 (nP (a.sub=b.sub)) Qg->∀v7,v7=cond v6 (nP (a.bytes=b.bytes)) Qg->ck (!(nP (a.kind=b.kind))||(nP (a.kind=b.kind))) (ck (!(nP (a.kind=b.kind))||(nP (a.kind=b.kind))) (ck (!(nP (a.kind=b.kind))||((nP (a.kind=b.kind))&&(nP (a.kind=b.kind)))) (ck (!(nP (a.kind=b.kind))||(nP (a.kind=b.kind))) (ck (!v1||v1) (ck (!v1||v1) (ck (!v1||(v1&&v1)) (ck (!v1||v1) (ck (!v2||v2) (ck (!v2||v2) (ck (!v2||(v2&&v2)) (ck (!v2||v2) (ck (!v3||v3) (ck (!v3||v3) (ck (!v3||(v3&&v3)) (ck (!v3||v3) (ck (!v4||v4) (ck (!v4||v4) (ck (!v4||(v4&&v4)) (ck (!v4||v4) (ck (!v5||v5) (ck (!v5||v5) (ck (!v5||(v5&&v5)) (ck (!v5||v5) (ck (!v6||v6) (ck (!v6||v6) (ck (!v6||(v6&&v6)) (ck (!v6||v6) (Bm [.b v7]))))))))))))))))))))))))))))=ρ):arO a b=ρ:=Eq.trans (by kernel_rfl) (jL (nY K:):)
def aoA(n:Nat):cz:=cP gz zs [(59,abx n,aad),(95,amh,bz),(96,aef,aaR)] [126]
def aiO:Hint:=.s .o (.s .o (.j [(0,.dB 800000),(3,.dB 1000003),(5,.ptr 72 0),(6,.ptr 73 0),(72,.cl []),(73,.cl []),(800000,.pv),(1000003,.pv)] .o (.s (.s .o (.b (.l [(0,.dB 800000),(3,.dB 1000003),(6,.ptr 73 0),(30,.no),(31,.no),(32,.no),(73,.cl []),(800000,.pv),(1000003,.pv)] .o))) .o)))
def ayR(n:Nat)(o:List (List Int))(a b:Val)(p:List Int):OT:=bT PG (aoA n) 59 aad aiO [.sl .pD o,.ag a.cells,.ag b.cells,.sl .is p]
def adn(n:Nat)(x0 x1:Val)(x2:List (List Int))(x3:List Int):OT:=dj PG (aoA n) 59 aad aiO 7 [.pt,.pt,.pt,.pt,.ag x0.cells,.ag x1.cells,.sl .pD x2,.sl .is x3]
def abw(n:Nat)(x0:List bB)(x1 x2:Int)(x3:Val)(x4:List (List Int))(x5:List Int):OT:=de PG (aoA n) 59 aad aiO 87 [.pt,.pt,.pt,.sl .fl x0,.i .i64 x1,.i .i64 x2,.ag x3.cells,.sl .pD x4,.sl .is x5]
theorem ayP(n:Nat)(x0 x1:Val)(x2:List (List Int))(x3:List Int)(K:∀v1,v1=(x0.kids.length:Int)->abw n x0.kids v1 0 x1 x2 x3=ρ):adn n x0 x1 x2 x3=ρ:=oa (by kernel_rfl) (qv K:)
theorem ale(n:Nat)(x0:List bB)(x1 x2:Int)(x3:Val)(x4:List (List Int))(x5:List Int)(K:∀v1,v1=List.getD x0 x2.toNat (eu.dH .fl)->∀v2,v2=List.getD x3.kids x2.toNat (eu.dH .fl)->∀v3,v3=(Rl.tU x4 v1.val v2.val (x5++([x2]:List Int))).1->∀v4,v4=(Rl.tU x4 v1.val v2.val (x5++([x2]:List Int))).2->∀v5,v5=IntKind.i64.wrap (x2+1)->cond (nP (x2<x1)) (ck (bH x2 x0.length) (ck (bH x2 x3.kids.length) (cond (!decide (v1.name=v2.name)) (Bm [.sl .pD ([]:List (List Int)),.b Qg,.sl .is x5]) (ck (bH x2 x3.kids.length) (ck (dU (x5.length+([x2]:List Int).length) 8) (ck ((nP (x4.length+(bB.of [] v1.val).bC<=1000000000/\(x5++([x2]:List Int)).length+(bB.of [] v1.val).bC<=1000000000))&&nP ((bB.of [] v1.val).bC<n)) (cond (!v4) (Bm [.sl .pD ([]:List (List Int)),.b Qg,.sl .is x5]) (abw n x0 x1 v5 x3 v3 x5)))))))) (Bm [.sl .pD x4,.b Qf,.sl .is x5])=ρ):abw n x0 x1 x2 x3 x4 x5=ρ:=mY (by kernel_rfl) (jL K:)
theorem ayQ(n:Nat)(o:List (List Int))(a b:Val)(p:List Int)(K:∀v1,v1=(a.kids.length:Int)->∀v2,v2=(b.kids.length:Int)->∀v3,v3=o++([p]:List (List Int))->cond (!decide (v1=v2)) (Bm [.sl .pD ([]:List (List Int)),.b Qg,.sl .is p]) (cond (!(Tree.sB a b)) (ck (dU p.length 8) (ck (dU (o.length+([p]:List (List Int)).length) 24) (adn n a b v3 p))) (adn n a b o p))=ρ):ayR n o a b p=ρ:=Eq.trans (by kernel_rfl) (uJ K:)
def az0:cz:=cP gz zs [(59,aoz,aad)]
def aqw(a b:Val):OT:=bT PG az0 37 bP (.o) [.ag a.cells,.ag b.cells]
theorem aqv(a b:Val)(K:∀v1,v1=(Rl.tU ([]:List (List Int)) a b ([]:List Int)).1->∀v2,v2=(Rl.tU ([]:List (List Int)) a b ([]:List Int)).2->ck (nP (([]:List (List Int)).length+(bB.of [] a).bC<=1000000000/\([]:List Int).length+(bB.of [] a).bC<=1000000000)) (Bm [.sl .pD v1,.b v2])=ρ):aqw a b=ρ:=Eq.trans (by kernel_rfl) (nY K:)
def az2:cz:=cP gz zs [(37,alZ,bP),(38,aor,bz)]
def aqC(v:Val):OT:=bT PG az2 21 bz (.o) [.ag v.cells]
theorem aqB(v:Val)(K:∀v1,v1=(Rl.diff v (Rl.jN v)).getD []->∀v2,v2=(Rl.diff v (Rl.jN v)).isSome->ck (nP ((bB.of [] v).bC<=1000000000000)) (ck (nP ((bB.of [] v).bC<=100000000)) (Bm [.sl .pD v1]))=ρ):aqC v=ρ:=Eq.trans (by kernel_rfl) (nY K:)
def apG(y:Int):OT:=bT PG eD 285 bz (.o) [.i .i64 y]
theorem apF(y:Int)(K:∀v1,v1=((nP ((Int.tmod y (4:Int))=(0:Int)))&&(!(!decide ((Int.tmod y (100:Int))=(0:Int)))))->∀v2,v2=cond (!decide ((Int.tmod y (100:Int))=(0:Int))) Qf (nP ((Int.tmod y (400:Int))=(0:Int)))->∀v3,v3=cond (nP ((Int.tmod y (4:Int))=(0:Int))) v2 Qg->ck (!decide ((4:Int)=0)) (ck (!(nP ((Int.tmod y (4:Int))=(0:Int)))||((nP ((Int.tmod y (4:Int))=(0:Int)))&&(!decide ((100:Int)=0)))) (ck (!(nP ((Int.tmod y (4:Int))=(0:Int)))||(nP ((Int.tmod y (4:Int))=(0:Int)))) (ck (!(nP ((Int.tmod y (4:Int))=(0:Int)))||(nP ((Int.tmod y (4:Int))=(0:Int)))) (ck (!v1||(v1&&(!decide ((400:Int)=0)))) (ck (!v1||v1) (ck (!(nP ((Int.tmod y (4:Int))=(0:Int)))||((nP ((Int.tmod y (4:Int))=(0:Int)))&&((!decide ((Int.tmod y (100:Int))=(0:Int)))||v1))) (ck (!(nP ((Int.tmod y (4:Int))=(0:Int)))||(nP ((Int.tmod y (4:Int))=(0:Int)))) (Bm [.b v3]))))))))=ρ):apG y=ρ:=Eq.trans (by kernel_rfl) (uJ K:)
def avf:cz:=cP gz zs [(285,alN,bz)]
def ang:Hint:=.s .o (.s (.s .o (.b (.j (sc [0,5,6]) .o .o))) .o)
def ave(y m:Int):OT:=bT PG avf 232 bz ang [.i .i64 y,.i .i64 m]
def aaY(x0 x1:Int)(x2:Bool):OT:=dj PG avf 232 bz ang 21 [.i .i64 x0,.i .i64 x1,.b x2]
theorem acn(x0 x1:Int)(x2:Bool):aaY x0 x1 x2=cond x2 (Bm [.i .i64 30]) (cond (nP (x1=2)) (ck (nP (0<=x0/\x0<=100000)) (cond (Rl.Jb x0) (Bm [.i .i64 29]) (Bm [.i .i64 28]))) (Bm [.i .i64 31])):=oa (by kernel_rfl) rfl
theorem avd(y m:Int):ave y m=cond (nP (m=4)) (aaY y m (nP (m=4))) (cond (nP (m=6)) (aaY y m (nP (m=6))) (cond (nP (m=9)) (aaY y m (nP (m=9))) (aaY y m (nP (m=11))))):=by kernel_rfl
def ap2(y:Int):OT:=bT PG eD 231 bz (.o) [.i .i64 y]
theorem ap1(y:Int)(K:∀v1,v1=IntKind.i64.wrap (y -(1:Int))->∀v2,v2=IntKind.i64.wrap (v1*(365:Int))->∀v3,v3=IntKind.i64.wrap (Int.tdiv v1 (4:Int))->∀v4,v4=IntKind.i64.wrap (Int.tdiv v1 (100:Int))->∀v5,v5=IntKind.i64.wrap ((IntKind.i64.wrap (v2+v3)) -v4)->∀v6,v6=IntKind.i64.wrap (Int.tdiv v1 (400:Int))->∀v7,v7=IntKind.i64.wrap ((IntKind.i64.wrap (v5+v6)) -(719162:Int))->ck (!decide ((4:Int)=0)) (ck (!decide ((100:Int)=0)) (ck (!decide ((400:Int)=0)) (Bm [.i .i64 v7])))=ρ):ap2 y=ρ:=Eq.trans (by kernel_rfl) (jL (nY K:):)
def as4:cz:=cP gz zs [(188,ady,bz)]
def amB:Hint:=.s .o (.s .o (.s (.b (.l (sc [1,5]) .o)) .o))
def as3(n l:Int):OT:=bT PG as4 233 bz amB [.i .i64 n,.i .i64 l]
def abX(x0:Int)(x1:bE):OT:=de PG as4 233 bz amB 19 [.i .i64 x0,.s x1]
theorem ajs(x0:Int)(x1:bE):abX x0 x1=cond (nP ((x1.length:Int)<x0)) (ck (nP (([48]:bE).length+x1.length<=9223372036854775807)) (abX x0 (([48]:bE)++x1))) (Bm [.s x1]):=mY (by kernel_rfl) rfl
theorem as2(n l:Int):as3 n l=ck (Nr.i64 n) (abX l (Nr.itoa n)):=by kernel_rfl
def aiv:cz:=cP gz zs [(231,alR,bz),(232,anh,bz),(233,amC,bz)]
def aeC:Hint:=.s .o (.s .o (.s .o (.s .o (.s (.b (.l (sc [4,5,6]) .o)) (.s .o (.s .o (.s (.b (.l (sc [5,6,7,8]) .o)) (.s .o (.s .o (.j (sc [10]) .o .o))))))))))
def axR(t:Int):OT:=bT PG aiv 186 bP aeC [.i .i64 t]
def abl(x0 x1 x2:Int):OT:=de PG aiv 186 bP aeC 79 [.i .i64 x0,.i .i64 x1,.i .i64 x2]
def abk(x0 x1 x2 x3:Int):OT:=de PG aiv 186 bP aeC 639 [.i .i64 x0,.i .i64 x1,.i .i64 x2,.i .i64 x3]
def aeB(x0:bE):OT:=dj PG aiv 186 bP aeC 2047 [.s x0]
theorem akO(x0 x1 x2:Int)(K:∀v1,v1=IntKind.i64.wrap (x2+1)->∀v2,v2=IntKind.i64.wrap (x0 -(Rl.ahead x2))->ck (nP (1<=v1/\v1<=100000)) (cond (nP ((Rl.ahead v1)<=x0)) (abl x0 x1 v1) (ck (nP (1<=x2/\x2<=100000)) (abk x1 x2 v2 1)))=ρ):abl x0 x1 x2=ρ:=mY (by kernel_rfl) (nY K:)
theorem akN(x0 x1 x2 x3:Int)(K:∀v1,v1=IntKind.i64.wrap (x2 -(Rl.month x1 x3))->∀v2,v2=IntKind.i64.wrap (x3+(1:Int))->∀v3,v3=IntKind.i64.wrap (Int.tdiv x0 (1000:Int))->∀v4,v4=(Rl.pad x1 (4:Int))++([45]:bE)->∀v5,v5=v4++(Rl.pad x3 (2:Int))->∀v6,v6=IntKind.i64.wrap (x2+(1:Int))->∀v7,v7=(v5++([45]:bE))++(Rl.pad v6 (2:Int))->∀v8,v8=IntKind.i64.wrap (Int.tdiv v3 (3600:Int))->∀v9,v9=(v7++([84]:bE))++(Rl.pad v8 (2:Int))->∀v10,v10=IntKind.i64.wrap (Int.tdiv v3 (60:Int))->∀v11,v11=Rl.pad (Int.tmod v10 (60:Int)) (2:Int)->∀v12,v12=(v9++([58]:bE))++v11->∀jQ,jQ=Rl.pad (Int.tmod v3 (60:Int)) (2:Int)->∀iW,iW=(v12++([58]:bE))++jQ->∀jb,jb=Rl.pad (Int.tmod x0 (1000:Int)) (3:Int)->∀lU,lU=iW++(([46]:bE)++jb)->ck (nP (0<=x1/\x1<=100000)) (cond (nP ((Rl.month x1 x3)<=x2)) (ck (nP (0<=x1/\x1<=100000)) (abk x0 x1 v1 v2)) (ck (!decide ((1000:Int)=0)) (ck (nP (0<=x1/\x1<=1000000/\0<=(4:Int)/\(4:Int)<=10)) (ck (nP ((Rl.pad x1 (4:Int)).length+([45]:bE).length<=9223372036854775807)) (ck (nP (0<=x3/\x3<=1000000/\0<=(2:Int)/\(2:Int)<=10)) (ck (nP (v4.length+(Rl.pad x3 (2:Int)).length<=9223372036854775807)) (ck (nP (v5.length+([45]:bE).length<=9223372036854775807)) (ck (nP (0<=v6/\v6<=1000000/\0<=(2:Int)/\(2:Int)<=10)) (ck (nP ((v5++([45]:bE)).length+(Rl.pad v6 (2:Int)).length<=9223372036854775807)) (ck (nP (v7.length+([84]:bE).length<=9223372036854775807)) (ck (!decide ((3600:Int)=0)) (ck (nP (0<=v8/\v8<=1000000/\0<=(2:Int)/\(2:Int)<=10)) (ck (nP ((v7++([84]:bE)).length+(Rl.pad v8 (2:Int)).length<=9223372036854775807)) (ck (nP (v9.length+([58]:bE).length<=9223372036854775807)) (ck (!decide ((60:Int)=0)) (ck (!decide ((60:Int)=0)) (ck (nP (0<=(Int.tmod v10 (60:Int))/\(Int.tmod v10 (60:Int))<=1000000/\0<=(2:Int)/\(2:Int)<=10)) (ck (nP ((v9++([58]:bE)).length+v11.length<=9223372036854775807)) (ck (nP (v12.length+([58]:bE).length<=9223372036854775807)) (ck (!decide ((60:Int)=0)) (ck (nP (0<=(Int.tmod v3 (60:Int))/\(Int.tmod v3 (60:Int))<=1000000/\0<=(2:Int)/\(2:Int)<=10)) (ck (nP ((v12++([58]:bE)).length+jQ.length<=9223372036854775807)) (ck (!decide ((1000:Int)=0)) (cond (!decide ((Int.tmod x0 (1000:Int))=(0:Int))) (ck (!decide ((1000:Int)=0)) (ck (nP (0<=(Int.tmod x0 (1000:Int))/\(Int.tmod x0 (1000:Int))<=1000000/\0<=(3:Int)/\(3:Int)<=10)) (ck (nP (([46]:bE).length+jb.length<=9223372036854775807)) (ck (nP (iW.length+(([46]:bE)++jb).length<=9223372036854775807)) (aeB lU))))) (aeB iW)))))))))))))))))))))))))=ρ):abk x0 x1 x2 x3=ρ:=mY (by kernel_rfl) (jL (qv (jL (jL K:):):):)
theorem akL(x0:bE):aeB x0=ck (nP (x0.length+([90]:bE).length<=9223372036854775807)) (Bm [.s (x0++[90]),.b Qf]):=oa (by kernel_rfl) rfl
theorem axP(t:Int)(K:∀v1,v1=cond (nP (t<(0:Int))) Qf (nP ((253402300799999:Int)<t))->∀v2,v2=IntKind.i64.wrap (Int.tdiv t (86400000:Int))->∀v3,v3=Int.tmod t (86400000:Int)->∀v4,v4=IntKind.i64.wrap (Int.tdiv v2 (366:Int))->∀v5,v5=IntKind.i64.wrap ((1970:Int)+v4)->ck (!(!(nP (t<(0:Int))))||(!(nP (t<(0:Int))))) (ck ((nP (t<(0:Int)))||(!(nP (t<(0:Int))))) (cond v1 (Bm [.s [],.b Qg]) (ck (!decide ((86400000:Int)=0)) (ck (!decide ((86400000:Int)=0)) (ck (!decide ((366:Int)=0)) (abl v2 v3 v5))))))=ρ):axR t=ρ:=Eq.trans (by kernel_rfl) (jL K:)
def avG(n:Nat):cz:=cP gz zs [(129,acW n,bz)] [51]
def anr:Hint:=.s .o (.s .o (.s (.s .o (.b (.l [(2,.ptr 28 0),(3,.ptr 29 0),(7,.no),(8,.no),(9,.no),(28,.cl [(2,800000)]),(29,.cl [(2,800001)]),(800000,.pv),(800001,.pv)] .o))) .o))
def avF(n:Nat)(l:List bB):OT:=bT PG (avG n) 80 oE anr [.sl .fl l]
def acr(n:Nat)(x0:List bB)(x1 x2 x3:Int)(x4:bE)(x5:Int)(x6:bE)(x7 x8:List Mem):OT:=de PG (avG n) 80 oE anr 43 [.pt,.pt,.sl .fl x0,.i .i64 x1,.i .i64 x2,.ag [.i .i64 x3,.s x4,.pt],.ag [.i .i64 x5,.s x6,.pt],.sl .ml x7,.sl .ml x8]
theorem akc(n:Nat)(x0:List bB)(x1 x2 x3:Int)(x4:bE)(x5:Int)(x6:bE)(x7 x8:List Mem)(K:∀v1,v1=List.getD x0 x2.toNat (eu.dH .fl)->∀v2,v2=Rl.vT Rl.date (bB.of [] v1.val)->∀v3,v3=([Mem.mk v1.name v2.kind v2.text v2.kids]:List Mem)->∀v4,v4=IntKind.i64.wrap (x2+1)->cond (nP (x2<x1)) (ck (bH x2 x0.length) (ck ((nP ((bB.of [] v1.val).bC<=1000000000000)&&nP ((Tree.gw (bB.of [] v1.val) []).2=0))&&nP ((2*(bB.of [] v1.val).bC)<n)) (ck (dU (x8.length+v3.length) 64) (acr n x0 x1 v4 x3 x4 x5 x6 x7 (x8++v3))))) (Bm [.ag [.i .i64 x5,.s x6,.sl .ml x8]])=ρ):acr n x0 x1 x2 x3 x4 x5 x6 x7 x8=ρ:=mY (by kernel_rfl) (vg K:)
theorem avE(n:Nat)(l:List bB):avF n l=acr n l (l.length:Int) 0 0 [] 7 [] ([]:List Mem) ([]:List Mem):=by kernel_rfl
def an9(n:Nat):cz:=cP gz zs [(49,afV,bP),(60,agj,bP),(80,aa5 n,oE),(102,adB,bz),(130,adI,bz),(177,ahh,bz),(185,alA,bz),(186,aof,bP),(187,alH,oE)]
def aio:Hint:=.s .o (.j [(1,.ptr 129 0),(2,.ptr 130 0),(129,.cl []),(130,.cl [(2,800000)]),(800000,.pv)] (.s .o (.b (.s .o (.s .o (.s .o (.s .o (.s .o (.s .o (.s .o (.s .o (.s .o (.s .o (.s .o (.s (.s .o (.s .o (.s .o (.s (.s .o (.b (.l [(2,.ptr 130 0),(7,.ptr 135 0),(88,.no),(89,.no),(130,.cl [(2,800000)]),(135,.cl [(2,800001)]),(800000,.pv),(800001,.pv)] .o))) .o)))) .o)))))))))))))) .o)
def axw(n:Nat)(v:Val):OT:=bT PG (an9 n) 129 bz aio [.ag v.cells]
def aav(n:Nat)(x0:Val)(x1:Int)(x2:bE)(x3:List Mem):OT:=dj PG (an9 n) 129 bz aio 3 [.pt,.pt,.ag x0.cells,.ag [.i .i64 x1,.s x2,.pt],.sl .ml x3]
def acV(n:Nat)(x0 x1 x2:Int)(x3:bE)(x4:Int)(x5:bE)(x6 x7:List Mem):OT:=de PG (an9 n) 129 bz aio 5734389 [.pt,.pt,.i .i64 x0,.i .i64 x1,.ag [.i .i64 x2,.s x3,.pt],.ag [.i .i64 x4,.s x5,.pt],.sl .ml x6,.sl .ml x7]
theorem axt(n:Nat)(x0:Val)(x1:Int)(x2:bE)(x3:List Mem)(K:∀v1,v1=([bB.mk [] x0.kind x0.bits x0.high x0.low x0.text x0.more x0.sub x0.bytes x0.kids]:List bB)->∀v2,v2=Cn.pB (Val.mk 3 0 0 0 [] [] 0 [] v1)->∀v3,v3=(Cn.jO (Val.mk 3 0 0 0 [] [] 0 [] v1)).2->∀v4,v4=(Cn.jO (Val.mk 3 0 0 0 [] [] 0 [] v1)).1->∀v5,v5=List.getD v2.kids (0:Int).toNat (eu.dH .ml)->ck (nP ((bB.of [] (Val.mk 3 0 0 0 [] [] 0 [] v1)).bC<=1099511627776)) (ck (bH 0 v2.kids.length) (Bm [.ag v5.val.cells]))=ρ):aav n x0 x1 x2 x3=ρ:=oa (by kernel_rfl) (jL K:)
theorem akI(n:Nat)(x0 x1 x2:Int)(x3:bE)(x4:Int)(x5:bE)(x6 x7:List Mem)(K:∀v1,v1=List.set x7 x1.toNat (Mem.mk [] (List.getD x7 x1.toNat (eu.dH .ml)).kind (List.getD x7 x1.toNat (eu.dH .ml)).text (List.getD x7 x1.toNat (eu.dH .ml)).kids)->∀v2,v2=IntKind.i64.wrap (x1+1)->cond (nP (x1<x0)) (ck (bH x1 x7.length) (ck (nP (x1.toNat<x7.length)) (acV n x0 v2 x2 x3 x4 x5 x6 v1))) (Bm [.ag [.i .i64 x4,.s x5,.sl .ml x7]])=ρ):acV n x0 x1 x2 x3 x4 x5 x6 x7=ρ:=mY (by kernel_rfl) (nY K:)
theorem axv(n:Nat)(v:Val)(K:∀v1,v1=IntKind.i32.wrap (v.bits.toNat:Int)->∀v2,v2=Nr.itoa (IntKind.i64.wrap v1)->∀v3,v3=IntKind.i64.wrap (v.bits.toNat:Int)->∀v4,v4=eV.mk 4 (Nr.itoa v3) []->∀v5,v5=(Rl.number v.bits).1->∀v6,v6=(Rl.number v.bits).2->∀v7,v7=(Cn.one [36,100,97,116,101] (eV.mk 5 (Rl.date v3).1 ([]:List Mem))).kids->∀v8,v8=(Cn.one [36,100,97,116,101] (eV.mk 5 (Rl.date v3).1 ([]:List Mem))).kind->∀v9,v9=(Cn.one [36,100,97,116,101] (eV.mk 5 (Rl.date v3).1 ([]:List Mem))).text->∀v10,v10=(v.kids.length:Int)->∀v11,v11=List.getD v.kids (0:Int).toNat (eu.dH .fl)->∀v12,v12=List.isPrefixOf [36] v11.name->∀jQ,jQ=cond (nP (0<v10)) v12 Qg->∀iW,iW=(Rl.uW Rl.date v.kids).kids->∀jb,jb=(Rl.uW Rl.date v.kids).kind->∀lU,lU=(Rl.uW Rl.date v.kids).text->∀sQ,sQ=(Cn.one [36,100,111,99,117,109,101,110,116] (eV.mk jb lU iW)).kids->∀s9,s9=(Cn.one [36,100,111,99,117,109,101,110,116] (eV.mk jb lU iW)).kind->∀pn,pn=(Cn.one [36,100,111,99,117,109,101,110,116] (eV.mk jb lU iW)).text->∀v20,v20=Tree.regular v.kids->∀v21,v21=(Cn.one [36,97,114,114,97,121] (eV.mk jb lU iW)).kids->∀v22,v22=(Cn.one [36,97,114,114,97,121] (eV.mk jb lU iW)).kind->∀Ys,Ys=(Cn.one [36,97,114,114,97,121] (eV.mk jb lU iW)).text->∀v24,v24=(Cn.one [36,99,111,100,101] (eV.mk 5 v.text ([]:List Mem))).kids->∀v25,v25=(Cn.one [36,99,111,100,101] (eV.mk 5 v.text ([]:List Mem))).kind->∀Yr,Yr=(Cn.one [36,99,111,100,101] (eV.mk 5 v.text ([]:List Mem))).text->∀v27,v27=([Mem.mk [36,115,99,111,112,101] jb lU iW]:List Mem)->cond (nP (v.kind=16)) (ck (Nr.i64 (IntKind.i64.wrap v1)) (Bm [.ag (eV.mk 4 v2 []).cells])) (cond (nP (v.kind=18)) (ck (Nr.i64 v3) (Bm [.ag v4.cells])) (cond (nP (v.kind=1)) (cond v6 (Bm [.ag (eV.mk 4 v5 []).cells]) (aav n v 0 [] ([]:List Mem))) (cond (nP (v.kind=9)) (ck (Nr.i64 v3) (cond (Rl.date v3).2 (Bm [.ag [.i .i64 v8,.s v9,.sl .ml v7]]) (aav n v 0 [] ([]:List Mem)))) (cond (nP (v.kind=3)) (ck (!(nP (0<v10))||(nP (0<v10))) (ck (!(nP (0<v10))||((nP (0<v10))&&(bH 0 v.kids.length))) (ck (!(nP (0<v10))||(nP (0<v10))) (ck (!(nP (0<v10))||(nP (0<v10))) (ck (!(nP (0<v10))||(nP (0<v10))) (ck (!(nP (0<v10))||(nP (0<v10))) (cond jQ (ck ((nP (bB.bD v.kids<=1000000000000)&&nP ((Tree.mf v.kids 0 []).2=0))&&nP ((2*bB.bD v.kids+1)<n)) (Bm [.ag [.i .i64 s9,.s pn,.sl .ml sQ]])) (ck ((nP (bB.bD v.kids<=1000000000000)&&nP ((Tree.mf v.kids 0 []).2=0))&&nP ((2*bB.bD v.kids+1)<n)) (Bm [.ag [.i .i64 jb,.s lU,.sl .ml iW]]))))))))) (cond (nP (v.kind=4)) (ck ((nP (bB.bD v.kids<=1000000000000)&&nP ((Tree.mf v.kids 0 []).2=0))&&nP ((2*bB.bD v.kids+1)<n)) (ck (nP (v.kids.length<=1099511627776)) (cond (!v20) (Bm [.ag [.i .i64 v22,.s Ys,.sl .ml v21]]) (acV n (iW.length:Int) 0 0 [] 6 lU ([]:List Mem) iW)))) (cond (nP (v.kind=15)) (ck ((nP (bB.bD v.kids<=1000000000000)&&nP ((Tree.mf v.kids 0 []).2=0))&&nP ((2*bB.bD v.kids+1)<n)) (ck (dU (v24.length+v27.length) 64) (Bm [.ag [.i .i64 v25,.s Yr,.sl .ml (v24++v27)]]))) (aav n v 0 [] ([]:List Mem))))))))=ρ):axw n v=ρ:=Eq.trans (by kernel_rfl) (jL (nY (jL (jL (jL (jL K:):):):):):)
def az1:cz:=cP gz zs [(44,abG,bP),(80,ans,oE)]
def aqz(v:Val):OT:=bT PG az1 51 bP (.o) [.ag v.cells]
theorem aqy(v:Val)(K:∀v1,v1=(Tree.gw (bB.of [] v) []).1->∀v2,v2=(Tree.gw (bB.of [] v) []).2->∀v3,v3=(Rl.uW Rl.date v.kids).kids->∀v4,v4=(Rl.uW Rl.date v.kids).kind->∀v5,v5=(Rl.uW Rl.date v.kids).text->ck (nP ((bB.of [] v).bC<=1099511627776)) (cond (!decide (v2=0)) (Bm [.ag [.i .i64 0,.s [],.sl .ml ([]:List Mem)],.ag [.i .i64 v2,.i .i64 0,.sl .is v1]]) (cond (!decide (v.kind=3)) (Bm [.ag [.i .i64 0,.s [],.sl .ml ([]:List Mem)],.ag [.i .i64 5,.i .i64 0,.sl .is ([]:List Int)]]) (ck (nP (bB.bD v.kids<=1000000000000)&&nP ((Tree.mf v.kids 0 []).2=0)) (Bm [.ag [.i .i64 v4,.s v5,.sl .ml v3],.ag [.i .i64 0,.i .i64 0,.sl .is ([]:List Int)]]))))=ρ):aqz v=ρ:=Eq.trans (by kernel_rfl) (jL K:)
end Go.Eng
namespace Go.Eng
open Go.Proofs
variable{ρ:OT}
def az3:cz:=cP gz zs [(50,agn,bP),(51,al0,bP)]
def aqF(v:Val):OT:=bT PG az3 32 bP (.o) [.ag v.cells]
theorem aqE(v:Val)(K:∀v1,v1=Cn.oH (Rl.ra Rl.date v)->∀v2,v2=Cn.pS (Rl.ra Rl.date v)->ck (nP ((bB.of [] v).bC<=1000000000000)) (cond (!decide ((Cn.jO v).2=0)) (Bm [.s [],.ag [.i .i64 (Cn.jO v).2,.i .i64 0,.sl .is (Cn.jO v).1]]) (ck (nP (12*(Rl.ra Rl.date v).bC<=1000000000000)) (Bm [.s v1,.ag [.i .i64 v2,.i .i64 0,.sl .is ([]:List Int)]])))=ρ):aqF v=ρ:=Eq.trans (by kernel_rfl) (nY K:)
def ayG:cz:=cP gz zs [(22,aoo,bz)]
def aow:Hint:=.s .o (.s .o (.s (.s .o (.b (.l (sc [0,1,5]) .o))) .o))
def ayF(a b:List (List Int)):OT:=bT PG ayG 9 bz aow [.sl .pD a,.sl .pD b]
def adk(x0 x1:List (List Int))(x2:Int):OT:=de PG ayG 9 bz aow 43 [.sl .pD x0,.sl .pD x1,.i .i64 x2]
theorem ala(x0 x1:List (List Int))(x2:Int)(K:∀v1,v1=List.getD x0 x2.toNat ([]:List Int)->∀v2,v2=List.getD x1 x2.toNat ([]:List Int)->∀v3,v3=IntKind.i64.wrap (x2+1)->cond (nP (x2<(x0.length:Int))) (ck (bH x2 x0.length) (ck (bH x2 x1.length) (ck (nP (v1.length<=1099511627776)) (cond (!(nP (v1=v2))) (Bm [.b Qg]) (adk x0 x1 v3))))) (Bm [.b Qf])=ρ):adk x0 x1 x2=ρ:=mY (by kernel_rfl) (uJ K:)
theorem ayE(a b:List (List Int)):ayF a b=cond (!decide ((a.length:Int)=(b.length:Int))) (Bm [.b Qg]) (adk a b 0):=by kernel_rfl
def ar3(n:Int):OT:=bT PG eD 124 bz (.o) [.i .i64 n]
theorem ar2(n:Int)(K:∀(v1:Bool)(h1:v1=(cond (nP ((1:Int)<=n)) (nP (n<=(8:Int))) Qg)),ck (!(nP ((1:Int)<=n))||(nP ((1:Int)<=n))) (ck (!(nP ((1:Int)<=n))||(nP ((1:Int)<=n))) (Bm [(.b v1)]))=ρ):ar3 n=ρ:=Eq.trans (by kernel_rfl) (K _ rfl)
def arj:OT:=bT PG eD 46 aaJ (.o) []
theorem ari:arj=Bm [(.ag [.pt]),(.sl .bs ([]:List UInt8))]:=by kernel_rfl
def as6(v:Int)(b:List UInt8):OT:=bT PG eD 73 dJ (.o) [.ag [.pt],.i .i64 v,.sl .bs b]
theorem as5(v:Int)(b:List UInt8)(K:∀(v1:List UInt8)(h1:v1=([(UInt8.ofInt v)]:List UInt8)),ck (dU ((b).length+(v1).length) 1) (Bm [(.ag [.pt]),(.sl .bs (b++v1))])=ρ):as6 v b=ρ:=Eq.trans (by kernel_rfl) (K _ rfl)
def aqS(x b:List UInt8):OT:=bT PG eD 86 dJ (.o) [.ag [.pt],.sl .bs x,.sl .bs b]
theorem aqR(x:List UInt8)(b:List UInt8):aqS x b=ck (dU ((b).length+(x).length) 1) (Bm [(.ag [.pt]),(.sl .bs (b++x))]):=by kernel_rfl
def atZ:cz:=cP gz zs [(124,ad8,bz)]
def amQ:Hint:=.s .o (.b (.l [(0,.ptr 1000000 0),(1,.no),(2,.no),(6,.no),(1000000,.cl [(0,800000)]),(800000,.pv)] .o))
def atY(v:UInt64)(n:Int)(b:List UInt8):OT:=bT PG atZ 72 dJ amQ [.ag [.pt],.u64 v,.i .i64 n,.sl .bs b]
def aaS(x0:UInt64)(x1 x2:Int)(x3:List UInt8):OT:=de PG atZ 72 dJ amQ 5 [.pt,.u64 x0,.i .i64 x1,.i .i64 x2,.ag [.pt],.sl .bs x3]
theorem ajJ(x0:UInt64)(x1:Int)(x2:Int)(x3:List UInt8)(K:∀(v1:Bool)(h1:v1=(cond (nP (1<=x1/\x1<=8)) (nP (x2<x1)) Qg))(v2:Int)(h2:v2=(IntKind.i64.wrap ((8:Int)*x2)))(v3:UInt8)(h3:v3=(UInt8.ofInt (((dc x0 ((v2).toNat))).toNat:Int)))(v4:Int)(h4:v4=(IntKind.i64.wrap (x2+(1:Int)))),ck (!(nP (1<=x1/\x1<=8))||((nP (1<=x1/\x1<=8))&&(nP (1<=x1/\x1<=8)))) (ck (!(nP (1<=x1/\x1<=8))||(nP (1<=x1/\x1<=8))) (cond v1 (ck (nP (0<=v2)) (ck (dU ((x3).length+(([v3]:List UInt8)).length) 1) (aaS x0 x1 v4 (x3++([v3]:List UInt8))))) (Bm [(.ag [.pt]),(.sl .bs x3)])))=ρ):aaS x0 x1 x2 x3=ρ:=((gJ _ _ _ _ _ _ _).trans (by kernel_rfl)).trans (K _ rfl _ rfl _ rfl _ rfl)
theorem atX(v:UInt64)(n:Int)(b:List UInt8):atY v n b=aaS v n (0:Int) b:=by kernel_rfl
def atz:cz:=cP gz zs [(124,ad8,bz)]
def amL:Hint:=.s .o (.s .o (.s (.s .o (.b (.l [(0,.ptr 1000000 0),(1,.no),(2,.no),(28,.no),(29,.no),(1000000,.cl [(0,800000)]),(800000,.pv)] .o))) .o))
def aty(at_:Int)(v:UInt64)(n:Int)(b:List UInt8):OT:=bT PG atz 76 aaL amL [.ag [.pt],.i .i64 at_,.u64 v,.i .i64 n,.sl .bs b]
def aaM(x0:Int)(x1:UInt64)(x2 x3:Int)(x4:List UInt8):OT:=de PG atz 76 aaL amL 43 [.pt,.i .i64 x0,.u64 x1,.i .i64 x2,.i .i64 x3,.ag [.pt],.sl .bs x4]
theorem ajE(x0:Int)(x1:UInt64)(x2:Int)(x3:Int)(x4:List UInt8)(K:∀(v1:Int)(h1:v1=(IntKind.i64.wrap ((8:Int)*x3)))(v2:UInt8)(h2:v2=(UInt8.ofInt (((dc x1 ((v1).toNat))).toNat:Int)))(v3:Nat)(h3:v3=(((IntKind.i64.wrap (x0+x3))).toNat))(v4:Int)(h4:v4=(IntKind.i64.wrap (x3+(1:Int)))),cond (nP (x3<x2)) (ck (nP (0<=v1)) (ck (bH (IntKind.i64.wrap (x0+x3)) (x4).length) (ck (nP (v3<(x4).length)) (aaM x0 x1 x2 v4 (List.set x4 (v3) v2))))) (Bm [(.b Qf),(.ag [.pt]),(.sl .bs x4)])=ρ):aaM x0 x1 x2 x3 x4=ρ:=((gJ _ _ _ _ _ _ _).trans (by kernel_rfl)).trans (K _ rfl _ rfl _ rfl _ rfl)
theorem atx(at_:Int)(v:UInt64)(n:Int)(b:List UInt8)(K:∀(v1:Bool)(h1:v1=(!(!(nP (1<=n/\n<=8)))))(v2:Bool)(h2:v2=(cond (!(nP (1<=n/\n<=8))) Qf (nP (at_<(0:Int)))))(v3:Int)(h3:v3=(IntKind.i64.wrap (((b).length:Int) -n)))(v4:Bool)(h4:v4=(cond v2 Qf (nP (v3<at_)))),ck (!v1||v1) (ck ((!(nP (1<=n/\n<=8)))||v1) (ck (!(!v2)||(!v2)) (ck (!(!v2)||(!v2)) (ck (!(!v2)||(!v2)) (ck (!(!v2)||(!v2)) (ck (!(!v2)||((!v2)&&(!v2))) (ck (!(!v2)||((!v2)&&(!v2))) (ck (v2||(!v2)) (cond v4 (Bm [(.b Qg),(.ag [.pt]),(.sl .bs b)]) (aaM at_ v n (0:Int) b))))))))))=ρ):aty at_ v n b=ρ:=Eq.trans (by kernel_rfl) (K _ rfl _ rfl _ rfl _ rfl)
def ap4(b:List UInt8):OT:=bT PG eD 71 abM (.o) [.ag [.pt],.sl .bs b]
theorem ap3(b:List UInt8):ap4 b=Bm [(.i .i64 ((b).length:Int)),(.ag [.pt]),(.sl .bs b)]:=by kernel_rfl
def aAF:cz:=cP gz zs [(26,aaQ,lA)]
def at7(w:Bk):OT:=bT PG aAF 48 aaU (.o) [.ag (Bk.cells w)]
theorem at6(w:Bk):at7 w=ck (dU (((Bk.b w))).length 1) (Bm [(.sl .bs (((Bk.b w)))),(.ag (Bk.cells w))]):=by kernel_rfl
def atq(n:Nat):cz:=cP gz zs [(45,aaO n,bz)]
def amI:Hint:=.s .o (.s .o (.s (.s .o (.b (.l (sc [3,6,7,8]) .o))) .o))
def atp(n:Nat)(l:List bB):OT:=bT PG (atq n) 70 bz amI [.sl .fl l]
def ab0(n:Nat)(x0:Int)(x1:List bB)(x2 x3:Int):OT:=de PG (atq n) 70 bz amI 43 [.i .i64 x0,.sl .fl x1,.i .i64 x2,.i .i64 x3]
theorem ajz(n:Nat)(x0:Int)(x1:List bB)(x2:Int)(x3:Int)(K:∀(v1:bB)(h1:v1=(List.getD x1 (x3).toNat (eu.dH .fl)))(v2:Int)(h2:v2=(((bB.name v1)).length:Int))(v3:Int)(h3:v3=(IntKind.i64.wrap (v2+(2:Int))))(v4:Int)(h4:v4=(((Bs.size (bB.of [] (bB.val v1)):Nat):Int)))(v5:Int)(h5:v5=(IntKind.i64.wrap (x0+(IntKind.i64.wrap (v3+v4)))))(v6:Int)(h6:v6=(IntKind.i64.wrap (x3+(1:Int)))),cond (nP (x3<x2)) (ck (bH x3 (x1).length) (ck ((nP (bB.bC (bB.of [] (bB.val v1))<=1000000000000))&&nP ((2*bB.bC (bB.of [] (bB.val v1)))<n)) (ab0 n v5 x1 x2 v6))) (Bm [(.i .i64 x0)])=ρ):ab0 n x0 x1 x2 x3=ρ:=((gJ _ _ _ _ _ _ _).trans (by kernel_rfl)).trans (K _ rfl _ rfl _ rfl _ rfl _ rfl _ rfl)
theorem ato(n:Nat)(l:List bB):atp n l=ab0 n (5:Int) l ((l).length:Int) (0:Int):=by kernel_rfl
def agZ(n:Nat):cz:=cP gz zs [(70,ab1 n,bz)]
def aec:Hint:=.s .o (.s (.s .o (.b (.j [(1,.ptr 72 0),(4,.no),(5,.no),(72,.cl [])] .o (.s .o (.s .o (.s .o (.s .o (.s .o (.s .o (.s .o (.j [(1,.ptr 72 0),(4,.no),(16,.no),(72,.cl [])] .o (.s .o (.s .o (.s .o (.s .o (.s .o (.s .o (.s .o (.s .o (.s .o (.j [(1,.ptr 72 0),(4,.no),(55,.no),(72,.cl [])] .o .o))))))))))))))))))))) .o)
def atL(n:Nat)(v:Val):OT:=bT PG (agZ n) 45 bz aec [.ag v.cells]
def aao(n:Nat)(x0:Int)(x1:Bool)(x2:Val):OT:=dj PG (agZ n) 45 bz aec 21 [.pt,.i .i64 x0,.b x1,.ag x2.cells]
def aan(n:Nat)(x0:Int)(x1:Bool)(x2:Val):OT:=dj PG (agZ n) 45 bz aec 8181 [.pt,.i .i64 x0,.b x1,.ag x2.cells]
def aaN(n:Nat)(x0:Int)(x1:Bool)(x2:Val):OT:=dj PG (agZ n) 45 bz aec 8388597 [.pt,.i .i64 x0,.b x1,.ag x2.cells]
theorem atI(n:Nat)(x0:Int)(x1:Bool)(x2:Val):aao n x0 x1 x2=cond x1 (Bm [(.i .i64 8)]) (cond (nP (x0=(16:Int))) (Bm [(.i .i64 4)]) (cond (nP (x0=(8:Int))) (Bm [(.i .i64 1)]) (cond (nP (x0=(19:Int))) (Bm [(.i .i64 16)]) (cond (nP (x0=(2:Int))) (aan n x0 (nP (x0=(2:Int))) x2) (cond (nP (x0=(13:Int))) (aan n x0 (nP (x0=(13:Int))) x2) (aan n x0 (nP (x0=(14:Int))) x2)))))):=((fD _ _ _ _ _ _ _).trans (by kernel_rfl))
theorem atJ(n:Nat)(x0:Int)(x1:Bool)(x2:Val)(K:∀(v1:Int)(h1:v1=(((Val.text x2)).length:Int))(v2:Int)(h2:v2=(IntKind.i64.wrap (v1+(5:Int))))(v3:Int)(h3:v3=(((Val.more x2)).length:Int))(v4:Int)(h4:v4=(IntKind.i64.wrap ((IntKind.i64.wrap (v1+v3))+(2:Int))))(v5:Int)(h5:v5=(((Val.bytes x2)).length:Int))(v6:Int)(h6:v6=(IntKind.i64.wrap (v5+(9:Int))))(v7:Int)(h7:v7=(IntKind.i64.wrap (v5+(5:Int))))(v8:Int)(h8:v8=(IntKind.i64.wrap (v1+(17:Int)))),cond x1 (Bm [(.i .i64 v2)]) (cond (nP (x0=(11:Int))) (Bm [(.i .i64 v4)]) (cond (nP (x0=(5:Int))) (cond (nP ((Val.sub x2)=(2:Int))) (Bm [(.i .i64 v6)]) (Bm [(.i .i64 v7)])) (cond (nP (x0=(7:Int))) (Bm [(.i .i64 12)]) (cond (nP (x0=(12:Int))) (Bm [(.i .i64 v8)]) (cond (nP (x0=(3:Int))) (aaN n x0 (nP (x0=(3:Int))) x2) (aaN n x0 (nP (x0=(4:Int))) x2))))))=ρ):aan n x0 x1 x2=ρ:=((fD _ _ _ _ _ _ _).trans (by kernel_rfl)).trans (K _ rfl _ rfl _ rfl _ rfl _ rfl _ rfl _ rfl _ rfl)
theorem atG(n:Nat)(x0:Int)(x1:Bool)(x2:Val)(K:∀(v1:Int)(h1:v1=(((Bs.fR ((Val.kids x2))+5:Nat):Int)))(v2:Int)(h2:v2=(((Val.text x2)).length:Int))(v3:Int)(h3:v3=(IntKind.i64.wrap (v2+(9:Int)))),cond x1 (ck ((nP (bB.bD ((Val.kids x2))<=1000000000000))&&nP ((2*bB.bD ((Val.kids x2))+1)<n)) (Bm [(.i .i64 v1)])) (cond (nP (x0=(15:Int))) (ck ((nP (bB.bD ((Val.kids x2))<=1000000000000))&&nP ((2*bB.bD ((Val.kids x2))+1)<n)) (Bm [(.i .i64 (IntKind.i64.wrap (v3+v1)))])) (Bm [(.i .i64 0)]))=ρ):aaN n x0 x1 x2=ρ:=((fD _ _ _ _ _ _ _).trans (by kernel_rfl)).trans (K _ rfl _ rfl _ rfl)
theorem atK(n:Nat)(v:Val):atL n v=cond (nP ((Val.kind v)=(1:Int))) (aao n (Val.kind v) (nP ((Val.kind v)=(1:Int))) v) (cond (nP ((Val.kind v)=(9:Int))) (aao n (Val.kind v) (nP ((Val.kind v)=(9:Int))) v) (cond (nP ((Val.kind v)=(17:Int))) (aao n (Val.kind v) (nP ((Val.kind v)=(17:Int))) v) (aao n (Val.kind v) (nP ((Val.kind v)=(18:Int))) v))):=by kernel_rfl
def ao4(l:nB):OT:=bT PG eD 23 bz (.o) [.ag (nB.cells l)]
theorem ao3(l:nB)(K:∀(v1:Bool)(h1:v1=(cond (nP ((1:Int)<=(nB.depth l))) (nP ((nB.depth l)<=(200:Int))) Qg))(v2:Bool)(h2:v2=(cond v1 (nP ((5:Int)<=(nB.size l))) Qg))(v3:Bool)(h3:v3=(cond v2 (nP ((nB.size l)<=(16777216:Int))) Qg))(v4:Bool)(h4:v4=(cond v3 (nP ((0:Int)<=(nB.out l))) Qg))(v5:Bool)(h5:v5=(cond v4 (nP ((nB.out l)<=(67108864:Int))) Qg)),ck (!(nP ((1:Int)<=(nB.depth l)))||(nP ((1:Int)<=(nB.depth l)))) (ck (!(nP ((1:Int)<=(nB.depth l)))||(nP ((1:Int)<=(nB.depth l)))) (ck (!(nP ((1:Int)<=(nB.depth l)))||(nP ((1:Int)<=(nB.depth l)))) (ck (!v1||v1) (ck (!v1||v1) (ck (!v1||v1) (ck (!v2||v2) (ck (!v2||v2) (ck (!v2||v2) (ck (!v3||v3) (ck (!v3||v3) (ck (!v3||v3) (ck (!v4||v4) (ck (!v4||v4) (ck (!v4||v4) (Bm [(.b v5)])))))))))))))))=ρ):ao4 l=ρ:=Eq.trans (by kernel_rfl) (K _ rfl _ rfl _ rfl _ rfl _ rfl)
def aAm:cz:=cP gz zs [(73,aaG,dJ),(86,adz,dJ)]
def arS(s:bE)(b:List UInt8):OT:=bT PG aAm 74 dJ (.o) [.ag [.pt],.s s,.sl .bs b]
theorem arR(s:bE)(b:List UInt8)(K:∀(v1:List UInt8)(h1:v1=(((((b++s)))++[UInt8.ofInt ((0:Int))]))),ck (mZ (s).length) (ck (nP ((b).length+(s).length<=2199023255552)) (ck (nP (((((b++s)))).length<=1099511627776)) (Bm [(.ag [.pt]),(.sl .bs v1)])))=ρ):arS s b=ρ:=Eq.trans (by kernel_rfl) (K _ rfl)
def azT:cz:=cP gz zs [(72,aeh,dJ),(74,ad6,dJ)]
def ap7(s:bE)(b:List UInt8):OT:=bT PG azT 125 dJ (.o) [.ag [.pt],.s s,.sl .bs b]
theorem ap6(s:bE)(b:List UInt8)(K:∀(v1:Int)(h1:v1=(IntKind.i64.wrap (((s).length:Int)+(1:Int))))(v2:List UInt8)(h2:v2=((b++Bs.mc (((4:Int))).toNat (((UInt64.ofInt v1))).toNat))),ck (nP (1<=((4:Int))/\((4:Int))<=8/\(b).length<=1099511627776)) (ck (nP ((v2).length+(s).length<=1099511627776)) (Bm [(.ag [.pt]),(.sl .bs ((v2++(s++[0]))))]))=ρ):ap7 s b=ρ:=Eq.trans (by kernel_rfl) (K _ rfl _ rfl)
def awX(n:Nat):cz:=cP gz zs [(71,afl,abM),(72,aeh,dJ),(73,aaG,dJ),(74,ad6,dJ),(75,acO n,dJ),(76,agV,aaL)]
def anU:Hint:=.s .o (.s .o (.s (.s .o (.b (.l [(0,.ptr 1000000 0),(4,.no),(11,.no),(12,.no),(13,.no),(1000000,.cl [(0,800000)]),(800000,.pv)] .o))) .o))
def awW(n:Nat)(l:List bB)(b:List UInt8):OT:=bT PG (awX n) 47 dJ anU [.ag [.pt],.sl .fl l,.sl .bs b]
def acM(n:Nat)(x0:Int)(x1:List bB)(x2 x3:Int)(x4:List UInt8):OT:=de PG (awX n) 47 dJ anU 43 [.pt,.i .i64 x0,.sl .fl x1,.i .i64 x2,.i .i64 x3,.ag [.pt],.sl .bs x4]
theorem akA(n:Nat)(x0:Int)(x1:List bB)(x2:Int)(x3:Int)(x4:List UInt8)(K:∀(v1:bB)(h1:v1=(List.getD x1 (x3).toNat (eu.dH .fl)))(v2:List UInt8)(h2:v2=((x4++[UInt8.ofInt ((bB.kind v1))])))(v3:List UInt8)(h3:v3=((v2++(((bB.name v1))++[0]))))(v4:List UInt8)(h4:v4=((v3++Bs.enc (bB.of [] (bB.val v1)))))(v5:Int)(h5:v5=(IntKind.i64.wrap (x3+(1:Int))))(v6:List UInt8)(h6:v6=((x4++[UInt8.ofInt ((0:Int))])))(v7:Int)(h7:v7=(IntKind.i64.wrap ((((v6).length:Int)) -x0)))(v8:List UInt8)(h8:v8=((Bs.rD ((v6)) (x0).toNat (Bs.mc (((4:Int))).toNat (((UInt64.ofInt v7))).toNat)))),cond (nP (x3<x2)) (ck (bH x3 (x1).length) (ck (nP ((x4).length<=1099511627776)) (ck (nP ((v2).length+(((bB.name v1))).length<=1099511627776)) (ck ((nP ((v3).length+30*bB.bC (bB.of [] (bB.val v1))+30<=1000000000000))&&nP ((2*bB.bC (bB.of [] (bB.val v1)))<n)) (acM n x0 x1 x2 v5 v4))))) (ck (nP ((x4).length<=1099511627776)) (ck (nP (1<=((4:Int))/\((4:Int))<=8/\0<=x0/\x0+((4:Int))<=((((v6))).length:Int)/\(((v6))).length<=2199023255552)) (Bm [(.ag [.pt]),(.sl .bs v8)])))=ρ):acM n x0 x1 x2 x3 x4=ρ:=((gJ _ _ _ _ _ _ _).trans (by kernel_rfl)).trans (K _ rfl _ rfl _ rfl _ rfl _ rfl _ rfl _ rfl _ rfl)
theorem awV(n:Nat)(l:List bB)(b:List UInt8)(K:∀(v1:List UInt8)(h1:v1=((((b))++Bs.mc (((4:Int))).toNat (((0:UInt64))).toNat))),ck (nP (1<=((4:Int))/\((4:Int))<=8/\(((b))).length<=1099511627776)) (acM n (((b).length:Int)) l ((l).length:Int) (0:Int) v1)=ρ):awW n l b=ρ:=Eq.trans (by kernel_rfl) (K _ rfl)
def aew(n:Nat):cz:=cP gz zs [(47,abe n,dJ),(71,afl,abM),(72,aeh,dJ),(73,aaG,dJ),(74,ad6,dJ),(76,agV,aaL),(86,adz,dJ),(125,alS,dJ)]
def adG:Hint:=.s .o (.s .o (.b (.j [(0,.ptr 1000000 0),(3,.ptr 136 0),(7,.no),(8,.no),(136,.cl []),(1000000,.cl [(0,800000)]),(800000,.pv)] .o (.s .o (.s .o (.s .o (.s .o (.s .o (.s .o (.s .o (.j [(0,.ptr 1000000 0),(3,.ptr 136 0),(7,.no),(39,.no),(136,.cl []),(1000000,.cl [(0,800000)]),(800000,.pv)] .o (.s .o (.s .o (.s .o (.s .o (.s (.s .o (.j [(0,.ptr 1000000 0),(3,.ptr 136 0),(136,.cl []),(1000000,.cl [(0,800000)]),(800000,.pv)] .o .o)) (.s .o (.s .o (.s .o (.s .o (.j [(0,.ptr 1000000 0),(3,.ptr 136 0),(7,.no),(104,.no),(136,.cl []),(1000000,.cl [(0,800000)]),(800000,.pv)] .o .o)))))))))))))))))))))
def axb(n:Nat)(v:Val)(b:List UInt8):OT:=bT PG (aew n) 75 dJ adG [.ag [.pt],.ag v.cells,.sl .bs b]
def aau(n:Nat)(x0:Int)(x1:Bool)(x2:Val)(x3:List UInt8):OT:=dj PG (aew n) 75 dJ adG 11 [.pt,.pt,.i .i64 x0,.b x1,.ag x2.cells,.ag [.pt],.sl .bs x3]
def aat(n:Nat)(x0:Int)(x1:Bool)(x2:Val)(x3:List UInt8):OT:=dj PG (aew n) 75 dJ adG 4091 [.pt,.pt,.i .i64 x0,.b x1,.ag x2.cells,.ag [.pt],.sl .bs x3]
def aev(n:Nat)(x0:Val)(x1:List UInt8):OT:=dj PG (aew n) 75 dJ adG 458747 [.pt,.pt,.ag x0.cells,.ag [.pt],.sl .bs x1]
def abh(n:Nat)(x0:Int)(x1:Bool)(x2:Val)(x3:List UInt8):OT:=dj PG (aew n) 75 dJ adG 4194299 [.pt,.pt,.i .i64 x0,.b x1,.ag x2.cells,.ag [.pt],.sl .bs x3]
theorem aw9(n:Nat)(x0:Int)(x1:Bool)(x2:Val)(x3:List UInt8)(K:∀(v1:List UInt8)(h1:v1=((x3++Bs.mc (((8:Int))).toNat (((Val.bits x2))).toNat)))(v2:List UInt8)(h2:v2=((x3++Bs.mc (((4:Int))).toNat (((Val.bits x2))).toNat)))(v3:List UInt8)(h3:v3=((x3++Bs.mc (((1:Int))).toNat (((Val.bits x2))).toNat)))(v4:List UInt8)(h4:v4=((x3++Bs.mc (((8:Int))).toNat (((Val.low x2))).toNat)))(v5:List UInt8)(h5:v5=((v4++Bs.mc (((8:Int))).toNat (((Val.high x2))).toNat))),cond x1 (ck (nP (1<=((8:Int))/\((8:Int))<=8/\(x3).length<=1099511627776)) (Bm [(.ag [.pt]),(.sl .bs v1)])) (cond (nP (x0=(16:Int))) (ck (nP (1<=((4:Int))/\((4:Int))<=8/\(x3).length<=1099511627776)) (Bm [(.ag [.pt]),(.sl .bs v2)])) (cond (nP (x0=(8:Int))) (ck (nP (1<=((1:Int))/\((1:Int))<=8/\(x3).length<=1099511627776)) (Bm [(.ag [.pt]),(.sl .bs v3)])) (cond (nP (x0=(19:Int))) (ck (nP (1<=((8:Int))/\((8:Int))<=8/\(x3).length<=1099511627776)) (ck (nP (1<=((8:Int))/\((8:Int))<=8/\(v4).length<=1099511627776)) (Bm [(.ag [.pt]),(.sl .bs v5)]))) (cond (nP (x0=(2:Int))) (aat n x0 (nP (x0=(2:Int))) x2 x3) (cond (nP (x0=(13:Int))) (aat n x0 (nP (x0=(13:Int))) x2 x3) (aat n x0 (nP (x0=(14:Int))) x2 x3))))))=ρ):aau n x0 x1 x2 x3=ρ:=((fD _ _ _ _ _ _ _).trans (by kernel_rfl)).trans (K _ rfl _ rfl _ rfl _ rfl _ rfl)
theorem aw8(n:Nat)(x0:Int)(x1:Bool)(x2:Val)(x3:List UInt8)(K:∀(v1:List UInt8)(h1:v1=((x3++Bs.o6 ((Val.text x2)))))(v2:List UInt8)(h2:v2=((x3++(((Val.text x2))++[0]))))(v3:List UInt8)(h3:v3=((v2++(((Val.more x2))++[0]))))(v4:Int)(h4:v4=(((Val.bytes x2)).length:Int))(v5:UInt64)(h5:v5=((UInt64.ofInt v4)+(4:UInt64)))(v6:List UInt8)(h6:v6=((x3++Bs.mc (((4:Int))).toNat (v5).toNat)))(v7:List UInt8)(h7:v7=((v6++[UInt8.ofInt ((Val.sub x2))])))(v8:List UInt8)(h8:v8=((v7++Bs.mc (((4:Int))).toNat (((UInt64.ofInt v4))).toNat)))(v9:List UInt8)(h9:v9=((x3++Bs.mc (((4:Int))).toNat (((UInt64.ofInt v4))).toNat)))(v10:List UInt8)(kv:v10=((v9++[UInt8.ofInt ((Val.sub x2))]))),cond x1 (ck (nP ((x3).length+(((Val.text x2))).length+10<=1099511627776)) (Bm [(.ag [.pt]),(.sl .bs v1)])) (cond (nP (x0=(11:Int))) (ck (nP ((x3).length+(((Val.text x2))).length<=1099511627776)) (ck (nP ((v2).length+(((Val.more x2))).length<=1099511627776)) (Bm [(.ag [.pt]),(.sl .bs v3)]))) (cond (nP (x0=(5:Int))) (cond (nP ((Val.sub x2)=(2:Int))) (ck (nP (1<=((4:Int))/\((4:Int))<=8/\(x3).length<=1099511627776)) (ck (nP ((v6).length<=1099511627776)) (ck (nP (1<=((4:Int))/\((4:Int))<=8/\(v7).length<=1099511627776)) (aev n x2 v8)))) (ck (nP (1<=((4:Int))/\((4:Int))<=8/\(x3).length<=1099511627776)) (ck (nP ((v9).length<=1099511627776)) (aev n x2 v10)))) (cond (nP (x0=(7:Int))) (ck (nP ((x3).length+(((Val.bytes x2))).length<=2199023255552)) (Bm [(.ag [.pt]),(.sl .bs ((x3++((Val.bytes x2)))))])) (cond (nP (x0=(12:Int))) (ck (nP ((x3).length+(((Val.text x2))).length+10<=1099511627776)) (ck (nP ((v1).length+(((Val.bytes x2))).length<=2199023255552)) (Bm [(.ag [.pt]),(.sl .bs ((v1++((Val.bytes x2)))))]))) (cond (nP (x0=(3:Int))) (abh n x0 (nP (x0=(3:Int))) x2 x3) (abh n x0 (nP (x0=(4:Int))) x2 x3))))))=ρ):aat n x0 x1 x2 x3=ρ:=((fD _ _ _ _ _ _ _).trans (by kernel_rfl)).trans (K _ rfl _ rfl _ rfl _ rfl _ rfl _ rfl _ rfl _ rfl _ rfl _ rfl)
theorem akC(n:Nat)(x0:Val)(x1:List UInt8):aev n x0 x1=ck (nP ((x1).length+(((Val.bytes x0))).length<=2199023255552)) (Bm [(.ag [.pt]),(.sl .bs ((x1++((Val.bytes x0)))))]):=((fD _ _ _ _ _ _ _).trans (by kernel_rfl))
theorem axc(n:Nat)(x0:Int)(x1:Bool)(x2:Val)(x3:List UInt8)(K:∀(v1:List UInt8)(h1:v1=((x3++Bs.y7 ((Val.kids x2)))))(v2:List UInt8)(h2:v2=((((x3))++Bs.mc (((4:Int))).toNat (((0:UInt64))).toNat)))(v3:List UInt8)(h3:v3=((v2++Bs.o6 ((Val.text x2)))))(v4:List UInt8)(h4:v4=((v3++Bs.y7 ((Val.kids x2)))))(v5:Int)(h5:v5=(IntKind.i64.wrap ((((v4).length:Int)) -(((x3).length:Int)))))(v6:List UInt8)(h6:v6=((Bs.rD ((v4)) (((((x3).length:Int)))).toNat (Bs.mc (((4:Int))).toNat (((UInt64.ofInt v5))).toNat)))),cond x1 (ck ((nP ((x3).length+30*bB.bD ((Val.kids x2))+50<=1000000000000))&&nP ((2*bB.bD ((Val.kids x2))+1)<n)) (Bm [(.ag [.pt]),(.sl .bs v1)])) (cond (nP (x0=(15:Int))) (ck (nP (1<=((4:Int))/\((4:Int))<=8/\(((x3))).length<=1099511627776)) (ck (nP ((v2).length+(((Val.text x2))).length+10<=1099511627776)) (ck ((nP ((v3).length+30*bB.bD ((Val.kids x2))+50<=1000000000000))&&nP ((2*bB.bD ((Val.kids x2))+1)<n)) (ck (nP (1<=((4:Int))/\((4:Int))<=8/\0<=((((x3).length:Int)))/\((((x3).length:Int)))+((4:Int))<=((((v4))).length:Int)/\(((v4))).length<=2199023255552)) (Bm [(.ag [.pt]),(.sl .bs v6)]))))) (Bm [(.ag [.pt]),(.sl .bs x3)]))=ρ):abh n x0 x1 x2 x3=ρ:=((fD _ _ _ _ _ _ _).trans (by kernel_rfl)).trans (K _ rfl _ rfl _ rfl _ rfl _ rfl _ rfl)
theorem axa(n:Nat)(v:Val)(b:List UInt8):axb n v b=cond (nP ((Val.kind v)=(1:Int))) (aau n (Val.kind v) (nP ((Val.kind v)=(1:Int))) v b) (cond (nP ((Val.kind v)=(9:Int))) (aau n (Val.kind v) (nP ((Val.kind v)=(9:Int))) v b) (cond (nP ((Val.kind v)=(17:Int))) (aau n (Val.kind v) (nP ((Val.kind v)=(17:Int))) v b) (aau n (Val.kind v) (nP ((Val.kind v)=(18:Int))) v b))):=by kernel_rfl
def aAr:cz:=cP gz zs [(44,abG,bP),(45,amO,bz),(46,ad2,aaJ),(47,anV,dJ),(48,aej,aaU)]
def asl(v:Val):OT:=bT PG aAr 30 bP (.o) [.ag v.cells]
theorem asj(v:Val)(K:∀(v1:List Int)(h1:v1=((Tree.gw (bB.of [] v) []).1))(v2:Int)(h2:v2=((Tree.gw (bB.of [] v) []).2))(v3:Int)(h3:v3=(((Bs.size (bB.of [] v):Nat):Int)))(v4:List UInt8)(h4:v4=((((([]:List UInt8)))++Bs.y7 ((Val.kids v))))),ck (nP (bB.bC (bB.of [] v)<=1099511627776)) (cond (!decide (v2=(0:Int))) (Bm [(.sl .bs ([]:List UInt8)),(.ag [(.i .i64 v2),(.i .i64 0),(.sl .is v1)])]) (cond (!decide ((Val.kind v)=(3:Int))) (Bm [(.sl .bs ([]:List UInt8)),(.ag [(.i .i64 5),(.i .i64 0),(.sl .is ([]:List Int))])]) (ck (nP (bB.bC (bB.of [] v)<=1000000000000)) (cond (nP ((16777216:Int)<v3)) (Bm [(.sl .bs ([]:List UInt8)),(.ag [(.i .i64 9),(.i .i64 0),(.sl .is ([]:List Int))])]) (ck (nP ((((([]:List UInt8)))).length+30*bB.bD ((Val.kids v))+50<=1000000000000)) (ck (nP ((((Bk.mk v4)).b).length<=2199023255552)) (Bm [(.sl .bs ((((Bk.mk v4)).b))),(.ag [(.i .i64 0),(.i .i64 0),(.sl .is ([]:List Int))])])))))))=ρ):asl v=ρ:=Eq.trans (by kernel_rfl) (K _ rfl _ rfl _ rfl _ rfl)
def arY:OT:=bT PG eD 7 bz (.o) []
theorem arX:arY=Bm [(.ag [(.i .i64 200),(.i .i64 65536),(.i .i64 262144)])]:=by kernel_rfl
def auW:cz:=cP gz zs [(124,ad8,bz)]
def ana:Hint:=.s .o (.b (.l [(0,.ptr 1000000 0),(1,.no),(2,.no),(6,.no),(1000000,.cl [(0,800000)]),(800000,.pv)] .o))
def auV(v:UInt64)(n:Int)(b:List UInt8):OT:=bT PG auW 87 dJ ana [.ag [.pt],.u64 v,.i .i64 n,.sl .bs b]
def ach(x0:UInt64)(x1 x2:Int)(x3:List UInt8):OT:=de PG auW 87 dJ ana 5 [.pt,.u64 x0,.i .i64 x1,.i .i64 x2,.ag [.pt],.sl .bs x3]
theorem aem(x0:UInt64)(x1:Int)(x2:Int)(x3:List UInt8)(K:∀(v1:Bool)(h1:v1=(cond (nP (1<=x1/\x1<=8)) (nP ((0:Int)<=x2)) Qg))(v2:Int)(h2:v2=(IntKind.i64.wrap ((8:Int)*x2)))(v3:UInt8)(h3:v3=(UInt8.ofInt (((dc x0 ((v2).toNat))).toNat:Int)))(v4:Int)(h4:v4=(IntKind.i64.wrap (x2 -(1:Int)))),ck (!(nP (1<=x1/\x1<=8))||(nP (1<=x1/\x1<=8))) (ck (!(nP (1<=x1/\x1<=8))||(nP (1<=x1/\x1<=8))) (cond v1 (ck (nP (0<=v2)) (ck (dU ((x3).length+(([v3]:List UInt8)).length) 1) (ach x0 x1 v4 (x3++([v3]:List UInt8))))) (Bm [(.ag [.pt]),(.sl .bs x3)])))=ρ):ach x0 x1 x2 x3=ρ:=((gJ _ _ _ _ _ _ _).trans (by kernel_rfl)).trans (K _ rfl _ rfl _ rfl _ rfl)
theorem auU(v:UInt64)(n:Int)(b:List UInt8)(K:∀(v1:Int)(h1:v1=(IntKind.i64.wrap (n -(1:Int)))),ach v n v1 b=ρ):auV v n b=ρ:=Eq.trans (by kernel_rfl) (K _ rfl)
def aib:Hint:=.s .o (.s .o (.s .o (.j [(1,.ptr 66 0),(3,.no),(4,.no),(66,.cl [])] (.s .o (.b (.j [(1,.ptr 66 0),(3,.no),(4,.no),(9,.no),(10,.no),(66,.cl [])] .o .o))) .o)))
def aw2(it:cm):OT:=bT PG eD 83 bz aib [.ag it.cells]
def abf(x0:Int)(x1:Bool)(x2:Int)(x3:Bool)(x4:cm):OT:=dj PG eD 83 bz aib 87 [.pt,.i .i64 x0,.b x1,.i .i64 x2,.b x3,.ag x4.cells]
def WJ(x0:Int)(x1:Bool)(x2:cm):OT:=dj PG eD 83 bz aib 15 [.pt,.i .i64 x0,.b x1,.ag x2.cells]
theorem aw0(x0:Int)(x1:Bool)(x2:Int)(x3:Bool)(x4:cm)(K:∀(v1:Bool)(h1:v1=(cond (nP ((20:UInt64)<=(cm.n x4))) (nP ((cm.n x4)<=(23:UInt64))) Qg)),cond x3 (WJ x0 x1 (cm.mk (cm.kind x4) 0 (cm.bytes x4) (cm.text x4) (cm.kids x4))) (cond (nP (x2=(3:Int))) (WJ x0 x1 (cm.mk (cm.kind x4) (cm.n x4) [] (cm.text x4) (cm.kids x4))) (cond (nP (x2=(4:Int))) (WJ x0 x1 (cm.mk (cm.kind x4) (cm.n x4) (cm.bytes x4) [] (cm.kids x4))) (cond (nP (x2=(5:Int))) (WJ (0:Int) x1 x4) (cond (nP (x2=(6:Int))) (ck (!decide ((2:Int)=0)) (WJ (0:Int) (nP ((Int.tmod x0 (2:Int))=(0:Int))) x4)) (cond (nP (x2=(7:Int))) (WJ (0:Int) (nP (x0=(1:Int))) (cm.mk (cm.kind x4) 0 (cm.bytes x4) (cm.text x4) (cm.kids x4))) (cond (nP (x2=(8:Int))) (ck (!(nP ((20:UInt64)<=(cm.n x4)))||(nP ((20:UInt64)<=(cm.n x4)))) (ck (!(nP ((20:UInt64)<=(cm.n x4)))||(nP ((20:UInt64)<=(cm.n x4)))) (ck (!(nP ((20:UInt64)<=(cm.n x4)))||(nP ((20:UInt64)<=(cm.n x4)))) (WJ x0 v1 (cm.mk (cm.kind x4) 0 (cm.bytes x4) (cm.text x4) (cm.kids x4)))))) (WJ x0 x1 x4)))))))=ρ):abf x0 x1 x2 x3 x4=ρ:=((fD _ _ _ _ _ _ _).trans (by kernel_rfl)).trans (K _ rfl)
theorem awZ(x0:Int)(x1:Bool)(x2:cm)(K:∀(v1:Bool)(h1:v1=(cond x1 (nP ((cm.n x2)=(0:UInt64))) Qg))(v2:Int)(h2:v2=(((cm.bytes x2)).length:Int))(v3:Bool)(h3:v3=(cond v1 (nP (v2=(0:Int))) Qg))(v4:Bool)(h4:v4=(cond v3 (nP ((cm.text x2)=([]:bE))) Qg))(v5:Bool)(h5:v5=(cond v4 (nP (x0=(0:Int))) Qg)),ck (!x1||x1) (ck (!x1||x1) (ck (!x1||x1) (ck (!v1||v1) (ck (!v1||v1) (ck (!v1||v1) (ck (!v1||v1) (ck (!v3||v3) (ck (!v3||v3) (ck (!v3||v3) (ck (!v4||v4) (ck (!v4||v4) (Bm [(.b v5)]))))))))))))=ρ):WJ x0 x1 x2=ρ:=((fD _ _ _ _ _ _ _).trans (by kernel_rfl)).trans (K _ rfl _ rfl _ rfl _ rfl _ rfl)
theorem aw1(it:cm)(K:∀(v1:Int)(h1:v1=(((cm.kids it)).length:Int)),cond (nP ((cm.kind it)=(1:Int))) (abf v1 Qf (cm.kind it) (nP ((cm.kind it)=(1:Int))) it) (cond (nP ((cm.kind it)=(2:Int))) (abf v1 Qf (cm.kind it) (nP ((cm.kind it)=(2:Int))) it) (abf v1 Qf (cm.kind it) (nP ((cm.kind it)=(9:Int))) it))=ρ):aw2 it=ρ:=Eq.trans (by kernel_rfl) (K _ rfl)
def avt(n:Nat):cz:=cP gz zs [(53,aa1 n,bz),(83,anW,bz),(84,adE,bP)]
def anl:Hint:=.s .o (.s .o (.s .o (.s .o (.s (.s .o (.b (.l (sc [29,30,31]) .o))) .o))))
def avs(n:Nat)(it:cm):OT:=bT PG (avt n) 53 bz anl [.ag it.cells]
def aa0(n:Nat)(x0:List bI)(x1 x2:Int):OT:=de PG (avt n) 53 bz anl 175 [.sl .il x0,.i .i64 x1,.i .i64 x2]
theorem aj7(n:Nat)(x0:List bI)(x1:Int)(x2:Int)(K:∀(v1:Int)(h1:v1=(Cb.kU (bI.of (bI.val (List.getD x0 (x2).toNat (eu.dH .il))))))(v2:Int)(h2:v2=(IntKind.i64.wrap (x2+(1:Int)))),cond (nP (x2<x1)) (ck (bH x2 (x0).length) (ck ((nP (bI.bC (bI.of (bI.val (List.getD x0 (x2).toNat (eu.dH .il))))<=1099511627776))&&nP ((bI.bC (bI.of (bI.val (List.getD x0 (x2).toNat (eu.dH .il)))))<n)) (cond (!decide (v1=(0:Int))) (Bm [(.i .i64 v1)]) (aa0 n x0 x1 v2)))) (Bm [(.i .i64 0)])=ρ):aa0 n x0 x1 x2=ρ:=((gJ _ _ _ _ _ _ _).trans (by kernel_rfl)).trans (K _ rfl _ rfl)
theorem avr(n:Nat)(it:cm)(K:∀(v1:Bool)(h1:v1=(cond (nP ((cm.kind it)<(1:Int))) Qf (nP ((9:Int)<(cm.kind it)))))(v2:Int)(h2:v2=(((fJ.look ((cm.text it))).1:Int)))(v3:Bool)(h3:v3=(!(fJ.whole ((cm.text it)))))(v4:Int)(h4:v4=(((cm.kids it)).length:Int)),ck (!(!(nP ((cm.kind it)<(1:Int))))||(!(nP ((cm.kind it)<(1:Int))))) (ck (!(!(nP ((cm.kind it)<(1:Int))))||(!(nP ((cm.kind it)<(1:Int))))) (ck ((nP ((cm.kind it)<(1:Int)))||(!(nP ((cm.kind it)<(1:Int))))) (cond v1 (Bm [(.i .i64 5)]) (ck (nP (bI.bC (bI.of it)<=1099511627776)) (cond (!(Cb.dV (bI.of it))) (Bm [(.i .i64 1)]) (ck (mZ ((cm.text it)).length) (ck (nP (((cm.text it)).length<=1099511627776)) (cond v3 (Bm [(.i .i64 4)]) (aa0 n (cm.kids it) v4 (0:Int))))))))))=ρ):avs n it=ρ:=Eq.trans (by kernel_rfl) (K _ rfl _ rfl _ rfl _ rfl)
def art(s:bE):OT:=bT PG eD 81 bz (.o) [.s s]
theorem ars(s:bE):art s=Bm [(.ag [(.i .i64 4),(.u64 0),(.sl .bs ([]:List UInt8)),(.s s),(.sl .il ([]:List bI))])]:=by kernel_rfl
def az8:cz:=cP gz zs [(26,aaQ,lA)]
def aqU(b:List UInt8):OT:=bT PG az8 132 bz (.o) [.sl .bs b]
theorem aqT(b:List UInt8):aqU b=ck (dU (b).length 1) (Bm [(.ag [(.i .i64 3),(.u64 0),(.sl .bs (b)),(.s []),(.sl .il ([]:List bI))])]):=by kernel_rfl
def aqi(n:UInt64):OT:=bT PG eD 189 bz (.o) [.u64 n]
theorem aqh(n:UInt64):aqi n=Bm [(.ag [(.i .i64 1),(.u64 n),(.sl .bs ([]:List UInt8)),(.s []),(.sl .il ([]:List bI))])]:=by kernel_rfl
def ast(n:UInt64):OT:=bT PG eD 133 bz (.o) [.u64 n]
theorem ass(n:UInt64):ast n=Bm [(.ag [(.i .i64 8),(.u64 n),(.sl .bs ([]:List UInt8)),(.s []),(.sl .il ([]:List bI))])]:=by kernel_rfl
def aAD:cz:=cP gz zs [(189,aft,bz)]
def atS(v:Int):OT:=bT PG aAD 134 bz (.o) [.i .i64 v]
theorem atQ(v:Int):atS v=cond (nP (v<(0:Int))) (Bm [(.ag [(.i .i64 2),(.u64 (~~~(UInt64.ofInt v))),(.sl .bs ([]:List UInt8)),(.s []),(.sl .il ([]:List bI))])]) (Bm [(.ag (cm.cells (bI.val (Db.plus ((UInt64.ofInt v))))))]):=by kernel_rfl
def aol:cz:=cP gz zs [(132,ad0,bz)]
def aiy:Hint:=.s .o (.s .o (.s (.s .o (.b (.l [(1,.ptr 27 0),(2,.ptr 28 0),(3,.dB 800000),(4,.no),(27,.cl []),(28,.cl []),(800000,.pv)] (.s .o (.s (.b (.s .o (.j [(1,.ptr 27 0),(2,.ptr 28 0),(3,.dB 800000),(4,.no),(5,.no),(27,.cl []),(28,.cl []),(800000,.pv)] .o .o))) .o))))) .o))
def ax5(v:Val):OT:=bT PG aol 190 bz aiy [.ag v.cells]
def aay(x0:Int)(x1:Val)(x2:cm)(x3:List UInt8):OT:=de PG aol 190 bz aiy 43 [.pt,.pt,.pt,.i .i64 x0,.ag x1.cells,.ag x2.cells,.sl .bs x3]
def ac4(x0:Int)(x1:UInt64)(x2:Val)(x3:cm)(x4:List UInt8):OT:=dj PG aol 190 bz aiy 1611 [.pt,.pt,.pt,.i .i64 x0,.u64 x1,.ag x2.cells,.ag x3.cells,.sl .bs x4]
theorem aeD(x0:Int)(x1:Val)(x2:cm)(x3:List UInt8):aay x0 x1 x2 x3=cond (nP ((0:Int)<=x0)) (cond (nP (x0<(64:Int))) (ac4 x0 (Val.low x1) x1 x2 x3) (ac4 x0 (Val.high x1) x1 x2 x3)) (ck (nP ((x3).length<=1099511627776)) (Bm [(.ag (cm.cells (bI.val (Db.raw x3))))])):=((gJ _ _ _ _ _ _ _).trans (by kernel_rfl))
theorem ax3(x0:Int)(x1:UInt64)(x2:Val)(x3:cm)(x4:List UInt8)(K:∀(v1:UInt64)(h1:v1=(dc x1 (((Int.tmod x0 (64:Int))).toNat)))(v2:UInt8)(h2:v2=(UInt8.ofInt ((v1).toNat:Int)))(v3:Int)(h3:v3=(IntKind.i64.wrap (x0 -(8:Int)))),ck (!decide ((64:Int)=0)) (ck (nP (0<=(Int.tmod x0 (64:Int)))) (ck (dU ((x4).length+(([v2]:List UInt8)).length) 1) (aay v3 x2 x3 (x4++([v2]:List UInt8)))))=ρ):ac4 x0 x1 x2 x3 x4=ρ:=((fD _ _ _ _ _ _ _).trans (by kernel_rfl)).trans (K _ rfl _ rfl _ rfl)
theorem ax4(v:Val):ax5 v=aay (120:Int) v (cm.mk 0 0 [] [] []) ([]:List UInt8):=by kernel_rfl
def axB(n:Nat):cz:=cP gz zs [(81,ad4,bz),(82,aa8 n,bz)]
def aoa:Hint:=.s .o (.s .o (.s (.s .o (.b (.l [(2,.ptr 28 0),(3,.ptr 29 0),(7,.no),(8,.no),(9,.no),(28,.cl [(4,800000)]),(29,.cl [(4,800001)]),(800000,.pv),(800001,.pv)] .o))) .o))
def axA(n:Nat)(l:List bB):OT:=bT PG (axB n) 52 bz aoa [.sl .fl l]
def acX(n:Nat)(x0:List bB)(x1 x2 x3:Int)(x4:UInt64)(x5:List UInt8)(x6:bE)(x7:Int)(x8:UInt64)(x9:List UInt8)(lM:bE)(kh lN:List bI):OT:=de PG (axB n) 52 bz aoa 43 [.pt,.pt,.sl .fl x0,.i .i64 x1,.i .i64 x2,.ag [.i .i64 x3,.u64 x4,.sl .bs x5,.s x6,.pt],.ag [.i .i64 x7,.u64 x8,.sl .bs x9,.s lM,.pt],.sl .il kh,.sl .il lN]
theorem akJ(n:Nat)(x0:List bB)(x1:Int)(x2:Int)(x3:Int)(x4:UInt64)(x5:List UInt8)(x6:bE)(x7:Int)(x8:UInt64)(x9:List UInt8)(lM:bE)(kh:List bI)(lN:List bI)(K:∀(v1:bB)(h1:v1=(List.getD x0 (x2).toNat (eu.dH .fl)))(v2:List bI)(h2:v2=([(bI.of (bI.val (Db.text ((bB.name v1))))),(bI.of (bI.val (Db.item (bB.of [] (bB.val v1)))))]:List bI))(v3:Int)(h3:v3=(IntKind.i64.wrap (x2+(1:Int)))),cond (nP (x2<x1)) (ck (bH x2 (x0).length) (ck ((nP (bB.bC (bB.of [] (bB.val v1))<=1073741824))&&nP ((3*bB.bC (bB.of [] (bB.val v1))+2)<n)) (ck (dU ((lN).length+(v2).length) 80) (acX n x0 x1 v3 x3 x4 x5 x6 x7 x8 x9 lM kh (lN++v2))))) (Bm [(.ag [(.i .i64 x7),(.u64 x8),(.sl .bs x9),(.s lM),(.sl .il lN)])])=ρ):acX n x0 x1 x2 x3 x4 x5 x6 x7 x8 x9 lM kh lN=ρ:=((gJ _ _ _ _ _ _ _).trans (by kernel_rfl)).trans (K _ rfl _ rfl _ rfl)
theorem axz(n:Nat)(l:List bB):axA n l=acX n l ((l).length:Int) (0:Int) (0:Int) (0:UInt64) ([]:List UInt8) ([]:bE) (6:Int) (0:UInt64) ([]:List UInt8) ([]:bE) ([]:List bI) ([]:List bI):=by kernel_rfl
def anK(n:Nat):cz:=cP gz zs [(52,aaw n,bz),(81,ad4,bz),(82,aa8 n,bz),(130,adI,bz),(131,agy,abS),(132,ad0,bz),(133,agu,bz),(134,ag3,bz),(135,ac1 n,bz)]
def ahX:Hint:=.s .o (.j [(1,.ptr 82 0),(2,.ptr 83 0),(82,.cl []),(83,.cl [(4,800000)]),(800000,.pv)] (.s .o (.b (.s .o (.s .o (.s .o (.s .o (.s .o (.s .o (.s .o (.s (.s .o (.s (.s .o (.s (.s .o (.b (.l [(2,.ptr 83 0),(3,.ptr 84 0),(30,.no),(31,.no),(32,.no),(83,.cl [(4,800000)]),(84,.cl [(4,800001)]),(800000,.pv),(800001,.pv)] .o))) .o)) .o)) .o)))))))))) .o)
def awt(n:Nat)(v:Val):OT:=bT PG (anK n) 82 bz ahX [.ag v.cells]
def acH(n:Nat)(x0:List bB)(x1 x2 x3:Int)(x4:UInt64)(x5:List UInt8)(x6:bE)(x7:Int)(x8:UInt64)(x9:List UInt8)(lM:bE)(kh lN:List bI):OT:=de PG (anK n) 82 bz ahX 350197 [.pt,.pt,.sl .fl x0,.i .i64 x1,.i .i64 x2,.ag [.i .i64 x3,.u64 x4,.sl .bs x5,.s x6,.pt],.ag [.i .i64 x7,.u64 x8,.sl .bs x9,.s lM,.pt],.sl .il kh,.sl .il lN]
def aa7(n:Nat)(x0:Val)(x1:Int)(x2:UInt64)(x3:List UInt8)(x4:bE)(x5:List bI):OT:=dj PG (anK n) 82 bz ahX 3 [.pt,.pt,.ag x0.cells,.ag [.i .i64 x1,.u64 x2,.sl .bs x3,.s x4,.pt],.sl .il x5]
theorem akr(n:Nat)(x0:List bB)(x1:Int)(x2:Int)(x3:Int)(x4:UInt64)(x5:List UInt8)(x6:bE)(x7:Int)(x8:UInt64)(x9:List UInt8)(lM:bE)(kh:List bI)(lN:List bI)(K:∀(v1:bB)(h1:v1=(List.getD x0 (x2).toNat (eu.dH .fl)))(v2:List bI)(h2:v2=([(bI.of (bI.val (Db.item (bB.of [] (bB.val v1)))))]:List bI))(v3:Int)(h3:v3=(IntKind.i64.wrap (x2+(1:Int)))),cond (nP (x2<x1)) (ck (bH x2 (x0).length) (ck ((nP (bB.bC (bB.of [] (bB.val v1))<=1073741824))&&nP ((3*bB.bC (bB.of [] (bB.val v1))+2)<n)) (ck (dU ((lN).length+(v2).length) 80) (acH n x0 x1 v3 x3 x4 x5 x6 x7 x8 x9 lM kh (lN++v2))))) (Bm [(.ag [(.i .i64 x7),(.u64 x8),(.sl .bs x9),(.s lM),(.sl .il lN)])])=ρ):acH n x0 x1 x2 x3 x4 x5 x6 x7 x8 x9 lM kh lN=ρ:=((gJ _ _ _ _ _ _ _).trans (by kernel_rfl)).trans (K _ rfl _ rfl _ rfl)
theorem awp(n:Nat)(x0:Val)(x1:Int)(x2:UInt64)(x3:List UInt8)(x4:bE)(x5:List bI)(K:∀(v1:UInt64)(h1:v1=((1000:UInt64)+(UInt64.ofInt (Val.kind x0))))(v2:List bI)(h2:v2=([(bI.of (bI.val (Db.tagged x0 (Db.mapped (x0).kids))))]:List bI)),ck ((nP (bB.bC (bB.of [] x0)<=1073741824))&&nP ((3*bB.bC (bB.of [] x0)+1)<n)) (Bm [(.ag [(.i .i64 7),(.u64 v1),(.sl .bs ([]:List UInt8)),(.s []),(.sl .il v2)])])=ρ):aa7 n x0 x1 x2 x3 x4 x5=ρ:=((fD _ _ _ _ _ _ _).trans (by kernel_rfl)).trans (K _ rfl _ rfl)
theorem aws(n:Nat)(v:Val)(K:∀(v1:Bool)(h1:v1=(Tree.regular ((Val.kids v))))(v2:List bI)(h2:v2=(bI.kids (Db.list (([]:List bI)))))(v3:Int)(h3:v3=(bI.kind (Db.list (([]:List bI)))))(v4:UInt64)(h4:v4=(bI.n (Db.list (([]:List bI)))))(v5:List UInt8)(h5:v5=(bI.bytes (Db.list (([]:List bI)))))(v6:bE)(h6:v6=(bI.text (Db.list (([]:List bI)))))(v7:Int)(h7:v7=(((Val.kids v)).length:Int))(v8:UInt64)(h8:v8=((20:UInt64)+(Val.bits v)))(v9:Int)(h9:v9=(IntKind.i32.wrap (((Val.bits v)).toNat:Int))),cond (nP ((Val.kind v)=(1:Int))) (Bm [(.ag [(.i .i64 9),(.u64 (Val.bits v)),(.sl .bs ([]:List UInt8)),(.s []),(.sl .il ([]:List bI))])]) (cond (nP ((Val.kind v)=(2:Int))) (Bm [(.ag (cm.cells (bI.val (Db.text ((Val.text v))))))]) (cond (nP ((Val.kind v)=(3:Int))) (ck ((nP (bB.bD ((Val.kids v))<=1073741824))&&nP ((3*bB.bD ((Val.kids v))+3)<n)) (Bm [(.ag (cm.cells (bI.val (Db.map (Db.mapped ((Val.kids v)))))))])) (cond (nP ((Val.kind v)=(4:Int))) (ck (nP (((Val.kids v)).length<=1099511627776)) (cond v1 (acH n (Val.kids v) v7 (0:Int) (0:Int) (0:UInt64) ([]:List UInt8) ([]:bE) v3 v4 v5 v6 ([]:List bI) v2) (aa7 n v (0:Int) (0:UInt64) ([]:List UInt8) ([]:bE) ([]:List bI)))) (cond (nP ((Val.kind v)=(5:Int))) (cond (nP ((Val.sub v)=(0:Int))) (ck (nP ((((Val.bytes v))).length<=1099511627776)) (Bm [(.ag (cm.cells (bI.val (Db.raw ((Val.bytes v))))))])) (aa7 n v (0:Int) (0:UInt64) ([]:List UInt8) ([]:bE) ([]:List bI))) (cond (nP ((Val.kind v)=(6:Int))) (Bm [(.ag (cm.cells (bI.val (Db.simple ((23:UInt64))))))]) (cond (nP ((Val.kind v)=(10:Int))) (Bm [(.ag (cm.cells (bI.val (Db.simple ((22:UInt64))))))]) (cond (nP ((Val.kind v)=(8:Int))) (Bm [(.ag (cm.cells (bI.val (Db.simple v8))))]) (cond (nP ((Val.kind v)=(16:Int))) (ck (nP (-9223372036854775808<=((IntKind.i64.wrap v9))/\((IntKind.i64.wrap v9))<=9223372036854775807)) (Bm [(.ag (cm.cells (bI.val (Db.integer ((IntKind.i64.wrap v9))))))])) (aa7 n v (0:Int) (0:UInt64) ([]:List UInt8) ([]:bE) ([]:List bI))))))))))=ρ):awt n v=ρ:=Eq.trans (by kernel_rfl) (K _ rfl _ rfl _ rfl _ rfl _ rfl _ rfl _ rfl _ rfl _ rfl)
def aoe(n:Nat):cz:=cP gz zs [(52,aaw n,bz),(81,ad4,bz),(131,agy,abS),(132,ad0,bz),(133,agu,bz),(134,ag3,bz),(189,aft,bz),(190,aok,bz)]
def ais:Hint:=.s .o (.s (.s .o (.b (.s .o (.s .o (.s .o (.s .o (.s .o (.s .o (.j [(1,.ptr 80 0),(2,.ptr 81 0),(4,.no),(26,.no),(80,.cl []),(81,.cl [])] .o (.s .o (.s .o (.s .o (.s .o (.s .o (.j [(1,.ptr 80 0),(2,.ptr 81 0),(4,.no),(53,.no),(80,.cl []),(81,.cl [])] .o .o))))))))))))))) .o)
def axM(n:Nat)(v:Val):OT:=bT PG (aoe n) 135 bz ais [.ag v.cells]
def ac0(n:Nat)(x0:Int)(x1:Bool)(x2:Val)(x3:cm):OT:=dj PG (aoe n) 135 bz ais 2037 [.pt,.pt,.i .i64 x0,.b x1,.ag x2.cells,.ag x3.cells]
def acZ(n:Nat)(x0:Int)(x1:Bool)(x2:Val)(x3:cm):OT:=dj PG (aoe n) 135 bz ais 131061 [.pt,.pt,.i .i64 x0,.b x1,.ag x2.cells,.ag x3.cells]
theorem axI(n:Nat)(x0:Int)(x1:Bool)(x2:Val)(x3:cm)(K:∀(v1:Int)(h1:v1=(IntKind.i64.wrap (((Val.bits x2)).toNat:Int)))(v2:List bI)(h2:v2=([(bI.of (bI.val (Db.text ((Val.text x2))))),(bI.of (bI.val (Db.text ((Val.more x2)))))]:List bI))(v3:List bI)(h3:v3=([(bI.of (bI.val (Db.text ((Val.text x2))))),(bI.of (bI.val (Db.raw ((Val.bytes x2)))))]:List bI)),cond x1 (ck (nP (-9223372036854775808<=v1/\v1<=9223372036854775807)) (Bm [(.ag (cm.cells (bI.val (Db.integer v1))))])) (cond (nP (x0=(11:Int))) (Bm [(.ag (cm.cells (bI.val (Db.list v2))))]) (cond (nP (x0=(12:Int))) (ck (nP ((((Val.bytes x2))).length<=1099511627776)) (Bm [(.ag (cm.cells (bI.val (Db.list v3))))])) (cond (nP (x0=(13:Int))) (acZ n x0 (nP (x0=(13:Int))) x2 x3) (acZ n x0 (nP (x0=(14:Int))) x2 x3))))=ρ):ac0 n x0 x1 x2 x3=ρ:=((fD _ _ _ _ _ _ _).trans (by kernel_rfl)).trans (K _ rfl _ rfl _ rfl)
theorem axH(n:Nat)(x0:Int)(x1:Bool)(x2:Val)(x3:cm)(K:∀(v1:List bI)(h1:v1=([(bI.of (bI.val (Db.text ((Val.text x2))))),(bI.of (bI.val (Db.map (Db.mapped ((Val.kids x2))))))]:List bI)),cond x1 (Bm [(.ag (cm.cells (bI.val (Db.text ((Val.text x2))))))]) (cond (nP (x0=(15:Int))) (ck ((nP (bB.bD ((Val.kids x2))<=1073741824))&&nP ((3*bB.bD ((Val.kids x2))+3)<n)) (Bm [(.ag (cm.cells (bI.val (Db.list v1))))])) (cond (nP (x0=(17:Int))) (Bm [(.ag (cm.cells (bI.val (Db.plus ((Val.bits x2))))))]) (cond (nP (x0=(19:Int))) (Bm [(.ag (cm.cells (bI.val (Db.raw (Db.words (x2).high (x2).low)))))]) (Bm [(.ag (cm.cells (bI.val (Db.simple ((22:UInt64))))))]))))=ρ):acZ n x0 x1 x2 x3=ρ:=((fD _ _ _ _ _ _ _).trans (by kernel_rfl)).trans (K _ rfl)
theorem axL(n:Nat)(v:Val)(K:∀(v1:List bI)(h1:v1=([(bI.of (bI.val (Db.plus ((UInt64.ofInt (Val.sub v)))))),(bI.of (bI.val (Db.raw ((Val.bytes v)))))]:List bI)),cond (nP ((Val.kind v)=(4:Int))) (ck ((nP (bB.bD ((Val.kids v))<=1073741824))&&nP ((3*bB.bD ((Val.kids v))+3)<n)) (Bm [(.ag (cm.cells (bI.val (Db.map (Db.mapped ((Val.kids v)))))))])) (cond (nP ((Val.kind v)=(5:Int))) (ck (nP ((((Val.bytes v))).length<=1099511627776)) (Bm [(.ag (cm.cells (bI.val (Db.list v1))))])) (cond (nP ((Val.kind v)=(7:Int))) (ck (nP ((((Val.bytes v))).length<=1099511627776)) (Bm [(.ag (cm.cells (bI.val (Db.raw ((Val.bytes v))))))])) (cond (nP ((Val.kind v)=(9:Int))) (ac0 n (Val.kind v) (nP ((Val.kind v)=(9:Int))) v (cm.mk 0 0 [] [] [])) (ac0 n (Val.kind v) (nP ((Val.kind v)=(18:Int))) v (cm.mk 0 0 [] [] [])))))=ρ):axM n v=ρ:=Eq.trans (by kernel_rfl) (K _ rfl)
def azW:cz:=cP gz zs [(44,abG,bP),(52,aob,bz)]
def aqg(v:Val):OT:=bT PG azW 33 bP (.o) [.ag v.cells]
theorem aqf(v:Val)(K:∀(v1:List Int)(h1:v1=((Tree.gw (bB.of [] v) []).1))(v2:Int)(h2:v2=((Tree.gw (bB.of [] v) []).2)),ck (nP (bB.bC (bB.of [] v)<=1099511627776)) (cond (!decide (v2=(0:Int))) (Bm [(.ag [(.i .i64 0),(.u64 0),(.sl .bs ([]:List UInt8)),(.s []),(.sl .il ([]:List bI))]),(.ag [(.i .i64 v2),(.i .i64 0),(.sl .is v1)])]) (cond (!decide ((Val.kind v)=(3:Int))) (Bm [(.ag [(.i .i64 0),(.u64 0),(.sl .bs ([]:List UInt8)),(.s []),(.sl .il ([]:List bI))]),(.ag [(.i .i64 5),(.i .i64 0),(.sl .is ([]:List Int))])]) (ck (nP (bB.bD ((Val.kids v))<=1073741824)) (Bm [(.ag (cm.cells (bI.val (Db.map (Db.mapped ((Val.kids v))))))),(.ag [(.i .i64 0),(.i .i64 0),(.sl .is ([]:List Int))])]))))=ρ):aqg v=ρ:=Eq.trans (by kernel_rfl) (K _ rfl _ rfl)
def aAw:cz:=cP gz zs [] [9]
def asA(l:List bI):OT:=bT PG aAw 131 abS (.o) [.sl .il l]
theorem asz(l:List bI):asA l=Bm [(.ag [(.i .i64 5),(.u64 0),(.sl .bs ([]:List UInt8)),(.s []),(.sl .il l)])]:=by kernel_rfl
def apA(n:UInt64):OT:=bT PG eD 137 bz (.o) [.u64 n]
theorem apz(n:UInt64):apA n=cond (nP (n<(24:UInt64))) (Bm [(.i .i64 0)]) (cond (nP (n<(256:UInt64))) (Bm [(.i .i64 1)]) (cond (nP (n<(65536:UInt64))) (Bm [(.i .i64 2)]) (cond (nP (n<(4294967296:UInt64))) (Bm [(.i .i64 4)]) (Bm [(.i .i64 8)])))):=by kernel_rfl
end Go.Eng
namespace Go.Eng
open Go.Proofs
variable{ρ:OT}
def auQ:cz:=cP gz zs [(73,aaG,dJ),(87,ael,dJ),(137,alL,bz)]
def am7:Hint:=.s .o (.j [(0,.ptr 1000000 0),(2,.no),(6,.no),(1000000,.cl [(0,800000)]),(800000,.pv)] .o .o)
def auP(m:Int)(n:UInt64)(b:List UInt8):OT:=bT PG auQ 85 dJ am7 [.ag [.pt],.i .i64 m,.u64 n,.sl .bs b]
def Yl(x0:UInt64)(x1:Int)(x2:List UInt8):OT:=dj PG auQ 85 dJ am7 3 [.pt,.u64 x0,.i .i64 x1,.ag [.pt],.sl .bs x2]
theorem auN(x0:UInt64)(x1:Int)(x2:List UInt8):Yl x0 x1 x2=ck (nP ((x2).length<=1099511627776)) (Bm [(.ag [.pt]),(.sl .bs ((x2++lD.high x0 x1)))]):=((fD _ _ _ _ _ _ _).trans (by kernel_rfl))
theorem auO(m:Int)(n:UInt64)(b:List UInt8)(K:∀(v1:Int)(h1:v1=(IntKind.i64.wrap ((32:Int)*m)))(v2:Int)(h2:v2=(IntKind.i64.wrap ((n).toNat:Int)))(v3:List UInt8)(h3:v3=((b++[UInt8.ofInt ((IntKind.i64.wrap (v1+v2)))])))(v4:Int)(h4:v4=(IntKind.i64.wrap (v1+(24:Int))))(v5:Int)(h5:v5=(IntKind.i64.wrap (v1+(25:Int))))(v6:Int)(h6:v6=(IntKind.i64.wrap (v1+(26:Int))))(v7:Int)(h7:v7=(IntKind.i64.wrap (v1+(27:Int)))),cond (nP (((Cb.dK n))=(0:Int))) (ck (nP ((b).length<=1099511627776)) (Yl n ((Cb.dK n)) v3)) (cond (nP (((Cb.dK n))=(1:Int))) (ck (nP ((b).length<=1099511627776)) (Yl n ((Cb.dK n)) ((b++[UInt8.ofInt v4])))) (cond (nP (((Cb.dK n))=(2:Int))) (ck (nP ((b).length<=1099511627776)) (Yl n ((Cb.dK n)) ((b++[UInt8.ofInt v5])))) (cond (nP (((Cb.dK n))=(4:Int))) (ck (nP ((b).length<=1099511627776)) (Yl n ((Cb.dK n)) ((b++[UInt8.ofInt v6])))) (ck (nP ((b).length<=1099511627776)) (Yl n ((Cb.dK n)) ((b++[UInt8.ofInt v7])))))))=ρ):auP m n b=ρ:=Eq.trans (by kernel_rfl) (K _ rfl _ rfl _ rfl _ rfl _ rfl _ rfl _ rfl)
def anT(n:Nat):cz:=cP gz zs [(54,abd n,dJ),(73,aaG,dJ),(85,am8,dJ),(86,adz,dJ),(87,ael,dJ)]
def ah7:Hint:=.s .o (.s .o (.j [(0,.ptr 1000000 0),(3,.ptr 95 0),(95,.cl []),(1000000,.cl [(0,800000)]),(800000,.pv)] .o (.s .o (.b (.l [(0,.ptr 1000000 0),(82,.no),(83,.no),(84,.no),(1000000,.cl [(0,800000)]),(800000,.pv)] .o)))))
def awT(n:Nat)(it:cm)(b:List UInt8):OT:=bT PG (anT n) 54 dJ ah7 [.ag [.pt],.ag it.cells,.sl .bs b]
def WG(n:Nat)(x0:cm)(x1:List UInt8):OT:=dj PG (anT n) 54 dJ ah7 7 [.pt,.pt,.ag x0.cells,.ag [.pt],.sl .bs x1]
def acL(n:Nat)(x0:List bI)(x1 x2:Int)(x3:List UInt8):OT:=de PG (anT n) 54 dJ ah7 47 [.pt,.sl .il x0,.i .i64 x1,.i .i64 x2,.ag [.pt],.sl .bs x3]
theorem awQ(n:Nat)(x0:cm)(x1:List UInt8)(K:∀(v1:Int)(h1:v1=(((cm.kids x0)).length:Int)),acL n (cm.kids x0) v1 (0:Int) x1=ρ):WG n x0 x1=ρ:=((fD _ _ _ _ _ _ _).trans (by kernel_rfl)).trans (K _ rfl)
theorem aky(n:Nat)(x0:List bI)(x1:Int)(x2:Int)(x3:List UInt8)(K:∀(v1:List UInt8)(h1:v1=((x3++Cb.lay (bI.of (bI.val (List.getD x0 (x2).toNat (eu.dH .il)))))))(v2:Int)(h2:v2=(IntKind.i64.wrap (x2+(1:Int)))),cond (nP (x2<x1)) (ck (bH x2 (x0).length) (ck ((nP ((x3).length+16*bI.bC (bI.of (bI.val (List.getD x0 (x2).toNat (eu.dH .il))))<=1099511627776)&&nP (Cb.kU (bI.of (bI.val (List.getD x0 (x2).toNat (eu.dH .il))))=0))&&nP ((bI.bC (bI.of (bI.val (List.getD x0 (x2).toNat (eu.dH .il)))))<n)) (acL n x0 x1 v2 v1))) (Bm [(.ag [.pt]),(.sl .bs x3)])=ρ):acL n x0 x1 x2 x3=ρ:=((gJ _ _ _ _ _ _ _).trans (by kernel_rfl)).trans (K _ rfl _ rfl)
theorem awS(n:Nat)(it:cm)(b:List UInt8)(K:∀(v1:Int)(h1:v1=(((cm.kids it)).length:Int))(v2:List UInt8)(h2:v2=((b++Cb.head ((0:Int)) ((cm.n it)))))(v3:List UInt8)(h3:v3=((b++Cb.head ((1:Int)) ((cm.n it)))))(v4:Int)(h4:v4=(((cm.bytes it)).length:Int))(v5:List UInt8)(h5:v5=((b++Cb.head ((2:Int)) ((UInt64.ofInt v4)))))(v6:Int)(h6:v6=(((cm.text it)).length:Int))(v7:List UInt8)(h7:v7=((b++Cb.head ((3:Int)) ((UInt64.ofInt v6)))))(v8:List UInt8)(h8:v8=((b++Cb.head ((4:Int)) ((UInt64.ofInt v1)))))(v9:UInt64)(h9:v9=((UInt64.ofInt v1)/(2:UInt64)))(v10:List UInt8)(kv:v10=((b++Cb.head ((5:Int)) v9)))(v11:List UInt8)(nK:v11=((b++Cb.head ((6:Int)) ((cm.n it)))))(v12:List UInt8)(mS:v12=((b++Cb.head ((7:Int)) ((cm.n it)))))(jQ:List UInt8)(rm:jQ=((b++[UInt8.ofInt ((251:Int))])))(iW:List UInt8)(s0:iW=((jQ++lD.high ((cm.n it)) ((8:Int))))),cond (nP ((cm.kind it)=(1:Int))) (ck (nP (0<=((0:Int))/\((0:Int))<=7/\(b).length<=1099511627775)) (WG n it v2)) (cond (nP ((cm.kind it)=(2:Int))) (ck (nP (0<=((1:Int))/\((1:Int))<=7/\(b).length<=1099511627775)) (WG n it v3)) (cond (nP ((cm.kind it)=(3:Int))) (ck (nP (0<=((2:Int))/\((2:Int))<=7/\(b).length<=1099511627775)) (ck (nP ((v5).length+(((cm.bytes it))).length<=2199023255552)) (WG n it ((v5++((cm.bytes it))))))) (cond (nP ((cm.kind it)=(4:Int))) (ck (nP (0<=((3:Int))/\((3:Int))<=7/\(b).length<=1099511627775)) (ck (mZ ((cm.text it)).length) (ck (nP ((v7).length+(((cm.text it))).length<=2199023255552)) (WG n it ((v7++((cm.text it)))))))) (cond (nP ((cm.kind it)=(5:Int))) (ck (nP (0<=((4:Int))/\((4:Int))<=7/\(b).length<=1099511627775)) (WG n it v8)) (cond (nP ((cm.kind it)=(6:Int))) (ck (!decide ((2:UInt64)=0)) (ck (nP (0<=((5:Int))/\((5:Int))<=7/\(b).length<=1099511627775)) (WG n it v10))) (cond (nP ((cm.kind it)=(7:Int))) (ck (nP (0<=((6:Int))/\((6:Int))<=7/\(b).length<=1099511627775)) (WG n it v11)) (cond (nP ((cm.kind it)=(8:Int))) (ck (nP (0<=((7:Int))/\((7:Int))<=7/\(b).length<=1099511627775)) (WG n it v12)) (cond (nP ((cm.kind it)=(9:Int))) (ck (nP ((b).length<=1099511627776)) (ck (nP ((jQ).length<=1099511627776)) (WG n it iW))) (WG n it b)))))))))=ρ):awT n it b=ρ:=Eq.trans (by kernel_rfl) (K _ rfl _ rfl _ rfl _ rfl _ rfl _ rfl _ rfl _ rfl _ rfl _ rfl _ rfl _ rfl _ rfl _ rfl)
def aAs:cz:=cP gz zs [(46,ad2,aaJ),(48,aej,aaU),(53,anm,bz),(54,anS,dJ)]
def aso(it:cm):OT:=bT PG aAs 34 bP (.o) [.ag it.cells]
theorem asn(it:cm)(K:∀(v1:List UInt8)(h1:v1=((((([]:List UInt8)))++Cb.lay (bI.of it)))),ck (nP (bI.bC (bI.of it)<=1099511627776)) (cond (!decide ((Cb.kU (bI.of it))=(0:Int))) (Bm [(.sl .bs ([]:List UInt8)),(.i .i64 (Cb.kU (bI.of it)))]) (ck (nP ((((([]:List UInt8)))).length+16*bI.bC (bI.of it)<=1099511627776)&&nP (Cb.kU (bI.of it)=0)) (ck (nP ((((Bk.mk v1)).b).length<=2199023255552)) (Bm [(.sl .bs ((((Bk.mk v1)).b))),(.i .i64 0)]))))=ρ):aso it=ρ:=Eq.trans (by kernel_rfl) (K _ rfl)
def aoY(n:Int):OT:=bT PG eD 142 bz (.o) [.i .i64 n]
theorem aoX(n:Int):aoY n=Bm [(.b (nP ((UInt64.ofInt n)<(4294967296:UInt64))))]:=by kernel_rfl
def aov:cz:=cP gz zs [(142,alz,bz)]
def aiJ:Hint:=.s .o (.s .o (.s .o (.j [(1,.ptr 90 0),(3,.no),(4,.no),(5,.no),(90,.cl [])] (.s .o (.b (.j [(1,.ptr 90 0),(3,.no),(4,.no),(5,.no),(13,.no),(14,.no),(90,.cl [])] .o .o))) .o)))
def ayC(it:cm):OT:=bT PG aov 90 bz aiJ [.ag it.cells]
def adj(x0 x1:Int)(x2:Bool)(x3:Int)(x4:Bool)(x5:cm):OT:=dj PG aov 90 bz aiJ 87 [.pt,.i .i64 x0,.i .i64 x1,.b x2,.i .i64 x3,.b x4,.ag x5.cells]
def WH(x0 x1:Int)(x2:Bool)(x3:cm):OT:=dj PG aov 90 bz aiJ 15 [.pt,.i .i64 x0,.i .i64 x1,.b x2,.ag x3.cells]
theorem ayA(x0:Int)(x1:Int)(x2:Bool)(x3:Int)(x4:Bool)(x5:cm)(K:∀(v1:Int)(h1:v1=(((cm.text x5)).length:Int))(v2:Int)(h2:v2=(IntKind.i64.wrap (Int.tdiv x0 (2:Int))))(v3:Bool)(h3:v3=(cond (nP ((Int.tmod x0 (2:Int))=(0:Int))) (nP (v2<4294967296)) Qg))(v4:Bool)(h4:v4=(cond (nP ((20:UInt64)<=(cm.n x5))) (nP ((cm.n x5)<=(22:UInt64))) Qg))(v5:Bool)(h5:v5=(cond (nP ((cm.n x5)<=(127:UInt64))) (nP (x1<4294967296)) Qg)),cond x4 (WH x0 x1 x2 (cm.mk (cm.kind x5) 0 (cm.bytes x5) (cm.text x5) (cm.kids x5))) (cond (nP (x3=(2:Int))) (WH x0 x1 (nP ((cm.n x5)<(9223372036854775808:UInt64))) (cm.mk (cm.kind x5) 0 (cm.bytes x5) (cm.text x5) (cm.kids x5))) (cond (nP (x3=(3:Int))) (ck (nP (0<=x1/\x1<=1099511627776)) (WH x0 (0:Int) (nP (x1<4294967296)) x5)) (cond (nP (x3=(4:Int))) (ck (nP (0<=v1/\v1<=1099511627776)) (WH x0 x1 (nP (v1<4294967296)) (cm.mk (cm.kind x5) (cm.n x5) (cm.bytes x5) [] (cm.kids x5)))) (cond (nP (x3=(5:Int))) (ck (nP (0<=x0/\x0<=1099511627776)) (WH (0:Int) x1 (nP (x0<4294967296)) x5)) (cond (nP (x3=(6:Int))) (ck (!decide ((2:Int)=0)) (ck (!(nP ((Int.tmod x0 (2:Int))=(0:Int)))||((nP ((Int.tmod x0 (2:Int))=(0:Int)))&&(!decide ((2:Int)=0)))) (ck (!(nP ((Int.tmod x0 (2:Int))=(0:Int)))||((nP ((Int.tmod x0 (2:Int))=(0:Int)))&&(nP (0<=v2/\v2<=1099511627776)))) (ck (!(nP ((Int.tmod x0 (2:Int))=(0:Int)))||(nP ((Int.tmod x0 (2:Int))=(0:Int)))) (WH (0:Int) x1 v3 x5))))) (cond (nP (x3=(8:Int))) (ck (!(nP ((20:UInt64)<=(cm.n x5)))||(nP ((20:UInt64)<=(cm.n x5)))) (ck (!(nP ((20:UInt64)<=(cm.n x5)))||(nP ((20:UInt64)<=(cm.n x5)))) (ck (!(nP ((20:UInt64)<=(cm.n x5)))||(nP ((20:UInt64)<=(cm.n x5)))) (WH x0 x1 v4 (cm.mk (cm.kind x5) 0 (cm.bytes x5) (cm.text x5) (cm.kids x5)))))) (cond (nP (x3=(10:Int))) (ck (!(nP ((cm.n x5)<=(127:UInt64)))||((nP ((cm.n x5)<=(127:UInt64)))&&(nP (0<=x1/\x1<=1099511627776)))) (ck (!(nP ((cm.n x5)<=(127:UInt64)))||(nP ((cm.n x5)<=(127:UInt64)))) (WH x0 (0:Int) v5 (cm.mk (cm.kind x5) 0 (cm.bytes x5) (cm.text x5) (cm.kids x5))))) (WH x0 x1 x2 x5))))))))=ρ):adj x0 x1 x2 x3 x4 x5=ρ:=((fD _ _ _ _ _ _ _).trans (by kernel_rfl)).trans (K _ rfl _ rfl _ rfl _ rfl _ rfl)
theorem ayz(x0:Int)(x1:Int)(x2:Bool)(x3:cm)(K:∀(v1:Bool)(h1:v1=(cond x2 (nP ((cm.n x3)=(0:UInt64))) Qg))(v2:Bool)(h2:v2=(cond v1 (nP (x1=(0:Int))) Qg))(v3:Bool)(h3:v3=(cond v2 (nP ((cm.text x3)=([]:bE))) Qg))(v4:Bool)(h4:v4=(cond v3 (nP (x0=(0:Int))) Qg)),ck (!x2||x2) (ck (!x2||x2) (ck (!x2||x2) (ck (!v1||v1) (ck (!v1||v1) (ck (!v2||v2) (ck (!v2||v2) (ck (!v2||v2) (ck (!v3||v3) (ck (!v3||v3) (Bm [(.b v4)]))))))))))=ρ):WH x0 x1 x2 x3=ρ:=((fD _ _ _ _ _ _ _).trans (by kernel_rfl)).trans (K _ rfl _ rfl _ rfl _ rfl)
theorem ayB(it:cm)(K:∀(v1:Int)(h1:v1=(((cm.kids it)).length:Int))(v2:Int)(h2:v2=(((cm.bytes it)).length:Int)),cond (nP ((cm.kind it)=(1:Int))) (adj v1 v2 Qf (cm.kind it) (nP ((cm.kind it)=(1:Int))) it) (adj v1 v2 Qf (cm.kind it) (nP ((cm.kind it)=(9:Int))) it)=ρ):ayC it=ρ:=Eq.trans (by kernel_rfl) (K _ rfl _ rfl)
def avC(n:Nat):cz:=cP gz zs [(57,aa4 n,bz),(84,adE,bP),(90,aou,bz)]
def anp:Hint:=.s .o (.s .o (.s .o (.s .o (.s (.s .o (.b (.l (sc [34,35,36]) .o))) .o))))
def avB(n:Nat)(it:cm):OT:=bT PG (avC n) 57 bz anp [.ag it.cells]
def aa3(n:Nat)(x0:List bI)(x1 x2:Int):OT:=de PG (avC n) 57 bz anp 175 [.sl .il x0,.i .i64 x1,.i .i64 x2]
theorem aka(n:Nat)(x0:List bI)(x1:Int)(x2:Int)(K:∀(v1:Int)(h1:v1=(Mp.kU (bI.of (bI.val (List.getD x0 (x2).toNat (eu.dH .il))))))(v2:Int)(h2:v2=(IntKind.i64.wrap (x2+(1:Int)))),cond (nP (x2<x1)) (ck (bH x2 (x0).length) (ck ((nP (bI.bC (bI.of (bI.val (List.getD x0 (x2).toNat (eu.dH .il))))<=1099511627776))&&nP ((bI.bC (bI.of (bI.val (List.getD x0 (x2).toNat (eu.dH .il)))))<n)) (cond (!decide (v1=(0:Int))) (Bm [(.i .i64 v1)]) (aa3 n x0 x1 v2)))) (Bm [(.i .i64 0)])=ρ):aa3 n x0 x1 x2=ρ:=((gJ _ _ _ _ _ _ _).trans (by kernel_rfl)).trans (K _ rfl _ rfl)
theorem avA(n:Nat)(it:cm)(K:∀(v1:Bool)(h1:v1=(cond (nP ((cm.kind it)<(1:Int))) Qf (nP ((10:Int)<(cm.kind it)))))(v2:Bool)(h2:v2=(cond v1 Qf (nP ((cm.kind it)=(7:Int)))))(v3:Int)(h3:v3=(((fJ.look ((cm.text it))).1:Int)))(v4:Bool)(h4:v4=(!(fJ.whole ((cm.text it)))))(v5:Int)(h5:v5=(((cm.kids it)).length:Int)),ck (!(!(nP ((cm.kind it)<(1:Int))))||(!(nP ((cm.kind it)<(1:Int))))) (ck (!(!(nP ((cm.kind it)<(1:Int))))||(!(nP ((cm.kind it)<(1:Int))))) (ck ((nP ((cm.kind it)<(1:Int)))||(!(nP ((cm.kind it)<(1:Int))))) (ck (!(!v1)||(!v1)) (ck (!(!v1)||(!v1)) (ck (v1||(!v1)) (cond v2 (Bm [(.i .i64 5)]) (ck (nP (bI.bC (bI.of it)<=1099511627776)) (cond (!(Mp.dV (bI.of it))) (Bm [(.i .i64 1)]) (ck (mZ ((cm.text it)).length) (ck (nP (((cm.text it)).length<=1099511627776)) (cond v4 (Bm [(.i .i64 4)]) (aa3 n (cm.kids it) v5 (0:Int)))))))))))))=ρ):avB n it=ρ:=Eq.trans (by kernel_rfl) (K _ rfl _ rfl _ rfl _ rfl _ rfl)
def ar1(n:UInt64):OT:=bT PG eD 92 bz (.o) [.u64 n]
theorem ar0(n:UInt64)(K:∀(v1:Int)(h1:v1=(IntKind.i64.wrap ((n).toNat:Int))),cond (nP (n<(128:UInt64))) (Bm [(.ag [(.i .i64 v1),(.i .i64 0)])]) (cond (nP (n<(256:UInt64))) (Bm [(.ag [(.i .i64 204),(.i .i64 1)])]) (cond (nP (n<(65536:UInt64))) (Bm [(.ag [(.i .i64 205),(.i .i64 2)])]) (cond (nP (n<(4294967296:UInt64))) (Bm [(.ag [(.i .i64 206),(.i .i64 4)])]) (Bm [(.ag [(.i .i64 207),(.i .i64 8)])]))))=ρ):ar1 n=ρ:=Eq.trans (by kernel_rfl) (K _ rfl)
def arc(n:UInt64):OT:=bT PG eD 93 bz (.o) [.u64 n]
theorem arb(n:UInt64)(K:∀(v1:Int)(h1:v1=(IntKind.i64.wrap ((n).toNat:Int)))(v2:Int)(h2:v2=(IntKind.i64.wrap ((255:Int) -v1))),cond (nP (n<(32:UInt64))) (Bm [(.ag [(.i .i64 v2),(.i .i64 0)])]) (cond (nP (n<(128:UInt64))) (Bm [(.ag [(.i .i64 208),(.i .i64 1)])]) (cond (nP (n<(32768:UInt64))) (Bm [(.ag [(.i .i64 209),(.i .i64 2)])]) (cond (nP (n<(2147483648:UInt64))) (Bm [(.ag [(.i .i64 210),(.i .i64 4)])]) (Bm [(.ag [(.i .i64 211),(.i .i64 8)])]))))=ρ):arc n=ρ:=Eq.trans (by kernel_rfl) (K _ rfl _ rfl)
def azM:cz:=cP gz zs [(73,aaG,dJ),(87,ael,dJ)]
def aph(f:wS)(n:UInt64)(b:List UInt8):OT:=bT PG azM 91 dJ (.o) [.ag [.pt],.ag (wS.cells f),.u64 n,.sl .bs b]
theorem apg(f:wS)(n:UInt64)(b:List UInt8)(K:∀(v1:List UInt8)(h1:v1=((b++[UInt8.ofInt ((wS.at_ f))])))(v2:List UInt8)(h2:v2=((v1++lD.high n ((wS.end_ f))))),ck (nP ((b).length<=1099511627776)) (ck (nP ((v1).length<=1099511627776)) (Bm [(.ag [.pt]),(.sl .bs v2)]))=ρ):aph f n b=ρ:=Eq.trans (by kernel_rfl) (K _ rfl _ rfl)
def anj(n:Nat):cz:=cP gz zs [(58,aaZ n,dJ),(73,aaG,dJ),(86,adz,dJ),(91,alG,dJ),(92,aml,bz),(93,amb,bz),(94,alx,bz)]
def ahy:Hint:=.s .o (.j [(0,.ptr 1000000 0),(3,.ptr 147 0),(147,.cl []),(1000000,.cl [(0,800000)]),(800000,.pv)] .o (.s .o (.b (.l [(0,.ptr 1000000 0),(134,.no),(135,.no),(136,.no),(1000000,.cl [(0,800000)]),(800000,.pv)] .o))))
def avl(n:Nat)(it:cm)(b:List UInt8):OT:=bT PG (anj n) 58 dJ ahy [.ag [.pt],.ag it.cells,.sl .bs b]
def WE(n:Nat)(x0:cm)(x1:List UInt8):OT:=dj PG (anj n) 58 dJ ahy 3 [.pt,.pt,.ag x0.cells,.ag [.pt],.sl .bs x1]
def aco(n:Nat)(x0:List bI)(x1 x2:Int)(x3:List UInt8):OT:=de PG (anj n) 58 dJ ahy 23 [.pt,.sl .il x0,.i .i64 x1,.i .i64 x2,.ag [.pt],.sl .bs x3]
theorem avi(n:Nat)(x0:cm)(x1:List UInt8)(K:∀(v1:Int)(h1:v1=(((cm.kids x0)).length:Int)),aco n (cm.kids x0) v1 (0:Int) x1=ρ):WE n x0 x1=ρ:=((fD _ _ _ _ _ _ _).trans (by kernel_rfl)).trans (K _ rfl)
theorem aj3(n:Nat)(x0:List bI)(x1:Int)(x2:Int)(x3:List UInt8)(K:∀(v1:List UInt8)(h1:v1=((x3++Mp.lay (bI.of (bI.val (List.getD x0 (x2).toNat (eu.dH .il)))))))(v2:Int)(h2:v2=(IntKind.i64.wrap (x2+(1:Int)))),cond (nP (x2<x1)) (ck (bH x2 (x0).length) (ck ((nP ((x3).length+16*bI.bC (bI.of (bI.val (List.getD x0 (x2).toNat (eu.dH .il))))<=1099511627776)&&nP (Mp.kU (bI.of (bI.val (List.getD x0 (x2).toNat (eu.dH .il))))=0))&&nP ((bI.bC (bI.of (bI.val (List.getD x0 (x2).toNat (eu.dH .il)))))<n)) (aco n x0 x1 v2 v1))) (Bm [(.ag [.pt]),(.sl .bs x3)])=ρ):aco n x0 x1 x2 x3=ρ:=((gJ _ _ _ _ _ _ _).trans (by kernel_rfl)).trans (K _ rfl _ rfl)
theorem avk(n:Nat)(it:cm)(b:List UInt8)(K:∀(v1:List UInt8)(h1:v1=((b++Mp.put (((wS.mk (Mp.kj ((cm.n it))).1 (Mp.kj ((cm.n it))).2)).at_,((wS.mk (Mp.kj ((cm.n it))).1 (Mp.kj ((cm.n it))).2)).end_) ((cm.n it)))))(v2:List UInt8)(h2:v2=((b++Mp.put (((wS.mk (Mp.signed ((cm.n it))).1 (Mp.signed ((cm.n it))).2)).at_,((wS.mk (Mp.signed ((cm.n it))).1 (Mp.signed ((cm.n it))).2)).end_) ((~~~(cm.n it))))))(v3:Int)(h3:v3=(List.getD [(194:Int),(195:Int),(192:Int)] ((((((cm.n it) -(20:UInt64))).toNat:Int)).toNat) (0:Int)))(v4:List UInt8)(h4:v4=((b++Mp.put (((wS.mk (203:Int) (8:Int))).at_,((wS.mk (203:Int) (8:Int))).end_) ((cm.n it)))))(v5:Int)(h5:v5=(((cm.text it)).length:Int))(v6:Int)(h6:v6=((Mp.sized ((cm.kind it)) v5).1))(v7:Int)(h7:v7=((Mp.sized ((cm.kind it)) v5).2))(v8:List UInt8)(h8:v8=((b++Mp.put (((wS.mk v6 v7)).at_,((wS.mk v6 v7)).end_) ((UInt64.ofInt v5)))))(v9:Int)(h9:v9=(((cm.bytes it)).length:Int))(v10:Int)(kv:v10=((Mp.sized ((cm.kind it)) v9).1))(v11:Int)(nK:v11=((Mp.sized ((cm.kind it)) v9).2))(v12:List UInt8)(mS:v12=((b++Mp.put (((wS.mk v10 v11)).at_,((wS.mk v10 v11)).end_) ((UInt64.ofInt v9)))))(jQ:Int)(rm:jQ=(IntKind.i64.wrap (((cm.n it)).toNat:Int)))(iW:List UInt8)(s0:iW=(((((v12++[UInt8.ofInt jQ])))++((cm.bytes it)))))(jb:Int)(sZ:jb=(((cm.kids it)).length:Int))(lU:Int)(yU:lU=((Mp.sized ((cm.kind it)) jb).1))(sQ:Int)(Ei:sQ=((Mp.sized ((cm.kind it)) jb).2))(s9:List UInt8)(Eh:s9=((b++Mp.put (((wS.mk lU sQ)).at_,((wS.mk lU sQ)).end_) ((UInt64.ofInt jb)))))(pn:Int)(HS:pn=(IntKind.i64.wrap (Int.tdiv jb (2:Int))))(v20:Int)(Gr:v20=((Mp.sized ((cm.kind it)) pn).1))(v21:Int)(S9:v21=((Mp.sized ((cm.kind it)) pn).2))(v22:List UInt8)(Xz:v22=((b++Mp.put (((wS.mk v20 v21)).at_,((wS.mk v20 v21)).end_) ((UInt64.ofInt pn))))),cond (nP ((cm.kind it)=(1:Int))) (ck (nP ((b).length+10<=1099511627776)) (WE n it v1)) (cond (nP ((cm.kind it)=(2:Int))) (ck (nP ((b).length+10<=1099511627776)) (WE n it v2)) (cond (nP ((cm.kind it)=(8:Int))) (ck (bH ((((cm.n it) -(20:UInt64))).toNat:Int) 3) (ck (nP ((b).length<=1099511627776)) (WE n it ((b++[UInt8.ofInt v3]))))) (cond (nP ((cm.kind it)=(9:Int))) (ck (nP ((b).length+10<=1099511627776)) (WE n it v4)) (cond (nP ((cm.kind it)=(4:Int))) (ck (Mp.tz ((cm.kind it))&&nP (0<=v5/\v5<4294967296)) (ck (nP ((b).length+10<=1099511627776)) (ck (mZ ((cm.text it)).length) (ck (nP ((v8).length+(((cm.text it))).length<=2199023255552)) (WE n it ((v8++((cm.text it))))))))) (cond (nP ((cm.kind it)=(3:Int))) (ck (Mp.tz ((cm.kind it))&&nP (0<=v9/\v9<4294967296)) (ck (nP ((b).length+10<=1099511627776)) (ck (nP ((v12).length+(((cm.bytes it))).length<=2199023255552)) (WE n it ((v12++((cm.bytes it)))))))) (cond (nP ((cm.kind it)=(10:Int))) (ck (Mp.tz ((cm.kind it))&&nP (0<=v9/\v9<4294967296)) (ck (nP ((b).length+10<=1099511627776)) (ck (nP ((v12).length<=1099511627776)) (ck (nP (((((v12++[UInt8.ofInt jQ])))).length+(((cm.bytes it))).length<=2199023255552)) (WE n it iW))))) (cond (nP ((cm.kind it)=(5:Int))) (ck (Mp.tz ((cm.kind it))&&nP (0<=jb/\jb<4294967296)) (ck (nP ((b).length+10<=1099511627776)) (WE n it s9))) (cond (nP ((cm.kind it)=(6:Int))) (ck (!decide ((2:Int)=0)) (ck (Mp.tz ((cm.kind it))&&nP (0<=pn/\pn<4294967296)) (ck (!decide ((2:Int)=0)) (ck (nP ((b).length+10<=1099511627776)) (WE n it v22))))) (WE n it b)))))))))=ρ):avl n it b=ρ:=Eq.trans (by kernel_rfl) (K _ rfl _ rfl _ rfl _ rfl _ rfl _ rfl _ rfl _ rfl _ rfl _ rfl _ rfl _ rfl _ rfl _ rfl _ rfl _ rfl _ rfl _ rfl _ rfl _ rfl _ rfl _ rfl)
def aAn:cz:=cP gz zs [(46,ad2,aaJ),(48,aej,aaU),(57,anq,bz),(58,ani,dJ)]
def ar5(it:cm):OT:=bT PG aAn 36 bP (.o) [.ag it.cells]
theorem ar4(it:cm)(K:∀(v1:List UInt8)(h1:v1=((((([]:List UInt8)))++Mp.lay (bI.of it)))),ck (nP (bI.bC (bI.of it)<=1099511627776)) (cond (!decide ((Mp.kU (bI.of it))=(0:Int))) (Bm [(.sl .bs ([]:List UInt8)),(.i .i64 (Mp.kU (bI.of it)))]) (ck (nP ((((([]:List UInt8)))).length+16*bI.bC (bI.of it)<=1099511627776)&&nP (Mp.kU (bI.of it)=0)) (ck (nP ((((Bk.mk v1)).b).length<=2199023255552)) (Bm [(.sl .bs ((((Bk.mk v1)).b))),(.i .i64 0)]))))=ρ):ar5 it=ρ:=Eq.trans (by kernel_rfl) (K _ rfl)
def aqn(s:bE):OT:=bT PG eD 88 bz (.o) [.s s]
theorem aqm(s:bE):aqn s=Bm [(.ag [(.i .i64 4),(.u64 0),(.sl .bs ([]:List UInt8)),(.s s),(.sl .il ([]:List bI))])]:=by kernel_rfl
def aq9(n:UInt64):OT:=bT PG eD 138 bz (.o) [.u64 n]
theorem aq8(n:UInt64):aq9 n=Bm [(.ag [(.i .i64 8),(.u64 n),(.sl .bs ([]:List UInt8)),(.s []),(.sl .il ([]:List bI))])]:=by kernel_rfl
def amu:Hint:=.s .o (.s .o (.s (.s .o (.b (.l [(0,.no),(5,.dB 800000),(6,.no),(800000,.pv)] .o))) .o))
def asM(v:UInt64)(n:Int):OT:=bT PG eD 193 lA amu [.u64 v,.i .i64 n]
def abU(x0:UInt64)(x1:Int)(x2:List UInt8):OT:=de PG eD 193 lA amu 43 [.u64 x0,.pt,.i .i64 x1,.sl .bs x2]
theorem ajr(x0:UInt64)(x1:Int)(x2:List UInt8)(K:∀(v1:Int)(h1:v1=(IntKind.i64.wrap ((8:Int)*x1)))(v2:UInt8)(h2:v2=(UInt8.ofInt (((dc x0 ((v1).toNat))).toNat:Int)))(v3:Int)(h3:v3=(IntKind.i64.wrap (x1 -(1:Int)))),cond (nP ((0:Int)<=x1)) (ck (nP (0<=v1)) (ck (dU ((x2).length+(([v2]:List UInt8)).length) 1) (abU x0 v3 (x2++([v2]:List UInt8))))) (Bm [(.sl .bs x2)])=ρ):abU x0 x1 x2=ρ:=((gJ _ _ _ _ _ _ _).trans (by kernel_rfl)).trans (K _ rfl _ rfl _ rfl)
theorem asL(v:UInt64)(n:Int)(K:∀(v1:Int)(h1:v1=(IntKind.i64.wrap (n -(1:Int)))),abU v v1 ([]:List UInt8)=ρ):asM v n=ρ:=Eq.trans (by kernel_rfl) (K _ rfl)
def ase(v:Int):OT:=bT PG eD 139 bz (.o) [.i .i64 v]
theorem asd(v:Int):ase v=cond (nP (v<(0:Int))) (Bm [(.ag [(.i .i64 2),(.u64 (~~~(UInt64.ofInt v))),(.sl .bs ([]:List UInt8)),(.s []),(.sl .il ([]:List bI))])]) (Bm [(.ag [(.i .i64 1),(.u64 (UInt64.ofInt v)),(.sl .bs ([]:List UInt8)),(.s []),(.sl .il ([]:List bI))])]):=by kernel_rfl
def axG(n:Nat):cz:=cP gz zs [(88,afw,bz),(89,abb n,bz)]
def aoc:Hint:=.s .o (.s .o (.s (.s .o (.b (.l [(2,.ptr 28 0),(3,.ptr 29 0),(7,.no),(8,.no),(9,.no),(28,.cl [(4,800000)]),(29,.cl [(4,800001)]),(800000,.pv),(800001,.pv)] .o))) .o))
def axF(n:Nat)(l:List bB):OT:=bT PG (axG n) 56 bz aoc [.sl .fl l]
def acY(n:Nat)(x0:List bB)(x1 x2 x3:Int)(x4:UInt64)(x5:List UInt8)(x6:bE)(x7:Int)(x8:UInt64)(x9:List UInt8)(lM:bE)(kh lN:List bI):OT:=de PG (axG n) 56 bz aoc 43 [.pt,.pt,.sl .fl x0,.i .i64 x1,.i .i64 x2,.ag [.i .i64 x3,.u64 x4,.sl .bs x5,.s x6,.pt],.ag [.i .i64 x7,.u64 x8,.sl .bs x9,.s lM,.pt],.sl .il kh,.sl .il lN]
theorem akK(n:Nat)(x0:List bB)(x1:Int)(x2:Int)(x3:Int)(x4:UInt64)(x5:List UInt8)(x6:bE)(x7:Int)(x8:UInt64)(x9:List UInt8)(lM:bE)(kh:List bI)(lN:List bI)(K:∀(v1:bB)(h1:v1=(List.getD x0 (x2).toNat (eu.dH .fl)))(v2:List bI)(h2:v2=([(bI.of (bI.val (Db.text ((bB.name v1))))),(bI.of (bI.val (Dk.item (bB.of [] (bB.val v1)))))]:List bI))(v3:Int)(h3:v3=(IntKind.i64.wrap (x2+(1:Int)))),cond (nP (x2<x1)) (ck (bH x2 (x0).length) (ck ((nP (bB.bC (bB.of [] (bB.val v1))<=1048576)&&Tree.pk (bB.of [] (bB.val v1)))&&nP ((4*bB.bC (bB.of [] (bB.val v1))+2)<n)) (ck (dU ((lN).length+(v2).length) 80) (acY n x0 x1 v3 x3 x4 x5 x6 x7 x8 x9 lM kh (lN++v2))))) (Bm [(.ag [(.i .i64 x7),(.u64 x8),(.sl .bs x9),(.s lM),(.sl .il lN)])])=ρ):acY n x0 x1 x2 x3 x4 x5 x6 x7 x8 x9 lM kh lN=ρ:=((gJ _ _ _ _ _ _ _).trans (by kernel_rfl)).trans (K _ rfl _ rfl _ rfl)
theorem axE(n:Nat)(l:List bB):axF n l=acY n l ((l).length:Int) (0:Int) (0:Int) (0:UInt64) ([]:List UInt8) ([]:bE) (6:Int) (0:UInt64) ([]:List UInt8) ([]:bE) ([]:List bI) ([]:List bI):=by kernel_rfl
def azQ(n:Nat):cz:=cP gz zs [(36,agh,bP),(56,aax n,bz)]
def apw(n:Nat)(l:List bB):OT:=bT PG (azQ n) 192 bz (.o) [.sl .fl l]
theorem apv(n:Nat)(l:List bB)(K:∀(v1:List UInt8)(h1:v1=(Mp.enc (bI.of (bI.val (Db.map (Dk.mapped l))))))(v2:Int)(h2:v2=(Mp.kU (bI.of (bI.val (Db.map (Dk.mapped l)))))),ck ((nP (bB.bD l<=1048576)&&Tree.kN l)&&nP ((4*bB.bD l+3)<n)) (ck (nP (bI.bC (bI.of (bI.val (Db.map (Dk.mapped l))))<=1073741824)) (Bm [(.sl .bs v1)]))=ρ):apw n l=ρ:=Eq.trans (by kernel_rfl) (K _ rfl _ rfl)
def anM(n:Nat):cz:=cP gz zs [(26,aaQ,lA),(56,aax n,bz),(88,afw,bz),(89,abb n,bz),(130,adI,bz),(138,ama,bz),(139,amm,bz),(140,alM,bz),(141,acU n,bz)]
def ah1:Hint:=.s .o (.j [(1,.ptr 78 0),(2,.ptr 79 0),(78,.cl []),(79,.cl [(4,800000)]),(800000,.pv)] (.s .o (.b (.s .o (.s .o (.s .o (.s .o (.s .o (.s .o (.s .o (.s (.s .o (.s (.s .o (.s (.s .o (.b (.l [(2,.ptr 79 0),(3,.ptr 80 0),(30,.no),(31,.no),(32,.no),(79,.cl [(4,800000)]),(80,.cl [(4,800001)]),(800000,.pv),(800001,.pv)] .o))) .o)) .o)) .o)))))))))) .o)
def awB(n:Nat)(v:Val):OT:=bT PG (anM n) 89 bz ah1 [.ag v.cells]
def acI(n:Nat)(x0:List bB)(x1 x2 x3:Int)(x4:UInt64)(x5:List UInt8)(x6:bE)(x7:Int)(x8:UInt64)(x9:List UInt8)(lM:bE)(kh lN:List bI):OT:=de PG (anM n) 89 bz ah1 350197 [.pt,.pt,.sl .fl x0,.i .i64 x1,.i .i64 x2,.ag [.i .i64 x3,.u64 x4,.sl .bs x5,.s x6,.pt],.ag [.i .i64 x7,.u64 x8,.sl .bs x9,.s lM,.pt],.sl .il kh,.sl .il lN]
def aba(n:Nat)(x0:Val)(x1:Int)(x2:UInt64)(x3:List UInt8)(x4:bE)(x5:List bI):OT:=dj PG (anM n) 89 bz ah1 3 [.pt,.pt,.ag x0.cells,.ag [.i .i64 x1,.u64 x2,.sl .bs x3,.s x4,.pt],.sl .il x5]
theorem aku(n:Nat)(x0:List bB)(x1:Int)(x2:Int)(x3:Int)(x4:UInt64)(x5:List UInt8)(x6:bE)(x7:Int)(x8:UInt64)(x9:List UInt8)(lM:bE)(kh:List bI)(lN:List bI)(K:∀(v1:bB)(h1:v1=(List.getD x0 (x2).toNat (eu.dH .fl)))(v2:List bI)(h2:v2=([(bI.of (bI.val (Dk.item (bB.of [] (bB.val v1)))))]:List bI))(v3:Int)(h3:v3=(IntKind.i64.wrap (x2+(1:Int)))),cond (nP (x2<x1)) (ck (bH x2 (x0).length) (ck ((nP (bB.bC (bB.of [] (bB.val v1))<=1048576)&&Tree.pk (bB.of [] (bB.val v1)))&&nP ((4*bB.bC (bB.of [] (bB.val v1))+2)<n)) (ck (dU ((lN).length+(v2).length) 80) (acI n x0 x1 v3 x3 x4 x5 x6 x7 x8 x9 lM kh (lN++v2))))) (Bm [(.ag [(.i .i64 x7),(.u64 x8),(.sl .bs x9),(.s lM),(.sl .il lN)])])=ρ):acI n x0 x1 x2 x3 x4 x5 x6 x7 x8 x9 lM kh lN=ρ:=((gJ _ _ _ _ _ _ _).trans (by kernel_rfl)).trans (K _ rfl _ rfl _ rfl)
theorem awx(n:Nat)(x0:Val)(x1:Int)(x2:UInt64)(x3:List UInt8)(x4:bE)(x5:List bI)(K:∀(v1:List UInt8)(h1:v1=(Dk.inner x0 (Mp.lay (Db.map (Dk.mapped (x0).kids))))),ck ((nP (bB.bC (bB.of [] x0)<=1048576)&&Tree.pk (bB.of [] x0))&&nP ((4*bB.bC (bB.of [] x0)+1)<n)) (Bm [(.ag [(.i .i64 10),(.u64 (Dk.sort ((Val.kind x0)))),(.sl .bs v1),(.s []),(.sl .il ([]:List bI))])])=ρ):aba n x0 x1 x2 x3 x4 x5=ρ:=((fD _ _ _ _ _ _ _).trans (by kernel_rfl)).trans (K _ rfl)
theorem awA(n:Nat)(v:Val)(K:∀(v1:Bool)(h1:v1=(Tree.regular ((Val.kids v))))(v2:Int)(h2:v2=(((Val.kids v)).length:Int))(v3:UInt64)(h3:v3=((20:UInt64)+(Val.bits v)))(v4:Int)(h4:v4=(IntKind.i32.wrap (((Val.bits v)).toNat:Int))),cond (nP ((Val.kind v)=(1:Int))) (Bm [(.ag [(.i .i64 9),(.u64 (Val.bits v)),(.sl .bs ([]:List UInt8)),(.s []),(.sl .il ([]:List bI))])]) (cond (nP ((Val.kind v)=(2:Int))) (Bm [(.ag (cm.cells (bI.val (Db.text ((Val.text v))))))]) (cond (nP ((Val.kind v)=(3:Int))) (ck ((nP (bB.bD ((Val.kids v))<=1048576)&&Tree.kN ((Val.kids v)))&&nP ((4*bB.bD ((Val.kids v))+3)<n)) (Bm [(.ag (cm.cells (bI.val (Db.map (Dk.mapped ((Val.kids v)))))))])) (cond (nP ((Val.kind v)=(4:Int))) (ck (nP (((Val.kids v)).length<=1099511627776)) (cond v1 (acI n (Val.kids v) v2 (0:Int) (0:Int) (0:UInt64) ([]:List UInt8) ([]:bE) (5:Int) (0:UInt64) ([]:List UInt8) ([]:bE) ([]:List bI) ([]:List bI)) (aba n v (0:Int) (0:UInt64) ([]:List UInt8) ([]:bE) ([]:List bI)))) (cond (nP ((Val.kind v)=(5:Int))) (cond (nP ((Val.sub v)=(0:Int))) (ck (dU (((Val.bytes v))).length 1) (Bm [(.ag [(.i .i64 3),(.u64 0),(.sl .bs (((Val.bytes v)))),(.s []),(.sl .il ([]:List bI))])])) (aba n v (0:Int) (0:UInt64) ([]:List UInt8) ([]:bE) ([]:List bI))) (cond (nP ((Val.kind v)=(10:Int))) (Bm [(.ag (cm.cells (bI.val (Db.simple ((22:UInt64))))))]) (cond (nP ((Val.kind v)=(8:Int))) (Bm [(.ag (cm.cells (bI.val (Db.simple v3))))]) (cond (nP ((Val.kind v)=(16:Int))) (ck (nP (-9223372036854775808<=((IntKind.i64.wrap v4))/\((IntKind.i64.wrap v4))<=9223372036854775807)) (Bm [(.ag (cm.cells (bI.val (Db.integer ((IntKind.i64.wrap v4))))))])) (aba n v (0:Int) (0:UInt64) ([]:List UInt8) ([]:bE) ([]:List bI)))))))))=ρ):awB n v=ρ:=Eq.trans (by kernel_rfl) (K _ rfl _ rfl _ rfl _ rfl)
def apD(k:Int):OT:=bT PG eD 140 bz (.o) [.i .i64 k]
theorem apC(k:Int):apD k=cond (nP (k=(255:Int))) (Bm [(.u64 126)]) (Bm [(.u64 (UInt64.ofInt k))]):=by kernel_rfl
def an8(n:Nat):cz:=cP gz zs [(26,aaQ,lA),(192,abL n,bz),(193,amv,lA)]
def aim:Hint:=.s .o (.s (.s .o (.b (.s .o (.s .o (.s .o (.s .o (.s .o (.s .o (.j [(1,.ptr 78 0),(4,.no),(24,.no),(78,.cl [])] .o (.s .o (.s .o (.s .o (.s .o (.s .o (.j [(1,.ptr 78 0),(4,.no),(48,.no),(78,.cl [])] .o .o))))))))))))))) .o)
def axs(n:Nat)(v:Val):OT:=bT PG (an8 n) 141 bz aim [.ag v.cells]
def abj(n:Nat)(x0:Int)(x1:Bool)(x2:Val):OT:=dj PG (an8 n) 141 bz aim 2037 [.pt,.i .i64 x0,.b x1,.ag x2.cells]
def acT(n:Nat)(x0:Int)(x1:Bool)(x2:Val):OT:=dj PG (an8 n) 141 bz aim 131061 [.pt,.i .i64 x0,.b x1,.ag x2.cells]
theorem axq(n:Nat)(x0:Int)(x1:Bool)(x2:Val)(K:∀(v1:List UInt8)(h1:v1=(lD.gE ((Val.bits x2)) (((8:Int))).toNat))(v2:bE)(h2:v2=((Val.text x2)++([0]:bE)))(v3:List UInt8)(h3:v3=((((Val.bytes x2)))++(Val.text x2))),cond x1 (ck (nP (0<=((8:Int))/\((8:Int))<=8)) (Bm [(.sl .bs v1)])) (cond (nP (x0=(11:Int))) (ck (nP (((Val.text x2)).length+(([0]:bE)).length<=9223372036854775807)) (ck (nP ((v2).length+((Val.more x2)).length<=9223372036854775807)) (ck (mZ ((v2++(Val.more x2))).length) (Bm [(.sl .bs (v2++(Val.more x2)))])))) (cond (nP (x0=(12:Int))) (ck (dU (((Val.bytes x2))).length 1) (ck (dU (((((Val.bytes x2)))).length+((Val.text x2)).length) 1) (Bm [(.sl .bs v3)]))) (cond (nP (x0=(13:Int))) (acT n x0 (nP (x0=(13:Int))) x2) (acT n x0 (nP (x0=(14:Int))) x2))))=ρ):abj n x0 x1 x2=ρ:=((fD _ _ _ _ _ _ _).trans (by kernel_rfl)).trans (K _ rfl _ rfl _ rfl)
theorem axp(n:Nat)(x0:Int)(x1:Bool)(x2:Val)(K:∀(v1:Int)(h1:v1=(((Val.text x2)).length:Int))(v2:List UInt8)(h2:v2=(lD.gE ((UInt64.ofInt v1)) (((4:Int))).toNat))(v3:List UInt8)(h3:v3=(Mp.lay (Db.map (Dk.mapped ((Val.kids x2))))))(v4:List UInt8)(h4:v4=((v2++(Val.text x2))++v3))(v5:List UInt8)(h5:v5=(lD.gE ((Val.high x2)) (((8:Int))).toNat))(v6:List UInt8)(h6:v6=(lD.gE ((Val.low x2)) (((8:Int))).toNat)),cond x1 (ck (mZ ((Val.text x2)).length) (Bm [(.sl .bs (Val.text x2))])) (cond (nP (x0=(15:Int))) (ck (nP (0<=((4:Int))/\((4:Int))<=8)) (ck (dU ((v2).length+((Val.text x2)).length) 1) (ck ((nP (bB.bD ((Val.kids x2))<=1048576)&&Tree.kN ((Val.kids x2)))&&nP ((4*bB.bD ((Val.kids x2))+4)<n)) (ck (dU (((v2++(Val.text x2))).length+(v3).length) 1) (Bm [(.sl .bs v4)]))))) (cond (nP (x0=(19:Int))) (ck (nP (0<=((8:Int))/\((8:Int))<=8)) (ck (nP (0<=((8:Int))/\((8:Int))<=8)) (ck (dU ((v5).length+(v6).length) 1) (Bm [(.sl .bs (v5++v6))])))) (Bm [(.sl .bs ([]:List UInt8))])))=ρ):acT n x0 x1 x2=ρ:=((fD _ _ _ _ _ _ _).trans (by kernel_rfl)).trans (K _ rfl _ rfl _ rfl _ rfl _ rfl _ rfl)
theorem axr(n:Nat)(v:Val)(K:∀(v1:List UInt8)(h1:v1=(Mp.lay (Db.map (Dk.mapped ((Val.kids v))))))(v2:List UInt8)(h2:v2=([(UInt8.ofInt (Val.sub v))]:List UInt8)),cond (nP ((Val.kind v)=(4:Int))) (ck ((nP (bB.bD ((Val.kids v))<=1048576)&&Tree.kN ((Val.kids v)))&&nP ((4*bB.bD ((Val.kids v))+4)<n)) (Bm [(.sl .bs v1)])) (cond (nP ((Val.kind v)=(5:Int))) (ck (dU ((v2).length+((Val.bytes v)).length) 1) (Bm [(.sl .bs (v2++(Val.bytes v)))])) (cond (nP ((Val.kind v)=(7:Int))) (ck (dU (((Val.bytes v))).length 1) (Bm [(.sl .bs (((Val.bytes v))))])) (cond (nP ((Val.kind v)=(9:Int))) (abj n (Val.kind v) (nP ((Val.kind v)=(9:Int))) v) (cond (nP ((Val.kind v)=(17:Int))) (abj n (Val.kind v) (nP ((Val.kind v)=(17:Int))) v) (abj n (Val.kind v) (nP ((Val.kind v)=(18:Int))) v)))))=ρ):axs n v=ρ:=Eq.trans (by kernel_rfl) (K _ rfl _ rfl)
def azX:cz:=cP gz zs [(44,abG,bP),(55,aoj,bz),(56,aod,bz)]
def aql(v:Val):OT:=bT PG azX 35 bP (.o) [.ag v.cells]
theorem aqk(v:Val)(K:∀(v1:List Int)(h1:v1=((Tree.gw (bB.of [] v) []).1))(v2:Int)(h2:v2=((Tree.gw (bB.of [] v) []).2))(v3:Int)(h3:v3=((Tree.depth (bB.of [] v):Int))),ck (nP (bB.bC (bB.of [] v)<=1099511627776)) (cond (!decide (v2=(0:Int))) (Bm [(.ag [(.i .i64 0),(.u64 0),(.sl .bs ([]:List UInt8)),(.s []),(.sl .il ([]:List bI))]),(.ag [(.i .i64 v2),(.i .i64 0),(.sl .is v1)])]) (cond (!decide ((Val.kind v)=(3:Int))) (Bm [(.ag [(.i .i64 0),(.u64 0),(.sl .bs ([]:List UInt8)),(.s []),(.sl .il ([]:List bI))]),(.ag [(.i .i64 5),(.i .i64 0),(.sl .is ([]:List Int))])]) (ck (nP (bB.bC (bB.of [] v)<=1099511627776)) (cond (nP ((200:Int)<v3)) (Bm [(.ag [(.i .i64 0),(.u64 0),(.sl .bs ([]:List UInt8)),(.s []),(.sl .il ([]:List bI))]),(.ag [(.i .i64 8),(.i .i64 0),(.sl .is ([]:List Int))])]) (ck (nP (bB.bD ((Val.kids v))<=1048576)&&Tree.kN ((Val.kids v))) (Bm [(.ag (cm.cells (bI.val (Db.map (Dk.mapped ((Val.kids v))))))),(.ag [(.i .i64 0),(.i .i64 0),(.sl .is ([]:List Int))])]))))))=ρ):aql v=ρ:=Eq.trans (by kernel_rfl) (K _ rfl _ rfl _ rfl)
def azL:cz:=cP gz zs [(23,alB,bz)]
def ape(f:Int)(l:nB):OT:=bT PG azL 19 bz (.o) [.i .i64 f,.ag (nB.cells l)]
theorem apd(f:Int)(l:nB)(K:∀(v1:Bool)(h1:v1=(cond (nP ((1:Int)<=f)) (nP (f<=(5:Int))) Qg)),ck (!(nP ((1:Int)<=f))||(nP ((1:Int)<=f))) (ck (!(nP ((1:Int)<=f))||(nP ((1:Int)<=f))) (ck (!v1||v1) (ck (!v1||v1) (Bm [(.b (cond v1 (Bs.may l) Qg))]))))=ρ):ape f l=ρ:=Eq.trans (by kernel_rfl) (K _ rfl)
def azZ:cz:=cP gz zs [(30,amo,bP),(31,alT,bP),(32,al2,bP),(33,alV,bP),(34,amp,bP),(35,alW,bP),(36,agh,bP)]
def aqt(f:Int)(v:Val):OT:=bT PG azZ 20 bP (.o) [.i .i64 f,.ag v.cells]
theorem aqs(f:Int)(v:Val)(K:∀(v1:ph)(h1:v1=((ph.mk (Bs.encode v).2.1 0 (Bs.encode v).2.2)))(v2:List UInt8)(h2:v2=((Cb.enc (bI.of (bI.val ((Db.enc v).1)))).1))(v3:Int)(h3:v3=((Cb.enc (bI.of (bI.val ((Db.enc v).1)))).2))(v4:List UInt8)(h4:v4=(Mp.enc (bI.of (bI.val ((Dk.enc v).1)))))(v5:Int)(h5:v5=(Mp.kU (bI.of (bI.val ((Dk.enc v).1))))),cond (nP (f=(1:Int))) (ck (nP (bB.bC (bB.of [] v)<=10000000000)) (Bm [(.sl .bs ((Bs.encode v).1)),(.ag (ph.cells v1))])) (cond (nP (f=(2:Int))) (ck (nP (bB.bC (bB.of [] v)<=100000)) (ck (mZ ((Cn.tc v)).length) (Bm [(.sl .bs (Cn.tc v)),(.ag [(.i .i64 (Cn.kX v).2),(.i .i64 0),(.sl .is (Cn.kX v).1)])]))) (cond (nP (f=(3:Int))) (ck (nP (bB.bC (bB.of [] v)<=100000)) (ck (mZ ((Rl.td Rl.date v)).length) (Bm [(.sl .bs (Rl.td Rl.date v)),(.ag [(.i .i64 (Rl.kX Rl.date v).2),(.i .i64 0),(.sl .is (Rl.kX Rl.date v).1)])]))) (cond (nP (f=(4:Int))) (ck (nP (bB.bC (bB.of [] v)<=1073741824)) (cond (!decide ((ph.err ((Db.enc v).2))=(0:Int))) (Bm [(.sl .bs ([]:List UInt8)),(.ag (ph.cells ((Db.enc v).2)))]) (ck (nP (16*bI.bC (bI.of (bI.val ((Db.enc v).1)))<=1099511627776)) (Bm [(.sl .bs v2),(.ag [(.i .i64 v3),(.i .i64 0),(.sl .is ([]:List Int))])])))) (ck (nP (bB.bC (bB.of [] v)<=1048576)) (cond (!decide ((ph.err ((Dk.enc v).2))=(0:Int))) (Bm [(.sl .bs ([]:List UInt8)),(.ag (ph.cells ((Dk.enc v).2)))]) (ck (nP (bI.bC (bI.of (bI.val ((Dk.enc v).1)))<=1073741824)) (Bm [(.sl .bs v4),(.ag [(.i .i64 v5),(.i .i64 0),(.sl .is ([]:List Int))])])))))))=ρ):aqt f v=ρ:=Eq.trans (by kernel_rfl) (K _ rfl _ rfl _ rfl _ rfl _ rfl)
def aAk:cz:=cP gz zs [(19,alF,bz),(20,alY,bP),(21,al1,bz)]
def arL(f:Int)(l:nB)(v:Val):OT:=bT PG aAk 8 jh (.o) [.i .i64 f,.ag (nB.cells l),.ag v.cells]
theorem arK(f:Int)(l:nB)(v:Val)(K:∀(v1:Bool)(h1:v1=(nP (1<=f/\f<=5)&&Bs.may l))(v2:Int)(h2:v2=((((La.laid f v).1)).length:Int))(v3:List (List Int))(h3:v3=((Rl.diff v (Rl.jN v)).getD [])),cond (!v1) (Bm [(.sl .bs ([]:List UInt8)),(.sl .pD ([]:List (List Int))),(.ag [(.i .i64 1),(.i .i64 0),(.sl .is ([]:List Int))])]) (ck (nP (1<=f/\f<=5)&&nP (bB.bC (bB.of [] v)<=100000)) (cond (!decide ((ph.err ((La.laid f v).2))=(0:Int))) (Bm [(.sl .bs ([]:List UInt8)),(.sl .pD ([]:List (List Int))),(.ag (ph.cells ((La.laid f v).2)))]) (cond (nP ((nB.out l)<v2)) (Bm [(.sl .bs ([]:List UInt8)),(.sl .pD ([]:List (List Int))),(.ag [(.i .i64 9),(.i .i64 0),(.sl .is ([]:List Int))])]) (cond (nP (f=(3:Int))) (ck (nP (bB.bC (bB.of [] v)<=10000000)) (Bm [(.sl .bs ((La.laid f v).1)),(.sl .pD v3),(.ag [(.i .i64 0),(.i .i64 0),(.sl .is ([]:List Int))])])) (Bm [(.sl .bs ((La.laid f v).1)),(.sl .pD ([]:List (List Int))),(.ag [(.i .i64 0),(.i .i64 0),(.sl .is ([]:List Int))])])))))=ρ):arL f l v=ρ:=Eq.trans (by kernel_rfl) (K _ rfl _ rfl _ rfl)
end Go.Eng
namespace Go.Eng
open Go.IntWalk
def aeW(r:Int):ao7 r=Bm [.b (fJ.qR r)]:=by refine ao6 r ?_;intro v1 h1 v2 h2 v3 h3;subst h1 h2 h3;by_cases a:0<=r<;>by_cases b:r<=1114111<;>by_cases c:r<55296<;>simp[ck,a,b,c,fJ.qR]
def TZ:∀n,n<256->((n&&&192=128)↔(128<=n/\n<192)):=by decide+kernel
def Wq:∀n,n<256->(128<=n/\n<192)->n&&&63=n -128:=by decide+kernel
def Wr:∀n,n<256->(192<=n/\n<224)->n&&&31=n -192:=by decide+kernel
def Wt:∀n,n<256->(224<=n/\n<240)->n&&&15=n -224:=by decide+kernel
def and7:∀n,n<256->(240<=n/\n<248)->n&&&7=n -240:=by decide+kernel
def Rw(c:UInt8):c.toNat<256:=by have:=c.toNat_lt;simpa using this
theorem JR(c:UInt8):nP ((c&&&(192:UInt8))=(128:UInt8))=nP (128<=c.toNat/\c.toNat<192):=by have h:=TZ c.toNat (Rw c);rw[bf];simp only[aC];rw[<-h,<-UInt8.toNat_inj,UInt8.toNat_and];exact Iff.rfl
def Zc(c:UInt8)(h:128<=c.toNat/\c.toNat<192):((c&&&(63:UInt8)).toNat:Int)=((c.toNat -128:Nat):Int):=by rw[UInt8.toNat_and];exact congrArg _ (Wq c.toNat (Rw c) h)
def I4(r:Option Nat)(more least:Nat):OT:=match r with|some r=>if r<least\/fJ.qR r=Qg then Bm [.i .i64 0,.i .i64 0]else Bm [.i .i64 r,.i .i64 (more+1:Int)]|none=>Bm [.i .i64 0,.i .i64 0]
def O0(c:Nat)(more least:Nat)(l:bE):I4 (fJ.cont c more l) more least=Bm [.i .i64 (fJ.rQ c more least l).1,.i .i64 (fJ.rQ c more least l).2]:=by
 unfold I4 fJ.rQ;cases fJ.cont c more l with
 |none=>rfl
 |some r=>simp only;split<;>rfl
def aiR(r:Nat)(more least:Nat)(hm:more<8):(ck (!(!(nP ((r:Int)<(least:Int))))||(!(nP ((r:Int)<(least:Int))))) (ck (!(!(nP ((r:Int)<(least:Int))))||(!(nP ((r:Int)<(least:Int))))) (ck ((nP ((r:Int)<(least:Int)))||(!(nP ((r:Int)<(least:Int))))) (cond (cond (nP ((r:Int)<(least:Int))) Qf (!(fJ.qR r))) (Ye) (Bm [(.i .i64 (r:Int)),(.i .i64 (IntKind.i64.wrap ((more:Int)+(1:Int))))])))))=I4 (Bm r) more least:=by simp only[aL,bn,bK];rw[iw,aaB];unfold I4;by_cases h:r<least;{simp[h]};{simp only[show¬((r:Int)<(least:Int)) by omega,decide_false,ae,h,false_or];cases fJ.qR r<;>simp}
def ayV(b:bE)(at_:Nat)(more least:Nat)(hm:more<8)(hb:b.length<=1099511627776)(gS:at_+more<b.length):∀(k i r:Nat),i+k=more+1->r<2^(10+6*i)->ado b at_ r more least i=I4 (fJ.cont r k (b.drop (at_+i))) more least:=by
 intro k;induction k with
 |zero=>intro i r hi hr;apply aeK;intro v1 h1 v2 h2 v3 h3 v4 h4 v5 h5 v6 h6 v7 h7;rw[show nP ((i:Int)<=(more:Int))=Qg by simp;omega,ae];subst h6 h7;rw[fJ.cont];exact aiR r more least hm
 |succ k ih=>intro i r hi hr;apply aeK;intro v1 h1 v2 h2 v3 h3 v4 h4 v5 h5 v6 h6 v7 h7;have hw:IntKind.i64.wrap ((at_:Int)+(i:Int))=((at_+i:Nat):Int):=by{rw[iw];omega};have Ut:=Ua (l:=b) (i:=at_+i) (by omega) 0;rw[show nP ((i:Int)<=(more:Int))=Qf by simp;omega,aj,hw];rw[hw,aq]at h1;rw[ll,Ut,<-h1,fJ.cont,h2,JR];by_cases hc:128<=v1.toNat/\v1.toNat<192;{rw[ar hc,aa hc];simp only[aF,ae];rw[ll];have hp:2^(10+6*i)*64=2^(10+6*(i+1)):=by{rw[show 10+6*(i+1)=(10+6*i)+6 by omega,Nat.pow_add 2 (10+6*i) 6]};have AV:2^(10+6*(i+1))<=2^58:=Nat.pow_le_pow_right (by omega) (by omega);have hr64:r*64+64<=2^(10+6*(i+1)):=by{rw[<-hp];have:=aA 64 (Nat.succ_le_of_lt hr);omega};have e3:v3=((r*64:Nat):Int):=by{rw[h3];have:(min (((6:UInt64)).toNat) (IntKind.i64.bits))=6:=by{decide};rw[this,i64_in _ (by simp at AV;omega)];simp};have e4:v4=((v1.toNat -128:Nat):Int):=by{rw[h4,Zc v1 hc];exact iw};have e5:v5=((i+1:Nat):Int):=by{rw[h5,iw];omega};have e6:da .or .i64 v3 v4=((r*64+(v1.toNat -128):Nat):Int):=by{rw[e3,e4,R4 _ _ (by simp at AV;omega) (by omega)];have:=qI (a:=r) (b:=v1.toNat -128) (k:=6) (by simp;omega);simp at this;rw[this]};rw[e6,e5,ih (i+1) _ (by omega) (by omega),Nat.add_assoc]};{rw[ak hc,ab hc];simp only[aH,aj];rw[aaB];rfl}
def ayT (b : bE) (at_ : Nat) (r more least : Nat) (hm : 1 ≤ more ∧ more < 8) (hb : b.length ≤ 1099511627776) (gS : at_ < b.length) (hr : r < 1024) :
    aaA b at_ r more least = I4 (fJ.cont r more (b.drop (at_ + 1))) more least := by
  have QT : ∀ (k r : Nat) (l : bE), l.length < k → fJ.cont r k l = Kk := by
    intro k
    induction k with
    | zero => intro r l h; omega
    | succ k ih =>
      intro r l h
      cases l with
      | nil => rfl
      | cons c l => rw [fJ.cont]; split
                    · exact ih _ _ (by simp at h; omega)
                    · rfl
  have key := fun (h : at_ + more < b.length) => ayV b at_ more least hm.2 hb h more 1 r (by omega) (by simp; omega)
  by_cases hx : at_ + more < b.length
  · rw [← key hx]
    apply alf
    intro v1 h1 v2 h2 v3 h3 v4 h4 v5 h5 v6 h6 v7 h7 v8 h8 v9 h9 v10 kv
    symm
    apply aeK
    intro w1 k1 w2 k2 w3 k3 w4 k4 w5 k5 w6 k6 w7 k7
    have e1 : v1 = (b.length : Int) - at_ := by rw [h1]; exact iw
    have e2 : v2 = (b.length : Int) - at_ - 1 := by rw [h2, e1]; exact iw
    rw [show nP (v2 < (more : Int)) = Qg by simp; omega, ae]
    have a1 : ((1 : Nat) : Int) = 1 := rfl
    simp only [a1] at k1 k2 k3 k4 k5 k6 k7 ⊢
    subst h3; subst h4; subst h5; subst h6; subst h7; subst h8; subst h9; subst kv; subst k1; subst k2; subst k3; subst k4; subst k5; subst k6; subst k7
    rfl
  · apply alf
    intro v1 h1 v2 h2 v3 h3 v4 h4 v5 h5 v6 h6 v7 h7 v8 h8 v9 h9 v10 kv
    have e1 : v1 = (b.length : Int) - at_ := by rw [h1]; exact iw
    have e2 : v2 = (b.length : Int) - at_ - 1 := by rw [h2, e1]; exact iw
    rw [show nP (v2 < (more : Int)) = Qf by simp; omega, aj, aaB, QT _ _ _ (by simp; omega)]
    rfl
def Y1(lo hi n:Nat):(cond (nP ((lo:Int)<=(n:Int))) (nP ((n:Int)<(hi:Int))) Qg)=nP (lo<=n/\n<hi):=by by_cases a:lo<=n;{rw[show nP ((lo:Int)<=(n:Int))=Qf by simp;omega,aj,bf];simp;omega};{rw[show nP ((lo:Int)<=(n:Int))=Qg by simp;omega,ae,dF]}
def aiQ(b:bE)(at_:Int)(hp:nP (b.length<=1099511627776)=Qf):ayW b at_=Bm [.i .i64 (fJ.qB b at_).1,.i .i64 (fJ.qB b at_).2]:=by have hb:b.length<=1099511627776:=ao hp;refine ayU b at_ ?_;intro v1 h1 v2 h2 v3 h3 v4 h4 v5 h5 v6 h6 v7 h7 v8 h8 v9 h9;unfold fJ.qB;by_cases h0:at_<0;{subst h1;simp[h0,ck,aaB]};{have hd0:nP (at_<0)=Qg:=ab h0;obtain⟨i,rfl⟩:=Int.eq_ofNat_of_zero_le (show 0<=at_ by omega);rw[hd0]at h1⊢;subst h1;simp only[aH,aF,Bool.false_or,Bool.or_true,bK,ae,aq]at h2⊢;by_cases hl:b.length<=i;{rw[show nP ((b.length:Int)<=(i:Int))=Qf by simp;omega,ar (.inr (by omega)),aj,aaB];rfl};{rw[show nP ((b.length:Int)<=(i:Int))=Qg by simp;omega,nO,ae,ll,Ua (l:=b) (i:=i) (by omega) 0,<-h2,fJ.rune];have hc:=Rw v2;have e3:v3=(v2.toNat:Int):=by{rw[h3];exact iw};have an:∀(m:Nat),m<256->da .and .i64 v3 m=((v2.toNat&&&m:Nat):Int):=λm h=>by{rw[e3,Qa _ _ (by omega) (by omega)]};have an1:v5=((v2.toNat&&&31:Nat):Int):=h5.trans (an 31 (by omega));have an2:v7=((v2.toNat&&&15:Nat):Int):=h7.trans (an 15 (by omega));have an3:v9=((v2.toNat&&&7:Nat):Int):=h9.trans (an 7 (by omega));have e4:v4=nP (192<=v2.toNat/\v2.toNat<224):=by{rw[h4,e3];exact Y1 192 224 _};have e6:v6=nP (224<=v2.toNat/\v2.toNat<240):=by{rw[h6,e3];exact Y1 224 240 _};have e8:v8=nP (240<=v2.toNat/\v2.toNat<248):=by{rw[h8,e3];exact Y1 240 248 _};have J:∀(r more least:Nat),1<=more/\more<8->r<1024->aaA b i r more least=Bm [.i .i64 (fJ.rQ r more least (b.drop (i+1))).1,.i .i64 (fJ.rQ r more least (b.drop (i+1))).2]:=λr more least h1 h2=>(ayT b i r more least h1 hb (by omega) h2).trans (O0 _ _ _ _);simp only[aL,bK];by_cases c1:v2.toNat<128;{rw[ar c1,e3,show nP ((v2.toNat:Int)<128)=Qf by simp;omega,aj];rfl};{rw[ak c1,show nP (v3<(128:Int))=Qg by rw[e3];simp;omega,ae,e4];by_cases c2:192<=v2.toNat/\v2.toNat<224;{rw[ar c2,cT c2,an1,Wr _ hc c2];exact J _ 1 128 (by omega) (by omega)};{rw[ak c2,cF c2,e6];by_cases c3:224<=v2.toNat/\v2.toNat<240;{rw[ar c3,cT c3,an2,Wt _ hc c3];exact J _ 2 2048 (by omega) (by omega)};{rw[ak c3,cF c3,e8];by_cases c4:240<=v2.toNat/\v2.toNat<248;{rw[ar c4,cT c4,an3,and7 _ hc c4];exact J _ 3 65536 (by omega) (by omega)};{rw[ak c4,cF c4,aaB];rfl}}}}}}
def fJ.vx(l:bE):0<=(fJ.rune l).2/\(fJ.rune l).2<=l.length:=by
 have Fh:∀(k r q:Nat)(l:bE),fJ.cont r k l=Bm q->k<=l.length:=by
  intro k;induction k with
  |zero=>intro r q l _;omega
  |succ k ih=>
   intro r q l h;cases l with
   |nil=>cases h
   |cons c l=>rw[fJ.cont]at h;split at h;{have:=ih _ _ _ h;simp;omega};{cases h}
 have ZK:∀(r more least:Nat)(l:bE),0<=(fJ.rQ r more least l).2/\(fJ.rQ r more least l).2<=l.length+1:=by
  intro r more least l;unfold fJ.rQ;cases h:fJ.cont r more l with
  |none=>simp;omega
  |some q=>have:=Fh _ _ _ _ h;simp only;split<;>simp<;>omega
 cases l with
 |nil=>exact⟨by decide,by decide⟩
 |cons c l=>unfold fJ.rune;simp only[av];split;{simp;omega};{split;{have:=ZK (c.toNat -192) 1 128 l;omega};{split;{have:=ZK (c.toNat -224) 2 2048 l;omega};{split;{have:=ZK (c.toNat -240) 3 65536 l;omega};{simp;omega}}}}
def fJ.Lw(l:bE):∀n,l.length<=n->fJ.uH n l=fJ.uH l.length l:=by
 have key:∀(m:Nat)(l:bE),l.length<=m->∀n,l.length<=n->fJ.uH n l=fJ.uH l.length l:=by
  intro m;induction m with
  |zero=>
   intro l hl n hn;have:l=[]:=List.length_eq_zero_iff.1 (by omega);subst this;cases n with
   |zero=>rfl
   |succ n=>rfl
  |succ m ih=>
   intro l hl n hn;cases h:l.length with
   |zero=>have:l=[]:=List.length_eq_zero_iff.1 h;subst this;cases n<;>rfl
   |succ k=>
    cases n with
    |zero=>omega
    |succ n=>unfold fJ.uH;have hs:=fJ.vx l;by_cases h0:(fJ.rune l).2=0;{rw[ar h0,ar h0]};{rw[ak h0,ak h0];have hd:(l.drop (fJ.rune l).2.toNat).length<=k:=by{simp;omega};rw[ih _ (by simp;omega) n (by simp;omega),ih _ (by simp;omega) k hd]}
 exact λn hn=>key _ l (Nat.le_refl _) n hn
def fJ.I8(l:bE)(h:(fJ.rune l).2≠0):fJ.look l=((fJ.look (l.drop (fJ.rune l).2.toNat)).1+(fJ.rune l).2.toNat,(fJ.look (l.drop (fJ.rune l).2.toNat)).2+1):=by
 have hs:=fJ.vx l;unfold fJ.look;cases hl:l.length with
 |zero=>omega
 |succ k=>rw[fJ.uH,ak h];simp only;rw[fJ.Lw _ k (by simp;omega)]
def fJ.I9(l:bE)(h:(fJ.rune l).2=0):fJ.look l=(0,0):=by
 unfold fJ.look;cases l.length with
 |zero=>rfl
 |succ k=>rw[fJ.uH,ar h]
def fJ.FM(b:bE)(i:Nat)(h:i<b.length):fJ.qB b i=fJ.rune (b.drop i):=by unfold fJ.qB;rw[nO,aq]
def axi(b:bE)(hb:b.length<=1099511627776):∀(m i k:Nat),b.length -i<=m->i<=b.length->k<=i->acQ b i k=Bm [.i .i64 ((i+(fJ.look (b.drop i)).1:Nat):Int),.i .i64 ((k+(fJ.look (b.drop i)).2:Nat):Int)]:=by
 intro m;induction m with
 |zero=>intro i k hm hi hk;apply aez;intro v1 h1 v2 h2;rw[show nP ((i:Int)<(b.length:Int))=Qg by simp;omega,ae,aex,aD (by omega)];rfl
 |succ m ih=>intro i k hm hi hk;by_cases gS:i<b.length;{apply aez;intro v1 h1 v2 h2;rw[fJ.FM b i gS]at h1⊢;have hs:=fJ.vx (b.drop i);rw[aZ]at hs;rw[show nP ((i:Int)<(b.length:Int))=Qf by simp;omega,aj,bA (aa hb)];by_cases h0:(fJ.rune (b.drop i)).2=0;{rw[cT h0,aex,fJ.I9 _ h0];rfl};{rw[cF h0,fJ.I8 _ h0];have e1:v1=((i+(fJ.rune (b.drop i)).2.toNat:Nat):Int):=by{rw[h1,iw];omega};have e2:v2=((k+1:Nat):Int):=by{rw[h2,iw];omega};rw[e1,e2,ih _ _ (by omega) (by omega) (by omega),List.drop_drop];simp only[aN,bw,TV.i.injEq,true_and,and_true];exact⟨by omega,by omega⟩}};{apply aez;intro v1 h1 v2 h2;rw[show nP ((i:Int)<(b.length:Int))=Qg by simp;omega,ae,aex,aD (by omega)];rfl}
def aik(b:bE)(hp:nP (b.length<=1099511627776)=Qf):axk b=Bm [.i .i64 ((fJ.look b).1:Int),.i .i64 ((fJ.look b).2:Int)]:=by rw[axj];have:=axi b (ao hp) b.length 0 0 (by omega) (by omega) (by omega);simpa using this
def ag8(b:bE)(hp:nP (b.length<=1099511627776)=Qf):at5 b=Bm [.i .i64 ((fJ.look b).1:Int),.b (fJ.whole b)]:=by have e:nP (((fJ.look b).1:Int)=(b.length:Int))=fJ.whole b:=by{unfold fJ.whole;rw[bf];simp;omega};rw[at4,bA hp,e]
def ahd(s:bE)(c:UInt8):auq s c=Bm [.i .i64 (Lib.indexByte s c)]:=aup s c
def afL(s t:bE)(hp:nP (t.length=1)=Qf):aq3 s t=Bm [.i .i64 (Lib.indexByte s (t.getD 0 0))]:=by
 have hl:t.length=1:=ao hp;refine aq2 s t ?_;intro v1 h1 v2 h2;have e0:nP ((t.length:Int)=0)=Qg:=dF;have e1:nP ((t.length:Int)=1)=Qf:=dT;rw[e0]at h1⊢;simp only[aH,aF,Bool.false_or,aM,bK,ae]at h1⊢;by_cases hs:t=s
 ·subst hs;rw[h1,cT rfl];obtain⟨c,rfl⟩:∃c,t=[c]:=by
   match t,hl with
   |[c],_=>exact⟨c,rfl⟩
  simp[Lib.indexByte]
 {rw[h1,cF hs,e1,aj,ll,h2];rfl}
def afM(s t:bE)(hp:nP (t.length=1)=Qf):aq6 s t=Bm [.i .i64 (Lib.indexByte s (t.getD 0 0))]:=by refine aq5 s t ?_;intro v1 h1;rw[bA hp,h1]
def agF(s t:bE)(hp:nP (t.length=1)=Qf):asU s t=Bm [.b (nP (0<=Lib.indexByte s (t.getD 0 0)))]:=by refine asT s t ?_;intro v1 h1;rw[bA hp,h1]
def afP(k:Int):arh k=Bm [.s (Tree.name k)]:=by refine arf k ?_;intro v1 h1 v2 h2;unfold Tree.name;by_cases a:k=127;{rw[ar a,aa a];rfl};{rw[ak a,cF a];by_cases b:k=255;{rw[ar b,aa b];rfl};{rw[ak b,cF b];simp only[aL,bn,bK];by_cases c:k<0\/20<=k;{rw[ar c,show v1=Qf by rw[h1];by_cases d:k<0<;>simp[d];omega];rfl};{rw[ak c,show v1=Qg by rw[h1];by_cases d:k<0<;>simp[d]<;>omega,ae,ll,bA (by simp;omega),h2];rfl}}}
def Tree.I0(k:Int)(h:k∉Tree.kinds):Tree.name k=[]:=by simp only[Tree.kinds,aS,List.not_mem_nil,not_or]at h;unfold Tree.name;rw[nO,nO];by_cases c:k<0\/20<=k;{rw[ar c]};{have:k=0:=by{omega};subst this;rfl}
theorem oW(c:UInt8):∀s:bE,nP (0<=Lib.indexByte s c)=s.contains c
 |[]=>by simp[Lib.indexByte]
 |b::l=>by have ih:=oW c l;have L7:=Lib.indexByte_ge l c;rw[List.contains_cons,<-ih];rw[Lib.indexByte];by_cases h:b=c;{subst h;simp};{rw[ak (by simpa using h),show(c==b)=Qg by rw[beq_eq_false_iff_ne];exact λe=>h e.symm,Bool.false_or];by_cases h1:Lib.indexByte l c=-1;{rw[h1];rfl};{rw[ak (by simpa using h1),dT,dT]}}
def agH(s:bE)(plain:Bool)(hp:nP (s.length<=1099511627776)=Qf):as0 s plain=Bm [.b (Tree.gP s plain)]:=by have e:nP (0<=Lib.indexByte s (([0]:bE).getD 0 0))=fJ.zero s:=oW 0 s;refine asZ s plain ?_;intro v1 h1 v2 h2;rw[bA (sL (ao hp)),bA hp];rw[e]at h1;subst h1 h2;unfold Tree.gP;cases fJ.whole s<;>cases plain<;>cases fJ.zero s<;>rfl
def aiX(v:Val):azs v=Bm [.b (Tree.dV v)]:=by have J2:∀(x:Bool)(v:Val),UI x v=Bm [.b (x&&nP (v.bits=0)&&nP (v.high=0)&&nP (v.low=0)&&nP (v.text=[])&&nP (v.more=[])&&nP (v.sub=0)&&nP (v.bytes=[])&&nP (v.kids=[]))]:=by{intro x v;refine azq x v ?_;intro v1 h1 v2 h2 v3 h3 v4 h4 v5 h5 v6 h6 v7 h7 v8 h8 v9 h9 v10 kv;simp only[aL,bK];have e1:nP (v7=0)=nP (v.bytes=[]):=by{rw[h7,bf];simp};have e2:nP (v9=0)=nP (v.kids=[]):=by{rw[h9,bf];simp};rw[e1]at h8;rw[e2]at kv;subst h1 h2 h3 h4 h5 h6 h8 kv;simp only[Bool.cond_false_right]};have J3:∀(x0:Bool)(x1:Int)(x2:Bool)(x3:Val),abD x0 x1 x2 x3=cond x2 (UI x0 (Val.mk (Val.kind x3) (Val.bits x3) (Val.high x3) (Val.low x3) ([]:bE) (Val.more x3) (Val.sub x3) (Val.bytes x3) (Val.kids x3))) (cond (nP (x1=(11:Int))) (UI x0 (Val.mk (Val.kind x3) (Val.bits x3) (Val.high x3) (Val.low x3) ([]:bE) ([]:bE) (Val.sub x3) (Val.bytes x3) (Val.kids x3))) (cond (nP (x1=(5:Int))) (UI (nP (0<=x3.sub)&&nP (x3.sub<=255)) (Val.mk (Val.kind x3) (Val.bits x3) (Val.high x3) (Val.low x3) (Val.text x3) (Val.more x3) (0:Int) ([]:List UInt8) (Val.kids x3))) (cond (nP (x1=(7:Int))) (UI (nP (x3.bytes.length=12)) (Val.mk (Val.kind x3) (Val.bits x3) (Val.high x3) (Val.low x3) (Val.text x3) (Val.more x3) (Val.sub x3) ([]:List UInt8) (Val.kids x3))) (cond (nP (x1=(12:Int))) (UI (nP (x3.bytes.length=12)) (Val.mk (Val.kind x3) (Val.bits x3) (Val.high x3) (Val.low x3) ([]:bE) (Val.more x3) (Val.sub x3) ([]:List UInt8) (Val.kids x3))) (cond (nP (x1=(3:Int))) (abC x0 x1 (nP (x1=(3:Int))) x3) (abC x0 x1 (nP (x1=(4:Int))) x3)))))):=by{intro x0 x1 x2 x3;refine azn x0 x1 x2 x3 ?_;intro v1 h1 v2 h2;have e:nP (v2=12)=nP (x3.bytes.length=12):=by{rw[h2,bf];simp;omega};simp only[aL,bK,e,h1,Bool.cond_false_right]};obtain⟨k,b,hi,lo,t,m,s,y,ks⟩:=v;simp only[azr,azp,J3,azt,J2,Tree.dV,Tree.sX];by_cases a1:k=1;{subst a1;simp;grind};by_cases a2:k=2;{subst a2;simp;grind};by_cases a3:k=3;{subst a3;simp;grind};by_cases a4:k=4;{subst a4;simp;grind};by_cases a5:k=5;{subst a5;simp;grind};by_cases a7:k=7;{subst a7;simp;grind};by_cases a8:k=8;{subst a8;simp;grind};by_cases a9:k=9;{subst a9;simp;grind};by_cases CG:k=11;{subst CG;simp;grind};by_cases a12:k=12;{subst a12;simp;grind};by_cases Kj:k=13;{subst Kj;simp;grind};by_cases a14:k=14;{subst a14;simp;grind};by_cases a15:k=15;{subst a15;simp;grind};by_cases a16:k=16;{subst a16;simp;grind};by_cases T1:k=17;{subst T1;simp;grind};by_cases a18:k=18;{subst a18;simp;grind};by_cases a19:k=19;{subst a19;simp;grind};simp[a1,a2,a3,a4,a5,a7,a8,a9,CG,a12,Kj,a14,a15,a16,T1,a18,a19];grind
def aiY(v:Val)(n:bE)(m:Nat)(h:bB.bC (bB.of n v)<=m):v.text.length<=m/\v.more.length<=m/\n.length<=m/\v.bytes.length<=m/\bB.bD v.kids+1<=m:=by simp only[bB.of,bB.bC]at h;omega
def bB.zk(f:bB):1<=f.bC:=by cases f;simp only[bB.bC];omega
def bB.mz:∀(l:List bB)(i:Nat)(d:bB),i<l.length->(l.getD i d).bC<=bB.bD l
 |f::l,0,d,_=>by simp[bB.bD]
 |f::l,i+1,d,h=>by have:=bB.mz l i d (by simpa using h);simp only[List.getD_cons_succ,bB.bD];omega
def bB.kx:∀(l:List bB),l.length<=bB.bD l
 |[]=>by simp
 |f::l=>by have:=bB.kx l;have:=bB.zk f;simp only[av,bB.bD];omega
theorem bB.R7(f:bB):bB.of f.name f.val=f:=by cases f;rfl
def bB.qq(f:bB):bB.bC (bB.of [] f.val)<=f.bC:=by cases f;simp only[bB.of,bB.val,bB.bC,bB.kind,bB.bits,bB.high,bB.low,bB.text,bB.more,bB.sub,bB.bytes,bB.kids];simp
theorem Ky(v:Val)(n:bE):Tree.qH v n=(if Tree.name v.kind=[]then 5 else if Tree.dV v=Qg then 1 else if Tree.gP v.text (nP (v.kind=11))=Qg\/Tree.gP v.more (nP (v.kind=11))=Qg\/Tree.gP n Qf=Qg then 4 else 0):=by unfold Tree.qH Tree.own;grind
theorem Tree.PX(n:bE)(v:Val)(p:List Int):Tree.gw (bB.of n v) p=if Tree.qH v n≠0 then(p,Tree.qH v n)else Tree.mf v.kids 0 p:=by cases v;simp only[bB.of,Tree.gw]
def aw4(n:Nat)(ks:List bB)(p:List Int)(hb:bB.bD ks+p.length<1099511627776)(hn:bB.bD ks<n):∀(m i:Nat),i+m=ks.length->acN n ks (ks.length:Int) i p=Bm [.sl .is (Tree.mf (ks.drop i) i p).1,.i .i64 (Tree.mf (ks.drop i) i p).2,.sl .is p]:=by
 have hlen:=bB.kx ks;intro m;induction m with
 |zero=>intro i hi;apply akB;intro v1 h1 v2 h2 v3 h3 v4 h4;rw[cF,aD (by omega)];rfl
 |succ m ih=>intro i hi;apply akB;intro v1 h1 v2 h2 v3 h3 v4 h4;rw[aq]at h1;have hg:=bB.mz ks i (eu.dH .fl) (by omega);rw[<-h1]at hg;rw[bB.R7]at h2 h3⊢;rw[cT,ll,bA (dD (by simp;omega) (by simp;omega)),aa (by simp;omega),dT,aM,bK,Ua (l:=ks) (i:=i) (by omega) (eu.dH .fl),<-h1,Tree.mf];by_cases h:v3=0;{rw[aa h,ak (by rw[h3]at h;simpa using h)];simp only[aF,ae];rw[show v4=((i+1:Nat):Int) by rw[h4,iw];omega,ih _ (by omega)]};{rw[ab h,ar (by rw[h3]at h;simpa using h)];simp only[aH,aj];rw[h2,h3]}
def aid(n:Nat)(v:Val)(name:bE)(path:List Int)(hp:((nP (bB.bC (bB.of name v)+path.length<=1099511627776))&&nP ((bB.bC (bB.of name v))<n+1))=Qf):aw6 n v name path=Bm [.sl .is (Tree.gw (bB.of name v) path).1,.i .i64 (Tree.gw (bB.of name v) path).2,.sl .is path]:=by simp only[ah,aC]at hp;obtain⟨hp,hn⟩:=hp;obtain⟨b1,b2,b3,_,_⟩:=aiY v name 1099511627776 (by omega);have NJ:bB.bD v.kids<bB.bC (bB.of name v):=by{simp only[bB.of,bB.bC];omega};refine aw5 n v name path ?_;intro v1 h1 v2 h2 v3 h3 v4 h4;rw[Tree.PX,Ky];simp only[aL,bn,aM,bK,aa b1,aa b2,aa b3,Bool.and_true];have hap:dU path.length 8=Qf:=dD (by omega) (by omega);simp only[hap,bK];by_cases a:Tree.name v.kind=[];{rw[aa a];simp[a]};{rw[cF a];by_cases b:Tree.dV v=Qg;{rw[b];simp[a]};{have b':Tree.dV v=Qf:=by{simpa using b};rw[b'];have e3:v3=nP (Tree.gP v.text (nP (v.kind=11))=Qg\/Tree.gP v.more (nP (v.kind=11))=Qg\/Tree.gP name Qf=Qg):=by{subst h1 h2 h3;cases Tree.gP v.text (nP (v.kind=11))<;>cases Tree.gP v.more (nP (v.kind=11))<;>cases Tree.gP name Qf<;>rfl};rw[e3,h4];by_cases c:Tree.gP v.text (nP (v.kind=11))=Qg\/Tree.gP v.more (nP (v.kind=11))=Qg\/Tree.gP name Qf=Qg;{rw[aa c];simp[a,c]};{rw[ab c];simp only[aF,ae,ak a,ak c];have:=aw4 n v.kids path (by omega) (by omega) v.kids.length 0 (by omega);rw[aX]at this;simpa using this}}}
def aht(v:Val)(hp:nP (bB.bC (bB.of [] v)<=1099511627776)=Qf):au8 v=Bm [.sl .is (Tree.gw (bB.of [] v) []).1,.i .i64 (Tree.gw (bB.of [] v) []).2]:=by refine au7 v ?_;intro v1 h1 v2 h2;rw[bA (by simpa using hp),h1,h2]
theorem Tree.JN(f:bB):Tree.depth (bB.of [] f.val)=Tree.depth f:=by cases f;rfl
theorem Tree.ML(n:bE)(v:Val):Tree.depth (bB.of n v)=if v.kind=3\/v.kind=4\/v.kind=15 then Tree.qW v.kids+1 else 0:=by cases v;rfl
def Tree.wc:∀l:List bB,Tree.qW l<=bB.bD l/\∀f∈l,Tree.depth f<=bB.bC f
 |[]=>by simp[Tree.qW]
 |f::l=>by obtain⟨h1,h2⟩:=Tree.wc l;have hf:Tree.depth f<=bB.bC f:=by{obtain⟨n,k,b,h,lo,t,m,s,y,ks⟩:=f;have:=(Tree.wc ks).1;unfold Tree.depth bB.bC;split<;>omega};refine⟨by simp only[Tree.qW,bB.bD];omega,λg hg=>?_⟩;rcases aS.1 hg with rfl|hg;{exact hf};{exact h2 g hg}
def Tree.MM(f:bB):Tree.depth f<=bB.bC f:=(Tree.wc [f]).2 f (List.mem_cons_self ..)
def ayd(a b:List Int)(hl:a.length=b.length)(hb:a.length<9223372036854775807):∀(m i:Nat),i+m=a.length->ac9 a b i=Bm [.b (nP (a.drop i=b.drop i))]:=by
 intro m;induction m with
 |zero=>intro i hi;apply akW;intro v1 h1 v2 h2 v3 h3;rw[cF,aD (by omega),aD (by omega)];rfl
 |succ m ih=>intro i hi;apply akW;intro v1 h1 v2 h2 v3 h3;rw[aq]at h1 h2;rw[cT,ll,ll,Ua (l:=a) (i:=i) (by omega) 0,Ua (l:=b) (i:=i) (by omega) 0,<-h1,<-h2];by_cases h:v1=v2;{rw[aa h];simp only[aF,ae];rw[show v3=((i+1:Nat):Int) by rw[h3,iw];omega,ih _ (by omega)];simp[h]};{rw[ab h];simp[h]}
def aiB(a b:List Int)(hp:nP (a.length<=1099511627776)=Qf):ayf a b=Bm [.b (nP (a=b))]:=by have hp:=ao hp;rw[aye];by_cases hl:a.length=b.length;{rw[dT];have:=ayd a b hl (by omega) a.length 0 (by omega);simpa using this};{rw[dF,ab (λe=>hl (by rw[e]))];rfl}
def axY(n:Nat)(ks:List bB)(hb:bB.bD ks<1099511627776)(hn:bB.bD ks<n):∀(m i d:Nat),i+m=ks.length->d<=1099511627776->ac3 n d ks (ks.length:Int) i=Bm [.i .i64 ((max d (Tree.qW (ks.drop i))+1:Nat):Int)]:=by
 have hlen:=bB.kx ks;intro m;induction m with
 |zero=>intro i d hi hd;refine akQ _ _ _ _ _ ?_;intro v1 h1 v2 h2 v3 h3 v4 h4;rw[ab (by omega),ae,aD (by omega),h4,i64_in _ (by omega)];simp[Tree.qW]
 |succ m ih=>
  intro i d hi hd;refine akQ _ _ _ _ _ ?_;intro v1 h1 v2 h2 v3 h3 v4 h4;rw[aq]at h1;have hg:=bB.mz ks i (eu.dH .fl) (by omega);rw[<-h1]at hg;have hv:=bB.qq v1;have hdv:=Tree.MM v1;rw[aa (by omega),aj,bA (ez (by omega) (by omega)),aa (show bB.bC (bB.of [] v1.val)<n by omega),aa (show bB.bC (bB.of [] v1.val)<=1099511627776 by omega),aM,bK,
   show v3=((i+1:Nat):Int) by rw[h3,i64_in _ (by omega)];omega,h2,Tree.JN,show pQ (d:Int) (Tree.depth v1:Int)=((max d (Tree.depth v1):Nat):Int) by unfold pQ;split<;>omega,ih _ _ (by omega) (by omega),Ua (l:=ks) (i:=i) (by omega) (eu.dH .fl),<-h1,Tree.qW,Nat.max_assoc]
def aix(n:Nat)(v:Val)(hp:((nP (bB.bC (bB.of [] v)<=1099511627776))&&nP ((bB.bC (bB.of [] v))<n+1))=Qf):ax0 n v=Bm [.i .i64 (Tree.depth (bB.of [] v):Int)]:=by simp only[ah,aC]at hp;obtain⟨hbig,hn⟩:=hp;have NJ:bB.bD v.kids<bB.bC (bB.of [] v):=by{simp only[bB.of,bB.bC];omega};refine axZ n v ?_;intro v1 h1 v2 h2 v3 h3;simp only[aL,bK];have key:=axY n v.kids (by omega) (by omega) v.kids.length 0 0 (by omega) (by omega);rw[aX]at key;rw[Tree.ML];by_cases h:v.kind=3\/v.kind=4\/v.kind=15;{rw[ar h,show v2=Qg by subst h1 h2;rcases h with h|h|h<;>simp[h],ae,h3];rw[Nat.zero_max]at key;exact key};{rw[ak h,show v2=Qf by subst h1 h2;simp only[not_or]at h;simp[h.1,h.2.1,h.2.2],aj];rfl}
def agc:arY=Bm [.ag (nB.cells ⟨200,65536,262144⟩)]:=arX
end Go.Eng
set_option maxHeartbeats 1000000
namespace Go.Eng
open Go.RowKit Go.Maps Go.Proofs
def db{H:Type}{P:Program}(w:World){ops:Array Oper}{rest:List Oper}{o:Oper}{a:Act}{Q:Exit->Act->World->Prop}(hg:o.guard=Kk)(m x v:Operand)(t:TypeId)(jJ:o.op=Op.insert t m x v)(k e:TypeId)(K:Keyed P k)(ht:P.underlying t=Bm (.map k e))(R:Value->Option (DataW H×List MemPlace))(b n:Nat)(D:DataW H)(hm:a.eval m=.map (Bm b))(Jm:w.ownsMap P k R b n D)(hn:n<maxLen)(key val:Value)(kl:Lit)(hx:a.eval x=key)(hv:a.eval v=val)(ZR:keyOf P k key=Bm kl)(d:DataW H)(ps:List MemPlace)(hval:R val=Bm (d,ps))(hK:∀w',w'.ownsMap P k R b (n+1) (D.put kl d)->w.grownBy w' (Bm b)->wpList P ops Q rest (a.put o.dst undef) w'):wpList P ops Q (o::rest) a w:=by refine wpList_plain hg λK' hK'=>?_;obtain⟨w',lr,r1,r2⟩:=Jm.update K ht hn ZR hval;unfold Oper.wp;simp[execOp,jJ,hm,hx,hv,lr,Result.andThen];exact hK' _ _ (hK w' r1 r2)
theorem pg(w:World)(o:Obj):(w.alloc o).heap.size=w.heap.size+1:=Array.size_push ..
def mo:Keyed Tryz.prog 3:=int_keyed Tryz.underlying3
def Da(w:World):(zeroValue 3).run Tryz.prog w=.ok (.int .i64 0) w:=by kernel_rfl
structure Sz (w w':World):Prop where
 b:w'.heap[w.heap.size]?=Bm (.cells #[.int .i64 0,.int .i64 0] 147)
 o:Below w.heap.size w w'
 s:w.heap.size+1<=w'.heap.size
theorem Sz.c0{w w':World}(h:Sz w w'):w'.cell? ⟨w.heap.size,0,Kk⟩=Bm (.int .i64 0):=by simp[World.cell?,h.b]
theorem Sz.c1{w w':World}(h:Sz w w'):w'.cell? ⟨w.heap.size,1,Kk⟩=Bm (.int .i64 0):=by simp[World.cell?,h.b]
theorem Sz.f{w w':World}(h:Sz w w')(i:Nat):w'.frozen? ⟨w.heap.size,i,Kk⟩=Qg:=by simp[World.frozen?,h.b]
def rA(w:World):Sz w ((w.alloc (.cells #[.int .i64 0,.int .i64 0] 147)).alloc (.map #[] 0)):=by refine⟨?_,((Below.refl _ _).alloc (Nat.le_refl _) _).alloc (by rw[pg];omega) _,by rw[pg,pg];omega⟩;rw[Below.heap_alloc _ _ _ (by rw[pg];omega)];exact Array.getElem?_push_size
def ka{w w1 w2:World}(h:Sz w w1)(hg:w1.grownBy w2 (Bm (w.heap.size+1))):Sz w w2:=⟨(hg.block _ (by have:=h.s;omega) (by simp)).trans h.b,h.o.grown hg (by have:=h.s;omega) (λk e=>by cases e;omega),Nat.le_trans h.s hg.size⟩
def tx(n:Int)(h:(Lit.int .i64 n).wf=Qf):plainElem (H:=Unit) Tryz.prog 3 (.int .i64 n)=Bm (.lit (.int .i64 n),[]):=plainElem_int Tryz.underlying3 h
def uj(w:World)(o:Obj):((w.alloc o).alloc (.map #[] 0)).ownsMap Tryz.prog 3 (plainElem (H:=Unit) Tryz.prog 3) (w.heap.size+1) 0 (.map []):=by have:=World.ownsMap_made (H:=Unit) (w.alloc o) Tryz.prog 3 (plainElem Tryz.prog 3);rw[pg]at this;exact this
def RJ(tmps:Array Value)(W:World)(B:Nat)(x y:Int)(ht:tmps[4]?.getD undef=.pointer (Bm ⟨B,0,Kk⟩))(hb:W.heap[B]?=Bm (.cells #[.int .i64 x,.int .i64 y] 147)):(results Tryz.f94 tmps).run Tryz.prog W=.ok (.agg #[.int .i64 x,.int .i64 y]) W:=by have c0:W.cell? ⟨B,0,Kk⟩=Bm (.int .i64 x):=by{simp[World.cell?,hb]};have c1:W.cell? ⟨B,1,Kk⟩=Bm (.int .i64 y):=by{simp[World.cell?,hb]};simp[results,Tryz.results94,go_sem,ht,c0,c1]
def xO{w3:World}{B:Nat}{x y:Int}(hb:w3.heap[B]?=Bm (.cells #[.int .i64 0,.int .i64 0] 147)):((w3.setCell ⟨B,0,Kk⟩ (.int .i64 x)).setCell ⟨B,1,Kk⟩ (.int .i64 y)).heap[B]?=Bm (.cells #[.int .i64 x,.int .i64 y] 147):=by simp[World.setCell,Array.getElem?_modify,hb]
def pN{a:Act}{Q:Ending->World->Prop}{W:World}{B:Nat}{x y:Int}(ht:a.tmps[4]?.getD undef=.pointer (Bm ⟨B,0,Kk⟩))(hd:a.defers=[])(hb:W.heap[B]?=Bm (.cells #[.int .i64 x,.int .i64 y] 147))(hQ:Q (.returned (.agg #[.int .i64 x,.int .i64 y])) W):bodyPost Tryz.prog Tryz.f94 Q .ret a W:=bodyPost_ret (RJ a.tmps W B x y ht hb) hd hQ
def xP(w:World)(o:Obj):(w.alloc o).heap[w.heap.size]?=Bm o:=Array.getElem?_push_size
def lO{a b:Int}{p:Int×Int}(h:(a,b)=p):Ending.returned (.agg #[.int .i64 a,.int .i64 b])=.returned (.agg #[.int .i64 p.1,.int .i64 p.2]):=by cases h;rfl
def Bz{n:Int}(h0:0<=n)(h1:n<4294967296):wrap64 n=n:=by simp only[wrap64];omega
def YN{n:Int}(h:n<32):(160+n,0)=Mp.sized 4 n:=by simp[Mp.sized,Mp.fixed,Mp.fix,Mp.vr,Mp.base];omega
def YM{n:Int}(h:32<=n)(h2:n<256):(217,1)=Mp.sized 4 n:=by simp[Mp.sized,Mp.fixed,Mp.fix,Mp.vr,Mp.base];rw[ak (by omega),ar h2]
def YL{n:Int}(h:256<=n)(h2:n<65536):(218,2)=Mp.sized 4 n:=by simp[Mp.sized,Mp.fixed,Mp.fix,Mp.vr,Mp.base];rw[ak (by omega),ak (by omega),ar h2]
def Yz{n:Int}(h:65536<=n):(219,4)=Mp.sized 4 n:=by simp[Mp.sized,Mp.fixed,Mp.fix,Mp.vr,Mp.base];rw[ak (by omega),ak (by omega),ak (by omega)]
def YU{n:Int}(h0:0<=n)(h2:n<256):(196,1)=Mp.sized 3 n:=by simp[Mp.sized,Mp.fixed,Mp.fix,Mp.vr,Mp.base];rw[ak (by omega),ar h2]
def YT{n:Int}(h:256<=n)(h2:n<65536):(197,2)=Mp.sized 3 n:=by simp[Mp.sized,Mp.fixed,Mp.fix,Mp.vr,Mp.base];rw[ak (by omega),ak (by omega),ar h2]
def YS{n:Int}(h:65536<=n):(198,4)=Mp.sized 3 n:=by simp[Mp.sized,Mp.fixed,Mp.fix,Mp.vr,Mp.base];rw[ak (by omega),ak (by omega),ak (by omega)]
def YR{n:Int}(h:(n==1)=Qf):(212,0)=Mp.sized 10 n:=by rw[beq_iff_eq]at h;subst h;rfl
def YQ{n:Int}(h:(n==2)=Qf):(213,0)=Mp.sized 10 n:=by rw[beq_iff_eq]at h;subst h;rfl
def YP{n:Int}(h:(n==4)=Qf):(214,0)=Mp.sized 10 n:=by rw[beq_iff_eq]at h;subst h;rfl
def YO{n:Int}(h:(n==8)=Qf):(215,0)=Mp.sized 10 n:=by rw[beq_iff_eq]at h;subst h;rfl
def U4{n:Int}(h:(n==16)=Qf):(216,0)=Mp.sized 10 n:=by rw[beq_iff_eq]at h;subst h;rfl
def RI{n a b:Int}(h0:0<=n)(h1:(n==1)=Qg)(h2:(n==2)=Qg)(h3:(n==4)=Qg)(h4:(n==8)=Qg)(h5:(n==16)=Qg)(h:(n<256/\a=199/\b=1)\/(256<=n/\n<65536/\a=200/\b=2)\/(65536<=n/\a=201/\b=4)):(a,b)=Mp.sized 10 n:=by simp at h1 h2 h3 h4 h5;simp[Mp.sized,Mp.fixed,Mp.fix,Mp.vr,Mp.base,h1,h2,h3,h4,h5];rw[ak (by omega)];rcases h with⟨h,rfl,rfl⟩|⟨h,h',rfl,rfl⟩|⟨h,rfl,rfl⟩;{rw[ar h]};{rw[ak (by omega),ar h']};{rw[ak (by omega),ak (by omega)]}
def U3{n:Int}(h:n<16):(144+n,0)=Mp.sized 5 n:=by simp[Mp.sized,Mp.fixed,Mp.fix,Mp.vr,Mp.base];omega
def U2{n:Int}(h:16<=n)(h2:n<65536):(220,2)=Mp.sized 5 n:=by simp[Mp.sized,Mp.fixed,Mp.fix,Mp.vr,Mp.base];rw[ak (by omega),ar h2]
def U1{n:Int}(h:65536<=n):(221,4)=Mp.sized 5 n:=by simp[Mp.sized,Mp.fixed,Mp.fix,Mp.vr,Mp.base];rw[ak (by omega),ak (by omega)]
def U0{n:Int}(h:n<16):(128+n,0)=Mp.sized 6 n:=by simp[Mp.sized,Mp.fixed,Mp.fix,Mp.vr,Mp.base];omega
def UZ{n:Int}(h:16<=n)(h2:n<65536):(222,2)=Mp.sized 6 n:=by simp[Mp.sized,Mp.fixed,Mp.fix,Mp.vr,Mp.base];rw[ak (by omega),ar h2]
def UY{n:Int}(h:65536<=n):(223,4)=Mp.sized 6 n:=by simp[Mp.sized,Mp.fixed,Mp.fix,Mp.vr,Mp.base];rw[ak (by omega),ak (by omega)]
def U7{c:Int}(Fi:((((DataW.map []).put (Lit.int .i64 4) (DataW.lit (H:=Unit) (Lit.int .i64 160))).put (Lit.int .i64 5) (DataW.lit (Lit.int .i64 144))).put (Lit.int .i64 6) (DataW.lit (Lit.int .i64 128))).atKey (Lit.int .i64 4) (DataW.lit (Lit.int .i64 0))=DataW.lit (Lit.int .i64 c)):c=160:=by have e:((((DataW.map []).put (Lit.int .i64 4) (DataW.lit (H:=Unit) (Lit.int .i64 160))).put (Lit.int .i64 5) (DataW.lit (Lit.int .i64 144))).put (Lit.int .i64 6) (DataW.lit (Lit.int .i64 128))).atKey (Lit.int .i64 4) (DataW.lit (Lit.int .i64 0))=DataW.lit (Lit.int .i64 160):=rfl;rw[e]at Fi;cases Fi;rfl
def U6{c:Int}(Fi:((((DataW.map []).put (Lit.int .i64 4) (DataW.lit (H:=Unit) (Lit.int .i64 160))).put (Lit.int .i64 5) (DataW.lit (Lit.int .i64 144))).put (Lit.int .i64 6) (DataW.lit (Lit.int .i64 128))).atKey (Lit.int .i64 5) (DataW.lit (Lit.int .i64 0))=DataW.lit (Lit.int .i64 c)):c=144:=by have e:((((DataW.map []).put (Lit.int .i64 4) (DataW.lit (H:=Unit) (Lit.int .i64 160))).put (Lit.int .i64 5) (DataW.lit (Lit.int .i64 144))).put (Lit.int .i64 6) (DataW.lit (Lit.int .i64 128))).atKey (Lit.int .i64 5) (DataW.lit (Lit.int .i64 0))=DataW.lit (Lit.int .i64 144):=rfl;rw[e]at Fi;cases Fi;rfl
def U5{c:Int}(Fi:((((DataW.map []).put (Lit.int .i64 4) (DataW.lit (H:=Unit) (Lit.int .i64 160))).put (Lit.int .i64 5) (DataW.lit (Lit.int .i64 144))).put (Lit.int .i64 6) (DataW.lit (Lit.int .i64 128))).atKey (Lit.int .i64 6) (DataW.lit (Lit.int .i64 0))=DataW.lit (Lit.int .i64 c)):c=128:=by have e:((((DataW.map []).put (Lit.int .i64 4) (DataW.lit (H:=Unit) (Lit.int .i64 160))).put (Lit.int .i64 5) (DataW.lit (Lit.int .i64 144))).put (Lit.int .i64 6) (DataW.lit (Lit.int .i64 128))).atKey (Lit.int .i64 6) (DataW.lit (Lit.int .i64 0))=DataW.lit (Lit.int .i64 128):=rfl;rw[e]at Fi;cases Fi;rfl
def Oi (n : Int) (L3 : 0 ≤ n) (xq : n < 4294967296) (w : World) : Calls Tryz.prog 94 #[.int .i64 4, .int .i64 n] w fun e w' => e = .returned (.agg #[.int .i64 (Mp.sized 4 n).1, .int .i64 (Mp.sized 4 n).2]) ∧ Below w.heap.size w w' := by
  have Jo := @run_makeMap Tryz.prog
  go_enter Tryz.func94, Tryz.ntmps94
  go_wp2_with (first
      | (refine db _ rfl (.tmp 34) (.const (.int .i64 4)) (.const (.int .i64 160)) 204 rfl 3 3 mo Tryz.underlying204 (plainElem (H := Unit) Tryz.prog 3) ?vQ 0 ?Xx ?CP ?B9 ?xq (.int .i64 4) (.int .i64 160) (.int .i64 4) ?Jj ?hv1 ?Jr (.lit (.int .i64 160)) [] ?Gl ?NN
         case CP => rfl
         case B9 => exact uj w _
         case xq => unfold maxLen; omega
         case Jj => rfl
         case hv1 => rfl
         case Jr => exact keyOf_int_mk Tryz.underlying3 (by decide)
         case Gl => exact tx _ (by decide)
         intro w1 B9 hg1
         have Ph := ka (rA w) hg1)
      | (refine db _ rfl (.tmp 34) (.const (.int .i64 5)) (.const (.int .i64 144)) 204 rfl 3 3 mo Tryz.underlying204 (plainElem (H := Unit) Tryz.prog 3) ?wX 1 ?Xw ?Gn ?B8 ?wJ (.int .i64 5) (.int .i64 144) (.int .i64 5) ?CN ?hv2 ?ri (.lit (.int .i64 144)) [] ?AV ?Kf
         case Gn => rfl
         case B8 => exact B9
         case wJ => unfold maxLen; omega
         case CN => rfl
         case hv2 => rfl
         case ri => exact keyOf_int_mk Tryz.underlying3 (by decide)
         case AV => exact tx _ (by decide)
         intro w2 B8 hg2
         have Pg := ka Ph hg2)
      | (refine db _ rfl (.tmp 34) (.const (.int .i64 6)) (.const (.int .i64 128)) 204 rfl 3 3 mo Tryz.underlying204 (plainElem (H := Unit) Tryz.prog 3) ?Mc 2 ?Xv ?Ka ?B7 ?Jn (.int .i64 6) (.int .i64 128) (.int .i64 6) ?LW ?hv3 ?Kb (.lit (.int .i64 128)) [] ?Pq ?Xr
         case Ka => rfl
         case B7 => exact B8
         case Jn => unfold maxLen; omega
         case LW => rfl
         case hv3 => rfl
         case Kb => exact keyOf_int_mk Tryz.underlying3 (by decide)
         case Pq => exact tx _ (by decide)
         intro w3 B7 hg3
         have sH := ka Pg hg3
         have c0 := sH.c0
         have c1 := sH.c1
         have f0 := sH.f 0
         have f1 := sH.f 1)
      | (at_lookup
         refine wpList_lookup_own_int (H := Unit) _ rfl (.tmp 35) (.tmp 36) 204 rfl 3 3 .i64 mo Tryz.underlying204 Tryz.underlying3 (Da _) ?Xk 3 ?Xu ?Pv ?Ps (.int .i64 4) (.int .i64 4) ?Pl ?Pw ?Xq
         case Pw => exact keyOf_int_mk Tryz.underlying3 (by decide)
         case Pv => rfl
         case Ps => exact B7
         case Pl => rfl
         intro c Fi W9)
      | go_in)
  all_goals clear Jo
  all_goals first | refine pN rfl rfl (xP _ _) ⟨?_, (Below.refl _ _).alloc (Nat.le_refl _) _⟩ | refine pN rfl rfl (xO sH.b) ⟨?_, (sH.o.setCell (Nat.le_refl _) _).setCell (Nat.le_refl _) _⟩
  · have hc : c = 160 := U7 Fi
    subst hc
    rw [Bz (by omega) (by omega)]
    exact lO (YN (by omega))
  · exact lO (YM (by omega) (by omega))
  · exact lO (YL (by omega) (by omega))
  · exact lO (Yz (by omega))
def RM (n : Int) (L3 : 0 ≤ n) (xq : n < 4294967296) (w : World) : Calls Tryz.prog 94 #[.int .i64 10, .int .i64 n] w fun e w' => e = .returned (.agg #[.int .i64 (Mp.sized 10 n).1, .int .i64 (Mp.sized 10 n).2]) ∧ Below w.heap.size w w' := by
  have Jo := @run_makeMap Tryz.prog
  go_enter Tryz.func94, Tryz.ntmps94
  go_wp2_with (first
      | (refine db _ rfl (.tmp 34) (.const (.int .i64 4)) (.const (.int .i64 160)) 204 rfl 3 3 mo Tryz.underlying204 (plainElem (H := Unit) Tryz.prog 3) ?vQ 0 ?Xx ?CP ?B9 ?xq (.int .i64 4) (.int .i64 160) (.int .i64 4) ?Jj ?hv1 ?Jr (.lit (.int .i64 160)) [] ?Gl ?NN
         case CP => rfl
         case B9 => exact uj w _
         case xq => unfold maxLen; omega
         case Jj => rfl
         case hv1 => rfl
         case Jr => exact keyOf_int_mk Tryz.underlying3 (by decide)
         case Gl => exact tx _ (by decide)
         intro w1 B9 hg1
         have Ph := ka (rA w) hg1)
      | (refine db _ rfl (.tmp 34) (.const (.int .i64 5)) (.const (.int .i64 144)) 204 rfl 3 3 mo Tryz.underlying204 (plainElem (H := Unit) Tryz.prog 3) ?wX 1 ?Xw ?Gn ?B8 ?wJ (.int .i64 5) (.int .i64 144) (.int .i64 5) ?CN ?hv2 ?ri (.lit (.int .i64 144)) [] ?AV ?Kf
         case Gn => rfl
         case B8 => exact B9
         case wJ => unfold maxLen; omega
         case CN => rfl
         case hv2 => rfl
         case ri => exact keyOf_int_mk Tryz.underlying3 (by decide)
         case AV => exact tx _ (by decide)
         intro w2 B8 hg2
         have Pg := ka Ph hg2)
      | (refine db _ rfl (.tmp 34) (.const (.int .i64 6)) (.const (.int .i64 128)) 204 rfl 3 3 mo Tryz.underlying204 (plainElem (H := Unit) Tryz.prog 3) ?Mc 2 ?Xv ?Ka ?B7 ?Jn (.int .i64 6) (.int .i64 128) (.int .i64 6) ?LW ?hv3 ?Kb (.lit (.int .i64 128)) [] ?Pq ?Xr
         case Ka => rfl
         case B7 => exact B8
         case Jn => unfold maxLen; omega
         case LW => rfl
         case hv3 => rfl
         case Kb => exact keyOf_int_mk Tryz.underlying3 (by decide)
         case Pq => exact tx _ (by decide)
         intro w3 B7 hg3
         have sH := ka Pg hg3
         have c0 := sH.c0
         have c1 := sH.c1
         have f0 := sH.f 0
         have f1 := sH.f 1)
      | (at_lookup
         refine wpList_lookup_own_int (H := Unit) _ rfl (.tmp 35) (.tmp 36) 204 rfl 3 3 .i64 mo Tryz.underlying204 Tryz.underlying3 (Da _) ?Xk 3 ?Xu ?Pv ?Ps (.int .i64 10) (.int .i64 10) ?Pl ?Pw ?Xq
         case Pw => exact keyOf_int_mk Tryz.underlying3 (by decide)
         case Pv => rfl
         case Ps => exact B7
         case Pl => rfl
         intro c Fi W9)
      | go_in)
  refine wp_loop_rounds 6 ?_
  rw [rounds_succ]
  go_wp2
  all_goals try rw [rounds_succ]
  all_goals try go_wp2
  all_goals try rw [rounds_succ]
  all_goals try go_wp2
  all_goals try rw [rounds_succ]
  all_goals try go_wp2
  all_goals try rw [rounds_succ]
  all_goals try go_wp2
  all_goals try rw [rounds_succ]
  all_goals try go_wp2
  all_goals clear Jo
  all_goals first | refine pN rfl rfl (xP _ _) ⟨?_, (Below.refl _ _).alloc (Nat.le_refl _) _⟩ | refine pN rfl rfl (xO sH.b) ⟨?_, (sH.o.setCell (Nat.le_refl _) _).setCell (Nat.le_refl _) _⟩
  · exact lO (YR ‹_›)
  · exact lO (YQ ‹_›)
  · exact lO (YP ‹_›)
  · exact lO (YO ‹_›)
  · exact lO (U4 ‹_›)
  · exact lO (RI L3 ‹(n == 1) = Qg› ‹(n == 2) = Qg› ‹(n == 4) = Qg› ‹(n == 8) = Qg› ‹(n == 16) = Qg› (by simp; omega))
  · exact lO (RI L3 ‹(n == 1) = Qg› ‹(n == 2) = Qg› ‹(n == 4) = Qg› ‹(n == 8) = Qg› ‹(n == 16) = Qg› (by simp; omega))
  · exact lO (RI L3 ‹(n == 1) = Qg› ‹(n == 2) = Qg› ‹(n == 4) = Qg› ‹(n == 8) = Qg› ‹(n == 16) = Qg› (by simp; omega))
def KE (n : Int) (L3 : 0 ≤ n) (xq : n < 4294967296) (w : World) : Calls Tryz.prog 94 #[.int .i64 3, .int .i64 n] w fun e w' => e = .returned (.agg #[.int .i64 (Mp.sized 3 n).1, .int .i64 (Mp.sized 3 n).2]) ∧ Below w.heap.size w w' := by
  have Jo := @run_makeMap Tryz.prog
  go_enter Tryz.func94, Tryz.ntmps94
  go_wp2_with (first
      | (refine db _ rfl (.tmp 34) (.const (.int .i64 4)) (.const (.int .i64 160)) 204 rfl 3 3 mo Tryz.underlying204 (plainElem (H := Unit) Tryz.prog 3) ?vQ 0 ?Xx ?CP ?B9 ?xq (.int .i64 4) (.int .i64 160) (.int .i64 4) ?Jj ?hv1 ?Jr (.lit (.int .i64 160)) [] ?Gl ?NN
         case CP => rfl
         case B9 => exact uj w _
         case xq => unfold maxLen; omega
         case Jj => rfl
         case hv1 => rfl
         case Jr => exact keyOf_int_mk Tryz.underlying3 (by decide)
         case Gl => exact tx _ (by decide)
         intro w1 B9 hg1
         have Ph := ka (rA w) hg1)
      | (refine db _ rfl (.tmp 34) (.const (.int .i64 5)) (.const (.int .i64 144)) 204 rfl 3 3 mo Tryz.underlying204 (plainElem (H := Unit) Tryz.prog 3) ?wX 1 ?Xw ?Gn ?B8 ?wJ (.int .i64 5) (.int .i64 144) (.int .i64 5) ?CN ?hv2 ?ri (.lit (.int .i64 144)) [] ?AV ?Kf
         case Gn => rfl
         case B8 => exact B9
         case wJ => unfold maxLen; omega
         case CN => rfl
         case hv2 => rfl
         case ri => exact keyOf_int_mk Tryz.underlying3 (by decide)
         case AV => exact tx _ (by decide)
         intro w2 B8 hg2
         have Pg := ka Ph hg2)
      | (refine db _ rfl (.tmp 34) (.const (.int .i64 6)) (.const (.int .i64 128)) 204 rfl 3 3 mo Tryz.underlying204 (plainElem (H := Unit) Tryz.prog 3) ?Mc 2 ?Xv ?Ka ?B7 ?Jn (.int .i64 6) (.int .i64 128) (.int .i64 6) ?LW ?hv3 ?Kb (.lit (.int .i64 128)) [] ?Pq ?Xr
         case Ka => rfl
         case B7 => exact B8
         case Jn => unfold maxLen; omega
         case LW => rfl
         case hv3 => rfl
         case Kb => exact keyOf_int_mk Tryz.underlying3 (by decide)
         case Pq => exact tx _ (by decide)
         intro w3 B7 hg3
         have sH := ka Pg hg3
         have c0 := sH.c0
         have c1 := sH.c1
         have f0 := sH.f 0
         have f1 := sH.f 1)
      | (at_lookup
         refine wpList_lookup_own_int (H := Unit) _ rfl (.tmp 35) (.tmp 36) 204 rfl 3 3 .i64 mo Tryz.underlying204 Tryz.underlying3 (Da _) ?Xk 3 ?Xu ?Pv ?Ps (.int .i64 3) (.int .i64 3) ?Pl ?Pw ?Xq
         case Pw => exact keyOf_int_mk Tryz.underlying3 (by decide)
         case Pv => rfl
         case Ps => exact B7
         case Pl => rfl
         intro c Fi W9)
      | go_in)
  all_goals clear Jo
  all_goals first | refine pN rfl rfl (xP _ _) ⟨?_, (Below.refl _ _).alloc (Nat.le_refl _) _⟩ | refine pN rfl rfl (xO sH.b) ⟨?_, (sH.o.setCell (Nat.le_refl _) _).setCell (Nat.le_refl _) _⟩
  · exact lO (YU (by omega) (by omega))
  · exact lO (YT (by omega) (by omega))
  · exact lO (YS (by omega))
def Oj (n : Int) (L3 : 0 ≤ n) (xq : n < 4294967296) (w : World) : Calls Tryz.prog 94 #[.int .i64 5, .int .i64 n] w fun e w' => e = .returned (.agg #[.int .i64 (Mp.sized 5 n).1, .int .i64 (Mp.sized 5 n).2]) ∧ Below w.heap.size w w' := by
  have Jo := @run_makeMap Tryz.prog
  go_enter Tryz.func94, Tryz.ntmps94
  go_wp2_with (first
      | (refine db _ rfl (.tmp 34) (.const (.int .i64 4)) (.const (.int .i64 160)) 204 rfl 3 3 mo Tryz.underlying204 (plainElem (H := Unit) Tryz.prog 3) ?vQ 0 ?Xx ?CP ?B9 ?xq (.int .i64 4) (.int .i64 160) (.int .i64 4) ?Jj ?hv1 ?Jr (.lit (.int .i64 160)) [] ?Gl ?NN
         case CP => rfl
         case B9 => exact uj w _
         case xq => unfold maxLen; omega
         case Jj => rfl
         case hv1 => rfl
         case Jr => exact keyOf_int_mk Tryz.underlying3 (by decide)
         case Gl => exact tx _ (by decide)
         intro w1 B9 hg1
         have Ph := ka (rA w) hg1)
      | (refine db _ rfl (.tmp 34) (.const (.int .i64 5)) (.const (.int .i64 144)) 204 rfl 3 3 mo Tryz.underlying204 (plainElem (H := Unit) Tryz.prog 3) ?wX 1 ?Xw ?Gn ?B8 ?wJ (.int .i64 5) (.int .i64 144) (.int .i64 5) ?CN ?hv2 ?ri (.lit (.int .i64 144)) [] ?AV ?Kf
         case Gn => rfl
         case B8 => exact B9
         case wJ => unfold maxLen; omega
         case CN => rfl
         case hv2 => rfl
         case ri => exact keyOf_int_mk Tryz.underlying3 (by decide)
         case AV => exact tx _ (by decide)
         intro w2 B8 hg2
         have Pg := ka Ph hg2)
      | (refine db _ rfl (.tmp 34) (.const (.int .i64 6)) (.const (.int .i64 128)) 204 rfl 3 3 mo Tryz.underlying204 (plainElem (H := Unit) Tryz.prog 3) ?Mc 2 ?Xv ?Ka ?B7 ?Jn (.int .i64 6) (.int .i64 128) (.int .i64 6) ?LW ?hv3 ?Kb (.lit (.int .i64 128)) [] ?Pq ?Xr
         case Ka => rfl
         case B7 => exact B8
         case Jn => unfold maxLen; omega
         case LW => rfl
         case hv3 => rfl
         case Kb => exact keyOf_int_mk Tryz.underlying3 (by decide)
         case Pq => exact tx _ (by decide)
         intro w3 B7 hg3
         have sH := ka Pg hg3
         have c0 := sH.c0
         have c1 := sH.c1
         have f0 := sH.f 0
         have f1 := sH.f 1)
      | (at_lookup
         refine wpList_lookup_own_int (H := Unit) _ rfl (.tmp 35) (.tmp 36) 204 rfl 3 3 .i64 mo Tryz.underlying204 Tryz.underlying3 (Da _) ?Xk 3 ?Xu ?Pv ?Ps (.int .i64 5) (.int .i64 5) ?Pl ?Pw ?Xq
         case Pw => exact keyOf_int_mk Tryz.underlying3 (by decide)
         case Pv => rfl
         case Ps => exact B7
         case Pl => rfl
         intro c Fi W9)
      | go_in)
  all_goals clear Jo
  all_goals first | refine pN rfl rfl (xP _ _) ⟨?_, (Below.refl _ _).alloc (Nat.le_refl _) _⟩ | refine pN rfl rfl (xO sH.b) ⟨?_, (sH.o.setCell (Nat.le_refl _) _).setCell (Nat.le_refl _) _⟩
  · have hc : c = 144 := U6 Fi
    subst hc
    rw [Bz (by omega) (by omega)]
    exact lO (U3 (by omega))
  · exact lO (U2 (by omega) (by omega))
  · exact lO (U1 (by omega))
def RL (n : Int) (L3 : 0 ≤ n) (xq : n < 4294967296) (w : World) : Calls Tryz.prog 94 #[.int .i64 6, .int .i64 n] w fun e w' => e = .returned (.agg #[.int .i64 (Mp.sized 6 n).1, .int .i64 (Mp.sized 6 n).2]) ∧ Below w.heap.size w w' := by
  have Jo := @run_makeMap Tryz.prog
  go_enter Tryz.func94, Tryz.ntmps94
  go_wp2_with (first
      | (refine db _ rfl (.tmp 34) (.const (.int .i64 4)) (.const (.int .i64 160)) 204 rfl 3 3 mo Tryz.underlying204 (plainElem (H := Unit) Tryz.prog 3) ?vQ 0 ?Xx ?CP ?B9 ?xq (.int .i64 4) (.int .i64 160) (.int .i64 4) ?Jj ?hv1 ?Jr (.lit (.int .i64 160)) [] ?Gl ?NN
         case CP => rfl
         case B9 => exact uj w _
         case xq => unfold maxLen; omega
         case Jj => rfl
         case hv1 => rfl
         case Jr => exact keyOf_int_mk Tryz.underlying3 (by decide)
         case Gl => exact tx _ (by decide)
         intro w1 B9 hg1
         have Ph := ka (rA w) hg1)
      | (refine db _ rfl (.tmp 34) (.const (.int .i64 5)) (.const (.int .i64 144)) 204 rfl 3 3 mo Tryz.underlying204 (plainElem (H := Unit) Tryz.prog 3) ?wX 1 ?Xw ?Gn ?B8 ?wJ (.int .i64 5) (.int .i64 144) (.int .i64 5) ?CN ?hv2 ?ri (.lit (.int .i64 144)) [] ?AV ?Kf
         case Gn => rfl
         case B8 => exact B9
         case wJ => unfold maxLen; omega
         case CN => rfl
         case hv2 => rfl
         case ri => exact keyOf_int_mk Tryz.underlying3 (by decide)
         case AV => exact tx _ (by decide)
         intro w2 B8 hg2
         have Pg := ka Ph hg2)
      | (refine db _ rfl (.tmp 34) (.const (.int .i64 6)) (.const (.int .i64 128)) 204 rfl 3 3 mo Tryz.underlying204 (plainElem (H := Unit) Tryz.prog 3) ?Mc 2 ?Xv ?Ka ?B7 ?Jn (.int .i64 6) (.int .i64 128) (.int .i64 6) ?LW ?hv3 ?Kb (.lit (.int .i64 128)) [] ?Pq ?Xr
         case Ka => rfl
         case B7 => exact B8
         case Jn => unfold maxLen; omega
         case LW => rfl
         case hv3 => rfl
         case Kb => exact keyOf_int_mk Tryz.underlying3 (by decide)
         case Pq => exact tx _ (by decide)
         intro w3 B7 hg3
         have sH := ka Pg hg3
         have c0 := sH.c0
         have c1 := sH.c1
         have f0 := sH.f 0
         have f1 := sH.f 1)
      | (at_lookup
         refine wpList_lookup_own_int (H := Unit) _ rfl (.tmp 35) (.tmp 36) 204 rfl 3 3 .i64 mo Tryz.underlying204 Tryz.underlying3 (Da _) ?Xk 3 ?Xu ?Pv ?Ps (.int .i64 6) (.int .i64 6) ?Pl ?Pw ?Xq
         case Pw => exact keyOf_int_mk Tryz.underlying3 (by decide)
         case Pv => rfl
         case Ps => exact B7
         case Pl => rfl
         intro c Fi W9)
      | go_in)
  all_goals clear Jo
  all_goals first | refine pN rfl rfl (xP _ _) ⟨?_, (Below.refl _ _).alloc (Nat.le_refl _) _⟩ | refine pN rfl rfl (xO sH.b) ⟨?_, (sH.o.setCell (Nat.le_refl _) _).setCell (Nat.le_refl _) _⟩
  · have hc : c = 128 := U5 Fi
    subst hc
    rw [Bz (by omega) (by omega)]
    exact lO (U0 (by omega))
  · exact lO (UZ (by omega) (by omega))
  · exact lO (UY (by omega))
def aoO{ee:Errs}:KO ee 94 alx bz:=jd (by kernel_rfl) λti iA w R xs hc ha hR hG=>by
 unfold alx at hc;split at hc
 ·rename_i k n;obtain⟨hp,rfl⟩:=hc;obtain rfl:=kn ha rfl;simp only[ah,aC,Mp.tz]at hp;obtain⟨hk,h0,h1⟩:=hp;have fin:∀{S:Int×Int},Calls PG 94 #[.int .i64 k,.int .i64 n] w (λe w'=>e=.returned (.agg #[.int .i64 S.1,.int .i64 S.2])/\Below w.heap.size w w')->
    Calls PG 94 ⟨[.int .i64 k,.int .i64 n]⟩ w λe w'=>∃x,e=.returned x/\Below w.heap.size w w'/\∀R w',hO R w' [.ag [.i .i64 S.1,.i .i64 S.2]] [x]:=by
   intro S h
   refine h.mono ?_
   rintro e w' ⟨rfl,hb⟩
   exact⟨_,rfl,hb,λR w'=>q9 (.ag (.cons rfl (.sc rfl) (.cons rfl (.sc rfl) .nil)))⟩
  rcases hk with rfl|rfl|rfl|rfl|rfl;{exact fin (KE n h0 h1 w)};{exact fin (Oi n h0 h1 w)};{exact fin (Oj n h0 h1 w)};{exact fin (RL n h0 h1 w)};{exact fin (RM n h0 h1 w)}
 {exact hc.elim}
end Go.Eng
namespace Go.Eng
open Go.IntWalk
theorem On(v:UInt64)(n:Nat):dc (v/256) (8*n)=dc v (8*(n+1)):=by rw[dc,dc,UInt64.toNat_div,show(256:UInt64).toNat=2^8 from rfl,Nat.div_div_eq_div_mul,<-Nat.pow_add,show 8+8*n=8*(n+1) by omega]
theorem lD.wE:∀(n:Nat)(v:UInt64),lD.rK v (n+1)=lD.rK v n++[(dc v (8*n)).toUInt8]
 |0,v=>by have:dc v (8*0)=v:=by{rw[dc];simp};rw[this];rfl
 |n+1,v=>by rw[lD.rK,lD.wE n,lD.rK,On];rfl
theorem lD.oj(v:UInt64)(n:Nat):lD.gE v (n+1)=(dc v (8*n)).toUInt8::lD.gE v n:=by rw[lD.gE,lD.wE,List.reverse_append];rfl
theorem lD.yf:∀(n:Nat)(v:UInt64),(lD.rK v n).length=n
 |0,_=>rfl
 |n+1,v=>by rw[lD.rK,av,lD.yf n]
theorem lD.lg(v:UInt64)(n:Nat):(lD.gE v n).length=n:=by rw[lD.gE,List.length_reverse,lD.yf]
theorem G0(v:UInt64):UInt8.ofInt (v.toNat:Int)=v.toUInt8:=by apply UInt8.toNat_inj.1;rw[Fx,UInt64.toNat_toUInt8]
mutual
theorem bI.mA:∀(ks:List bI),ks.length<=bI.bD ks
 |[]=>Nat.le_refl _
 |k::r=>by
  have h1:=bI.zk k
  have h2:=bI.mA r
  simp only[bI.bD,av];omega
theorem bI.zk:∀(k:bI),1<=bI.bC k
 |.mk _ _ b t ks=>by simp only[bI.bC];omega
end
def bI.sq:∀(ks:List bI)(i:Nat),i<ks.length->bI.bC (ks.getD i (eu.dH .il))<=bI.bD ks
 |[],_,h=>by simp at h
 |k::r,0,_=>by simp only[List.getD_cons_zero,bI.bD];omega
 |k::r,i+1,h=>by have:=bI.sq r i (by simpa using h);simp only[List.getD_cons_succ,bI.bD];omega
theorem bI.qX(it:cm):bI.bC (bI.of it)=1+it.bytes.length+it.text.length+bI.bD it.kids:=by simp only[bI.of,bI.bC]
def BU{α:Type}(l:List α):((l.length:Int)=0)=(l=[]):=by simp
def Ls(m:Nat):((m:Int)<4294967296)=(m<4294967296):=propext (by omega)
def eq0(m:Nat):((m:Int)=0)=(m=0):=propext (by omega)
def aeT(n:Int)(hp:nP (0<=n/\n<=1099511627776)=Qf):aoY n=Bm [.b (nP (n<4294967296))]:=by have h:=ao hp;obtain⟨m,rfl⟩:∃m:Nat,n=m:=⟨n.toNat,by omega⟩;have e:(UInt64.ofInt (m:Int)<4294967296)=((m:Int)<4294967296):=by{rw[aT,uh,show(4294967296:UInt64).toNat=4294967296 from rfl];apply propext;omega};rw[aoX];simp only[e]
theorem Yc(a b:Int)(ok:Bool)(it:cm):WH a b ok it=Bm [.b (ok&&nP (it.n=0)&&nP (b=0)&&nP (it.text=[])&&nP (a=0))]:=by refine ayz _ _ _ _ ?_;intro v1 e1 v2 e2 v3 e3 v4 e4;simp only[aL,bK];rw[e4,e3,e2,e1];cases ok<;>simp[Bool.cond_false_right]
def aiK(it:cm)(hp:nP (bI.bC (bI.of it)<=1099511627776)=Qf):ayC it=Bm [.b (Mp.dV (bI.of it))]:=by have h:=ao hp;rw[bI.qX]at h;have hk:=bI.mA it.kids;obtain⟨k,n,b,t,ks⟩:=it;simp only at h hk;refine ayB _ ?_;intro v1 e1 v2 e2;simp only at e1 e2;have key:∀x4:Bool,x4=nP (k=1\/k=9)->adj v1 v2 Qf k x4 ⟨k,n,b,t,ks⟩=Bm [.b (Mp.dV (bI.of ⟨k,n,b,t,ks⟩))]:=by{intro x4 hx;refine ayA _ _ _ _ _ _ ?_;intro u1 f1 u2 f2 u3 f3 u4 f4 u5 f5;simp only at f1 f4 f5;simp only[aL,bK];subst e1 e2 f1;have hdiv:Int.tdiv (ks.length:Int) 2=((ks.length/2:Nat):Int):=rfl;have Pu:Int.tmod (ks.length:Int) 2=((ks.length%2:Nat):Int):=rfl;rw[hdiv,i64_in _ (by omega)]at f2;simp only[Mp.dV,bI.of];by_cases k1:k=1\/k=9;{rw[hx,aa k1,aj,ar k1,Yc];simp[Bool.decide_and,BU,Bool.and_assoc]};rw[hx,ab k1,ae,ak k1];by_cases k2:k=2;{rw[aa k2,aj,ar k2,Yc];simp[Bool.decide_and,BU,Bool.and_assoc]};rw[ab k2,ae,ak k2];by_cases k3:k=3;{rw[aa k3,aj,ar k3,Yc,bA (aa (by omega))];simp[Bool.decide_and,BU,Ls,Bool.and_assoc]};rw[ab k3,ae,ak k3];by_cases k4:k=4;{rw[aa k4,aj,ar k4,Yc,bA (aa (by omega))];simp[Bool.decide_and,BU,Ls,Bool.and_assoc]};rw[ab k4,ae,ak k4];by_cases k5:k=5;{rw[aa k5,aj,ar k5,Yc,bA (aa (by omega))];simp[Bool.decide_and,BU,Ls,Bool.and_assoc]};rw[ab k5,ae,ak k5];by_cases k6:k=6;{rw[aa k6,aj,ar k6,Yc,Pu];rw[show(nP (0<=u2/\u2<=1099511627776))=Qf from aa (by omega),show(!decide ((2:Int)=0))=Qf from rfl];simp only[Bool.and_true,aL,bK];rw[f3,Pu,f2];simp[Bool.decide_and,BU,Ls,eq0,Bool.and_assoc,Bool.cond_false_right];rw[show nP ((ks.length:Int)%2=0)=nP (ks.length%2=0) from aU.2 (by omega),show nP ((ks.length:Int)/2<4294967296)=nP (ks.length/2<4294967296) from aU.2 (by omega)]};rw[ab k6,ae,ak k6];by_cases k8:k=8;{rw[aa k8,aj,ar k8,Yc,f4];simp[Bool.decide_and,BU,Bool.and_assoc,Bool.cond_false_right]};rw[ab k8,ae,ak k8];by_cases W5:k=10;{rw[aa W5,aj,ar W5,Yc,f5];rw[show(nP (0<=(b.length:Int)/\(b.length:Int)<=1099511627776))=Qf from aa (by omega)];simp only[Bool.and_true,aL,bK];simp[Bool.decide_and,BU,Ls,eq0,Bool.and_assoc,Bool.cond_false_right]};rw[ab W5,ae,ak W5,Yc];simp[Bool.decide_and,BU,Bool.and_assoc]};by_cases k1:k=1;{rw[aa k1,aj];exact key _ (by simp[k1])};{rw[ab k1,ae];exact key _ (by simp[k1])}
theorem Mp.FX(it:cm):Mp.own (bI.of it)=if it.kind<1\/10<it.kind\/it.kind=7 then 5 else if Mp.dV (bI.of it)=Qg then 1 else if fJ.whole it.text then 0 else 4:=by obtain⟨k,n,b,t,ks⟩:=it;simp only[Mp.own,Mp.dV,bI.of];by_cases h0:k<1\/10<k\/k=7;{rw[ar h0,ar h0]};rw[ak h0,ak h0];have hk:k=1\/k=2\/k=3\/k=4\/k=5\/k=6\/k=8\/k=9\/k=10:=by{omega};have l0:∀{α:Type}(l:List α),l=[]->l.length=0:=λl h=>by{rw[h];rfl};rcases hk with rfl|rfl|rfl|rfl|rfl|rfl|rfl|rfl|rfl<;>simp<;>grind
def Mp.CB:∀(ks:List bI)(i:Nat),i<ks.length->Mp.j8 (ks.drop i)=if Mp.kU (ks.getD i (eu.dH .il))=0 then Mp.j8 (ks.drop (i+1))else Mp.kU (ks.getD i (eu.dH .il)):=by intro ks i h;rw[Ua h (eu.dH .il),Mp.j8]
def avz(n:Nat)(ks:List bI)(hb:bI.bD ks<=1099511627776)(hn:bI.bD ks<n):∀(m i:Nat),i+m=ks.length->aa3 n ks (ks.length:Int) i=Bm [.i .i64 (Mp.j8 (ks.drop i))]:=by
 have hk:=bI.mA ks;intro m;induction m with
 |zero=>intro i hi;refine aka _ _ _ _ ?_;intro v1 e1 v2 e2;rw[ab (by omega),ae,aD (by omega)];rfl
 |succ m ih=>intro i hi;refine aka _ _ _ _ ?_;intro v1 e1 v2 e2;have pG:i<ks.length:=by{omega};have lu:=bI.sq ks i pG;rw[aq,bI.cq]at e1;rw[aa (by omega),aj,bA (ez (by omega) (by omega)),aq,bI.cq,bA (by rw[aa (by omega),aa (by omega)];rfl),Mp.CB ks i pG,<-e1];by_cases a:v1=0;{rw[aa a,aF,ae,ar a,show v2=((i+1:Nat):Int) by rw[e2,i64_in _ (by omega)];omega,ih _ (by omega)]};{rw[ab a,aH,aj,ak a]}
theorem Mp.CC(it:cm):Mp.kU (bI.of it)=if Mp.own (bI.of it)=0 then Mp.j8 it.kids else Mp.own (bI.of it):=by rw[bI.of,Mp.kU]
def ahF(n:Nat)(it:cm)(hp:((nP (bI.bC (bI.of it)<=1099511627776))&&nP ((bI.bC (bI.of it))<n+1))=Qf):avB n it=Bm [.i .i64 (Mp.kU (bI.of it))]:=by
 simp only[ah,aC]at hp;obtain⟨h,hn⟩:=hp;rw[bI.qX]at h hn;refine avA _ _ ?_;intro v1 e1 v2 e2 v3 e3 v4 e4 v5 e5;simp only[aL,bn,bK];rw[bA (aa (by rw[bI.qX];omega)),bA (sL (by omega)),bA (aa (by omega)),e5,e4];have hl:=avz n it.kids (by omega) (by omega) it.kids.length 0 (by omega);rw[show aa3 n it.kids (it.kids.length:Int) 0=Bm [.i .i64 (Mp.j8 it.kids)] from hl,Mp.CC,Mp.FX];have hv:v2=nP (it.kind<1\/10<it.kind\/it.kind=7):=by{rw[e2,e1];by_cases a:it.kind<1<;>by_cases b:10<it.kind<;>by_cases c:it.kind=7<;>simp[a,b,c]};rw[hv];by_cases h0:it.kind<1\/10<it.kind\/it.kind=7;{rw[aa h0,aj,ar h0];rfl};rw[ab h0,ae,ak h0];cases hf:Mp.dV (bI.of it)with
 |false=>rfl
 |true=>cases hw:fJ.whole it.text<;>rfl
def agd(n:UInt64):ar1 n=Bm [.ag [.i .i64 (Mp.kj n).1,.i .i64 (Mp.kj n).2]]:=by refine ar0 _ ?_;intro v1 e1;unfold Mp.kj;by_cases a:n<128;{rw[aa a,aj,ar a,e1,i64_in _ (by have:=aT.1 a;simp at this;omega)]};rw[ab a,ae,ak a];by_cases a:n<256;{rw[aa a,aj,ar a]};rw[ab a,ae,ak a];by_cases a:n<65536;{rw[aa a,aj,ar a]};rw[ab a,ae,ak a];by_cases a:n<4294967296;{rw[aa a,aj,ar a]};rw[ab a,ae,ak a]
def afO(n:UInt64):arc n=Bm [.ag [.i .i64 (Mp.signed n).1,.i .i64 (Mp.signed n).2]]:=by refine arb _ ?_;intro v1 e1 v2 e2;unfold Mp.signed;by_cases a:n<32;{have:=aT.1 a;simp at this;rw[aa a,aj,ar a,e2,e1,i64_in (n.toNat:Int) (by omega),i64_in _ (by omega)]};rw[ab a,ae,ak a];by_cases a:n<128;{rw[aa a,aj,ar a]};rw[ab a,ae,ak a];by_cases a:n<32768;{rw[aa a,aj,ar a]};rw[ab a,ae,ak a];by_cases a:n<2147483648;{rw[aa a,aj,ar a]};rw[ab a,ae,ak a]
def M7(a:Bool):(!a||a)=Qf:=by cases a<;>rfl
def age(n:Int):ar3 n=Bm [.b (nP (1<=n/\n<=8))]:=by refine ar2 _ ?_;intro v1 h1;rw[bA (M7 _),bA (M7 _),h1,Bool.decide_and];cases nP (1<=n)<;>rfl
namespace Bs
theorem Y5(i:Nat):2^(8*i)=256^i:=by rw[Nat.pow_mul]
end Bs
def afQ:arj=Bm [.ag [.pt],.sl .bs []]:=ari
def agJ(v:Int)(b:List UInt8)(hp:nP (b.length<=1099511627776)=Qf):as6 v b=Bm [.ag [.pt],.sl .bs (b++[UInt8.ofInt v])]:=by have hp:=ao hp;refine as5 _ _ ?_;intro v1 h1;rw[h1,bA (dD (by simp;omega) (by simp;omega))]
def afH(x b:List UInt8)(hp:nP (b.length+x.length<=2199023255552)=Qf):aqS x b=Bm [.ag [.pt],.sl .bs (b++x)]:=by have hp:=ao hp;rw[aqR,bA (dD (by omega) (by omega))]
theorem Bs.byte_at(v:UInt64)(i:Nat):UInt8.ofInt ((dc v (8*i)).toNat:Int)=UInt8.ofNat (v.toNat/256^i%256):=by have h1:(dc v (8*i)).toNat=v.toNat/256^i:=by{unfold dc;rw[UInt64.toNat_ofNat',Bs.Y5];exact Nat.mod_eq_of_lt (Nat.lt_of_le_of_lt (Nat.div_le_self _ _) v.toNat_lt)};rw[h1];refine UInt8.toNat_inj.1 ?_;have h2:=ug ((v.toNat/256^i:Nat):Int);rw[Ud]at h2;rw[UInt8.toNat_ofNat'];omega
theorem ajI(v:UInt64)(n:Nat)(hn:n<=8)(h1n:1<=n):∀(m i:Nat)(b:List UInt8),i+m=n->b.length<=1099511627776+i->aaS v (n:Int) (i:Int) b=Bm [.ag [.pt],.sl .bs (b++Bs.mc m (v.toNat/256^i))]
 |0,i,b,hi,hb=>by refine ajJ _ _ _ _ ?_;intro v1 h1 v2 h2 v3 h3 v4 h4;rw[aa (show(1:Int)<=n/\(n:Int)<=8 by omega),aj,ab (by omega)]at h1;rw[aa (show(1:Int)<=n/\(n:Int)<=8 by omega),h1,Bs.mc,aR];rfl
 |m+1,i,b,hi,hb=>by refine ajJ _ _ _ _ ?_;intro v1 h1 v2 h2 v3 h3 v4 h4;rw[aa (show(1:Int)<=n/\(n:Int)<=8 by omega),aj,aa (by omega)]at h1;have e2:v2=((8*i:Nat):Int):=by{rw[h2,i64_in _ (by omega)];omega};have e4:v4=((i+1:Nat):Int):=by{rw[h4,i64_in _ (by omega)];omega};rw[e2,aq,Bs.byte_at]at h3;rw[aa (show(1:Int)<=n/\(n:Int)<=8 by omega),h1];refine Eq.trans (b:=ck (nP (0<=v2)) (ck (dU (b.length+[v3].length) 1) (aaS v n v4 (b++[v3])))) rfl ?_;rw[bA (aa (by omega)),bA (dD (by simp;omega) (by simp;omega)),e4,ajI v n hn h1n m (i+1) _ (by omega) (by simp;omega),h3,Bs.mc,aB,Nat.div_div_eq_div_mul,<-Nat.pow_succ];rfl
def ag6(v:UInt64)(n:Int)(b:List UInt8)(hp:nP (1<=n/\n<=8/\b.length<=1099511627776)=Qf):atY v n b=Bm [.ag [.pt],.sl .bs (b++Bs.mc n.toNat v.toNat)]:=by obtain⟨h1,h2,h3⟩:=ao hp;obtain⟨k,rfl⟩:∃k:Nat,n=(k:Int):=⟨n.toNat,by omega⟩;have:=ajI v k (by omega) (by omega) k 0 b (by omega) (by omega);rw[atX,aq];simpa using this
theorem Bs.gY:∀n v,(Bs.mc n v).length=n
 |0,_=>rfl
 |n+1,v=>by rw[Bs.mc,av,Bs.gY n]
def Bs.Hz:∀(n v i:Nat),i<n->(Bs.mc n v)[i]?=Bm (UInt8.ofNat (v/256^i%256))
 |n+1,v,0,_=>by simp[Bs.mc]
 |n+1,v,i+1,h=>by rw[Bs.mc,List.getElem?_cons_succ,Bs.Hz n (v/256) i (by omega),Nat.div_div_eq_div_mul,Nat.pow_succ']
def Bs.KT{b x:bE}{a:Nat}(h:a+x.length<=b.length):(Bs.rD b a x).length=b.length:=by unfold Bs.rD;simp only[af,aJ,aZ];omega
theorem ajD(v:UInt64)(n a:Nat)(hn:n<=8)(b:List UInt8)(hb:a+n<=b.length)(hl:b.length<=2199023255552):∀(m i:Nat),i+m=n->aaM (a:Int) v (n:Int) (i:Int) (Bs.rD b a ((Bs.mc n v.toNat).take i))=Bm [.b Qf,.ag [.pt],.sl .bs (Bs.rD b a (Bs.mc n v.toNat))]
 |0,i,hi=>by refine ajE _ _ _ _ _ ?_;intro v1 h1 v2 h2 v3 h3 v4 h4;rw[ab (by omega),ae,List.take_of_length_le (by rw[Bs.gY];omega)]
 |m+1,i,hi=>by
  refine ajE _ _ _ _ _ ?_;intro v1 h1 v2 h2 v3 h3 v4 h4;have e1:v1=((8*i:Nat):Int):=by{rw[h1,i64_in _ (by omega)];omega};have e3:IntKind.i64.wrap ((a:Int)+i)=((a+i:Nat):Int):=by{rw[i64_in _ (by omega)];omega};have e4:v4=((i+1:Nat):Int):=by{rw[h4,i64_in _ (by omega)];omega};rw[e1,aq,Bs.byte_at]at h2;rw[e3,aq]at h3;have NI:((Bs.mc n v.toNat).take i).length=i:=by{rw[aJ,Bs.gY];omega};have hs:(Bs.rD b a ((Bs.mc n v.toNat).take i)).length=b.length:=Bs.KT (by rw[NI];omega);have step:(Bs.rD b a ((Bs.mc n v.toNat).take i)).set v3 v2=Bs.rD b a ((Bs.mc n v.toNat).take (i+1)):=by
   rw[h3,h2,List.take_add_one,Bs.Hz n _ i (by omega)];unfold Bs.rD;have ht:(b.take a).length=a:=by{rw[aJ];omega};rw[List.set_append_right _ _ (by rw[ht];omega),ht,Nat.add_sub_cancel_left,List.set_append_right _ _ (by rw[NI];omega),NI,Nat.sub_self];obtain⟨c,r,hd⟩:∃c r,b.drop (a+i)=c::r:=by
    cases h:b.drop (a+i)with
    |nil=>have:=congrArg List.length h;rw[aZ]at this;simp at this;omega
    |cons c r=>exact⟨c,r,rfl⟩
   have hd2:b.drop (a+(i+1))=r:=by{have:=congrArg (List.drop 1) hd;rw[List.drop_drop]at this;simpa[Nat.add_assoc]using this};rw[hd,List.set_cons_zero,af,NI,Option.toList_some,aw,hd2,aB];rfl
  rw[aa (by omega),aj,bA (aa (by omega)),e3,hs,bA (ez (by omega) (by omega)),bA (aa (by omega)),step,e4];exact ajD v n a hn b hb hl m (i+1) (by omega)
def agU(at_:Int)(v:UInt64)(n:Int)(b:List UInt8)(hp:nP (1<=n/\n<=8/\0<=at_/\at_+n<=(b.length:Int)/\b.length<=2199023255552)=Qf):aty at_ v n b=Bm [.b Qf,.ag [.pt],.sl .bs (Bs.rD b at_.toNat (Bs.mc n.toNat v.toNat))]:=by obtain⟨h1,h2,h3,h4,h5⟩:=ao hp;obtain⟨k,rfl⟩:∃k:Nat,n=(k:Int):=⟨n.toNat,by omega⟩;obtain⟨a,rfl⟩:∃k:Nat,at_=(k:Int):=⟨at_.toNat,by omega⟩;refine atx _ _ _ _ ?_;intro v1 e1 v2 e2 v3 e3 v4 e4;have q:nP ((1:Int)<=k/\(k:Int)<=8)=Qf:=aa ⟨h1,h2⟩;rw[q]at e1 e2⊢;have e1:v1=Qf:=e1;rw[aF,ae,ab (by omega)]at e2;rw[i64_in _ (by omega)]at e3;rw[e2,ae,ab (by omega)]at e4;rw[e1,e2,e4];refine Eq.trans (b:=aaM (a:Int) v (k:Int) (0:Int) b) rfl ?_;have:=ajD v k a (by omega) b (by omega) (by omega) k 0 (by omega);rw[List.take_zero,show Bs.rD b a []=b by unfold Bs.rD;simp]at this;exact this
def afk(b:List UInt8):ap4 b=Bm [.i .i64 (b.length:Int),.ag [.pt],.sl .bs b]:=ap3 b
def ag9(w:Bk)(hp:nP (w.b.length<=2199023255552)=Qf):at7 w=Bm [.sl .bs w.b,.ag (Bk.cells w)]:=by have hp:=ao hp;rw[at6,bA (dD (by omega) (by omega))]
def Mp.Y6(it:cm)(h:Mp.own (bI.of it)=0):(1<=it.kind/\it.kind<=10/\it.kind≠7)/\(it.kind=3\/it.kind=4\/it.kind=5\/it.kind=6->it.n=0)/\(it.kind≠3->it.kind≠10->it.bytes=[])/\(it.kind≠4->it.text=[])/\(it.kind≠5->it.kind≠6->it.kids=[])/\(it.kind=2->it.n<9223372036854775808)/\(it.kind=8->20<=it.n/\it.n<=22)/\(it.kind=10->it.n<=127)/\(it.kind=6->it.kids.length%2=0)/\it.bytes.length<4294967296/\it.text.length<4294967296/\(it.kind=5->it.kids.length<4294967296)/\it.kids.length/2<4294967296/\fJ.whole it.text=Qf:=by obtain⟨k,n,b,t,ks⟩:=it;simp only[Mp.own,bI.of]at h;simp only;by_cases h1:k<1\/10<k\/k=7;{rw[ar h1]at h;cases h};rw[ak h1]at h;split at h;{cases h};rename_i h2;split at h;{cases h};rename_i h3;split at h;{cases h};rename_i h4;split at h;{cases h};rename_i h5;split at h;{rename_i h6;refine⟨by omega,?_,?_,?_,?_,?_,?_,?_,?_,by omega,by omega,?_,by omega,h6⟩<;>grind};{cases h}
def lD.lR(v:UInt64)(n:Int):(lD.high v n).length<=8:=by unfold lD.high;split;{rw[lD.lg];omega};{simp}
def Mp.BH(f:Int×Int)(n:UInt64):(Mp.put f n).length<=9:=by have:=lD.lR n f.2;simp only[Mp.put,av];omega
def Mp.se(it:bI):(Mp.head it).length<=10:=by obtain⟨k,n,b,t,ks⟩:=it;unfold Mp.head;(repeat' split);(all_goals first|exact Nat.le_succ_of_le (Mp.BH _ _)|skip);{simp};{simp};{simp};{rw[af,aw];exact Nat.succ_le_succ (Mp.BH _ _)}
mutual
theorem Mp.qO:∀(it:bI),(Mp.lay it).length<=16*bI.bC it
 |.mk k n b t ks=>by
  have h1:=Mp.se (.mk k n b t ks)
  have h2:=Mp.rW ks
  simp only[Mp.lay,bI.bC,af];omega
theorem Mp.rW:∀(ks:List bI),(Mp.kW ks).length<=16*bI.bD ks
 |[]=>Nat.zero_le _
 |k::r=>by
  have h1:=Mp.qO k
  have h2:=Mp.rW r
  simp only[Mp.kW,bI.bD,af];omega
end
def Mp.wm{k:bI}{r:List bI}(h:Mp.j8 (k::r)=0):Mp.kU k=0/\Mp.j8 r=0:=by rw[Mp.j8]at h;split at h;{exact⟨by assumption,h⟩};{rename_i h';exact(h' h).elim}
def bI.zj:∀(ks:List bI)(i:Nat),i<ks.length->bI.bD (ks.drop i)=bI.bC (ks.getD i (eu.dH .il))+bI.bD (ks.drop (i+1)):=by intro ks i h;rw[Ua h (eu.dH .il),bI.bD]
theorem ajY(v:UInt64)(n:Int)(hn:1<=n/\n<=8):∀(k:Nat)(b:List UInt8),k<=8->b.length+k<=1099511627786->ach v n ((k:Int) -1) b=Bm [.ag [.pt],.sl .bs (b++lD.gE v k)]
 |0,b,_,_=>by refine aem _ _ _ _ ?_;intro v1 e1 v2 e2 v3 e3 v4 e4;simp only[aL,bK];rw[e1,aa hn,aj,ab (by omega),ae,show lD.gE v 0=[] from rfl,aR]
 |k+1,b,hk,hw=>by refine aem _ _ _ _ ?_;intro v1 e1 v2 e2 v3 e3 v4 e4;simp only[aL,bK];have e2':v2=((8*k:Nat):Int):=by{rw[e2,i64_in _ (by omega)];omega};rw[e1,aa hn,aj,aa (by omega),aj,bA (aa (by omega)),bA (dD (by simp;omega) (by simp;omega))];rw[show v4=(k:Int) -1 by rw[e4,i64_in _ (by omega)];omega,ajY v n hn k _ (by omega) (by simp;omega),e3,e2',aq,G0,lD.oj,aB];rfl
def ahp(v:UInt64)(n:Int)(b:List UInt8)(hp:nP (b.length<=1099511627776)=Qf):auV v n b=Bm [.ag [.pt],.sl .bs (b++lD.high v n)]:=by have h:=ao hp;refine auU _ _ _ ?_;intro v1 e1;by_cases hn:1<=n/\n<=8;{rw[show v1=((n.toNat:Nat):Int) -1 by rw[e1,i64_in _ (by omega)];omega,ajY v n hn _ _ (by omega) (by omega),lD.high,ar hn]};{refine aem _ _ _ _ ?_;intro u1 f1 u2 f2 u3 f3 u4 f4;simp only[aL,bK];rw[f1,ab hn,ae,ae,lD.high,ak hn,aR]}
def aeZ(f:wS)(n:UInt64)(b:List UInt8)(hp:nP (b.length+10<=1099511627776)=Qf):aph f n b=Bm [.ag [.pt],.sl .bs (b++Mp.put (f.at_,f.end_) n)]:=by have h:=ao hp;refine apg _ _ _ ?_;intro v1 e1 v2 e2;rw[bA (aa (by omega)),e2,e1,bA (aa (by simp;omega))];simp[Mp.put]
def avh(n:Nat)(ks:List bI)(hn:bI.bD ks<n)(NJ:ks.length<=1099511627776):∀(m i:Nat)(w:List UInt8),i+m=ks.length->w.length+16*bI.bD (ks.drop i)<=1099511627776->Mp.j8 (ks.drop i)=0->aco n ks (ks.length:Int) i w=Bm [.ag [.pt],.sl .bs (w++Mp.kW (ks.drop i))]:=by
 have hk:=bI.mA ks;intro m;induction m with
 |zero=>intro i w hi _ _;refine aj3 _ _ _ _ _ ?_;intro v1 e1 v2 e2;rw[ab (by omega),ae,aD (by omega),show Mp.kW []=[] from rfl,aR]
 |succ m ih=>intro i w hi hw hc;refine aj3 _ _ _ _ _ ?_;intro v1 e1 v2 e2;have pG:i<ks.length:=by{omega};have lu:=bI.sq ks i pG;have hd:=bI.zj ks i pG;rw[Ua pG (eu.dH .il)]at hc;obtain⟨c1,c2⟩:=Mp.wm hc;have hl:=Mp.qO (ks.getD i (eu.dH .il));rw[aq,bI.cq]at e1;rw[aa (by omega),aj,bA (ez (by omega) (by omega)),aq,bI.cq,bA (by rw[aa (by omega),aa c1,aa (by omega)];rfl),show v2=((i+1:Nat):Int) by rw[e2,i64_in _ (by omega)];omega,ih _ _ (by omega) (by rw[e1];simp only[af];omega) c2,e1,Ua pG (eu.dH .il),Mp.kW];simp
def avj(n:Nat)(it:cm)(w:List UInt8)(hn:bI.bD it.kids<n)(NJ:it.kids.length<=1099511627776)(hw:w.length+16*bI.bD it.kids<=1099511627776)(hc:Mp.j8 it.kids=0):WE n it w=Bm [.ag [.pt],.sl .bs (w++Mp.kW it.kids)]:=by refine avi _ _ _ ?_;intro v1 e1;subst e1;exact avh n it.kids hn NJ it.kids.length 0 w (by omega) hw hc
theorem Mp.F9(it:cm):Mp.lay (bI.of it)=Mp.head (bI.of it)++it.bytes++it.text++Mp.kW it.kids:=by rw[bI.of,Mp.lay]
def Mp.TK(it:cm)(h:Mp.kU (bI.of it)=0):Mp.own (bI.of it)=0/\Mp.j8 it.kids=0:=by rw[Mp.CC]at h;split at h;{exact⟨by assumption,h⟩};{rename_i h';exact(h' h).elim}
theorem mF(n:Nat):UInt64.ofInt (n:Int)=UInt64.ofNat n:=by apply aY.1;rw[uh,UInt64.toNat_ofNat']
def Yu(v:UInt64)(h:v.toNat<9223372036854775808):UInt8.ofInt (IntKind.i64.wrap (v.toNat:Int))=v.toUInt8:=by rw[i64_in _ (by omega),G0]
def ahz(n:Nat)(it:cm)(w:List UInt8)(hp:((nP (w.length+16*bI.bC (bI.of it)<=1099511627776)&&nP (Mp.kU (bI.of it)=0))&&nP ((bI.bC (bI.of it))<n+1))=Qf):avl n it w=Bm [.ag [.pt],.sl .bs (w++Mp.lay (bI.of it))]:=by simp only[ah,aC]at hp;obtain⟨⟨hw,hc⟩,hn⟩:=hp;obtain⟨ho,sV⟩:=Mp.TK it hc;obtain⟨p1,p2,p3,p4,p5,p6,p7,p8,p9,p10,p11,p12,p13,p14⟩:=Mp.Y6 it ho;rw[bI.qX]at hw hn;have hk:=bI.mA it.kids;have J:=λ(w':List UInt8)(h':w'.length<=w.length+16+it.bytes.length+it.text.length)=>avj n it w' (by omega) (by omega) (by omega) sV;rw[Mp.F9];obtain⟨k,u,b,t,ks⟩:=it;simp only at p1 p2 p3 p4 p5 p6 p7 p8 p9 p10 p11 p12 p13 p14 hw hn hk J⊢;refine avk _ _ _ ?_;intro v1 e1 v2 e2 v3 e3 v4 e4 v5 e5 v6 e6 v7 e7 v8 e8 v9 e9 v10 y8 v11 H2 v12 Ct jQ EC iW zV jb PQ lU Q3 sQ UC s9 Tw pn Q2 v20 e20 v21 X3 v22 e22;simp only at e1 e2 e3 e4 e5 e6 e7 e8 e9 y8 H2 Ct EC zV PQ Q3 UC Tw Q2 e20 X3 e22⊢;have L:=λf m=>Mp.BH f m;have SS:k=1\/k=2\/k=3\/k=4\/k=5\/k=6\/k=8\/k=9\/k=10:=by{omega};have c10:nP (w.length+10<=1099511627776)=Qf:=aa (by omega);rcases SS with rfl|rfl|rfl|rfl|rfl|rfl|rfl|rfl|rfl;(all_goals simp only[Int.reduceEq,decide_true,decide_false,aj,ae,c10,bK,aH]);{have h3:=p3 (by decide) (by decide);have h4:=p4 (by decide);subst h3 h4;have:=L ((Mp.kj u).1,(Mp.kj u).2) u;rw[J v1 (by rw[e1];simp only[af];omega),e1];simp[bI.of,Mp.head]};{have h3:=p3 (by decide) (by decide);have h4:=p4 (by decide);subst h3 h4;have:=L ((Mp.signed u).1,(Mp.signed u).2) (~~~u);rw[J v2 (by rw[e2];simp only[af];omega),e2];simp[bI.of,Mp.head]};{have h4:=p4 (by decide);subst h4;have:=L (v10,v11) (UInt64.ofInt v9);rw[bA (by rw[aa (by omega)];rfl),bA (aa (by rw[Ct];simp only[af];omega)),J (v12++b) (by rw[Ct];simp only[af];omega),Ct,y8,H2,e9,mF];simp[bI.of,Mp.head]};{have h3:=p3 (by decide) (by decide);subst h3;have:=L (v6,v7) (UInt64.ofInt v5);rw[bA (by rw[aa (by omega)];rfl),bA (sL (by omega)),bA (aa (by rw[e8];simp only[af];omega)),J (v8++t) (by rw[e8];simp only[af];omega),e8,e6,e7,e5,mF];simp[bI.of,Mp.head]};{have h3:=p3 (by decide) (by decide);have h4:=p4 (by decide);subst h3 h4;have:=p12 rfl;have:=L (lU,sQ) (UInt64.ofInt jb);rw[bA (by rw[aa (by omega)];rfl),J s9 (by rw[Tw];simp only[af];omega),Tw,Q3,UC,PQ,mF];simp[bI.of,Mp.head]};{have h3:=p3 (by decide) (by decide);have h4:=p4 (by decide);subst h3 h4;have e19':pn=((ks.length/2:Nat):Int):=by{rw[Q2,PQ,show Int.tdiv (ks.length:Int) 2=((ks.length/2:Nat):Int) from rfl,i64_in _ (by omega)]};have:=L (v20,v21) (UInt64.ofInt pn);rw[bA (by rw[aa (by omega)];rfl),J v22 (by rw[e22];simp only[af];omega),e22,e20,X3,e19',mF];simp[bI.of,Mp.head]};{have h3:=p3 (by decide) (by decide);have h4:=p4 (by decide);subst h3 h4;obtain⟨q1,q2⟩:=p7 rfl;have hu:u=20\/u=21\/u=22:=by{have a:=aK.1 q1;have b:=aK.1 q2;simp at a b;have:u.toNat=20\/u.toNat=21\/u.toNat=22:=by{omega};rcases this with h|h|h;{exact .inl (aY.1 h)};{exact .inr (.inl (aY.1 h))};{exact .inr (.inr (aY.1 h))}};rw[bA (by rcases hu with rfl|rfl|rfl<;>rfl),bA (aa (by omega)),J (w++[UInt8.ofInt v3]) (by simp),e3];rcases hu with rfl|rfl|rfl<;>simp[bI.of,Mp.head]<;>rfl};{have h3:=p3 (by decide) (by decide);have h4:=p4 (by decide);subst h3 h4;have:=L (203,8) u;rw[J v4 (by rw[e4];simp only[af];omega),e4];simp[bI.of,Mp.head]};{have h4:=p4 (by decide);subst h4;have h8:=aK.1 (p8 rfl);simp at h8;have:=L (v10,v11) (UInt64.ofInt v9);have l12:v12.length<=w.length+9:=by{rw[Ct];simp only[af];omega};rw[bA (by rw[aa (by omega)];rfl),bA (aa (by omega)),bA (aa (by simp only[af,aw];omega)),J iW (by rw[zV];simp only[af,aw];omega),zV,Ct,EC,Yu _ (by omega),y8,H2,e9,mF];simp[bI.of,Mp.head]}
def agf(it:cm)(hp:nP (bI.bC (bI.of it)<=1073741824)=Qf):ar5 it=Bm [.sl .bs (Mp.enc (bI.of it)),.i .i64 (Mp.kU (bI.of it))]:=by have h:=ao hp;refine ar4 _ ?_;intro v1 e1;have hl:=Mp.qO (bI.of it);rw[bA (aa (by omega)),Mp.enc];by_cases a:Mp.kU (bI.of it)=0;{rw[aa a,aF,ae,ar a,bA (by rw[aa (by simp only[ay];omega)];rfl),bA (aa (show v1.length<=_ by rw[e1];simp only[bh];omega)),e1,a];rfl};{rw[ab a,aH,aj,ak a]}
def Mp.OG(f:Int×Int)(n:UInt64):1<=(Mp.put f n).length:=by simp[Mp.put]
def Mp.yQ(it:bI):1<=(Mp.head it).length:=by obtain⟨k,n,b,t,ks⟩:=it;unfold Mp.head;(repeat' split);all_goals first|exact Mp.OG _ _|simp
mutual
theorem Mp.EU:∀(it:bI),bI.bC it<=(Mp.lay it).length
 |.mk k n b t ks=>by
  have h1:=Mp.yQ (.mk k n b t ks)
  have h2:=Mp.zi ks
  simp only[Mp.lay,bI.bC,af];omega
theorem Mp.zi:∀(ks:List bI),bI.bD ks<=(Mp.kW ks).length
 |[]=>Nat.zero_le _
 |k::r=>by
  have h1:=Mp.EU k
  have h2:=Mp.zi r
  simp only[Mp.kW,bI.bD,af];omega
end
def Mp.rX(it:bI):(Mp.lay it).length<=10+it.bytes.length+it.text.length+(Mp.kW it.kids).length/\1+it.bytes.length+it.text.length+(Mp.kW it.kids).length<=(Mp.lay it).length:=by obtain⟨k,n,b,t,ks⟩:=it;have h1:=Mp.se (.mk k n b t ks);have h2:=Mp.yQ (.mk k n b t ks);simp only[Mp.lay,bI.bytes,bI.text,bI.kids,af];omega
namespace Tree
theorem qk{f:bB}{r:List bB}:kN (f::r)=Qf↔pk f=Qf/\kN r=Qf:=by rw[kN,ah]
mutual
theorem yY:∀(f:bB)(p:List Int),(gw f p).2=0↔pk f=Qf
 |.mk n k b h l t m s y ks,p=>by
  rw[gw,pk,ah,aC]
  by_cases a:qH ⟨k,b,h,l,t,m,s,y,ks⟩ n=0
  ·rw[ak (by simpa using a),A1 ks 0 p]
   exact⟨fun h=>⟨a,h⟩,fun h=>h.2⟩
  ·rw[ar a]
   exact⟨fun h=>absurd h a,fun h=>absurd h.1 a⟩
theorem A1:∀(l:List bB)(i:Nat)(p:List Int),(mf l i p).2=0↔kN l=Qf
 |[],i,p=>by rw[mf,kN];exact⟨fun _=>rfl,fun _=>rfl⟩
 |f::r,i,p=>by
  rw[mf,qk]
  by_cases a:(gw f (p++[(i:Int)])).2=0
  ·rw[ak (by simpa using a),A1 r (i+1) p]
   exact⟨fun h=>⟨(yY f _).1 a,h⟩,fun h=>h.2⟩
  ·rw[ar a]
   exact⟨fun h=>absurd h a,fun h=>absurd ((yY f _).2 h.1) a⟩
end
def DB{v:Val}{n:bE}(h:qH v n=0):own v=0/\fJ.whole n=Qf/\fJ.zero n=Qg:=by unfold qH at h;by_cases a:own v=0;{rw[ak (by simpa using a)]at h;refine⟨a,?_⟩;by_cases b:gP n Qf=Qg;{rw[ar b]at h;cases h};{simp only[Bool.not_eq_false]at b;unfold gP at b;simpa using b}};{rw[ar a]at h;exact absurd h a}
def K9{v:Val}{n:bE}(h:own v=0)(hn:fJ.whole n=Qf/\fJ.zero n=Qg):qH v n=0:=by unfold qH;rw[ak (by simpa using h),ak (by unfold gP;rw[hn.1,hn.2];decide)]
def pI(n:bE)(v:Val):pk (bB.of n v)=Qf↔own v=0/\(fJ.whole n=Qf/\fJ.zero n=Qg)/\kN v.kids=Qf:=by obtain⟨k,b,h,l,t,m,s,y,ks⟩:=v;rw[bB.of,pk,ah,aC];exact⟨λh=>⟨(DB h.1).1,(DB h.1).2,h.2⟩,λh=>⟨K9 h.1 h.2.1,h.2.2⟩⟩
def Mq{n:bE}{v:Val}(h:pk (bB.of n v)=Qf):pk (bB.of [] v)=Qf:=by have:=(pI n v).1 h;exact(pI [] v).2 ⟨this.1,⟨by decide,by decide⟩,this.2.2⟩
def Ew(f:bB)(h:pk f=Qf):pk (bB.of [] f.val)=Qf:=by
 cases f with
 |mk n k b hh l t m s y ks=>exact Mq (n:=n) h
end Tree
namespace Dk
theorem B1(n:bE)(v:Val):item (bB.of n v)=np v (mapped v.kids) (items v.kids):=by cases v;rfl
def AO(v:Val)(m:bE):(inner v m).length<=16+v.text.length+v.more.length+v.bytes.length+m.length:=by unfold inner;(repeat' split);all_goals first|omega|(simp only[af,av,ay,lD.lg,Db.words];omega)|exact Nat.zero_le _
def D8(x:Int):(Mp.lay (Db.integer x)).length<=10:=by unfold Db.integer;split;{exact(Mp.rX _).1};{exact(Mp.rX _).1}
def sE(m:List bI):(Mp.lay (Db.map m)).length<=10+(Mp.kW m).length:=by have:=(Mp.rX (Db.map m)).1;simpa[Db.map,bI.bytes,bI.text,bI.kids]using this
def Gd(v:Val)(m l:List bI):(Mp.lay (np v m l)).length<=40+v.text.length+v.more.length+v.bytes.length+max (Mp.kW m).length (Mp.kW l).length:=by have h1:=sE m;have h2:=AO v (Mp.lay (Db.map m));have h3:=D8 (Db.i32 v.bits);unfold np;(repeat' split);(all_goals first|omega|skip);(all_goals refine Nat.le_trans (Mp.rX _).1 ?_);(all_goals simp only[Db.text,Db.list,Db.raw,Db.simple,ext,bI.bytes,bI.text,bI.kids,ay,Mp.kW]);all_goals omega
mutual
theorem D4:∀f:bB,(Mp.lay (item f)).length+20+f.name.length<=64*bB.bC f
 |.mk n k b h lo t m s y ks=>by
  have h1:=oK ks
  have h2:=AL ks
  have h3:=Gd ⟨k,b,h,lo,t,m,s,y,ks⟩ (mapped ks) (items ks)
  simp only[item,bB.bC,bB.name]at h3⊢
  omega
theorem oK:∀l:List bB,(Mp.kW (mapped l)).length<=64*bB.bD l
 |[]=>Nat.zero_le _
 |f::r=>by
  have h1:=D4 f
  have h2:=oK r
  have h3:=(Mp.rX (Db.text f.name)).1
  simp only[Db.text,bI.bytes,bI.text,bI.kids,Mp.kW,ay]at h3
  simp only[mapped,Mp.kW,bB.bD,af,Db.text];omega
theorem AL:∀l:List bB,(Mp.kW (items l)).length<=64*bB.bD l
 |[]=>Nat.zero_le _
 |f::r=>by
  have h1:=D4 f
  have h2:=AL r
  simp only[items,Mp.kW,bB.bD,af];omega
end
def DK(l:List bB):bI.bC (Db.map (mapped l))<=64*bB.bD l+10:=by have h1:=oK l;have h2:=Mp.EU (Db.map (mapped l));have h3:=sE (mapped l);omega
theorem oJ:∀l:List bB,(mapped l).length=2*l.length
 |[]=>rfl
 |f::r=>by rw[mapped,av,av,oJ r,av];omega
theorem sF:∀l:List bB,l.length<=bB.bD l
 |[]=>Nat.zero_le _
 |f::r=>by have:=sF r;cases f;simp only[av,bB.bD,bB.bC];omega
theorem AK:∀l:List bB,(items l).length=l.length
 |[]=>rfl
 |f::r=>by rw[items,av,av,AK r]
end Dk
end Go.Eng
namespace Go.Eng
theorem MO(n:Nat):Nr.dec n=jP n:=by
 induction n using Nat.strongRecOn with
 |_ n ih=>rw[Nr.dec,jP];by_cases h:n<10;{rw[ar h,dif_pos h]};{rw[ak h,dif_neg h,ih (n/10) (by omega)]}
theorem F5(n:Nat):Lib.decDigits n=Nr.dec n:=by rw[EG,MO]
theorem xm(v:Int):Lib.itoa v=Nr.itoa v:=by rw[Nr.pC];unfold Lib.itoa;by_cases h:v<0;{rw[ar h,ar h,F5]};{rw[ak h,ak h,F5,show v.toNat=v.natAbs by omega]}
open Go.IntWalk
def ayn(l:List bB)(hb:l.length<=1099511627776):∀(m i:Nat),i+m=l.length->adi l (l.length:Int) i=Bm [.b (Tree.px i (l.drop i))]:=by
 intro m;induction m with
 |zero=>intro i hi;apply ak4;intro v1 h1 v2 h2;rw[cF,aD (by omega)];rfl
 |succ m ih=>intro i hi;apply ak4;intro v1 h1 v2 h2;rw[aq]at h1;rw[cT,ll,bA (show Nr.i64 (i:Int)=Qf from dT),<-xm,show v2=((i+1:Nat):Int) by rw[h2,iw];omega,ih _ (by omega),Ua (l:=l) (i:=i) (by omega) (eu.dH .fl),<-h1,Tree.px,LO];by_cases a:v1.name=jP i;{rw[aa a];rfl};{rw[ab a];rfl}
def aiH(l:List bB)(hp:nP (l.length<=1099511627776)=Qf):ayp l=Bm [.b (Tree.regular l)]:=by rw[ayo];exact ayn l (ao hp) l.length 0 (by omega)
def zH(m:Nat)(hm:m<1000000)(k:Int):UInt64.ofNat m+UInt64.ofInt k=UInt64.ofInt ((m:Int)+k):=by apply aY.1;have h1:=mj ((m:Int)+k);have h2:=mj k;rw[jY]at h1 h2;rw[UInt64.toNat_add,UInt64.toNat_ofNat'];omega
theorem OU(v:UInt64):(~~~v).toNat=18446744073709551615 -v.toNat:=by have:=v.toNat_lt;have h:UInt64.size=18446744073709551616:=rfl;rw[UInt64.toNat_not];omega
def At(v:Int)(h:v<0)(h2:-9223372036854775808<=v): ~~~(UInt64.ofInt v)=UInt64.ofInt (-(v+1)):=by apply aY.1;have h1:=mj (-(v+1));have h3:=mj v;rw[jY]at h1 h3;rw[OU];omega
def HI(x:Int):-9223372036854775808<=IntKind.i64.wrap x/\IntKind.i64.wrap x<=9223372036854775807:=by simp only[IntKind.wrap,IntKind.bits,IntKind.signed];simp;omega
def B4(x:Int):-2147483648<=IntKind.i32.wrap x/\IntKind.i32.wrap x<=2147483647:=by simp only[IntKind.wrap,IntKind.bits,IntKind.signed];simp;omega
theorem HJ(x:Int):IntKind.i64.wrap (IntKind.i32.wrap x)=IntKind.i32.wrap x:=by have:=B4 x;exact i64_in _ (by omega)
theorem Db.B1(n:bE)(v:Val):Db.item (bB.of n v)=Db.np v (Db.mapped v.kids) (Db.items v.kids):=by cases v;rfl
theorem Db.r9(n:bE)(f:bB):Db.item (bB.of n f.val)=Db.item f:=by cases f;rfl
def afW(s:bE):art s=Bm [.ag (cm.cells (bI.val (Db.text s)))]:=ars s
def afI(b:bE)(hp:nP (b.length<=1099511627776)=Qf):aqU b=Bm [.ag (cm.cells (bI.val (Db.raw b)))]:=by rw[aqT,bA (dD (by have:=ao hp;omega) (by have:=ao hp;omega))];rfl
def afs(n:UInt64):aqi n=Bm [.ag (cm.cells (bI.val (Db.plus n)))]:=aqh n
def agt(n:UInt64):ast n=Bm [.ag (cm.cells (bI.val (Db.simple n)))]:=ass n
def agx(l:List bI):asA l=Bm [.ag (cm.cells (bI.val (Db.list l)))]:=asz l
def ag2(v:Int)(hp:nP (-9223372036854775808<=v/\v<=9223372036854775807)=Qf):atS v=Bm [.ag (cm.cells (bI.val (Db.integer v)))]:=by have h:=ao hp;rw[atQ,Db.integer];by_cases a:v<0;{rw[aa a,aj,ar a,At v a h.1];rfl};{rw[ab a,ae,ak a];rfl}
def akR(v:Val)(x4:cm)(acc:bE)(m:Nat)(hm:m<8)(u:UInt64)(q:Nat)(hq:q=0\/q=64)(ha:acc.length<=100):ac4 ((8*m+q:Nat):Int) u v x4 acc=aay (((8*m+q:Nat):Int) -8) v x4 (acc++[(dc u (8*m)).toUInt8]):=by refine ax3 _ _ _ _ _ ?_;intro v1 h1 v2 h2 v3 h3;have e:Int.tmod ((8*m+q:Nat):Int) 64=((8*m:Nat):Int):=by{rw[Int.tmod_eq_emod_of_nonneg (by omega)];rcases hq with rfl|rfl<;>omega};rw[e,aq]at h1;rw[bA (by decide),e,bA (aa (by omega)),bA (dD (by simp only[aw];omega) (by simp only[aw];omega)),h3,i64_in _ (by omega),h2,h1,G0]
theorem akS(v:Val)(x4:cm):∀(m:Nat)(acc:bE),m<=8->acc.length+m<=50->aay (((8*m:Nat):Int) -8) v x4 acc=Bm [.ag (cm.cells (bI.val (Db.raw (acc++lD.gE v.low m))))]
 |0,acc,_,ha=>by rw[aeD,ab (by omega),ae,bA (aa (by omega)),show lD.gE v.low 0=[] from rfl,aR]
 |m+1,acc,hm,ha=>by rw[aeD,aa (by omega),aj,aa (by omega),aj,show((8*(m+1):Nat):Int) -8=((8*m+0:Nat):Int) by omega,akR v x4 acc m (by omega) v.low 0 (.inl rfl) (by omega),Nat.add_zero];rw[akS v x4 m (acc++[(dc v.low (8*m)).toUInt8]) (by omega) (by rw[af,aw];omega),lD.oj,aB];rfl
theorem akT(v:Val)(x4:cm):∀(m:Nat)(acc:bE),m<=8->acc.length+m<=42->aay (((8*m+64:Nat):Int) -8) v x4 acc=Bm [.ag (cm.cells (bI.val (Db.raw (acc++lD.gE v.high m++lD.gE v.low 8))))]
 |0,acc,_,ha=>by rw[show lD.gE v.high 0=[] from rfl,aR];exact akS v x4 8 acc (by omega) (by omega)
 |m+1,acc,hm,ha=>by rw[aeD,aa (by omega),aj,ab (by omega),ae,show((8*(m+1)+64:Nat):Int) -8=((8*m+64:Nat):Int) by omega,akR v x4 acc m (by omega) v.high 64 (.inr rfl) (by omega)];rw[akT v x4 m (acc++[(dc v.high (8*m)).toUInt8]) (by omega) (by rw[af,aw];omega),lD.oj v.high m,aB acc];rfl
def aiz(v:Val):ax5 v=Bm [.ag (cm.cells (bI.val (Db.raw (Db.words v.high v.low))))]:=by rw[ax4];exact akT v _ 8 [] (by omega) (by simp)
def axy(n:Nat)(l:List bB)(hb:bB.bD l<=1073741824)(hn:3*bB.bD l+2<n)(a:Int)(b:UInt64)(c:List UInt8)(d:bE)(k:Int)(u:UInt64)(y:List UInt8)(t:bE)(z:List bI):∀(m i:Nat)(acc:List bI),i+m=l.length->acc.length+2*m<=2147483648->acX n l (l.length:Int) i a b c d k u y t z acc=Bm [.ag [.i .i64 k,.u64 u,.sl .bs y,.s t,.sl .il (acc++Db.mapped (l.drop i))]]:=by
 have hlen:=bB.kx l;intro m;induction m with
 |zero=>intro i acc hi ha;apply akJ;intro v1 h1 v2 h2 v3 h3;rw[ab (by omega),ae,aD (by omega),Db.mapped,aR]
 |succ m ih=>
  intro i acc hi ha;apply akJ;intro v1 h1 v2 h2 v3 h3;rw[aq]at h1;have hg:=bB.mz l i (eu.dH .fl) (by omega);rw[<-h1]at hg;have hv:=bB.qq v1;have sY:v2=[Db.text v1.name,Db.item v1]:=by{rw[h2,bI.cq,bI.cq,Db.r9]};rw[aa (by omega),aj,bA (ez (by omega) (by omega)),aa (show 3*bB.bC (bB.of [] v1.val)+2<n by omega),aa (show bB.bC (bB.of [] v1.val)<=1073741824 by omega),aM,bK,
   bA (dD (by rw[sY];simp only[av,ay];omega) (by rw[sY];simp only[av,ay];omega)),show v3=((i+1:Nat):Int) by rw[h3,i64_in _ (by omega)];omega,sY,ih _ _ (by omega) (by simp only[af,av,ay];omega),Ua (l:=l) (i:=i) (by omega) (eu.dH .fl),<-h1,Db.mapped,aB];rfl
def aiq(n:Nat)(l:List bB)(hp:((nP (bB.bD l<=1073741824))&&nP ((3*bB.bD l+3)<n+1))=Qf):axA n l=Bm [.ag (cm.cells (bI.val (Db.map (Db.mapped l))))]:=by simp only[ah,aC]at hp;have hlen:=bB.kx l;rw[axz];have:=axy n l hp.1 (by omega) 0 0 [] [] 6 0 [] [] [] l.length 0 [] (by omega) (by simp;omega);rw[aX,bh]at this;exact this
def awr(n:Nat)(l:List bB)(hb:bB.bD l<=1073741824)(hn:3*bB.bD l+2<n)(a:Int)(b:UInt64)(c:List UInt8)(d:bE)(k:Int)(u:UInt64)(y:List UInt8)(t:bE)(z:List bI):∀(m i:Nat)(acc:List bI),i+m=l.length->acc.length+m<=2147483648->acH n l (l.length:Int) i a b c d k u y t z acc=Bm [.ag [.i .i64 k,.u64 u,.sl .bs y,.s t,.sl .il (acc++Db.items (l.drop i))]]:=by
 have hlen:=bB.kx l;intro m;induction m with
 |zero=>intro i acc hi ha;apply akr;intro v1 h1 v2 h2 v3 h3;rw[ab (by omega),ae,aD (by omega),Db.items,aR]
 |succ m ih=>
  intro i acc hi ha;apply akr;intro v1 h1 v2 h2 v3 h3;rw[aq]at h1;have hg:=bB.mz l i (eu.dH .fl) (by omega);rw[<-h1]at hg;have hv:=bB.qq v1;have sY:v2=[Db.item v1]:=by{rw[h2,bI.cq,Db.r9]};rw[aa (by omega),aj,bA (ez (by omega) (by omega)),aa (show 3*bB.bC (bB.of [] v1.val)+2<n by omega),aa (show bB.bC (bB.of [] v1.val)<=1073741824 by omega),aM,bK,
   bA (dD (by rw[sY];simp only[av,ay];omega) (by rw[sY];simp only[av,ay];omega)),show v3=((i+1:Nat):Int) by rw[h3,i64_in _ (by omega)];omega,sY,ih _ _ (by omega) (by simp only[af,av,ay];omega),Ua (l:=l) (i:=i) (by omega) (eu.dH .fl),<-h1,Db.items,aB];rfl
def Val.lens(v:Val)(m:Nat)(h:bB.bC (bB.of [] v)<=m):v.bytes.length<m/\bB.bD v.kids<m/\v.kids.length<m:=by have:=bB.kx v.kids;simp only[bB.of,bB.bC]at h;omega
def axJ(n:Nat)(x0:Int)(x1:Bool)(v:Val)(x3:cm)(hx:x0=v.kind)(hb:bB.bD v.kids<=1073741824)(hn:3*bB.bD v.kids+3<n)(h1:x1=nP (v.kind=13\/v.kind=14))(hk:v.kind≠4/\v.kind≠5/\v.kind≠7/\¬(v.kind=9\/v.kind=18)/\v.kind≠11/\v.kind≠12):acZ n x0 x1 v x3=Bm [.ag (cm.cells (bI.val (Db.tagged v (Db.mapped v.kids))))]:=by obtain⟨a4,a5,a7,a9,CG,a12⟩:=hk;refine axH _ _ _ _ _ ?_;intro v1 e1;rw[h1,hx,Db.tagged,ak a4,ak a5,ak a7,ak a9,ak CG,ak a12];by_cases a:v.kind=13\/v.kind=14;{rw[aa a,aj,ar a]};rw[ab a,ae,ak a];by_cases a:v.kind=15;{rw[aa a,aj,ar a,bA (by rw[aa hb,aa hn];rfl),e1,bI.cq,bI.cq]};rw[ab a,ae,ak a];by_cases a:v.kind=17;{rw[aa a,aj,ar a]};rw[ab a,ae,ak a];by_cases a:v.kind=19;{rw[aa a,aj,ar a]};rw[ab a,ae,ak a]
def axK(n:Nat)(x0:Int)(x1:Bool)(v:Val)(x3:cm)(hx:x0=v.kind)(hb:bB.bD v.kids<=1073741824)(hy:v.bytes.length<=1099511627776)(hn:3*bB.bD v.kids+3<n)(h1:x1=nP (v.kind=9\/v.kind=18))(hk:v.kind≠4/\v.kind≠5/\v.kind≠7):ac0 n x0 x1 v x3=Bm [.ag (cm.cells (bI.val (Db.tagged v (Db.mapped v.kids))))]:=by obtain⟨a4,a5,a7⟩:=hk;refine axI _ _ _ _ _ ?_;intro v1 e1 v2 e2 v3 e3;by_cases a:v.kind=9\/v.kind=18;{rw[h1,aa a,aj,Db.tagged,ak a4,ak a5,ak a7,ar a,e1,bA (aa (HI _))];rfl};rw[h1,ab a,ae,hx];by_cases CG:v.kind=11;{rw[aa CG,aj,Db.tagged,ak a4,ak a5,ak a7,ak a,ar CG,e2,bI.cq,bI.cq]};rw[ab CG,ae];by_cases a12:v.kind=12;{rw[aa a12,aj,Db.tagged,ak a4,ak a5,ak a7,ak a,ak CG,ar a12,bA (aa hy),e3,bI.cq,bI.cq]};rw[ab a12,ae];have J:=λb lu=>axJ n v.kind b v x3 rfl hb hn lu ⟨a4,a5,a7,a,CG,a12⟩;by_cases Kj:v.kind=13;{rw[aa Kj,aj];exact J _ (by rw[aa (.inl Kj)])};{rw[ab Kj,ae];exact J _ (by simp[Kj])}
def ait(n:Nat)(v:Val)(hp:((nP (bB.bC (bB.of [] v)<=1073741824))&&nP ((3*bB.bC (bB.of [] v)+1)<n+1))=Qf):axM n v=Bm [.ag (cm.cells (bI.val (Db.tagged v (Db.mapped v.kids))))]:=by simp only[ah,aC]at hp;obtain⟨hb,hn⟩:=hp;obtain⟨l1,l2,l3⟩:=Val.lens v _ hb;have hk:bB.bD v.kids<bB.bC (bB.of [] v):=by{simp only[bB.of,bB.bC];omega};refine axL _ _ ?_;intro v1 e1;by_cases a4:v.kind=4;{rw[aa a4,aj,bA (by rw[aa (show bB.bD v.kids<=1073741824 by omega),aa (show 3*bB.bD v.kids+3<n by omega)];rfl),Db.tagged,ar a4]};rw[ab a4,ae];by_cases a5:v.kind=5;{rw[aa a5,aj,bA (aa (by omega)),Db.tagged,ak a4,ar a5,e1,bI.cq,bI.cq]};rw[ab a5,ae];by_cases a7:v.kind=7;{rw[aa a7,aj,bA (aa (by omega)),Db.tagged,ak a4,ak a5,ar a7]};rw[ab a7,ae];have J:=λb lu=>axK n v.kind b v (cm.mk 0 0 [] [] []) rfl (by omega) (by omega) (by omega) lu ⟨a4,a5,a7⟩;by_cases a9:v.kind=9;{rw[aa a9,aj];exact J _ (by rw[aa (.inl a9)])};{rw[ab a9,ae];exact J _ (by simp[a9])}
def awq(n:Nat)(v:Val)(a:Int)(b:UInt64)(c:List UInt8)(d:bE)(z:List bI)(hb:bB.bC (bB.of [] v)<=1073741824)(hn:3*bB.bC (bB.of [] v)+1<n):aa7 n v a b c d z=Bm [.ag (cm.cells (bI.val (.mk 7 (UInt64.ofInt (1000+v.kind)) [] [] [Db.tagged v (Db.mapped v.kids)])))]:=by apply awp;intro v1 e1 v2 e2;have h1:v1=UInt64.ofInt (1000+v.kind):=by{rw[e1];exact zH 1000 (by omega) v.kind};rw[bA (by rw[aa hb,aa hn];rfl),h1,e2,bI.cq];rfl
def ahY(n:Nat)(v:Val)(hp:((nP (bB.bC (bB.of [] v)<=1073741824))&&nP ((3*bB.bC (bB.of [] v)+2)<n+1))=Qf):awt n v=Bm [.ag (cm.cells (bI.val (Db.item (bB.of [] v))))]:=by simp only[ah,aC]at hp;obtain⟨hb,hn⟩:=hp;obtain⟨l1,l2,l3⟩:=Val.lens v _ hb;have hk:bB.bD v.kids<bB.bC (bB.of [] v):=by{simp only[bB.of,bB.bC];omega};have J:=awq n v 0 0 [] [] [] hb (by omega);refine aws _ _ ?_;intro v1 e1 v2 e2 v3 e3 v4 e4 v5 e5 v6 e6 v7 e7 v8 e8 v9 e9;rw[Db.B1,Db.np];by_cases a:v.kind=1;{rw[aa a,aj,ar a];rfl};rw[ab a,ae,ak a];by_cases a:v.kind=2;{rw[aa a,aj,ar a]};rw[ab a,ae,ak a];by_cases a:v.kind=3;{rw[aa a,aj,ar a,bA (by rw[aa (show bB.bD v.kids<=1073741824 by omega),aa (show 3*bB.bD v.kids+3<n by omega)];rfl)]};rw[ab a,ae,ak a];by_cases a:v.kind=4;{rw[aa a,aj,bA (aa (by omega)),e1];by_cases r:Tree.regular v.kids=Qf;{rw[r,aj,ar ⟨a,rfl⟩,e2,e3,e4,e5,e6,e7];have:=awr n v.kids (by omega) (by omega) 0 0 [] [] 5 0 [] [] [] v.kids.length 0 [] (by omega) (by simp only[ay];omega);rw[aX,bh]at this;exact this};{rw[Bool.eq_false_iff.2 r,ae,ak (λh=>absurd h.2 (by simp)),ak (by omega),ak (by omega),ak (by omega),ak (by omega),ak (by omega)];exact J}};rw[ab a,ae,ak (λh=>a h.1)];by_cases a:v.kind=5;{rw[aa a,aj];by_cases r:v.sub=0;{rw[aa r,aj,ar ⟨a,r⟩,bA (aa (by omega))]};{rw[ab r,ae,ak (λh=>r h.2),ak (by omega),ak (by omega),ak (by omega),ak (by omega)];exact J}};rw[ab a,ae,ak (λh=>a h.1)];by_cases a:v.kind=6;{rw[aa a,aj,ar a]};rw[ab a,ae,ak a];by_cases a:v.kind=10;{rw[aa a,aj,ar a]};rw[ab a,ae,ak a];by_cases a:v.kind=8;{rw[aa a,aj,ar a,e8]};rw[ab a,ae,ak a];by_cases a:v.kind=16;{rw[aa a,aj,ar a,bA (aa (HI _)),e9,HJ];rfl};rw[ab a,ae,ak a];exact J
def afr(v:Val)(hp:nP (bB.bC (bB.of [] v)<=1073741824)=Qf):aqg v=Bm [.ag (cm.cells (bI.val (Db.enc v).1)),.ag (ph.cells (Db.enc v).2)]:=by have hb:=ao hp;obtain⟨l1,l2,l3⟩:=Val.lens v _ hb;refine aqf _ ?_;intro v1 e1 v2 e2;rw[bA (aa (by omega)),Db.enc,<-e1,<-e2];by_cases a:v2=0;{rw[aa a,aF,ae,ak (λh=>h a)];by_cases b:v.kind=3;{rw[aa b,aF,ae,ak (λh=>h b),bA (aa (by omega))];rfl};{rw[ab b,aH,aj,ar b];rfl}};{rw[ab a,aH,aj,ar a];rfl}
def afv(s:bE):aqn s=Bm [.ag (cm.cells (bI.val (Db.text s)))]:=aqm s
def afN(n:UInt64):aq9 n=Bm [.ag (cm.cells (bI.val (Db.simple n)))]:=aq8 n
def ae7(k:Int):apD k=Bm [.u64 (Dk.sort k)]:=by rw[apC,Dk.sort];by_cases a:k=255;{rw[aa a,aj,ar a]};{rw[ab a,ae,ak a]}
def ago(v:Int)(hp:nP (-9223372036854775808<=v/\v<=9223372036854775807)=Qf):ase v=Bm [.ag (cm.cells (bI.val (Db.integer v)))]:=by have h:=ao hp;rw[asd,Db.integer];by_cases a:v<0;{rw[aa a,aj,ar a,At v a h.1];rfl};{rw[ab a,ae,ak a];rfl}
def asK(v:UInt64):∀(k:Nat)(acc:bE),k<=8->acc.length+k<=1000->abU v ((k:Int) -1) acc=Bm [.sl .bs (acc++lD.gE v k)]:=by
 intro k;induction k with
 |zero=>intro acc _ _;refine ajr _ _ _ ?_;intro v1 e1 v2 e2 v3 e3;rw[ab (by omega),ae,show lD.gE v 0=[] from rfl,aR]
 |succ k ih=>intro acc hk hw;refine ajr _ _ _ ?_;intro v1 e1 v2 e2 v3 e3;have GG:v1=((8*k:Nat):Int):=by{rw[e1,i64_in _ (by omega)];omega};rw[aa (by omega),aj,bA (aa (by omega)),bA (dD (by simp;omega) (by simp;omega))];rw[show v3=(k:Int) -1 by rw[e3,i64_in _ (by omega)];omega,ih _ (by omega) (by simp;omega),e2,GG,aq,G0,lD.oj,aB];rfl
def agD(v:UInt64)(n:Int)(hp:nP (0<=n/\n<=8)=Qf):asM v n=Bm [.sl .bs (lD.gE v n.toNat)]:=by have h:=ao hp;refine asL v n ?_;intro v1 e1;rw[show v1=((n.toNat:Nat):Int) -1 by rw[e1,i64_in _ (by omega)];omega,asK v _ _ (by omega) (by simp;omega)];rfl
theorem Dk.r9(n:bE)(f:bB):Dk.item (bB.of n f.val)=Dk.item f:=by cases f;rfl
def Tree.vV:∀(l:List bB)(i:Nat)(d:bB),i<l.length->Tree.kN l=Qf->Tree.pk (l.getD i d)=Qf
 |[],i,d,h,_=>absurd h (Nat.not_lt_zero _)
 |f::r,0,d,_,hf=>(Tree.qk.1 hf).1
 |f::r,i+1,d,h,hf=>Tree.vV r i d (by simpa using h) (Tree.qk.1 hf).2
def axD(n:Nat)(l:List bB)(hb:bB.bD l<=1048576)(hf:Tree.kN l=Qf)(hn:4*bB.bD l+2<n)(a:Int)(b:UInt64)(c:List UInt8)(d:bE)(k:Int)(u:UInt64)(y:List UInt8)(t:bE)(z:List bI):∀(m i:Nat)(acc:List bI),i+m=l.length->acc.length+2*m<=2147483648->acY n l (l.length:Int) i a b c d k u y t z acc=Bm [.ag [.i .i64 k,.u64 u,.sl .bs y,.s t,.sl .il (acc++Dk.mapped (l.drop i))]]:=by
 have hlen:=bB.kx l;intro m;induction m with
 |zero=>intro i acc hi ha;apply akK;intro v1 h1 v2 h2 v3 h3;rw[ab (by omega),ae,aD (by omega),Dk.mapped,aR]
 |succ m ih=>
  intro i acc hi ha;apply akK;intro v1 h1 v2 h2 v3 h3;rw[aq]at h1;have hg:=bB.mz l i (eu.dH .fl) (by omega);have hfn:=Tree.vV l i (eu.dH .fl) (by omega) hf;rw[<-h1]at hg hfn;have hv:=bB.qq v1;have sY:v2=[Db.text v1.name,Dk.item v1]:=by{rw[h2,bI.cq,bI.cq,Dk.r9]};rw[aa (by omega),aj,bA (ez (by omega) (by omega)),aa (show 4*bB.bC (bB.of [] v1.val)+2<n by omega),aa (show bB.bC (bB.of [] v1.val)<=1048576 by omega),Tree.Ew v1 hfn,aM,aM,bK,
   bA (dD (by rw[sY];simp only[av,ay];omega) (by rw[sY];simp only[av,ay];omega)),show v3=((i+1:Nat):Int) by rw[h3,i64_in _ (by omega)];omega,sY,ih _ _ (by omega) (by simp only[af,av,ay];omega),Ua (l:=l) (i:=i) (by omega) (eu.dH .fl),<-h1,Dk.mapped,aB];rfl
def OJ{a b c:Bool}(h:((a&&b)&&c)=Qf):(a=Qf/\b=Qf)/\c=Qf:=by simpa[ah]using h
def air(n:Nat)(l:List bB)(hp:((nP (bB.bD l<=1048576)&&Tree.kN l)&&nP ((4*bB.bD l+3)<n+1))=Qf):axF n l=Bm [.ag (cm.cells (bI.val (Db.map (Dk.mapped l))))]:=by obtain⟨⟨h1,h2⟩,h3⟩:=OJ hp;have h1:=ao h1;have h3:=ao h3;have hlen:=bB.kx l;rw[axE];have:=axD n l h1 h2 (by omega) 0 0 [] [] 6 0 [] [] [] l.length 0 [] (by omega) (by simp;omega);rw[aX,bh]at this;exact this
end Go.Eng
