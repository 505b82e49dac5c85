/- Texts of my own, one behind the other: SnGp0, SnGp1, SnGp2, SnG, SnL1, SnL2, NtP, SnP1, SnP2. -/
import Derived.Test.YtfomkedednklbaaGreatDoorT3
import Derived.Test.YtfomkedednklbaaGreatDoorProg
set_option linter.unusedVariables false
set_option linter.unusedSimpArgs false
namespace Go.Eng
def zI:List TV:=[(.i .i64 (0 : Int)), (.u64 (0 : UInt64)), (.sl .bs ([] : List UInt8)), (.s ([] : bT)), (.sl .il ([] : List nL))]
def zV:List TV:=[(.i .i64 (0 : Int)), (.u64 (0 : UInt64)), (.u64 (0 : UInt64)), (.u64 (0 : UInt64)), (.s ([] : bT)), (.s ([] : bT)), (.i .i64 (0 : Int)), (.sl .bs ([] : List UInt8)), (.sl .fl ([] : List mW))]
def zD:List TV:=[(.s ([] : bT)), (.i .i64 (0 : Int)), (.u64 (0 : UInt64)), (.u64 (0 : UInt64)), (.u64 (0 : UInt64)), (.s ([] : bT)), (.s ([] : bT)), (.i .i64 (0 : Int)), (.sl .bs ([] : List UInt8)), (.sl .fl ([] : List mW))]
def zT:List TV:=[(.i .i64 (0 : Int)), (.i .i64 (0 : Int)), (.sl .is ([] : List Int))]
def oK (k:TK) (a d:List Nat):qh:=⟨k,a.map .s,d,none⟩
def oX (k:TK) (a:List nR) (d:List Nat):qh:=⟨k,a,d,none⟩
def oG (n:Nat) (b:Bool) (o:qh):qh:=⟨o.k,o.rs,o.ds,some (n,b)⟩
def oA (m o f a d:Nat):qh:=⟨.k (.fa m o f),[.s a],[d],none⟩
def oL (m o n a d:Nat):qh:=⟨.k (.ld m o n false),[.s a,.s m],[d],none⟩
def oM (m o n a d:Nat):qh:=⟨.k (.ld m o n true),[.s a,.s m],[d],none⟩
def oT (m o n a x:Nat):qh:=⟨.k (.st m o n),[.s a,.s m,.s x],[m],none⟩
def oV (a d:Nat):qh:=⟨.k .mv,[.s a],[d],none⟩
def oW (c:TV) (d:Nat):qh:=⟨.k .mv,[.c c],[d],none⟩
def oC (f n r:Nat) (a:List Nat) (d:Nat):qh:=⟨.k (.call f (.plain n r)),a.map .s,[d],none⟩
def oE (i a d:Nat):qh:=⟨.k (.ex i),[.s a],[d],none⟩
def oB (o:BinOp) (a b d:Nat):qh:=⟨.k (.bin o),[.s a,.s b],[d],none⟩
def oI (o:BinOp) (a:Nat) (c:TV) (d:Nat):qh:=⟨.k (.bin o),[.s a,.c c],[d],none⟩
def oP (g a:Nat) (b:Bool) (d:Nat):qh:=⟨.k .pick,[.s g,.s a,.c (.b b)],[d],none⟩
def oN (m:Nat) (z:List TV) (a:Nat):qh:=⟨.al m z [],[.s m],[a,m],none⟩
def D0 (n:Nat) (m:TM) (r:List RV):gS:={np:=n,m:=m,ref:=none,fR:=[],res:=r,own:=[],new:=none,fD:=[]}
def oS (l:List qh) (b:TM):TM:=.seq (.eZ l) none b
end Go.Eng
namespace Go.Eng
abbrev OT:=Option (List TV)
abbrev EV:=List (Nat × (eW × c7))
theorem i4 {a b c d e:Prop} (h:e):a∨b∨c∨d∨e:=.inr (.inr (.inr (.inr h)))
theorem i12 {a b c d e f g h i j k l m:Prop} (x:m):a∨b∨c∨d∨e∨f∨g∨h∨i∨j∨k∨l∨m:=i4 (i4 (i4 x))
end Go.Eng
set_option maxRecDepth 100000
namespace Go.Eng
open Go.Proofs
noncomputable def nrGl:Nat→TV:=Mi [(0,vk .u8 (Lib.deBruijn64tab.map Int.ofNat)),(4,vk .u64 Lib.pow10Tab)]
abbrev FT (d:gS) (E:eD) (i o:List TV):Prop:=i.length=d.np∧d.run E i=some (o++d.ps.toList.map fun q=>i.getD q.1 .dead)
abbrev CK (i:Nat) (e:EV) (d:gS):Prop:=((Go.Proofs.Tryz.prog.funcs[i]?).any fun fn=>Bo Go.Proofs.Tryz.prog (fun k=>((cZ nrGl e).fs k).2) fn d.erase)=true
theorem fE {i:Nat} {e:EV} {d:gS} (h:((Go.Proofs.Tryz.prog.funcs[i]?).any fun fn=>Bo Go.Proofs.Tryz.prog (fun k=>((cZ nrGl e).fs k).2) fn d.erase)=true):CK i e d:=h
abbrev KO (i:Nat) (c:eW) (g:c7):Prop:=dH Go.Proofs.Tryz.prog (fun n=>(nrGl n).av) i (eW.fs (c,g))
noncomputable section
def bQ.sg:c7:={}
def bQ.c:eW:=fun l=>match l with
 | [.u16 x] => .ok [(.i .i64 ((Nt.bits (x).toNat:Int)))]
 | _ => .err
def bits_Len64.sg:c7:={}
def bits_Len64.c:eW:=fun l=>match l with
 | [.u64 x] => .ok [(.i .i64 ((Nt.bits (x).toNat:Int)))]
 | _ => .err
def mb.sg:c7:={}
def mb.c:eW:=fun l=>match l with
 | [.u64 x] => .ok [(.i .i64 ((Lib.ctz 64 (x).toNat:Int)))]
 | _ => .err
def lT.sg:c7:={}
def lT.c:eW:=fun l=>match l with
 | [.s s,.s c] => .eM (decide ((s).length≤1099511627776∧(c).length≤100)&&(c).all (fun b=>decide (b.toNat<128))) [(.s (Lib.trimS s c))]
 | _ => .err
def gT.sg:c7:={}
def gT.c:eW:=fun l=>match l with
 | [.s s,.s c] => .eM (decide ((s).length≤1099511627776∧(c).length≤100)&&(c).all (fun b=>decide (b.toNat<128))) [(.s (Lib.trimLeftS s c))]
 | _ => .err
def fy.sg:c7:={}
def fy.c:eW:=fun l=>match l with
 | [.s s,.s c] => .eM (decide ((s).length≤1099511627776∧(c).length≤100)&&(c).all (fun b=>decide (b.toNat<128))) [(.s (Lib.trimRightS s c))]
 | _ => .err
def nB.sg:c7:={ bO:=2 }
def nB.c:eW:=fun l=>match l with
 | [.s s,.s c] => .ok [(.s ((if (c).isPrefixOf s then (s).drop (c).length else s))),(.b (((c).isPrefixOf s)))]
 | _ => .err
def ra.sg:c7:={}
def ra.c:eW:=fun l=>match l with
 | [.s s,.s c] => .eM (decide ((s).length≤4294967280∧(c).length≤100)&&((s)++(c)).all (fun b=>decide (b.toNat<128))) [(.i .i64 (Lib.indexAny s c))]
 | _ => .err
def ua.sg:c7:={}
def ua.c:eW:=fun l=>match l with
 | [.s s,.s c] => .eM (decide ((s).length≤4294967280∧c=[46])) [(.i .i64 (Lib.indexByte s 46))]
 | _ => .err
def nr.sg:c7:={ bO:=3 }
def nr.c:eW:=fun l=>match l with
 | [.s s,.s c] => .eM (decide ((s).length≤4294967280∧c=[46])) [(.s (((s).takeWhile (· != 46)))),(.s ((((s).dropWhile (· != 46)).drop 1))),(.b (((s).contains 46)))]
 | _ => .err
def l8.sg:c7:={ bO:=3 }
def l8.c:eW:=fun l=>match l with
 | [.s s,.s c] => .eM (decide ((s).length≤4294967280∧c=[46])) [(.s (((s).takeWhile (· != 46)))),(.s ((((s).dropWhile (· != 46)).drop 1))),(.b (((s).contains 46)))]
 | _ => .err
def jd.sg:c7:={ own:=[(0,1)] }
def jd.c:eW:=xI .ws 2
def cM.sg:c7:={}
def cM.c:eW:=fun l=>match l with
 | [.c (.float .f64 x)] => .eM (Fl.num x) [(.c (.float .f64 (Fl.iH x)))]
 | _ => .err
def gz.sg:c7:={}
def gz.c:eW:=fun l=>match l with
 | [.c (.complex .f64 kU kT),.c (.float .f64 m)] => .eM (Gz.LJ ((kU,kT):Cx) m) [(.b (true))]
 | _ => .err
def dq.sg:c7:={}
def dq.c:eW:=fun l=>match l with
 | [.c (.complex .f64 kU kT)] => .eM (Gz.sT ((kU,kT):Cx) 33554432) [(.b (true))]
 | _ => .err
def fP.sg:c7:={}
def fP.c:eW:=fun l=>match l with
 | [.i .i64 x,.i .i64 y] => .eM (decide (-33554432≤x∧x≤33554432∧-33554432≤y∧y≤33554432)) [(.c (.complex .f64 (((Fl.ofInt x,Fl.ofInt y):Cx)).1 (((Fl.ofInt x,Fl.ofInt y):Cx)).2))]
 | _ => .err
def db.sg:c7:={ bO:=3 }
def db.c:eW:=fun l=>match l with
 | [.c (.complex .f64 kU kT)] => .eM (Gz.sT ((kU,kT):Cx) 4503599627370496) [(.i .i64 (Fl.toInt (((kU,kT):Cx)).1)),(.i .i64 (Fl.toInt (((kU,kT):Cx)).2)),(.b (true))]
 | _ => .err
def dO.sg:c7:={}
def dO.c:eW:=fun l=>match l with
 | [.c (.complex .f64 kU kT),.i .i64 k] => .eM (Gz.sT ((kU,kT):Cx) 1125899906842624&&decide (-100≤k∧k≤100)) [(.c (.complex .f64 (Gz.ta ((kU,kT):Cx) k).1 (Gz.ta ((kU,kT):Cx) k).2))]
 | _ => .err
def dr.sg:c7:={}
def dr.c:eW:=fun l=>match l with
 | [.c (.complex .f64 kU kT),.c (.complex .f64 DH DG)] => .eM (Gz.sT ((kU,kT):Cx) 33554432&&Gz.sT ((DH,DG):Cx) 33554432) [(.c (.complex .f64 (Gz.mul ((kU,kT):Cx) ((DH,DG):Cx)).1 (Gz.mul ((kU,kT):Cx) ((DH,DG):Cx)).2))]
 | _ => .err
def dJ.sg:c7:={}
def dJ.c:eW:=fun l=>match l with
 | [.c (.float .f64 x)] => .eM (Gz.Iz x) [(.b (true))]
 | _ => .err
def df.sg:c7:={}
def df.c:eW:=fun l=>match l with
 | [.ag [.c (.complex .f64 dW dV),.c (.complex .f64 dU dT),.c (.complex .f64 dS dR),.c (.complex .f64 dQ dP)]] => .eM (Gz.vc (Qd.mk ((dW,dV):Cx) ((dU,dT):Cx) ((dS,dR):Cx) ((dQ,dP):Cx)) 1125899906842624) [(.b (true))]
 | _ => .err
def bX.sg:c7:={}
def bX.c:eW:=fun l=>match l with
 | [.ag [.c (.complex .f64 dW dV),.c (.complex .f64 dU dT),.c (.complex .f64 dS dR),.c (.complex .f64 dQ dP)],.i .i64 w] => .eM (Gz.vc (Qd.mk ((dW,dV):Cx) ((dU,dT):Cx) ((dS,dR):Cx) ((dQ,dP):Cx)) 1125899906842624&&decide (w=1∨w=-1)) [(.ag (Qd.cells (Gz.me (Qd.mk ((dW,dV):Cx) ((dU,dT):Cx) ((dS,dR):Cx) ((dQ,dP):Cx)) w)))]
 | _ => .err
def dK.sg:c7:={}
def dK.c:eW:=fun l=>match l with
 | [.ag [.c (.complex .f64 dW dV),.c (.complex .f64 dU dT),.c (.complex .f64 dS dR),.c (.complex .f64 dQ dP)]] => .eM (Gz.vc (Qd.mk ((dW,dV):Cx) ((dU,dT):Cx) ((dS,dR):Cx) ((dQ,dP):Cx)) 1125899906842624) [(.ag (Qd.cells (Gz.me (Qd.mk ((dW,dV):Cx) ((dU,dT):Cx) ((dS,dR):Cx) ((dQ,dP):Cx)) 1)))]
 | _ => .err
def cQ.sg:c7:={ bO:=2 }
def cQ.c:eW:=fun l=>match l with
 | [.ag [.c (.complex .f64 dW dV),.c (.complex .f64 dU dT),.c (.complex .f64 dS dR),.c (.complex .f64 dQ dP)]] => .eM (Gz.vc (Qd.mk ((dW,dV):Cx) ((dU,dT):Cx) ((dS,dR):Cx) ((dQ,dP):Cx)) 1125899906842624&&Gz.JP (Qd.mk ((dW,dV):Cx) ((dU,dT):Cx) ((dS,dR):Cx) ((dQ,dP):Cx))) [(.ag (Qd.cells (Gz.back (Qd.mk ((dW,dV):Cx) ((dU,dT):Cx) ((dS,dR):Cx) ((dQ,dP):Cx))))),(.b (true))]
 | _ => .err
def bZ.sg:c7:={}
def bZ.c:eW:=fun l=>match l with
 | [.sl .is l] => .eM (decide ((l).length≤256)&&Gz.gY l) [(.b (true))]
 | _ => .err
def bP.sg:c7:={}
def bP.c:eW:=fun l=>match l with
 | [.sl .is l] => .eM (decide ((l).length≤256)&&Gz.gY l) [(.sl .qd (Gz.gj l))]
 | _ => .err
def bK.sg:c7:={ bO:=2 }
def bK.c:eW:=fun l=>match l with
 | [.sl .is a,.sl .is b] => .eM (decide ((a).length≤256∧(b).length≤256)&&(Gz.gY a&&Gz.gY b)) [(.sl .is (Gz.conv a b)),(.b (true))]
 | _ => .err
def cH.sg:c7:={}
def cH.c:eW:=fun l=>match l with
 | [.sl .ws a] => .eM (decide ((a).length≤1099511627776)) [(.sl .ws (Nt.of (Nt.val a)))]
 | _ => .err
def dG.sg:c7:={}
def dG.c:eW:=fun l=>match l with
 | [.sl .ws a] => .eM (decide ((a).length≤1099511627776)) [(.b (Nt.is a))]
 | _ => .err
def dA.sg:c7:={}
def dA.c:eW:=fun l=>match l with
 | [.u64 v] => .ok [(.sl .ws (Nt.of (v).toNat))]
 | _ => .err
def cD.sg:c7:={ bO:=2 }
def cD.c:eW:=fun l=>match l with
 | [.sl .ws a] => .eM (decide (Nt.is a=true∧(a).length≤4)) [(.u64 (UInt64.ofNat (Nt.val a))),(.b (true))]
 | _ => .err
def dF.sg:c7:={}
def dF.c:eW:=fun l=>match l with
 | [.sl .ws a] => .eM (Nt.is a) [(.i .i64 ((Nt.bits (Nt.val a):Int)))]
 | _ => .err
def di.sg:c7:={}
def di.c:eW:=fun l=>match l with
 | [.sl .ws a,.sl .ws b] => .eM (decide ((a).length≤1099511627776∧(b).length≤1099511627776)&&(Nt.norm a&&Nt.norm b)) [(.i .i64 (Nt.cmp (Nt.val a) (Nt.val b)))]
 | _ => .err
def dY.sg:c7:={}
def dY.c:eW:=fun l=>match l with
 | [.sl .ws a,.sl .ws b] => .eM (Nt.is a&&Nt.is b) [(.i .i64 (Nt.cmp (Nt.val a) (Nt.val b)))]
 | _ => .err
def bR.sg:c7:={}
def bR.c:eW:=fun l=>match l with
 | [.sl .ws a] => .eM (decide ((a).length≤256)) [(.sl .is ((a).map fun d=>(d.toNat:Int)))]
 | _ => .err
def cI.sg:c7:={}
def cI.c:eW:=fun l=>match l with
 | [.sl .ws a,.sl .ws b] => .eM (Nt.is a&&Nt.is b) [(.sl .ws (Nt.of (Nt.val a * Nt.val b)))]
 | _ => .err
def dh.sg:c7:={ bO:=2 }
def dh.c:eW:=fun l=>match l with
 | [.sl .ws a,.u16 d] => .eM (decide ((a).length≤1000000∧d≠0)) [(.sl .ws (Nt.of (Nt.val a / (d).toNat))),(.u16 (UInt16.ofNat (Nt.val a % (d).toNat)))]
 | _ => .err
def dv.sg:c7:={ own:=[(0,1)] }
def dv.c:eW:=fun l=>match l with
 | [.sl .ws a,.i .i64 n] => .eM (decide ((a).length≤1000000∧0≤n∧n<16)&&Nt.norm a) [(.sl .ws (Nt.of (Nt.val a * 2 ^ (n).toNat)))]
 | _ => .err
def cz.sg:c7:={}
def cz.c:eW:=fun l=>match l with
 | [.sl .ws a,.i .i64 n] => .eM (decide ((a).length≤1000000∧0≤n∧n<16)) [(.sl .ws (Nt.of (Nt.val a / 2 ^ (n).toNat)))]
 | _ => .err
def bG.sg:c7:={ bO:=2,ps:=some (1000,1) }
def bG.c:eW:=fun l=>match l with
 | [.sl .ws u,.sl .ws v] => .eM (decide ((u).length≤1000000∧2≤(v).length∧(v).length≤(u).length∧32768≤((v).getLast?.getD 0).toNat)) [(.sl .ws (Nt.fix ((u).length+1 - (v).length) (Nt.val u / Nt.val v))),(.sl .ws (Nt.fix (v).length (Nt.val u % Nt.val v)))]
 | _ => .err
def eC.sg:c7:={ bO:=3 }
def eC.c:eW:=fun l=>match l with
 | [.sl .ws a,.sl .ws b] => .eM (Nt.is a&&Nt.is b&&decide (b≠[])) [(.sl .ws (Nt.of (Nt.val a / Nt.val b))),(.sl .ws (Nt.of (Nt.val a % Nt.val b))),(.b (true))]
 | _ => .err
def ft.sg:c7:={}
def ft.c:eW:=fun l=>match l with
 | [.sl .ws a,.i .i64 n] => .eM (decide (0≤n∧n≤4096)&&Nt.is a) [(.sl .ws (Nt.of (Nt.val a * 2 ^ (n).toNat)))]
 | _ => .err
def cw.sg:c7:={}
def cw.c:eW:=fun l=>match l with
 | [.sl .ws a,.i .i64 b,.i .i64 c] => .eM (decide ((a).length≤1000000∧1≤b∧b≤65535∧0≤c∧c≤65535)&&Nt.norm a) [(.sl .ws (Nt.of (Nt.val a * (b).toNat+(c).toNat)))]
 | _ => .err
def cA.sg:c7:={ bO:=2 }
def cA.c:eW:=fun l=>match l with
 | [.i .i64 b,.i .i64 e] => .eM (decide (2≤b∧b≤65535∧0≤e∧e≤1000∧(b).toNat ^ (e).toNat<2 ^ 4096)) [(.sl .ws (Nt.of ((b).toNat ^ (e).toNat))),(.b (true))]
 | _ => .err
def cE.sg:c7:={ bO:=2 }
def cE.c:eW:=fun l=>match l with
 | [.s s] => .eM (decide (1≤(s).length∧(s).length≤300∧(s).getD 0 0≠48)&&(s).all Nr.eo) [(.sl .ws (Nt.of (Nr.num s))),(.b (true))]
 | _ => .err
def cW.sg:c7:={ bO:=2 }
def cW.c:eW:=fun l=>match l with
 | [.b n,.u64 m,.i .i64 e] => .eM (decide (-1100≤e∧e≤2000)) [(.u64 (Nr.pat (Nr.join n (m).toNat e))),(.b ((Nr.join n (m).toNat e).isSome))]
 | _ => .err
def bW.sg:c7:={ bO:=2 }
def bW.c:eW:=fun l=>match l with
 | [.sl .ws a,.sl .ws b,.i .i64 e] => .eM (Nt.is a&&Nt.is b&&decide (-4096≤e∧e≤4096∧0<Nt.val b∧Nr.iR (Nt.val a) e<2 ^ 4090∧Nr.iC (Nt.val b) e<2 ^ 4090∧Nr.iR (Nt.val a) e<2 ^ 60 * Nr.iC (Nt.val b) e)) [(.u64 (UInt64.ofNat (Nr.um (Nr.iR (Nt.val a) e) (Nr.iC (Nt.val b) e)))),(.b (Nr.lx (Nr.iR (Nt.val a) e) (Nr.iC (Nt.val b) e)))]
 | _ => .err
def cJ.sg:c7:={ bO:=2 }
def cJ.c:eW:=fun l=>match l with
 | [.sl .ws a,.sl .ws b] => .eM (Nt.is a&&Nt.is b&&decide (0<Nt.val a∧0<Nt.val b∧Nt.val a<2 ^ 1100∧Nt.val b<2 ^ 2200)) [(.u64 (Nr.pat (Nr.gf (Nt.val a) (Nt.val b)))),(.b ((Nr.gf (Nt.val a) (Nt.val b)).isSome))]
 | _ => .err
def cV.sg:c7:={ bO:=2 }
def cV.c:eW:=fun l=>match l with
 | [.s d,.i .i64 x] => .ok [(.u64 (Nr.pat (Nr.read d x))),(.b ((Nr.read d x).isSome))]
 | _ => .err
def l6.sg:c7:={}
def l6.c:eW:=fun l=>match l with
 | [.s s] => .eM (decide (1≤(Nr.signed s).length∧(s).length≤300)&&(Nr.signed s).all Nr.eo) [(.i .i64 (Nr.ZS s))]
 | _ => .err
def k8.sg:c7:={ bO:=2 }
def k8.c:eW:=fun l=>match l with
 | [.s s] => .eM (decide ((s).length≤1099511627776)) [(.u64 ((Nr.parse s).1)),(.i .i64 ((Nr.parse s).2))]
 | _ => .err
def nA.sg:c7:={}
def nA.c:eW:=fun l=>match l with
 | [.s s,.i .i64 at_,.u8 c,.u8 d] => .eM (decide ((s).length≤1099511627776)&&decide (0≤at_)) [(.b ((decide (at_<(s).length)&&(decide ((s).getD (at_).toNat 0=c) || decide ((s).getD (at_).toNat 0=d)))))]
 | _ => .err
def k9.sg:c7:={}
def k9.c:eW:=fun l=>match l with
 | [.s s,.i .i64 at_] => .eM (decide ((s).length≤1099511627776)&&decide (0≤at_∧at_≤1099511627776)) [(.i .i64 ((at_+(Nr.run ((s).drop (at_).toNat):Int))))]
 | _ => .err
def kk.sg:c7:={}
def kk.c:eW:=fun l=>match l with
 | [.s s] => .eM (decide ((s).length≤1099511627776)) [(.i .i64 (Nr.Lv s))]
 | _ => .err
def l7.sg:c7:={}
def l7.c:eW:=fun l=>match l with
 | [.s s] => .eM (decide ((s).length≤1099511627776)) [(.i .i64 ((Nr.run s:Int)))]
 | _ => .err
def cd.sg:c7:={}
def cd.c:eW:=fun l=>match l with
 | [.s s] => .eM (decide ((s).length≤1099511627776)) [(.i .i64 (Nr.Lv s))]
 | _ => .err
def dn.sg:c7:={ bO:=4 }
def dn.c:eW:=fun l=>match l with
 | [.u64 b] => .ok [(.i .i64 ((Nr.split b).1)),(.b ((Nr.split b).2.1)),(.u64 ((Nr.split b).2.2.1)),(.i .i64 ((Nr.split b).2.2.2))]
 | _ => .err
def dc.sg:c7:={ bO:=4 }
def dc.c:eW:=fun l=>match l with
 | [.u64 b] => .ok [(.i .i64 ((Nr.split b).1)),(.b ((Nr.split b).2.1)),(.u64 ((Nr.split b).2.2.1)),(.i .i64 ((Nr.split b).2.2.2))]
 | _ => .err
def bY.sg:c7:={}
def bY.c:eW:=fun l=>match l with
 | [.sl .ws a,.sl .ws b] => .eM (Nt.is a&&Nt.is b) [(.sl .ws (Nt.of (Nt.val a+Nt.val b)))]
 | _ => .err
def cm.sg:c7:={}
def cm.c:eW:=fun l=>match l with
 | [.sl .ws a] => .eM (Nt.is a) [(.s (Sh.pX (Nt.val a)))]
 | _ => .err
def gM.sg:c7:={}
def gM.c:eW:=fun l=>match l with
 | [.s s,.i .i64 n] => .eM (decide (s=[48]∧0≤n∧n≤100)) [(.s (Sh.fF n))]
 | _ => .err
def lU.sg:c7:={}
def lU.c:eW:=fun l=>match l with
 | [.sl .ss l,.s s] => .eM (decide (s=[]∧(l).length≤100000∧(l).flatten.length≤100000)) [(.s ((l).flatten))]
 | _ => .err
def lX.sg:c7:={}
def lX.c:eW:=fun l=>match l with
 | [.i .i64 v] => .eM (Nr.i64 v) [(.s (Nr.itoa v))]
 | _ => .err
def gx.sg:c7:={}
def gx.c:eW:=fun l=>match l with
 | [.i .i64 v,.i .i64 b] => .eM (Nr.i64 v&&decide (b=10)) [(.s (Nr.itoa v))]
 | _ => .err
def gV.sg:c7:={ bO:=0,ps:=some (2000,1) }
def gV.c:eW:=fun l=>match l with
 | [.sl .ss l] => .eM (decide ((l).length≤100000)) [(.sl .ss ((l).reverse))]
 | _ => .err
def dL.sg:c7:={}
def dL.c:eW:=fun l=>match l with
 | [.i .i64 v] => .eM (Nr.i64 v) [(.s (Nr.itoa v))]
 | _ => .err
def dD.sg:c7:={ bO:=2 }
def dD.c:eW:=fun l=>match l with
 | [.sl .ws a,.sl .ws b,.i .i64 k] => .eM (Nt.is a&&Nt.is b&&decide (-400≤k∧k≤400∧Nt.val a<2 ^ 1100∧Nt.val b<2 ^ 1100)) [(.sl .ws (Nt.of (Sh.tA (Nt.val a) k))),(.sl .ws (Nt.of (Sh.tB (Nt.val b) k)))]
 | _ => .err
def dm.sg:c7:={}
def dm.c:eW:=fun l=>match l with
 | [.sl .ws a,.sl .ws b,.i .i64 x] => .eM (Nt.is a&&Nt.is b&&decide (-400≤x∧x≤400∧Nt.val a<2 ^ 1100∧Nt.val b<2 ^ 1100)) [(.b (decide (Sh.tB (Nt.val b) (-x)≤Sh.tA (Nt.val a) (-x))))]
 | _ => .err
def dj.sg:c7:={ bO:=3 }
def dj.c:eW:=fun l=>match l with
 | [.u64 b,.sl .ws a,.i .i64 p] => .eM (Nt.is a&&decide (-1000≤p∧p≤1000∧0<Nt.val a∧Nt.val a<10 ^ 200)) [(.s (((Sh.iX (b).toNat (Nt.val a) p).getD ([],0)).1)),(.i .i64 (((Sh.iX (b).toNat (Nt.val a) p).getD ([],0)).2)),(.b ((Sh.iX (b).toNat (Nt.val a) p).isSome))]
 | _ => .err
def dM.sg:c7:={ bO:=3 }
def dM.c:eW:=fun l=>match l with
 | [.u64 b,.sl .ws p,.sl .ws q,.i .i64 x,.i .i64 n] => .eM (Nt.is p&&Nt.is q&&Sh.ng (Nt.val p) (Nt.val q) x n) [(.s (((Sh.mJ (b).toNat (Nt.val p) (Nt.val q) x n).getD ([],0)).1)),(.i .i64 (((Sh.mJ (b).toNat (Nt.val p) (Nt.val q) x n).getD ([],0)).2)),(.b ((Sh.mJ (b).toNat (Nt.val p) (Nt.val q) x n).isSome))]
 | _ => .err
def bJ.sg:c7:={ bO:=3 }
def bJ.c:eW:=fun l=>match l with
 | [.u64 b] => .ok [(.s ((Sh.dg b).1)),(.i .i64 ((Sh.dg b).2.1)),(.b ((Sh.dg b).2.2))]
 | _ => .err
def cU.sg:c7:={}
def cU.c:eW:=fun l=>match l with
 | [.s d,.i .i64 x] => .eM (decide (1≤(d).length∧(d).length≤17∧-900≤x∧x≤900)) [(.s (Sh.yY d x))]
 | _ => .err
def cR.sg:c7:={}
def cR.c:eW:=fun l=>match l with
 | [.u64 b] => .ok [(.s (Sh.text b))]
 | _ => .err
def bQ.env:EV:=[]
def bQ.E:eD:=cZ nrGl bQ.env
def bQ.m1:TM:=oS [oV 2 7,oV 0 8,oK (.k (.ci .u8)) [8] [9],oX (.k .si) [.c (.s ([0,1,2,2,3,3,3,3,4,4,4,4,4,4,4,4,5,5,5,5,5,5,5,5,5,5,5,5,5,5,5,5,6,6,6,6,6,6,6,6,6,6,6,6,6,6,6,6,6,6,6,6,6,6,6,6,6,6,6,6,6,6,6,6,7,7,7,7,7,7,7,7,7,7,7,7,7,7,7,7,7,7,7,7,7,7,7,7,7,7,7,7,7,7,7,7,7,7,7,7,7,7,7,7,7,7,7,7,7,7,7,7,7,7,7,7,7,7,7,7,7,7,7,7,7,7,7,7,8,8,8,8,8,8,8,8,8,8,8,8,8,8,8,8,8,8,8,8,8,8,8,8,8,8,8,8,8,8,8,8,8,8,8,8,8,8,8,8,8,8,8,8,8,8,8,8,8,8,8,8,8,8,8,8,8,8,8,8,8,8,8,8,8,8,8,8,8,8,8,8,8,8,8,8,8,8,8,8,8,8,8,8,8,8,8,8,8,8,8,8,8,8,8,8,8,8,8,8,8,8,8,8,8,8,8,8,8,8,8,8,8,8,8,8,8,8,8,8,8,8,8,8,8,8,8,8]:bT)),.s 9] [10],oK (.k (.ci .i64)) [10] [11],oB .add 7 11 12,oV 12 2] .ret
def bQ.m:TM:=oS [oW (.i .i64 0) 2] (.seq (oS [oV 0 3,oI .geq 3 (.u16 256) 4] (.cond (.s 4) [] (oS [oV 0 5,oI .shr 5 (.u64 8) 6,oV 6 0] (.eZ [oW (.i .i64 8) 2])) .skip)) (some [0,2]) bQ.m1)
def bQ.d:gS:=D0 1 bQ.m [.t 2]
def bQ.F (x:UInt16):OT:=bQ.d.run bQ.E [(.u16 x)]
def bQ.j1 (x0:UInt16) (x1:Int):OT:=fQ _ bQ.E bQ.m1 (cS [0,2] [(.u16 x0),(.i .i64 x1)]) (fK bQ.d)
theorem bQ.kF (x0:UInt16) (x1:Int) {ρ:OT} (K:∀(v1:UInt8) (h1:v1=(UInt8.ofInt ((x0).toNat:Int))) (v2:UInt8) (h2:v2=(List.getD ([0,1,2,2,3,3,3,3,4,4,4,4,4,4,4,4,5,5,5,5,5,5,5,5,5,5,5,5,5,5,5,5,6,6,6,6,6,6,6,6,6,6,6,6,6,6,6,6,6,6,6,6,6,6,6,6,6,6,6,6,6,6,6,6,7,7,7,7,7,7,7,7,7,7,7,7,7,7,7,7,7,7,7,7,7,7,7,7,7,7,7,7,7,7,7,7,7,7,7,7,7,7,7,7,7,7,7,7,7,7,7,7,7,7,7,7,7,7,7,7,7,7,7,7,7,7,7,7,8,8,8,8,8,8,8,8,8,8,8,8,8,8,8,8,8,8,8,8,8,8,8,8,8,8,8,8,8,8,8,8,8,8,8,8,8,8,8,8,8,8,8,8,8,8,8,8,8,8,8,8,8,8,8,8,8,8,8,8,8,8,8,8,8,8,8,8,8,8,8,8,8,8,8,8,8,8,8,8,8,8,8,8,8,8,8,8,8,8,8,8,8,8,8,8,8,8,8,8,8,8,8,8,8,8,8,8,8,8,8,8,8,8,8,8,8,8,8,8,8,8,8,8,8,8,8,8]:bT) (((v1).toNat:Int)).toNat (0:UInt8))) (v3:Int) (h3:v3=(IntKind.i64.wrap ((v2).toNat:Int))),ck (cq ((v1).toNat:Int) (([0,1,2,2,3,3,3,3,4,4,4,4,4,4,4,4,5,5,5,5,5,5,5,5,5,5,5,5,5,5,5,5,6,6,6,6,6,6,6,6,6,6,6,6,6,6,6,6,6,6,6,6,6,6,6,6,6,6,6,6,6,6,6,6,7,7,7,7,7,7,7,7,7,7,7,7,7,7,7,7,7,7,7,7,7,7,7,7,7,7,7,7,7,7,7,7,7,7,7,7,7,7,7,7,7,7,7,7,7,7,7,7,7,7,7,7,7,7,7,7,7,7,7,7,7,7,7,7,8,8,8,8,8,8,8,8,8,8,8,8,8,8,8,8,8,8,8,8,8,8,8,8,8,8,8,8,8,8,8,8,8,8,8,8,8,8,8,8,8,8,8,8,8,8,8,8,8,8,8,8,8,8,8,8,8,8,8,8,8,8,8,8,8,8,8,8,8,8,8,8,8,8,8,8,8,8,8,8,8,8,8,8,8,8,8,8,8,8,8,8,8,8,8,8,8,8,8,8,8,8,8,8,8,8,8,8,8,8,8,8,8,8,8,8,8,8,8,8,8,8,8,8,8,8,8,8]:bT)).length) (some [(.i .i64 (IntKind.i64.wrap (x1+v3)))])=ρ):bQ.j1 x0 x1=ρ:=((congrFun (congrFun (ie _ _) _) _).trans (by kernel_rfl)).trans (K _ rfl _ rfl _ rfl)
theorem bQ.dZ (x:UInt16) {ρ:OT} (K:∀(v1:UInt16) (h1:v1=(qu x (((8:UInt64)).toNat))),cond (decide ((256:UInt16)≤x))
  (bQ.j1 v1 (8:Int))
  (bQ.j1 x (0:Int))=ρ):bQ.F x=ρ:=Eq.trans (by kernel_rfl) (K _ rfl)
theorem bQ.eJ:CK 44 bQ.env bQ.d:=fE (by kernel_rfl)
def bits_Len64.env:EV:=[]
def bits_Len64.E:eD:=cZ nrGl bits_Len64.env
def bits_Len64.m1:TM:=oS [oV 2 19,oV 0 20,oK (.k (.ci .u8)) [20] [21],oX (.k .si) [.c (.s ([0,1,2,2,3,3,3,3,4,4,4,4,4,4,4,4,5,5,5,5,5,5,5,5,5,5,5,5,5,5,5,5,6,6,6,6,6,6,6,6,6,6,6,6,6,6,6,6,6,6,6,6,6,6,6,6,6,6,6,6,6,6,6,6,7,7,7,7,7,7,7,7,7,7,7,7,7,7,7,7,7,7,7,7,7,7,7,7,7,7,7,7,7,7,7,7,7,7,7,7,7,7,7,7,7,7,7,7,7,7,7,7,7,7,7,7,7,7,7,7,7,7,7,7,7,7,7,7,8,8,8,8,8,8,8,8,8,8,8,8,8,8,8,8,8,8,8,8,8,8,8,8,8,8,8,8,8,8,8,8,8,8,8,8,8,8,8,8,8,8,8,8,8,8,8,8,8,8,8,8,8,8,8,8,8,8,8,8,8,8,8,8,8,8,8,8,8,8,8,8,8,8,8,8,8,8,8,8,8,8,8,8,8,8,8,8,8,8,8,8,8,8,8,8,8,8,8,8,8,8,8,8,8,8,8,8,8,8,8,8,8,8,8,8,8,8,8,8,8,8,8,8,8,8,8,8]:bT)),.s 21] [22],oK (.k (.ci .i64)) [22] [23],oB .add 19 23 24,oV 24 2] .ret
def bits_Len64.m2:TM := .seq (oS [oV 0 13,oI .geq 13 (.u64 256) 14] (.cond (.s 14) [] (oS [oV 0 15,oI .shr 15 (.u64 8) 16,oV 16 0] (.eZ [oV 2 17,oI .add 17 (.i .i64 8) 18,oV 18 2])) .skip)) (some [0,2]) bits_Len64.m1
def bits_Len64.m3:TM := .seq (oS [oV 0 7,oI .geq 7 (.u64 65536) 8] (.cond (.s 8) [] (oS [oV 0 9,oI .shr 9 (.u64 16) 10,oV 10 0] (.eZ [oV 2 11,oI .add 11 (.i .i64 16) 12,oV 12 2])) .skip)) (some [0,2]) bits_Len64.m2
def bits_Len64.m:TM:=oS [oW (.i .i64 0) 2] (.seq (oS [oV 0 3,oI .geq 3 (.u64 4294967296) 4] (.cond (.s 4) [] (oS [oV 0 5,oI .shr 5 (.u64 32) 6,oV 6 0] (.eZ [oW (.i .i64 32) 2])) .skip)) (some [0,2]) bits_Len64.m3)
def bits_Len64.d:gS:=D0 1 bits_Len64.m [.t 2]
def bits_Len64.F (x:UInt64):OT:=bits_Len64.d.run bits_Len64.E [(.u64 x)]
def bits_Len64.j1 (x0:UInt64) (x1:Int):OT:=fQ _ bits_Len64.E bits_Len64.m3 (cS [0,2] [(.u64 x0),(.i .i64 x1)]) (fK bits_Len64.d)
def bits_Len64.j2 (x0:UInt64) (x1:Int):OT:=fQ _ bits_Len64.E bits_Len64.m2 (cS [0,2] [(.u64 x0),(.i .i64 x1)]) (fK bits_Len64.d)
def bits_Len64.j3 (x0:UInt64) (x1:Int):OT:=fQ _ bits_Len64.E bits_Len64.m1 (cS [0,2] [(.u64 x0),(.i .i64 x1)]) (fK bits_Len64.d)
theorem bits_Len64.kF (x0:UInt64) (x1:Int) {ρ:OT} (K:∀(v1:UInt64) (h1:v1=(iI x0 (((16:UInt64)).toNat))) (v2:Int) (h2:v2=(IntKind.i64.wrap (x1+(16:Int)))),cond (decide ((65536:UInt64)≤x0))
  (bits_Len64.j2 v1 v2)
  (bits_Len64.j2 x0 x1)=ρ):bits_Len64.j1 x0 x1=ρ:=((congrFun (congrFun (ie _ _) _) _).trans (by kernel_rfl)).trans (K _ rfl _ rfl)
theorem bits_Len64.vV (x0:UInt64) (x1:Int) {ρ:OT} (K:∀(v1:UInt64) (h1:v1=(iI x0 (((8:UInt64)).toNat))) (v2:Int) (h2:v2=(IntKind.i64.wrap (x1+(8:Int)))),cond (decide ((256:UInt64)≤x0))
  (bits_Len64.j3 v1 v2)
  (bits_Len64.j3 x0 x1)=ρ):bits_Len64.j2 x0 x1=ρ:=((congrFun (congrFun (ie _ _) _) _).trans (by kernel_rfl)).trans (K _ rfl _ rfl)
theorem bits_Len64.FA (x0:UInt64) (x1:Int) {ρ:OT} (K:∀(v1:UInt8) (h1:v1=(UInt8.ofInt ((x0).toNat:Int))) (v2:UInt8) (h2:v2=(List.getD ([0,1,2,2,3,3,3,3,4,4,4,4,4,4,4,4,5,5,5,5,5,5,5,5,5,5,5,5,5,5,5,5,6,6,6,6,6,6,6,6,6,6,6,6,6,6,6,6,6,6,6,6,6,6,6,6,6,6,6,6,6,6,6,6,7,7,7,7,7,7,7,7,7,7,7,7,7,7,7,7,7,7,7,7,7,7,7,7,7,7,7,7,7,7,7,7,7,7,7,7,7,7,7,7,7,7,7,7,7,7,7,7,7,7,7,7,7,7,7,7,7,7,7,7,7,7,7,7,8,8,8,8,8,8,8,8,8,8,8,8,8,8,8,8,8,8,8,8,8,8,8,8,8,8,8,8,8,8,8,8,8,8,8,8,8,8,8,8,8,8,8,8,8,8,8,8,8,8,8,8,8,8,8,8,8,8,8,8,8,8,8,8,8,8,8,8,8,8,8,8,8,8,8,8,8,8,8,8,8,8,8,8,8,8,8,8,8,8,8,8,8,8,8,8,8,8,8,8,8,8,8,8,8,8,8,8,8,8,8,8,8,8,8,8,8,8,8,8,8,8,8,8,8,8,8,8]:bT) (((v1).toNat:Int)).toNat (0:UInt8))) (v3:Int) (h3:v3=(IntKind.i64.wrap ((v2).toNat:Int))),ck (cq ((v1).toNat:Int) (([0,1,2,2,3,3,3,3,4,4,4,4,4,4,4,4,5,5,5,5,5,5,5,5,5,5,5,5,5,5,5,5,6,6,6,6,6,6,6,6,6,6,6,6,6,6,6,6,6,6,6,6,6,6,6,6,6,6,6,6,6,6,6,6,7,7,7,7,7,7,7,7,7,7,7,7,7,7,7,7,7,7,7,7,7,7,7,7,7,7,7,7,7,7,7,7,7,7,7,7,7,7,7,7,7,7,7,7,7,7,7,7,7,7,7,7,7,7,7,7,7,7,7,7,7,7,7,7,8,8,8,8,8,8,8,8,8,8,8,8,8,8,8,8,8,8,8,8,8,8,8,8,8,8,8,8,8,8,8,8,8,8,8,8,8,8,8,8,8,8,8,8,8,8,8,8,8,8,8,8,8,8,8,8,8,8,8,8,8,8,8,8,8,8,8,8,8,8,8,8,8,8,8,8,8,8,8,8,8,8,8,8,8,8,8,8,8,8,8,8,8,8,8,8,8,8,8,8,8,8,8,8,8,8,8,8,8,8,8,8,8,8,8,8,8,8,8,8,8,8,8,8,8,8,8,8]:bT)).length) (some [(.i .i64 (IntKind.i64.wrap (x1+v3)))])=ρ):bits_Len64.j3 x0 x1=ρ:=((congrFun (congrFun (ie _ _) _) _).trans (by kernel_rfl)).trans (K _ rfl _ rfl _ rfl)
theorem bits_Len64.dZ (x:UInt64) {ρ:OT} (K:∀(v1:UInt64) (h1:v1=(iI x (((32:UInt64)).toNat))),cond (decide ((4294967296:UInt64)≤x))
  (bits_Len64.j1 v1 (32:Int))
  (bits_Len64.j1 x (0:Int))=ρ):bits_Len64.F x=ρ:=Eq.trans (by kernel_rfl) (K _ rfl)
theorem bits_Len64.eJ:CK 97 bits_Len64.env bits_Len64.d:=fE (by kernel_rfl)
def nr.env:EV:=[(103,(ua.c,ua.sg))]
def nr.E:eD:=cZ nrGl nr.env
def nr.m:TM:=oS [oW (.s []) 4,oW (.s []) 5,oW (.b false) 6] (.seq (oS [oV 0 8,oV 1 9,oC 103 2 1 [8,9] 10,oV 10 7] (oS [oV 7 11,oI .geq 11 (.i .i64 0) 12] (.cond (.s 12) [] (oS [oV 0 13,oV 7 14,oK (.k (.ss false true)) [13,14] [15],oV 0 16,oV 7 17,oV 1 18,oK (.k .vT) [18] [19],oB .add 17 19 20,oK (.k (.ss true false)) [16,20] [21],oV 15 4,oV 21 5,oW (.b true) 6] .ret) .skip))) none (oS [oV 0 22,oV 22 4,oW (.s []) 5,oW (.b false) 6] .ret))
def nr.d:gS:=D0 2 nr.m [.t 4,.t 5,.t 6]
def nr.F (s:bT) (c:bT):OT:=nr.d.run nr.E [(.s s),(.s c)]
theorem nr.dZ (s:bT) (c:bT) {ρ:OT} (K:∀(v1:bT) (h1:v1=(List.take ((Lib.indexByte s 46)).toNat s)) (v2:Int) (h2:v2=(IntKind.i64.wrap ((Lib.indexByte s 46)+((c).length:Int)))),ck (decide ((s).length≤4294967280∧c=[46])) (cond (decide ((0:Int)≤(Lib.indexByte s 46)))
  (ck (gN 0 (Lib.indexByte s 46) (s).length) (ck (gN v2 (s).length (s).length) (some [(.s v1),(.s (List.drop (v2).toNat s)),(.b true)])))
  (some [(.s s),(.s []),(.b false)]))=ρ):nr.F s c=ρ:=Eq.trans (by kernel_rfl) (K _ rfl _ rfl)
theorem nr.eJ:CK 73 nr.env nr.d:=fE (by kernel_rfl)
def l8.env:EV:=[(73,(nr.c,nr.sg))]
def l8.E:eD:=cZ nrGl l8.env
def l8.m:TM:=oS [oW (.s []) 4,oW (.s []) 5,oW (.b false) 6] (oS [oV 0 7,oV 1 8,oC 73 2 3 [7,8] 9,oE 0 9 10,oE 1 9 11,oE 2 9 12,oV 10 4,oV 11 5,oV 12 6] .ret)
def l8.d:gS:=D0 2 l8.m [.t 4,.t 5,.t 6]
def l8.F (s:bT) (c:bT):OT:=l8.d.run l8.E [(.s s),(.s c)]
theorem l8.dZ (s:bT) (c:bT) {ρ:OT} (K:∀(v1:bT) (h1:v1=((((s).dropWhile (· != 46)).drop 1))),ck (decide ((s).length≤4294967280∧c=[46])) (some [(.s (((s).takeWhile (· != 46)))),(.s v1),(.b (((s).contains 46)))])=ρ):l8.F s c=ρ:=Eq.trans (by kernel_rfl) (K _ rfl)
theorem l8.eJ:CK 40 l8.env l8.d:=fE (by kernel_rfl)
theorem jd.ok:KO 75 (jd.c) jd.sg:=GJ (by kernel_rfl)
def cM.env:EV:=[]
def cM.E:eD:=cZ nrGl cM.env
def cM.m:TM:=oS [oW (.c (.float .f64 (0:Nat))) 2] (.seq (.cond (.c (.b true)) [] (oS [oV 0 3,oK (.k .MP) [3] [4],oV 4 2] .ret) .skip) none (oS [oV 0 5,oC 140 1 1 [5] 6,oV 6 2] .ret))
def cM.d:gS:=D0 1 cM.m [.t 2]
def cM.F (x:Nat):OT:=cM.d.run cM.E [(.c (.float .f64 x))]
theorem cM.jq (x:Nat):cM.F x=cond true
  (ck (Fl.num x) (some [(.c (.float .f64 (Fl.iH x)))]))
  (none):=by kernel_rfl
theorem cM.eJ:CK 130 cM.env cM.d:=fE (by kernel_rfl)
def dq.env:EV:=[(119,(gz.c,gz.sg))]
def dq.E:eD:=cZ nrGl dq.env
def dq.m:TM:=oS [oW (.b false) 2] (oS [oV 0 3,oX (.k (.call 119 (.plain 2 1))) [.s 3,.c (.c (.float .f64 (4719772409484279808:Nat)))] [4],oV 4 2] .ret)
def dq.d:gS:=D0 1 dq.m [.t 2]
def dq.F (z:Cx):OT:=dq.d.run dq.E [(.c (.complex .f64 z.1 z.2))]
theorem dq.jq (z:Cx):dq.F z=ck (Gz.LJ z ((4719772409484279808:Nat))) (some [(.b (true))]):=by kernel_rfl
theorem dq.eJ:CK 116 dq.env dq.d:=fE (by kernel_rfl)
def fP.env:EV:=[]
def fP.E:eD:=cZ nrGl fP.env
def fP.m:TM:=oS [oW (.c (.complex .f64 ((0,0):Cx).1 ((0,0):Cx).2)) 4] (.seq (oS [oV 0 5,oI .lss 5 (.i .i64 (-33554432)) 6,oV 6 7,oG 7 false (oV 0 8),oG 7 false (oI .gtr 8 (.i .i64 33554432) 9),oX (.k .pick) [.s 7,.c (.b true),.s 9] [10],oV 10 11,oG 11 false (oV 1 12),oG 11 false (oI .lss 12 (.i .i64 (-33554432)) 13),oX (.k .pick) [.s 11,.c (.b true),.s 13] [14],oV 14 15,oG 15 false (oV 1 16),oG 15 false (oI .gtr 16 (.i .i64 33554432) 17),oX (.k .pick) [.s 15,.c (.b true),.s 17] [18]] (.cond (.s 18) [] (oS [oW (.c (.complex .f64 ((0,0):Cx).1 ((0,0):Cx).2)) 4] .ret) .skip)) none (oS [oV 0 19,oK (.k .cf) [19] [20],oV 1 21,oK (.k .cf) [21] [22],oK (.k .cx) [20,22] [23],oV 23 4] .ret))
def fP.d:gS:=D0 2 fP.m [.t 4]
def fP.F (x:Int) (y:Int):OT:=fP.d.run fP.E [(.i .i64 x),(.i .i64 y)]
theorem fP.dZ (x:Int) (y:Int) {ρ:OT} (K:∀(v1:Bool) (h1:v1=(cond (decide (x<(-33554432:Int))) true (decide ((33554432:Int)<x)))) (v2:Bool) (h2:v2=(cond v1 true (decide (y<(-33554432:Int))))) (v3:Bool) (h3:v3=(cond v2 true (decide ((33554432:Int)<y)))) (v4:Cx) (h4:v4=(((Fl.ofInt x),(Fl.ofInt y)):Cx)),ck (!(!(decide (x<(-33554432:Int)))) || (!(decide (x<(-33554432:Int))))) (ck ((decide (x<(-33554432:Int))) || (!(decide (x<(-33554432:Int))))) (ck (!(!v1) || (!v1)) (ck (v1 || (!v1)) (ck (!(!v2) || (!v2)) (ck (v2 || (!v2)) (cond v3
  (some [(.c (.complex .f64 ((0,0):Cx).1 ((0,0):Cx).2))])
  (some [(.c (.complex .f64 v4.1 v4.2))])))))))=ρ):fP.F x y=ρ:=Eq.trans (by kernel_rfl) (K _ rfl _ rfl _ rfl _ rfl)
theorem fP.eJ:CK 114 fP.env fP.d:=fE (by kernel_rfl)
def db.env:EV:=[(119,(gz.c,gz.sg))]
def db.E:eD:=cZ nrGl db.env
def db.m:TM:=oS [oW (.i .i64 0) 2,oW (.i .i64 0) 3,oW (.b false) 4] (.seq (oS [oV 0 5,oX (.k (.call 119 (.plain 2 1))) [.s 5,.c (.c (.float .f64 (4841369599423283200:Nat)))] [6],oK (.k (.un .not)) [6] [7]] (.cond (.s 7) [] (oS [oW (.i .i64 0) 2,oW (.i .i64 0) 3,oW (.b false) 4] .ret) .skip)) none (oS [oV 0 8,oK (.k .rl) [8] [9],oK (.k .fc) [9] [10],oV 0 11,oK (.k .im) [11] [12],oK (.k .fc) [12] [13],oV 10 2,oV 13 3,oW (.b true) 4] .ret))
def db.d:gS:=D0 1 db.m [.t 2,.t 3,.t 4]
def db.F (z:Cx):OT:=db.d.run db.E [(.c (.complex .f64 z.1 z.2))]
theorem db.jq (z:Cx):db.F z=ck (Gz.LJ z ((4841369599423283200:Nat))) (cond (!(true))
  (some [(.i .i64 0),(.i .i64 0),(.b false)])
  (ck (Fl.lR z.1) (ck (Fl.lR z.2) (some [(.i .i64 (Fl.toInt z.1)),(.i .i64 (Fl.toInt z.2)),(.b true)])))):=by kernel_rfl
theorem db.eJ:CK 94 db.env db.d:=fE (by kernel_rfl)
def dO.env:EV:=[(119,(gz.c,gz.sg))]
def dO.E:eD:=cZ nrGl dO.env
def dO.m:TM:=oS [oW (.c (.complex .f64 ((0,0):Cx).1 ((0,0):Cx).2)) 4] (.seq (oS [oV 0 6,oX (.k (.call 119 (.plain 2 1))) [.s 6,.c (.c (.float .f64 (4841369599423283200:Nat)))] [7],oK (.k (.un .not)) [7] [8]] (.cond (.s 8) [] (oS [oW (.c (.complex .f64 ((0,0):Cx).1 ((0,0):Cx).2)) 4] .ret) .skip)) none (oS [oX (.bd [(.c (.complex .f64 ((0,0):Cx).1 ((0,0):Cx).2)),(.c (.complex .f64 ((0,0):Cx).1 ((0,0):Cx).2)),(.c (.complex .f64 ((0,0):Cx).1 ((0,0):Cx).2)),(.c (.complex .f64 ((0,0):Cx).1 ((0,0):Cx).2))] [(0,1),(1,1),(2,1),(3,1)]) [.c (.c (.complex .f64 ((4607182418800017408,0):Cx).1 ((4607182418800017408,0):Cx).2)),.c (.c (.complex .f64 ((0,4607182418800017408):Cx).1 ((0,4607182418800017408):Cx).2)),.c (.c (.complex .f64 ((13830554455654793216,0):Cx).1 ((13830554455654793216,0):Cx).2)),.c (.c (.complex .f64 ((0,13830554455654793216):Cx).1 ((0,13830554455654793216):Cx).2))] [9],oN 1016 [(.c (.complex .f64 ((0,0):Cx).1 ((0,0):Cx).2)),(.c (.complex .f64 ((0,0):Cx).1 ((0,0):Cx).2)),(.c (.complex .f64 ((0,0):Cx).1 ((0,0):Cx).2)),(.c (.complex .f64 ((0,0):Cx).1 ((0,0):Cx).2))] 5,oT 1016 0 4 5 9] (oS [oV 0 10,oV 1 11,oI .and 11 (.i .i64 3) 12,oK (.k (.la 1016 4 1)) [5,12,1016] [13],oK (.k (.ll 1016 1)) [13,1016] [14],oB .mul 10 14 15,oV 15 4] .ret)))
def dO.d:gS:=D0 2 dO.m [.t 4]
def dO.F (z:Cx) (k:Int):OT:=dO.d.run dO.E [(.c (.complex .f64 z.1 z.2)),(.i .i64 k)]
theorem dO.dZ (z:Cx) (k:Int) {ρ:OT} (K:∀(v1:Cx) (h1:v1=((4607182418800017408,0):Cx)) (v2:Cx) (h2:v2=((0,4607182418800017408):Cx)) (v3:Cx) (h3:v3=((13830554455654793216,0):Cx)) (v4:Cx) (h4:v4=((0,13830554455654793216):Cx)) (v5:Int) (h5:v5=(dN .and .i64 k (3:Int))) (v6:Cx) (h6:v6=(List.getD ([v1,v2,v3,v4]:List Cx) ((v5).toNat) (0,0))) (v7:Cx) (h7:v7=((Fl.sx z.1 z.2 v6.1 v6.2,Fl.sy z.1 z.2 v6.1 v6.2):Cx)),ck (Gz.LJ z ((4841369599423283200:Nat))) (cond (!(true))
  (some [(.c (.complex .f64 ((0,0):Cx).1 ((0,0):Cx).2))])
  (ck (cq v5 4) (ck (decide ((v5).toNat<4)) (ck (Fl.oZ z.1 z.2 v6.1 v6.2) (some [(.c (.complex .f64 v7.1 v7.2))])))))=ρ):dO.F z k=ρ:=Eq.trans (by kernel_rfl) (K _ rfl _ rfl _ rfl _ rfl _ rfl _ rfl _ rfl)
theorem dO.eJ:CK 131 dO.env dO.d:=fE (by kernel_rfl)
def dr.env:EV:=[(116,(dq.c,dq.sg))]
def dr.E:eD:=cZ nrGl dr.env
def dr.m:TM:=oS [oW (.c (.complex .f64 ((0,0):Cx).1 ((0,0):Cx).2)) 4] (.seq (oS [oV 0 5,oC 116 1 1 [5] 6,oK (.k (.un .not)) [6] [7],oV 7 8,oG 8 false (oV 1 9),oG 8 false (oC 116 1 1 [9] 10),oG 8 false (oK (.k (.un .not)) [10] [11]),oX (.k .pick) [.s 8,.c (.b true),.s 11] [12]] (.cond (.s 12) [] (oS [oW (.c (.complex .f64 ((0,0):Cx).1 ((0,0):Cx).2)) 4] .ret) .skip)) none (oS [oV 0 13,oV 1 14,oB .mul 13 14 15,oV 15 4] .ret))
def dr.d:gS:=D0 2 dr.m [.t 4]
def dr.F (z:Cx) (w:Cx):OT:=dr.d.run dr.E [(.c (.complex .f64 z.1 z.2)),(.c (.complex .f64 w.1 w.2))]
theorem dr.dZ (z:Cx) (w:Cx) {ρ:OT} (K:∀(v1:Bool) (h1:v1=(cond (!(true)) true (!(true)))) (v2:Cx) (h2:v2=((Fl.sx z.1 z.2 w.1 w.2,Fl.sy z.1 z.2 w.1 w.2):Cx)),ck (Gz.sT z 33554432) (ck (!(!(!(true))) || ((!(!(true)))&&(Gz.sT w 33554432))) (ck (!(!(!(true))) || (!(!(true)))) (ck ((!(true)) || (!(!(true)))) (cond v1
  (some [(.c (.complex .f64 ((0,0):Cx).1 ((0,0):Cx).2))])
  (ck (Fl.oZ z.1 z.2 w.1 w.2) (some [(.c (.complex .f64 v2.1 v2.2))]))))))=ρ):dr.F z w=ρ:=Eq.trans (by kernel_rfl) (K _ rfl _ rfl)
theorem dr.eJ:CK 92 dr.env dr.d:=fE (by kernel_rfl)
def dJ.env:EV:=[(130,(cM.c,cM.sg))]
def dJ.E:eD:=cZ nrGl dJ.env
def dJ.m:TM:=oS [oW (.b false) 2] (oS [oV 0 3,oI .geq 3 (.c (.float .f64 (14055734437023318016:Nat))) 4,oV 4 5,oG 5 true (oV 0 6),oG 5 true (oI .leq 6 (.c (.float .f64 (4832362400168542208:Nat))) 7),oP 5 7 false 8,oV 8 9,oG 9 true (oV 0 10),oG 9 true (oV 0 11),oG 9 true (oC 130 1 1 [11] 12),oG 9 true (oB .eql 10 12 13),oP 9 13 false 14,oV 14 2] .ret)
def dJ.d:gS:=D0 1 dJ.m [.t 2]
def dJ.F (x:Nat):OT:=dJ.d.run dJ.E [(.c (.float .f64 x))]
theorem dJ.dZ (x:Nat) {ρ:OT} (K:∀(v1:Bool) (h1:v1=(Fl.gt x (14055734437023318016:Nat) || Fl.eq x (14055734437023318016:Nat))) (v2:Bool) (h2:v2=(Fl.lt x (4832362400168542208:Nat) || Fl.eq x (4832362400168542208:Nat))) (v3:Bool) (h3:v3=(cond (cond v1 v2 false) (Fl.eq x (Fl.iH x)) false)),ck (!v1 || v1) (ck (!v1 || v1) (ck (!(cond v1 v2 false) || ((cond v1 v2 false)&&(Fl.num x))) (ck (!(cond v1 v2 false) || ((cond v1 v2 false)&&(cond v1 v2 false))) (ck (!(cond v1 v2 false) || (cond v1 v2 false)) (some [(.b v3)])))))=ρ):dJ.F x=ρ:=Eq.trans (by kernel_rfl) (K _ rfl _ rfl _ rfl)
theorem dJ.eJ:CK 129 dJ.env dJ.d:=fE (by kernel_rfl)
def df.env:EV:=[(129,(dJ.c,dJ.sg))]
def df.E:eD:=cZ nrGl df.env
def df.m1:TM:=oS [oI .lss 7 (.i .i64 4) 8] (.seq (.cond (.s 8) [] .skip (.exit 0)) none (.seq (.block 1 [] (oS [oK (.k (.ai 4 1 false)) [6,7] [9],oV 9 5] (oS [oV 3 10,oV 5 11,oK (.k .rl) [11] [12],oK (.k (.re 129 1 1)) [10,12] [13],oK (.k (.un .not)) [13] [14],oV 14 15,oG 15 false (oV 3 16),oG 15 false (oV 5 17),oG 15 false (oK (.k .im) [17] [18]),oG 15 false (oK (.k (.re 129 1 1)) [16,18] [19]),oG 15 false (oK (.k (.un .not)) [19] [20]),oX (.k .pick) [.s 15,.c (.b true),.s 20] [21]] (.cond (.s 21) [] (oS [oW (.b false) 2] .ret) .skip)))) none (.eZ [oI .add 7 (.i .i64 1) 22,oV 22 7])))
def df.m:TM:=oS [oK (.k (.bx 1023)) [0,1023] [1,1023],oW (.b false) 2] (oS [oW (.c (.func (.func 129) #[] #[])) 3] (.seq (oS [oM 1023 0 4 1 6,oW (.i .i64 0) 7] (.block 0 [] (.loop [3,6,7] [] df.m1))) none (oS [oW (.b true) 2] .ret)))
def df.d:gS:=D0 1 df.m [.t 2]
def df.F (l:Qd):OT:=df.d.run df.E [(.ag (Qd.cells l))]
def df.k1:dI (List TV):=fG (ev _ df.E (oS [oW (.b true) 2] .ret)) none (fK df.d)
def df.l1 (x0:Qd) (x1:Int):OT:=eg (fQ _ df.E df.m1) jU [3,6,7] (cS [3,6,7] [(.c (.func (.func 129) #[] #[])),(.ag (Qd.cells x0)),(.i .i64 x1)]) (cG 0 df.k1)
theorem df.dE (x0:Qd) (x1:Int) {ρ:OT} (K:∀(v1:Bool) (h1:v1=(cond (!(true)) true (!(true)))) (v2:Int) (h2:v2=(IntKind.i64.wrap (x1+(1:Int)))),cond (decide (x1<(4:Int)))
  (ck (cq x1 4) (ck (Gz.Iz ((Qd.get x0 ((x1).toNat)).1)) (ck (!(!(!(true))) || (!(!(true)))) (ck (!(!(!(true))) || (((!(!(true)))&&(!(!(true))))&&(Gz.Iz ((Qd.get x0 ((x1).toNat)).2)))) (ck (!(!(!(true))) || (!(!(true)))) (ck ((!(true)) || (!(!(true)))) (cond v1
  (some [(.b false)])
  (df.l1 x0 v2))))))))
  (some [(.b true)])=ρ):df.l1 x0 x1=ρ:=((de _ _ _ _ _ _).trans (by kernel_rfl)).trans (K _ rfl _ rfl)
theorem df.jq (l:Qd):df.F l=df.l1 l (0:Int):=by kernel_rfl
theorem df.eJ:CK 117 df.env df.d:=fE (by kernel_rfl)
def bX.env:EV:=[(131,(dO.c,dO.sg))]
def bX.E:eD:=cZ nrGl bX.env
def bX.m1:TM:=oS [oI .lss 13 (.i .i64 4) 14] (.seq (.cond (.s 14) [] .skip (.exit 2)) none (.seq (.block 3 [(2,.ptr 1032 0),(4,.ptr 1033 0),(5,.ptr 1034 0),(1032,.cl []),(1033,.cl []),(1034,.cl [])] (oS [oV 13 15,oK (.k (.ai 4 1 false)) [12,13] [16],oV 15 7,oV 16 8] (.eZ [oV 6 17,oK (.k (.la 1034 4 1)) [5,17,1034] [18],oK (.k (.ll 1034 1)) [18,1034] [19],oV 8 20,oV 7 21,oV 6 22,oB .mul 21 22 23,oV 1 24,oB .mul 23 24 25,oC 131 2 1 [20,25] 26,oB .add 19 26 27,oK (.k (.la 1034 4 1)) [5,17,1034] [28],oK (.k (.ls 1034 1)) [28,1034,27] [1034]]))) none (.eZ [oI .add 13 (.i .i64 1) 29,oV 29 13])))
def bX.m2:TM:=oS [oI .lss 9 (.i .i64 4) 10] (.seq (.cond (.s 10) [] .skip (.exit 0)) none (.seq (.block 1 [(2,.ptr 1032 0),(4,.ptr 1033 0),(5,.ptr 1034 0),(1032,.cl []),(1033,.cl []),(1034,.cl [])] (oS [oV 9 11,oV 11 6] (oS [oM 1032 0 4 2 12,oW (.i .i64 0) 13] (.block 2 [(2,.ptr 1032 0),(4,.ptr 1033 0),(5,.ptr 1034 0),(1032,.cl []),(1033,.cl []),(1034,.cl [])] (.loop [1,2,4,5,6,9,12,13,1032,1033,1034] [(2,.ptr 1032 0),(4,.ptr 1033 0),(5,.ptr 1034 0),(1032,.cl []),(1033,.cl []),(1034,.cl [])] bX.m1))))) none (.eZ [oI .add 9 (.i .i64 1) 30,oV 30 9])))
def bX.m:TM:=oS [oK (.k (.bx 1032)) [0,1032] [2,1032],oN 1033 [(.c (.complex .f64 ((0,0):Cx).1 ((0,0):Cx).2)),(.c (.complex .f64 ((0,0):Cx).1 ((0,0):Cx).2)),(.c (.complex .f64 ((0,0):Cx).1 ((0,0):Cx).2)),(.c (.complex .f64 ((0,0):Cx).1 ((0,0):Cx).2))] 4] (oS [oN 1034 [(.c (.complex .f64 ((0,0):Cx).1 ((0,0):Cx).2)),(.c (.complex .f64 ((0,0):Cx).1 ((0,0):Cx).2)),(.c (.complex .f64 ((0,0):Cx).1 ((0,0):Cx).2)),(.c (.complex .f64 ((0,0):Cx).1 ((0,0):Cx).2))] 5] (.seq (oS [oW (.i .i64 0) 9] (.block 0 [(4,.ptr 1033 0),(5,.ptr 1034 0),(1033,.cl []),(1034,.cl [])] (.loop [1,2,4,5,9,1032,1033,1034] [(2,.ptr 1032 0),(4,.ptr 1033 0),(5,.ptr 1034 0),(1032,.cl []),(1033,.cl []),(1034,.cl [])] bX.m2))) none (oS [oM 1034 0 4 5 31,oT 1033 0 4 4 31] .ret)))
def bX.d:gS:=D0 2 bX.m [.c 4 1033 4 true]
def bX.F (l:Qd) (w:Int):OT:=bX.d.run bX.E [(.ag (Qd.cells l)),(.i .i64 w)]
def bX.k1:dI (List TV):=fG (ev _ bX.E (oS [oM 1034 0 4 5 31,oT 1033 0 4 4 31] .ret)) none (fK bX.d)
def bX.k2:dI (List TV):=gn (fQ _ bX.E bX.m2) jU [1,2,4,5,9,1032,1033,1034] (cG 0 bX.k1)
def bX.k3:dI (List TV):=fG (ev _ bX.E (.eZ [oI .add 9 (.i .i64 1) 30,oV 30 9])) none bX.k2
def bX.l1 (x0:Int) (x1:Int) (x2:Qd) (x3:Qd) (x4:Qd):OT:=eg (fQ _ bX.E bX.m2) jU [1,2,4,5,9,1032,1033,1034] (cS [1,2,4,5,9,1032,1033,1034] [(.i .i64 x0),.pt,.pt,.pt,(.i .i64 x1),(.ag (Qd.cells x2)),(.ag (Qd.cells x3)),(.ag (Qd.cells x4))]) (cG 0 bX.k1)
def bX.l2 (x0:Int) (x1:Int) (x2:Int) (x3:Qd) (x4:Int) (x5:Qd) (x6:Qd) (x7:Qd):OT:=eg (fQ _ bX.E bX.m1) jU [1,2,4,5,6,9,12,13,1032,1033,1034] (cS [1,2,4,5,6,9,12,13,1032,1033,1034] [(.i .i64 x0),.pt,.pt,.pt,(.i .i64 x1),(.i .i64 x2),(.ag (Qd.cells x3)),(.i .i64 x4),(.ag (Qd.cells x5)),(.ag (Qd.cells x6)),(.ag (Qd.cells x7))]) (cG 2 (cG 1 bX.k3))
theorem bX.JH (x0:Int) (x1:Int) (x2:Qd) (x3:Qd) (x4:Qd):bX.l1 x0 x1 x2 x3 x4=cond (decide (x1<(4:Int)))
  (bX.l2 x0 x1 x1 x2 (0:Int) x2 x3 x4)
  (some [(.ag (Qd.cells x4))]):=((de _ _ _ _ _ _).trans (by kernel_rfl))
theorem bX.jw (x0:Int) (x1:Int) (x2:Int) (x3:Qd) (x4:Int) (x5:Qd) (x6:Qd) (x7:Qd) {ρ:OT} (K:∀(v1:Int) (h1:v1=(IntKind.i64.wrap ((IntKind.i64.wrap (x4 * x1)) * x0))) (v2:Cx) (h2:v2=(Gz.ta ((Qd.get x3 ((x4).toNat))) v1)) (v3:Cx) (h3:v3=((Fl.add (Qd.get x7 ((x1).toNat)).1 v2.1,Fl.add (Qd.get x7 ((x1).toNat)).2 v2.2):Cx)) (v4:Int) (h4:v4=(IntKind.i64.wrap (x4+(1:Int)))) (v5:Int) (h5:v5=(IntKind.i64.wrap (x2+(1:Int)))),cond (decide (x4<(4:Int)))
  (ck (cq x4 4) (ck (cq x1 4) (ck (decide ((x1).toNat<4)) (ck (Gz.sT ((Qd.get x3 ((x4).toNat))) 1125899906842624&&decide (-100≤v1∧v1≤100)) (ck (Fl.kR (Qd.get x7 ((x1).toNat)).1 v2.1&&Fl.kR (Qd.get x7 ((x1).toNat)).2 v2.2) (ck (cq x1 4) (ck (decide ((x1).toNat<4)) (bX.l2 x0 x1 x2 x3 v4 x5 x6 (Qd.set x7 ((x1).toNat) v3)))))))))
  (bX.l1 x0 v5 x5 x6 x7)=ρ):bX.l2 x0 x1 x2 x3 x4 x5 x6 x7=ρ:=((de _ _ _ _ _ _).trans (by kernel_rfl)).trans (K _ rfl _ rfl _ rfl _ rfl _ rfl)
theorem bX.jq (l:Qd) (w:Int):bX.F l w=bX.l1 w (0:Int) l (Qd.mk ((0,0):Cx) ((0,0):Cx) ((0,0):Cx) ((0,0):Cx)) (Qd.mk ((0,0):Cx) ((0,0):Cx) ((0,0):Cx) ((0,0):Cx)):=by kernel_rfl
theorem bX.eJ:CK 118 bX.env bX.d:=fE (by kernel_rfl)
def dK.env:EV:=[(117,(df.c,df.sg)),(118,(bX.c,bX.sg))]
def dK.E:eD:=cZ nrGl dK.env
def dK.m:TM:=oS [oK (.k (.bx 1009)) [0,1009] [1,1009],oN 1010 [(.c (.complex .f64 ((0,0):Cx).1 ((0,0):Cx).2)),(.c (.complex .f64 ((0,0):Cx).1 ((0,0):Cx).2)),(.c (.complex .f64 ((0,0):Cx).1 ((0,0):Cx).2)),(.c (.complex .f64 ((0,0):Cx).1 ((0,0):Cx).2))] 2] (.seq (oS [oM 1009 0 4 1 3,oC 117 1 1 [3] 4,oK (.k (.un .not)) [4] [5]] (.cond (.s 5) [] (oS [oK (.bd [(.c (.complex .f64 ((0,0):Cx).1 ((0,0):Cx).2)),(.c (.complex .f64 ((0,0):Cx).1 ((0,0):Cx).2)),(.c (.complex .f64 ((0,0):Cx).1 ((0,0):Cx).2)),(.c (.complex .f64 ((0,0):Cx).1 ((0,0):Cx).2))] []) [] [6],oT 1010 0 4 2 6] .ret) .skip)) none (oS [oM 1009 0 4 1 7,oX (.k (.call 118 (.plain 2 1))) [.s 7,.c (.i .i64 1)] [8],oT 1010 0 4 2 8] .ret))
def dK.d:gS:=D0 1 dK.m [.c 2 1010 4 true]
def dK.F (l:Qd):OT:=dK.d.run dK.E [(.ag (Qd.cells l))]
theorem dK.jq (l:Qd):dK.F l=ck (Gz.vc l 1125899906842624) (cond (!(true))
  (some [(.ag [(.c (.complex .f64 ((0,0):Cx).1 ((0,0):Cx).2)),(.c (.complex .f64 ((0,0):Cx).1 ((0,0):Cx).2)),(.c (.complex .f64 ((0,0):Cx).1 ((0,0):Cx).2)),(.c (.complex .f64 ((0,0):Cx).1 ((0,0):Cx).2))])])
  (ck (Gz.vc l 1125899906842624&&decide (((1:Int))=1∨((1:Int))=-1)) (some [(.ag (Qd.cells (Gz.me l ((1:Int)))))]))):=by kernel_rfl
theorem dK.eJ:CK 115 dK.env dK.d:=fE (by kernel_rfl)
def cQ.env:EV:=[(94,(db.c,db.sg)),(117,(df.c,df.sg)),(118,(bX.c,bX.sg))]
def cQ.E:eD:=cZ nrGl cQ.env
def cQ.m1:TM:=oS [oI .lss 17 (.i .i64 4) 18] (.seq (.cond (.s 18) [] .skip (.exit 0)) none (.seq (.block 1 [(2,.ptr 1052 0),(4,.ptr 1053 0),(1052,.cl []),(1053,.cl [])] (oS [oV 17 19,oK (.k (.ai 4 1 false)) [16,17] [20],oV 19 5,oV 20 6] (oS [oV 6 22,oC 94 1 3 [22] 23,oV 23 21,oE 0 21 24,oE 1 21 25,oE 2 21 26,oV 24 7,oV 25 8,oV 26 9] (.seq (oS [oV 9 27,oK (.k (.un .not)) [27] [28],oV 28 29,oG 29 false (oV 7 30),oG 29 false (oI .rem 30 (.i .i64 4) 31),oG 29 false (oI .neq 31 (.i .i64 0) 32),oX (.k .pick) [.s 29,.c (.b true),.s 32] [33],oV 33 34,oG 34 false (oV 8 35),oG 34 false (oI .rem 35 (.i .i64 4) 36),oG 34 false (oI .neq 36 (.i .i64 0) 37),oX (.k .pick) [.s 34,.c (.b true),.s 37] [38]] (.cond (.s 38) [] (oS [oK (.bd [(.c (.complex .f64 ((0,0):Cx).1 ((0,0):Cx).2)),(.c (.complex .f64 ((0,0):Cx).1 ((0,0):Cx).2)),(.c (.complex .f64 ((0,0):Cx).1 ((0,0):Cx).2)),(.c (.complex .f64 ((0,0):Cx).1 ((0,0):Cx).2))] []) [] [39],oT 1052 0 4 2 39,oW (.b false) 3] .ret) .skip)) none (.eZ [oV 5 40,oV 7 41,oI .quo 41 (.i .i64 4) 42,oK (.k .cf) [42] [43],oV 8 44,oI .quo 44 (.i .i64 4) 45,oK (.k .cf) [45] [46],oK (.k .cx) [43,46] [47],oK (.k (.la 1053 4 1)) [4,40,1053] [48],oK (.k (.ls 1053 1)) [48,1053,47] [1053]]))))) none (.eZ [oI .add 17 (.i .i64 1) 49,oV 49 17])))
def cQ.m:TM:=oS [oK (.k (.bx 1051)) [0,1051] [1,1051],oN 1052 [(.c (.complex .f64 ((0,0):Cx).1 ((0,0):Cx).2)),(.c (.complex .f64 ((0,0):Cx).1 ((0,0):Cx).2)),(.c (.complex .f64 ((0,0):Cx).1 ((0,0):Cx).2)),(.c (.complex .f64 ((0,0):Cx).1 ((0,0):Cx).2))] 2,oW (.b false) 3] (.seq (oS [oM 1051 0 4 1 10,oC 117 1 1 [10] 11,oK (.k (.un .not)) [11] [12]] (.cond (.s 12) [] (oS [oK (.bd [(.c (.complex .f64 ((0,0):Cx).1 ((0,0):Cx).2)),(.c (.complex .f64 ((0,0):Cx).1 ((0,0):Cx).2)),(.c (.complex .f64 ((0,0):Cx).1 ((0,0):Cx).2)),(.c (.complex .f64 ((0,0):Cx).1 ((0,0):Cx).2))] []) [] [13],oT 1052 0 4 2 13,oW (.b false) 3] .ret) .skip)) none (oS [oM 1051 0 4 1 14,oX (.k (.call 118 (.plain 2 1))) [.s 14,.c (.i .i64 (-1))] [15],oN 1053 [(.c (.complex .f64 ((0,0):Cx).1 ((0,0):Cx).2)),(.c (.complex .f64 ((0,0):Cx).1 ((0,0):Cx).2)),(.c (.complex .f64 ((0,0):Cx).1 ((0,0):Cx).2)),(.c (.complex .f64 ((0,0):Cx).1 ((0,0):Cx).2))] 4,oT 1053 0 4 4 15] (.seq (oS [oM 1053 0 4 4 16,oW (.i .i64 0) 17] (.block 0 [(2,.ptr 1052 0),(4,.ptr 1053 0),(1052,.cl []),(1053,.cl [])] (.loop [2,4,16,17,1052,1053] [(2,.ptr 1052 0),(4,.ptr 1053 0),(1052,.cl []),(1053,.cl [])] cQ.m1))) none (oS [oM 1053 0 4 4 50,oT 1052 0 4 2 50,oW (.b true) 3] .ret))))
def cQ.d:gS:=D0 1 cQ.m [.c 2 1052 4 true,.t 3]
def cQ.F (l:Qd):OT:=cQ.d.run cQ.E [(.ag (Qd.cells l))]
def cQ.k1:dI (List TV):=fG (ev _ cQ.E (oS [oM 1053 0 4 4 50,oT 1052 0 4 2 50,oW (.b true) 3] .ret)) none (fK cQ.d)
def cQ.l1 (x0:Qd) (x1:Int) (x2:Qd) (x3:Qd):OT:=eg (fQ _ cQ.E cQ.m1) jU [2,4,16,17,1052,1053] (cS [2,4,16,17,1052,1053] [.pt,.pt,(.ag (Qd.cells x0)),(.i .i64 x1),(.ag (Qd.cells x2)),(.ag (Qd.cells x3))]) (cG 0 cQ.k1)
theorem cQ.dE (x0:Qd) (x1:Int) (x2:Qd) (x3:Qd) {ρ:OT} (K:∀(v1:Int) (h1:v1=(Fl.toInt (((Qd.get x0 ((x1).toNat)))).1)) (v2:Int) (h2:v2=(Fl.toInt (((Qd.get x0 ((x1).toNat)))).2)) (v3:Bool) (h3:v3=(cond (!(true)) true (!decide ((Int.tmod v1 (4:Int))=(0:Int))))) (v4:Bool) (h4:v4=(cond v3 true (!decide ((Int.tmod v2 (4:Int))=(0:Int))))) (v5:Int) (h5:v5=(IntKind.i64.wrap (Int.tdiv v1 (4:Int)))) (v6:Int) (h6:v6=(IntKind.i64.wrap (Int.tdiv v2 (4:Int)))) (v7:Cx) (h7:v7=(((Fl.ofInt v5),(Fl.ofInt v6)):Cx)) (v8:Int) (h8:v8=(IntKind.i64.wrap (x1+(1:Int)))),cond (decide (x1<(4:Int)))
  (ck (cq x1 4) (ck (Gz.sT ((Qd.get x0 ((x1).toNat))) 4503599627370496) (ck (!(!(!(true))) || ((!(!(true)))&&(!decide ((4:Int)=0)))) (ck (!(!(!(true))) || (!(!(true)))) (ck ((!(true)) || (!(!(true)))) (ck (!(!v3) || ((!v3)&&(!decide ((4:Int)=0)))) (ck (!(!v3) || (!v3)) (ck (v3 || (!v3)) (cond v4
  (some [(.ag [(.c (.complex .f64 ((0,0):Cx).1 ((0,0):Cx).2)),(.c (.complex .f64 ((0,0):Cx).1 ((0,0):Cx).2)),(.c (.complex .f64 ((0,0):Cx).1 ((0,0):Cx).2)),(.c (.complex .f64 ((0,0):Cx).1 ((0,0):Cx).2))]),(.b false)])
  (ck (!decide ((4:Int)=0)) (ck (!decide ((4:Int)=0)) (ck (cq x1 4) (ck (decide ((x1).toNat<4)) (cQ.l1 x0 v8 x2 (Qd.set x3 ((x1).toNat) v7)))))))))))))))
  (some [(.ag (Qd.cells x3)),(.b true)])=ρ):cQ.l1 x0 x1 x2 x3=ρ:=((de _ _ _ _ _ _).trans (by kernel_rfl)).trans (K _ rfl _ rfl _ rfl _ rfl _ rfl _ rfl _ rfl _ rfl)
theorem cQ.jq (l:Qd):cQ.F l=ck (Gz.vc l 1125899906842624) (cond (!(true))
  (some [(.ag [(.c (.complex .f64 ((0,0):Cx).1 ((0,0):Cx).2)),(.c (.complex .f64 ((0,0):Cx).1 ((0,0):Cx).2)),(.c (.complex .f64 ((0,0):Cx).1 ((0,0):Cx).2)),(.c (.complex .f64 ((0,0):Cx).1 ((0,0):Cx).2))]),(.b false)])
  (ck (Gz.vc l 1125899906842624&&decide (((-1:Int))=1∨((-1:Int))=-1)) (cQ.l1 (Gz.me l ((-1:Int))) (0:Int) (Qd.mk ((0,0):Cx) ((0,0):Cx) ((0,0):Cx) ((0,0):Cx)) (Gz.me l ((-1:Int)))))):=by kernel_rfl
theorem cQ.eJ:CK 93 cQ.env cQ.d:=fE (by kernel_rfl)
def bZ.env:EV:=[]
def bZ.E:eD:=cZ nrGl bZ.env
def bZ.m1:TM:=oS [oB .lss 7 6 8] (.seq (.cond (.s 8) [] .skip (.exit 0)) none (.seq (.block 1 [] (oS [oK (.k (.ix 1)) [5,7] [9],oK (.k (.lr 1 false)) [9] [10],oV 10 4] (oS [oV 4 11,oI .lss 11 (.i .i64 0) 12,oV 12 13,oG 13 false (oV 4 14),oG 13 false (oI .gtr 14 (.i .i64 65535) 15),oX (.k .pick) [.s 13,.c (.b true),.s 15] [16]] (.cond (.s 16) [] (oS [oW (.b false) 2] .ret) .skip)))) none (.eZ [oI .add 7 (.i .i64 1) 17,oV 17 7])))
def bZ.m:TM:=oS [oW (.b false) 2] (.seq (oS [oV 0 5,oK (.k .len) [5] [6],oW (.i .i64 0) 7] (.block 0 [] (.loop [0,5,6,7] [] bZ.m1))) none (oS [oV 0 18,oK (.k .len) [18] [19],oI .leq 19 (.i .i64 256) 20,oV 20 2] .ret))
def bZ.d:gS:=D0 1 bZ.m [.t 2]
def bZ.F (l:List Int):OT:=bZ.d.run bZ.E [(.sl .is l)]
def bZ.k1:dI (List TV):=fG (ev _ bZ.E (oS [oV 0 18,oK (.k .len) [18] [19],oI .leq 19 (.i .i64 256) 20,oV 20 2] .ret)) none (fK bZ.d)
def bZ.l1 (x0:List Int) (x1:List Int) (x2:Int) (x3:Int):OT:=eg (fQ _ bZ.E bZ.m1) jU [0,5,6,7] (cS [0,5,6,7] [(.sl .is x0),(.sl .is x1),(.i .i64 x2),(.i .i64 x3)]) (cG 0 bZ.k1)
theorem bZ.dE (x0:List Int) (x1:List Int) (x2:Int) (x3:Int) {ρ:OT} (K:∀(v1:Int) (h1:v1=(List.getD x1 (x3).toNat (0:Int))) (v2:Bool) (h2:v2=(cond (decide (v1<(0:Int))) true (decide ((65535:Int)<v1)))) (v3:Int) (h3:v3=(IntKind.i64.wrap (x3+(1:Int)))),cond (decide (x3<x2))
  (ck (cq x3 (x1).length) (ck (!(!(decide (v1<(0:Int)))) || (!(decide (v1<(0:Int))))) (ck ((decide (v1<(0:Int))) || (!(decide (v1<(0:Int))))) (cond v2
  (some [(.b false)])
  (bZ.l1 x0 x1 x2 v3)))))
  (some [(.b (decide (((x0).length:Int)≤(256:Int))))])=ρ):bZ.l1 x0 x1 x2 x3=ρ:=((de _ _ _ _ _ _).trans (by kernel_rfl)).trans (K _ rfl _ rfl _ rfl)
theorem bZ.jq (l:List Int):bZ.F l=bZ.l1 l l ((l).length:Int) (0:Int):=by kernel_rfl
theorem bZ.eJ:CK 90 bZ.env bZ.d:=fE (by kernel_rfl)
def bP.env:EV:=[(114,(fP.c,fP.sg)),(115,(dK.c,dK.sg))]
def bP.E:eD:=cZ nrGl bP.env
def bP.m1:TM := .eZ [oV 3 30,oM 1036 0 4 5 31,oC 115 1 1 [31] 32,oK (.bl .qd 1) [32] [33],oK (.k (.ap 101 103 4 64)) [30,33,(lk 101),(lk 103)] [34,lk 101,lk 103],oV 34 3]
def bP.m2:TM := .seq (oS [oV 4 6,oV 0 7,oK (.k .len) [7] [8],oB .lss 6 8 9] (.cond (.s 9) [] .skip (.exit 0))) none (.seq (.block 1 [(3,.cB 103 4),(lk 103,.live 4)] (oS [oV 0 12,oV 4 13,oK (.k (.ix 1)) [12,13] [14],oK (.k (.lr 1 false)) [14] [15],oX (.k (.call 114 (.plain 2 1))) [.s 15,.c (.i .i64 0)] [16],oK (.bd [(.c (.complex .f64 ((0,0):Cx).1 ((0,0):Cx).2)),(.c (.complex .f64 ((0,0):Cx).1 ((0,0):Cx).2)),(.c (.complex .f64 ((0,0):Cx).1 ((0,0):Cx).2)),(.c (.complex .f64 ((0,0):Cx).1 ((0,0):Cx).2))] [(0,1)]) [16] [17],oN 1036 [(.c (.complex .f64 ((0,0):Cx).1 ((0,0):Cx).2)),(.c (.complex .f64 ((0,0):Cx).1 ((0,0):Cx).2)),(.c (.complex .f64 ((0,0):Cx).1 ((0,0):Cx).2)),(.c (.complex .f64 ((0,0):Cx).1 ((0,0):Cx).2))] 5,oT 1036 0 4 5 17] (.seq (oS [oV 4 18,oI .add 18 (.i .i64 1) 19,oV 0 20,oK (.k .len) [20] [21],oB .lss 19 21 22] (.cond (.s 22) [(3,.cB 101 4),(5,.ptr 1036 0),(1036,.cl []),(lk 101,.live 4)] (.eZ [oV 0 23,oV 4 24,oI .add 24 (.i .i64 1) 25,oK (.k (.ix 1)) [23,25] [26],oK (.k (.lr 1 false)) [26] [27],oX (.k (.call 114 (.plain 2 1))) [.s 27,.c (.i .i64 0)] [28],oX (.k (.la 1036 4 1)) [.s 5,.c (.i .i64 1),.s 1036] [29],oK (.k (.ls 1036 1)) [29,1036,28] [1036]]) .skip)) (some [0,3,4,5,1036]) bP.m1))) none (.eZ [oV 4 10,oI .add 10 (.i .i64 2) 11,oV 11 4]))
def bP.m:TM:=oS [oW (.sl .qd ([]:List Qd)) 2] (oS [oK (.nl .qd 101) [(lk 101)] [3,lk 101]] (.seq (oS [oW (.i .i64 0) 4] (.block 0 [(3,.cB 101 4),(lk 101,.live 4)] (.loop [0,3,4] [(3,.cB 101 4),(lk 101,.live 4)] bP.m2))) none (oS [oV 3 35,oV 35 2] .ret)))
def bP.d:gS:=D0 1 bP.m [.t 2]
def bP.F (l:List Int):OT:=bP.d.run bP.E [(.sl .is l)]
def bP.k1:dI (List TV):=fG (ev _ bP.E (oS [oV 3 35,oV 35 2] .ret)) none (fK bP.d)
def bP.k2:dI (List TV):=gn (fQ _ bP.E bP.m2) jU [0,3,4] (cG 0 bP.k1)
def bP.k3:dI (List TV):=fG (ev _ bP.E (.eZ [oV 4 10,oI .add 10 (.i .i64 2) 11,oV 11 4])) none bP.k2
def bP.l1 (x0:List Int) (x1:List Qd) (x2:Int):OT:=eg (fQ _ bP.E bP.m2) jU [0,3,4] (cS [0,3,4] [(.sl .is x0),(.sl .qd x1),(.i .i64 x2)]) (cG 0 bP.k1)
def bP.j2 (x0:List Int) (x1:List Qd) (x2:Int) (x3:Qd):OT:=fQ _ bP.E bP.m1 (cS [0,3,4,5,1036] [(.sl .is x0),(.sl .qd x1),(.i .i64 x2),.pt,(.ag (Qd.cells x3))]) (cG 1 bP.k3)
theorem bP.dE (x0:List Int) (x1:List Qd) (x2:Int) {ρ:OT} (K:∀(v1:Int) (h1:v1=(List.getD x0 (x2).toNat (0:Int))) (v2:Cx) (h2:v2=(((Fl.ofInt v1,Fl.ofInt ((0:Int))):Cx))) (v3:Int) (h3:v3=(IntKind.i64.wrap (x2+(1:Int)))) (v4:Int) (h4:v4=(List.getD x0 (v3).toNat (0:Int))) (v5:Cx) (h5:v5=(((Fl.ofInt v4,Fl.ofInt ((0:Int))):Cx))) (v6:Qd) (h6:v6=(Qd.set (Qd.mk v2 ((0,0):Cx) ((0,0):Cx) ((0,0):Cx)) (((1:Int)).toNat) v5)),cond (decide (x2<((x0).length:Int)))
  (ck (cq x2 (x0).length) (ck (decide (-33554432≤v1∧v1≤33554432∧-33554432≤((0:Int))∧((0:Int))≤33554432)) (cond (decide (v3<((x0).length:Int)))
  (ck (cq v3 (x0).length) (ck (decide (-33554432≤v4∧v4≤33554432∧-33554432≤((0:Int))∧((0:Int))≤33554432)) (ck (cq (1:Int) 4) (ck (decide (((1:Int)).toNat<4)) (bP.j2 x0 x1 x2 v6)))))
  (bP.j2 x0 x1 x2 (Qd.mk v2 ((0,0):Cx) ((0,0):Cx) ((0,0):Cx))))))
  (some [(.sl .qd x1)])=ρ):bP.l1 x0 x1 x2=ρ:=((de _ _ _ _ _ _).trans (by kernel_rfl)).trans (K _ rfl _ rfl _ rfl _ rfl _ rfl _ rfl)
theorem bP.vV (x0:List Int) (x1:List Qd) (x2:Int) (x3:Qd) {ρ:OT} (K:∀(v1:List Qd) (h1:v1=(x1++([(Gz.me x3 1)]:List Qd))) (v2:Int) (h2:v2=(IntKind.i64.wrap (x2+(2:Int)))),ck (Gz.vc x3 1125899906842624) (ck (jo ((x1).length+(([(Gz.me x3 1)]:List Qd)).length) 64) (bP.l1 x0 v1 v2))=ρ):bP.j2 x0 x1 x2 x3=ρ:=((congrFun (congrFun (ie _ _) _) _).trans (by kernel_rfl)).trans (K _ rfl _ rfl)
theorem bP.jq (l:List Int):bP.F l=bP.l1 l ([]:List Qd) (0:Int):=by kernel_rfl
theorem bP.eJ:CK 91 bP.env bP.d:=fE (by kernel_rfl)
def bK.env:EV:=[(90,(bZ.c,bZ.sg)),(91,(bP.c,bP.sg)),(92,(dr.c,dr.sg)),(93,(cQ.c,cQ.sg)),(94,(db.c,db.sg))]
def bK.E:eD:=cZ nrGl bK.env
def bK.m1:TM:=oS [oI .lss 62 (.i .i64 4) 63] (.seq (.cond (.s 63) [] .skip (.exit 4)) none (.seq (.block 5 [(6,.cB 103 1),(10,.ptr 1116 0),(12,.ptr 1117 0),(13,.ptr 1118 0),(1116,.cl []),(1117,.cl []),(1118,.cl []),(lk 103,.pv 1)] (oS [oV 62 64,oV 64 14] (.eZ [oV 14 65,oV 14 66,oK (.k (.la 1116 4 1)) [10,66,1116] [67],oK (.k (.ll 1116 1)) [67,1116] [68],oV 14 69,oK (.k (.la 1117 4 1)) [12,69,1117] [70],oK (.k (.ll 1117 1)) [70,1117] [71],oC 92 2 1 [68,71] 72,oK (.k (.la 1118 4 1)) [13,65,1118] [73],oK (.k (.ls 1118 1)) [73,1118,72] [1118]]))) none (.eZ [oI .add 62 (.i .i64 1) 74,oV 74 62])))
def bK.m2:TM:=oS [oI .lss 80 (.i .i64 3) 81] (.seq (.cond (.s 81) [] .skip (.exit 6)) none (.seq (.block 7 [(6,.cB 103 1),(10,.ptr 1116 0),(15,.ptr 1119 0),(1116,.cl []),(1119,.cl []),(lk 103,.pv 1)] (oS [oV 80 82,oV 82 17] (oS [oV 17 84,oK (.k (.la 1119 4 1)) [15,84,1119] [85],oK (.k (.ll 1119 1)) [85,1119] [86],oC 94 1 3 [86] 87,oV 87 83,oE 0 83 88,oE 1 83 89,oE 2 83 90,oV 88 18,oV 89 19,oV 90 20] (.eZ [oV 6 91,oV 9 92,oX (.k (.bin .mul)) [.c (.i .i64 2),.s 92] [93],oV 11 94,oX (.k (.bin .mul)) [.c (.i .i64 2),.s 94] [95],oB .add 93 95 96,oV 17 97,oB .add 96 97 98,oK (.k (.lP 103 1)) [91,98,(lk 103)] [99],oK (.k (.rQ 103 1 1 false)) [99,(lk 103)] [100],oV 18 101,oB .add 100 101 102,oK (.k (.lP 103 1)) [91,98,(lk 103)] [103],oK (.k (.sL 103 1 1)) [103,(lk 103),102] [lk 103]])))) none (.eZ [oI .add 80 (.i .i64 1) 104,oV 104 80])))
def bK.m3:TM:=oS [oB .lss 57 56 58] (.seq (.cond (.s 58) [] .skip (.exit 2)) none (.seq (.block 3 [(6,.cB 103 1),(10,.ptr 1116 0),(1116,.cl []),(lk 103,.pv 1)] (oS [oV 57 59,oK (.k (.ix 4)) [55,57] [60],oK (.k (.lr 4 true)) [60] [61],oN 1117 [(.c (.complex .f64 ((0,0):Cx).1 ((0,0):Cx).2)),(.c (.complex .f64 ((0,0):Cx).1 ((0,0):Cx).2)),(.c (.complex .f64 ((0,0):Cx).1 ((0,0):Cx).2)),(.c (.complex .f64 ((0,0):Cx).1 ((0,0):Cx).2))] 12,oV 59 11,oT 1117 0 4 12 61] (oS [oN 1118 [(.c (.complex .f64 ((0,0):Cx).1 ((0,0):Cx).2)),(.c (.complex .f64 ((0,0):Cx).1 ((0,0):Cx).2)),(.c (.complex .f64 ((0,0):Cx).1 ((0,0):Cx).2)),(.c (.complex .f64 ((0,0):Cx).1 ((0,0):Cx).2))] 13] (.seq (oS [oW (.i .i64 0) 62] (.block 4 [(6,.cB 103 1),(10,.ptr 1116 0),(13,.ptr 1118 0),(1116,.cl []),(1118,.cl []),(lk 103,.pv 1)] (.loop [0,1,6,8,9,10,11,12,13,48,49,50,55,56,57,62,1116,1117,1118,lk 103] [(6,.cB 103 1),(10,.ptr 1116 0),(12,.ptr 1117 0),(13,.ptr 1118 0),(1116,.cl []),(1117,.cl []),(1118,.cl []),(lk 103,.pv 1)] bK.m1))) none (oS [oM 1118 0 4 13 76,oC 93 1 2 [76] 77,oV 77 75,oE 0 75 78,oE 1 75 79,oN 1119 [(.c (.complex .f64 ((0,0):Cx).1 ((0,0):Cx).2)),(.c (.complex .f64 ((0,0):Cx).1 ((0,0):Cx).2)),(.c (.complex .f64 ((0,0):Cx).1 ((0,0):Cx).2)),(.c (.complex .f64 ((0,0):Cx).1 ((0,0):Cx).2))] 15,oT 1119 0 4 15 78,oV 79 16] (oS [oW (.i .i64 0) 80] (.block 6 [(6,.cB 103 1),(10,.ptr 1116 0),(1116,.cl []),(lk 103,.pv 1)] (.loop [0,1,6,8,9,10,11,15,48,49,50,55,56,57,80,1116,1119,lk 103] [(6,.cB 103 1),(10,.ptr 1116 0),(15,.ptr 1119 0),(1116,.cl []),(1119,.cl []),(lk 103,.pv 1)] bK.m2)))))))) none (.eZ [oI .add 57 (.i .i64 1) 105,oV 105 57])))
def bK.m4:TM:=oS [oB .lss 50 49 51] (.seq (.cond (.s 51) [] .skip (.exit 0)) none (.seq (.block 1 [(6,.cB 103 1),(lk 103,.pv 1)] (oS [oV 50 52,oK (.k (.ix 4)) [48,50] [53],oK (.k (.lr 4 true)) [53] [54],oN 1116 [(.c (.complex .f64 ((0,0):Cx).1 ((0,0):Cx).2)),(.c (.complex .f64 ((0,0):Cx).1 ((0,0):Cx).2)),(.c (.complex .f64 ((0,0):Cx).1 ((0,0):Cx).2)),(.c (.complex .f64 ((0,0):Cx).1 ((0,0):Cx).2))] 10,oV 52 9,oT 1116 0 4 10 54] (oS [oV 8 55,oK (.k .len) [55] [56],oW (.i .i64 0) 57] (.block 2 [(6,.cB 103 1),(lk 103,.pv 1)] (.loop [0,1,6,8,9,10,48,49,50,55,56,57,1116,lk 103] [(6,.cB 103 1),(10,.ptr 1116 0),(1116,.cl []),(lk 103,.pv 1)] bK.m3))))) none (.eZ [oI .add 50 (.i .i64 1) 106,oV 106 50])))
def bK.m:TM:=oS [oW (.sl .is ([]:List Int)) 4,oW (.b false) 5] (.seq (oS [oV 0 21,oC 90 1 1 [21] 22,oK (.k (.un .not)) [22] [23],oV 23 24,oG 24 false (oV 1 25),oG 24 false (oC 90 1 1 [25] 26),oG 24 false (oK (.k (.un .not)) [26] [27]),oX (.k .pick) [.s 24,.c (.b true),.s 27] [28]] (.cond (.s 28) [] (oS [oW (.sl .is ([]:List Int)) 4,oW (.b false) 5] .ret) .skip)) none (.seq (oS [oV 0 29,oK (.k .len) [29] [30],oI .eql 30 (.i .i64 0) 31,oV 31 32,oG 32 false (oV 1 33),oG 32 false (oK (.k .len) [33] [34]),oG 32 false (oI .eql 34 (.i .i64 0) 35),oX (.k .pick) [.s 32,.c (.b true),.s 35] [36]] (.cond (.s 36) [] (oS [oW (.sl .is ([]:List Int)) 4,oW (.b true) 5] .ret) .skip)) none (oS [oV 0 37,oK (.k .len) [37] [38],oV 1 39,oK (.k .len) [39] [40],oB .add 38 40 41,oI .add 41 (.i .i64 2) 42,oK (.yO 103 8 .is (0:Int)) [42,42,(lk 103)] [43,lk 103],oV 43 6] (oS [oV 0 44,oC 91 1 1 [44] 45,oV 1 46,oC 91 1 1 [46] 47,oV 45 7,oV 47 8] (.seq (oS [oV 7 48,oK (.k .len) [48] [49],oW (.i .i64 0) 50] (.block 0 [(6,.cB 103 1),(lk 103,.pv 1)] (.loop [0,1,6,8,48,49,50,lk 103] [(6,.cB 103 1),(lk 103,.pv 1)] bK.m4))) none (oS [oK (.k (.sM 103 1)) [6,(lk 103)] [107,6,lk 103],oV 0 108,oK (.k .len) [108] [109],oV 1 110,oK (.k .len) [110] [111],oB .add 109 111 112,oI .sub 112 (.i .i64 1) 113,oK (.k (.sc 1 false true)) [107,113] [114],oK (.k (.an 104 1 8)) [114,(lk 104)] [115,lk 104],oV 115 4,oW (.b true) 5] .ret))))))
def bK.d:gS:=D0 2 bK.m [.t 4,.t 5]
def bK.F (a:List Int) (b:List Int):OT:=bK.d.run bK.E [(.sl .is a),(.sl .is b)]
def bK.k1:dI (List TV):=fG (ev _ bK.E (oS [oK (.k (.sM 103 1)) [6,(lk 103)] [107,6,lk 103],oV 0 108,oK (.k .len) [108] [109],oV 1 110,oK (.k .len) [110] [111],oB .add 109 111 112,oI .sub 112 (.i .i64 1) 113,oK (.k (.sc 1 false true)) [107,113] [114],oK (.k (.an 104 1 8)) [114,(lk 104)] [115,lk 104],oV 115 4,oW (.b true) 5] .ret)) none (fK bK.d)
def bK.k2:dI (List TV):=gn (fQ _ bK.E bK.m4) jU [0,1,6,8,48,49,50,lk 103] (cG 0 bK.k1)
def bK.k3:dI (List TV):=fG (ev _ bK.E (.eZ [oI .add 50 (.i .i64 1) 106,oV 106 50])) none bK.k2
def bK.k4:dI (List TV):=gn (fQ _ bK.E bK.m3) jU [0,1,6,8,9,10,48,49,50,55,56,57,1116,lk 103] (cG 2 (cG 1 bK.k3))
def bK.k5:dI (List TV):=fG (ev _ bK.E (.eZ [oI .add 57 (.i .i64 1) 105,oV 105 57])) none bK.k4
def bK.k6:dI (List TV):=fG (ev _ bK.E (oS [oM 1118 0 4 13 76,oC 93 1 2 [76] 77,oV 77 75,oE 0 75 78,oE 1 75 79,oN 1119 [(.c (.complex .f64 ((0,0):Cx).1 ((0,0):Cx).2)),(.c (.complex .f64 ((0,0):Cx).1 ((0,0):Cx).2)),(.c (.complex .f64 ((0,0):Cx).1 ((0,0):Cx).2)),(.c (.complex .f64 ((0,0):Cx).1 ((0,0):Cx).2))] 15,oT 1119 0 4 15 78,oV 79 16] (oS [oW (.i .i64 0) 80] (.block 6 [(6,.cB 103 1),(10,.ptr 1116 0),(1116,.cl []),(lk 103,.pv 1)] (.loop [0,1,6,8,9,10,11,15,48,49,50,55,56,57,80,1116,1119,lk 103] [(6,.cB 103 1),(10,.ptr 1116 0),(15,.ptr 1119 0),(1116,.cl []),(1119,.cl []),(lk 103,.pv 1)] bK.m2))))) none (cG 3 bK.k5)
def bK.l1 (x0:List Int) (x1:List Int) (x2:List Qd) (x3:List Qd) (x4:Int) (x5:Int) (x6:List Int):OT:=eg (fQ _ bK.E bK.m4) jU [0,1,6,8,48,49,50,lk 103] (cS [0,1,6,8,48,49,50,lk 103] [(.sl .is x0),(.sl .is x1),.pt,(.sl .qd x2),(.sl .qd x3),(.i .i64 x4),(.i .i64 x5),(.sl .is x6)]) (cG 0 bK.k1)
def bK.l2 (x0:List Int) (x1:List Int) (x2:List Qd) (x3:Int) (x4:List Qd) (x5:Int) (x6:Int) (x7:List Qd) (x8:Int) (x9:Int) (vg:Qd) (pn:List Int):OT:=eg (fQ _ bK.E bK.m3) jU [0,1,6,8,9,10,48,49,50,55,56,57,1116,lk 103] (cS [0,1,6,8,9,10,48,49,50,55,56,57,1116,lk 103] [(.sl .is x0),(.sl .is x1),.pt,(.sl .qd x2),(.i .i64 x3),.pt,(.sl .qd x4),(.i .i64 x5),(.i .i64 x6),(.sl .qd x7),(.i .i64 x8),(.i .i64 x9),(.ag (Qd.cells vg)),(.sl .is pn)]) (cG 2 (cG 1 bK.k3))
def bK.l3 (x0:List Int) (x1:List Int) (x2:List Qd) (x3:Int) (x4:Int) (x5:List Qd) (x6:Int) (x7:Int) (x8:List Qd) (x9:Int) (vg:Int) (pn:Int) (Cv:Qd) (Bz:Qd) (xQ:Qd) (Nc:List Int):OT:=eg (fQ _ bK.E bK.m1) jU [0,1,6,8,9,10,11,12,13,48,49,50,55,56,57,62,1116,1117,1118,lk 103] (cS [0,1,6,8,9,10,11,12,13,48,49,50,55,56,57,62,1116,1117,1118,lk 103] [(.sl .is x0),(.sl .is x1),.pt,(.sl .qd x2),(.i .i64 x3),.pt,(.i .i64 x4),.pt,.pt,(.sl .qd x5),(.i .i64 x6),(.i .i64 x7),(.sl .qd x8),(.i .i64 x9),(.i .i64 vg),(.i .i64 pn),(.ag (Qd.cells Cv)),(.ag (Qd.cells Bz)),(.ag (Qd.cells xQ)),(.sl .is Nc)]) (cG 4 bK.k6)
def bK.l4 (x0:List Int) (x1:List Int) (x2:List Qd) (x3:Int) (x4:Int) (x5:List Qd) (x6:Int) (x7:Int) (x8:List Qd) (x9:Int) (vg:Int) (pn:Int) (Cv:Qd) (Bz:Qd) (xQ:List Int):OT:=eg (fQ _ bK.E bK.m2) jU [0,1,6,8,9,10,11,15,48,49,50,55,56,57,80,1116,1119,lk 103] (cS [0,1,6,8,9,10,11,15,48,49,50,55,56,57,80,1116,1119,lk 103] [(.sl .is x0),(.sl .is x1),.pt,(.sl .qd x2),(.i .i64 x3),.pt,(.i .i64 x4),.pt,(.sl .qd x5),(.i .i64 x6),(.i .i64 x7),(.sl .qd x8),(.i .i64 x9),(.i .i64 vg),(.i .i64 pn),(.ag (Qd.cells Cv)),(.ag (Qd.cells Bz)),(.sl .is xQ)]) (cG 6 (cG 3 bK.k5))
theorem bK.dE (x0:List Int) (x1:List Int) (x2:List Qd) (x3:List Qd) (x4:Int) (x5:Int) (x6:List Int) {ρ:OT} (K:∀(v1:Qd) (h1:v1=(List.getD x3 (x5).toNat (fT.Gw .qd))) (v2:Int) (h2:v2=(IntKind.i64.wrap (((x0).length:Int)+((x1).length:Int)))) (v3:Int) (h3:v3=(IntKind.i64.wrap (v2 - (1:Int)))),cond (decide (x5<x4))
  (ck (cq x5 (x3).length) (bK.l2 x0 x1 x2 x5 x3 x4 x5 x2 ((x2).length:Int) (0:Int) v1 x6))
  (ck (gN 0 v3 (x6).length) (ck (jo ((List.take (v3).toNat x6)).length 8) (some [(.sl .is (List.take (v3).toNat x6)),(.b true)])))=ρ):bK.l1 x0 x1 x2 x3 x4 x5 x6=ρ:=((de _ _ _ _ _ _).trans (by kernel_rfl)).trans (K _ rfl _ rfl _ rfl)
theorem bK.jw (x0:List Int) (x1:List Int) (x2:List Qd) (x3:Int) (x4:List Qd) (x5:Int) (x6:Int) (x7:List Qd) (x8:Int) (x9:Int) (vg:Qd) (pn:List Int) {ρ:OT} (K:∀(v1:Qd) (h1:v1=(List.getD x7 (x9).toNat (fT.Gw .qd))) (v2:Int) (h2:v2=(IntKind.i64.wrap (x6+(1:Int)))),cond (decide (x9<x8))
  (ck (cq x9 (x7).length) (bK.l3 x0 x1 x2 x3 x9 x4 x5 x6 x7 x8 x9 (0:Int) vg v1 (Qd.mk ((0,0):Cx) ((0,0):Cx) ((0,0):Cx) ((0,0):Cx)) pn))
  (bK.l1 x0 x1 x2 x4 x5 v2 pn)=ρ):bK.l2 x0 x1 x2 x3 x4 x5 x6 x7 x8 x9 vg pn=ρ:=((de _ _ _ _ _ _).trans (by kernel_rfl)).trans (K _ rfl _ rfl)
theorem bK.ov (x0:List Int) (x1:List Int) (x2:List Qd) (x3:Int) (x4:Int) (x5:List Qd) (x6:Int) (x7:Int) (x8:List Qd) (x9:Int) (vg:Int) (pn:Int) (Cv:Qd) (Bz:Qd) (xQ:Qd) (Nc:List Int) {ρ:OT} (K:∀(v1:Cx) (h1:v1=(Gz.mul ((Qd.get Cv ((pn).toNat))) ((Qd.get Bz ((pn).toNat))))) (v2:Qd) (h2:v2=(Qd.set xQ ((pn).toNat) v1)) (v3:Int) (h3:v3=(IntKind.i64.wrap (pn+(1:Int)))),cond (decide (pn<(4:Int)))
  (ck (cq pn 4) (ck (decide ((pn).toNat<4)) (ck (cq pn 4) (ck (decide ((pn).toNat<4)) (ck (Gz.sT ((Qd.get Cv ((pn).toNat))) 33554432&&Gz.sT ((Qd.get Bz ((pn).toNat))) 33554432) (ck (cq pn 4) (ck (decide ((pn).toNat<4)) (bK.l3 x0 x1 x2 x3 x4 x5 x6 x7 x8 x9 vg v3 Cv Bz v2 Nc))))))))
  (ck (Gz.vc xQ 1125899906842624&&Gz.JP xQ) (bK.l4 x0 x1 x2 x3 x4 x5 x6 x7 x8 x9 vg (0:Int) Cv (Gz.back xQ) Nc))=ρ):bK.l3 x0 x1 x2 x3 x4 x5 x6 x7 x8 x9 vg pn Cv Bz xQ Nc=ρ:=((de _ _ _ _ _ _).trans (by kernel_rfl)).trans (K _ rfl _ rfl _ rfl)
theorem bK.sQ (x0:List Int) (x1:List Int) (x2:List Qd) (x3:Int) (x4:Int) (x5:List Qd) (x6:Int) (x7:Int) (x8:List Qd) (x9:Int) (vg:Int) (pn:Int) (Cv:Qd) (Bz:Qd) (xQ:List Int) {ρ:OT} (K:∀(v1:Int) (h1:v1=(Fl.toInt (((Qd.get Bz ((pn).toNat)))).1)) (v2:Int) (h2:v2=(Fl.toInt (((Qd.get Bz ((pn).toNat)))).2)) (v3:Int) (h3:v3=(IntKind.i64.wrap ((2:Int) * x3))) (v4:Int) (h4:v4=(IntKind.i64.wrap ((2:Int) * x4))) (v5:Int) (h5:v5=(IntKind.i64.wrap ((IntKind.i64.wrap (v3+v4))+pn))) (v6:Int) (h6:v6=(List.getD xQ ((v5).toNat) (0:Int))) (v7:List Int) (h7:v7=(List.set xQ ((v5).toNat) (IntKind.i64.wrap (v6+v1)))) (v8:Int) (h8:v8=(IntKind.i64.wrap (pn+(1:Int)))) (v9:Int) (h9:v9=(IntKind.i64.wrap (vg+(1:Int)))),cond (decide (pn<(3:Int)))
  (ck (cq pn 4) (ck (decide ((pn).toNat<4)) (ck (Gz.sT ((Qd.get Bz ((pn).toNat))) 4503599627370496) (ck (cq v5 (xQ).length) (ck (decide ((v5).toNat<(xQ).length)) (ck (cq v5 (xQ).length) (ck (decide ((v5).toNat<(xQ).length)) (bK.l4 x0 x1 x2 x3 x4 x5 x6 x7 x8 x9 vg v8 Cv Bz v7))))))))
  (bK.l2 x0 x1 x2 x3 x5 x6 x7 x8 x9 v9 Cv xQ)=ρ):bK.l4 x0 x1 x2 x3 x4 x5 x6 x7 x8 x9 vg pn Cv Bz xQ=ρ:=((de _ _ _ _ _ _).trans (by kernel_rfl)).trans (K _ rfl _ rfl _ rfl _ rfl _ rfl _ rfl _ rfl _ rfl _ rfl)
theorem bK.dZ (a:List Int) (b:List Int) {ρ:OT} (K:∀(v1:Bool) (h1:v1=(cond (!(true)) true (!(true)))) (v2:Bool) (h2:v2=(cond (decide (((a).length:Int)=(0:Int))) true (decide (((b).length:Int)=(0:Int))))) (v3:Int) (h3:v3=(IntKind.i64.wrap (((a).length:Int)+((b).length:Int)))) (v4:Int) (h4:v4=(IntKind.i64.wrap (v3+(2:Int)))) (v5:List Int) (h5:v5=(List.replicate (v4).toNat (0:Int))) (v6:Int) (h6:v6=(((Gz.gj a)).length:Int)),ck (decide ((a).length≤256)&&Gz.gY a) (ck (!(!(!(true))) || ((!(!(true)))&&(decide ((b).length≤256)&&Gz.gY b))) (ck (!(!(!(true))) || (!(!(true)))) (ck ((!(true)) || (!(!(true)))) (cond v1
  (some [(.sl .is ([]:List Int)),(.b false)])
  (ck (!(!(decide (((a).length:Int)=(0:Int)))) || (!(decide (((a).length:Int)=(0:Int))))) (ck (!(!(decide (((a).length:Int)=(0:Int)))) || (!(decide (((a).length:Int)=(0:Int))))) (ck ((decide (((a).length:Int)=(0:Int))) || (!(decide (((a).length:Int)=(0:Int))))) (cond v2
  (some [(.sl .is ([]:List Int)),(.b true)])
  (ck (tc v4 v4 8) (ck (decide ((a).length≤256)&&Gz.gY a) (ck (decide ((b).length≤256)&&Gz.gY b) (bK.l1 a b (Gz.gj b) (Gz.gj a) v6 (0:Int) v5))))))))))))=ρ):bK.F a b=ρ:=Eq.trans (by kernel_rfl) (K _ rfl _ rfl _ rfl _ rfl _ rfl _ rfl)
theorem bK.eJ:CK 62 bK.env bK.d:=fE (by kernel_rfl)
def cH.env:EV:=[]
def cH.E:eD:=cZ nrGl cH.env
def cH.m1:TM := .seq (oS [oV 0 3,oK (.k .len) [3] [4],oI .gtr 4 (.i .i64 0) 5,oV 5 6,oG 6 true (oV 0 7),oG 6 true (oV 0 8),oG 6 true (oK (.k .len) [8] [9]),oG 6 true (oI .sub 9 (.i .i64 1) 10),oG 6 true (oK (.k (.ix 1)) [7,10] [11]),oG 6 true (oK (.k (.lr 1 false)) [11] [12]),oG 6 true (oI .eql 12 (.u16 0) 13),oP 6 13 false 14] (.cond (.s 14) [] .skip (.exit 0))) none (.block 1 [] (.eZ [oV 0 15,oV 0 16,oK (.k .len) [16] [17],oI .sub 17 (.i .i64 1) 18,oK (.k (.sc 1 false true)) [15,18] [19],oV 19 0]))
def cH.m:TM:=oS [oW (.sl .ws ([]:List UInt16)) 2] (.seq (.block 0 [] (.loop [0] [] cH.m1)) none (oS [oV 0 20,oV 20 2] .ret))
def cH.d:gS:=D0 1 cH.m [.t 2]
def cH.F (a:List UInt16):OT:=cH.d.run cH.E [(.sl .ws a)]
def cH.k1:dI (List TV):=fG (ev _ cH.E (oS [oV 0 20,oV 20 2] .ret)) none (fK cH.d)
def cH.l1 (x0:List UInt16):OT:=eg (fQ _ cH.E cH.m1) jU [0] (cS [0] [(.sl .ws x0)]) (cG 0 cH.k1)
theorem cH.dE (x0:List UInt16) {ρ:OT} (K:∀(v1:Int) (h1:v1=(IntKind.i64.wrap (((x0).length:Int) - (1:Int)))) (v2:UInt16) (h2:v2=(List.getD x0 (v1).toNat (0:UInt16))) (v3:Bool) (h3:v3=(cond (decide ((0:Int)<((x0).length:Int))) (decide (v2=(0:UInt16))) false)),ck (!(decide ((0:Int)<((x0).length:Int))) || (decide ((0:Int)<((x0).length:Int)))) (ck (!(decide ((0:Int)<((x0).length:Int))) || (decide ((0:Int)<((x0).length:Int)))) (ck (!(decide ((0:Int)<((x0).length:Int))) || (((decide ((0:Int)<((x0).length:Int)))&&(decide ((0:Int)<((x0).length:Int))))&&(cq v1 (x0).length))) (ck (!(decide ((0:Int)<((x0).length:Int))) || (decide ((0:Int)<((x0).length:Int)))) (ck (!(decide ((0:Int)<((x0).length:Int))) || (decide ((0:Int)<((x0).length:Int)))) (ck (!(decide ((0:Int)<((x0).length:Int))) || (decide ((0:Int)<((x0).length:Int)))) (cond v3
  (ck (gN 0 v1 (x0).length) (cH.l1 (List.take (v1).toNat x0)))
  (some [(.sl .ws x0)])))))))=ρ):cH.l1 x0=ρ:=((de _ _ _ _ _ _).trans (by kernel_rfl)).trans (K _ rfl _ rfl _ rfl)
theorem cH.jq (a:List UInt16):cH.F a=cH.l1 a:=by kernel_rfl
theorem cH.eJ:CK 64 cH.env cH.d:=fE (by kernel_rfl)
def dG.env:EV:=[]
def dG.E:eD:=cZ nrGl dG.env
def dG.m:TM:=oS [oW (.b false) 2] (oS [oV 0 3,oK (.k .len) [3] [4],oI .leq 4 (.i .i64 256) 5,oV 5 6,oG 6 true (oV 0 7),oG 6 true (oK (.k .len) [7] [8]),oG 6 true (oI .eql 8 (.i .i64 0) 9),oG 6 true (oV 9 10),oG 10 false (oV 0 11),oG 10 false (oV 0 12),oG 10 false (oK (.k .len) [12] [13]),oG 10 false (oI .sub 13 (.i .i64 1) 14),oG 10 false (oK (.k (.ix 1)) [11,14] [15]),oG 10 false (oK (.k (.lr 1 false)) [15] [16]),oG 10 false (oI .neq 16 (.u16 0) 17),oG 6 true (oX (.k .pick) [.s 10,.c (.b true),.s 17] [18]),oP 6 18 false 19,oV 19 2] .ret)
def dG.d:gS:=D0 1 dG.m [.t 2]
def dG.F (a:List UInt16):OT:=dG.d.run dG.E [(.sl .ws a)]
theorem dG.dZ (a:List UInt16) {ρ:OT} (K:∀(v1:Bool) (h1:v1=((decide (((a).length:Int)≤(256:Int)))&&(!(decide (((a).length:Int)=(0:Int)))))) (v2:Int) (h2:v2=(IntKind.i64.wrap (((a).length:Int) - (1:Int)))) (v3:UInt16) (h3:v3=(List.getD a (v2).toNat (0:UInt16))) (v4:Bool) (h4:v4=(cond (decide (((a).length:Int)=(0:Int))) true (!decide (v3=(0:UInt16))))) (v5:Bool) (h5:v5=(cond (decide (((a).length:Int)≤(256:Int))) v4 false)),ck (!(decide (((a).length:Int)≤(256:Int))) || (decide (((a).length:Int)≤(256:Int)))) (ck (!(decide (((a).length:Int)≤(256:Int))) || (decide (((a).length:Int)≤(256:Int)))) (ck (!(decide (((a).length:Int)≤(256:Int))) || (decide (((a).length:Int)≤(256:Int)))) (ck (!v1 || v1) (ck (!v1 || v1) (ck (!v1 || ((v1&&v1)&&(cq v2 (a).length))) (ck (!v1 || v1) (ck (!v1 || v1) (ck (!(decide (((a).length:Int)≤(256:Int))) || ((decide (((a).length:Int)≤(256:Int)))&&((decide (((a).length:Int)=(0:Int))) || v1))) (ck (!(decide (((a).length:Int)≤(256:Int))) || (decide (((a).length:Int)≤(256:Int)))) (some [(.b v5)]))))))))))=ρ):dG.F a=ρ:=Eq.trans (by kernel_rfl) (K _ rfl _ rfl _ rfl _ rfl _ rfl)
theorem dG.eJ:CK 42 dG.env dG.d:=fE (by kernel_rfl)
def dA.env:EV:=[]
def dA.E:eD:=cZ nrGl dA.env
def dA.m1:TM := .seq (oS [oV 0 4,oI .gtr 4 (.u64 0) 5] (.cond (.s 5) [] .skip (.exit 0))) none (.seq (.block 1 [(3,.cB 103 1),(lk 103,.live 1)] (.eZ [oV 3 8,oV 0 9,oK (.k (.ci .u16)) [9] [10],oK (.bl .ws 1) [10] [11],oK (.k (.ap 101 103 1 2)) [8,11,(lk 101),(lk 103)] [12,lk 101,lk 103],oV 12 3])) none (.eZ [oV 0 6,oI .shr 6 (.u64 16) 7,oV 7 0]))
def dA.m:TM:=oS [oW (.sl .ws ([]:List UInt16)) 2] (oS [oK (.nl .ws 101) [(lk 101)] [3,lk 101]] (.seq (.block 0 [(3,.cB 101 1),(lk 101,.live 1)] (.loop [0,3] [(3,.cB 101 1),(lk 101,.live 1)] dA.m1)) none (oS [oV 3 13,oV 13 2] .ret)))
def dA.d:gS:=D0 1 dA.m [.t 2]
def dA.F (v:UInt64):OT:=dA.d.run dA.E [(.u64 v)]
def dA.k1:dI (List TV):=fG (ev _ dA.E (oS [oV 3 13,oV 13 2] .ret)) none (fK dA.d)
def dA.l1 (x0:UInt64) (x1:List UInt16):OT:=eg (fQ _ dA.E dA.m1) jU [0,3] (cS [0,3] [(.u64 x0),(.sl .ws x1)]) (cG 0 dA.k1)
theorem dA.dE (x0:UInt64) (x1:List UInt16) {ρ:OT} (K:∀(v1:UInt16) (h1:v1=(UInt16.ofInt ((x0).toNat:Int))) (v2:UInt64) (h2:v2=(iI x0 (((16:UInt64)).toNat))),cond (decide ((0:UInt64)<x0))
  (ck (jo ((x1).length+(([v1]:List UInt16)).length) 2) (dA.l1 v2 (x1++([v1]:List UInt16))))
  (some [(.sl .ws x1)])=ρ):dA.l1 x0 x1=ρ:=((de _ _ _ _ _ _).trans (by kernel_rfl)).trans (K _ rfl _ rfl)
theorem dA.jq (v:UInt64):dA.F v=dA.l1 v ([]:List UInt16):=by kernel_rfl
theorem dA.eJ:CK 18 dA.env dA.d:=fE (by kernel_rfl)
def cD.env:EV:=[(42,(dG.c,dG.sg))]
def cD.E:eD:=cZ nrGl cD.env
def cD.m1:TM:=oS [oB .lss 17 16 18] (.seq (.cond (.s 18) [] .skip (.exit 0)) none (.seq (.block 1 [] (oS [oV 17 19,oK (.k (.ix 1)) [15,17] [20],oK (.k (.lr 1 false)) [20] [21],oV 19 5,oV 21 6] (.eZ [oV 4 22,oV 6 23,oK (.k (.ci .u64)) [23] [24],oV 5 25,oX (.k (.bin .mul)) [.c (.i .i64 16),.s 25] [26],oB .shl 24 26 27,oB .or 22 27 28,oV 28 4]))) none (.eZ [oI .add 17 (.i .i64 1) 29,oV 29 17])))
def cD.m:TM:=oS [oW (.u64 0) 2,oW (.b false) 3] (.seq (oS [oV 0 7,oC 42 1 1 [7] 8,oK (.k (.un .not)) [8] [9],oV 9 10,oG 10 false (oV 0 11),oG 10 false (oK (.k .len) [11] [12]),oG 10 false (oI .gtr 12 (.i .i64 4) 13),oX (.k .pick) [.s 10,.c (.b true),.s 13] [14]] (.cond (.s 14) [] (oS [oW (.u64 0) 2,oW (.b false) 3] .ret) .skip)) none (oS [oW (.u64 0) 4] (.seq (oS [oV 0 15,oK (.k .len) [15] [16],oW (.i .i64 0) 17] (.block 0 [] (.loop [4,15,16,17] [] cD.m1))) none (oS [oV 4 30,oV 30 2,oW (.b true) 3] .ret))))
def cD.d:gS:=D0 1 cD.m [.t 2,.t 3]
def cD.F (a:List UInt16):OT:=cD.d.run cD.E [(.sl .ws a)]
def cD.k1:dI (List TV):=fG (ev _ cD.E (oS [oV 4 30,oV 30 2,oW (.b true) 3] .ret)) none (fK cD.d)
def cD.l1 (x0:UInt64) (x1:List UInt16) (x2:Int) (x3:Int):OT:=eg (fQ _ cD.E cD.m1) jU [4,15,16,17] (cS [4,15,16,17] [(.u64 x0),(.sl .ws x1),(.i .i64 x2),(.i .i64 x3)]) (cG 0 cD.k1)
theorem cD.dE (x0:UInt64) (x1:List UInt16) (x2:Int) (x3:Int) {ρ:OT} (K:∀(v1:UInt16) (h1:v1=(List.getD x1 (x3).toNat (0:UInt16))) (v2:UInt64) (h2:v2=(UInt64.ofInt ((v1).toNat:Int))) (v3:Int) (h3:v3=(IntKind.i64.wrap ((16:Int) * x3))) (v4:UInt64) (h4:v4=(x0 ||| (kM v2 ((v3).toNat)))) (v5:Int) (h5:v5=(IntKind.i64.wrap (x3+(1:Int)))),cond (decide (x3<x2))
  (ck (cq x3 (x1).length) (ck (decide (0≤v3)) (cD.l1 v4 x1 x2 v5)))
  (some [(.u64 x0),(.b true)])=ρ):cD.l1 x0 x1 x2 x3=ρ:=((de _ _ _ _ _ _).trans (by kernel_rfl)).trans (K _ rfl _ rfl _ rfl _ rfl _ rfl)
theorem cD.dZ (a:List UInt16) {ρ:OT} (K:∀(v1:Bool) (h1:v1=(cond (!(Nt.is a)) true (decide ((4:Int)<((a).length:Int))))),ck (decide ((a).length≤1099511627776)) (ck (!(!(!(Nt.is a))) || (!(!(Nt.is a)))) (ck (!(!(!(Nt.is a))) || (!(!(Nt.is a)))) (ck ((!(Nt.is a)) || (!(!(Nt.is a)))) (cond v1
  (some [(.u64 0),(.b false)])
  (cD.l1 (0:UInt64) a ((a).length:Int) (0:Int))))))=ρ):cD.F a=ρ:=Eq.trans (by kernel_rfl) (K _ rfl)
theorem cD.eJ:CK 95 cD.env cD.d:=fE (by kernel_rfl)
def dF.env:EV:=[(42,(dG.c,dG.sg)),(44,(bQ.c,bQ.sg))]
def dF.E:eD:=cZ nrGl dF.env
def dF.m:TM:=oS [oW (.i .i64 0) 2] (.seq (oS [oV 0 3,oC 42 1 1 [3] 4,oK (.k (.un .not)) [4] [5],oV 5 6,oG 6 false (oV 0 7),oG 6 false (oK (.k .len) [7] [8]),oG 6 false (oI .eql 8 (.i .i64 0) 9),oX (.k .pick) [.s 6,.c (.b true),.s 9] [10]] (.cond (.s 10) [] (oS [oW (.i .i64 0) 2] .ret) .skip)) none (oS [oV 0 11,oK (.k .len) [11] [12],oI .sub 12 (.i .i64 1) 13,oX (.k (.bin .mul)) [.c (.i .i64 16),.s 13] [14],oV 0 15,oV 0 16,oK (.k .len) [16] [17],oI .sub 17 (.i .i64 1) 18,oK (.k (.ix 1)) [15,18] [19],oK (.k (.lr 1 false)) [19] [20],oC 44 1 1 [20] 21,oB .add 14 21 22,oV 22 2] .ret))
def dF.d:gS:=D0 1 dF.m [.t 2]
def dF.F (a:List UInt16):OT:=dF.d.run dF.E [(.sl .ws a)]
theorem dF.dZ (a:List UInt16) {ρ:OT} (K:∀(v1:Bool) (h1:v1=(cond (!(Nt.is a)) true (decide (((a).length:Int)=(0:Int))))) (v2:Int) (h2:v2=(IntKind.i64.wrap (((a).length:Int) - (1:Int)))) (v3:Int) (h3:v3=(IntKind.i64.wrap ((16:Int) * v2))) (v4:UInt16) (h4:v4=(List.getD a (v2).toNat (0:UInt16))) (v5:Int) (h5:v5=(IntKind.i64.wrap (v3+((Nt.bits (v4).toNat:Int))))),ck (decide ((a).length≤1099511627776)) (ck (!(!(!(Nt.is a))) || (!(!(Nt.is a)))) (ck (!(!(!(Nt.is a))) || (!(!(Nt.is a)))) (ck ((!(Nt.is a)) || (!(!(Nt.is a)))) (cond v1
  (some [(.i .i64 0)])
  (ck (cq v2 (a).length) (some [(.i .i64 v5)]))))))=ρ):dF.F a=ρ:=Eq.trans (by kernel_rfl) (K _ rfl _ rfl _ rfl _ rfl _ rfl)
theorem dF.eJ:CK 20 dF.env dF.d:=fE (by kernel_rfl)
def di.env:EV:=[]
def di.E:eD:=cZ nrGl di.env
def di.m1:TM := .seq (oS [oV 5 19,oI .geq 19 (.i .i64 0) 20] (.cond (.s 20) [] .skip (.exit 0))) none (.seq (.block 1 [] (oS [oV 0 23,oV 5 24,oK (.k (.ix 1)) [23,24] [25],oK (.k (.lr 1 false)) [25] [26],oV 1 27,oV 5 28,oK (.k (.ix 1)) [27,28] [29],oK (.k (.lr 1 false)) [29] [30],oB .neq 26 30 31] (.cond (.s 31) [] (.seq (oS [oV 0 32,oV 5 33,oK (.k (.ix 1)) [32,33] [34],oK (.k (.lr 1 false)) [34] [35],oV 1 36,oV 5 37,oK (.k (.ix 1)) [36,37] [38],oK (.k (.lr 1 false)) [38] [39],oB .lss 35 39 40] (.cond (.s 40) [] (oS [oW (.i .i64 (-1)) 4] .ret) .skip)) none (oS [oW (.i .i64 1) 4] .ret)) .skip))) none (.eZ [oV 5 21,oI .sub 21 (.i .i64 1) 22,oV 22 5]))
def di.m:TM:=oS [oW (.i .i64 0) 4] (.seq (oS [oV 0 6,oK (.k .len) [6] [7],oV 1 8,oK (.k .len) [8] [9],oB .neq 7 9 10] (.cond (.s 10) [] (.seq (oS [oV 0 11,oK (.k .len) [11] [12],oV 1 13,oK (.k .len) [13] [14],oB .lss 12 14 15] (.cond (.s 15) [] (oS [oW (.i .i64 (-1)) 4] .ret) .skip)) none (oS [oW (.i .i64 1) 4] .ret)) .skip)) none (.seq (oS [oV 0 16,oK (.k .len) [16] [17],oI .sub 17 (.i .i64 1) 18,oV 18 5] (.block 0 [] (.loop [0,1,5] [] di.m1))) none (oS [oW (.i .i64 0) 4] .ret)))
def di.d:gS:=D0 2 di.m [.t 4]
def di.F (a:List UInt16) (b:List UInt16):OT:=di.d.run di.E [(.sl .ws a),(.sl .ws b)]
def di.k1:dI (List TV):=fG (ev _ di.E (oS [oW (.i .i64 0) 4] .ret)) none (fK di.d)
def di.l1 (x0:List UInt16) (x1:List UInt16) (x2:Int):OT:=eg (fQ _ di.E di.m1) jU [0,1,5] (cS [0,1,5] [(.sl .ws x0),(.sl .ws x1),(.i .i64 x2)]) (cG 0 di.k1)
theorem di.dE (x0:List UInt16) (x1:List UInt16) (x2:Int) {ρ:OT} (K:∀(v1:UInt16) (h1:v1=(List.getD x0 (x2).toNat (0:UInt16))) (v2:UInt16) (h2:v2=(List.getD x1 (x2).toNat (0:UInt16))) (v3:Int) (h3:v3=(IntKind.i64.wrap (x2 - (1:Int)))),cond (decide ((0:Int)≤x2))
  (ck (cq x2 (x0).length) (ck (cq x2 (x1).length) (cond (!decide (v1=v2))
  (ck (cq x2 (x0).length) (ck (cq x2 (x1).length) (cond (decide (v1<v2))
  (some [(.i .i64 (-1))])
  (some [(.i .i64 1)]))))
  (di.l1 x0 x1 v3))))
  (some [(.i .i64 0)])=ρ):di.l1 x0 x1 x2=ρ:=((de _ _ _ _ _ _).trans (by kernel_rfl)).trans (K _ rfl _ rfl _ rfl)
theorem di.dZ (a:List UInt16) (b:List UInt16) {ρ:OT} (K:∀(v1:Int) (h1:v1=(IntKind.i64.wrap (((a).length:Int) - (1:Int)))),cond (!decide (((a).length:Int)=((b).length:Int)))
  (cond (decide (((a).length:Int)<((b).length:Int)))
  (some [(.i .i64 (-1))])
  (some [(.i .i64 1)]))
  (di.l1 a b v1)=ρ):di.F a b=ρ:=Eq.trans (by kernel_rfl) (K _ rfl)
theorem di.eJ:CK 74 di.env di.d:=fE (by kernel_rfl)
def dY.env:EV:=[(42,(dG.c,dG.sg)),(74,(di.c,di.sg))]
def dY.E:eD:=cZ nrGl dY.env
def dY.m:TM:=oS [oW (.i .i64 0) 4] (.seq (oS [oV 0 5,oC 42 1 1 [5] 6,oK (.k (.un .not)) [6] [7],oV 7 8,oG 8 false (oV 1 9),oG 8 false (oC 42 1 1 [9] 10),oG 8 false (oK (.k (.un .not)) [10] [11]),oX (.k .pick) [.s 8,.c (.b true),.s 11] [12]] (.cond (.s 12) [] (oS [oW (.i .i64 0) 4] .ret) .skip)) none (oS [oV 0 13,oV 1 14,oC 74 2 1 [13,14] 15,oV 15 4] .ret))
def dY.d:gS:=D0 2 dY.m [.t 4]
def dY.F (a:List UInt16) (b:List UInt16):OT:=dY.d.run dY.E [(.sl .ws a),(.sl .ws b)]
theorem dY.dZ (a:List UInt16) (b:List UInt16) {ρ:OT} (K:∀(v1:Bool) (h1:v1=(cond (!(Nt.is a)) true (!(Nt.is b)))) (v2:Int) (h2:v2=(Nt.cmp (Nt.val a) (Nt.val b))),ck (decide ((a).length≤1099511627776)) (ck (!(!(!(Nt.is a))) || ((!(!(Nt.is a)))&&(decide ((b).length≤1099511627776)))) (ck (!(!(!(Nt.is a))) || (!(!(Nt.is a)))) (ck ((!(Nt.is a)) || (!(!(Nt.is a)))) (cond v1
  (some [(.i .i64 0)])
  (ck (decide ((a).length≤1099511627776∧(b).length≤1099511627776)&&(Nt.norm a&&Nt.norm b)) (some [(.i .i64 v2)]))))))=ρ):dY.F a b=ρ:=Eq.trans (by kernel_rfl) (K _ rfl _ rfl)
theorem dY.eJ:CK 46 dY.env dY.d:=fE (by kernel_rfl)
def bR.env:EV:=[]
def bR.E:eD:=cZ nrGl bR.env
def bR.m1:TM:=oS [oB .lss 11 10 12] (.seq (.cond (.s 12) [] .skip (.exit 0)) none (.seq (.block 1 [(3,.cB 101 1),(lk 101,.pv 1)] (oS [oV 11 13,oK (.k (.ix 1)) [9,11] [14],oK (.k (.lr 1 false)) [14] [15],oV 13 4,oV 15 5] (.eZ [oV 3 16,oV 4 17,oV 5 18,oK (.k (.ci .i64)) [18] [19],oK (.k (.lP 101 1)) [16,17,(lk 101)] [20],oK (.k (.sL 101 1 1)) [20,(lk 101),19] [lk 101]]))) none (.eZ [oI .add 11 (.i .i64 1) 21,oV 21 11])))
def bR.m:TM:=oS [oW (.sl .is ([]:List Int)) 2] (oS [oV 0 6,oK (.k .len) [6] [7],oK (.yO 101 8 .is (0:Int)) [7,7,(lk 101)] [8,lk 101],oV 8 3] (.seq (oS [oV 0 9,oK (.k .len) [9] [10],oW (.i .i64 0) 11] (.block 0 [(3,.cB 101 1),(lk 101,.pv 1)] (.loop [3,9,10,11,lk 101] [(3,.cB 101 1),(lk 101,.pv 1)] bR.m1))) none (oS [oK (.k (.sM 101 1)) [3,(lk 101)] [22,3,lk 101],oV 22 2] .ret)))
def bR.d:gS:=D0 1 bR.m [.t 2]
def bR.F (a:List UInt16):OT:=bR.d.run bR.E [(.sl .ws a)]
def bR.k1:dI (List TV):=fG (ev _ bR.E (oS [oK (.k (.sM 101 1)) [3,(lk 101)] [22,3,lk 101],oV 22 2] .ret)) none (fK bR.d)
def bR.l1 (x0:List UInt16) (x1:Int) (x2:Int) (x3:List Int):OT:=eg (fQ _ bR.E bR.m1) jU [3,9,10,11,lk 101] (cS [3,9,10,11,lk 101] [.pt,(.sl .ws x0),(.i .i64 x1),(.i .i64 x2),(.sl .is x3)]) (cG 0 bR.k1)
theorem bR.dE (x0:List UInt16) (x1:Int) (x2:Int) (x3:List Int) {ρ:OT} (K:∀(v1:UInt16) (h1:v1=(List.getD x0 (x2).toNat (0:UInt16))) (v2:Int) (h2:v2=(IntKind.i64.wrap ((v1).toNat:Int))) (v3:List Int) (h3:v3=(List.set x3 ((x2).toNat) v2)) (v4:Int) (h4:v4=(IntKind.i64.wrap (x2+(1:Int)))),cond (decide (x2<x1))
  (ck (cq x2 (x0).length) (ck (cq x2 (x3).length) (ck (decide ((x2).toNat<(x3).length)) (bR.l1 x0 x1 v4 v3))))
  (some [(.sl .is x3)])=ρ):bR.l1 x0 x1 x2 x3=ρ:=((de _ _ _ _ _ _).trans (by kernel_rfl)).trans (K _ rfl _ rfl _ rfl _ rfl)
theorem bR.dZ (a:List UInt16) {ρ:OT} (K:∀(v1:List Int) (h1:v1=(List.replicate (((a).length:Int)).toNat (0:Int))),ck (tc ((a).length:Int) ((a).length:Int) 8) (bR.l1 a ((a).length:Int) (0:Int) v1)=ρ):bR.F a=ρ:=Eq.trans (by kernel_rfl) (K _ rfl)
theorem bR.eJ:CK 63 bR.env bR.d:=fE (by kernel_rfl)
def cI.env:EV:=[(42,(dG.c,dG.sg)),(62,(bK.c,bK.sg)),(63,(bR.c,bR.sg)),(64,(cH.c,cH.sg))]
def cI.E:eD:=cZ nrGl cI.env
def cI.m1:TM:=oS [oB .lss 29 28 30] (.seq (.cond (.s 30) [] .skip (.exit 0)) none (.seq (.block 1 [(7,.cB 104 1),(lk 104,.live 1)] (oS [oK (.k (.ix 1)) [27,29] [31],oK (.k (.lr 1 false)) [31] [32],oV 32 10] (oS [oV 8 33,oV 10 34,oB .add 33 34 35,oV 35 8] (oS [oV 7 36,oV 8 37,oK (.k (.ci .u16)) [37] [38],oK (.bl .ws 1) [38] [39],oK (.k (.ap 102 104 1 2)) [36,39,(lk 102),(lk 104)] [40,lk 102,lk 104],oV 40 7] (.eZ [oV 8 41,oI .shr 41 (.u64 16) 42,oV 42 8]))))) none (.eZ [oI .add 29 (.i .i64 1) 43,oV 43 29])))
def cI.m2:TM := .seq (oS [oV 8 44,oI .gtr 44 (.i .i64 0) 45] (.cond (.s 45) [] .skip (.exit 2))) none (.seq (.block 3 [(7,.cB 106 1),(lk 106,.live 1)] (.eZ [oV 7 48,oV 8 49,oK (.k (.ci .u16)) [49] [50],oK (.bl .ws 1) [50] [51],oK (.k (.ap 102 106 1 2)) [48,51,(lk 102),(lk 106)] [52,lk 102,lk 106],oV 52 7])) none (.eZ [oV 8 46,oI .shr 46 (.u64 16) 47,oV 47 8]))
def cI.m:TM:=oS [oW (.sl .ws ([]:List UInt16)) 4] (.seq (oS [oV 0 11,oC 42 1 1 [11] 12,oK (.k (.un .not)) [12] [13],oV 13 14,oG 14 false (oV 1 15),oG 14 false (oC 42 1 1 [15] 16),oG 14 false (oK (.k (.un .not)) [16] [17]),oX (.k .pick) [.s 14,.c (.b true),.s 17] [18]] (.cond (.s 18) [] (oS [oW (.sl .ws ([]:List UInt16)) 4] .ret) .skip)) none (oS [oV 0 20,oC 63 1 1 [20] 21,oV 1 22,oC 63 1 1 [22] 23,oC 62 2 2 [21,23] 24,oV 24 19,oE 0 19 25,oE 1 19 26,oV 25 5,oV 26 6] (oS [oK (.nl .ws 102) [(lk 102)] [7,lk 102]] (oS [oW (.i .i64 0) 8] (.seq (oS [oV 5 27,oK (.k .len) [27] [28],oW (.i .i64 0) 29] (.block 0 [(7,.cB 102 1),(lk 102,.live 1)] (.loop [7,8,27,28,29] [(7,.cB 102 1),(lk 102,.live 1)] cI.m1))) none (.seq (.block 2 [(7,.cB 102 1),(lk 102,.live 1)] (.loop [7,8] [(7,.cB 102 1),(lk 102,.live 1)] cI.m2)) none (oS [oV 7 53,oC 64 1 1 [53] 54,oV 54 4] .ret)))))))
def cI.d:gS:=D0 2 cI.m [.t 4]
def cI.F (a:List UInt16) (b:List UInt16):OT:=cI.d.run cI.E [(.sl .ws a),(.sl .ws b)]
def cI.k1:dI (List TV):=fG (ev _ cI.E (.seq (.block 2 [(7,.cB 102 1),(lk 102,.live 1)] (.loop [7,8] [(7,.cB 102 1),(lk 102,.live 1)] cI.m2)) none (oS [oV 7 53,oC 64 1 1 [53] 54,oV 54 4] .ret))) none (fK cI.d)
def cI.k2:dI (List TV):=fG (ev _ cI.E (oS [oV 7 53,oC 64 1 1 [53] 54,oV 54 4] .ret)) none (fK cI.d)
def cI.l1 (x0:List UInt16) (x1:Int) (x2:List Int) (x3:Int) (x4:Int):OT:=eg (fQ _ cI.E cI.m1) jU [7,8,27,28,29] (cS [7,8,27,28,29] [(.sl .ws x0),(.i .i64 x1),(.sl .is x2),(.i .i64 x3),(.i .i64 x4)]) (cG 0 cI.k1)
def cI.l2 (x0:List UInt16) (x1:Int):OT:=eg (fQ _ cI.E cI.m2) jU [7,8] (cS [7,8] [(.sl .ws x0),(.i .i64 x1)]) (cG 2 cI.k2)
theorem cI.dE (x0:List UInt16) (x1:Int) (x2:List Int) (x3:Int) (x4:Int) {ρ:OT} (K:∀(v1:Int) (h1:v1=(List.getD x2 (x4).toNat (0:Int))) (v2:UInt16) (h2:v2=(UInt16.ofInt (IntKind.i64.wrap (x1+v1)))) (v3:Int) (h3:v3=(Int.fdiv (IntKind.i64.wrap (x1+v1)) (2 ^ (min (((16:UInt64)).toNat) (IntKind.i64.bits))))) (v4:Int) (h4:v4=(IntKind.i64.wrap (x4+(1:Int)))),cond (decide (x4<x3))
  (ck (cq x4 (x2).length) (ck (jo ((x0).length+(([v2]:List UInt16)).length) 2) (cI.l1 (x0++([v2]:List UInt16)) v3 x2 x3 v4)))
  (cI.l2 x0 x1)=ρ):cI.l1 x0 x1 x2 x3 x4=ρ:=((de _ _ _ _ _ _).trans (by kernel_rfl)).trans (K _ rfl _ rfl _ rfl _ rfl)
theorem cI.jw (x0:List UInt16) (x1:Int) {ρ:OT} (K:∀(v1:List UInt16) (h1:v1=([(UInt16.ofInt x1)]:List UInt16)) (v2:Int) (h2:v2=(Int.fdiv x1 (2 ^ (min (((16:UInt64)).toNat) (IntKind.i64.bits))))),cond (decide ((0:Int)<x1))
  (ck (jo ((x0).length+(v1).length) 2) (cI.l2 (x0++v1) v2))
  (ck (decide ((x0).length≤1099511627776)) (some [(.sl .ws (Nt.of (Nt.val x0)))]))=ρ):cI.l2 x0 x1=ρ:=((de _ _ _ _ _ _).trans (by kernel_rfl)).trans (K _ rfl _ rfl)
theorem cI.dZ (a:List UInt16) (b:List UInt16) {ρ:OT} (K:∀(v1:Bool) (h1:v1=(cond (!(Nt.is a)) true (!(Nt.is b)))) (v2:List Int) (h2:v2=((a).map fun d=>(d.toNat:Int))) (v3:List Int) (h3:v3=((b).map fun d=>(d.toNat:Int))) (v4:Int) (h4:v4=(((Gz.conv v2 v3)).length:Int)),ck (decide ((a).length≤1099511627776)) (ck (!(!(!(Nt.is a))) || ((!(!(Nt.is a)))&&(decide ((b).length≤1099511627776)))) (ck (!(!(!(Nt.is a))) || (!(!(Nt.is a)))) (ck ((!(Nt.is a)) || (!(!(Nt.is a)))) (cond v1
  (some [(.sl .ws ([]:List UInt16))])
  (ck (decide ((a).length≤256)) (ck (decide ((b).length≤256)) (ck (decide ((v2).length≤256∧(v3).length≤256)&&(Gz.gY v2&&Gz.gY v3)) (cI.l1 ([]:List UInt16) (0:Int) (Gz.conv v2 v3) v4 (0:Int)))))))))=ρ):cI.F a b=ρ:=Eq.trans (by kernel_rfl) (K _ rfl _ rfl _ rfl _ rfl)
theorem cI.eJ:CK 34 cI.env cI.d:=fE (by kernel_rfl)
def dh.env:EV:=[(64,(cH.c,cH.sg))]
def dh.E:eD:=cZ nrGl dh.env
def dh.m1:TM := .seq (oS [oV 8 15,oI .geq 15 (.i .i64 0) 16] (.cond (.s 16) [] .skip (.exit 0))) none (.seq (.block 1 [(6,.cB 101 1),(lk 101,.pv 1)] (oS [oV 7 19,oI .shl 19 (.u64 16) 20,oV 0 21,oV 8 22,oK (.k (.ix 1)) [21,22] [23],oK (.k (.lr 1 false)) [23] [24],oK (.k (.ci .u32)) [24] [25],oB .or 20 25 26,oV 26 7] (oS [oV 6 27,oV 8 28,oV 7 29,oV 1 30,oK (.k (.ci .u32)) [30] [31],oB .quo 29 31 32,oK (.k (.ci .u16)) [32] [33],oK (.k (.lP 101 1)) [27,28,(lk 101)] [34],oK (.k (.sL 101 1 1)) [34,(lk 101),33] [lk 101]] (.eZ [oV 7 35,oV 1 36,oK (.k (.ci .u32)) [36] [37],oB .rem 35 37 38,oV 38 7])))) none (.eZ [oV 8 17,oI .sub 17 (.i .i64 1) 18,oV 18 8]))
def dh.m:TM:=oS [oW (.sl .ws ([]:List UInt16)) 4,oW (.u16 0) 5] (oS [oV 0 9,oK (.k .len) [9] [10],oK (.yO 101 2 .ws (0:UInt16)) [10,10,(lk 101)] [11,lk 101],oV 11 6] (oS [oW (.u32 0) 7] (.seq (oS [oV 0 12,oK (.k .len) [12] [13],oI .sub 13 (.i .i64 1) 14,oV 14 8] (.block 0 [(6,.cB 101 1),(lk 101,.pv 1)] (.loop [0,1,6,7,8,lk 101] [(6,.cB 101 1),(lk 101,.pv 1)] dh.m1))) none (oS [oK (.k (.sM 101 1)) [6,(lk 101)] [39,6,lk 101],oC 64 1 1 [39] 40,oV 7 41,oK (.k (.ci .u16)) [41] [42],oV 40 4,oV 42 5] .ret))))
def dh.d:gS:=D0 2 dh.m [.t 4,.t 5]
def dh.F (a:List UInt16) (d:UInt16):OT:=dh.d.run dh.E [(.sl .ws a),(.u16 d)]
def dh.k1:dI (List TV):=fG (ev _ dh.E (oS [oK (.k (.sM 101 1)) [6,(lk 101)] [39,6,lk 101],oC 64 1 1 [39] 40,oV 7 41,oK (.k (.ci .u16)) [41] [42],oV 40 4,oV 42 5] .ret)) none (fK dh.d)
def dh.l1 (x0:List UInt16) (x1:UInt16) (x2:UInt32) (x3:Int) (x4:List UInt16):OT:=eg (fQ _ dh.E dh.m1) jU [0,1,6,7,8,lk 101] (cS [0,1,6,7,8,lk 101] [(.sl .ws x0),(.u16 x1),.pt,(.u32 x2),(.i .i64 x3),(.sl .ws x4)]) (cG 0 dh.k1)
theorem dh.dE (x0:List UInt16) (x1:UInt16) (x2:UInt32) (x3:Int) (x4:List UInt16) {ρ:OT} (K:∀(v1:UInt32) (h1:v1=(qv x2 (((16:UInt64)).toNat))) (v2:UInt16) (h2:v2=(List.getD x0 (x3).toNat (0:UInt16))) (v3:UInt32) (h3:v3=(UInt32.ofInt ((v2).toNat:Int))) (v4:UInt32) (h4:v4=(UInt32.ofInt ((x1).toNat:Int))) (v5:UInt16) (h5:v5=(UInt16.ofInt ((((v1 ||| v3) / v4)).toNat:Int))) (v6:List UInt16) (h6:v6=(List.set x4 ((x3).toNat) v5)) (v7:Int) (h7:v7=(IntKind.i64.wrap (x3 - (1:Int)))) (v8:UInt16) (h8:v8=(UInt16.ofInt ((x2).toNat:Int))),cond (decide ((0:Int)≤x3))
  (ck (cq x3 (x0).length) (ck (!decide (v4=0)) (ck (cq x3 (x4).length) (ck (decide ((x3).toNat<(x4).length)) (ck (!decide (v4=0)) (dh.l1 x0 x1 ((v1 ||| v3) % v4) v7 v6))))))
  (ck (decide ((x4).length≤1099511627776)) (some [(.sl .ws (Nt.of (Nt.val x4))),(.u16 v8)]))=ρ):dh.l1 x0 x1 x2 x3 x4=ρ:=((de _ _ _ _ _ _).trans (by kernel_rfl)).trans (K _ rfl _ rfl _ rfl _ rfl _ rfl _ rfl _ rfl _ rfl)
theorem dh.dZ (a:List UInt16) (d:UInt16) {ρ:OT} (K:∀(v1:List UInt16) (h1:v1=(List.replicate (((a).length:Int)).toNat (0:UInt16))) (v2:Int) (h2:v2=(IntKind.i64.wrap (((a).length:Int) - (1:Int)))),ck (tc ((a).length:Int) ((a).length:Int) 2) (dh.l1 a d (0:UInt32) v2 v1)=ρ):dh.F a d=ρ:=Eq.trans (by kernel_rfl) (K _ rfl _ rfl)
theorem dh.eJ:CK 76 dh.env dh.d:=fE (by kernel_rfl)
def dv.env:EV:=[]
def dv.E:eD:=cZ nrGl dv.env
def dv.m1:TM:=oS [oB .lss 11 10 12] (.seq (.cond (.s 12) [] .skip (.exit 0)) none (.seq (.block 1 [(5,.cB 103 1),(lk 103,.live 1)] (oS [oK (.k (.ix 1)) [9,11] [13],oK (.k (.lr 1 false)) [13] [14],oV 14 8] (oS [oV 6 15,oV 8 16,oK (.k (.ci .u32)) [16] [17],oV 1 18,oB .shl 17 18 19,oB .or 15 19 20,oV 20 6] (oS [oV 5 21,oV 6 22,oK (.k (.ci .u16)) [22] [23],oK (.bl .ws 1) [23] [24],oK (.k (.ap 101 103 1 2)) [21,24,(lk 101),(lk 103)] [25,lk 101,lk 103],oV 25 5] (.eZ [oV 6 26,oI .shr 26 (.u64 16) 27,oV 27 6]))))) none (.eZ [oI .add 11 (.i .i64 1) 28,oV 28 11])))
def dv.m2:TM:=oS [oV 5 36,oV 36 4] .ret
def dv.m:TM:=oS [oW (.sl .ws ([]:List UInt16)) 4] (oS [oK (.nl .ws 101) [(lk 101)] [5,lk 101]] (oS [oW (.u32 0) 6] (.seq (oS [oV 0 9,oK (.k .len) [9] [10],oW (.i .i64 0) 11] (.block 0 [(5,.cB 101 1),(lk 101,.live 1)] (.loop [1,5,6,9,10,11] [(5,.cB 101 1),(lk 101,.live 1)] dv.m1))) none (.seq (oS [oV 6 29,oI .gtr 29 (.u32 0) 30] (.cond (.s 30) [(5,.cB 105 1),(lk 105,.live 1)] (.eZ [oV 5 31,oV 6 32,oK (.k (.ci .u16)) [32] [33],oK (.bl .ws 1) [33] [34],oK (.k (.ap 101 105 1 2)) [31,34,(lk 101),(lk 105)] [35,lk 101,lk 105],oV 35 5]) .skip)) (some [5]) dv.m2))))
def dv.d:gS:={ np:=2,m:=dv.m,ref:=none,fR:=[],res:=[.t 4],own:=[(0,1)],new:=none,fD:=[] }
def dv.F (a:List UInt16) (n:Int):OT:=dv.d.run dv.E [(.sl .ws a),(.i .i64 n)]
def dv.k1:dI (List TV):=fG (ev _ dv.E (.seq (oS [oV 6 29,oI .gtr 29 (.u32 0) 30] (.cond (.s 30) [(5,.cB 105 1),(lk 105,.live 1)] (.eZ [oV 5 31,oV 6 32,oK (.k (.ci .u16)) [32] [33],oK (.bl .ws 1) [33] [34],oK (.k (.ap 101 105 1 2)) [31,34,(lk 101),(lk 105)] [35,lk 101,lk 105],oV 35 5]) .skip)) (some [5]) dv.m2)) none (fK dv.d)
def dv.l1 (x0:Int) (x1:List UInt16) (x2:UInt32) (x3:List UInt16) (x4:Int) (x5:Int):OT:=eg (fQ _ dv.E dv.m1) jU [1,5,6,9,10,11] (cS [1,5,6,9,10,11] [(.i .i64 x0),(.sl .ws x1),(.u32 x2),(.sl .ws x3),(.i .i64 x4),(.i .i64 x5)]) (cG 0 dv.k1)
def dv.j2 (x0:List UInt16):OT:=fQ _ dv.E dv.m2 (cS [5] [(.sl .ws x0)]) (fK dv.d)
theorem dv.dE (x0:Int) (x1:List UInt16) (x2:UInt32) (x3:List UInt16) (x4:Int) (x5:Int) {ρ:OT} (K:∀(v1:UInt16) (h1:v1=(List.getD x3 (x5).toNat (0:UInt16))) (v2:UInt32) (h2:v2=(UInt32.ofInt ((v1).toNat:Int))) (v3:UInt32) (h3:v3=(x2 ||| (qv v2 ((x0).toNat)))) (v4:UInt16) (h4:v4=(UInt16.ofInt ((v3).toNat:Int))) (v5:UInt32) (h5:v5=(ue v3 (((16:UInt64)).toNat))) (v6:Int) (h6:v6=(IntKind.i64.wrap (x5+(1:Int)))) (v7:UInt16) (h7:v7=(UInt16.ofInt ((x2).toNat:Int))),cond (decide (x5<x4))
  (ck (cq x5 (x3).length) (ck (decide (0≤x0)) (ck (jo ((x1).length+(([v4]:List UInt16)).length) 2) (dv.l1 x0 (x1++([v4]:List UInt16)) v5 x3 x4 v6))))
  (cond (decide ((0:UInt32)<x2))
  (ck (jo ((x1).length+(([v7]:List UInt16)).length) 2) (dv.j2 (x1++([v7]:List UInt16))))
  (dv.j2 x1))=ρ):dv.l1 x0 x1 x2 x3 x4 x5=ρ:=((de _ _ _ _ _ _).trans (by kernel_rfl)).trans (K _ rfl _ rfl _ rfl _ rfl _ rfl _ rfl _ rfl)
theorem dv.ow (x0:List UInt16):dv.j2 x0=some [(.sl .ws x0)]:=((congrFun (congrFun (ie _ _) _) _).trans (by kernel_rfl))
theorem dv.jq (a:List UInt16) (n:Int):dv.F a n=dv.l1 n ([]:List UInt16) (0:UInt32) a ((a).length:Int) (0:Int):=by kernel_rfl
theorem dv.eJ:CK 43 dv.env dv.d:=fE (by kernel_rfl)
def cz.env:EV:=[(64,(cH.c,cH.sg))]
def cz.E:eD:=cZ nrGl cz.env
def cz.m1:TM := .eZ [oI .add 13 (.i .i64 1) 45,oV 45 13]
def cz.m2:TM:=oS [oB .lss 13 12 14] (.seq (.cond (.s 14) [] .skip (.exit 0)) none (.seq (.block 1 [(5,.cB 101 1),(lk 101,.pv 1)] (oS [oV 13 15,oK (.k (.ix 1)) [11,13] [16],oK (.k (.lr 1 false)) [16] [17],oV 15 6,oV 17 7] (oS [oV 5 18,oV 6 19,oV 7 20,oV 1 21,oB .shr 20 21 22,oK (.k (.lP 101 1)) [18,19,(lk 101)] [23],oK (.k (.sL 101 1 1)) [23,(lk 101),22] [lk 101]] (oS [oV 6 24,oI .add 24 (.i .i64 1) 25,oV 0 26,oK (.k .len) [26] [27],oB .lss 25 27 28] (.cond (.s 28) [(5,.cB 101 1),(lk 101,.pv 1)] (.eZ [oV 5 29,oV 6 30,oK (.k (.lP 101 1)) [29,30,(lk 101)] [31],oK (.k (.rQ 101 1 1 false)) [31,(lk 101)] [32],oV 0 33,oV 6 34,oI .add 34 (.i .i64 1) 35,oK (.k (.ix 1)) [33,35] [36],oK (.k (.lr 1 false)) [36] [37],oK (.k (.ci .u32)) [37] [38],oV 1 39,oX (.k (.bin .sub)) [.c (.i .i64 16),.s 39] [40],oB .shl 38 40 41,oK (.k (.ci .u16)) [41] [42],oB .or 32 42 43,oK (.k (.lP 101 1)) [29,30,(lk 101)] [44],oK (.k (.sL 101 1 1)) [44,(lk 101),43] [lk 101]]) .skip))))) (some [0,1,5,11,12,13,lk 101]) cz.m1))
def cz.m:TM:=oS [oW (.sl .ws ([]:List UInt16)) 4] (oS [oV 0 8,oK (.k .len) [8] [9],oK (.yO 101 2 .ws (0:UInt16)) [9,9,(lk 101)] [10,lk 101],oV 10 5] (.seq (oS [oV 0 11,oK (.k .len) [11] [12],oW (.i .i64 0) 13] (.block 0 [(5,.cB 101 1),(lk 101,.pv 1)] (.loop [0,1,5,11,12,13,lk 101] [(5,.cB 101 1),(lk 101,.pv 1)] cz.m2))) none (oS [oK (.k (.sM 101 1)) [5,(lk 101)] [46,5,lk 101],oC 64 1 1 [46] 47,oV 47 4] .ret)))
def cz.d:gS:=D0 2 cz.m [.t 4]
def cz.F (a:List UInt16) (n:Int):OT:=cz.d.run cz.E [(.sl .ws a),(.i .i64 n)]
def cz.k1:dI (List TV):=fG (ev _ cz.E (oS [oK (.k (.sM 101 1)) [5,(lk 101)] [46,5,lk 101],oC 64 1 1 [46] 47,oV 47 4] .ret)) none (fK cz.d)
def cz.k2:dI (List TV):=gn (fQ _ cz.E cz.m2) jU [0,1,5,11,12,13,lk 101] (cG 0 cz.k1)
def cz.l1 (x0:List UInt16) (x1:Int) (x2:List UInt16) (x3:Int) (x4:Int) (x5:List UInt16):OT:=eg (fQ _ cz.E cz.m2) jU [0,1,5,11,12,13,lk 101] (cS [0,1,5,11,12,13,lk 101] [(.sl .ws x0),(.i .i64 x1),.pt,(.sl .ws x2),(.i .i64 x3),(.i .i64 x4),(.sl .ws x5)]) (cG 0 cz.k1)
def cz.j2 (x0:List UInt16) (x1:Int) (x2:List UInt16) (x3:Int) (x4:Int) (x5:List UInt16):OT:=fQ _ cz.E cz.m1 (cS [0,1,5,11,12,13,lk 101] [(.sl .ws x0),(.i .i64 x1),.pt,(.sl .ws x2),(.i .i64 x3),(.i .i64 x4),(.sl .ws x5)]) cz.k2
theorem cz.dE (x0:List UInt16) (x1:Int) (x2:List UInt16) (x3:Int) (x4:Int) (x5:List UInt16) {ρ:OT} (K:∀(v1:UInt16) (h1:v1=(List.getD x2 (x4).toNat (0:UInt16))) (v2:List UInt16) (h2:v2=(List.set x5 ((x4).toNat) (qu v1 ((x1).toNat)))) (v3:Int) (h3:v3=(IntKind.i64.wrap (x4+(1:Int)))) (v4:UInt16) (h4:v4=(List.getD v2 ((x4).toNat) (0:UInt16))) (v5:UInt16) (h5:v5=(List.getD x0 (v3).toNat (0:UInt16))) (v6:UInt32) (h6:v6=(UInt32.ofInt ((v5).toNat:Int))) (v7:Int) (h7:v7=(IntKind.i64.wrap ((16:Int) - x1))) (v8:UInt16) (h8:v8=(UInt16.ofInt (((qv v6 ((v7).toNat))).toNat:Int))) (v9:List UInt16) (h9:v9=(List.set v2 ((x4).toNat) (v4 ||| v8))),cond (decide (x4<x3))
  (ck (cq x4 (x2).length) (ck (decide (0≤x1)) (ck (cq x4 (x5).length) (ck (decide ((x4).toNat<(x5).length)) (cond (decide (v3<((x0).length:Int)))
  (ck (cq x4 (v2).length) (ck (decide ((x4).toNat<(v2).length)) (ck (cq v3 (x0).length) (ck (decide (0≤v7)) (ck (cq x4 (v2).length) (ck (decide ((x4).toNat<(v2).length)) (cz.j2 x0 x1 x2 x3 x4 v9)))))))
  (cz.j2 x0 x1 x2 x3 x4 v2))))))
  (ck (decide ((x5).length≤1099511627776)) (some [(.sl .ws (Nt.of (Nt.val x5)))]))=ρ):cz.l1 x0 x1 x2 x3 x4 x5=ρ:=((de _ _ _ _ _ _).trans (by kernel_rfl)).trans (K _ rfl _ rfl _ rfl _ rfl _ rfl _ rfl _ rfl _ rfl _ rfl)
theorem cz.vV (x0:List UInt16) (x1:Int) (x2:List UInt16) (x3:Int) (x4:Int) (x5:List UInt16) {ρ:OT} (K:∀(v1:Int) (h1:v1=(IntKind.i64.wrap (x4+(1:Int)))),cz.l1 x0 x1 x2 x3 v1 x5=ρ):cz.j2 x0 x1 x2 x3 x4 x5=ρ:=((congrFun (congrFun (ie _ _) _) _).trans (by kernel_rfl)).trans (K _ rfl)
theorem cz.dZ (a:List UInt16) (n:Int) {ρ:OT} (K:∀(v1:List UInt16) (h1:v1=(List.replicate (((a).length:Int)).toNat (0:UInt16))),ck (tc ((a).length:Int) ((a).length:Int) 2) (cz.l1 a n a ((a).length:Int) (0:Int) v1)=ρ):cz.F a n=ρ:=Eq.trans (by kernel_rfl) (K _ rfl)
theorem cz.eJ:CK 78 cz.env cz.d:=fE (by kernel_rfl)
end
end Go.Eng
set_option maxRecDepth 100000
namespace Go.Eng
open Go.Proofs
noncomputable section
def bG.env:EV:=[]
def bG.E:eD:=cZ nrGl bG.env
def bG.m1:TM := .seq (oS [oV 9 71,oI .gtr 71 (.u64 65535) 72,oV 72 73,oG 73 false (oV 9 74),oG 73 false (oV 1 75),oG 73 false (oV 6 76),oG 73 false (oI .sub 76 (.i .i64 2) 77),oG 73 false (oK (.k (.ix 1)) [75,77] [78]),oG 73 false (oK (.k (.lr 1 false)) [78] [79]),oG 73 false (oK (.k (.ci .u64)) [79] [80]),oG 73 false (oB .mul 74 80 81),oG 73 false (oV 10 82),oG 73 false (oI .shl 82 (.u64 16) 83),oG 73 false (oV 0 84),oG 73 false (oV 7 85),oG 73 false (oV 6 86),oG 73 false (oB .add 85 86 87),oG 73 false (oI .sub 87 (.i .i64 2) 88),oG 73 false (oK (.k (.lP 103 1)) [84,88,(lk 103)] [89]),oG 73 false (oK (.k (.rQ 103 1 1 false)) [89,(lk 103)] [90]),oG 73 false (oK (.k (.ci .u64)) [90] [91]),oG 73 false (oB .or 83 91 92),oG 73 false (oB .gtr 81 92 93),oX (.k .pick) [.s 73,.c (.b true),.s 93] [94]] (.cond (.s 94) [] .skip (.exit 2))) none (.block 3 [(0,.cB 103 1),(4,.cB 104 1),(lk 103,.pv 1),(lk 104,.pv 1)] (oS [oV 9 95,oI .sub 95 (.u64 1) 96,oV 96 9] (oS [oV 10 97,oV 1 98,oV 6 99,oI .sub 99 (.i .i64 1) 100,oK (.k (.ix 1)) [98,100] [101],oK (.k (.lr 1 false)) [101] [102],oK (.k (.ci .u64)) [102] [103],oB .add 97 103 104,oV 104 10] (oS [oV 10 105,oI .gtr 105 (.u64 65535) 106] (.cond (.s 106) [] (.exit 2) .skip)))))
def bG.m2:TM:=oS [oB .lss 108 107 109] (.seq (.cond (.s 109) [] .skip (.exit 4)) none (.seq (.block 5 [(0,.cB 103 1),(4,.cB 104 1),(lk 103,.pv 1),(lk 104,.pv 1)] (oS [oV 108 110,oV 110 13] (oS [oV 9 111,oV 1 112,oV 13 113,oK (.k (.ix 1)) [112,113] [114],oK (.k (.lr 1 false)) [114] [115],oK (.k (.ci .u64)) [115] [116],oB .mul 111 116 117,oV 12 118,oB .add 117 118 119,oV 119 14] (oS [oV 14 120,oI .shr 120 (.u64 16) 121,oV 121 12] (oS [oV 0 122,oV 13 123,oV 7 124,oB .add 123 124 125,oK (.k (.lP 103 1)) [122,125,(lk 103)] [126],oK (.k (.rQ 103 1 1 false)) [126,(lk 103)] [127],oK (.k (.ci .i64)) [127] [128],oV 11 129,oB .sub 128 129 130,oV 14 131,oI .and 131 (.u64 65535) 132,oK (.k (.ci .i64)) [132] [133],oB .sub 130 133 134,oV 134 15] (.eZ [oV 0 135,oV 13 136,oV 7 137,oB .add 136 137 138,oV 15 139,oK (.k (.ci .u16)) [139] [140],oV 15 141,oI .shr 141 (.u64 16) 142,oI .and 142 (.i .i64 1) 143,oK (.k (.lP 103 1)) [135,138,(lk 103)] [144],oK (.k (.sL 103 1 1)) [144,(lk 103),140] [lk 103],oV 143 11])))))) none (.eZ [oI .add 108 (.i .i64 1) 145,oV 145 108])))
def bG.m3:TM:=oS [oB .lss 170 169 171] (.seq (.cond (.s 171) [] .skip (.exit 6)) none (.seq (.block 7 [(0,.cB 103 1),(4,.cB 104 1),(lk 103,.pv 1),(lk 104,.pv 1)] (oS [oV 170 172,oV 172 18] (oS [oV 17 173,oV 0 174,oV 18 175,oV 7 176,oB .add 175 176 177,oK (.k (.lP 103 1)) [174,177,(lk 103)] [178],oK (.k (.rQ 103 1 1 false)) [178,(lk 103)] [179],oK (.k (.ci .u32)) [179] [180],oV 1 181,oV 18 182,oK (.k (.ix 1)) [181,182] [183],oK (.k (.lr 1 false)) [183] [184],oK (.k (.ci .u32)) [184] [185],oB .add 180 185 186,oB .add 173 186 187,oV 187 17] (oS [oV 0 188,oV 18 189,oV 7 190,oB .add 189 190 191,oV 17 192,oK (.k (.ci .u16)) [192] [193],oK (.k (.lP 103 1)) [188,191,(lk 103)] [194],oK (.k (.sL 103 1 1)) [194,(lk 103),193] [lk 103]] (.eZ [oV 17 195,oI .shr 195 (.u64 16) 196,oV 196 17]))))) none (.eZ [oI .add 170 (.i .i64 1) 197,oV 197 170])))
def bG.m4:TM := .eZ [oV 4 208,oV 7 209,oV 9 210,oK (.k (.ci .u16)) [210] [211],oK (.k (.lP 104 1)) [208,209,(lk 104)] [212],oK (.k (.sL 104 1 1)) [212,(lk 104),211] [lk 104]]
def bG.m5:TM:=oS [oW (.i .i64 0) 11,oW (.u64 0) 12] (.seq (oS [oV 6 107,oW (.i .i64 0) 108] (.block 4 [(0,.cB 103 1),(4,.cB 104 1),(lk 103,.pv 1),(lk 104,.pv 1)] (.loop [0,1,4,6,7,9,11,12,107,108,lk 103,lk 104] [(0,.cB 103 1),(4,.cB 104 1),(lk 103,.pv 1),(lk 104,.pv 1)] bG.m2))) none (oS [oV 0 146,oV 7 147,oV 6 148,oB .add 147 148 149,oK (.k (.lP 103 1)) [146,149,(lk 103)] [150],oK (.k (.rQ 103 1 1 false)) [150,(lk 103)] [151],oK (.k (.ci .i64)) [151] [152],oV 11 153,oB .sub 152 153 154,oV 12 155,oK (.k (.ci .i64)) [155] [156],oB .sub 154 156 157,oV 157 16] (oS [oV 0 158,oV 7 159,oV 6 160,oB .add 159 160 161,oV 16 162,oK (.k (.ci .u16)) [162] [163],oK (.k (.lP 103 1)) [158,161,(lk 103)] [164],oK (.k (.sL 103 1 1)) [164,(lk 103),163] [lk 103]] (.seq (oS [oV 16 165,oI .lss 165 (.i .i64 0) 166] (.cond (.s 166) [(0,.cB 103 1),(4,.cB 104 1),(lk 103,.pv 1),(lk 104,.pv 1)] (oS [oV 9 167,oI .sub 167 (.u64 1) 168,oV 168 9] (oS [oW (.u32 0) 17] (.seq (oS [oV 6 169,oW (.i .i64 0) 170] (.block 6 [(0,.cB 103 1),(4,.cB 104 1),(lk 103,.pv 1),(lk 104,.pv 1)] (.loop [0,1,4,6,7,9,17,169,170,lk 103,lk 104] [(0,.cB 103 1),(4,.cB 104 1),(lk 103,.pv 1),(lk 104,.pv 1)] bG.m3))) none (.eZ [oV 0 198,oV 7 199,oV 6 200,oB .add 199 200 201,oK (.k (.lP 103 1)) [198,201,(lk 103)] [202],oK (.k (.rQ 103 1 1 false)) [202,(lk 103)] [203],oV 17 204,oK (.k (.ci .u16)) [204] [205],oB .add 203 205 206,oK (.k (.lP 103 1)) [198,201,(lk 103)] [207],oK (.k (.sL 103 1 1)) [207,(lk 103),206] [lk 103]])))) .skip)) (some [0,1,4,6,7,9,lk 103,lk 104]) bG.m4))))
def bG.m6:TM := .seq (oS [oV 7 34,oI .geq 34 (.i .i64 0) 35] (.cond (.s 35) [] .skip (.exit 0))) none (.seq (.block 1 [(0,.cB 103 1),(4,.cB 104 1),(lk 103,.pv 1),(lk 104,.pv 1)] (oS [oV 0 38,oV 7 39,oV 6 40,oB .add 39 40 41,oK (.k (.lP 103 1)) [38,41,(lk 103)] [42],oK (.k (.rQ 103 1 1 false)) [42,(lk 103)] [43],oK (.k (.ci .u64)) [43] [44],oI .shl 44 (.u64 16) 45,oV 0 46,oV 7 47,oV 6 48,oB .add 47 48 49,oI .sub 49 (.i .i64 1) 50,oK (.k (.lP 103 1)) [46,50,(lk 103)] [51],oK (.k (.rQ 103 1 1 false)) [51,(lk 103)] [52],oK (.k (.ci .u64)) [52] [53],oB .or 45 53 54,oV 54 8] (oS [oV 8 55,oV 1 56,oV 6 57,oI .sub 57 (.i .i64 1) 58,oK (.k (.ix 1)) [56,58] [59],oK (.k (.lr 1 false)) [59] [60],oK (.k (.ci .u64)) [60] [61],oB .quo 55 61 62,oV 8 63,oV 1 64,oV 6 65,oI .sub 65 (.i .i64 1) 66,oK (.k (.ix 1)) [64,66] [67],oK (.k (.lr 1 false)) [67] [68],oK (.k (.ci .u64)) [68] [69],oB .rem 63 69 70,oV 62 9,oV 70 10] (.seq (.block 2 [(0,.cB 103 1),(4,.cB 104 1),(lk 103,.pv 1),(lk 104,.pv 1)] (.loop [0,1,4,6,7,9,10,lk 103,lk 104] [(0,.cB 103 1),(4,.cB 104 1),(lk 103,.pv 1),(lk 104,.pv 1)] bG.m1)) (some [0,1,4,6,7,9,lk 103,lk 104]) bG.m5)))) none (.eZ [oV 7 36,oI .sub 36 (.i .i64 1) 37,oV 37 7]))
def bG.m:TM:=oS [oW (.sl .ws ([]:List UInt16)) 4,oW (.sl .ws ([]:List UInt16)) 5] (oS [oV 1 19,oK (.k .len) [19] [20],oV 20 6] (oS [oV 0 21,oX (.bl .ws 1) [.c (.u16 0)] [22],oK (.k (.BP 999998 103 1 2)) [21,22,(lk 999998),(lk 103)] [23,lk 999998,lk 103],oV 23 0] (oS [oV 0 24,oK (.k (.yE 103)) [24,(lk 103)] [25],oV 6 26,oB .sub 25 26 27,oK (.yO 104 2 .ws (0:UInt16)) [27,27,(lk 104)] [28,lk 104],oV 28 4] (.seq (oS [oV 0 29,oK (.k (.yE 103)) [29,(lk 103)] [30],oV 6 31,oB .sub 30 31 32,oI .sub 32 (.i .i64 1) 33,oV 33 7] (.block 0 [(0,.cB 103 1),(4,.cB 104 1),(lk 103,.pv 1),(lk 104,.pv 1)] (.loop [0,1,4,6,7,lk 103,lk 104] [(0,.cB 103 1),(4,.cB 104 1),(lk 103,.pv 1),(lk 104,.pv 1)] bG.m6))) none (oS [oK (.k (.sM 104 1)) [4,(lk 104)] [213,4,lk 104],oK (.k (.sM 103 1)) [0,(lk 103)] [214,0,lk 103],oV 6 215,oK (.k (.sc 1 false true)) [214,215] [216],oV 213 4,oV 216 5] .ret)))))
def bG.d:gS:={ np:=2,m:=bG.m,ref:=none,fR:=[],res:=[.t 4,.t 5],own:=[],new:=none,fD:=[],ps:=some (0,999998,1) }
def bG.F (u:List UInt16) (v:List UInt16):OT:=bG.d.run bG.E [(.sl .ws u),(.sl .ws v)]
def bG.k1:dI (List TV):=fG (ev _ bG.E (oS [oK (.k (.sM 104 1)) [4,(lk 104)] [213,4,lk 104],oK (.k (.sM 103 1)) [0,(lk 103)] [214,0,lk 103],oV 6 215,oK (.k (.sc 1 false true)) [214,215] [216],oV 213 4,oV 216 5] .ret)) none (fK bG.d)
def bG.k2:dI (List TV):=gn (fQ _ bG.E bG.m6) jU [0,1,4,6,7,lk 103,lk 104] (cG 0 bG.k1)
def bG.k3:dI (List TV):=fG (ev _ bG.E (.eZ [oV 7 36,oI .sub 36 (.i .i64 1) 37,oV 37 7])) none bG.k2
def bG.k4:dI (List TV):=fG (fQ _ bG.E bG.m5) (some [0,1,4,6,7,9,lk 103,lk 104]) (cG 1 bG.k3)
def bG.k5:dI (List TV):=fG (ev _ bG.E (oS [oV 0 146,oV 7 147,oV 6 148,oB .add 147 148 149,oK (.k (.lP 103 1)) [146,149,(lk 103)] [150],oK (.k (.rQ 103 1 1 false)) [150,(lk 103)] [151],oK (.k (.ci .i64)) [151] [152],oV 11 153,oB .sub 152 153 154,oV 12 155,oK (.k (.ci .i64)) [155] [156],oB .sub 154 156 157,oV 157 16] (oS [oV 0 158,oV 7 159,oV 6 160,oB .add 159 160 161,oV 16 162,oK (.k (.ci .u16)) [162] [163],oK (.k (.lP 103 1)) [158,161,(lk 103)] [164],oK (.k (.sL 103 1 1)) [164,(lk 103),163] [lk 103]] (.seq (oS [oV 16 165,oI .lss 165 (.i .i64 0) 166] (.cond (.s 166) [(0,.cB 103 1),(4,.cB 104 1),(lk 103,.pv 1),(lk 104,.pv 1)] (oS [oV 9 167,oI .sub 167 (.u64 1) 168,oV 168 9] (oS [oW (.u32 0) 17] (.seq (oS [oV 6 169,oW (.i .i64 0) 170] (.block 6 [(0,.cB 103 1),(4,.cB 104 1),(lk 103,.pv 1),(lk 104,.pv 1)] (.loop [0,1,4,6,7,9,17,169,170,lk 103,lk 104] [(0,.cB 103 1),(4,.cB 104 1),(lk 103,.pv 1),(lk 104,.pv 1)] bG.m3))) none (.eZ [oV 0 198,oV 7 199,oV 6 200,oB .add 199 200 201,oK (.k (.lP 103 1)) [198,201,(lk 103)] [202],oK (.k (.rQ 103 1 1 false)) [202,(lk 103)] [203],oV 17 204,oK (.k (.ci .u16)) [204] [205],oB .add 203 205 206,oK (.k (.lP 103 1)) [198,201,(lk 103)] [207],oK (.k (.sL 103 1 1)) [207,(lk 103),206] [lk 103]])))) .skip)) (some [0,1,4,6,7,9,lk 103,lk 104]) bG.m4)))) none (cG 1 bG.k3)
def bG.k6:dI (List TV):=fG (fQ _ bG.E bG.m4) (some [0,1,4,6,7,9,lk 103,lk 104]) (cG 1 bG.k3)
def bG.k7:dI (List TV):=fG (ev _ bG.E (.eZ [oV 0 198,oV 7 199,oV 6 200,oB .add 199 200 201,oK (.k (.lP 103 1)) [198,201,(lk 103)] [202],oK (.k (.rQ 103 1 1 false)) [202,(lk 103)] [203],oV 17 204,oK (.k (.ci .u16)) [204] [205],oB .add 203 205 206,oK (.k (.lP 103 1)) [198,201,(lk 103)] [207],oK (.k (.sL 103 1 1)) [207,(lk 103),206] [lk 103]])) none bG.k6
def bG.l1 (x0:List UInt16) (x1:Int) (x2:Int) (x3:List UInt16) (x4:List UInt16):OT:=eg (fQ _ bG.E bG.m6) jU [0,1,4,6,7,lk 103,lk 104] (cS [0,1,4,6,7,lk 103,lk 104] [.pt,(.sl .ws x0),.pt,(.i .i64 x1),(.i .i64 x2),(.sl .ws x3),(.sl .ws x4)]) (cG 0 bG.k1)
def bG.l2 (x0:List UInt16) (x1:Int) (x2:Int) (x3:UInt64) (x4:UInt64) (x5:List UInt16) (x6:List UInt16):OT:=eg (fQ _ bG.E bG.m1) jU [0,1,4,6,7,9,10,lk 103,lk 104] (cS [0,1,4,6,7,9,10,lk 103,lk 104] [.pt,(.sl .ws x0),.pt,(.i .i64 x1),(.i .i64 x2),(.u64 x3),(.u64 x4),(.sl .ws x5),(.sl .ws x6)]) (cG 2 bG.k4)
def bG.j3 (x0:List UInt16) (x1:Int) (x2:Int) (x3:UInt64) (x4:List UInt16) (x5:List UInt16):OT:=fQ _ bG.E bG.m5 (cS [0,1,4,6,7,9,lk 103,lk 104] [.pt,(.sl .ws x0),.pt,(.i .i64 x1),(.i .i64 x2),(.u64 x3),(.sl .ws x4),(.sl .ws x5)]) (cG 1 bG.k3)
def bG.l4 (x0:List UInt16) (x1:Int) (x2:Int) (x3:UInt64) (x4:Int) (x5:UInt64) (x6:Int) (x7:Int) (x8:List UInt16) (x9:List UInt16):OT:=eg (fQ _ bG.E bG.m2) jU [0,1,4,6,7,9,11,12,107,108,lk 103,lk 104] (cS [0,1,4,6,7,9,11,12,107,108,lk 103,lk 104] [.pt,(.sl .ws x0),.pt,(.i .i64 x1),(.i .i64 x2),(.u64 x3),(.i .i64 x4),(.u64 x5),(.i .i64 x6),(.i .i64 x7),(.sl .ws x8),(.sl .ws x9)]) (cG 4 bG.k5)
def bG.l5 (x0:List UInt16) (x1:Int) (x2:Int) (x3:UInt64) (x4:UInt32) (x5:Int) (x6:Int) (x7:List UInt16) (x8:List UInt16):OT:=eg (fQ _ bG.E bG.m3) jU [0,1,4,6,7,9,17,169,170,lk 103,lk 104] (cS [0,1,4,6,7,9,17,169,170,lk 103,lk 104] [.pt,(.sl .ws x0),.pt,(.i .i64 x1),(.i .i64 x2),(.u64 x3),(.u32 x4),(.i .i64 x5),(.i .i64 x6),(.sl .ws x7),(.sl .ws x8)]) (cG 6 bG.k7)
def bG.j6 (x0:List UInt16) (x1:Int) (x2:Int) (x3:UInt64) (x4:List UInt16) (x5:List UInt16):OT:=fQ _ bG.E bG.m4 (cS [0,1,4,6,7,9,lk 103,lk 104] [.pt,(.sl .ws x0),.pt,(.i .i64 x1),(.i .i64 x2),(.u64 x3),(.sl .ws x4),(.sl .ws x5)]) (cG 1 bG.k3)
theorem bG.dE (x0:List UInt16) (x1:Int) (x2:Int) (x3:List UInt16) (x4:List UInt16) {ρ:OT} (K:∀(v1:Nat) (h1:v1=(((IntKind.i64.wrap (x2+x1))).toNat)) (v2:UInt16) (h2:v2=(List.getD x3 (v1) (0:UInt16))) (v3:UInt64) (h3:v3=(UInt64.ofInt ((v2).toNat:Int))) (v4:UInt64) (h4:v4=(kM v3 (((16:UInt64)).toNat))) (v5:Int) (h5:v5=(IntKind.i64.wrap ((IntKind.i64.wrap (x2+x1)) - (1:Int)))) (v6:UInt16) (h6:v6=(List.getD x3 ((v5).toNat) (0:UInt16))) (v7:UInt64) (h7:v7=(UInt64.ofInt ((v6).toNat:Int))) (v8:Int) (h8:v8=(IntKind.i64.wrap (x1 - (1:Int)))) (v9:UInt16) (h9:v9=(List.getD x0 (v8).toNat (0:UInt16))) (v10:UInt64) (kQ:v10=(UInt64.ofInt ((v9).toNat:Int))),cond (decide ((0:Int)≤x2))
  (ck (cq (IntKind.i64.wrap (x2+x1)) (x3).length) (ck (decide (v1<(x3).length)) (ck (cq v5 (x3).length) (ck (decide ((v5).toNat<(x3).length)) (ck (cq v8 (x0).length) (ck (!decide (v10=0)) (ck (cq v8 (x0).length) (ck (!decide (v10=0)) (bG.l2 x0 x1 x2 ((v4 ||| v7) / v10) ((v4 ||| v7) % v10) x3 x4)))))))))
  (ck (gN 0 x1 (x3).length) (some [(.sl .ws x4),(.sl .ws (List.take (x1).toNat x3))]))=ρ):bG.l1 x0 x1 x2 x3 x4=ρ:=((de _ _ _ _ _ _).trans (by kernel_rfl)).trans (K _ rfl _ rfl _ rfl _ rfl _ rfl _ rfl _ rfl _ rfl _ rfl _ rfl)
theorem bG.jw (x0:List UInt16) (x1:Int) (x2:Int) (x3:UInt64) (x4:UInt64) (x5:List UInt16) (x6:List UInt16) {ρ:OT} (K:∀(v1:Int) (h1:v1=(IntKind.i64.wrap (x1 - (2:Int)))) (v2:UInt16) (h2:v2=(List.getD x0 (v1).toNat (0:UInt16))) (v3:UInt64) (h3:v3=(UInt64.ofInt ((v2).toNat:Int))) (v4:UInt64) (h4:v4=(kM x4 (((16:UInt64)).toNat))) (v5:Int) (h5:v5=(IntKind.i64.wrap ((IntKind.i64.wrap (x2+x1)) - (2:Int)))) (v6:UInt16) (h6:v6=(List.getD x5 ((v5).toNat) (0:UInt16))) (v7:UInt64) (h7:v7=(UInt64.ofInt ((v6).toNat:Int))) (v8:Bool) (h8:v8=(decide ((v4 ||| v7)<(x3 * v3)))) (v9:Bool) (h9:v9=(cond (decide ((65535:UInt64)<x3)) true v8)) (v10:Int) (kQ:v10=(IntKind.i64.wrap (x1 - (1:Int)))) (v11:UInt16) (mY:v11=(List.getD x0 (v10).toNat (0:UInt16))) (v12:UInt64) (lO:v12=(UInt64.ofInt ((v11).toNat:Int))),ck (!(!(decide ((65535:UInt64)<x3))) || (!(decide ((65535:UInt64)<x3)))) (ck (!(!(decide ((65535:UInt64)<x3))) || (((!(decide ((65535:UInt64)<x3)))&&(!(decide ((65535:UInt64)<x3))))&&(cq v1 (x0).length))) (ck (!(!(decide ((65535:UInt64)<x3))) || (!(decide ((65535:UInt64)<x3)))) (ck (!(!(decide ((65535:UInt64)<x3))) || (!(decide ((65535:UInt64)<x3)))) (ck (!(!(decide ((65535:UInt64)<x3))) || ((!(decide ((65535:UInt64)<x3)))&&(!(decide ((65535:UInt64)<x3))))) (ck (!(!(decide ((65535:UInt64)<x3))) || (!(decide ((65535:UInt64)<x3)))) (ck (!(!(decide ((65535:UInt64)<x3))) || ((!(decide ((65535:UInt64)<x3)))&&(!(decide ((65535:UInt64)<x3))))) (ck (!(!(decide ((65535:UInt64)<x3))) || (!(decide ((65535:UInt64)<x3)))) (ck (!(!(decide ((65535:UInt64)<x3))) || (((!(decide ((65535:UInt64)<x3)))&&(!(decide ((65535:UInt64)<x3))))&&(cq v5 (x5).length))) (ck (!(!(decide ((65535:UInt64)<x3))) || ((!(decide ((65535:UInt64)<x3)))&&(decide ((v5).toNat<(x5).length)))) (ck (!(!(decide ((65535:UInt64)<x3))) || (!(decide ((65535:UInt64)<x3)))) (ck (!(!(decide ((65535:UInt64)<x3))) || ((!(decide ((65535:UInt64)<x3)))&&(!(decide ((65535:UInt64)<x3))))) (ck (!(!(decide ((65535:UInt64)<x3))) || ((!(decide ((65535:UInt64)<x3)))&&(!(decide ((65535:UInt64)<x3))))) (ck ((decide ((65535:UInt64)<x3)) || (!(decide ((65535:UInt64)<x3)))) (cond v9
  (ck (cq v10 (x0).length) (cond (decide ((65535:UInt64)<(x4+v12)))
  (bG.j3 x0 x1 x2 (x3 - (1:UInt64)) x5 x6)
  (bG.l2 x0 x1 x2 (x3 - (1:UInt64)) (x4+v12) x5 x6)))
  (bG.j3 x0 x1 x2 x3 x5 x6)))))))))))))))=ρ):bG.l2 x0 x1 x2 x3 x4 x5 x6=ρ:=((de _ _ _ _ _ _).trans (by kernel_rfl)).trans (K _ rfl _ rfl _ rfl _ rfl _ rfl _ rfl _ rfl _ rfl _ rfl _ rfl _ rfl _ rfl)
theorem bG.OU (x0:List UInt16) (x1:Int) (x2:Int) (x3:UInt64) (x4:List UInt16) (x5:List UInt16):bG.j3 x0 x1 x2 x3 x4 x5=bG.l4 x0 x1 x2 x3 (0:Int) (0:UInt64) x1 (0:Int) x4 x5:=((congrFun (congrFun (ie _ _) _) _).trans (by kernel_rfl))
theorem bG.sQ (x0:List UInt16) (x1:Int) (x2:Int) (x3:UInt64) (x4:Int) (x5:UInt64) (x6:Int) (x7:Int) (x8:List UInt16) (x9:List UInt16) {ρ:OT} (K:∀(v1:UInt16) (h1:v1=(List.getD x0 (x7).toNat (0:UInt16))) (v2:UInt64) (h2:v2=(UInt64.ofInt ((v1).toNat:Int))) (v3:UInt64) (h3:v3=(iI ((x3 * v2)+x5) (((16:UInt64)).toNat))) (v4:Nat) (h4:v4=(((IntKind.i64.wrap (x7+x2))).toNat)) (v5:UInt16) (h5:v5=(List.getD x8 (v4) (0:UInt16))) (v6:Int) (h6:v6=(IntKind.i64.wrap ((v5).toNat:Int))) (v7:UInt64) (h7:v7=(((x3 * v2)+x5) &&& (65535:UInt64))) (v8:Int) (h8:v8=(IntKind.i64.wrap ((v7).toNat:Int))) (v9:Int) (h9:v9=(IntKind.i64.wrap ((IntKind.i64.wrap (v6 - x4)) - v8))) (v10:Int) (kQ:v10=(Int.fdiv v9 (2 ^ (min (((16:UInt64)).toNat) (IntKind.i64.bits))))) (v11:Int) (mY:v11=(dN .and .i64 v10 (1:Int))) (v12:List UInt16) (lO:v12=(List.set x8 (v4) (UInt16.ofInt v9))) (pL:Int) (Ak:pL=(IntKind.i64.wrap (x7+(1:Int)))) (mD:Nat) (zm:mD=(((IntKind.i64.wrap (x2+x1))).toNat)) (mE:UInt16) (A9:mE=(List.getD x8 (mD) (0:UInt16))) (Ag:Int) (Mg:Ag=(IntKind.i64.wrap ((mE).toNat:Int))) (Hn:Int) (Ka:Hn=(IntKind.i64.wrap (Ag - x4))) (Hm:Int) (M3:Hm=(IntKind.i64.wrap ((x5).toNat:Int))) (DS:Int) (M1:DS=(IntKind.i64.wrap (Hn - Hm))) (v20:List UInt16) (J9:v20=(List.set x8 (mD) (UInt16.ofInt DS))),cond (decide (x7<x6))
  (ck (cq x7 (x0).length) (ck (cq (IntKind.i64.wrap (x7+x2)) (x8).length) (ck (decide (v4<(x8).length)) (ck (cq (IntKind.i64.wrap (x7+x2)) (x8).length) (ck (decide (v4<(x8).length)) (bG.l4 x0 x1 x2 x3 v11 v3 x6 pL v12 x9))))))
  (ck (cq (IntKind.i64.wrap (x2+x1)) (x8).length) (ck (decide (mD<(x8).length)) (ck (cq (IntKind.i64.wrap (x2+x1)) (x8).length) (ck (decide (mD<(x8).length)) (cond (decide (DS<(0:Int)))
  (bG.l5 x0 x1 x2 (x3 - (1:UInt64)) (0:UInt32) x1 (0:Int) v20 x9)
  (bG.j6 x0 x1 x2 x3 v20 x9))))))=ρ):bG.l4 x0 x1 x2 x3 x4 x5 x6 x7 x8 x9=ρ:=((de _ _ _ _ _ _).trans (by kernel_rfl)).trans (K _ rfl _ rfl _ rfl _ rfl _ rfl _ rfl _ rfl _ rfl _ rfl _ rfl _ rfl _ rfl _ rfl _ rfl _ rfl _ rfl _ rfl _ rfl _ rfl _ rfl)
theorem bG.yZ (x0:List UInt16) (x1:Int) (x2:Int) (x3:UInt64) (x4:UInt32) (x5:Int) (x6:Int) (x7:List UInt16) (x8:List UInt16) {ρ:OT} (K:∀(v1:Nat) (h1:v1=(((IntKind.i64.wrap (x6+x2))).toNat)) (v2:UInt16) (h2:v2=(List.getD x7 (v1) (0:UInt16))) (v3:UInt32) (h3:v3=(UInt32.ofInt ((v2).toNat:Int))) (v4:UInt16) (h4:v4=(List.getD x0 (x6).toNat (0:UInt16))) (v5:UInt32) (h5:v5=(UInt32.ofInt ((v4).toNat:Int))) (v6:UInt16) (h6:v6=(UInt16.ofInt (((x4+(v3+v5))).toNat:Int))) (v7:UInt32) (h7:v7=(ue (x4+(v3+v5)) (((16:UInt64)).toNat))) (v8:Int) (h8:v8=(IntKind.i64.wrap (x6+(1:Int)))) (v9:Nat) (h9:v9=(((IntKind.i64.wrap (x2+x1))).toNat)) (v10:UInt16) (kQ:v10=(List.getD x7 (v9) (0:UInt16))) (v11:UInt16) (mY:v11=(UInt16.ofInt ((x4).toNat:Int))) (v12:List UInt16) (lO:v12=(List.set x7 (v9) (v10+v11))),cond (decide (x6<x5))
  (ck (cq (IntKind.i64.wrap (x6+x2)) (x7).length) (ck (decide (v1<(x7).length)) (ck (cq x6 (x0).length) (ck (cq (IntKind.i64.wrap (x6+x2)) (x7).length) (ck (decide (v1<(x7).length)) (bG.l5 x0 x1 x2 x3 v7 x5 v8 (List.set x7 (v1) v6) x8))))))
  (ck (cq (IntKind.i64.wrap (x2+x1)) (x7).length) (ck (decide (v9<(x7).length)) (ck (cq (IntKind.i64.wrap (x2+x1)) (x7).length) (ck (decide (v9<(x7).length)) (bG.j6 x0 x1 x2 x3 v12 x8)))))=ρ):bG.l5 x0 x1 x2 x3 x4 x5 x6 x7 x8=ρ:=((de _ _ _ _ _ _).trans (by kernel_rfl)).trans (K _ rfl _ rfl _ rfl _ rfl _ rfl _ rfl _ rfl _ rfl _ rfl _ rfl _ rfl _ rfl)
theorem bG.OS (x0:List UInt16) (x1:Int) (x2:Int) (x3:UInt64) (x4:List UInt16) (x5:List UInt16) {ρ:OT} (K:∀(v1:UInt16) (h1:v1=(UInt16.ofInt ((x3).toNat:Int))) (v2:List UInt16) (h2:v2=(List.set x5 ((x2).toNat) v1)) (v3:Int) (h3:v3=(IntKind.i64.wrap (x2 - (1:Int)))),ck (cq x2 (x5).length) (ck (decide ((x2).toNat<(x5).length)) (bG.l1 x0 x1 v3 x4 v2))=ρ):bG.j6 x0 x1 x2 x3 x4 x5=ρ:=((congrFun (congrFun (ie _ _) _) _).trans (by kernel_rfl)).trans (K _ rfl _ rfl _ rfl)
theorem bG.dZ (u:List UInt16) (v:List UInt16) {ρ:OT} (K:∀(v1:List UInt16) (h1:v1=([(0:UInt16)]:List UInt16)) (v2:Int) (h2:v2=(IntKind.i64.wrap ((((u++v1)).length:Int) - ((v).length:Int)))) (v3:List UInt16) (h3:v3=(List.replicate (v2).toNat (0:UInt16))) (v4:Int) (h4:v4=(IntKind.i64.wrap (v2 - (1:Int)))),ck (jo ((u).length+(v1).length) 2) (ck (tc v2 v2 2) (bG.l1 v ((v).length:Int) v4 (u++v1) v3))=ρ):bG.F u v=ρ:=Eq.trans (by kernel_rfl) (K _ rfl _ rfl _ rfl _ rfl)
theorem bG.eJ:CK 77 bG.env bG.d:=fE (by kernel_rfl)
def eC.env:EV:=[(18,(dA.c,dA.sg)),(42,(dG.c,dG.sg)),(43,(dv.c,dv.sg)),(44,(bQ.c,bQ.sg)),(64,(cH.c,cH.sg)),(74,(di.c,di.sg)),(75,(jd.c,jd.sg)),(76,(dh.c,dh.sg)),(77,(bG.c,bG.sg)),(78,(cz.c,cz.sg))]
def eC.E:eD:=cZ nrGl eC.env
def eC.m:TM:=oS [oW (.sl .ws ([]:List UInt16)) 4,oW (.sl .ws ([]:List UInt16)) 5,oW (.b false) 6] (.seq (oS [oV 0 11,oC 42 1 1 [11] 12,oK (.k (.un .not)) [12] [13],oV 13 14,oG 14 false (oV 1 15),oG 14 false (oC 42 1 1 [15] 16),oG 14 false (oK (.k (.un .not)) [16] [17]),oX (.k .pick) [.s 14,.c (.b true),.s 17] [18],oV 18 19,oG 19 false (oV 1 20),oG 19 false (oK (.k .len) [20] [21]),oG 19 false (oI .eql 21 (.i .i64 0) 22),oX (.k .pick) [.s 19,.c (.b true),.s 22] [23]] (.cond (.s 23) [] (oS [oW (.sl .ws ([]:List UInt16)) 4,oW (.sl .ws ([]:List UInt16)) 5,oW (.b false) 6] .ret) .skip)) none (.seq (oS [oV 0 24,oV 1 25,oC 74 2 1 [24,25] 26,oI .lss 26 (.i .i64 0) 27] (.cond (.s 27) [] (oS [oV 0 28,oK (.k (.call 75 ⟨1,none,[],[],1,[(0,104,1)],none,[]⟩)) [28,(lk 104)] [29,lk 104],oW (.sl .ws ([]:List UInt16)) 4,oV 29 5,oW (.b true) 6] .ret) .skip)) none (.seq (oS [oV 1 30,oK (.k .len) [30] [31],oI .eql 31 (.i .i64 1) 32] (.cond (.s 32) [] (oS [oV 0 34,oV 1 35,oX (.k (.ix 1)) [.s 35,.c (.i .i64 0)] [36],oK (.k (.lr 1 false)) [36] [37],oC 76 2 2 [34,37] 38,oV 38 33,oE 0 33 39,oE 1 33 40,oV 39 7,oV 40 8] (oS [oV 7 41,oV 8 42,oK (.k (.ci .u64)) [42] [43],oC 18 1 1 [43] 44,oV 41 4,oV 44 5,oW (.b true) 6] .ret)) .skip)) none (oS [oV 1 45,oV 1 46,oK (.k .len) [46] [47],oI .sub 47 (.i .i64 1) 48,oK (.k (.ix 1)) [45,48] [49],oK (.k (.lr 1 false)) [49] [50],oC 44 1 1 [50] 51,oX (.k (.bin .sub)) [.c (.i .i64 16),.s 51] [52],oV 52 9] (oS [oV 0 54,oV 9 55,oK (.k (.nK 43 2 106)) [54,55,(lk 106)] [56,lk 106],oV 1 57,oV 9 58,oK (.k (.call 43 ⟨2,none,[],[],1,[(0,107,1)],none,[]⟩)) [57,58,(lk 107)] [59,lk 107],oK (.k (.oO 77 2 2 0 106 1)) [56,59,(lk 106)] [60,lk 106],oV 60 53,oE 0 53 61,oE 1 53 62,oV 61 4,oV 62 10] (oS [oV 4 63,oC 64 1 1 [63] 64,oV 10 65,oC 64 1 1 [65] 66,oV 9 67,oC 78 2 1 [66,67] 68,oV 64 4,oV 68 5,oW (.b true) 6] .ret))))))
def eC.d:gS:=D0 2 eC.m [.t 4,.t 5,.t 6]
def eC.F (a:List UInt16) (b:List UInt16):OT:=eC.d.run eC.E [(.sl .ws a),(.sl .ws b)]
theorem eC.dZ (a:List UInt16) (b:List UInt16) {ρ:OT} (K:∀(v1:Bool) (h1:v1=(cond (!(Nt.is a)) true (!(Nt.is b)))) (v2:Bool) (h2:v2=(cond v1 true (decide (((b).length:Int)=(0:Int))))) (v3:Int) (h3:v3=(Nt.cmp (Nt.val a) (Nt.val b))) (v4:UInt16) (h4:v4=(List.getD b ((0:Int)).toNat (0:UInt16))) (v5:List UInt16) (h5:v5=(Nt.of (Nt.val a / (v4).toNat))) (v6:UInt16) (h6:v6=(UInt16.ofNat (Nt.val a % (v4).toNat))) (v7:UInt64) (h7:v7=(UInt64.ofInt ((v6).toNat:Int))) (v8:Int) (h8:v8=(IntKind.i64.wrap (((b).length:Int) - (1:Int)))) (v9:UInt16) (h9:v9=(List.getD b (v8).toNat (0:UInt16))) (v10:Int) (kQ:v10=(IntKind.i64.wrap ((16:Int) - ((Nt.bits (v9).toNat:Int))))) (v11:List UInt16) (mY:v11=(Nt.of (Nt.val a * 2 ^ (v10).toNat))) (v12:List UInt16) (lO:v12=(Nt.of (Nt.val b * 2 ^ (v10).toNat))) (pL:List UInt16) (Ak:pL=(Nt.fix ((v11).length+1 - (v12).length) (Nt.val v11 / Nt.val v12))) (mD:List UInt16) (zm:mD=(Nt.fix (v12).length (Nt.val v11 % Nt.val v12))) (mE:List UInt16) (A9:mE=(Nt.of (Nt.val ((Nt.of (Nt.val mD))) / 2 ^ (v10).toNat))),ck (decide ((a).length≤1099511627776)) (ck (!(!(!(Nt.is a))) || ((!(!(Nt.is a)))&&(decide ((b).length≤1099511627776)))) (ck (!(!(!(Nt.is a))) || (!(!(Nt.is a)))) (ck ((!(Nt.is a)) || (!(!(Nt.is a)))) (ck (!(!v1) || (!v1)) (ck (!(!v1) || (!v1)) (ck (v1 || (!v1)) (cond v2
  (some [(.sl .ws ([]:List UInt16)),(.sl .ws ([]:List UInt16)),(.b false)])
  (ck (decide ((a).length≤1099511627776∧(b).length≤1099511627776)&&(Nt.norm a&&Nt.norm b)) (cond (decide (v3<(0:Int)))
  (ck (jo (a).length 2) (some [(.sl .ws ([]:List UInt16)),(.sl .ws (a)),(.b true)]))
  (cond (decide (((b).length:Int)=(1:Int)))
  (ck (cq (0:Int) (b).length) (ck (decide ((a).length≤1000000∧v4≠0)) (some [(.sl .ws v5),(.sl .ws (Nt.of (v7).toNat)),(.b true)])))
  (ck (cq v8 (b).length) (ck (decide ((a).length≤1000000∧0≤v10∧v10<16)&&Nt.norm a) (ck (decide ((b).length≤1000000∧0≤v10∧v10<16)&&Nt.norm b) (ck (decide ((v11).length≤1000000∧2≤(v12).length∧(v12).length≤(v11).length∧32768≤((v12).getLast?.getD 0).toNat)) (ck (decide ((pL).length≤1099511627776)) (ck (decide ((mD).length≤1099511627776)) (ck (decide ((((Nt.of (Nt.val mD)))).length≤1000000∧0≤v10∧v10<16)) (some [(.sl .ws (Nt.of (Nt.val pL))),(.sl .ws mE),(.b true)]))))))))))))))))))=ρ):eC.F a b=ρ:=Eq.trans (by kernel_rfl) (K _ rfl _ rfl _ rfl _ rfl _ rfl _ rfl _ rfl _ rfl _ rfl _ rfl _ rfl _ rfl _ rfl _ rfl _ rfl)
theorem eC.eJ:CK 47 eC.env eC.d:=fE (by kernel_rfl)
def ft.env:EV:=[(42,(dG.c,dG.sg)),(43,(dv.c,dv.sg))]
def ft.E:eD:=cZ nrGl ft.env
def ft.m:TM:=oS [oW (.sl .ws ([]:List UInt16)) 4] (.seq (oS [oV 0 5,oC 42 1 1 [5] 6,oK (.k (.un .not)) [6] [7],oV 7 8,oG 8 false (oV 1 9),oG 8 false (oI .lss 9 (.i .i64 0) 10),oX (.k .pick) [.s 8,.c (.b true),.s 10] [11],oV 11 12,oG 12 false (oV 1 13),oG 12 false (oI .gtr 13 (.i .i64 4096) 14),oX (.k .pick) [.s 12,.c (.b true),.s 14] [15],oV 15 16,oG 16 false (oV 0 17),oG 16 false (oK (.k .len) [17] [18]),oG 16 false (oI .eql 18 (.i .i64 0) 19),oX (.k .pick) [.s 16,.c (.b true),.s 19] [20]] (.cond (.s 20) [] (oS [oW (.sl .ws ([]:List UInt16)) 4] .ret) .skip)) none (oS [oV 1 21,oI .quo 21 (.i .i64 16) 22,oK (.mk 102 2 .ws (0:UInt16)) [22,22,(lk 102)] [23,lk 102],oV 0 24,oV 1 25,oI .rem 25 (.i .i64 16) 26,oK (.k (.call 43 ⟨2,none,[],[],1,[(0,103,1)],none,[]⟩)) [24,26,(lk 103)] [27,lk 103],oK (.k (.ap 102 104 1 2)) [23,27,(lk 102),(lk 104)] [28,lk 102,lk 104],oV 28 4] .ret))
def ft.d:gS:=D0 2 ft.m [.t 4]
def ft.F (a:List UInt16) (n:Int):OT:=ft.d.run ft.E [(.sl .ws a),(.i .i64 n)]
theorem ft.dZ (a:List UInt16) (n:Int) {ρ:OT} (K:∀(v1:Bool) (h1:v1=(cond (!(Nt.is a)) true (decide (n<(0:Int))))) (v2:Bool) (h2:v2=(cond v1 true (decide ((4096:Int)<n)))) (v3:Bool) (h3:v3=(cond v2 true (decide (((a).length:Int)=(0:Int))))) (v4:Int) (h4:v4=(IntKind.i64.wrap (Int.tdiv n (16:Int)))) (v5:List UInt16) (h5:v5=(List.replicate (v4).toNat (0:UInt16))) (v6:List UInt16) (h6:v6=(Nt.of (Nt.val a * 2 ^ (((Int.tmod n (16:Int)))).toNat))),ck (decide ((a).length≤1099511627776)) (ck (!(!(!(Nt.is a))) || (!(!(Nt.is a)))) (ck ((!(Nt.is a)) || (!(!(Nt.is a)))) (ck (!(!v1) || (!v1)) (ck (v1 || (!v1)) (ck (!(!v2) || (!v2)) (ck (!(!v2) || (!v2)) (ck (v2 || (!v2)) (cond v3
  (some [(.sl .ws ([]:List UInt16))])
  (ck (!decide ((16:Int)=0)) (ck (tc v4 v4 2) (ck (!decide ((16:Int)=0)) (ck (decide ((a).length≤1000000∧0≤((Int.tmod n (16:Int)))∧((Int.tmod n (16:Int)))<16)&&Nt.norm a) (ck (jo ((v5).length+(v6).length) 2) (some [(.sl .ws (v5++v6))]))))))))))))))=ρ):ft.F a n=ρ:=Eq.trans (by kernel_rfl) (K _ rfl _ rfl _ rfl _ rfl _ rfl _ rfl)
theorem ft.eJ:CK 19 ft.env ft.d:=fE (by kernel_rfl)
def cw.env:EV:=[]
def cw.E:eD:=cZ nrGl cw.env
def cw.m1:TM:=oS [oB .lss 18 17 19] (.seq (.cond (.s 19) [] .skip (.exit 0)) none (.seq (.block 1 [(7,.cB 103 1),(lk 103,.live 1)] (oS [oK (.k (.ix 1)) [16,18] [20],oK (.k (.lr 1 false)) [20] [21],oV 21 10] (oS [oV 8 22,oV 10 23,oK (.k (.ci .i64)) [23] [24],oV 1 25,oB .mul 24 25 26,oB .add 22 26 27,oV 27 8] (oS [oV 7 28,oV 8 29,oK (.k (.ci .u16)) [29] [30],oK (.bl .ws 1) [30] [31],oK (.k (.ap 101 103 1 2)) [28,31,(lk 101),(lk 103)] [32,lk 101,lk 103],oV 32 7] (.eZ [oV 8 33,oI .shr 33 (.u64 16) 34,oV 34 8]))))) none (.eZ [oI .add 18 (.i .i64 1) 35,oV 35 18])))
def cw.m2:TM:=oS [oV 7 43,oV 43 6] .ret
def cw.m:TM:=oS [oW (.sl .ws ([]:List UInt16)) 6] (oS [oV 0 11,oK (.k .len) [11] [12],oI .add 12 (.i .i64 1) 13,oX (.mk 101 2 .ws (0:UInt16)) [.c (.i .i64 0),.s 13,.s (lk 101)] [14,lk 101],oV 14 7] (oS [oV 2 15,oV 15 8] (.seq (oS [oV 0 16,oK (.k .len) [16] [17],oW (.i .i64 0) 18] (.block 0 [(7,.cB 101 1),(lk 101,.live 1)] (.loop [1,7,8,16,17,18] [(7,.cB 101 1),(lk 101,.live 1)] cw.m1))) none (.seq (oS [oV 8 36,oI .gtr 36 (.i .i64 0) 37] (.cond (.s 37) [] (.eZ [oV 7 38,oV 8 39,oK (.k (.ci .u16)) [39] [40],oK (.bl .ws 1) [40] [41],oK (.k (.ap 101 105 1 2)) [38,41,(lk 101),(lk 105)] [42,lk 101,lk 105],oV 42 7]) .skip)) (some [7]) cw.m2))))
def cw.d:gS:=D0 3 cw.m [.t 6]
def cw.F (a:List UInt16) (b:Int) (c:Int):OT:=cw.d.run cw.E [(.sl .ws a),(.i .i64 b),(.i .i64 c)]
def cw.k1:dI (List TV):=fG (ev _ cw.E (.seq (oS [oV 8 36,oI .gtr 36 (.i .i64 0) 37] (.cond (.s 37) [] (.eZ [oV 7 38,oV 8 39,oK (.k (.ci .u16)) [39] [40],oK (.bl .ws 1) [40] [41],oK (.k (.ap 101 105 1 2)) [38,41,(lk 101),(lk 105)] [42,lk 101,lk 105],oV 42 7]) .skip)) (some [7]) cw.m2)) none (fK cw.d)
def cw.l1 (x0:Int) (x1:List UInt16) (x2:Int) (x3:List UInt16) (x4:Int) (x5:Int):OT:=eg (fQ _ cw.E cw.m1) jU [1,7,8,16,17,18] (cS [1,7,8,16,17,18] [(.i .i64 x0),(.sl .ws x1),(.i .i64 x2),(.sl .ws x3),(.i .i64 x4),(.i .i64 x5)]) (cG 0 cw.k1)
def cw.j2 (x0:List UInt16):OT:=fQ _ cw.E cw.m2 (cS [7] [(.sl .ws x0)]) (fK cw.d)
theorem cw.dE (x0:Int) (x1:List UInt16) (x2:Int) (x3:List UInt16) (x4:Int) (x5:Int) {ρ:OT} (K:∀(v1:UInt16) (h1:v1=(List.getD x3 (x5).toNat (0:UInt16))) (v2:Int) (h2:v2=(IntKind.i64.wrap ((v1).toNat:Int))) (v3:Int) (h3:v3=(IntKind.i64.wrap (x2+(IntKind.i64.wrap (v2 * x0))))) (v4:List UInt16) (h4:v4=([(UInt16.ofInt v3)]:List UInt16)) (v5:Int) (h5:v5=(Int.fdiv v3 (2 ^ (min (((16:UInt64)).toNat) (IntKind.i64.bits))))) (v6:Int) (h6:v6=(IntKind.i64.wrap (x5+(1:Int)))) (v7:List UInt16) (h7:v7=([(UInt16.ofInt x2)]:List UInt16)),cond (decide (x5<x4))
  (ck (cq x5 (x3).length) (ck (jo ((x1).length+(v4).length) 2) (cw.l1 x0 (x1++v4) v5 x3 x4 v6)))
  (cond (decide ((0:Int)<x2))
  (ck (jo ((x1).length+(v7).length) 2) (cw.j2 (x1++v7)))
  (cw.j2 x1))=ρ):cw.l1 x0 x1 x2 x3 x4 x5=ρ:=((de _ _ _ _ _ _).trans (by kernel_rfl)).trans (K _ rfl _ rfl _ rfl _ rfl _ rfl _ rfl _ rfl)
theorem cw.ow (x0:List UInt16):cw.j2 x0=some [(.sl .ws x0)]:=((congrFun (congrFun (ie _ _) _) _).trans (by kernel_rfl))
theorem cw.dZ (a:List UInt16) (b:Int) (c:Int) {ρ:OT} (K:∀(v1:Int) (h1:v1=(IntKind.i64.wrap (((a).length:Int)+(1:Int)))) (v2:List UInt16) (h2:v2=(List.replicate ((0:Int)).toNat (0:UInt16))),ck (tc (0:Int) v1 2) (cw.l1 b v2 c a ((a).length:Int) (0:Int))=ρ):cw.F a b c=ρ:=Eq.trans (by kernel_rfl) (K _ rfl _ rfl)
theorem cw.eJ:CK 61 cw.env cw.d:=fE (by kernel_rfl)
def cA.env:EV:=[(18,(dA.c,dA.sg)),(42,(dG.c,dG.sg)),(61,(cw.c,cw.sg))]
def cA.E:eD:=cZ nrGl cA.env
def cA.m1:TM := .seq (oS [oV 1 30,oI .gtr 30 (.i .i64 0) 31] (.cond (.s 31) [] .skip (.exit 1))) none (.seq (.block 2 [] (oS [oV 6 34,oV 0 35,oX (.k (.call 61 (.plain 3 1))) [.s 34,.s 35,.c (.i .i64 0)] [36],oV 36 6] (oS [oV 6 37,oC 42 1 1 [37] 38,oK (.k (.un .not)) [38] [39]] (.cond (.s 39) [] (oS [oW (.sl .ws ([]:List UInt16)) 4,oW (.b false) 5] .ret) .skip)))) none (.eZ [oV 1 32,oI .sub 32 (.i .i64 1) 33,oV 33 1]))
def cA.m:TM:=oS [oW (.sl .ws ([]:List UInt16)) 4,oW (.b false) 5] (.seq (.block 0 [] (oS [oV 0 8,oI .lss 8 (.i .i64 0) 9,oV 9 10,oG 10 false (oV 0 11),oG 10 false (oI .gtr 11 (.i .i64 65535) 12),oX (.k .pick) [.s 10,.c (.b true),.s 12] [13],oV 13 14,oG 14 false (oV 1 15),oG 14 false (oI .lss 15 (.i .i64 0) 16),oX (.k .pick) [.s 14,.c (.b true),.s 16] [17],oV 17 7] (.cond (.s 7) [] (oS [oW (.sl .ws ([]:List UInt16)) 4,oW (.b false) 5] .ret) (oS [oV 1 19,oI .eql 19 (.i .i64 0) 20,oV 20 21,oG 21 false (oV 0 22),oG 21 false (oI .eql 22 (.i .i64 1) 23),oX (.k .pick) [.s 21,.c (.b true),.s 23] [24],oV 24 18] (.cond (.s 18) [] (oS [oX (.k (.call 18 (.plain 1 1))) [.c (.u64 1)] [25],oV 25 4,oW (.b true) 5] .ret) (oS [oV 0 27,oI .eql 27 (.i .i64 0) 28,oV 28 26] (.cond (.s 26) [] (oS [oW (.sl .ws ([]:List UInt16)) 4,oW (.b true) 5] .ret) .skip))))))) none (oS [oX (.k (.call 18 (.plain 1 1))) [.c (.u64 1)] [29],oV 29 6] (.seq (.block 1 [] (.loop [0,1,6] [] cA.m1)) none (oS [oV 6 40,oV 40 4,oW (.b true) 5] .ret))))
def cA.d:gS:=D0 2 cA.m [.t 4,.t 5]
def cA.F (b:Int) (e:Int):OT:=cA.d.run cA.E [(.i .i64 b),(.i .i64 e)]
def cA.k1:dI (List TV):=fG (ev _ cA.E (oS [oV 6 40,oV 40 4,oW (.b true) 5] .ret)) none (fK cA.d)
def cA.l1 (x0:Int) (x1:Int) (x2:List UInt16):OT:=eg (fQ _ cA.E cA.m1) jU [0,1,6] (cS [0,1,6] [(.i .i64 x0),(.i .i64 x1),(.sl .ws x2)]) (cG 1 cA.k1)
theorem cA.dE (x0:Int) (x1:Int) (x2:List UInt16) {ρ:OT} (K:∀(v1:List UInt16) (h1:v1=(Nt.of (Nt.val x2 * (x0).toNat+(((0:Int))).toNat))) (v2:Int) (h2:v2=(IntKind.i64.wrap (x1 - (1:Int)))),cond (decide ((0:Int)<x1))
  (ck (decide ((x2).length≤1000000∧1≤x0∧x0≤65535∧0≤((0:Int))∧((0:Int))≤65535)&&Nt.norm x2) (ck (decide ((v1).length≤1099511627776)) (cond (!(Nt.is v1))
  (some [(.sl .ws ([]:List UInt16)),(.b false)])
  (cA.l1 x0 v2 v1))))
  (some [(.sl .ws x2),(.b true)])=ρ):cA.l1 x0 x1 x2=ρ:=((de _ _ _ _ _ _).trans (by kernel_rfl)).trans (K _ rfl _ rfl)
theorem cA.dZ (b:Int) (e:Int) {ρ:OT} (K:∀(v1:Bool) (h1:v1=(cond (decide (b<(0:Int))) true (decide ((65535:Int)<b)))) (v2:Bool) (h2:v2=(cond v1 true (decide (e<(0:Int))))) (v3:Bool) (h3:v3=(cond (decide (e=(0:Int))) true (decide (b=(1:Int))))) (v4:List UInt16) (h4:v4=(Nt.of (((1:UInt64))).toNat)),ck (!(!(decide (b<(0:Int)))) || (!(decide (b<(0:Int))))) (ck ((decide (b<(0:Int))) || (!(decide (b<(0:Int))))) (ck (!(!v1) || (!v1)) (ck (v1 || (!v1)) (cond v2
  (some [(.sl .ws ([]:List UInt16)),(.b false)])
  (ck (!(!(decide (e=(0:Int)))) || (!(decide (e=(0:Int))))) (ck ((decide (e=(0:Int))) || (!(decide (e=(0:Int))))) (cond v3
  (some [(.sl .ws v4),(.b true)])
  (cond (decide (b=(0:Int)))
  (some [(.sl .ws ([]:List UInt16)),(.b true)])
  (cA.l1 b e v4)))))))))=ρ):cA.F b e=ρ:=Eq.trans (by kernel_rfl) (K _ rfl _ rfl _ rfl _ rfl)
theorem cA.eJ:CK 33 cA.env cA.d:=fE (by kernel_rfl)
def cE.env:EV:=[(42,(dG.c,dG.sg)),(61,(cw.c,cw.sg))]
def cE.E:eD:=cZ nrGl cE.env
def cE.m1:TM:=oS [oB .lss 25 24 26] (.seq (.cond (.s 26) [] .skip (.exit 0)) none (.seq (.block 1 [] (oS [oV 25 27,oV 27 5] (.seq (oS [oV 0 28,oV 5 29,oK (.k .si) [28,29] [30],oI .lss 30 (.u8 48) 31,oV 31 32,oG 32 false (oV 0 33),oG 32 false (oV 5 34),oG 32 false (oK (.k .si) [33,34] [35]),oG 32 false (oI .gtr 35 (.u8 57) 36),oX (.k .pick) [.s 32,.c (.b true),.s 36] [37]] (.cond (.s 37) [] (oS [oW (.sl .ws ([]:List UInt16)) 2,oW (.b false) 3] .ret) .skip)) none (.eZ [oV 4 38,oV 0 39,oV 5 40,oK (.k .si) [39,40] [41],oI .sub 41 (.u8 48) 42,oK (.k (.ci .i64)) [42] [43],oX (.k (.call 61 (.plain 3 1))) [.s 38,.c (.i .i64 10),.s 43] [44],oV 44 4])))) none (.eZ [oI .add 25 (.i .i64 1) 45,oV 45 25])))
def cE.m:TM:=oS [oW (.sl .ws ([]:List UInt16)) 2,oW (.b false) 3] (.seq (oS [oV 0 6,oI .eql 6 (.s []) 7,oV 7 8,oG 8 false (oV 0 9),oG 8 false (oK (.k .vT) [9] [10]),oG 8 false (oI .gtr 10 (.i .i64 1240) 11),oX (.k .pick) [.s 8,.c (.b true),.s 11] [12],oV 12 13,oG 13 false (oV 0 14),oG 13 false (oX (.k .si) [.s 14,.c (.i .i64 0)] [15]),oG 13 false (oI .eql 15 (.u8 48) 16),oG 13 false (oV 16 17),oG 17 true (oV 0 18),oG 17 true (oK (.k .vT) [18] [19]),oG 17 true (oI .gtr 19 (.i .i64 1) 20),oG 13 false (oP 17 20 false 21),oX (.k .pick) [.s 13,.c (.b true),.s 21] [22]] (.cond (.s 22) [] (oS [oW (.sl .ws ([]:List UInt16)) 2,oW (.b false) 3] .ret) .skip)) none (oS [oW (.sl .ws ([]:List UInt16)) 4] (.seq (oS [oV 0 23,oK (.k .vT) [23] [24],oW (.i .i64 0) 25] (.block 0 [] (.loop [0,4,24,25] [] cE.m1))) none (.seq (oS [oV 4 46,oC 42 1 1 [46] 47,oK (.k (.un .not)) [47] [48]] (.cond (.s 48) [] (oS [oW (.sl .ws ([]:List UInt16)) 2,oW (.b false) 3] .ret) .skip)) none (oS [oV 4 49,oV 49 2,oW (.b true) 3] .ret)))))
def cE.d:gS:=D0 1 cE.m [.t 2,.t 3]
def cE.F (s:bT):OT:=cE.d.run cE.E [(.s s)]
def cE.k1:dI (List TV):=fG (ev _ cE.E (.seq (oS [oV 4 46,oC 42 1 1 [46] 47,oK (.k (.un .not)) [47] [48]] (.cond (.s 48) [] (oS [oW (.sl .ws ([]:List UInt16)) 2,oW (.b false) 3] .ret) .skip)) none (oS [oV 4 49,oV 49 2,oW (.b true) 3] .ret))) none (fK cE.d)
def cE.l1 (x0:bT) (x1:List UInt16) (x2:Int) (x3:Int):OT:=eg (fQ _ cE.E cE.m1) jU [0,4,24,25] (cS [0,4,24,25] [(.s x0),(.sl .ws x1),(.i .i64 x2),(.i .i64 x3)]) (cG 0 cE.k1)
theorem cE.dE (x0:bT) (x1:List UInt16) (x2:Int) (x3:Int) {ρ:OT} (K:∀(v1:UInt8) (h1:v1=(List.getD x0 (x3).toNat (0:UInt8))) (v2:Bool) (h2:v2=(cond (decide (v1<(48:UInt8))) true (decide ((57:UInt8)<v1)))) (v3:Int) (h3:v3=(IntKind.i64.wrap (((v1 - (48:UInt8))).toNat:Int))) (v4:List UInt16) (h4:v4=(Nt.of (Nt.val x1 * (((10:Int))).toNat+(v3).toNat))) (v5:Int) (h5:v5=(IntKind.i64.wrap (x3+(1:Int)))),cond (decide (x3<x2))
  (ck (cq x3 (x0).length) (ck (!(!(decide (v1<(48:UInt8)))) || (((!(decide (v1<(48:UInt8))))&&(!(decide (v1<(48:UInt8)))))&&(cq x3 (x0).length))) (ck (!(!(decide (v1<(48:UInt8)))) || (!(decide (v1<(48:UInt8))))) (ck ((decide (v1<(48:UInt8))) || (!(decide (v1<(48:UInt8))))) (cond v2
  (some [(.sl .ws ([]:List UInt16)),(.b false)])
  (ck (cq x3 (x0).length) (ck (decide ((x1).length≤1000000∧1≤((10:Int))∧((10:Int))≤65535∧0≤v3∧v3≤65535)&&Nt.norm x1) (cE.l1 x0 v4 x2 v5))))))))
  (ck (decide ((x1).length≤1099511627776)) (cond (!(Nt.is x1))
  (some [(.sl .ws ([]:List UInt16)),(.b false)])
  (some [(.sl .ws x1),(.b true)])))=ρ):cE.l1 x0 x1 x2 x3=ρ:=((de _ _ _ _ _ _).trans (by kernel_rfl)).trans (K _ rfl _ rfl _ rfl _ rfl _ rfl)
theorem cE.dZ (s:bT) {ρ:OT} (K:∀(v1:Bool) (h1:v1=(cond (decide (s=([]:bT))) true (decide ((1240:Int)<((s).length:Int))))) (v2:UInt8) (h2:v2=(List.getD s ((0:Int)).toNat (0:UInt8))) (v3:Bool) (h3:v3=((!v1)&&(decide (v2=(48:UInt8))))) (v4:Bool) (h4:v4=(cond (decide (v2=(48:UInt8))) (decide ((1:Int)<((s).length:Int))) false)),ck (!(!(decide (s=([]:bT)))) || (!(decide (s=([]:bT))))) (ck (!(!(decide (s=([]:bT)))) || (!(decide (s=([]:bT))))) (ck ((decide (s=([]:bT))) || (!(decide (s=([]:bT))))) (ck (!(!v1) || ((!v1)&&(cq (0:Int) (s).length))) (ck (!(!v1) || (!v1)) (ck (!(!v1) || (!v1)) (ck (!v3 || v3) (ck (!v3 || v3) (ck (!(!v1) || ((!v1)&&(!(decide (v2=(48:UInt8))) || v3))) (ck (v1 || (!v1)) (cond (cond v1 true v4)
  (some [(.sl .ws ([]:List UInt16)),(.b false)])
  (cE.l1 s ([]:List UInt16) ((s).length:Int) (0:Int))))))))))))=ρ):cE.F s=ρ:=Eq.trans (by kernel_rfl) (K _ rfl _ rfl _ rfl _ rfl)
theorem cE.eJ:CK 32 cE.env cE.d:=fE (by kernel_rfl)
def cW.env:EV:=[(96,(mb.c,mb.sg)),(97,(bits_Len64.c,bits_Len64.sg))]
def cW.E:eD:=cZ nrGl cW.env
def cW.m1:TM := .seq (oS [oV 1 12,oI .eql 12 (.u64 0) 13] (.cond (.s 13) [] (oS [oV 8 14,oV 14 6,oW (.b true) 7] .ret) .skip)) none (.seq (oS [oV 2 15,oI .lss 15 (.i .i64 (-2000)) 16,oV 16 17,oG 17 false (oV 2 18),oG 17 false (oI .gtr 18 (.i .i64 2000) 19),oX (.k .pick) [.s 17,.c (.b true),.s 19] [20]] (.cond (.s 20) [] (oS [oW (.u64 0) 6,oW (.b false) 7] .ret) .skip)) none (oS [oV 1 21,oC 96 1 1 [21] 22,oV 22 9] (oS [oV 1 23,oV 9 24,oB .shr 23 24 25,oV 2 26,oV 9 27,oB .add 26 27 28,oV 25 1,oV 28 2] (oS [oV 1 29,oC 97 1 1 [29] 30,oV 30 10] (.seq (oS [oV 10 31,oI .gtr 31 (.i .i64 53) 32,oV 32 33,oG 33 false (oV 2 34),oG 33 false (oI .lss 34 (.i .i64 (-1074)) 35),oX (.k .pick) [.s 33,.c (.b true),.s 35] [36],oV 36 37,oG 37 false (oV 2 38),oG 37 false (oV 10 39),oG 37 false (oB .add 38 39 40),oG 37 false (oI .gtr 40 (.i .i64 1024) 41),oX (.k .pick) [.s 37,.c (.b true),.s 41] [42]] (.cond (.s 42) [] (oS [oW (.u64 0) 6,oW (.b false) 7] .ret) .skip)) none (.seq (oS [oV 2 43,oV 10 44,oB .add 43 44 45,oI .sub 45 (.i .i64 1) 46,oI .lss 46 (.i .i64 (-1022)) 47] (.cond (.s 47) [] (oS [oV 8 48,oV 1 49,oV 2 50,oI .add 50 (.i .i64 1074) 51,oB .shl 49 51 52,oB .or 48 52 53,oV 53 6,oW (.b true) 7] .ret) .skip)) none (oS [oV 1 54,oV 10 55,oX (.k (.bin .sub)) [.c (.i .i64 53),.s 55] [56],oB .shl 54 56 57,oV 2 58,oV 10 59,oX (.k (.bin .sub)) [.c (.i .i64 53),.s 59] [60],oB .sub 58 60 61,oV 57 1,oV 61 2] (oS [oV 8 62,oV 2 63,oI .add 63 (.i .i64 1075) 64,oK (.k (.ci .u64)) [64] [65],oI .shl 65 (.u64 52) 66,oB .or 62 66 67,oV 1 68,oI .and 68 (.u64 4503599627370495) 69,oB .or 67 69 70,oV 70 6,oW (.b true) 7] .ret))))))))
def cW.m:TM:=oS [oW (.u64 0) 6,oW (.b false) 7] (oS [oW (.u64 0) 8] (.seq (oS [oV 0 11] (.cond (.s 11) [] (.eZ [oW (.u64 9223372036854775808) 8]) .skip)) (some [1,2,8]) cW.m1))
def cW.d:gS:=D0 3 cW.m [.t 6,.t 7]
def cW.F (n:Bool) (m:UInt64) (e:Int):OT:=cW.d.run cW.E [(.b n),(.u64 m),(.i .i64 e)]
def cW.j1 (x0:UInt64) (x1:Int) (x2:UInt64):OT:=fQ _ cW.E cW.m1 (cS [1,2,8] [(.u64 x0),(.i .i64 x1),(.u64 x2)]) (fK cW.d)
theorem cW.kF (x0:UInt64) (x1:Int) (x2:UInt64) {ρ:OT} (K:∀(v1:Bool) (h1:v1=(cond (decide (x1<(-2000:Int))) true (decide ((2000:Int)<x1)))) (v2:Int) (h2:v2=((Lib.ctz 64 (x0).toNat:Int))) (v3:Int) (h3:v3=((Nt.bits (((iI x0 ((v2).toNat)))).toNat:Int))) (v4:Bool) (h4:v4=(cond (decide ((53:Int)<v3)) true (decide ((IntKind.i64.wrap (x1+v2))<(-1074:Int))))) (v5:Int) (h5:v5=(IntKind.i64.wrap ((IntKind.i64.wrap (x1+v2))+v3))) (v6:Bool) (h6:v6=(cond v4 true (decide ((1024:Int)<v5)))) (v7:Int) (h7:v7=(IntKind.i64.wrap (v5 - (1:Int)))) (v8:Int) (h8:v8=(IntKind.i64.wrap ((IntKind.i64.wrap (x1+v2))+(1074:Int)))) (v9:UInt64) (h9:v9=(kM (iI x0 ((v2).toNat)) ((v8).toNat))) (v10:Int) (kQ:v10=(IntKind.i64.wrap ((53:Int) - v3))) (v11:UInt64) (mY:v11=(kM (iI x0 ((v2).toNat)) ((v10).toNat))) (v12:Int) (lO:v12=(IntKind.i64.wrap ((IntKind.i64.wrap (x1+v2)) - v10))) (pL:Int) (Ak:pL=(IntKind.i64.wrap (v12+(1075:Int)))) (mD:UInt64) (zm:mD=(kM (UInt64.ofInt pL) (((52:UInt64)).toNat))) (mE:UInt64) (A9:mE=(v11 &&& (4503599627370495:UInt64))),cond (decide (x0=(0:UInt64)))
  (some [(.u64 x2),(.b true)])
  (ck (!(!(decide (x1<(-2000:Int)))) || (!(decide (x1<(-2000:Int))))) (ck ((decide (x1<(-2000:Int))) || (!(decide (x1<(-2000:Int))))) (cond v1
  (some [(.u64 0),(.b false)])
  (ck (decide (0≤v2)) (ck (!(!(decide ((53:Int)<v3))) || (!(decide ((53:Int)<v3)))) (ck ((decide ((53:Int)<v3)) || (!(decide ((53:Int)<v3)))) (ck (!(!v4) || ((!v4)&&(!v4))) (ck (!(!v4) || (!v4)) (ck (v4 || (!v4)) (cond v6
  (some [(.u64 0),(.b false)])
  (cond (decide (v7<(-1022:Int)))
  (ck (decide (0≤v8)) (some [(.u64 (x2 ||| v9)),(.b true)]))
  (ck (decide (0≤v10)) (some [(.u64 ((x2 ||| mD) ||| mE)),(.b true)])))))))))))))=ρ):cW.j1 x0 x1 x2=ρ:=((congrFun (congrFun (ie _ _) _) _).trans (by kernel_rfl)).trans (K _ rfl _ rfl _ rfl _ rfl _ rfl _ rfl _ rfl _ rfl _ rfl _ rfl _ rfl _ rfl _ rfl _ rfl _ rfl)
theorem cW.jq (n:Bool) (m:UInt64) (e:Int):cW.F n m e=cond n
  (cW.j1 m e (9223372036854775808:UInt64))
  (cW.j1 m e (0:UInt64)):=by kernel_rfl
theorem cW.eJ:CK 66 cW.env cW.d:=fE (by kernel_rfl)
def bW.env:EV:=[(19,(ft.c,ft.sg)),(46,(dY.c,dY.sg)),(47,(eC.c,eC.sg)),(95,(cD.c,cD.sg))]
def bW.E:eD:=cZ nrGl bW.env
def bW.m1:TM:=oS [oV 0 24,oV 1 25,oC 47 2 3 [24,25] 26,oV 26 23,oE 0 23 27,oE 1 23 28,oE 2 23 29,oV 27 8,oV 28 9,oV 29 10] (oS [oV 8 31,oC 95 1 2 [31] 32,oV 32 30,oE 0 30 33,oE 1 30 34,oV 33 11,oV 34 12] (oS [oV 9 35,oX (.k (.call 19 (.plain 2 1))) [.s 35,.c (.i .i64 1)] [36],oV 1 37,oC 46 2 1 [36,37] 38,oV 38 13] (.seq (oS [oV 13 39,oI .gtr 39 (.i .i64 0) 40,oV 40 41,oG 41 false (oV 13 42),oG 41 false (oI .eql 42 (.i .i64 0) 43),oG 41 false (oV 43 44),oG 44 true (oV 11 45),oG 44 true (oI .rem 45 (.u64 2) 46),oG 44 true (oI .eql 46 (.u64 1) 47),oG 41 false (oP 44 47 false 48),oX (.k .pick) [.s 41,.c (.b true),.s 48] [49]] (.cond (.s 49) [] (oS [oV 11 50,oI .add 50 (.u64 1) 51,oV 51 11] (oS [oV 11 52,oV 11 53,oI .eql 53 (.u64 9007199254740992) 54,oV 52 6,oV 54 7] .ret)) .skip)) none (oS [oV 11 55,oV 55 6,oW (.b false) 7] .ret))))
def bW.m:TM:=oS [oW (.u64 0) 6,oW (.b false) 7] (.seq (oS [oV 2 14,oI .lss 14 (.i .i64 0) 15] (.cond (.s 15) [] (.eZ [oV 0 16,oV 2 17,oK (.k (.un .neg)) [17] [18],oC 19 2 1 [16,18] 19,oV 19 0]) (.eZ [oV 1 20,oV 2 21,oC 19 2 1 [20,21] 22,oV 22 1]))) (some [0,1]) bW.m1)
def bW.d:gS:=D0 3 bW.m [.t 6,.t 7]
def bW.F (a:List UInt16) (b:List UInt16) (e:Int):OT:=bW.d.run bW.E [(.sl .ws a),(.sl .ws b),(.i .i64 e)]
def bW.j1 (x0:List UInt16) (x1:List UInt16):OT:=fQ _ bW.E bW.m1 (cS [0,1] [(.sl .ws x0),(.sl .ws x1)]) (fK bW.d)
theorem bW.kF (x0:List UInt16) (x1:List UInt16) {ρ:OT} (K:∀(v1:List UInt16) (h1:v1=(Nt.of (Nt.val x0 / Nt.val x1))) (v2:List UInt16) (h2:v2=(Nt.of (Nt.val x0 % Nt.val x1))) (v3:List UInt16) (h3:v3=(Nt.of (Nt.val v2 * 2 ^ (((1:Int))).toNat))) (v4:Int) (h4:v4=(Nt.cmp (Nt.val v3) (Nt.val x1))) (v5:Bool) (h5:v5=((!(decide ((0:Int)<v4)))&&(decide (v4=(0:Int))))) (v6:UInt64) (h6:v6=((UInt64.ofNat (Nt.val v1)) % (2:UInt64))) (v7:Bool) (h7:v7=(cond (decide (v4=(0:Int))) (decide (v6=(1:UInt64))) false)) (v8:Bool) (h8:v8=(cond (decide ((0:Int)<v4)) true v7)) (v9:UInt64) (h9:v9=((UInt64.ofNat (Nt.val v1))+(1:UInt64))),ck (Nt.is x0&&Nt.is x1&&decide (x1≠[])) (ck (decide (Nt.is v1=true∧(v1).length≤4)) (ck (decide (0≤((1:Int))∧((1:Int))≤4096)&&Nt.is v2) (ck (Nt.is v3&&Nt.is x1) (ck (!(!(decide ((0:Int)<v4))) || (!(decide ((0:Int)<v4)))) (ck (!(!(decide ((0:Int)<v4))) || (!(decide ((0:Int)<v4)))) (ck (!v5 || (v5&&(!decide ((2:UInt64)=0)))) (ck (!v5 || v5) (ck (!(!(decide ((0:Int)<v4))) || ((!(decide ((0:Int)<v4)))&&(!(decide (v4=(0:Int))) || v5))) (ck ((decide ((0:Int)<v4)) || (!(decide ((0:Int)<v4)))) (cond v8
  (some [(.u64 v9),(.b (decide (v9=(9007199254740992:UInt64))))])
  (some [(.u64 (UInt64.ofNat (Nt.val v1))),(.b false)])))))))))))=ρ):bW.j1 x0 x1=ρ:=((congrFun (congrFun (ie _ _) _) _).trans (by kernel_rfl)).trans (K _ rfl _ rfl _ rfl _ rfl _ rfl _ rfl _ rfl _ rfl _ rfl)
theorem bW.dZ (a:List UInt16) (b:List UInt16) (e:Int) {ρ:OT} (K:∀(v1:List UInt16) (h1:v1=(Nt.of (Nt.val a * 2 ^ (((IntKind.i64.wrap (0 - e)))).toNat))) (v2:List UInt16) (h2:v2=(Nt.of (Nt.val b * 2 ^ (e).toNat))),cond (decide (e<(0:Int)))
  (ck (decide (0≤((IntKind.i64.wrap (0 - e)))∧((IntKind.i64.wrap (0 - e)))≤4096)&&Nt.is a) (bW.j1 v1 b))
  (ck (decide (0≤e∧e≤4096)&&Nt.is b) (bW.j1 a v2))=ρ):bW.F a b e=ρ:=Eq.trans (by kernel_rfl) (K _ rfl _ rfl)
theorem bW.eJ:CK 65 bW.env bW.d:=fE (by kernel_rfl)
def cJ.env:EV:=[(20,(dF.c,dF.sg)),(65,(bW.c,bW.sg)),(66,(cW.c,cW.sg))]
def cJ.E:eD:=cZ nrGl cJ.env
def cJ.m1:TM:=oS [oV 7 38,oV 6 39,oX (.k (.call 66 (.plain 3 2))) [.c (.b false),.s 38,.s 39] [40],oE 0 40 41,oE 1 40 42,oV 41 4,oV 42 5] .ret
def cJ.m:TM:=oS [oW (.u64 0) 4,oW (.b false) 5] (oS [oV 0 9,oC 20 1 1 [9] 10,oV 1 11,oC 20 1 1 [11] 12,oB .sub 10 12 13,oI .sub 13 (.i .i64 53) 14,oX (.k .mx) [.s 14,.c (.i .i64 (-1074))] [15],oV 15 6] (oS [oV 0 17,oV 1 18,oV 6 19,oC 65 3 2 [17,18,19] 20,oV 20 16,oE 0 16 21,oE 1 16 22,oV 21 7,oV 22 8] (.seq (oS [oV 7 23,oI .geq 23 (.u64 9007199254740992) 24,oV 24 25,oG 25 true (oV 8 26),oG 25 true (oK (.k (.un .not)) [26] [27]),oP 25 27 false 28] (.cond (.s 28) [] (oS [oV 6 29,oI .add 29 (.i .i64 1) 30,oV 30 6] (.eZ [oV 0 32,oV 1 33,oV 6 34,oC 65 3 2 [32,33,34] 35,oV 35 31,oE 0 31 36,oE 1 31 37,oV 36 7])) .skip)) (some [6,7]) cJ.m1)))
def cJ.d:gS:=D0 2 cJ.m [.t 4,.t 5]
def cJ.F (a:List UInt16) (b:List UInt16):OT:=cJ.d.run cJ.E [(.sl .ws a),(.sl .ws b)]
def cJ.j1 (x0:Int) (x1:UInt64):OT:=fQ _ cJ.E cJ.m1 (cS [6,7] [(.i .i64 x0),(.u64 x1)]) (fK cJ.d)
theorem cJ.kF (x0:Int) (x1:UInt64) {ρ:OT} (K:∀(v1:UInt64) (h1:v1=(Nr.pat (Nr.join false (x1).toNat x0))) (v2:Bool) (h2:v2=((Nr.join false (x1).toNat x0).isSome)),ck (decide (-1100≤x0∧x0≤2000)) (some [(.u64 v1),(.b v2)])=ρ):cJ.j1 x0 x1=ρ:=((congrFun (congrFun (ie _ _) _) _).trans (by kernel_rfl)).trans (K _ rfl _ rfl)
theorem cJ.dZ (a:List UInt16) (b:List UInt16) {ρ:OT} (K:∀(v1:Int) (h1:v1=(IntKind.i64.wrap (((Nt.bits (Nt.val a):Int)) - ((Nt.bits (Nt.val b):Int))))) (v2:Int) (h2:v2=(IntKind.i64.wrap (v1 - (53:Int)))) (v3:UInt64) (h3:v3=(UInt64.ofNat (Nr.um (Nr.iR (Nt.val a) ((nu v2 (-1074:Int)))) (Nr.iC (Nt.val b) ((nu v2 (-1074:Int))))))) (v4:Bool) (h4:v4=(Nr.lx (Nr.iR (Nt.val a) ((nu v2 (-1074:Int)))) (Nr.iC (Nt.val b) ((nu v2 (-1074:Int)))))) (v5:Bool) (h5:v5=(cond (decide ((9007199254740992:UInt64)≤v3)) (!v4) false)) (v6:Int) (h6:v6=(IntKind.i64.wrap ((nu v2 (-1074:Int))+(1:Int)))) (v7:UInt64) (h7:v7=(UInt64.ofNat (Nr.um (Nr.iR (Nt.val a) v6) (Nr.iC (Nt.val b) v6)))) (v8:Bool) (h8:v8=(Nr.lx (Nr.iR (Nt.val a) v6) (Nr.iC (Nt.val b) v6))),ck (Nt.is a) (ck (Nt.is b) (ck (Nt.is a&&Nt.is b&&decide (-4096≤((nu v2 (-1074:Int)))∧((nu v2 (-1074:Int)))≤4096∧0<Nt.val b∧Nr.iR (Nt.val a) ((nu v2 (-1074:Int)))<2 ^ 4090∧Nr.iC (Nt.val b) ((nu v2 (-1074:Int)))<2 ^ 4090∧Nr.iR (Nt.val a) ((nu v2 (-1074:Int)))<2 ^ 60 * Nr.iC (Nt.val b) ((nu v2 (-1074:Int))))) (ck (!(decide ((9007199254740992:UInt64)≤v3)) || (decide ((9007199254740992:UInt64)≤v3))) (ck (!(decide ((9007199254740992:UInt64)≤v3)) || (decide ((9007199254740992:UInt64)≤v3))) (cond v5
  (ck (Nt.is a&&Nt.is b&&decide (-4096≤v6∧v6≤4096∧0<Nt.val b∧Nr.iR (Nt.val a) v6<2 ^ 4090∧Nr.iC (Nt.val b) v6<2 ^ 4090∧Nr.iR (Nt.val a) v6<2 ^ 60 * Nr.iC (Nt.val b) v6)) (cJ.j1 v6 v7))
  (cJ.j1 (nu v2 (-1074:Int)) v3))))))=ρ):cJ.F a b=ρ:=Eq.trans (by kernel_rfl) (K _ rfl _ rfl _ rfl _ rfl _ rfl _ rfl _ rfl _ rfl)
theorem cJ.eJ:CK 35 cJ.env cJ.d:=fE (by kernel_rfl)
def cV.env:EV:=[(18,(dA.c,dA.sg)),(29,(lT.c,lT.sg)),(30,(gT.c,gT.sg)),(31,(fy.c,fy.sg)),(32,(cE.c,cE.sg)),(33,(cA.c,cA.sg)),(34,(cI.c,cI.sg)),(35,(cJ.c,cJ.sg))]
def cV.E:eD:=cZ nrGl cV.env
def cV.m1:TM:=oS [oV 7 77,oV 9 78,oC 35 2 2 [77,78] 79,oE 0 79 80,oE 1 79 81,oV 80 4,oV 81 5] .ret
def cV.m:TM:=oS [oW (.u64 0) 4,oW (.b false) 5] (.seq (oS [oV 0 13,oK (.k .vT) [13] [14],oI .lss 14 (.i .i64 1) 15,oV 15 16,oG 16 false (oV 0 17),oG 16 false (oK (.k .vT) [17] [18]),oG 16 false (oI .gtr 18 (.i .i64 300) 19),oX (.k .pick) [.s 16,.c (.b true),.s 19] [20],oV 20 21,oG 21 false (oV 0 22),oG 21 false (oX (.k (.call 29 (.plain 2 1))) [.s 22,.c (.s ([48,49,50,51,52,53,54,55,56,57]:bT))] [23]),oG 21 false (oI .neq 23 (.s []) 24),oX (.k .pick) [.s 21,.c (.b true),.s 24] [25]] (.cond (.s 25) [] (oS [oW (.u64 0) 4,oW (.b false) 5] .ret) .skip)) none (oS [oV 0 26,oX (.k (.call 30 (.plain 2 1))) [.s 26,.c (.s ([48]:bT))] [27],oV 27 6] (.seq (.block 0 [] (oS [oV 6 29,oI .eql 29 (.s []) 30,oV 30 31,oG 31 false (oV 1 32),oG 31 false (oI .lss 32 (.i .i64 (-1000)) 33),oX (.k .pick) [.s 31,.c (.b true),.s 33] [34],oV 34 28] (.cond (.s 28) [] (oS [oW (.u64 0) 4,oW (.b true) 5] .ret) (oS [oV 1 36,oI .gtr 36 (.i .i64 1000) 37,oV 37 35] (.cond (.s 35) [] (oS [oW (.u64 0) 4,oW (.b false) 5] .ret) .skip))))) none (oS [oV 1 38,oV 0 39,oK (.k .vT) [39] [40],oV 6 41,oK (.k .vT) [41] [42],oB .sub 40 42 43,oB .sub 38 43 44,oV 44 1] (oS [oV 6 45,oX (.k (.call 31 (.plain 2 1))) [.s 45,.c (.s ([48]:bT))] [46],oV 46 6] (.seq (oS [oV 1 47,oI .lss 47 (.i .i64 (-330)) 48] (.cond (.s 48) [] (oS [oW (.u64 0) 4,oW (.b true) 5] .ret) .skip)) none (.seq (oS [oV 1 49,oI .gtr 49 (.i .i64 310) 50] (.cond (.s 50) [] (oS [oW (.u64 0) 4,oW (.b false) 5] .ret) .skip)) none (oS [oV 6 52,oC 32 1 2 [52] 53,oV 53 51,oE 0 51 54,oE 1 51 55,oV 54 7,oV 55 8] (oS [oX (.k (.call 18 (.plain 1 1))) [.c (.u64 1)] [56],oV 56 9] (.seq (oS [oV 1 57,oV 6 58,oK (.k .vT) [58] [59],oB .sub 57 59 60,oV 60 10] (oS [oV 10 61,oI .geq 61 (.i .i64 0) 62] (.cond (.s 62) [] (oS [oV 10 64,oX (.k (.call 33 (.plain 2 2))) [.c (.i .i64 10),.s 64] [65],oV 65 63,oE 0 63 66,oE 1 63 67,oV 66 11,oV 67 12] (.eZ [oV 7 68,oV 11 69,oC 34 2 1 [68,69] 70,oV 70 7])) (.eZ [oV 10 72,oK (.k (.un .neg)) [72] [73],oX (.k (.call 33 (.plain 2 2))) [.c (.i .i64 10),.s 73] [74],oV 74 71,oE 0 71 75,oE 1 71 76,oV 75 9])))) (some [7,9]) cV.m1))))))))))
def cV.d:gS:=D0 2 cV.m [.t 4,.t 5]
def cV.F (d:bT) (x:Int):OT:=cV.d.run cV.E [(.s d),(.i .i64 x)]
def cV.j1 (x0:List UInt16) (x1:List UInt16):OT:=fQ _ cV.E cV.m1 (cS [7,9] [(.sl .ws x0),(.sl .ws x1)]) (fK cV.d)
theorem cV.kF (x0:List UInt16) (x1:List UInt16) {ρ:OT} (K:∀(v1:UInt64) (h1:v1=(Nr.pat (Nr.gf (Nt.val x0) (Nt.val x1)))) (v2:Bool) (h2:v2=((Nr.gf (Nt.val x0) (Nt.val x1)).isSome)),ck (Nt.is x0&&Nt.is x1&&decide (0<Nt.val x0∧0<Nt.val x1∧Nt.val x0<2 ^ 1100∧Nt.val x1<2 ^ 2200)) (some [(.u64 v1),(.b v2)])=ρ):cV.j1 x0 x1=ρ:=((congrFun (congrFun (ie _ _) _) _).trans (by kernel_rfl)).trans (K _ rfl _ rfl)
theorem cV.dZ (d:bT) (x:Int) {ρ:OT} (K:∀(v1:Bool) (h1:v1=(cond (decide (((d).length:Int)<(1:Int))) true (decide ((300:Int)<((d).length:Int))))) (v2:bT) (h2:v2=(Lib.trimS d (([48,49,50,51,52,53,54,55,56,57]:bT)))) (v3:Bool) (h3:v3=(cond v1 true (!decide (v2=([]:bT))))) (v4:bT) (h4:v4=(Lib.trimLeftS d (([48]:bT)))) (v5:Bool) (h5:v5=(cond (decide (v4=([]:bT))) true (decide (x<(-1000:Int))))) (v6:Int) (h6:v6=(IntKind.i64.wrap (((d).length:Int) - ((v4).length:Int)))) (v7:bT) (h7:v7=(Lib.trimRightS v4 (([48]:bT)))) (v8:List UInt16) (h8:v8=(Nt.of (((1:UInt64))).toNat)) (v9:Int) (h9:v9=(IntKind.i64.wrap ((IntKind.i64.wrap (x - v6)) - ((v7).length:Int)))) (v10:List UInt16) (kQ:v10=(Nt.of ((((10:Int))).toNat ^ (v9).toNat))) (v11:List UInt16) (mY:v11=(Nt.of (Nt.val ((Nt.of (Nr.num v7))) * Nt.val v10))) (v12:List UInt16) (lO:v12=(Nt.of ((((10:Int))).toNat ^ (((IntKind.i64.wrap (0 - v9)))).toNat))),ck (!(!(decide (((d).length:Int)<(1:Int)))) || (!(decide (((d).length:Int)<(1:Int))))) (ck (!(!(decide (((d).length:Int)<(1:Int)))) || (!(decide (((d).length:Int)<(1:Int))))) (ck ((decide (((d).length:Int)<(1:Int))) || (!(decide (((d).length:Int)<(1:Int))))) (ck (!(!v1) || ((!v1)&&(decide ((d).length≤1099511627776∧((([48,49,50,51,52,53,54,55,56,57]:bT))).length≤100)&&((([48,49,50,51,52,53,54,55,56,57]:bT))).all (fun b=>decide (b.toNat<128))))) (ck (!(!v1) || (!v1)) (ck (v1 || (!v1)) (cond v3
  (some [(.u64 0),(.b false)])
  (ck (decide ((d).length≤1099511627776∧((([48]:bT))).length≤100)&&((([48]:bT))).all (fun b=>decide (b.toNat<128))) (ck (!(!(decide (v4=([]:bT)))) || (!(decide (v4=([]:bT))))) (ck ((decide (v4=([]:bT))) || (!(decide (v4=([]:bT))))) (cond v5
  (some [(.u64 0),(.b true)])
  (cond (decide ((1000:Int)<x))
  (some [(.u64 0),(.b false)])
  (ck (decide ((v4).length≤1099511627776∧((([48]:bT))).length≤100)&&((([48]:bT))).all (fun b=>decide (b.toNat<128))) (cond (decide ((IntKind.i64.wrap (x - v6))<(-330:Int)))
  (some [(.u64 0),(.b true)])
  (cond (decide ((310:Int)<(IntKind.i64.wrap (x - v6))))
  (some [(.u64 0),(.b false)])
  (ck (decide (1≤(v7).length∧(v7).length≤300∧(v7).getD 0 0≠48)&&(v7).all Nr.eo) (cond (decide ((0:Int)≤v9))
  (ck (decide (2≤((10:Int))∧((10:Int))≤65535∧0≤v9∧v9≤1000∧(((10:Int))).toNat ^ (v9).toNat<2 ^ 4096)) (ck (Nt.is ((Nt.of (Nr.num v7)))&&Nt.is v10) (cV.j1 v11 v8)))
  (ck (decide (2≤((10:Int))∧((10:Int))≤65535∧0≤((IntKind.i64.wrap (0 - v9)))∧((IntKind.i64.wrap (0 - v9)))≤1000∧(((10:Int))).toNat ^ (((IntKind.i64.wrap (0 - v9)))).toNat<2 ^ 4096)) (cV.j1 (Nt.of (Nr.num v7)) v12))))))))))))))))))=ρ):cV.F d x=ρ:=Eq.trans (by kernel_rfl) (K _ rfl _ rfl _ rfl _ rfl _ rfl _ rfl _ rfl _ rfl _ rfl _ rfl _ rfl _ rfl)
theorem cV.eJ:CK 13 cV.env cV.d:=fE (by kernel_rfl)
def l6.env:EV:=[(30,(gT.c,gT.sg))]
def l6.E:eD:=cZ nrGl l6.env
def l6.m1:TM:=oS [oB .lss 10 9 11] (.seq (.cond (.s 11) [] .skip (.exit 0)) none (.seq (.block 1 [] (oS [oV 10 12,oV 12 5] (.eZ [oV 4 13,oX (.k (.bin .mul)) [.c (.i .i64 10),.s 13] [14],oV 3 15,oV 5 16,oK (.k .si) [15,16] [17],oI .sub 17 (.u8 48) 18,oK (.k (.ci .i64)) [18] [19],oB .add 14 19 20,oX (.k .mn) [.s 20,.c (.i .i64 1000000)] [21],oV 21 4]))) none (.eZ [oI .add 10 (.i .i64 1) 22,oV 22 10])))
def l6.m:TM:=oS [oW (.i .i64 0) 2] (oS [oV 0 6,oX (.k (.call 30 (.plain 2 1))) [.s 6,.c (.s ([43,45]:bT))] [7],oV 7 3] (oS [oW (.i .i64 0) 4] (.seq (oS [oV 3 8,oK (.k .vT) [8] [9],oW (.i .i64 0) 10] (.block 0 [] (.loop [0,3,4,9,10] [] l6.m1))) none (.seq (oS [oV 0 23,oX (.k .si) [.s 23,.c (.i .i64 0)] [24],oI .eql 24 (.u8 45) 25] (.cond (.s 25) [] (oS [oV 4 26,oK (.k (.un .neg)) [26] [27],oV 27 2] .ret) .skip)) none (oS [oV 4 28,oV 28 2] .ret)))))
def l6.d:gS:=D0 1 l6.m [.t 2]
def l6.F (s:bT):OT:=l6.d.run l6.E [(.s s)]
def l6.k1:dI (List TV):=fG (ev _ l6.E (.seq (oS [oV 0 23,oX (.k .si) [.s 23,.c (.i .i64 0)] [24],oI .eql 24 (.u8 45) 25] (.cond (.s 25) [] (oS [oV 4 26,oK (.k (.un .neg)) [26] [27],oV 27 2] .ret) .skip)) none (oS [oV 4 28,oV 28 2] .ret))) none (fK l6.d)
def l6.l1 (x0:bT) (x1:bT) (x2:Int) (x3:Int) (x4:Int):OT:=eg (fQ _ l6.E l6.m1) jU [0,3,4,9,10] (cS [0,3,4,9,10] [(.s x0),(.s x1),(.i .i64 x2),(.i .i64 x3),(.i .i64 x4)]) (cG 0 l6.k1)
theorem l6.dE (x0:bT) (x1:bT) (x2:Int) (x3:Int) (x4:Int) {ρ:OT} (K:∀(v1:Int) (h1:v1=(IntKind.i64.wrap ((10:Int) * x2))) (v2:UInt8) (h2:v2=(List.getD x1 (x4).toNat (0:UInt8))) (v3:Int) (h3:v3=(IntKind.i64.wrap (((v2 - (48:UInt8))).toNat:Int))) (v4:Int) (h4:v4=(vn (IntKind.i64.wrap (v1+v3)) (1000000:Int))) (v5:Int) (h5:v5=(IntKind.i64.wrap (x4+(1:Int)))) (v6:UInt8) (h6:v6=(List.getD x0 ((0:Int)).toNat (0:UInt8))),cond (decide (x4<x3))
  (ck (cq x4 (x1).length) (l6.l1 x0 x1 v4 x3 v5))
  (ck (cq (0:Int) (x0).length) (cond (decide (v6=(45:UInt8)))
  (some [(.i .i64 (IntKind.i64.wrap (0 - x2)))])
  (some [(.i .i64 x2)])))=ρ):l6.l1 x0 x1 x2 x3 x4=ρ:=((de _ _ _ _ _ _).trans (by kernel_rfl)).trans (K _ rfl _ rfl _ rfl _ rfl _ rfl _ rfl)
theorem l6.dZ (s:bT) {ρ:OT} (K:∀(v1:bT) (h1:v1=(Lib.trimLeftS s (([43,45]:bT)))),ck (decide ((s).length≤1099511627776∧((([43,45]:bT))).length≤100)&&((([43,45]:bT))).all (fun b=>decide (b.toNat<128))) (l6.l1 s v1 (0:Int) ((v1).length:Int) (0:Int))=ρ):l6.F s=ρ:=Eq.trans (by kernel_rfl) (K _ rfl)
theorem l6.eJ:CK 39 l6.env l6.d:=fE (by kernel_rfl)
def k8.env:EV:=[(13,(cV.c,cV.sg)),(36,(kk.c,kk.sg)),(37,(nB.c,nB.sg)),(38,(ra.c,ra.sg)),(39,(l6.c,l6.sg)),(40,(l8.c,l8.sg))]
def k8.E:eD:=cZ nrGl k8.env
def k8.m1:TM:=oS [oV 11 58,oV 58 2,oW (.i .i64 0) 3] .ret
def k8.m2:TM:=oS [oV 4 37,oX (.k (.call 40 (.plain 2 3))) [.s 37,.c (.s ([46]:bT))] [38],oV 38 36,oE 0 36 39,oE 1 36 40,oE 2 36 41,oV 39 8,oV 40 9,oV 41 10] (oS [oV 8 43,oV 9 44,oB .add 43 44 45,oV 8 46,oK (.k .vT) [46] [47],oV 6 48,oB .add 47 48 49,oC 13 2 2 [45,49] 50,oV 50 42,oE 0 42 51,oE 1 42 52,oV 51 11,oV 52 12] (.seq (oS [oV 12 53,oK (.k (.un .not)) [53] [54]] (.cond (.s 54) [] (oS [oW (.u64 0) 2,oW (.i .i64 10) 3] .ret) .skip)) none (.seq (oS [oV 5 55] (.cond (.s 55) [] (.eZ [oV 11 56,oI .or 56 (.u64 9223372036854775808) 57,oV 57 11]) .skip)) (some [11]) k8.m1)))
def k8.m:TM:=oS [oW (.u64 0) 2,oW (.i .i64 0) 3] (.seq (oS [oV 0 13,oC 36 1 1 [13] 14,oI .eql 14 (.i .i64 0) 15] (.cond (.s 15) [] (oS [oW (.u64 0) 2,oW (.i .i64 3) 3] .ret) .skip)) none (.seq (oS [oV 0 16,oK (.k .vT) [16] [17],oI .gtr 17 (.i .i64 300) 18] (.cond (.s 18) [] (oS [oW (.u64 0) 2,oW (.i .i64 10) 3] .ret) .skip)) none (oS [oV 0 20,oX (.k (.call 37 (.plain 2 2))) [.s 20,.c (.s ([45]:bT))] [21],oV 21 19,oE 0 19 22,oE 1 19 23,oV 22 4,oV 23 5] (oS [oW (.i .i64 0) 6] (.seq (oS [oV 4 24,oX (.k (.call 38 (.plain 2 1))) [.s 24,.c (.s ([101,69]:bT))] [25],oV 25 7] (oS [oV 7 26,oI .geq 26 (.i .i64 0) 27] (.cond (.s 27) [] (oS [oV 4 28,oV 7 29,oI .add 29 (.i .i64 1) 30,oK (.k (.ss true false)) [28,30] [31],oC 39 1 1 [31] 32,oV 32 6] (.eZ [oV 4 33,oV 7 34,oK (.k (.ss false true)) [33,34] [35],oV 35 4])) .skip))) (some [4,5,6]) k8.m2)))))
def k8.d:gS:=D0 1 k8.m [.t 2,.t 3]
def k8.F (s:bT):OT:=k8.d.run k8.E [(.s s)]
def k8.j1 (x0:bT) (x1:Bool) (x2:Int):OT:=fQ _ k8.E k8.m2 (cS [4,5,6] [(.s x0),(.b x1),(.i .i64 x2)]) (fK k8.d)
def k8.j2 (x0:UInt64):OT:=fQ _ k8.E k8.m1 (cS [11] [(.u64 x0)]) (fK k8.d)
theorem k8.kF (x0:bT) (x1:Bool) (x2:Int) {ρ:OT} (K:∀(v1:bT) (h1:v1=((((x0).dropWhile (· != 46)).drop 1))) (v2:bT) (h2:v2=((((x0).takeWhile (· != 46)))++v1)) (v3:Int) (h3:v3=(((((x0).takeWhile (· != 46)))).length:Int)) (v4:UInt64) (h4:v4=(Nr.pat (Nr.read v2 ((IntKind.i64.wrap (v3+x2)))))) (v5:Bool) (h5:v5=((Nr.read v2 ((IntKind.i64.wrap (v3+x2)))).isSome)) (v6:UInt64) (h6:v6=(v4 ||| (9223372036854775808:UInt64))),ck (decide ((x0).length≤4294967280∧(([46]:bT))=[46])) (ck (decide (((((x0).takeWhile (· != 46)))).length+(v1).length≤9223372036854775807)) (cond (!v5)
  (some [(.u64 0),(.i .i64 10)])
  (cond x1
  (k8.j2 v6)
  (k8.j2 v4))))=ρ):k8.j1 x0 x1 x2=ρ:=((congrFun (congrFun (ie _ _) _) _).trans (by kernel_rfl)).trans (K _ rfl _ rfl _ rfl _ rfl _ rfl _ rfl)
theorem k8.ow (x0:UInt64):k8.j2 x0=some [(.u64 x0),(.i .i64 0)]:=((congrFun (congrFun (ie _ _) _) _).trans (by kernel_rfl))
theorem k8.dZ (s:bT) {ρ:OT} (K:∀(v1:bT) (h1:v1=((if ((([45]:bT))).isPrefixOf s then (s).drop ((([45]:bT))).length else s))) (v2:Bool) (h2:v2=((((([45]:bT))).isPrefixOf s))) (v3:Int) (h3:v3=(Lib.indexAny v1 (([101,69]:bT)))) (v4:Int) (h4:v4=(IntKind.i64.wrap (v3+(1:Int)))) (v5:Int) (h5:v5=(Nr.ZS ((List.drop (v4).toNat v1)))),ck (decide ((s).length≤1099511627776)) (cond (decide ((Nr.Lv s)=(0:Int)))
  (some [(.u64 0),(.i .i64 3)])
  (cond (decide ((300:Int)<((s).length:Int)))
  (some [(.u64 0),(.i .i64 10)])
  (ck (decide ((v1).length≤4294967280∧((([101,69]:bT))).length≤100)&&((v1)++((([101,69]:bT)))).all (fun b=>decide (b.toNat<128))) (cond (decide ((0:Int)≤v3))
  (ck (gN v4 (v1).length (v1).length) (ck (decide (1≤(Nr.signed ((List.drop (v4).toNat v1))).length∧(((List.drop (v4).toNat v1))).length≤300)&&(Nr.signed ((List.drop (v4).toNat v1))).all Nr.eo) (ck (gN 0 v3 (v1).length) (k8.j1 (List.take (v3).toNat v1) v2 v5))))
  (k8.j1 v1 v2 (0:Int))))))=ρ):k8.F s=ρ:=Eq.trans (by kernel_rfl) (K _ rfl _ rfl _ rfl _ rfl _ rfl)
theorem k8.eJ:CK 15 k8.env k8.d:=fE (by kernel_rfl)
def nA.env:EV:=[]
def nA.E:eD:=cZ nrGl nA.env
def nA.m:TM:=oS [oW (.b false) 8] (oS [oV 1 9,oV 0 10,oK (.k .vT) [10] [11],oB .lss 9 11 12,oV 12 13,oG 13 true (oV 0 14),oG 13 true (oV 1 15),oG 13 true (oK (.k .si) [14,15] [16]),oG 13 true (oV 2 17),oG 13 true (oB .eql 16 17 18),oG 13 true (oV 18 19),oG 19 false (oV 0 20),oG 19 false (oV 1 21),oG 19 false (oK (.k .si) [20,21] [22]),oG 19 false (oV 3 23),oG 19 false (oB .eql 22 23 24),oG 13 true (oX (.k .pick) [.s 19,.c (.b true),.s 24] [25]),oP 13 25 false 26,oV 26 8] .ret)
def nA.d:gS:=D0 4 nA.m [.t 8]
def nA.F (s:bT) (at_:Int) (c:UInt8) (d:UInt8):OT:=nA.d.run nA.E [(.s s),(.i .i64 at_),(.u8 c),(.u8 d)]
theorem nA.dZ (s:bT) (at_:Int) (c:UInt8) (d:UInt8) {ρ:OT} (K:∀(v1:UInt8) (h1:v1=(List.getD s (at_).toNat (0:UInt8))) (v2:Bool) (h2:v2=((decide (at_<((s).length:Int)))&&(!(decide (v1=c))))) (v3:Bool) (h3:v3=(cond (decide (v1=c)) true (decide (v1=d)))) (v4:Bool) (h4:v4=(cond (decide (at_<((s).length:Int))) v3 false)),ck (!(decide (at_<((s).length:Int))) || (((decide (at_<((s).length:Int)))&&(decide (at_<((s).length:Int))))&&(cq at_ (s).length))) (ck (!(decide (at_<((s).length:Int))) || ((decide (at_<((s).length:Int)))&&(decide (at_<((s).length:Int))))) (ck (!(decide (at_<((s).length:Int))) || (decide (at_<((s).length:Int)))) (ck (!v2 || ((v2&&v2)&&(cq at_ (s).length))) (ck (!v2 || (v2&&v2)) (ck (!(decide (at_<((s).length:Int))) || ((decide (at_<((s).length:Int)))&&((decide (v1=c)) || v2))) (ck (!(decide (at_<((s).length:Int))) || (decide (at_<((s).length:Int)))) (some [(.b v4)])))))))=ρ):nA.F s at_ c d=ρ:=Eq.trans (by kernel_rfl) (K _ rfl _ rfl _ rfl _ rfl)
theorem nA.eJ:CK 67 nA.env nA.d:=fE (by kernel_rfl)
def k9.env:EV:=[]
def k9.E:eD:=cZ nrGl k9.env
def k9.m1:TM := .seq (oS [oV 1 5,oV 0 6,oK (.k .vT) [6] [7],oB .lss 5 7 8,oV 8 9,oG 9 true (oV 0 10),oG 9 true (oV 1 11),oG 9 true (oK (.k .si) [10,11] [12]),oG 9 true (oI .geq 12 (.u8 48) 13),oP 9 13 false 14,oV 14 15,oG 15 true (oV 0 16),oG 15 true (oV 1 17),oG 15 true (oK (.k .si) [16,17] [18]),oG 15 true (oI .leq 18 (.u8 57) 19),oP 15 19 false 20] (.cond (.s 20) [] .skip (.exit 0))) none (.block 1 [] (.eZ [oV 1 21,oI .add 21 (.i .i64 1) 22,oV 22 1]))
def k9.m:TM:=oS [oW (.i .i64 0) 4] (.seq (.block 0 [] (.loop [0,1] [] k9.m1)) none (oS [oV 1 23,oV 23 4] .ret))
def k9.d:gS:=D0 2 k9.m [.t 4]
def k9.F (s:bT) (at_:Int):OT:=k9.d.run k9.E [(.s s),(.i .i64 at_)]
def k9.k1:dI (List TV):=fG (ev _ k9.E (oS [oV 1 23,oV 23 4] .ret)) none (fK k9.d)
def k9.l1 (x0:bT) (x1:Int):OT:=eg (fQ _ k9.E k9.m1) jU [0,1] (cS [0,1] [(.s x0),(.i .i64 x1)]) (cG 0 k9.k1)
theorem k9.dE (x0:bT) (x1:Int) {ρ:OT} (K:∀(v1:UInt8) (h1:v1=(List.getD x0 (x1).toNat (0:UInt8))) (v2:Bool) (h2:v2=(cond (decide (x1<((x0).length:Int))) (decide ((48:UInt8)≤v1)) false)) (v3:Bool) (h3:v3=(cond v2 (decide (v1≤(57:UInt8))) false)) (v4:Int) (h4:v4=(IntKind.i64.wrap (x1+(1:Int)))),ck (!(decide (x1<((x0).length:Int))) || (((decide (x1<((x0).length:Int)))&&(decide (x1<((x0).length:Int))))&&(cq x1 (x0).length))) (ck (!(decide (x1<((x0).length:Int))) || (decide (x1<((x0).length:Int)))) (ck (!(decide (x1<((x0).length:Int))) || (decide (x1<((x0).length:Int)))) (ck (!v2 || ((v2&&v2)&&(cq x1 (x0).length))) (ck (!v2 || v2) (ck (!v2 || v2) (cond v3
  (k9.l1 x0 v4)
  (some [(.i .i64 x1)])))))))=ρ):k9.l1 x0 x1=ρ:=((de _ _ _ _ _ _).trans (by kernel_rfl)).trans (K _ rfl _ rfl _ rfl _ rfl)
theorem k9.jq (s:bT) (at_:Int):k9.F s at_=k9.l1 s at_:=by kernel_rfl
theorem k9.eJ:CK 68 k9.env k9.d:=fE (by kernel_rfl)
def kk.env:EV:=[(67,(nA.c,nA.sg)),(68,(k9.c,k9.sg))]
def kk.E:eD:=cZ nrGl kk.env
def kk.m1:TM:=oS [oV 0 52,oV 3 53,oC 68 2 1 [52,53] 54,oV 54 5] (.seq (oS [oV 5 55,oV 3 56,oB .eql 55 56 57] (.cond (.s 57) [] (oS [oW (.i .i64 0) 2] .ret) .skip)) none (.eZ [oV 5 58,oV 58 3]))
def kk.m2:TM := .seq (oS [oV 3 59,oV 0 60,oK (.k .vT) [60] [61],oB .neq 59 61 62] (.cond (.s 62) [] (oS [oW (.i .i64 0) 2] .ret) .skip)) none (oS [oV 4 63,oV 63 2] .ret)
def kk.m3:TM := .seq (oS [oV 0 42,oV 3 43,oX (.k (.call 67 (.plain 4 1))) [.s 42,.s 43,.c (.u8 101),.c (.u8 69)] [44]] (.cond (.s 44) [] (oS [oW (.i .i64 2) 4] (oS [oV 3 45,oI .add 45 (.i .i64 1) 46,oV 46 3] (.seq (oS [oV 0 47,oV 3 48,oX (.k (.call 67 (.plain 4 1))) [.s 47,.s 48,.c (.u8 43),.c (.u8 45)] [49]] (.cond (.s 49) [] (.eZ [oV 3 50,oI .add 50 (.i .i64 1) 51,oV 51 3]) .skip)) (some [0,3,4]) kk.m1))) .skip)) (some [0,3,4]) kk.m2
def kk.m4:TM:=oS [oV 0 11,oV 3 12,oC 68 2 1 [11,12] 13,oV 13 5] (.seq (oS [oV 5 14,oV 3 15,oB .eql 14 15 16,oV 16 17,oG 17 false (oV 0 18),oG 17 false (oV 3 19),oG 17 false (oK (.k .si) [18,19] [20]),oG 17 false (oI .eql 20 (.u8 48) 21),oG 17 false (oV 21 22),oG 22 true (oV 5 23),oG 22 true (oV 3 24),oG 22 true (oI .add 24 (.i .i64 1) 25),oG 22 true (oB .gtr 23 25 26),oG 17 false (oP 22 26 false 27),oX (.k .pick) [.s 17,.c (.b true),.s 27] [28]] (.cond (.s 28) [] (oS [oW (.i .i64 0) 2] .ret) .skip)) none (oS [oV 5 29,oV 29 3] (.seq (oS [oV 0 30,oV 3 31,oX (.k (.call 67 (.plain 4 1))) [.s 30,.s 31,.c (.u8 46),.c (.u8 46)] [32]] (.cond (.s 32) [] (oS [oW (.i .i64 2) 4] (oS [oV 0 33,oV 3 34,oI .add 34 (.i .i64 1) 35,oC 68 2 1 [33,35] 36,oV 36 5] (.seq (oS [oV 5 37,oV 3 38,oI .add 38 (.i .i64 1) 39,oB .eql 37 39 40] (.cond (.s 40) [] (oS [oW (.i .i64 0) 2] .ret) .skip)) none (.eZ [oV 5 41,oV 41 3])))) .skip)) (some [0,3,4]) kk.m3)))
def kk.m:TM:=oS [oW (.i .i64 0) 2] (oS [oW (.i .i64 0) 3,oW (.i .i64 1) 4] (.seq (oS [oV 0 6,oV 3 7,oX (.k (.call 67 (.plain 4 1))) [.s 6,.s 7,.c (.u8 45),.c (.u8 45)] [8]] (.cond (.s 8) [] (.eZ [oV 3 9,oI .add 9 (.i .i64 1) 10,oV 10 3]) .skip)) (some [0,3,4]) kk.m4))
def kk.d:gS:=D0 1 kk.m [.t 2]
def kk.F (s:bT):OT:=kk.d.run kk.E [(.s s)]
def kk.k1:dI (List TV):=fG (fQ _ kk.E kk.m2) (some [0,3,4]) (fK kk.d)
def kk.j1 (x0:bT) (x1:Int) (x2:Int):OT:=fQ _ kk.E kk.m4 (cS [0,3,4] [(.s x0),(.i .i64 x1),(.i .i64 x2)]) (fK kk.d)
def kk.j2 (x0:bT) (x1:Int) (x2:Int):OT:=fQ _ kk.E kk.m3 (cS [0,3,4] [(.s x0),(.i .i64 x1),(.i .i64 x2)]) (fK kk.d)
def kk.j3 (x0:bT) (x1:Int) (x2:Int):OT:=fQ _ kk.E kk.m1 (cS [0,3,4] [(.s x0),(.i .i64 x1),(.i .i64 x2)]) kk.k1
def kk.j4 (x0:bT) (x1:Int) (x2:Int):OT:=fQ _ kk.E kk.m2 (cS [0,3,4] [(.s x0),(.i .i64 x1),(.i .i64 x2)]) (fK kk.d)
theorem kk.kF (x0:bT) (x1:Int) (x2:Int) {ρ:OT} (K:∀(v1:Int) (h1:v1=((x1+(Nr.run ((x0).drop (x1).toNat):Int)))) (v2:UInt8) (h2:v2=(List.getD x0 (x1).toNat (0:UInt8))) (v3:Bool) (h3:v3=((!(decide (v1=x1)))&&(decide (v2=(48:UInt8))))) (v4:Int) (h4:v4=(IntKind.i64.wrap (x1+(1:Int)))) (v5:Bool) (h5:v5=(cond (decide (v2=(48:UInt8))) (decide (v4<v1)) false)) (v6:Bool) (h6:v6=(cond (decide (v1=x1)) true v5)) (v7:Bool) (h7:v7=((decide (v1<(x0).length)&&(decide ((x0).getD (v1).toNat 0=((46:UInt8))) || decide ((x0).getD (v1).toNat 0=((46:UInt8))))))) (v8:Int) (h8:v8=(IntKind.i64.wrap (v1+(1:Int)))) (v9:Int) (h9:v9=((v8+(Nr.run ((x0).drop (v8).toNat):Int)))),ck (decide ((x0).length≤1099511627776)&&decide (0≤x1∧x1≤1099511627776)) (ck (!(!(decide (v1=x1))) || (((!(decide (v1=x1)))&&(!(decide (v1=x1))))&&(cq x1 (x0).length))) (ck (!(!(decide (v1=x1))) || (!(decide (v1=x1)))) (ck (!(!(decide (v1=x1))) || (!(decide (v1=x1)))) (ck (!v3 || v3) (ck (!v3 || (v3&&v3)) (ck (!(!(decide (v1=x1))) || ((!(decide (v1=x1)))&&(!(decide (v2=(48:UInt8))) || v3))) (ck ((decide (v1=x1)) || (!(decide (v1=x1)))) (cond v6
  (some [(.i .i64 0)])
  (ck (decide ((x0).length≤1099511627776)&&decide (0≤v1)) (cond v7
  (ck (decide ((x0).length≤1099511627776)&&decide (0≤v8∧v8≤1099511627776)) (cond (decide (v9=v8))
  (some [(.i .i64 0)])
  (kk.j2 x0 v9 (2:Int))))
  (kk.j2 x0 v1 x2)))))))))))=ρ):kk.j1 x0 x1 x2=ρ:=((congrFun (congrFun (ie _ _) _) _).trans (by kernel_rfl)).trans (K _ rfl _ rfl _ rfl _ rfl _ rfl _ rfl _ rfl _ rfl _ rfl)
theorem kk.vV (x0:bT) (x1:Int) (x2:Int) {ρ:OT} (K:∀(v1:Bool) (h1:v1=((decide (x1<(x0).length)&&(decide ((x0).getD (x1).toNat 0=((101:UInt8))) || decide ((x0).getD (x1).toNat 0=((69:UInt8))))))) (v2:Int) (h2:v2=(IntKind.i64.wrap (x1+(1:Int)))) (v3:Bool) (h3:v3=((decide (v2<(x0).length)&&(decide ((x0).getD (v2).toNat 0=((43:UInt8))) || decide ((x0).getD (v2).toNat 0=((45:UInt8))))))) (v4:Int) (h4:v4=(IntKind.i64.wrap (v2+(1:Int)))),ck (decide ((x0).length≤1099511627776)&&decide (0≤x1)) (cond v1
  (ck (decide ((x0).length≤1099511627776)&&decide (0≤v2)) (cond v3
  (kk.j3 x0 v4 (2:Int))
  (kk.j3 x0 v2 (2:Int))))
  (kk.j4 x0 x1 x2))=ρ):kk.j2 x0 x1 x2=ρ:=((congrFun (congrFun (ie _ _) _) _).trans (by kernel_rfl)).trans (K _ rfl _ rfl _ rfl _ rfl)
theorem kk.FA (x0:bT) (x1:Int) (x2:Int) {ρ:OT} (K:∀(v1:Int) (h1:v1=((x1+(Nr.run ((x0).drop (x1).toNat):Int)))),ck (decide ((x0).length≤1099511627776)&&decide (0≤x1∧x1≤1099511627776)) (cond (decide (v1=x1))
  (some [(.i .i64 0)])
  (kk.j4 x0 v1 x2))=ρ):kk.j3 x0 x1 x2=ρ:=((congrFun (congrFun (ie _ _) _) _).trans (by kernel_rfl)).trans (K _ rfl)
theorem kk.JJ (x0:bT) (x1:Int) (x2:Int):kk.j4 x0 x1 x2=cond (!decide (x1=((x0).length:Int)))
  (some [(.i .i64 0)])
  (some [(.i .i64 x2)]):=((congrFun (congrFun (ie _ _) _) _).trans (by kernel_rfl))
theorem kk.dZ (s:bT) {ρ:OT} (K:∀(v1:Bool) (h1:v1=((decide (((0:Int))<(s).length)&&(decide ((s).getD (((0:Int))).toNat 0=((45:UInt8))) || decide ((s).getD (((0:Int))).toNat 0=((45:UInt8))))))) (v2:Int) (h2:v2=(IntKind.i64.wrap ((0:Int)+(1:Int)))),ck (decide ((s).length≤1099511627776)&&decide (0≤((0:Int)))) (cond v1
  (kk.j1 s v2 (1:Int))
  (kk.j1 s (0:Int) (1:Int)))=ρ):kk.F s=ρ:=Eq.trans (by kernel_rfl) (K _ rfl _ rfl)
theorem kk.eJ:CK 36 kk.env kk.d:=fE (by kernel_rfl)
def l7.env:EV:=[]
def l7.E:eD:=cZ nrGl l7.env
def l7.m1:TM := .seq (oS [oV 3 4,oV 0 5,oK (.k .vT) [5] [6],oB .lss 4 6 7,oV 7 8,oG 8 true (oV 0 9),oG 8 true (oV 3 10),oG 8 true (oK (.k .si) [9,10] [11]),oG 8 true (oI .geq 11 (.u8 48) 12),oP 8 12 false 13,oV 13 14,oG 14 true (oV 0 15),oG 14 true (oV 3 16),oG 14 true (oK (.k .si) [15,16] [17]),oG 14 true (oI .leq 17 (.u8 57) 18),oP 14 18 false 19] (.cond (.s 19) [] .skip (.exit 0))) none (.block 1 [] (.eZ [oV 3 20,oI .add 20 (.i .i64 1) 21,oV 21 3]))
def l7.m:TM:=oS [oW (.i .i64 0) 2] (oS [oW (.i .i64 0) 3] (.seq (.block 0 [] (.loop [0,3] [] l7.m1)) none (oS [oV 3 22,oV 22 2] .ret)))
def l7.d:gS:=D0 1 l7.m [.t 2]
def l7.F (s:bT):OT:=l7.d.run l7.E [(.s s)]
def l7.k1:dI (List TV):=fG (ev _ l7.E (oS [oV 3 22,oV 22 2] .ret)) none (fK l7.d)
def l7.l1 (x0:bT) (x1:Int):OT:=eg (fQ _ l7.E l7.m1) jU [0,3] (cS [0,3] [(.s x0),(.i .i64 x1)]) (cG 0 l7.k1)
theorem l7.dE (x0:bT) (x1:Int) {ρ:OT} (K:∀(v1:UInt8) (h1:v1=(List.getD x0 (x1).toNat (0:UInt8))) (v2:Bool) (h2:v2=(cond (decide (x1<((x0).length:Int))) (decide ((48:UInt8)≤v1)) false)) (v3:Bool) (h3:v3=(cond v2 (decide (v1≤(57:UInt8))) false)) (v4:Int) (h4:v4=(IntKind.i64.wrap (x1+(1:Int)))),ck (!(decide (x1<((x0).length:Int))) || (((decide (x1<((x0).length:Int)))&&(decide (x1<((x0).length:Int))))&&(cq x1 (x0).length))) (ck (!(decide (x1<((x0).length:Int))) || (decide (x1<((x0).length:Int)))) (ck (!(decide (x1<((x0).length:Int))) || (decide (x1<((x0).length:Int)))) (ck (!v2 || ((v2&&v2)&&(cq x1 (x0).length))) (ck (!v2 || v2) (ck (!v2 || v2) (cond v3
  (l7.l1 x0 v4)
  (some [(.i .i64 x1)])))))))=ρ):l7.l1 x0 x1=ρ:=((de _ _ _ _ _ _).trans (by kernel_rfl)).trans (K _ rfl _ rfl _ rfl _ rfl)
theorem l7.jq (s:bT):l7.F s=l7.l1 s (0:Int):=by kernel_rfl
theorem l7.eJ:CK 41 l7.env l7.d:=fE (by kernel_rfl)
def cd.env:EV:=[(41,(l7.c,l7.sg))]
def cd.E:eD:=cZ nrGl cd.env
def cd.m1:TM:=oS [oV 0 78,oC 41 1 1 [78] 79,oV 79 4] (.seq (oS [oV 4 80,oI .eql 80 (.i .i64 0) 81] (.cond (.s 81) [] (oS [oW (.i .i64 0) 2] .ret) .skip)) none (.eZ [oV 0 82,oV 4 83,oK (.k (.ss true false)) [82,83] [84],oW (.i .i64 2) 3,oV 84 0]))
def cd.m2:TM := .seq (oS [oV 0 85,oI .neq 85 (.s []) 86] (.cond (.s 86) [] (oS [oW (.i .i64 0) 2] .ret) .skip)) none (oS [oV 3 87,oV 87 2] .ret)
def cd.m3:TM := .seq (oS [oV 0 48,oK (.k .vT) [48] [49],oI .gtr 49 (.i .i64 0) 50,oV 50 51,oG 51 true (oV 0 52),oG 51 true (oX (.k .si) [.s 52,.c (.i .i64 0)] [53]),oG 51 true (oI .eql 53 (.u8 101) 54),oG 51 true (oV 54 55),oG 55 false (oV 0 56),oG 55 false (oX (.k .si) [.s 56,.c (.i .i64 0)] [57]),oG 55 false (oI .eql 57 (.u8 69) 58),oG 51 true (oX (.k .pick) [.s 55,.c (.b true),.s 58] [59]),oP 51 59 false 60] (.cond (.s 60) [] (oS [oV 0 61,oX (.k (.ss true false)) [.s 61,.c (.i .i64 1)] [62],oV 62 0] (.seq (oS [oV 0 63,oK (.k .vT) [63] [64],oI .gtr 64 (.i .i64 0) 65,oV 65 66,oG 66 true (oV 0 67),oG 66 true (oX (.k .si) [.s 67,.c (.i .i64 0)] [68]),oG 66 true (oI .eql 68 (.u8 43) 69),oG 66 true (oV 69 70),oG 70 false (oV 0 71),oG 70 false (oX (.k .si) [.s 71,.c (.i .i64 0)] [72]),oG 70 false (oI .eql 72 (.u8 45) 73),oG 66 true (oX (.k .pick) [.s 70,.c (.b true),.s 73] [74]),oP 66 74 false 75] (.cond (.s 75) [] (.eZ [oV 0 76,oX (.k (.ss true false)) [.s 76,.c (.i .i64 1)] [77],oV 77 0]) .skip)) (some [0]) cd.m1)) .skip)) (some [0,3]) cd.m2
def cd.m4:TM:=oS [oV 0 15,oC 41 1 1 [15] 16,oV 16 4] (.seq (oS [oV 4 17,oI .eql 17 (.i .i64 0) 18,oV 18 19,oG 19 false (oV 0 20),oG 19 false (oX (.k .si) [.s 20,.c (.i .i64 0)] [21]),oG 19 false (oI .eql 21 (.u8 48) 22),oG 19 false (oV 22 23),oG 23 true (oV 4 24),oG 23 true (oI .gtr 24 (.i .i64 1) 25),oG 19 false (oP 23 25 false 26),oX (.k .pick) [.s 19,.c (.b true),.s 26] [27]] (.cond (.s 27) [] (oS [oW (.i .i64 0) 2] .ret) .skip)) none (oS [oV 0 28,oV 4 29,oK (.k (.ss true false)) [28,29] [30],oV 30 0] (.seq (oS [oV 0 31,oK (.k .vT) [31] [32],oI .gtr 32 (.i .i64 0) 33,oV 33 34,oG 34 true (oV 0 35),oG 34 true (oX (.k .si) [.s 35,.c (.i .i64 0)] [36]),oG 34 true (oI .eql 36 (.u8 46) 37),oP 34 37 false 38] (.cond (.s 38) [] (oS [oV 0 39,oX (.k (.ss true false)) [.s 39,.c (.i .i64 1)] [40],oC 41 1 1 [40] 41,oV 41 4] (.seq (oS [oV 4 42,oI .eql 42 (.i .i64 0) 43] (.cond (.s 43) [] (oS [oW (.i .i64 0) 2] .ret) .skip)) none (.eZ [oV 0 44,oV 4 45,oX (.k (.bin .add)) [.c (.i .i64 1),.s 45] [46],oK (.k (.ss true false)) [44,46] [47],oW (.i .i64 2) 3,oV 47 0]))) .skip)) (some [0,3]) cd.m3)))
def cd.m:TM:=oS [oW (.i .i64 0) 2] (oS [oW (.i .i64 1) 3] (.seq (oS [oV 0 5,oK (.k .vT) [5] [6],oI .gtr 6 (.i .i64 0) 7,oV 7 8,oG 8 true (oV 0 9),oG 8 true (oX (.k .si) [.s 9,.c (.i .i64 0)] [10]),oG 8 true (oI .eql 10 (.u8 45) 11),oP 8 11 false 12] (.cond (.s 12) [] (.eZ [oV 0 13,oX (.k (.ss true false)) [.s 13,.c (.i .i64 1)] [14],oV 14 0]) .skip)) (some [0,3]) cd.m4))
def cd.d:gS:=D0 1 cd.m [.t 2]
def cd.F (s:bT):OT:=cd.d.run cd.E [(.s s)]
def cd.k1:dI (List TV):=fG (fQ _ cd.E cd.m2) (some [0,3]) (fK cd.d)
def cd.j1 (x0:bT) (x1:Int):OT:=fQ _ cd.E cd.m4 (cS [0,3] [(.s x0),(.i .i64 x1)]) (fK cd.d)
def cd.j2 (x0:bT) (x1:Int):OT:=fQ _ cd.E cd.m3 (cS [0,3] [(.s x0),(.i .i64 x1)]) (fK cd.d)
def cd.j3 (x0:bT):OT:=fQ _ cd.E cd.m1 (cS [0] [(.s x0)]) cd.k1
def cd.j4 (x0:bT) (x1:Int):OT:=fQ _ cd.E cd.m2 (cS [0,3] [(.s x0),(.i .i64 x1)]) (fK cd.d)
theorem cd.kF (x0:bT) (x1:Int) {ρ:OT} (K:∀(v1:UInt8) (h1:v1=(List.getD x0 ((0:Int)).toNat (0:UInt8))) (v2:Bool) (h2:v2=((!(decide (((Nr.run x0:Int))=(0:Int))))&&(decide (v1=(48:UInt8))))) (v3:Bool) (h3:v3=(cond (decide (v1=(48:UInt8))) (decide ((1:Int)<((Nr.run x0:Int)))) false)) (v4:Bool) (h4:v4=(cond (decide (((Nr.run x0:Int))=(0:Int))) true v3)) (v5:bT) (h5:v5=(List.drop (((Nr.run x0:Int))).toNat x0)) (v6:UInt8) (h6:v6=(List.getD v5 ((0:Int)).toNat (0:UInt8))) (v7:Bool) (h7:v7=(cond (decide ((0:Int)<((v5).length:Int))) (decide (v6=(46:UInt8))) false)) (v8:bT) (h8:v8=(List.drop ((1:Int)).toNat v5)) (v9:Int) (h9:v9=(IntKind.i64.wrap ((1:Int)+((Nr.run v8:Int))))),ck (decide ((x0).length≤1099511627776)) (ck (!(!(decide (((Nr.run x0:Int))=(0:Int)))) || ((!(decide (((Nr.run x0:Int))=(0:Int))))&&(cq (0:Int) (x0).length))) (ck (!(!(decide (((Nr.run x0:Int))=(0:Int)))) || (!(decide (((Nr.run x0:Int))=(0:Int))))) (ck (!(!(decide (((Nr.run x0:Int))=(0:Int)))) || (!(decide (((Nr.run x0:Int))=(0:Int))))) (ck (!v2 || v2) (ck (!(!(decide (((Nr.run x0:Int))=(0:Int)))) || ((!(decide (((Nr.run x0:Int))=(0:Int))))&&(!(decide (v1=(48:UInt8))) || v2))) (ck ((decide (((Nr.run x0:Int))=(0:Int))) || (!(decide (((Nr.run x0:Int))=(0:Int))))) (cond v4
  (some [(.i .i64 0)])
  (ck (gN ((Nr.run x0:Int)) (x0).length (x0).length) (ck (!(decide ((0:Int)<((v5).length:Int))) || ((decide ((0:Int)<((v5).length:Int)))&&(cq (0:Int) (v5).length))) (ck (!(decide ((0:Int)<((v5).length:Int))) || (decide ((0:Int)<((v5).length:Int)))) (ck (!(decide ((0:Int)<((v5).length:Int))) || (decide ((0:Int)<((v5).length:Int)))) (cond v7
  (ck (gN (1:Int) (v5).length (v5).length) (ck (decide ((v8).length≤1099511627776)) (cond (decide (((Nr.run v8:Int))=(0:Int)))
  (some [(.i .i64 0)])
  (ck (gN v9 (v5).length (v5).length) (cd.j2 (List.drop (v9).toNat v5) (2:Int))))))
  (cd.j2 v5 x1)))))))))))))=ρ):cd.j1 x0 x1=ρ:=((congrFun (congrFun (ie _ _) _) _).trans (by kernel_rfl)).trans (K _ rfl _ rfl _ rfl _ rfl _ rfl _ rfl _ rfl _ rfl _ rfl)
theorem cd.vV (x0:bT) (x1:Int) {ρ:OT} (K:∀(v1:UInt8) (h1:v1=(List.getD x0 ((0:Int)).toNat (0:UInt8))) (v2:Bool) (h2:v2=((decide ((0:Int)<((x0).length:Int)))&&(!(decide (v1=(101:UInt8)))))) (v3:Bool) (h3:v3=(cond (decide (v1=(101:UInt8))) true (decide (v1=(69:UInt8))))) (v4:Bool) (h4:v4=(cond (decide ((0:Int)<((x0).length:Int))) v3 false)) (v5:bT) (h5:v5=(List.drop ((1:Int)).toNat x0)) (v6:UInt8) (h6:v6=(List.getD v5 ((0:Int)).toNat (0:UInt8))) (v7:Bool) (h7:v7=((decide ((0:Int)<((v5).length:Int)))&&(!(decide (v6=(43:UInt8)))))) (v8:Bool) (h8:v8=(cond (decide (v6=(43:UInt8))) true (decide (v6=(45:UInt8))))) (v9:Bool) (h9:v9=(cond (decide ((0:Int)<((v5).length:Int))) v8 false)) (v10:bT) (kQ:v10=(List.drop ((1:Int)).toNat v5)),ck (!(decide ((0:Int)<((x0).length:Int))) || ((decide ((0:Int)<((x0).length:Int)))&&(cq (0:Int) (x0).length))) (ck (!(decide ((0:Int)<((x0).length:Int))) || (decide ((0:Int)<((x0).length:Int)))) (ck (!(decide ((0:Int)<((x0).length:Int))) || (decide ((0:Int)<((x0).length:Int)))) (ck (!v2 || (v2&&(cq (0:Int) (x0).length))) (ck (!v2 || v2) (ck (!(decide ((0:Int)<((x0).length:Int))) || ((decide ((0:Int)<((x0).length:Int)))&&((decide (v1=(101:UInt8))) || v2))) (ck (!(decide ((0:Int)<((x0).length:Int))) || (decide ((0:Int)<((x0).length:Int)))) (cond v4
  (ck (gN (1:Int) (x0).length (x0).length) (ck (!(decide ((0:Int)<((v5).length:Int))) || ((decide ((0:Int)<((v5).length:Int)))&&(cq (0:Int) (v5).length))) (ck (!(decide ((0:Int)<((v5).length:Int))) || (decide ((0:Int)<((v5).length:Int)))) (ck (!(decide ((0:Int)<((v5).length:Int))) || (decide ((0:Int)<((v5).length:Int)))) (ck (!v7 || (v7&&(cq (0:Int) (v5).length))) (ck (!v7 || v7) (ck (!(decide ((0:Int)<((v5).length:Int))) || ((decide ((0:Int)<((v5).length:Int)))&&((decide (v6=(43:UInt8))) || v7))) (ck (!(decide ((0:Int)<((v5).length:Int))) || (decide ((0:Int)<((v5).length:Int)))) (cond v9
  (ck (gN (1:Int) (v5).length (v5).length) (cd.j3 v10))
  (cd.j3 v5))))))))))
  (cd.j4 x0 x1))))))))=ρ):cd.j2 x0 x1=ρ:=((congrFun (congrFun (ie _ _) _) _).trans (by kernel_rfl)).trans (K _ rfl _ rfl _ rfl _ rfl _ rfl _ rfl _ rfl _ rfl _ rfl _ rfl)
theorem cd.FA (x0:bT) {ρ:OT} (K:∀(v1:bT) (h1:v1=(List.drop (((Nr.run x0:Int))).toNat x0)),ck (decide ((x0).length≤1099511627776)) (cond (decide (((Nr.run x0:Int))=(0:Int)))
  (some [(.i .i64 0)])
  (ck (gN ((Nr.run x0:Int)) (x0).length (x0).length) (cd.j4 v1 (2:Int))))=ρ):cd.j3 x0=ρ:=((congrFun (congrFun (ie _ _) _) _).trans (by kernel_rfl)).trans (K _ rfl)
theorem cd.JJ (x0:bT) (x1:Int):cd.j4 x0 x1=cond (!decide (x0=([]:bT)))
  (some [(.i .i64 0)])
  (some [(.i .i64 x1)]):=((congrFun (congrFun (ie _ _) _) _).trans (by kernel_rfl))
theorem cd.dZ (s:bT) {ρ:OT} (K:∀(v1:UInt8) (h1:v1=(List.getD s ((0:Int)).toNat (0:UInt8))) (v2:Bool) (h2:v2=(cond (decide ((0:Int)<((s).length:Int))) (decide (v1=(45:UInt8))) false)) (v3:bT) (h3:v3=(List.drop ((1:Int)).toNat s)),ck (!(decide ((0:Int)<((s).length:Int))) || ((decide ((0:Int)<((s).length:Int)))&&(cq (0:Int) (s).length))) (ck (!(decide ((0:Int)<((s).length:Int))) || (decide ((0:Int)<((s).length:Int)))) (ck (!(decide ((0:Int)<((s).length:Int))) || (decide ((0:Int)<((s).length:Int)))) (cond v2
  (ck (gN (1:Int) (s).length (s).length) (cd.j1 v3 (1:Int)))
  (cd.j1 s (1:Int)))))=ρ):cd.F s=ρ:=Eq.trans (by kernel_rfl) (K _ rfl _ rfl _ rfl)
theorem cd.eJ:CK 16 cd.env cd.d:=fE (by kernel_rfl)
end
end Go.Eng
set_option maxRecDepth 100000
namespace Go.Eng
open Go.Proofs
noncomputable section
def dn.env:EV:=[]
def dn.E:eD:=cZ nrGl dn.env
def dn.m:TM:=oS [oW (.i .i64 0) 2,oW (.b false) 3,oW (.u64 0) 4,oW (.i .i64 0) 5] (oS [oV 0 9,oI .shr 9 (.u64 63) 10,oI .eql 10 (.u64 1) 11,oV 0 12,oI .shr 12 (.u64 52) 13,oI .and 13 (.u64 2047) 14,oK (.k (.ci .i64)) [14] [15],oV 0 16,oI .and 16 (.u64 4503599627370495) 17,oV 11 6,oV 15 7,oV 17 8] (.seq (.block 0 [] (oS [oV 7 19,oI .eql 19 (.i .i64 0) 20,oV 20 21,oG 21 true (oV 8 22),oG 21 true (oI .eql 22 (.u64 0) 23),oP 21 23 false 24,oV 24 18] (.cond (.s 18) [] (oS [oV 6 25,oW (.i .i64 1) 2,oV 25 3,oW (.u64 0) 4,oW (.i .i64 0) 5] .ret) (oS [oV 7 27,oI .eql 27 (.i .i64 2047) 28,oV 28 29,oG 29 true (oV 8 30),oG 29 true (oI .eql 30 (.u64 0) 31),oP 29 31 false 32,oV 32 26] (.cond (.s 26) [] (oS [oV 6 33,oW (.i .i64 3) 2,oV 33 3,oW (.u64 0) 4,oW (.i .i64 0) 5] .ret) (oS [oV 7 35,oI .eql 35 (.i .i64 2047) 36,oV 36 34] (.cond (.s 34) [] (oS [oV 6 37,oW (.i .i64 4) 2,oV 37 3,oW (.u64 0) 4,oW (.i .i64 0) 5] .ret) (oS [oV 7 39,oI .eql 39 (.i .i64 0) 40,oV 40 38] (.cond (.s 38) [] (oS [oV 6 41,oV 8 42,oW (.i .i64 2) 2,oV 41 3,oV 42 4,oW (.i .i64 (-1074)) 5] .ret) .skip))))))))) none (oS [oV 6 43,oV 8 44,oX (.k (.bin .add)) [.c (.u64 4503599627370496),.s 44] [45],oV 7 46,oI .sub 46 (.i .i64 1075) 47,oW (.i .i64 2) 2,oV 43 3,oV 45 4,oV 47 5] .ret)))
def dn.d:gS:=D0 1 dn.m [.t 2,.t 3,.t 4,.t 5]
def dn.F (b:UInt64):OT:=dn.d.run dn.E [(.u64 b)]
theorem dn.dZ (b:UInt64) {ρ:OT} (K:∀(v1:UInt64) (h1:v1=(iI b (((63:UInt64)).toNat))) (v2:UInt64) (h2:v2=(iI b (((52:UInt64)).toNat))) (v3:Int) (h3:v3=(IntKind.i64.wrap (((v2 &&& (2047:UInt64))).toNat:Int))) (v4:UInt64) (h4:v4=(b &&& (4503599627370495:UInt64))) (v5:Bool) (h5:v5=(cond (decide (v3=(0:Int))) (decide (v4=(0:UInt64))) false)) (v6:Bool) (h6:v6=(cond (decide (v3=(2047:Int))) (decide (v4=(0:UInt64))) false)) (v7:UInt64) (h7:v7=((4503599627370496:UInt64)+v4)) (v8:Int) (h8:v8=(IntKind.i64.wrap (v3 - (1075:Int)))),ck (!(decide (v3=(0:Int))) || (decide (v3=(0:Int)))) (ck (!(decide (v3=(0:Int))) || (decide (v3=(0:Int)))) (cond v5
  (some [(.i .i64 1),(.b (decide (v1=(1:UInt64)))),(.u64 0),(.i .i64 0)])
  (ck (!(decide (v3=(2047:Int))) || (decide (v3=(2047:Int)))) (ck (!(decide (v3=(2047:Int))) || (decide (v3=(2047:Int)))) (cond v6
  (some [(.i .i64 3),(.b (decide (v1=(1:UInt64)))),(.u64 0),(.i .i64 0)])
  (cond (decide (v3=(2047:Int)))
  (some [(.i .i64 4),(.b (decide (v1=(1:UInt64)))),(.u64 0),(.i .i64 0)])
  (cond (decide (v3=(0:Int)))
  (some [(.i .i64 2),(.b (decide (v1=(1:UInt64)))),(.u64 v4),(.i .i64 (-1074))])
  (some [(.i .i64 2),(.b (decide (v1=(1:UInt64)))),(.u64 v7),(.i .i64 v8)]))))))))=ρ):dn.F b=ρ:=Eq.trans (by kernel_rfl) (K _ rfl _ rfl _ rfl _ rfl _ rfl _ rfl _ rfl _ rfl)
theorem dn.eJ:CK 14 dn.env dn.d:=fE (by kernel_rfl)
def dc.env:EV:=[]
def dc.E:eD:=cZ nrGl dc.env
def dc.m:TM:=oS [oW (.i .i64 0) 2,oW (.b false) 3,oW (.u64 0) 4,oW (.i .i64 0) 5] (oS [oV 0 8,oI .shr 8 (.u64 52) 9,oI .and 9 (.u64 2047) 10,oK (.k (.ci .i64)) [10] [11],oV 0 12,oI .and 12 (.u64 4503599627370495) 13,oV 11 6,oV 13 7] (oS [oV 0 14,oI .shr 14 (.u64 63) 15,oI .eql 15 (.u64 1) 16,oV 16 3] (.seq (.block 0 [] (oS [oV 6 18,oI .eql 18 (.i .i64 2047) 19,oV 19 20,oG 20 true (oV 7 21),oG 20 true (oI .neq 21 (.u64 0) 22),oP 20 22 false 23,oV 23 17] (.cond (.s 17) [] (oS [oV 3 24,oW (.i .i64 4) 2,oV 24 3,oW (.u64 0) 4,oW (.i .i64 0) 5] .ret) (oS [oV 6 26,oI .eql 26 (.i .i64 2047) 27,oV 27 25] (.cond (.s 25) [] (oS [oV 3 28,oW (.i .i64 3) 2,oV 28 3,oW (.u64 0) 4,oW (.i .i64 0) 5] .ret) (oS [oV 6 30,oI .eql 30 (.i .i64 0) 31,oV 31 32,oG 32 true (oV 7 33),oG 32 true (oI .eql 33 (.u64 0) 34),oP 32 34 false 35,oV 35 29] (.cond (.s 29) [] (oS [oV 3 36,oW (.i .i64 1) 2,oV 36 3,oW (.u64 0) 4,oW (.i .i64 0) 5] .ret) (oS [oV 6 38,oI .eql 38 (.i .i64 0) 39,oV 39 37] (.cond (.s 37) [] (oS [oV 3 40,oV 7 41,oW (.i .i64 2) 2,oV 40 3,oV 41 4,oW (.i .i64 (-1074)) 5] .ret) .skip))))))))) none (oS [oV 3 42,oV 7 43,oX (.k (.bin .or)) [.c (.u64 4503599627370496),.s 43] [44],oV 6 45,oI .sub 45 (.i .i64 1075) 46,oW (.i .i64 2) 2,oV 42 3,oV 44 4,oV 46 5] .ret))))
def dc.d:gS:=D0 1 dc.m [.t 2,.t 3,.t 4,.t 5]
def dc.F (b:UInt64):OT:=dc.d.run dc.E [(.u64 b)]
theorem dc.dZ (b:UInt64) {ρ:OT} (K:∀(v1:UInt64) (h1:v1=(iI b (((52:UInt64)).toNat))) (v2:Int) (h2:v2=(IntKind.i64.wrap (((v1 &&& (2047:UInt64))).toNat:Int))) (v3:UInt64) (h3:v3=(b &&& (4503599627370495:UInt64))) (v4:UInt64) (h4:v4=(iI b (((63:UInt64)).toNat))) (v5:Bool) (h5:v5=(cond (decide (v2=(2047:Int))) (!decide (v3=(0:UInt64))) false)) (v6:Bool) (h6:v6=(cond (decide (v2=(0:Int))) (decide (v3=(0:UInt64))) false)) (v7:UInt64) (h7:v7=((4503599627370496:UInt64) ||| v3)) (v8:Int) (h8:v8=(IntKind.i64.wrap (v2 - (1075:Int)))),ck (!(decide (v2=(2047:Int))) || (decide (v2=(2047:Int)))) (ck (!(decide (v2=(2047:Int))) || (decide (v2=(2047:Int)))) (cond v5
  (some [(.i .i64 4),(.b (decide (v4=(1:UInt64)))),(.u64 0),(.i .i64 0)])
  (cond (decide (v2=(2047:Int)))
  (some [(.i .i64 3),(.b (decide (v4=(1:UInt64)))),(.u64 0),(.i .i64 0)])
  (ck (!(decide (v2=(0:Int))) || (decide (v2=(0:Int)))) (ck (!(decide (v2=(0:Int))) || (decide (v2=(0:Int)))) (cond v6
  (some [(.i .i64 1),(.b (decide (v4=(1:UInt64)))),(.u64 0),(.i .i64 0)])
  (cond (decide (v2=(0:Int)))
  (some [(.i .i64 2),(.b (decide (v4=(1:UInt64)))),(.u64 v3),(.i .i64 (-1074))])
  (some [(.i .i64 2),(.b (decide (v4=(1:UInt64)))),(.u64 v7),(.i .i64 v8)]))))))))=ρ):dc.F b=ρ:=Eq.trans (by kernel_rfl) (K _ rfl _ rfl _ rfl _ rfl _ rfl _ rfl _ rfl _ rfl)
theorem dc.eJ:CK 17 dc.env dc.d:=fE (by kernel_rfl)
def bY.env:EV:=[(42,(dG.c,dG.sg)),(75,(jd.c,jd.sg))]
def bY.E:eD:=cZ nrGl bY.env
def bY.m1:TM:=oS [oV 5 48,oV 7 49,oV 6 50,oK (.k (.ci .u16)) [50] [51],oK (.k (.lP 102 1)) [48,49,(lk 102)] [52],oK (.k (.sL 102 1 1)) [52,(lk 102),51] [lk 102]] (.eZ [oV 6 53,oI .shr 53 (.u64 16) 54,oV 54 6])
def bY.m2:TM:=oS [oB .lss 27 26 28] (.seq (.cond (.s 28) [] .skip (.exit 0)) none (.seq (.block 1 [(5,.cB 102 1),(lk 102,.pv 1)] (oS [oV 27 29,oV 29 7] (oS [oV 6 30,oV 5 31,oV 7 32,oK (.k (.lP 102 1)) [31,32,(lk 102)] [33],oK (.k (.rQ 102 1 1 false)) [33,(lk 102)] [34],oK (.k (.ci .i64)) [34] [35],oB .add 30 35 36,oV 36 6] (.seq (oS [oV 7 37,oV 1 38,oK (.k .len) [38] [39],oB .lss 37 39 40] (.cond (.s 40) [(5,.cB 102 1),(lk 102,.pv 1)] (.eZ [oV 6 41,oV 1 42,oV 7 43,oK (.k (.ix 1)) [42,43] [44],oK (.k (.lr 1 false)) [44] [45],oK (.k (.ci .i64)) [45] [46],oB .add 41 46 47,oV 47 6]) .skip)) (some [1,5,6,7,26,27,lk 102]) bY.m1)))) none (.eZ [oI .add 27 (.i .i64 1) 55,oV 55 27])))
def bY.m3:TM:=oS [oK (.k (.sM 102 1)) [5,(lk 102)] [63,5,lk 102],oV 63 4] .ret
def bY.m4:TM:=oS [oV 0 23,oK (.k (.nK 75 1 102)) [23,(lk 102)] [24,lk 102],oV 24 5] (oS [oW (.i .i64 0) 6] (.seq (oS [oV 5 25,oK (.k (.yE 102)) [25,(lk 102)] [26],oW (.i .i64 0) 27] (.block 0 [(5,.cB 102 1),(lk 102,.pv 1)] (.loop [1,5,6,26,27,lk 102] [(5,.cB 102 1),(lk 102,.pv 1)] bY.m2))) none (.seq (oS [oV 6 56,oI .gtr 56 (.i .i64 0) 57] (.cond (.s 57) [(5,.cB 102 1),(lk 102,.pv 1)] (.sw 104 102 (.eZ [oV 5 58,oV 6 59,oK (.k (.ci .u16)) [59] [60],oK (.bl .ws 1) [60] [61],oK (.k (.BP 102 104 1 2)) [58,61,(lk 102),(lk 104)] [62,lk 102,lk 104],oV 62 5])) .skip)) (some [5,lk 102]) bY.m3)))
def bY.m:TM:=oS [oW (.sl .ws ([]:List UInt16)) 4] (.seq (oS [oV 0 8,oC 42 1 1 [8] 9,oK (.k (.un .not)) [9] [10],oV 10 11,oG 11 false (oV 1 12),oG 11 false (oC 42 1 1 [12] 13),oG 11 false (oK (.k (.un .not)) [13] [14]),oX (.k .pick) [.s 11,.c (.b true),.s 14] [15]] (.cond (.s 15) [] (oS [oW (.sl .ws ([]:List UInt16)) 4] .ret) .skip)) none (.seq (oS [oV 0 16,oK (.k .len) [16] [17],oV 1 18,oK (.k .len) [18] [19],oB .lss 17 19 20] (.cond (.s 20) [] (.eZ [oV 1 21,oV 0 22,oV 21 0,oV 22 1]) .skip)) (some [0,1]) bY.m4))
def bY.d:gS:=D0 2 bY.m [.t 4]
def bY.F (a:List UInt16) (b:List UInt16):OT:=bY.d.run bY.E [(.sl .ws a),(.sl .ws b)]
def bY.k1:dI (List TV):=fG (ev _ bY.E (.seq (oS [oV 6 56,oI .gtr 56 (.i .i64 0) 57] (.cond (.s 57) [(5,.cB 102 1),(lk 102,.pv 1)] (.sw 104 102 (.eZ [oV 5 58,oV 6 59,oK (.k (.ci .u16)) [59] [60],oK (.bl .ws 1) [60] [61],oK (.k (.BP 102 104 1 2)) [58,61,(lk 102),(lk 104)] [62,lk 102,lk 104],oV 62 5])) .skip)) (some [5,lk 102]) bY.m3)) none (fK bY.d)
def bY.k2:dI (List TV):=gn (fQ _ bY.E bY.m2) jU [1,5,6,26,27,lk 102] (cG 0 bY.k1)
def bY.k3:dI (List TV):=fG (ev _ bY.E (.eZ [oI .add 27 (.i .i64 1) 55,oV 55 27])) none bY.k2
def bY.j1 (x0:List UInt16) (x1:List UInt16):OT:=fQ _ bY.E bY.m4 (cS [0,1] [(.sl .ws x0),(.sl .ws x1)]) (fK bY.d)
def bY.l2 (x0:List UInt16) (x1:Int) (x2:Int) (x3:Int) (x4:List UInt16):OT:=eg (fQ _ bY.E bY.m2) jU [1,5,6,26,27,lk 102] (cS [1,5,6,26,27,lk 102] [(.sl .ws x0),.pt,(.i .i64 x1),(.i .i64 x2),(.i .i64 x3),(.sl .ws x4)]) (cG 0 bY.k1)
def bY.j3 (x0:List UInt16) (x1:Int) (x2:Int) (x3:Int) (x4:Int) (x5:List UInt16):OT:=fQ _ bY.E bY.m1 (cS [1,5,6,7,26,27,lk 102] [(.sl .ws x0),.pt,(.i .i64 x1),(.i .i64 x2),(.i .i64 x3),(.i .i64 x4),(.sl .ws x5)]) (cG 1 bY.k3)
def bY.j4 (x0:List UInt16):OT:=fQ _ bY.E bY.m3 (cS [5,lk 102] [.pt,(.sl .ws x0)]) (fK bY.d)
theorem bY.FB (x0:List UInt16) (x1:List UInt16):bY.j1 x0 x1=ck (jo (x0).length 2) (bY.l2 x1 (0:Int) (((x0)).length:Int) (0:Int) (x0)):=((congrFun (congrFun (ie _ _) _) _).trans (by kernel_rfl))
theorem bY.jw (x0:List UInt16) (x1:Int) (x2:Int) (x3:Int) (x4:List UInt16) {ρ:OT} (K:∀(v1:UInt16) (h1:v1=(List.getD x4 ((x3).toNat) (0:UInt16))) (v2:Int) (h2:v2=(IntKind.i64.wrap ((v1).toNat:Int))) (v3:UInt16) (h3:v3=(List.getD x0 (x3).toNat (0:UInt16))) (v4:Int) (h4:v4=(IntKind.i64.wrap ((v3).toNat:Int))) (v5:Int) (h5:v5=(IntKind.i64.wrap ((IntKind.i64.wrap (x1+v2))+v4))) (v6:List UInt16) (h6:v6=([(UInt16.ofInt x1)]:List UInt16)),cond (decide (x3<x2))
  (ck (cq x3 (x4).length) (ck (decide ((x3).toNat<(x4).length)) (cond (decide (x3<((x0).length:Int)))
  (ck (cq x3 (x0).length) (bY.j3 x0 v5 x3 x2 x3 x4))
  (bY.j3 x0 (IntKind.i64.wrap (x1+v2)) x3 x2 x3 x4))))
  (cond (decide ((0:Int)<x1))
  (ck (jo ((x4).length+(v6).length) 2) (bY.j4 (x4++v6)))
  (bY.j4 x4))=ρ):bY.l2 x0 x1 x2 x3 x4=ρ:=((de _ _ _ _ _ _).trans (by kernel_rfl)).trans (K _ rfl _ rfl _ rfl _ rfl _ rfl _ rfl)
theorem bY.FA (x0:List UInt16) (x1:Int) (x2:Int) (x3:Int) (x4:Int) (x5:List UInt16) {ρ:OT} (K:∀(v1:List UInt16) (h1:v1=(List.set x5 ((x2).toNat) (UInt16.ofInt x1))) (v2:Int) (h2:v2=(Int.fdiv x1 (2 ^ (min (((16:UInt64)).toNat) (IntKind.i64.bits))))) (v3:Int) (h3:v3=(IntKind.i64.wrap (x4+(1:Int)))),ck (cq x2 (x5).length) (ck (decide ((x2).toNat<(x5).length)) (bY.l2 x0 v2 x3 v3 v1))=ρ):bY.j3 x0 x1 x2 x3 x4 x5=ρ:=((congrFun (congrFun (ie _ _) _) _).trans (by kernel_rfl)).trans (K _ rfl _ rfl _ rfl)
theorem bY.JJ (x0:List UInt16):bY.j4 x0=some [(.sl .ws x0)]:=((congrFun (congrFun (ie _ _) _) _).trans (by kernel_rfl))
theorem bY.dZ (a:List UInt16) (b:List UInt16) {ρ:OT} (K:∀(v1:Bool) (h1:v1=(cond (!(Nt.is a)) true (!(Nt.is b)))),ck (decide ((a).length≤1099511627776)) (ck (!(!(!(Nt.is a))) || ((!(!(Nt.is a)))&&(decide ((b).length≤1099511627776)))) (ck (!(!(!(Nt.is a))) || (!(!(Nt.is a)))) (ck ((!(Nt.is a)) || (!(!(Nt.is a)))) (cond v1
  (some [(.sl .ws ([]:List UInt16))])
  (cond (decide (((a).length:Int)<((b).length:Int)))
  (bY.j1 b a)
  (bY.j1 a b))))))=ρ):bY.F a b=ρ:=Eq.trans (by kernel_rfl) (K _ rfl)
theorem bY.eJ:CK 49 bY.env bY.d:=fE (by kernel_rfl)
def cm.env:EV:=[(42,(dG.c,dG.sg)),(51,(gM.c,gM.sg)),(76,(dh.c,dh.sg)),(104,(lX.c,lX.sg)),(105,(gV.c,gV.sg)),(106,(lU.c,lU.sg))]
def cm.E:eD:=cZ nrGl cm.env
def cm.m1:TM:=oS [oV 3 35,oV 6 36,oK (.bl .ss 1) [36] [37],oK (.k (.BP 100 102 1 16)) [35,37,(lk 100),(lk 102)] [38,lk 100,lk 102],oV 38 3] (.eZ [oV 4 39,oV 39 0])
def cm.m2:TM := .sw 102 100 (.seq (oS [oV 0 15,oK (.k .len) [15] [16],oI .gtr 16 (.i .i64 0) 17] (.cond (.s 17) [] .skip (.exit 1))) none (.block 2 [(3,.cB 102 1),(lk 102,.pv 1)] (oS [oV 0 19,oX (.k (.call 76 (.plain 2 2))) [.s 19,.c (.u16 10000)] [20],oV 20 18,oE 0 18 21,oE 1 18 22,oV 21 4,oV 22 5] (oS [oV 5 23,oK (.k (.ci .i64)) [23] [24],oC 104 1 1 [24] 25,oV 25 6] (.seq (oS [oV 4 26,oK (.k .len) [26] [27],oI .gtr 27 (.i .i64 0) 28] (.cond (.s 28) [(3,.cB 100 1),(lk 100,.pv 1)] (.eZ [oV 6 29,oK (.k .vT) [29] [30],oX (.k (.bin .sub)) [.c (.i .i64 4),.s 30] [31],oX (.k (.call 51 (.plain 2 1))) [.c (.s ([48]:bT)),.s 31] [32],oV 6 33,oB .add 32 33 34,oV 34 6]) .skip)) (some [3,4,6,lk 100]) cm.m1)))))
def cm.m:TM:=oS [oW (.s []) 2] (.seq (.block 0 [] (oS [oV 0 8,oC 42 1 1 [8] 9,oK (.k (.un .not)) [9] [10],oV 10 7] (.cond (.s 7) [] (oS [oW (.s []) 2] .ret) (oS [oV 0 12,oK (.k .len) [12] [13],oI .eql 13 (.i .i64 0) 14,oV 14 11] (.cond (.s 11) [] (oS [oW (.s ([48]:bT)) 2] .ret) .skip))))) none (oS [oK (.CT .ss 100) [(lk 100)] [3,lk 100]] (.seq (.block 1 [(3,.cB 100 1),(lk 100,.pv 1)] (.loop [0,3,lk 100] [(3,.cB 100 1),(lk 100,.pv 1)] cm.m2)) none (oS [oV 3 40,oK (.k (.nI 105 1 0 100 1)) [40,(lk 100)] [41,lk 100]] (oS [oK (.k (.sM 100 1)) [3,(lk 100)] [42,3,lk 100],oX (.k (.call 106 (.plain 2 1))) [.s 42,.c (.s [])] [43],oV 43 2] .ret)))))
def cm.d:gS:=D0 1 cm.m [.t 2]
def cm.F (a:List UInt16):OT:=cm.d.run cm.E [(.sl .ws a)]
def cm.k1:dI (List TV):=fG (ev _ cm.E (oS [oV 3 40,oK (.k (.nI 105 1 0 100 1)) [40,(lk 100)] [41,lk 100]] (oS [oK (.k (.sM 100 1)) [3,(lk 100)] [42,3,lk 100],oX (.k (.call 106 (.plain 2 1))) [.s 42,.c (.s [])] [43],oV 43 2] .ret))) none (fK cm.d)
def cm.k2:dI (List TV):=gn (fQ _ cm.E cm.m2) jU [0,3,lk 100] (cG 1 cm.k1)
def cm.l1 (x0:List UInt16) (x1:List bT):OT:=eg (fQ _ cm.E cm.m2) jU [0,3,lk 100] (cS [0,3,lk 100] [(.sl .ws x0),.pt,(.sl .ss x1)]) (cG 1 cm.k1)
def cm.j2 (x0:List UInt16) (x1:bT) (x2:List bT):OT:=fQ _ cm.E cm.m1 (cS [3,4,6,lk 100] [.pt,(.sl .ws x0),(.s x1),(.sl .ss x2)]) (cG 2 (MQ 102 100 cm.k2))
theorem cm.dE (x0:List UInt16) (x1:List bT) {ρ:OT} (K:∀(v1:List UInt16) (h1:v1=(Nt.of (Nt.val x0 / (((10000:UInt16))).toNat))) (v2:UInt16) (h2:v2=(UInt16.ofNat (Nt.val x0 % (((10000:UInt16))).toNat))) (v3:Int) (h3:v3=(IntKind.i64.wrap ((v2).toNat:Int))) (v4:Int) (h4:v4=(((Nr.itoa v3)).length:Int)) (v5:Int) (h5:v5=(IntKind.i64.wrap ((4:Int) - v4))) (v6:bT) (h6:v6=((Sh.fF v5)++(Nr.itoa v3))),cond (decide ((0:Int)<((x0).length:Int)))
  (ck (decide ((x0).length≤1000000∧((10000:UInt16))≠0)) (ck (Nr.i64 v3) (cond (decide ((0:Int)<((v1).length:Int)))
  (ck (decide ((([48]:bT))=[48]∧0≤v5∧v5≤100)) (ck (decide (((Sh.fF v5)).length+((Nr.itoa v3)).length≤9223372036854775807)) (cm.j2 v1 v6 x1)))
  (cm.j2 v1 (Nr.itoa v3) x1))))
  (ck ((decide ((x1).length≤100000))&&(!(x1).isEmpty)) (ck (decide ((([]:bT))=[]∧((((x1).reverse))).length≤100000∧((((x1).reverse))).flatten.length≤100000)) (some [(.s (((((x1).reverse))).flatten))])))=ρ):cm.l1 x0 x1=ρ:=((de _ _ _ _ _ _).trans (by kernel_rfl)).trans (K _ rfl _ rfl _ rfl _ rfl _ rfl _ rfl)
theorem cm.ow (x0:List UInt16) (x1:bT) (x2:List bT):cm.j2 x0 x1 x2=ck (jo ((x2).length+(([x1]:List bT)).length) 16) (cm.l1 x0 (x2++([x1]:List bT))):=((congrFun (congrFun (ie _ _) _) _).trans (by kernel_rfl))
theorem cm.jq (a:List UInt16):cm.F a=ck (decide ((a).length≤1099511627776)) (cond (!(Nt.is a))
  (some [(.s [])])
  (cond (decide (((a).length:Int)=(0:Int)))
  (some [(.s ([48]:bT))])
  (cm.l1 a ([]:List bT)))):=by kernel_rfl
theorem cm.eJ:CK 79 cm.env cm.d:=fE (by kernel_rfl)
def dL.env:EV:=[(86,(gx.c,gx.sg))]
def dL.E:eD:=cZ nrGl dL.env
def dL.m:TM:=oS [oW (.s []) 2] (oS [oV 0 3,oX (.k (.call 86 (.plain 2 1))) [.s 3,.c (.i .i64 10)] [4],oV 4 2] .ret)
def dL.d:gS:=D0 1 dL.m [.t 2]
def dL.F (v:Int):OT:=dL.d.run dL.E [(.i .i64 v)]
theorem dL.jq (v:Int):dL.F v=ck (Nr.i64 v&&decide (((10:Int))=10)) (some [(.s (Nr.itoa v))]):=by kernel_rfl
theorem dL.eJ:CK 52 dL.env dL.d:=fE (by kernel_rfl)
def dD.env:EV:=[(33,(cA.c,cA.sg)),(34,(cI.c,cI.sg))]
def dD.E:eD:=cZ nrGl dD.env
def dD.m:TM:=oS [oW (.sl .ws ([]:List UInt16)) 6,oW (.sl .ws ([]:List UInt16)) 7] (.seq (oS [oV 2 12,oI .geq 12 (.i .i64 0) 13] (.cond (.s 13) [] (oS [oV 2 15,oX (.k (.call 33 (.plain 2 2))) [.c (.i .i64 10),.s 15] [16],oV 16 14,oE 0 14 17,oE 1 14 18,oV 17 8,oV 18 9] (oS [oV 0 19,oV 8 20,oC 34 2 1 [19,20] 21,oV 1 22,oV 21 6,oV 22 7] .ret)) .skip)) none (oS [oV 2 24,oK (.k (.un .neg)) [24] [25],oX (.k (.call 33 (.plain 2 2))) [.c (.i .i64 10),.s 25] [26],oV 26 23,oE 0 23 27,oE 1 23 28,oV 27 10,oV 28 11] (oS [oV 0 29,oV 1 30,oV 10 31,oC 34 2 1 [30,31] 32,oV 29 6,oV 32 7] .ret)))
def dD.d:gS:=D0 3 dD.m [.t 6,.t 7]
def dD.F (a:List UInt16) (b:List UInt16) (k:Int):OT:=dD.d.run dD.E [(.sl .ws a),(.sl .ws b),(.i .i64 k)]
theorem dD.dZ (a:List UInt16) (b:List UInt16) (k:Int) {ρ:OT} (K:∀(v1:List UInt16) (h1:v1=(Nt.of ((((10:Int))).toNat ^ (k).toNat))) (v2:List UInt16) (h2:v2=(Nt.of (Nt.val a * Nt.val v1))) (v3:List UInt16) (h3:v3=(Nt.of ((((10:Int))).toNat ^ (((IntKind.i64.wrap (0 - k)))).toNat))) (v4:List UInt16) (h4:v4=(Nt.of (Nt.val b * Nt.val v3))),cond (decide ((0:Int)≤k))
  (ck (decide (2≤((10:Int))∧((10:Int))≤65535∧0≤k∧k≤1000∧(((10:Int))).toNat ^ (k).toNat<2 ^ 4096)) (ck (Nt.is a&&Nt.is v1) (some [(.sl .ws v2),(.sl .ws b)])))
  (ck (decide (2≤((10:Int))∧((10:Int))≤65535∧0≤((IntKind.i64.wrap (0 - k)))∧((IntKind.i64.wrap (0 - k)))≤1000∧(((10:Int))).toNat ^ (((IntKind.i64.wrap (0 - k)))).toNat<2 ^ 4096)) (ck (Nt.is b&&Nt.is v3) (some [(.sl .ws a),(.sl .ws v4)])))=ρ):dD.F a b k=ρ:=Eq.trans (by kernel_rfl) (K _ rfl _ rfl _ rfl _ rfl)
theorem dD.eJ:CK 45 dD.env dD.d:=fE (by kernel_rfl)
def dm.env:EV:=[(45,(dD.c,dD.sg)),(46,(dY.c,dY.sg))]
def dm.E:eD:=cZ nrGl dm.env
def dm.m:TM:=oS [oW (.b false) 6] (oS [oV 0 8,oV 1 9,oV 2 10,oK (.k (.un .neg)) [10] [11],oC 45 3 2 [8,9,11] 12,oV 12 7,oE 0 7 13,oE 1 7 14,oV 13 0,oV 14 1] (oS [oV 0 15,oV 1 16,oC 46 2 1 [15,16] 17,oI .geq 17 (.i .i64 0) 18,oV 18 6] .ret))
def dm.d:gS:=D0 3 dm.m [.t 6]
def dm.F (a:List UInt16) (b:List UInt16) (x:Int):OT:=dm.d.run dm.E [(.sl .ws a),(.sl .ws b),(.i .i64 x)]
theorem dm.dZ (a:List UInt16) (b:List UInt16) (x:Int) {ρ:OT} (K:∀(v1:List UInt16) (h1:v1=(Nt.of (Sh.tA (Nt.val a) ((IntKind.i64.wrap (0 - x)))))) (v2:List UInt16) (h2:v2=(Nt.of (Sh.tB (Nt.val b) ((IntKind.i64.wrap (0 - x)))))) (v3:Int) (h3:v3=(Nt.cmp (Nt.val v1) (Nt.val v2))),ck (Nt.is a&&Nt.is b&&decide (-400≤((IntKind.i64.wrap (0 - x)))∧((IntKind.i64.wrap (0 - x)))≤400∧Nt.val a<2 ^ 1100∧Nt.val b<2 ^ 1100)) (ck (Nt.is v1&&Nt.is v2) (some [(.b (decide ((0:Int)≤v3)))]))=ρ):dm.F a b x=ρ:=Eq.trans (by kernel_rfl) (K _ rfl _ rfl _ rfl)
theorem dm.eJ:CK 21 dm.env dm.d:=fE (by kernel_rfl)
def dj.env:EV:=[(13,(cV.c,cV.sg)),(31,(fy.c,fy.sg)),(79,(cm.c,cm.sg))]
def dj.E:eD:=cZ nrGl dj.env
def dj.m:TM:=oS [oW (.s []) 6,oW (.i .i64 0) 7,oW (.b false) 8] (oS [oV 1 13,oC 79 1 1 [13] 14,oV 14 9] (oS [oV 9 15,oK (.k .vT) [15] [16],oV 2 17,oB .add 16 17 18,oV 18 10] (oS [oV 9 19,oX (.k (.call 31 (.plain 2 1))) [.s 19,.c (.s ([48]:bT))] [20],oV 20 9] (oS [oV 9 22,oV 10 23,oC 13 2 2 [22,23] 24,oV 24 21,oE 0 21 25,oE 1 21 26,oV 25 11,oV 26 12] (.seq (oS [oV 12 27,oK (.k (.un .not)) [27] [28],oV 28 29,oG 29 false (oV 11 30),oG 29 false (oV 0 31),oG 29 false (oB .neq 30 31 32),oX (.k .pick) [.s 29,.c (.b true),.s 32] [33]] (.cond (.s 33) [] (oS [oW (.s []) 6,oW (.i .i64 0) 7,oW (.b false) 8] .ret) .skip)) none (oS [oV 9 34,oV 10 35,oV 34 6,oV 35 7,oW (.b true) 8] .ret))))))
def dj.d:gS:=D0 3 dj.m [.t 6,.t 7,.t 8]
def dj.F (b:UInt64) (a:List UInt16) (p:Int):OT:=dj.d.run dj.E [(.u64 b),(.sl .ws a),(.i .i64 p)]
theorem dj.dZ (b:UInt64) (a:List UInt16) (p:Int) {ρ:OT} (K:∀(v1:Int) (h1:v1=(((Sh.pX (Nt.val a))).length:Int)) (v2:bT) (h2:v2=(Lib.trimRightS ((Sh.pX (Nt.val a))) (([48]:bT)))) (v3:UInt64) (h3:v3=(Nr.pat (Nr.read v2 ((IntKind.i64.wrap (v1+p)))))) (v4:Bool) (h4:v4=((Nr.read v2 ((IntKind.i64.wrap (v1+p)))).isSome)) (v5:Bool) (h5:v5=(cond (!v4) true (!decide (v3=b)))),ck (Nt.is a) (ck (decide ((((Sh.pX (Nt.val a)))).length≤1099511627776∧((([48]:bT))).length≤100)&&((([48]:bT))).all (fun b=>decide (b.toNat<128))) (ck (!(!(!v4)) || ((!(!v4))&&(!(!v4)))) (ck ((!v4) || (!(!v4))) (cond v5
  (some [(.s []),(.i .i64 0),(.b false)])
  (some [(.s v2),(.i .i64 (IntKind.i64.wrap (v1+p))),(.b true)])))))=ρ):dj.F b a p=ρ:=Eq.trans (by kernel_rfl) (K _ rfl _ rfl _ rfl _ rfl _ rfl)
theorem dj.eJ:CK 48 dj.env dj.d:=fE (by kernel_rfl)
def dM.env:EV:=[(18,(dA.c,dA.sg)),(19,(ft.c,ft.sg)),(45,(dD.c,dD.sg)),(46,(dY.c,dY.sg)),(47,(eC.c,eC.sg)),(48,(dj.c,dj.sg)),(49,(bY.c,bY.sg))]
def dM.E:eD:=cZ nrGl dM.env
def dM.m:TM:=oS [oW (.s []) 10,oW (.i .i64 0) 11,oW (.b false) 12] (oS [oV 1 26,oV 2 27,oV 4 28,oV 3 29,oB .sub 28 29 30,oC 45 3 2 [26,27,30] 31,oV 31 25,oE 0 25 32,oE 1 25 33,oV 32 13,oV 33 14] (oS [oV 13 35,oV 14 36,oC 47 2 3 [35,36] 37,oV 37 34,oE 0 34 38,oE 1 34 39,oE 2 34 40,oV 38 15,oV 39 16,oV 40 17] (oS [oV 0 42,oV 15 43,oV 3 44,oV 4 45,oB .sub 44 45 46,oC 48 3 3 [42,43,46] 47,oV 47 41,oE 0 41 48,oE 1 41 49,oE 2 41 50,oV 48 18,oV 49 19,oV 50 20] (oS [oV 0 52,oV 15 53,oX (.k (.call 18 (.plain 1 1))) [.c (.u64 1)] [54],oC 49 2 1 [53,54] 55,oV 3 56,oV 4 57,oB .sub 56 57 58,oC 48 3 3 [52,55,58] 59,oV 59 51,oE 0 51 60,oE 1 51 61,oE 2 51 62,oV 60 21,oV 61 22,oV 62 23] (oS [oV 16 63,oX (.k (.call 19 (.plain 2 1))) [.s 63,.c (.i .i64 1)] [64],oV 14 65,oC 46 2 1 [64,65] 66,oV 66 24] (.seq (oS [oV 20 67,oV 67 68,oG 68 true (oV 23 69),oG 68 true (oK (.k (.un .not)) [69] [70]),oG 68 true (oV 70 71),oG 71 false (oV 24 72),oG 71 false (oI .lss 72 (.i .i64 0) 73),oG 68 true (oX (.k .pick) [.s 71,.c (.b true),.s 73] [74]),oG 68 true (oV 74 75),oG 75 false (oV 24 76),oG 75 false (oI .eql 76 (.i .i64 0) 77),oG 75 false (oV 77 78),oG 78 true (oV 15 79),oG 78 true (oX (.k (.ix 1)) [.s 79,.c (.i .i64 0)] [80]),oG 78 true (oK (.k (.lr 1 false)) [80] [81]),oG 78 true (oI .rem 81 (.u16 2) 82),oG 78 true (oI .eql 82 (.u16 0) 83),oG 75 false (oP 78 83 false 84),oG 68 true (oX (.k .pick) [.s 75,.c (.b true),.s 84] [85]),oP 68 85 false 86] (.cond (.s 86) [] (oS [oV 18 87,oV 19 88,oV 87 10,oV 88 11,oW (.b true) 12] .ret) .skip)) none (oS [oV 21 89,oV 22 90,oV 23 91,oV 89 10,oV 90 11,oV 91 12] .ret)))))))
def dM.d:gS:=D0 5 dM.m [.t 10,.t 11,.t 12]
def dM.F (b:UInt64) (p:List UInt16) (q:List UInt16) (x:Int) (n:Int):OT:=dM.d.run dM.E [(.u64 b),(.sl .ws p),(.sl .ws q),(.i .i64 x),(.i .i64 n)]
theorem dM.dZ (b:UInt64) (p:List UInt16) (q:List UInt16) (x:Int) (n:Int) {ρ:OT} (K:∀(v1:List UInt16) (h1:v1=(Nt.of (Sh.tA (Nt.val p) ((IntKind.i64.wrap (n - x)))))) (v2:List UInt16) (h2:v2=(Nt.of (Sh.tB (Nt.val q) ((IntKind.i64.wrap (n - x)))))) (v3:List UInt16) (h3:v3=(Nt.of (Nt.val v1 / Nt.val v2))) (v4:List UInt16) (h4:v4=(Nt.of (Nt.val v1 % Nt.val v2))) (v5:bT) (h5:v5=(((Sh.iX (b).toNat (Nt.val v3) ((IntKind.i64.wrap (x - n)))).getD ([],0)).1)) (v6:Int) (h6:v6=(((Sh.iX (b).toNat (Nt.val v3) ((IntKind.i64.wrap (x - n)))).getD ([],0)).2)) (v7:Bool) (h7:v7=((Sh.iX (b).toNat (Nt.val v3) ((IntKind.i64.wrap (x - n)))).isSome)) (v8:List UInt16) (h8:v8=(Nt.of (((1:UInt64))).toNat)) (v9:List UInt16) (h9:v9=(Nt.of (Nt.val v3+Nt.val v8))) (v10:bT) (kQ:v10=(((Sh.iX (b).toNat (Nt.val v9) ((IntKind.i64.wrap (x - n)))).getD ([],0)).1)) (v11:Int) (mY:v11=(((Sh.iX (b).toNat (Nt.val v9) ((IntKind.i64.wrap (x - n)))).getD ([],0)).2)) (v12:Bool) (lO:v12=((Sh.iX (b).toNat (Nt.val v9) ((IntKind.i64.wrap (x - n)))).isSome)) (pL:List UInt16) (Ak:pL=(Nt.of (Nt.val v4 * 2 ^ (((1:Int))).toNat))) (mD:Int) (zm:mD=(Nt.cmp (Nt.val pL) (Nt.val v2))) (mE:Bool) (A9:mE=(cond (!v12) true (decide (mD<(0:Int))))) (Ag:Bool) (Mg:Ag=((v7&&(!mE))&&(decide (mD=(0:Int))))) (Hn:UInt16) (Ka:Hn=(List.getD v3 ((0:Int)).toNat (0:UInt16))) (Hm:Bool) (M3:Hm=(cond (decide (mD=(0:Int))) (decide ((Hn % (2:UInt16))=(0:UInt16))) false)) (DS:Bool) (M1:DS=(cond v7 (cond mE true Hm) false)),ck (Nt.is p&&Nt.is q&&decide (-400≤((IntKind.i64.wrap (n - x)))∧((IntKind.i64.wrap (n - x)))≤400∧Nt.val p<2 ^ 1100∧Nt.val q<2 ^ 1100)) (ck (Nt.is v1&&Nt.is v2&&decide (v2≠[])) (ck (Nt.is v3&&decide (-1000≤((IntKind.i64.wrap (x - n)))∧((IntKind.i64.wrap (x - n)))≤1000∧0<Nt.val v3∧Nt.val v3<10 ^ 200)) (ck (Nt.is v3&&Nt.is v8) (ck (Nt.is v9&&decide (-1000≤((IntKind.i64.wrap (x - n)))∧((IntKind.i64.wrap (x - n)))≤1000∧0<Nt.val v9∧Nt.val v9<10 ^ 200)) (ck (decide (0≤((1:Int))∧((1:Int))≤4096)&&Nt.is v4) (ck (Nt.is pL&&Nt.is v2) (ck (!v7 || v7) (ck (!v7 || v7) (ck (!(v7&&(!(!v12))) || (v7&&(!(!v12)))) (ck (!v7 || (v7&&((!v12) || (v7&&(!(!v12)))))) (ck (!v7 || v7) (ck (!(v7&&(!mE)) || (v7&&(!mE))) (ck (!(v7&&(!mE)) || (v7&&(!mE))) (ck (!Ag || (Ag&&(cq (0:Int) (v3).length))) (ck (!Ag || Ag) (ck (!Ag || (Ag&&(!decide ((2:UInt16)=0)))) (ck (!Ag || Ag) (ck (!(v7&&(!mE)) || ((v7&&(!mE))&&(!(decide (mD=(0:Int))) || Ag))) (ck (!v7 || (v7&&(mE || (v7&&(!mE))))) (ck (!v7 || v7) (cond DS
  (some [(.s v5),(.i .i64 v6),(.b true)])
  (some [(.s v10),(.i .i64 v11),(.b v12)]))))))))))))))))))))))=ρ):dM.F b p q x n=ρ:=Eq.trans (by kernel_rfl) (K _ rfl _ rfl _ rfl _ rfl _ rfl _ rfl _ rfl _ rfl _ rfl _ rfl _ rfl _ rfl _ rfl _ rfl _ rfl _ rfl _ rfl _ rfl _ rfl)
theorem dM.eJ:CK 22 dM.env dM.d:=fE (by kernel_rfl)
def bJ.env:EV:=[(17,(dc.c,dc.sg)),(18,(dA.c,dA.sg)),(19,(ft.c,ft.sg)),(20,(dF.c,dF.sg)),(21,(dm.c,dm.sg)),(22,(dM.c,dM.sg))]
def bJ.E:eD:=cZ nrGl bJ.env
def bJ.m1:TM := .seq (oS [oV 9 46,oV 10 47,oV 3 48,oC 21 3 1 [46,47,48] 49] (.cond (.s 49) [] .skip (.exit 0))) none (.block 1 [] (.eZ [oV 3 50,oI .add 50 (.i .i64 1) 51,oV 51 3]))
def bJ.m2:TM := .seq (.block 3 [] (oS [oV 0 55,oV 9 56,oV 10 57,oV 3 58,oV 11 59,oC 22 5 3 [55,56,57,58,59] 60,oV 60 54,oE 0 54 61,oE 1 54 62,oE 2 54 63,oV 61 12,oV 62 13,oV 63 14] (oS [oV 14 64] (.cond (.s 64) [] (oS [oV 12 65,oV 13 66,oV 65 2,oV 66 3,oW (.b true) 4] .ret) .skip)))) none (.eZ [oV 11 52,oI .add 52 (.i .i64 1) 53,oV 53 11])
def bJ.m3:TM:=oS [oV 9 38,oC 20 1 1 [38] 39,oV 10 40,oC 20 1 1 [40] 41,oB .sub 39 41 42,oI .mul 42 (.i .i64 30103) 43,oI .quo 43 (.i .i64 100000) 44,oI .sub 44 (.i .i64 2) 45,oV 45 3] (.seq (.block 0 [] (.loop [0,3,9,10] [] bJ.m1)) none (oS [oW (.i .i64 1) 11] (.block 2 [] (.loop [0,3,9,10,11] [] bJ.m2))))
def bJ.m:TM:=oS [oW (.s []) 2,oW (.i .i64 0) 3,oW (.b false) 4] (oS [oV 0 16,oC 17 1 4 [16] 17,oV 17 15,oE 0 15 18,oE 1 15 19,oE 2 15 20,oE 3 15 21,oV 18 5,oV 19 6,oV 20 7,oV 21 8] (.seq (oS [oV 5 22,oI .neq 22 (.i .i64 2) 23] (.cond (.s 23) [] (oS [oW (.s []) 2,oW (.i .i64 0) 3,oW (.b false) 4] .ret) .skip)) none (oS [oV 0 24,oI .andNot 24 (.u64 9223372036854775808) 25,oV 25 0] (oS [oV 7 26,oC 18 1 1 [26] 27,oX (.k (.call 18 (.plain 1 1))) [.c (.u64 1)] [28],oV 27 9,oV 28 10] (.seq (oS [oV 8 29,oI .geq 29 (.i .i64 0) 30] (.cond (.s 30) [] (.eZ [oV 9 31,oV 8 32,oC 19 2 1 [31,32] 33,oV 33 9]) (.eZ [oV 10 34,oV 8 35,oK (.k (.un .neg)) [35] [36],oC 19 2 1 [34,36] 37,oV 37 10]))) (some [0,9,10]) bJ.m3)))))
def bJ.d:gS:=D0 1 bJ.m [.t 2,.t 3,.t 4]
def bJ.F (b:UInt64):OT:=bJ.d.run bJ.E [(.u64 b)]
def bJ.k1:dI (List TV):=fG (ev _ bJ.E (oS [oW (.i .i64 1) 11] (.block 2 [] (.loop [0,3,9,10,11] [] bJ.m2)))) none (fK bJ.d)
def bJ.j1 (x0:UInt64) (x1:List UInt16) (x2:List UInt16):OT:=fQ _ bJ.E bJ.m3 (cS [0,9,10] [(.u64 x0),(.sl .ws x1),(.sl .ws x2)]) (fK bJ.d)
def bJ.l2 (x0:UInt64) (x1:Int) (x2:List UInt16) (x3:List UInt16):OT:=eg (fQ _ bJ.E bJ.m1) jU [0,3,9,10] (cS [0,3,9,10] [(.u64 x0),(.i .i64 x1),(.sl .ws x2),(.sl .ws x3)]) (cG 0 bJ.k1)
def bJ.l3 (x0:UInt64) (x1:Int) (x2:List UInt16) (x3:List UInt16) (x4:Int):OT:=eg (fQ _ bJ.E bJ.m2) jU [0,3,9,10,11] (cS [0,3,9,10,11] [(.u64 x0),(.i .i64 x1),(.sl .ws x2),(.sl .ws x3),(.i .i64 x4)]) (cG 2 (fK bJ.d))
theorem bJ.kF (x0:UInt64) (x1:List UInt16) (x2:List UInt16) {ρ:OT} (K:∀(v1:Int) (h1:v1=((Nt.bits (Nt.val x1):Int))) (v2:Int) (h2:v2=((Nt.bits (Nt.val x2):Int))) (v3:Int) (h3:v3=(IntKind.i64.wrap ((IntKind.i64.wrap (v1 - v2)) * (30103:Int)))) (v4:Int) (h4:v4=(IntKind.i64.wrap (Int.tdiv v3 (100000:Int)))) (v5:Int) (h5:v5=(IntKind.i64.wrap (v4 - (2:Int)))),ck (Nt.is x1) (ck (Nt.is x2) (ck (!decide ((100000:Int)=0)) (bJ.l2 x0 v5 x1 x2)))=ρ):bJ.j1 x0 x1 x2=ρ:=((congrFun (congrFun (ie _ _) _) _).trans (by kernel_rfl)).trans (K _ rfl _ rfl _ rfl _ rfl _ rfl)
theorem bJ.jw (x0:UInt64) (x1:Int) (x2:List UInt16) (x3:List UInt16) {ρ:OT} (K:∀(v1:Int) (h1:v1=(IntKind.i64.wrap (x1+(1:Int)))),ck (Nt.is x2&&Nt.is x3&&decide (-400≤x1∧x1≤400∧Nt.val x2<2 ^ 1100∧Nt.val x3<2 ^ 1100)) (cond (decide (Sh.tB (Nt.val x3) (-x1)≤Sh.tA (Nt.val x2) (-x1)))
  (bJ.l2 x0 v1 x2 x3)
  (bJ.l3 x0 x1 x2 x3 (1:Int)))=ρ):bJ.l2 x0 x1 x2 x3=ρ:=((de _ _ _ _ _ _).trans (by kernel_rfl)).trans (K _ rfl)
theorem bJ.ov (x0:UInt64) (x1:Int) (x2:List UInt16) (x3:List UInt16) (x4:Int) {ρ:OT} (K:∀(v1:bT) (h1:v1=(((Sh.mJ (x0).toNat (Nt.val x2) (Nt.val x3) x1 x4).getD ([],0)).1)) (v2:Int) (h2:v2=(((Sh.mJ (x0).toNat (Nt.val x2) (Nt.val x3) x1 x4).getD ([],0)).2)) (v3:Bool) (h3:v3=((Sh.mJ (x0).toNat (Nt.val x2) (Nt.val x3) x1 x4).isSome)) (v4:Int) (h4:v4=(IntKind.i64.wrap (x4+(1:Int)))),ck (Nt.is x2&&Nt.is x3&&Sh.ng (Nt.val x2) (Nt.val x3) x1 x4) (cond v3
  (some [(.s v1),(.i .i64 v2),(.b true)])
  (bJ.l3 x0 x1 x2 x3 v4))=ρ):bJ.l3 x0 x1 x2 x3 x4=ρ:=((de _ _ _ _ _ _).trans (by kernel_rfl)).trans (K _ rfl _ rfl _ rfl _ rfl)
theorem bJ.dZ (b:UInt64) {ρ:OT} (K:∀(v1:UInt64) (h1:v1=(b &&& ~~~(9223372036854775808:UInt64))) (v2:List UInt16) (h2:v2=(Nt.of ((((Nr.split b).2.2.1))).toNat)) (v3:List UInt16) (h3:v3=(Nt.of (((1:UInt64))).toNat)) (v4:List UInt16) (h4:v4=(Nt.of (Nt.val v2 * 2 ^ ((((Nr.split b).2.2.2))).toNat))) (v5:Int) (h5:v5=(IntKind.i64.wrap (0 - ((Nr.split b).2.2.2)))) (v6:List UInt16) (h6:v6=(Nt.of (Nt.val v3 * 2 ^ (v5).toNat))),cond (!decide (((Nr.split b).1)=(2:Int)))
  (some [(.s []),(.i .i64 0),(.b false)])
  (cond (decide ((0:Int)≤((Nr.split b).2.2.2)))
  (ck (decide (0≤(((Nr.split b).2.2.2))∧(((Nr.split b).2.2.2))≤4096)&&Nt.is v2) (bJ.j1 v1 v4 v3))
  (ck (decide (0≤v5∧v5≤4096)&&Nt.is v3) (bJ.j1 v1 v2 v6)))=ρ):bJ.F b=ρ:=Eq.trans (by kernel_rfl) (K _ rfl _ rfl _ rfl _ rfl _ rfl _ rfl)
theorem bJ.eJ:CK 9 bJ.env bJ.d:=fE (by kernel_rfl)
def cU.env:EV:=[(51,(gM.c,gM.sg)),(52,(dL.c,dL.sg))]
def cU.E:eD:=cZ nrGl cU.env
def cU.m1:TM := .seq (oS [oV 1 64,oI .lss 64 (.i .i64 1) 65] (.cond (.s 65) [] (oS [oV 6 66,oI .add 66 (.s ([101,45]:bT)) 67,oV 1 68,oX (.k (.bin .sub)) [.c (.i .i64 1),.s 68] [69],oC 52 1 1 [69] 70,oB .add 67 70 71,oV 71 4] .ret) .skip)) none (oS [oV 6 72,oI .add 72 (.s ([101,43]:bT)) 73,oV 1 74,oI .sub 74 (.i .i64 1) 75,oC 52 1 1 [75] 76,oB .add 73 76 77,oV 77 4] .ret)
def cU.m:TM:=oS [oW (.s []) 4] (oS [oV 0 7,oK (.k .vT) [7] [8],oV 8 5] (.seq (.block 0 [] (oS [oV 1 10,oI .geq 10 (.i .i64 1) 11,oV 11 12,oG 12 true (oV 1 13),oG 12 true (oI .leq 13 (.i .i64 21) 14),oP 12 14 false 15,oV 15 16,oG 16 true (oV 5 17),oG 16 true (oV 1 18),oG 16 true (oB .leq 17 18 19),oP 16 19 false 20,oV 20 9] (.cond (.s 9) [] (oS [oV 0 21,oV 1 22,oV 5 23,oB .sub 22 23 24,oX (.k (.call 51 (.plain 2 1))) [.c (.s ([48]:bT)),.s 24] [25],oB .add 21 25 26,oV 26 4] .ret) (oS [oV 1 28,oI .geq 28 (.i .i64 1) 29,oV 29 30,oG 30 true (oV 1 31),oG 30 true (oI .leq 31 (.i .i64 21) 32),oP 30 32 false 33,oV 33 27] (.cond (.s 27) [] (oS [oV 0 34,oV 1 35,oK (.k (.ss false true)) [34,35] [36],oI .add 36 (.s ([46]:bT)) 37,oV 0 38,oV 1 39,oK (.k (.ss true false)) [38,39] [40],oB .add 37 40 41,oV 41 4] .ret) (oS [oV 1 43,oI .geq 43 (.i .i64 (-5)) 44,oV 44 45,oG 45 true (oV 1 46),oG 45 true (oI .leq 46 (.i .i64 0) 47),oP 45 47 false 48,oV 48 42] (.cond (.s 42) [] (oS [oV 1 49,oK (.k (.un .neg)) [49] [50],oX (.k (.call 51 (.plain 2 1))) [.c (.s ([48]:bT)),.s 50] [51],oX (.k (.bin .add)) [.c (.s ([48,46]:bT)),.s 51] [52],oV 0 53,oB .add 52 53 54,oV 54 4] .ret) .skip))))))) none (oS [oV 0 55,oX (.k (.ss false true)) [.s 55,.c (.i .i64 1)] [56],oV 56 6] (.seq (oS [oV 5 57,oI .gtr 57 (.i .i64 1) 58] (.cond (.s 58) [] (.eZ [oV 6 59,oV 0 60,oX (.k (.ss true false)) [.s 60,.c (.i .i64 1)] [61],oX (.k (.bin .add)) [.c (.s ([46]:bT)),.s 61] [62],oB .add 59 62 63,oV 63 6]) .skip)) (some [1,6]) cU.m1))))
def cU.d:gS:=D0 2 cU.m [.t 4]
def cU.F (d:bT) (x:Int):OT:=cU.d.run cU.E [(.s d),(.i .i64 x)]
def cU.j1 (x0:Int) (x1:bT):OT:=fQ _ cU.E cU.m1 (cS [1,6] [(.i .i64 x0),(.s x1)]) (fK cU.d)
theorem cU.kF (x0:Int) (x1:bT) {ρ:OT} (K:∀(v1:Int) (h1:v1=(IntKind.i64.wrap ((1:Int) - x0))) (v2:bT) (h2:v2=((x1++([101,45]:bT))++(Nr.itoa v1))) (v3:Int) (h3:v3=(IntKind.i64.wrap (x0 - (1:Int)))) (v4:bT) (h4:v4=((x1++([101,43]:bT))++(Nr.itoa v3))),cond (decide (x0<(1:Int)))
  (ck (decide ((x1).length+(([101,45]:bT)).length≤9223372036854775807)) (ck (Nr.i64 v1) (ck (decide (((x1++([101,45]:bT))).length+((Nr.itoa v1)).length≤9223372036854775807)) (some [(.s v2)]))))
  (ck (decide ((x1).length+(([101,43]:bT)).length≤9223372036854775807)) (ck (Nr.i64 v3) (ck (decide (((x1++([101,43]:bT))).length+((Nr.itoa v3)).length≤9223372036854775807)) (some [(.s v4)]))))=ρ):cU.j1 x0 x1=ρ:=((congrFun (congrFun (ie _ _) _) _).trans (by kernel_rfl)).trans (K _ rfl _ rfl _ rfl _ rfl)
theorem cU.dZ (d:bT) (x:Int) {ρ:OT} (K:∀(v1:Bool) (h1:v1=(cond (decide ((1:Int)≤x)) (decide (x≤(21:Int))) false)) (v2:Bool) (h2:v2=(cond v1 (decide (((d).length:Int)≤x)) false)) (v3:Int) (h3:v3=(IntKind.i64.wrap (x - ((d).length:Int)))) (v4:bT) (h4:v4=((List.take (x).toNat d)++([46]:bT))) (v5:bT) (h5:v5=(v4++(List.drop (x).toNat d))) (v6:Bool) (h6:v6=(cond (decide ((-5:Int)≤x)) (decide (x≤(0:Int))) false)) (v7:bT) (h7:v7=(Sh.fF ((IntKind.i64.wrap (0 - x))))) (v8:bT) (h8:v8=((([48,46]:bT)++v7)++d)) (v9:bT) (h9:v9=(List.take ((1:Int)).toNat d)) (v10:bT) (kQ:v10=(List.drop ((1:Int)).toNat d)) (v11:bT) (mY:v11=(v9++(([46]:bT)++v10))),ck (!(decide ((1:Int)≤x)) || (decide ((1:Int)≤x))) (ck (!(decide ((1:Int)≤x)) || (decide ((1:Int)≤x))) (ck (!v1 || (v1&&v1)) (ck (!v1 || v1) (cond v2
  (ck (decide ((([48]:bT))=[48]∧0≤v3∧v3≤100)) (ck (decide ((d).length+((Sh.fF v3)).length≤9223372036854775807)) (some [(.s (d++(Sh.fF v3)))])))
  (ck (!(decide ((1:Int)≤x)) || (decide ((1:Int)≤x))) (ck (!(decide ((1:Int)≤x)) || (decide ((1:Int)≤x))) (cond v1
  (ck (gN 0 x (d).length) (ck (decide (((List.take (x).toNat d)).length+(([46]:bT)).length≤9223372036854775807)) (ck (gN x (d).length (d).length) (ck (decide ((v4).length+((List.drop (x).toNat d)).length≤9223372036854775807)) (some [(.s v5)])))))
  (ck (!(decide ((-5:Int)≤x)) || (decide ((-5:Int)≤x))) (ck (!(decide ((-5:Int)≤x)) || (decide ((-5:Int)≤x))) (cond v6
  (ck (decide ((([48]:bT))=[48]∧0≤((IntKind.i64.wrap (0 - x)))∧((IntKind.i64.wrap (0 - x)))≤100)) (ck (decide ((([48,46]:bT)).length+(v7).length≤9223372036854775807)) (ck (decide (((([48,46]:bT)++v7)).length+(d).length≤9223372036854775807)) (some [(.s v8)]))))
  (ck (gN 0 (1:Int) (d).length) (cond (decide ((1:Int)<((d).length:Int)))
  (ck (gN (1:Int) (d).length (d).length) (ck (decide ((([46]:bT)).length+(v10).length≤9223372036854775807)) (ck (decide ((v9).length+((([46]:bT)++v10)).length≤9223372036854775807)) (cU.j1 x v11))))
  (cU.j1 x v9)))))))))))))=ρ):cU.F d x=ρ:=Eq.trans (by kernel_rfl) (K _ rfl _ rfl _ rfl _ rfl _ rfl _ rfl _ rfl _ rfl _ rfl _ rfl _ rfl)
theorem cU.eJ:CK 27 cU.env cU.d:=fE (by kernel_rfl)
def cR.env:EV:=[(9,(bJ.c,bJ.sg)),(17,(dc.c,dc.sg)),(27,(cU.c,cU.sg))]
def cR.E:eD:=cZ nrGl cR.env
def cR.m1:TM := .seq (oS [oV 4 34] (.cond (.s 34) [] (oS [oV 7 35,oX (.k (.bin .add)) [.c (.s ([45]:bT)),.s 35] [36],oV 36 2] .ret) .skip)) none (oS [oV 7 37,oV 37 2] .ret)
def cR.m:TM:=oS [oW (.s []) 2] (oS [oV 0 12,oC 17 1 4 [12] 13,oV 13 11,oE 0 11 14,oE 1 11 15,oE 2 11 16,oE 3 11 17,oV 14 3,oV 15 4,oV 16 5,oV 17 6] (oS [oW (.s []) 7] (.seq (oS [oV 3 18] (.block 0 [] (oS [oI .eql 18 (.i .i64 4) 29,oV 29 28] (.cond (.s 28) [] (oS [oW (.s ([78,97,78]:bT)) 2] .ret) (oS [oI .eql 18 (.i .i64 3) 31,oV 31 30] (.cond (.s 30) [] (.eZ [oW (.s ([73,110,102,105,110,105,116,121]:bT)) 7]) (oS [oI .eql 18 (.i .i64 1) 33,oV 33 32] (.cond (.s 32) [] (.eZ [oW (.s ([48]:bT)) 7]) (oS [oV 0 20,oC 9 1 3 [20] 21,oV 21 19,oE 0 19 22,oE 1 19 23,oE 2 19 24,oV 22 8,oV 23 9,oV 24 10] (.eZ [oV 8 25,oV 9 26,oC 27 2 1 [25,26] 27,oV 27 7])))))))))) (some [4,7]) cR.m1)))
def cR.d:gS:=D0 1 cR.m [.t 2]
def cR.F (b:UInt64):OT:=cR.d.run cR.E [(.u64 b)]
def cR.j1 (x0:Bool) (x1:bT):OT:=fQ _ cR.E cR.m1 (cS [4,7] [(.b x0),(.s x1)]) (fK cR.d)
theorem cR.FB (x0:Bool) (x1:bT):cR.j1 x0 x1=cond x0
  (ck (decide ((([45]:bT)).length+(x1).length≤9223372036854775807)) (some [(.s (([45]:bT)++x1))]))
  (some [(.s x1)]):=((congrFun (congrFun (ie _ _) _) _).trans (by kernel_rfl))
theorem cR.dZ (b:UInt64) {ρ:OT} (K:∀(v1:bT) (h1:v1=(Sh.yY (((Sh.dg b).1)) (((Sh.dg b).2.1)))),cond (decide (((Nr.split b).1)=(4:Int)))
  (some [(.s ([78,97,78]:bT))])
  (cond (decide (((Nr.split b).1)=(3:Int)))
  (cR.j1 ((Nr.split b).2.1) ([73,110,102,105,110,105,116,121]:bT))
  (cond (decide (((Nr.split b).1)=(1:Int)))
  (cR.j1 ((Nr.split b).2.1) ([48]:bT))
  (ck (decide (1≤((((Sh.dg b).1))).length∧((((Sh.dg b).1))).length≤17∧-900≤(((Sh.dg b).2.1))∧(((Sh.dg b).2.1))≤900)) (cR.j1 ((Nr.split b).2.1) v1))))=ρ):cR.F b=ρ:=Eq.trans (by kernel_rfl) (K _ rfl)
theorem cR.eJ:CK 11 cR.env cR.d:=fE (by kernel_rfl)
end
end Go.Eng
namespace Go.Eng
open Go.IntWalk
namespace Nr
theorem Z1:run []=0:=rfl
theorem Z3 (c:UInt8) (r:bT):run (c :: r)=if eo c then run r+1 else 0:=by
 unfold run
 rw [List.takeWhile_cons]
 split <;> rfl
theorem ZI (s:bT):run s≤s.length:=(List.takeWhile_sublist _).length_le
theorem ZX (c:UInt8):eo c=cond (decide ((48:UInt8)≤c)) (decide (c≤(57:UInt8))) false:=by
 unfold eo
 rw [Bool.decide_and]
 cases decide ((48:UInt8)≤c) <;> rfl
end Nr
theorem nA.goal (s:bT) (at_:Int) (c d:UInt8) (hp:(decide (s.length≤1099511627776)&&decide (0≤at_))=true):nA.F s at_ c d=some [.b (decide (at_<s.length)&&(decide (s.getD at_.toNat 0=c) || decide (s.getD at_.toNat 0=d)))]:=by
 simp only [aa,ay] at hp
 refine nA.dZ _ _ _ _ ?_
 intro v1 h1 v2 h2 v3 h3 v4 h4
 by_cases c0:at_<s.length
 ·have ht:decide (at_<(s.length:Int))=true:=ae c0
  have hi:cq at_ s.length=true:=cN hp.2 c0
  rw [ht] at h2 h4
  have e4:v4=(true&&(decide (s.getD at_.toNat 0=c) || decide (s.getD at_.toNat 0=d))):=by
   rw [h4,h3,aF,←h1];cases decide (v1=c) <;> rfl
  rw [ht,hi,h2,e4,←h1]
  cases decide (v1=c) <;> rfl
 ·have ht:decide (at_<(s.length:Int))=false:=af c0
  rw [ht] at h2 h4
  have e2:v2=false:=h2
  have e4:v4=false:=h4
  rw [ht,e2,e4];rfl
theorem k9.fo (s:bT) (hs:s.length≤1099511627776):∀(m i:Nat),s.length≤i+m→i≤1099511627776→k9.l1 s i=some [.i .i64 (i+(Nr.run (s.drop i):Int))]:=by
 intro m
 induction m with
 | zero =>
  intro i hi _
  refine k9.dE _ _ ?_
  intro v1 h1 v2 h2 v3 h3 v4 h4
  have ht:decide ((i:Int)<(s.length:Int))=false:=af (by omega)
  rw [ht] at h2
  have e2:v2=false:=h2
  have e3:v3=false:=by rw [h3,e2];rfl
  rw [ht,e2,e3,bc (by omega),Nr.Z1]
  simp [ck]
 | succ m ih =>
  intro i hi hb
  refine k9.dE _ _ ?_
  intro v1 h1 v2 h2 v3 h3 v4 h4
  by_cases c:i<s.length
  ·have ht:decide ((i:Int)<(s.length:Int))=true:=ae (by omega)
   have hx:cq (i:Int) s.length=true:=cN (by omega) (by omega)
   rw [ht,aF] at h2
   rw [aw] at h1
   have e3:v3=Nr.eo v1:=by rw [h3,h2,Nr.ZX]
   have e4:v4=((i+1:Nat):Int):=by rw [h4,i64_in _ (by omega)];omega
   have hc:∀b:Bool,(!b || (b&&true))=true:=by decide
   rw [ht,hx,drop_cons c 0,Nr.Z3,←h1,e3]
   simp only [bz,bB,bw,a8,Bool.false_or,hc,da]
   cases hd:Nr.eo v1
   ·rw [ax,aD (by decide)];simp [ck]
   ·rw [aF,aH rfl,e4,ih (i+1) (by omega) (by omega)]
    rw [show ((i+1:Nat):Int)+(Nr.run (s.drop (i+1)):Int)=(i:Int)+((Nr.run (s.drop (i+1))+1:Nat):Int) by omega]
  ·have ht:decide ((i:Int)<(s.length:Int))=false:=af (by omega)
   rw [ht] at h2
   have e2:v2=false:=h2
   have e3:v3=false:=by rw [h3,e2];rfl
   rw [ht,e2,e3,bc (by omega),Nr.Z1]
   simp [ck]
theorem k9.goal (s:bT) (at_:Int) (hp:(decide (s.length≤1099511627776)&&decide (0≤at_∧at_≤1099511627776))=true):k9.F s at_=some [.i .i64 (at_+(Nr.run (s.drop at_.toNat):Int))]:=by
 simp only [aa,ay] at hp
 obtain ⟨i,rfl⟩:=Int.eq_ofNat_of_zero_le hp.2.1
 rw [k9.jq]
 exact k9.fo s hp.1 s.length i (by omega) (by omega)
theorem l7.fo (s:bT) (hs:s.length≤1099511627776):∀(m i:Nat),s.length=i+m→l7.l1 s i=some [.i .i64 (i+(Nr.run (s.drop i):Int))]:=by
 intro m
 induction m with
 | zero =>
  intro i hi
  refine l7.dE _ _ ?_
  intro v1 h1 v2 h2 v3 h3 v4 h4
  have ht:decide ((i:Int)<(s.length:Int))=false:=af (by omega)
  rw [ht] at h2
  have e2:v2=false:=h2
  have e3:v3=false:=by rw [h3,e2];rfl
  rw [ht,e2,e3,bc (by omega),Nr.Z1]
  simp [ck]
 | succ m ih =>
  intro i hi
  refine l7.dE _ _ ?_
  intro v1 h1 v2 h2 v3 h3 v4 h4
  have c:i<s.length:=by omega
  have ht:decide ((i:Int)<(s.length:Int))=true:=ae (by omega)
  have hx:cq (i:Int) s.length=true:=cN (by omega) (by omega)
  rw [ht,aF] at h2
  rw [aw] at h1
  have e3:v3=Nr.eo v1:=by rw [h3,h2,Nr.ZX]
  have e4:v4=((i+1:Nat):Int):=by rw [h4,i64_in _ (by omega)];omega
  have hc:∀b:Bool,(!b || (b&&true))=true:=by decide
  rw [ht,hx,drop_cons c 0,Nr.Z3,←h1,e3]
  simp only [bz,bB,bw,a8,Bool.false_or,hc,da]
  cases hd:Nr.eo v1
  ·rw [ax,aD (by decide)];simp [ck]
  ·rw [aF,aH rfl,e4,ih (i+1) (by omega)]
   rw [show ((i+1:Nat):Int)+(Nr.run (s.drop (i+1)):Int)=(i:Int)+((Nr.run (s.drop (i+1))+1:Nat):Int) by omega]
theorem l7.goal (s:bT) (hp:decide (s.length≤1099511627776)=true):l7.F s=some [.i .i64 (Nr.run s)]:=by
 rw [l7.jq]
 have:=l7.fo s (aN hp) s.length 0 (by omega)
 rw [aS] at this
 simpa using this
theorem kk.ZW (s:bT) (i:Nat) (k:Int) (hi:i≤s.length):kk.j4 s i k=some [.i .i64 (if s.drop i=[] then k else 0)]:=by
 rw [kk.JJ]
 by_cases c:i=s.length
 ·rw [ae (by omega),aH (by rw [bc (by omega)])];rfl
 ·rw [af (by omega),aD (by intro e;have:=congrArg List.length e;simp at this;omega)];rfl
theorem rH (t:bT) (n:Nat):t.drop n=[] ↔ t.length≤n:=by
 rw [←List.length_eq_zero_iff,bm];omega
theorem kk.JK (s:bT) (hs:s.length≤1099511627776) (i:Nat) (hi:i≤s.length):kk.j3 s i 2=some [.i .i64 (if Nr.run (s.drop i)=0∨Nr.run (s.drop i)<(s.drop i).length then 0 else 2)]:=by
 refine kk.FA _ _ _ ?_
 intro v1 h1
 rw [aw] at h1
 have hr:=Nr.ZI (s.drop i)
 rw [ae hs,ae (show (0:Int)≤i∧(i:Int)≤1099511627776 by omega)]
 refine (bD rfl).trans ?_
 by_cases c:Nr.run (s.drop i)=0
 ·rw [ae (by omega),aF,aH (.inl c)]
 ·rw [bm] at hr
  have e1:v1=((i+Nr.run (s.drop i):Nat):Int):=by omega
  rw [af (by omega),ax,e1,kk.ZW s _ _ (by omega),←List.drop_drop]
  by_cases c2:Nr.run (s.drop i)<(s.drop i).length
  ·rw [aD (by rw [rH];omega),aH (.inr c2)]
  ·rw [aH (by rw [rH];omega),aD (by omega)]
theorem Nr.wc (c:UInt8) (r:bT) (k:Int):Nr.AX (c :: r) k=if c=101∨c=69 then (if Nr.run (Nr.signed r)=0∨Nr.run (Nr.signed r)<(Nr.signed r).length then 0 else 2) else 0:=by
 cases r <;> rfl
theorem Nr.sI (c:UInt8) (r:bT):Nr.signed (c :: r)=if c=43∨c=45 then r else c :: r:=rfl
theorem dor (a b:Prop) [Decidable a] [Decidable b]:(decide a || decide b)=decide (a∨b):=(Bool.decide_or a b).symm
theorem kk.JL (s:bT) (hs:s.length≤1099511627776) (i:Nat) (hi:i≤s.length) (k:Int):kk.j2 s i k=some [.i .i64 (Nr.AX (s.drop i) k)]:=by
 refine kk.vV _ _ _ ?_
 intro v1 h1 v2 h2 v3 h3 v4 h4
 have e2:v2=((i+1:Nat):Int):=by rw [h2,i64_in _ (by omega)];omega
 have e4:v4=((i+1+1:Nat):Int):=by rw [h4,e2,i64_in _ (by omega)];omega
 rw [ae hs,ae (show (0:Int)≤i by omega)]
 refine (bD rfl).trans ?_
 rw [dor,aw] at h1
 by_cases c:i<s.length
 ·rw [ae (show (i:Int)<s.length by omega),Bool.true_and] at h1
  rw [drop_cons c 0,Nr.wc]
  by_cases c1:s.getD i 0=101∨s.getD i 0=69
  ·have e1:v1=true:=by rw [h1];exact ae c1
   rw [e1,aF,aH c1,e2,ae (show (0:Int)≤((i+1:Nat):Int) by omega)]
   refine (bD rfl).trans ?_
   rw [dor,e2,aw] at h3
   by_cases c2:i+1<s.length
   ·rw [ae (show ((i+1:Nat):Int)<s.length by omega),Bool.true_and] at h3
    rw [drop_cons c2 0,Nr.sI]
    by_cases c3:s.getD (i+1) 0=43∨s.getD (i+1) 0=45
    ·have e3:v3=true:=by rw [h3];exact ae c3
     rw [e3,aF,e4,aH c3]
     exact kk.JK s hs (i+1+1) (by omega)
    ·have e3:v3=false:=by rw [h3];exact af c3
     rw [e3,ax,aD c3,kk.JK s hs (i+1) (by omega),drop_cons c2 0]
   ·rw [af (show ¬((i+1:Nat):Int)<s.length by omega),Bool.false_and] at h3
    rw [h3,ax,kk.JK s hs (i+1) (by omega),bc (i:=i+1) (by omega)];rfl
  ·have e1:v1=false:=by rw [h1];exact af c1
   rw [e1,ax,aD c1,kk.ZW s i k hi,aD (by rw [rH];omega)]
 ·rw [af (show ¬(i:Int)<s.length by omega),Bool.false_and] at h1
  rw [h1,ax,kk.ZW s i k hi,bc (by omega),aH rfl];rfl
theorem Nr.wa (r:bT):Nr.B5 (46 :: r)=if Nr.run r=0 then 0 else Nr.AX (r.drop (Nr.run r)) 2:=rfl
theorem Nr.rL {t:bT} (h:¬(0<t.length∧t.getD 0 0=46)):Nr.B5 t=Nr.AX t 1:=by
 unfold Nr.B5
 split
 ·exact (h ⟨by simp,rfl⟩).elim
 ·rfl
theorem kk.gG (s:bT) (hs:s.length≤1099511627776) (i:Nat) (hi:i≤s.length):kk.j1 s i 1=some [.i .i64 (if Nr.run (s.drop i)=0∨((s.drop i).getD 0 0=48∧1<Nr.run (s.drop i)) then 0 else Nr.B5 ((s.drop i).drop (Nr.run (s.drop i))))]:=by
 refine kk.kF _ _ _ ?_
 intro v1 h1 v2 h2 v3 h3 v4 h4 v5 h5 v6 h6 v7 h7 v8 h8 v9 h9
 rw [aw] at h1 h2
 have hr:=Nr.ZI (s.drop i)
 rw [bm] at hr
 have e1:v1=((i+Nr.run (s.drop i):Nat):Int):=by omega
 have e4:v4=((i+1:Nat):Int):=by rw [h4,i64_in _ (by omega)];omega
 rw [ae hs,ae (show (0:Int)≤i∧(i:Int)≤1099511627776 by omega)]
 refine (bD rfl).trans ?_
 by_cases c0:Nr.run (s.drop i)=0
 ·have hd:decide (v1=(i:Int))=true:=ae (by omega)
  rw [hd] at h3 h6
  have e3:v3=false:=h3
  have e6:v6=true:=h6
  rw [hd,e3,e6,aH (.inl c0)];rfl
 ·have hd:decide (v1=(i:Int))=false:=af (by omega)
  have hx:cq (i:Int) s.length=true:=cN (by omega) (by omega)
  rw [hd] at h3 h6
  rw [ax] at h6
  have g2:(s.drop i).getD 0 0=v2:=by rw [drop_cons (show i<s.length by omega) 0,h2];rfl
  have e5:v5=decide (v2=48∧1<Nr.run (s.drop i)):=by
   rw [h5,Bool.decide_and]
   have:decide (v4<v1)=decide (1<Nr.run (s.drop i)):=by
    rw [e4,e1]
    by_cases c:1<Nr.run (s.drop i)
    ·rw [ae c,ae (by omega)]
    ·rw [af c,af (by omega)]
   rw [this]
   cases decide (v2=48) <;> rfl
  rw [hd,hx,h6,g2,h3,bD (by rfl),bD (by rfl),bD (by rfl),bD (by cases decide (v2=48) <;> rfl),bD (by cases decide (v2=48) <;> rfl),bD (by cases decide (v2=48) <;> rfl),bD (by rfl)]
  by_cases c1:v2=48∧1<Nr.run (s.drop i)
  ·rw [e5,ae c1,aF,aH (.inr c1)]
  ·rw [e5,af c1,ax,aD (by simp [c0,c1]),List.drop_drop,e1,ae (show (0:Int)≤((i+Nr.run (s.drop i):Nat):Int) by omega)]
   refine (bD rfl).trans ?_
   generalize hj:i+Nr.run (s.drop i)=j at *
   have e8:v8=((j+1:Nat):Int):=by rw [h8,e1,i64_in _ (by omega)];omega
   rw [Bool.or_self,e1,aw] at h7
   rw [e8,aw] at h9
   by_cases c2:j<s.length∧s.getD j 0=46
   ·have e7:v7=true:=by rw [h7,ae (show (j:Int)<s.length by omega),ae c2.2];rfl
    rw [e7,aF,e8,ae (show (0:Int)≤((j+1:Nat):Int)∧((j+1:Nat):Int)≤1099511627776 by omega)]
    refine (bD rfl).trans ?_
    rw [drop_cons c2.1 0,c2.2,Nr.wa]
    have LU:=Nr.ZI (s.drop (j+1))
    rw [bm] at LU
    by_cases c3:Nr.run (s.drop (j+1))=0
    ·rw [ae (by omega),aF,aH c3]
    ·have e9:v9=((j+1+Nr.run (s.drop (j+1)):Nat):Int):=by omega
     rw [af (by omega),ax,aD c3,e9,kk.JL s hs _ (by omega),List.drop_drop]
   ·have e7:v7=false:=by
     rw [h7,←Bool.decide_and];exact af (fun h=>c2 ⟨by omega,h.2⟩)
    rw [e7,ax,kk.JL s hs _ (by omega),Nr.rL (t:=s.drop j)]
    intro h
    rw [bm,ak,List.getElem?_drop,←ak] at h
    exact c2 ⟨by omega,h.2⟩
theorem Nr.ZV (r:bT):Nr.Lv (45 :: r)=if Nr.run r=0∨(r.getD 0 0=48∧1<Nr.run r) then 0 else Nr.B5 (r.drop (Nr.run r)):=rfl
theorem Nr.ZU {t:bT} (h:¬(0<t.length∧t.getD 0 0=45)):Nr.Lv t=if Nr.run t=0∨(t.getD 0 0=48∧1<Nr.run t) then 0 else Nr.B5 (t.drop (Nr.run t)):=by
 unfold Nr.Lv
 split
 ·exact (h ⟨by simp,rfl⟩).elim
 ·rfl
theorem kk.goal (s:bT) (hp:decide (s.length≤1099511627776)=true):kk.F s=some [.i .i64 (Nr.Lv s)]:=by
 have hs:=aN hp
 refine kk.dZ _ ?_
 intro v1 h1 v2 h2
 rw [hp]
 refine (bD rfl).trans ?_
 have e2:v2=((1:Nat):Int):=by rw [h2,i64_in _ (by omega)];rfl
 rw [Bool.or_self] at h1
 have h1:v1=(decide ((0:Int)<s.length)&&decide (s.getD 0 0=45)):=h1
 by_cases c:0<s.length∧s.getD 0 0=45
 ·have e1:v1=true:=by rw [h1,ae (show (0:Int)<s.length by omega),ae c.2];rfl
  rw [e1,aF,e2,kk.gG s hs 1 (by omega)]
  cases s with
  | nil=>simp at c
  | cons d r =>
   have:d=45:=c.2
   subst this
   rw [Nr.ZV];rfl
 ·have e1:v1=false:=by rw [h1,←Bool.decide_and];exact af (fun h=>c ⟨by omega,h.2⟩)
  rw [e1,ax,Nr.ZU c]
  exact kk.gG s hs 0 (by omega)
end Go.Eng
namespace Go.Eng
open Go.IntWalk
theorem cd.ZW (t:bT) (k:Int):cd.j4 t k=some [.i .i64 (if t=[] then k else 0)]:=by
 rw [cd.JJ]
 by_cases c:t=[]
 ·rw [ae c,aH c];rfl
 ·rw [af c,aD c];rfl
theorem cd.JK (t:bT) (hs:t.length≤1099511627776):cd.j3 t=some [.i .i64 (if Nr.run t=0∨Nr.run t<t.length then 0 else 2)]:=by
 refine cd.FA _ ?_
 intro v1 h1
 have hr:=Nr.ZI t
 rw [aw] at h1
 rw [bD (ae hs)]
 by_cases c:Nr.run t=0
 ·rw [ae (by omega),aF,aH (.inl c)]
 ·rw [af (by omega),ax,bD (lJ (by omega) (by omega) (by omega)),cd.ZW,h1]
  by_cases c2:Nr.run t<t.length
  ·rw [aD (by rw [rH];omega),aH (.inr c2)]
  ·rw [aH (by rw [rH];omega),aD (by omega)]
theorem Nr.Z7 (t:bT):(Nr.signed t).length≤t.length:=by
 cases t with
 | nil=>exact Nat.le_refl _
 | cons c r =>
  rw [Nr.sI]
  split
  ·simp
  ·exact Nat.le_refl _
theorem cd.JL (t:bT) (hs:t.length≤1099511627776) (k:Int):cd.j2 t k=some [.i .i64 (Nr.AX t k)]:=by
 refine cd.vV _ _ ?_
 intro v1 h1 v2 h2 v3 h3 v4 h4 v5 h5 v6 h6 v7 h7 v8 h8 v9 h9 v10 kQ
 cases t with
 | nil =>
  have e2:v2=false:=h2
  have e4:v4=false:=h4
  rw [e2,e4,ax,cd.ZW];rfl
 | cons c r =>
  have ht:decide ((0:Int)<((c :: r).length:Int))=true:=ae (by rw [aP];omega)
  have hx:cq (0:Int) (c :: r).length=true:=cN (by omega) (by rw [aP];omega)
  have e1:v1=c:=h1
  have e5:v5=r:=h5
  rw [ht] at h2 h4
  have e4:v4=decide (c=101∨c=69):=by
   rw [h4,h3,e1,Bool.decide_or];cases decide (c=101) <;> rfl
  rw [ht,hx,h2,bD (by rfl),bD (by rfl),bD (by rfl),bD (by cases decide (v1=101) <;> rfl),bD (by cases decide (v1=101) <;> rfl),bD (by cases decide (v1=101) <;> rfl),bD (by rfl),Nr.wc,e4]
  rw [aP] at hs
  by_cases c1:c=101∨c=69
  ·rw [ae c1,aF,aH c1,bD (lJ (by omega) (by rw [aP];omega) (by omega)),e5]
   cases r with
   | nil =>
    rw [e5] at h7 h9
    have e7:v7=false:=h7
    have e9:v9=false:=h9
    rw [e7,e9,ax,cd.JK [] (by simp)];rfl
   | cons d q =>
    have ht2:decide ((0:Int)<((d :: q).length:Int))=true:=ae (by rw [aP];omega)
    have Hv:cq (0:Int) (d :: q).length=true:=cN (by omega) (by rw [aP];omega)
    rw [e5] at h6 h7 h9 kQ
    have e6:v6=d:=h6
    have xX:v10=q:=kQ
    rw [ht2] at h7 h9
    have e9:v9=decide (d=43∨d=45):=by
     rw [h9,h8,e6,Bool.decide_or];cases decide (d=43) <;> rfl
    rw [ht2,Hv,h7,bD (by rfl),bD (by rfl),bD (by rfl),bD (by cases decide (v6=43) <;> rfl),bD (by cases decide (v6=43) <;> rfl),bD (by cases decide (v6=43) <;> rfl),bD (by rfl),e9,Nr.sI]
    rw [aP] at hs
    by_cases c2:d=43∨d=45
    ·rw [ae c2,aF,bD (lJ (by omega) (by rw [aP];omega) (by omega)),xX,aH c2]
     exact cd.JK q (by omega)
    ·rw [af c2,ax,aD c2]
     exact cd.JK (d :: q) (by rw [aP];omega)
  ·rw [af c1,ax,aD c1,cd.ZW,aD (by simp)]
theorem cd.gG (t:bT) (hs:t.length≤1099511627776):cd.j1 t 1=some [.i .i64 (if Nr.run t=0∨(t.getD 0 0=48∧1<Nr.run t) then 0 else Nr.B5 (t.drop (Nr.run t)))]:=by
 refine cd.kF _ _ ?_
 intro v1 h1 v2 h2 v3 h3 v4 h4 v5 h5 v6 h6 v7 h7 v8 h8 v9 h9
 have hr:=Nr.ZI t
 rw [aw] at h5
 rw [bD (ae hs)]
 have h1:v1=t.getD 0 0:=h1
 by_cases c0:Nr.run t=0
 ·have hd:decide ((Nr.run t:Int)=0)=true:=ae (by omega)
  rw [hd] at h2 h4
  have e2:v2=false:=h2
  have e4:v4=true:=h4
  rw [hd,e2,e4,aH (.inl c0)];rfl
 ·have hd:decide ((Nr.run t:Int)=0)=false:=af (by omega)
  have hx:cq (0:Int) t.length=true:=cN (by omega) (by omega)
  rw [hd] at h2 h4
  rw [ax] at h4
  have e4:v4=decide (v1=48∧1<Nr.run t):=by
   have:decide ((1:Int)<(Nr.run t:Int))=decide (1<Nr.run t):=by
    by_cases c:1<Nr.run t
    ·rw [ae c,ae (by omega)]
    ·rw [af c,af (by omega)]
   rw [h4,h3,this,Bool.decide_and];cases decide (v1=48) <;> rfl
  rw [hd,hx,h2,bD (by rfl),bD (by rfl),bD (by rfl),bD (by cases decide (v1=48) <;> rfl),bD (by cases decide (v1=48) <;> rfl),bD (by rfl),e4,←h1]
  by_cases c1:v1=48∧1<Nr.run t
  ·rw [ae c1,aF,aH (.inr c1)]
  ·rw [af c1,ax,aD (by simp [c0,c1]),bD (lJ (by omega) (by omega) (by omega)),←h5]
   have hl:v5.length≤1099511627776:=by rw [h5,bm];omega
   cases hv:v5 with
   | nil =>
    rw [hv] at h7
    have e7:v7=false:=h7
    rw [e7,ax,←hv,cd.JL v5 hl,hv];rfl
   | cons c r =>
    have ht2:decide ((0:Int)<((c :: r).length:Int))=true:=ae (by rw [aP];omega)
    have Hv:cq (0:Int) (c :: r).length=true:=cN (by omega) (by rw [aP];omega)
    rw [hv] at h6 h7 h8 hl
    rw [aP] at hl
    have e6:v6=c:=h6
    have e8:v8=r:=h8
    rw [ht2,aF,e6] at h7
    rw [ht2,Hv,bD (by rfl),bD (by rfl),bD (by rfl),h7]
    have LU:=Nr.ZI r
    by_cases c2:c=46
    ·have e9:v9=((1+Nr.run r:Nat):Int):=by rw [h9,e8,i64_in _ (by omega)];omega
     subst c2
     rw [ae rfl,aF,bD (lJ (by omega) (by rw [aP];omega) (by omega)),e8,bD (ae (by omega)),Nr.wa]
     by_cases c3:Nr.run r=0
     ·rw [ae (by omega),aF,aH c3]
     ·rw [af (by omega),ax,aD c3,e9,bD (lJ (by omega) (by rw [aP];omega) (by omega)),aw,Nat.add_comm 1,List.drop_succ_cons]
      exact cd.JL _ (by rw [bm];omega) 2
    ·rw [af c2,ax,Nr.rL (t:=c :: r) (fun h=>c2 h.2)]
     exact cd.JL _ (by rw [aP];omega) 1
theorem cd.goal (s:bT) (hp:decide (s.length≤1099511627776)=true):cd.F s=some [.i .i64 (Nr.Lv s)]:=by
 have hs:=aN hp
 refine cd.dZ _ ?_
 intro v1 h1 v2 h2 v3 h3
 cases s with
 | nil =>
  have e2:v2=false:=h2
  rw [e2,ax,cd.gG [] hs];rfl
 | cons c r =>
  have ht2:decide ((0:Int)<((c :: r).length:Int))=true:=ae (by rw [aP];omega)
  have Hv:cq (0:Int) (c :: r).length=true:=cN (by omega) (by rw [aP];omega)
  have e1:v1=c:=h1
  have e3:v3=r:=h3
  rw [ht2,aF,e1] at h2
  rw [ht2,Hv,bD (by rfl),bD (by rfl),bD (by rfl),h2]
  by_cases c2:c=45
  ·subst c2
   rw [ae rfl,aF,bD (lJ (by omega) (by rw [aP];omega) (by omega)),e3,Nr.ZV]
   exact cd.gG r (by rw [aP] at hs;omega)
  ·rw [af c2,ax,Nr.ZU (t:=c :: r) (fun h=>c2 h.2)]
   exact cd.gG _ hs
theorem Nr.mV {n:Nat} (h:n<10):Nr.dec n=[UInt8.ofNat (48+n)]:=by rw [Nr.dec,aH h]
theorem Nr.qY {n:Nat} (h:¬n<10):Nr.dec n=Nr.dec (n / 10)++[UInt8.ofNat (48+n % 10)]:=by rw [Nr.dec,aD h]
theorem Nr.nG:∀(k n:Nat),n<10 ^ k→1≤k→(Nr.dec n).length≤k:=by
 intro k
 induction k with
 | zero=>intro n _ h;omega
 | succ k ih =>
  intro n h _
  by_cases c:n<10
  ·rw [Nr.mV c];simp
  ·rw [Nr.qY c,aq,az]
   rw [Nat.pow_succ] at h
   have hk:1≤k:=by
    by_cases hk:k=0
    ·subst hk;simp at h;omega
    ·omega
   have:=ih (n / 10) (by omega) hk
   omega
theorem ZK (c d:UInt8) (r:bT):Lib.indexByte (d :: r) c=if (d == c)=true then 0 else if (Lib.indexByte r c == -1)=true then -1 else Lib.indexByte r c+1:=by
 rw [Lib.indexByte]
theorem ZJ:∀s:bT,(s.contains 46=false∧Lib.indexByte s 46=-1∧s.takeWhile (· != 46)=s∧s.dropWhile (· != 46)=[]) ∨
  (s.contains 46=true∧Lib.indexByte s 46=(s.takeWhile (· != 46)).length∧(s.takeWhile (· != 46)).length<s.length∧s.takeWhile (· != 46)=s.take (s.takeWhile (· != 46)).length∧s.dropWhile (· != 46)=s.drop (s.takeWhile (· != 46)).length)
 | [] => .inl ⟨rfl,rfl,rfl,rfl⟩
 | d :: r=>by
  by_cases c:d=46
  ·subst c
   exact .inr ⟨by simp,rfl,by simp,rfl,rfl⟩
  ·have hb:(d == 46)=false:=by simp [c]
   have xW:(d != 46)=true:=by simp [c]
   rcases ZJ r with ⟨h1,h2,h3,h4⟩ | ⟨h1,h2,h3,h4,h5⟩
   ·left
    refine ⟨by rw [List.contains_cons,h1];simp [Ne.symm c],?_,?_,?_⟩
    ·rw [ZK,h2,hb];rfl
    ·rw [List.takeWhile_cons,aH xW,h3]
    ·rw [List.dropWhile_cons,aH xW,h4]
   ·right
    rw [List.takeWhile_cons,aH xW,List.dropWhile_cons,aH xW]
    refine ⟨by rw [List.contains_cons,h1];simp,?_,by simpa using h3,?_,?_⟩
    ·rw [ZK,h2,hb,aD (by decide),aD (by simp)];simp
    ·rw [aP,List.take_succ_cons,←h4]
    ·rw [aP,List.drop_succ_cons,←h5]
theorem nr.goal (s c:bT) (hp:decide (s.length≤4294967280∧c=[46])=true):nr.F s c=some [.s (s.takeWhile (· != 46)),.s ((s.dropWhile (· != 46)).drop 1),.b (s.contains 46)]:=by
 obtain ⟨p1,rfl⟩:=aN hp
 refine nr.dZ _ _ ?_
 intro v1 h1 v2 h2
 rw [bD hp]
 rcases ZJ s with ⟨q1,q2,q3,q4⟩ | ⟨q1,q2,q3,q4,q5⟩
 ·rw [q2,af (by decide),ax,q1,q3,q4];rfl
 ·have e2:v2=(((s.takeWhile (· != 46)).length+1:Nat):Int):=by
   rw [h2,q2,i64_in _ (by simp only [az];omega)];rfl
  rw [q2,aw,←q4] at h1
  rw [q2,ae (by omega),aF,bD (lJ (by omega) (by omega) (by omega)),e2,bD (lJ (by omega) (by omega) (by omega)),aw,q1,q5,List.drop_drop,h1]
theorem l8.goal (s c:bT) (hp:decide (s.length≤4294967280∧c=[46])=true):l8.F s c=some [.s (s.takeWhile (· != 46)),.s ((s.dropWhile (· != 46)).drop 1),.b (s.contains 46)]:=by
 refine l8.dZ _ _ ?_
 intro v1 h1
 rw [bD hp,h1]
end Go.Eng
namespace Go.Eng
namespace Nt
theorem dB (n:Nat):(UInt16.ofNat n).toNat=n % 65536:=by simp
theorem wB (d:UInt16):d.toNat<65536:=d.toNat_lt
theorem gJ:of 0=[]:=by rw [of];rfl
theorem lC {n:Nat} (h:0<n):of n=UInt16.ofNat n :: of (n / 65536):=by rw [of,aD (by omega)]
theorem eG (n:Nat):val (of n)=n:=by
 induction n using Nat.strongRecOn with
 | _ n ih =>
  by_cases h:n=0
  ·subst h;rw [gJ];rfl
  ·rw [lC (by omega),val,ih _ (Nat.div_lt_self (by omega) (by omega)),dB]
   omega
theorem kf:∀(k n:Nat),(fix k n).length=k
 | 0,_=>rfl
 | k+1,n=>by rw [fix,aP,kf]
theorem po:∀(k n:Nat),val (fix k n)=n % 65536 ^ k
 | 0,n=>by rw [fix,val,Nat.pow_zero,Nat.mod_one]
 | k+1,n=>by
  rw [fix,val,po,dB,Nat.pow_succ,Nat.mul_comm (65536 ^ k),Nat.mod_mul]
theorem fx:∀(a b:List UInt16),val (a++b)=val a+65536 ^ a.length * val b
 | [],b=>by simp [val]
 | d :: r,b=>by rw [List.cons_append,val,val,fx r b,aP,Nat.pow_succ,Nat.mul_add,←Nat.mul_assoc,Nat.mul_comm 65536 (65536 ^ r.length),Nat.add_assoc]
theorem gB:∀a:List UInt16,val a<65536 ^ a.length
 | []=>by simp [val]
 | d :: r=>by
  rw [val,aP,Nat.pow_succ]
  have h1:=gB r
  have h2:=wB d
  omega
theorem val_inj:∀{a b:List UInt16},a.length=b.length→val a=val b→a=b
 | [],[],_,_=>rfl
 | [],_ :: _,h,_=>by simp at h
 | _ :: _,[],h,_=>by simp at h
 | d :: r,e :: s,h,hv=>by
  rw [val,val] at hv
  have h1:=wB d
  have h2:=wB e
  have h3:d=e:=UInt16.toNat_inj.1 (by omega)
  rw [h3,val_inj (by simpa using h) (show val r=val s by omega)]
theorem mP (a:List UInt16) (d:UInt16):norm (a++[d])=decide (d≠0):=by
 unfold norm;simp
theorem pA {d:UInt16} {r:List UInt16} (h:r≠[]):norm (d :: r)=norm r:=by
 unfold norm
 cases r with
 | nil=>exact (h rfl).elim
 | cons e s=>rw [List.getLast?_cons_cons]
theorem qG {a:List UInt16} (h:norm a=true) (h0:a≠[]):0<val a:=by
 induction a with
 | nil=>exact (h0 rfl).elim
 | cons d r ih =>
  rw [val]
  by_cases hr:r=[]
  ·subst hr
   have hd:d≠0:=by simpa [norm] using h
   have:d.toNat≠0:=fun e=>hd (UInt16.toNat_inj.1 e)
   omega
  ·rw [pA hr] at h
   have:=ih h hr
   omega
theorem iM {a:List UInt16} (h:norm a=true):of (val a)=a:=by
 induction a with
 | nil=>exact gJ
 | cons d r ih =>
  have hp:=qG h (by simp)
  rw [lC hp]
  have h1:=wB d
  have e1:val (d :: r) / 65536=val r:=by rw [val];omega
  have e2:UInt16.ofNat (val (d :: r))=d:=UInt16.toNat_inj.1 (by rw [dB,val];omega)
  rw [e1,e2]
  by_cases hr:r=[]
  ·subst hr;rw [val,gJ]
  ·rw [pA hr] at h;rw [ih h]
theorem qH (n:Nat):norm (of n)=true:=by
 induction n using Nat.strongRecOn with
 | _ n ih =>
  by_cases h:n=0
  ·subst h;rw [gJ];rfl
  ·rw [lC (by omega)]
   by_cases h2:n / 65536=0
   ·rw [h2,gJ]
    have:UInt16.ofNat n≠0:=fun e=>by
     have:=congrArg UInt16.toNat e
     rw [dB] at this
     have e0:(0:UInt16).toNat=0:=rfl
     omega
    simp [norm,this]
   ·rw [pA,ih _ (Nat.div_lt_self (by omega) (by omega))]
    rw [lC (by omega)];simp
theorem jv (n k:Nat):(of n).length≤k ↔ n<65536 ^ k:=by
 constructor
 ·intro h
  have:=gB (of n)
  rw [eG] at this
  exact Nat.lt_of_lt_of_le this (Nat.pow_le_pow_right (by omega) h)
 ·intro h
  induction k generalizing n with
  | zero=>simp at h;subst h;rw [gJ];simp
  | succ k ih =>
   by_cases h0:n=0
   ·subst h0;rw [gJ];simp
   ·rw [lC (by omega),aP]
    have:=ih (n / 65536) (by rw [Nat.pow_succ] at h;omega)
    omega
theorem EE:(65536:Nat) ^ 256=2 ^ 4096:=by decide +kernel
theorem pS {n:Nat} (h:n<2 ^ 4096):is (of n)=true:=by
 unfold is
 rw [qH,Bool.and_true]
 exact ae ((jv n 256).2 (by rewrite [EE];exact h))
theorem is_lt {a:List UInt16} (h:is a=true):val a<2 ^ 4096:=by
 unfold is at h
 simp only [aa,ay] at h
 have:=(jv (val a) 256).1 (by rw [iM h.2];exact h.1)
 rewrite [EE] at this
 exact this
theorem iY {a:List UInt16} (h:is a=true):a.length≤256:=by
 unfold is at h
 simp only [aa,ay] at h
 exact h.1
theorem iU {a:List UInt16} (h:is a=true):norm a=true:=by
 unfold is at h
 simp only [aa,ay] at h
 exact h.2
theorem rz (a:List UInt16):val (a++[0])=val a:=by rw [fx];simp [val]
theorem rW {a b:List UInt16} (hb:norm b=true) (h:a.length<b.length):val a<val b:=by
 have h1:=gB a
 have vv:b≠[]:=by intro e;subst e;simp at h
 have h2:¬val b<65536 ^ a.length:=fun h2=>by
  have:=(jv (val b) a.length).2 h2
  rw [iM hb] at this
  omega
 omega
end Nt
end Go.Eng
namespace Go.Eng
open Go.IntWalk
theorem xb {n:Nat} (h:n≤1099511627776):IntKind.i64.wrap ((n:Int) - 1)=(n:Int) - 1:=i64_in _ (by omega)
theorem iu {α:Type} (a:List α) (d e:α):(a++[d]).getD a.length e=d:=by simp [ak]
theorem cH.fo:∀(n:Nat) (a:List UInt16),a.length=n→n≤1099511627776→cH.l1 a=some [.sl .ws (Nt.of (Nt.val a))]:=by
 intro n
 induction n with
 | zero =>
  intro a ha hn
  have:a=[]:=aR ha
  subst this
  refine cH.dE _ ?_
  intro v1 h1 v2 h2 v3 h3
  have e3:v3=false:=by rw [h3];rfl
  rw [e3]
  rw [show Nt.val []=0 from rfl,Nt.gJ]
  rfl
 | succ n ih =>
  intro a ha hn
  refine cH.dE _ ?_
  intro v1 h1 v2 h2 v3 h3
  rw [ha,xb (by omega)] at h1
  have e1:v1=(n:Int):=by omega
  subst e1
  rw [aw] at h2 ⊢
  rw [ae (show (0:Int)<(a.length:Int) by omega),aF] at h3
  simp only [bz,bw,da]
  rw [ae (show (0:Int)<(a.length:Int) by omega),a8,Bool.false_or,Bool.true_and,bD (cN (by omega) (by omega))]
  obtain ⟨b,d,rfl⟩:∃b d,a=b++[d]:=⟨a.dropLast,a.getLast (by intro e;subst e;simp at ha),(List.dropLast_concat_getLast _).symm⟩
  have hb:b.length=n:=by simpa using ha
  have e2:v2=d:=by rw [h2,←hb,iu]
  subst e2
  by_cases hd:v2=0
  ·subst hd
   rw [h3,ae rfl,aF,bD (lJ (by omega) (by omega) (by omega)),←hb,List.take_left',Nt.rz]
   ·exact ih b hb (by omega)
   ·rfl
  ·rw [h3,af hd,ax,Nt.iM (by rw [Nt.mP];exact ae hd)]
theorem cH.goal (a:List UInt16) (hp:decide (a.length≤1099511627776)=true):cH.F a=some [.sl .ws (Nt.of (Nt.val a))]:=by
 rw [cH.jq];exact cH.fo _ a rfl (aN hp)
theorem mR {a:List UInt16} (h:a≠[]):Nt.norm a=!decide (a.getD (a.length - 1) 0=0):=by
 obtain ⟨b,d,rfl⟩:∃b d,a=b++[d]:=⟨a.dropLast,a.getLast h,(List.dropLast_concat_getLast _).symm⟩
 rw [Nt.mP,aq,az,Nat.add_sub_cancel,iu]
 simp
theorem dG.goal (a:List UInt16) (hp:decide (a.length≤1099511627776)=true):dG.F a=some [.b (Nt.is a)]:=by
 have h:=aN hp
 refine dG.dZ _ ?_
 intro v1 h1 v2 h2 v3 h3 v4 h4 v5 h5
 simp only [bz,bw,da]
 rw [xb h] at h2
 by_cases c1:a.length≤256
 ·have d1:decide ((a.length:Int)≤256)=true:=ae (by omega)
  rw [d1] at h1 h5 ⊢
  by_cases c2:a=[]
  ·subst c2
   have e1:v1=false:=by rw [h1];rfl
   have e5:v5=true:=by rw [h5,h4];rfl
   rw [e1,e5];rfl
  ·have hl:0<a.length:=List.length_pos_iff.2 c2
   have d2:decide ((a.length:Int)=0)=false:=af (by omega)
   rw [d2] at h1 h4 ⊢
   have e1:v1=true:=h1
   rw [e1,a8,Bool.false_or,Bool.true_and,bD (cN (by omega) (by omega))]
   have e2:v2.toNat=a.length - 1:=by omega
   have e5:v5=Nt.is a:=by
    rw [h5,aF,h4,ax,h3,e2,Nt.is,ae c1,Bool.true_and,mR c2]
   rw [e5];rfl
 ·have d1:decide ((a.length:Int)≤256)=false:=af (by omega)
  rw [d1] at h1 h5 ⊢
  have e1:v1=false:=h1
  have e5:v5=Nt.is a:=by rw [h5,ax,Nt.is,af c1,Bool.false_and]
  rw [e1,e5];rfl
theorem yr (x:UInt64):(iI x 16).toNat=x.toNat / 65536:=by
 rw [iI,UInt64.toNat_ofNat']
 have:=x.toNat_lt
 omega
theorem nf (x:Nat):UInt16.ofInt (x:Int)=UInt16.ofNat x:=by
 apply UInt16.toNat_inj.1
 have h:=rE (x:Int)
 rw [iQ] at h
 rw [Nt.dB];omega
theorem dA.fo:∀(k:Nat) (v:UInt64) (acc:List UInt16),v.toNat<65536 ^ k→acc.length+k≤100→dA.l1 v acc=some [.sl .ws (acc++Nt.of v.toNat)]:=by
 intro k
 induction k with
 | zero =>
  intro v acc hv ha
  refine dA.dE _ _ ?_
  intro v1 h1 v2 h2
  have hn:v.toNat=0:=by simpa using hv
  have c:v=0:=bt.1 hn
  rw [c,af (by decide),ax,show (0:UInt64).toNat=0 from rfl,Nt.gJ,aU]
 | succ k ih =>
  intro v acc hv ha
  refine dA.dE _ _ ?_
  intro v1 h1 v2 h2
  by_cases c:v=0
  ·rw [c,af (by decide),ax,show (0:UInt64).toNat=0 from rfl,Nt.gJ,aU]
  ·have nO:0<v.toNat:=Nat.pos_of_ne_zero fun e=>c (bt.1 e)
   have eO:(0:UInt64)<v:=by rw [bp];exact nO
   have e2:v2.toNat=v.toNat / 65536:=by rw [h2];exact yr v
   have e1:v1=UInt16.ofNat v.toNat:=by rw [h1,nf]
   rw [Nat.pow_succ] at hv
   rw [ae eO,aF,bD (gZ (by simp;omega) (by simp;omega)),ih v2 _ (by rw [e2];omega) (by simp;omega),e2,Nt.lC nO,e1]
   simp
theorem dA.goal (v:UInt64):dA.F v=some [.sl .ws (Nt.of v.toNat)]:=by
 rw [dA.jq,dA.fo 4 v [] (by have:=v.toNat_lt;simpa using this) (by simp),bj]
theorem Nt.iO {n:Nat} (h:0<n):2 ^ (Nt.bits n - 1)≤n∧n<2 ^ Nt.bits n∧0<Nt.bits n:=by
 unfold Nt.bits
 rw [aD (by omega)]
 exact ⟨by rw [Nat.add_sub_cancel];exact Nat.log2_self_le (by omega),Nat.lt_log2_self,by omega⟩
theorem Nt.kx {n k:Nat} (h:n<2 ^ k):Nt.bits n≤k:=by
 by_cases h0:n=0
 ·subst h0;simp [Nt.bits]
 ·obtain ⟨h1,_,_⟩:=Nt.iO (n:=n) (by omega)
  have:2 ^ (Nt.bits n - 1)<2 ^ k:=by omega
  have:=(Nat.pow_lt_pow_iff_right (by omega:1<2)).1 this
  omega
theorem Nt.I4 {n k:Nat} (h1:2 ^ k≤n) (h2:n<2 ^ (k+1)):Nt.bits n=k+1:=by
 have h0:0<n:=Nat.lt_of_lt_of_le (Nat.two_pow_pos k) h1
 obtain ⟨_,h3,_⟩:=Nt.iO h0
 have h4:=Nt.kx h2
 have:2 ^ k<2 ^ Nt.bits n:=by omega
 have:=(Nat.pow_lt_pow_iff_right (by omega:1<2)).1 this
 omega
theorem Nt.lL {n k:Nat} (h:2 ^ k≤n):Nt.bits n=Nt.bits (n / 2 ^ k)+k:=by
 have h0:0<n / 2 ^ k:=Nat.div_pos h (Nat.two_pow_pos k)
 obtain ⟨h1,h2,h3⟩:=Nt.iO h0
 have e:Nt.bits (n / 2 ^ k)+k=(Nt.bits (n / 2 ^ k) - 1+k)+1:=by omega
 rw [e]
 refine Nt.I4 ?_ ?_
 ·rw [Nat.pow_add]
  exact (Nat.le_div_iff_mul_le (Nat.two_pow_pos k)).1 h1
 ·rw [show Nt.bits (n / 2 ^ k) - 1+k+1=Nt.bits (n / 2 ^ k)+k by omega,Nat.pow_add]
  exact (Nat.div_lt_iff_lt_mul (Nat.two_pow_pos k)).1 h2
def len8:bT:=[0,1,2,2,3,3,3,3,4,4,4,4,4,4,4,4,5,5,5,5,5,5,5,5,5,5,5,5,5,5,5,5]++List.replicate 32 6++List.replicate 64 7++List.replicate 128 8
theorem B6:∀n,n<256→(len8.getD n 0).toNat=Nt.bits n:=by decide +kernel
end Go.Eng
namespace Go.Eng
open Go.IntWalk
theorem vU:([0,1,2,2,3,3,3,3,4,4,4,4,4,4,4,4,5,5,5,5,5,5,5,5,5,5,5,5,5,5,5,5,6,6,6,6,6,6,6,6,6,6,6,6,6,6,6,6,6,6,6,6,6,6,6,6,6,6,6,6,6,6,6,6,7,7,7,7,7,7,7,7,7,7,7,7,7,7,7,7,7,7,7,7,7,7,7,7,7,7,7,7,7,7,7,7,7,7,7,7,7,7,7,7,7,7,7,7,7,7,7,7,7,7,7,7,7,7,7,7,7,7,7,7,7,7,7,7,8,8,8,8,8,8,8,8,8,8,8,8,8,8,8,8,8,8,8,8,8,8,8,8,8,8,8,8,8,8,8,8,8,8,8,8,8,8,8,8,8,8,8,8,8,8,8,8,8,8,8,8,8,8,8,8,8,8,8,8,8,8,8,8,8,8,8,8,8,8,8,8,8,8,8,8,8,8,8,8,8,8,8,8,8,8,8,8,8,8,8,8,8,8,8,8,8,8,8,8,8,8,8,8,8,8,8,8,8,8,8,8,8,8,8,8,8,8,8,8,8,8,8,8,8,8,8,8]:bT)=len8:=by decide +kernel
theorem yT:len8.length=256:=by decide +kernel
theorem bQ.gG (x0:UInt16) (x1:Int) (h:x0.toNat<256) (h1:0≤x1) (h2:x1≤1000):bQ.j1 x0 x1=some [.i .i64 (x1+Nt.bits x0.toNat)]:=by
 refine bQ.kF _ _ ?_
 intro v1 h1 v2 h2 v3 h3
 rw [vU] at h2 ⊢
 have e1:v1.toNat=x0.toNat:=by rw [h1,Ao,Nat.mod_eq_of_lt h]
 have hb:=Nt.kx (n:=x0.toNat) (k:=8) h
 rw [aw,e1] at h2
 have e2:=B6 _ h
 rw [←h2] at e2
 have e3:v3=(Nt.bits x0.toNat:Int):=by rw [h3,i64_in _ (by omega),e2]
 rw [bD (cN (by omega) (by rw [yT];omega)),e3,i64_in _ (by omega)]
theorem bQ.goal (x:UInt16):bQ.F x=some [.i .i64 (Nt.bits x.toNat)]:=by
 refine bQ.dZ _ ?_
 intro v1 h1
 have hx:=x.toNat_lt
 by_cases c:x.toNat<256
 ·rw [af (by rw [UInt16.le_iff_toNat_le];show ¬256≤x.toNat;omega),ax,bQ.gG _ _ c (by omega) (by omega),Int.zero_add]
 ·have e1:v1.toNat=x.toNat / 2 ^ 8:=by
   rw [h1,qu,UInt16.toNat_ofNat',show (8:UInt64).toNat=8 from rfl];omega
  rw [ae (by rw [UInt16.le_iff_toNat_le];show 256≤x.toNat;omega),aF,bQ.gG _ _ (by omega) (by omega) (by omega),e1,Nt.lL (n:=x.toNat) (k:=8) (by omega)]
  exact congrArg (fun z:Int=>some [TV.i .i64 z]) (by omega)
theorem bits_Len64.JK (x0:UInt64) (x1:Int) (h:x0.toNat<256) (h1:0≤x1) (h2:x1≤1000):bits_Len64.j3 x0 x1=some [.i .i64 (x1+Nt.bits x0.toNat)]:=by
 refine bits_Len64.FA _ _ ?_
 intro v1 h1 v2 h2 v3 h3
 rw [vU] at h2 ⊢
 have e1:v1.toNat=x0.toNat:=by rw [h1,Ao,Nat.mod_eq_of_lt h]
 have hb:=Nt.kx (n:=x0.toNat) (k:=8) h
 rw [aw,e1] at h2
 have e2:=B6 _ h
 rw [←h2] at e2
 have e3:v3=(Nt.bits x0.toNat:Int):=by rw [h3,i64_in _ (by omega),e2]
 rw [bD (cN (by omega) (by rw [yT];omega)),e3,i64_in _ (by omega)]
theorem gr (x:UInt64) (k:Nat):(iI x k).toNat=x.toNat / 2 ^ k:=by
 rw [iI,UInt64.toNat_ofNat']
 exact Nat.mod_eq_of_lt (Nat.lt_of_le_of_lt (Nat.div_le_self _ _) x.toNat_lt)
theorem bits_Len64.JL (x0:UInt64) (x1:Int) (h:x0.toNat<65536) (h1:0≤x1) (h2:x1≤900):bits_Len64.j2 x0 x1=some [.i .i64 (x1+Nt.bits x0.toNat)]:=by
 refine bits_Len64.vV _ _ ?_
 intro v1 h1 v2 h2
 by_cases c:x0.toNat<256
 ·rw [af (by rw [bk];show ¬256≤x0.toNat;omega),ax,bits_Len64.JK _ _ c (by omega) (by omega)]
 ·have e1:v1.toNat=x0.toNat / 2 ^ 8:=by rw [h1];exact gr _ _
  have e2:v2=x1+8:=by rw [h2,i64_in _ (by omega)]
  rw [ae (by rw [bk];show 256≤x0.toNat;omega),aF,bits_Len64.JK _ _ (by omega) (by omega) (by omega),e1,e2,Nt.lL (n:=x0.toNat) (k:=8) (by omega)]
  exact congrArg (fun z:Int=>some [TV.i .i64 z]) (by omega)
theorem bits_Len64.gG (x0:UInt64) (x1:Int) (h:x0.toNat<4294967296) (h1:0≤x1) (h2:x1≤800):bits_Len64.j1 x0 x1=some [.i .i64 (x1+Nt.bits x0.toNat)]:=by
 refine bits_Len64.kF _ _ ?_
 intro v1 h1 v2 h2
 by_cases c:x0.toNat<65536
 ·rw [af (by rw [bk];show ¬65536≤x0.toNat;omega),ax,bits_Len64.JL _ _ c (by omega) (by omega)]
 ·have e1:v1.toNat=x0.toNat / 2 ^ 16:=by rw [h1];exact gr _ _
  have e2:v2=x1+16:=by rw [h2,i64_in _ (by omega)]
  rw [ae (by rw [bk];show 65536≤x0.toNat;omega),aF,bits_Len64.JL _ _ (by omega) (by omega) (by omega),e1,e2,Nt.lL (n:=x0.toNat) (k:=16) (by omega)]
  exact congrArg (fun z:Int=>some [TV.i .i64 z]) (by omega)
theorem bits_Len64.goal (x:UInt64):bits_Len64.F x=some [.i .i64 (Nt.bits x.toNat)]:=by
 refine bits_Len64.dZ _ ?_
 intro v1 h1
 have hx:=x.toNat_lt
 by_cases c:x.toNat<4294967296
 ·rw [af (by rw [bk];show ¬4294967296≤x.toNat;omega),ax,bits_Len64.gG _ _ c (by omega) (by omega),Int.zero_add]
 ·have e1:v1.toNat=x.toNat / 2 ^ 32:=by rw [h1];exact gr _ _
  rw [ae (by rw [bk];show 4294967296≤x.toNat;omega),aF,bits_Len64.gG _ _ (by rw [e1];omega) (by omega) (by omega),e1,Nt.lL (n:=x.toNat) (k:=32) (by omega)]
  exact congrArg (fun z:Int=>some [TV.i .i64 z]) (by omega)
theorem dy (a:List UInt16) (i:Nat) (h:i<a.length):Nt.val (a.take (i+1))=Nt.val (a.take i)+65536 ^ i * (a.getD i 0).toNat:=by
 rw [List.take_add_one,Nt.fx,aA h,aK,Nat.min_eq_left (by omega),ak,aA h]
 simp [Nt.val]
theorem fU (d:UInt16):(UInt64.ofInt (d.toNat:Int)).toNat=d.toNat:=by
 rw [BA,Nat.mod_eq_of_lt (by have:=d.toNat_lt;omega)]
theorem cD.fo (a:List UInt16) (h4:a.length≤4):∀(m i:Nat) (v:UInt64),i+m=a.length→v.toNat=Nt.val (a.take i)→cD.l1 v a a.length i=some [.u64 (UInt64.ofNat (Nt.val a)),.b true]:=by
 intro m
 induction m with
 | zero =>
  intro i v hi hv
  refine cD.dE _ _ _ _ ?_
  intro v1 h1 v2 h2 v3 h3 v4 h4 v5 h5
  rw [af (by omega),ax]
  rw [List.take_of_length_le (by omega)] at hv
  rw [←hv,UInt64.ofNat_toNat]
 | succ m ih =>
  intro i v hi hv
  refine cD.dE _ _ _ _ ?_
  intro v1 h1 v2 h2 v3 h3 v4 h4 v5 h5
  rw [aw] at h1
  have e3:v3=((16 * i:Nat):Int):=by rw [h3,i64_in _ (by omega)];omega
  have e5:v5=((i+1:Nat):Int):=by rw [h5,i64_in _ (by omega)];omega
  rw [ae (by omega),aF,bD (cN (by omega) (by omega)),bD (ae (by omega)),e5]
  refine ih (i+1) v4 (by omega) ?_
  rw [dy a i (by omega),←h1,h4,e3,aw,UInt64.toNat_or,kM,UInt64.toNat_ofNat',h2,fU,hv]
  have eO:Nt.val (a.take i)<2 ^ (16 * i):=by
   have:=Nt.gB (a.take i)
   rw [aK,Nat.min_eq_left (by omega),show (65536:Nat)=2 ^ 16 by decide,←Nat.pow_mul] at this
   exact this
  have hd:=v1.toNat_lt
  have Y1:i≤3:=by omega
  have hm:v1.toNat * 2 ^ (16 * i)<2 ^ 64:=by
   have:2 ^ (16 * i)≤2 ^ 48:=Nat.pow_le_pow_right (by omega) (by omega)
   have h1:v1.toNat * 2 ^ (16 * i)≤v1.toNat * 2 ^ 48:=Nat.mul_le_mul_left _ this
   omega
  rw [Nat.mod_eq_of_lt hm,Nat.or_comm,oi eO,show (65536:Nat)=2 ^ 16 by decide,←Nat.pow_mul,Nat.mul_comm (2 ^ (16 * i)),Nat.add_comm]
theorem cD.goal (a:List UInt16) (hp:decide (Nt.is a=true∧a.length≤4)=true):cD.F a=some [.u64 (UInt64.ofNat (Nt.val a)),.b true]:=by
 obtain ⟨h1,h2⟩:=aN hp
 refine cD.dZ _ ?_
 intro v1 hv
 have e1:v1=false:=by rw [hv,h1,a8,ax];exact af (by omega)
 rw [bD (ae (by omega)),h1,e1]
 exact cD.fo a h2 a.length 0 0 (by omega) rfl
theorem mQ {a:List UInt16} (h:Nt.norm a=true) (h0:a≠[]):1≤(a.getD (a.length - 1) 0).toNat∧Nt.val a=Nt.val (a.take (a.length - 1))+65536 ^ (a.length - 1) * (a.getD (a.length - 1) 0).toNat:=by
 have hl:=List.length_pos_iff.2 h0
 rw [mR h0] at h
 simp only [Bool.not_eq_true',decide_eq_false_iff_not] at h
 refine ⟨Nat.pos_of_ne_zero fun e=>h (UInt16.toNat_inj.1 e),?_⟩
 have:=dy a (a.length - 1) (by omega)
 rwa [show a.length - 1+1=a.length by omega,List.take_length] at this
theorem GR {a:List UInt16} (h:Nt.norm a=true) (h0:a≠[]):Nt.bits (Nt.val a)=16 * (a.length - 1)+Nt.bits (a.getD (a.length - 1) 0).toNat:=by
 obtain ⟨h1,h2⟩:=mQ h h0
 generalize (a.getD (a.length - 1) 0).toNat=t at h1 h2 ⊢
 have eO:=Nt.gB (a.take (a.length - 1))
 rw [aK,Nat.min_eq_left (by omega)] at eO
 rw [show (65536:Nat)=2 ^ 16 by decide,←Nat.pow_mul] at h2 eO
 generalize 16 * (a.length - 1)=k at *
 have hd:Nt.val a / 2 ^ k=t:=by
  rw [h2,Nat.add_mul_div_left _ _ (Nat.two_pow_pos k),Nat.div_eq_of_lt eO,Nat.zero_add]
 rw [Nt.lL (k:=k) (by rw [h2];have:=Nat.mul_le_mul_left (2 ^ k) h1;omega),hd,Nat.add_comm]
theorem dF.goal (a:List UInt16) (hp:(Nt.is a)=true):dF.F a=some [.i .i64 (Nt.bits (Nt.val a))]:=by
 have hl:=Nt.iY hp
 refine dF.dZ _ ?_
 intro v1 h1 v2 h2 v3 h3 v4 h4 v5 h5
 rw [hp,a8,ax] at h1
 rw [bD (ae (by omega)),hp]
 by_cases c:a=[]
 ·subst c
  have e1:v1=true:=by rw [h1];rfl
  rw [e1];rfl
 ·have JZ:=List.length_pos_iff.2 c
  have e1:v1=false:=by rw [h1];exact af (by omega)
  rw [i64_in _ (by omega)] at h2
  have e2:v2=((a.length - 1:Nat):Int):=by omega
  have e3:v3=((16 * (a.length - 1):Nat):Int):=by rw [h3,i64_in _ (by omega)];omega
  rw [e2,aw] at h4
  have hb:=Nt.kx (n:=v4.toNat) (k:=16) v4.toNat_lt
  have e5:v5=(Nt.bits (Nt.val a):Int):=by
   rw [h5,i64_in _ (by omega),e3,GR (Nt.iU hp) c,←h4];omega
  rw [e1,e5]
  show ck true (ck true (ck true (ck (cq v2 a.length) _)))=_
  rw [da,da,da,bD (cN (by omega) (by omega))]
end Go.Eng
