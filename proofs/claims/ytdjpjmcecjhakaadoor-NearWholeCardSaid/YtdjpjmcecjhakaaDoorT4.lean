/- Texts of my own, one behind the other: NrGp0, NrGp1, NrG, NrL1, NrL2, NtP, NrP1, NrP2, NrV, NrN1, NrP3, NrP4, NrP5, NrP6. -/
import Derived.Test.YtdjpjmcecjhakaaDoorT3
import Derived.Test.YtdjpjmcecjhakaaDoorProg
set_option linter.unusedVariables false
set_option linter.unusedSimpArgs false
namespace Go.Eng
def zI:List TV:=[(.i .i64 (0 : Int)), (.u64 (0 : UInt64)), (.sl .bs ([] : List UInt8)), (.s ([] : Str)), (.sl .il ([] : List Itm))]
def zV:List TV:=[(.i .i64 (0 : Int)), (.u64 (0 : UInt64)), (.u64 (0 : UInt64)), (.u64 (0 : UInt64)), (.s ([] : Str)), (.s ([] : Str)), (.i .i64 (0 : Int)), (.sl .bs ([] : List UInt8)), (.sl .fl ([] : List Fld))]
def zD:List TV:=[(.s ([] : Str)), (.i .i64 (0 : Int)), (.u64 (0 : UInt64)), (.u64 (0 : UInt64)), (.u64 (0 : UInt64)), (.s ([] : Str)), (.s ([] : Str)), (.i .i64 (0 : Int)), (.sl .bs ([] : List UInt8)), (.sl .fl ([] : List Fld))]
def zT:List TV:=[(.i .i64 (0 : Int)), (.i .i64 (0 : Int)), (.sl .is ([] : List Int))]
def oK (k:TK) (a d:List Nat):TOp:=⟨k,a.map .s,d,none⟩
def oX (k:TK) (a:List TOpd) (d:List Nat):TOp:=⟨k,a,d,none⟩
def oG (n:Nat) (b:Bool) (o:TOp):TOp:=⟨o.k,o.rs,o.ds,some (n,b)⟩
def oA (m o f a d:Nat):TOp:=⟨.k (.fa m o f),[.s a],[d],none⟩
def oL (m o n a d:Nat):TOp:=⟨.k (.ld m o n false),[.s a,.s m],[d],none⟩
def oM (m o n a d:Nat):TOp:=⟨.k (.ld m o n true),[.s a,.s m],[d],none⟩
def oT (m o n a x:Nat):TOp:=⟨.k (.st m o n),[.s a,.s m,.s x],[m],none⟩
def oV (a d:Nat):TOp:=⟨.k .mv,[.s a],[d],none⟩
def oW (c:TV) (d:Nat):TOp:=⟨.k .mv,[.c c],[d],none⟩
def oC (f n r:Nat) (a:List Nat) (d:Nat):TOp:=⟨.k (.call f (.plain n r)),a.map .s,[d],none⟩
def oE (i a d:Nat):TOp:=⟨.k (.ex i),[.s a],[d],none⟩
def oB (o:BinOp) (a b d:Nat):TOp:=⟨.k (.bin o),[.s a,.s b],[d],none⟩
def oI (o:BinOp) (a:Nat) (c:TV) (d:Nat):TOp:=⟨.k (.bin o),[.s a,.c c],[d],none⟩
def oP (g a:Nat) (b:Bool) (d:Nat):TOp:=⟨.k .pick,[.s g,.s a,.c (.b b)],[d],none⟩
def oN (m:Nat) (z:List TV) (a:Nat):TOp:=⟨.al m z [],[.s m],[a,m],none⟩
def D0 (n:Nat) (m:TM) (r:List RV):TFD:={np:=n,m:=m,ref:=none,tips:=[],res:=r,own:=[],new:=none,tnew:=[]}
def oS (l:List TOp) (b:TM):TM:=.seq (.reg l) none b
end Go.Eng
namespace Go.Eng
abbrev OT:=Option (List TV)
abbrev EV:=List (Nat × (Ctr × FSig))
theorem i4 {a b c d e:Prop} (h:e):a∨b∨c∨d∨e:=.inr (.inr (.inr (.inr h)))
theorem i12 {a b c d e f g h i j k l m:Prop} (x:m):a∨b∨c∨d∨e∨f∨g∨h∨i∨j∨k∨l∨m:=i4 (i4 (i4 x))
end Go.Eng
set_option maxRecDepth 100000
namespace Go.Eng
open Go.Proofs
noncomputable def nrGl:Nat→TV:=glL [(0,tabV .u8 (Lib.deBruijn64tab.map Int.ofNat))]
abbrev FT (d:TFD) (E:TEnv) (i o:List TV):Prop:=i.length=d.np∧d.run E i=some (o++d.ps.toList.map fun q=>i.getD q.1 .dead)
abbrev CK (i:Nat) (e:EV) (d:TFD):Prop:=((Go.Proofs.Tryd.prog.funcs[i]?).any fun fn=>chkF Go.Proofs.Tryd.prog (fun k=>((envL nrGl e).fs k).2) fn d.erase)=true
theorem ckOf {i:Nat} {e:EV} {d:TFD} (h:((Go.Proofs.Tryd.prog.funcs[i]?).any fun fn=>chkF Go.Proofs.Tryd.prog (fun k=>((envL nrGl e).fs k).2) fn d.erase)=true):CK i e d:=h
abbrev KO (i:Nat) (c:Ctr) (g:FSig):Prop:=SpecOK Go.Proofs.Tryd.prog (fun n=>(nrGl n).av) i (Ctr.fs (c,g))
noncomputable section
def bits_Len16.sg:FSig:={}
def bits_Len16.c:Ctr:=fun l=>match l with
 | [.u16 x] => .ok [(.i .i64 ((Nt.bits (x).toNat:Int)))]
 | _ => .err
def bits_Len64.sg:FSig:={}
def bits_Len64.c:Ctr:=fun l=>match l with
 | [.u64 x] => .ok [(.i .i64 ((Nt.bits (x).toNat:Int)))]
 | _ => .err
def bits_TZ.sg:FSig:={}
def bits_TZ.c:Ctr:=fun l=>match l with
 | [.u64 x] => .ok [(.i .i64 ((Lib.ctz 64 (x).toNat:Int)))]
 | _ => .err
def st_Trim.sg:FSig:={}
def st_Trim.c:Ctr:=fun l=>match l with
 | [.s s,.s c] => .if_ (decide ((s).length≤1099511627776∧(c).length≤100)&&(c).all (fun b=>decide (b.toNat<128))) [(.s (Lib.trimS s c))]
 | _ => .err
def st_TrimLeft.sg:FSig:={}
def st_TrimLeft.c:Ctr:=fun l=>match l with
 | [.s s,.s c] => .if_ (decide ((s).length≤1099511627776∧(c).length≤100)&&(c).all (fun b=>decide (b.toNat<128))) [(.s (Lib.trimLeftS s c))]
 | _ => .err
def st_TrimRight.sg:FSig:={}
def st_TrimRight.c:Ctr:=fun l=>match l with
 | [.s s,.s c] => .if_ (decide ((s).length≤1099511627776∧(c).length≤100)&&(c).all (fun b=>decide (b.toNat<128))) [(.s (Lib.trimRightS s c))]
 | _ => .err
def st_CutPrefix.sg:FSig:={ nres:=2 }
def st_CutPrefix.c:Ctr:=fun l=>match l with
 | [.s s,.s c] => .ok [(.s ((if (c).isPrefixOf s then (s).drop (c).length else s))),(.b (((c).isPrefixOf s)))]
 | _ => .err
def st_IndexAny.sg:FSig:={}
def st_IndexAny.c:Ctr:=fun l=>match l with
 | [.s s,.s c] => .if_ (decide ((s).length≤4294967280∧(c).length≤100)&&((s)++(c)).all (fun b=>decide (b.toNat<128))) [(.i .i64 (Lib.indexAny s c))]
 | _ => .err
def sl_Index.sg:FSig:={}
def sl_Index.c:Ctr:=fun l=>match l with
 | [.s s,.s c] => .if_ (decide ((s).length≤4294967280∧c=[46])) [(.i .i64 (Lib.indexByte s 46))]
 | _ => .err
def sl_Cut.sg:FSig:={ nres:=3 }
def sl_Cut.c:Ctr:=fun l=>match l with
 | [.s s,.s c] => .if_ (decide ((s).length≤4294967280∧c=[46])) [(.s (((s).takeWhile (· != 46)))),(.s ((((s).dropWhile (· != 46)).drop 1))),(.b (((s).contains 46)))]
 | _ => .err
def st_Cut.sg:FSig:={ nres:=3 }
def st_Cut.c:Ctr:=fun l=>match l with
 | [.s s,.s c] => .if_ (decide ((s).length≤4294967280∧c=[46])) [(.s (((s).takeWhile (· != 46)))),(.s ((((s).dropWhile (· != 46)).drop 1))),(.b (((s).contains 46)))]
 | _ => .err
def clone_ws.sg:FSig:={ own:=[(0,1)] }
def clone_ws.c:Ctr:=cloneC .ws 2
def math_Trunc.sg:FSig:={}
def math_Trunc.c:Ctr:=fun l=>match l with
 | [.c (.float .f64 x)] => .if_ (Fl.num x) [(.c (.float .f64 (Fl.trunc x)))]
 | _ => .err
def gz_whole.sg:FSig:={}
def gz_whole.c:Ctr:=fun l=>match l with
 | [.c (.complex .f64 z_1 z_2),.c (.float .f64 m)] => .if_ (Gz.inM ((z_1,z_2):Cx) m) [(.b (true))]
 | _ => .err
def gz_small.sg:FSig:={}
def gz_small.c:Ctr:=fun l=>match l with
 | [.c (.complex .f64 z_1 z_2)] => .if_ (Gz.inB ((z_1,z_2):Cx) 33554432) [(.b (true))]
 | _ => .err
def gz_Of.sg:FSig:={}
def gz_Of.c:Ctr:=fun l=>match l with
 | [.i .i64 x,.i .i64 y] => .if_ (decide (-33554432≤x∧x≤33554432∧-33554432≤y∧y≤33554432)) [(.c (.complex .f64 (((Fl.ofInt x,Fl.ofInt y):Cx)).1 (((Fl.ofInt x,Fl.ofInt y):Cx)).2))]
 | _ => .err
def gz_Parts.sg:FSig:={ nres:=3 }
def gz_Parts.c:Ctr:=fun l=>match l with
 | [.c (.complex .f64 z_1 z_2)] => .if_ (Gz.inB ((z_1,z_2):Cx) 4503599627370496) [(.i .i64 (Fl.toInt (((z_1,z_2):Cx)).1)),(.i .i64 (Fl.toInt (((z_1,z_2):Cx)).2)),(.b (true))]
 | _ => .err
def gz_Turn.sg:FSig:={}
def gz_Turn.c:Ctr:=fun l=>match l with
 | [.c (.complex .f64 z_1 z_2),.i .i64 k] => .if_ (Gz.inB ((z_1,z_2):Cx) 1125899906842624&&decide (-100≤k∧k≤100)) [(.c (.complex .f64 (Gz.turn ((z_1,z_2):Cx) k).1 (Gz.turn ((z_1,z_2):Cx) k).2))]
 | _ => .err
def gz_Times.sg:FSig:={}
def gz_Times.c:Ctr:=fun l=>match l with
 | [.c (.complex .f64 z_1 z_2),.c (.complex .f64 w_1 w_2)] => .if_ (Gz.inB ((z_1,z_2):Cx) 33554432&&Gz.inB ((w_1,w_2):Cx) 33554432) [(.c (.complex .f64 (Gz.mul ((z_1,z_2):Cx) ((w_1,w_2):Cx)).1 (Gz.mul ((z_1,z_2):Cx) ((w_1,w_2):Cx)).2))]
 | _ => .err
def wv_fit1.sg:FSig:={}
def wv_fit1.c:Ctr:=fun l=>match l with
 | [.c (.float .f64 x)] => .if_ (Gz.inR x) [(.b (true))]
 | _ => .err
def wv_fit.sg:FSig:={}
def wv_fit.c:Ctr:=fun l=>match l with
 | [.ag [.c (.complex .f64 l_c0_1 l_c0_2),.c (.complex .f64 l_c1_1 l_c1_2),.c (.complex .f64 l_c2_1 l_c2_2),.c (.complex .f64 l_c3_1 l_c3_2)]] => .if_ (Gz.inQ (Qd.mk ((l_c0_1,l_c0_2):Cx) ((l_c1_1,l_c1_2):Cx) ((l_c2_1,l_c2_2):Cx) ((l_c3_1,l_c3_2):Cx)) 1125899906842624) [(.b (true))]
 | _ => .err
def wv_sums.sg:FSig:={}
def wv_sums.c:Ctr:=fun l=>match l with
 | [.ag [.c (.complex .f64 l_c0_1 l_c0_2),.c (.complex .f64 l_c1_1 l_c1_2),.c (.complex .f64 l_c2_1 l_c2_2),.c (.complex .f64 l_c3_1 l_c3_2)],.i .i64 w] => .if_ (Gz.inQ (Qd.mk ((l_c0_1,l_c0_2):Cx) ((l_c1_1,l_c1_2):Cx) ((l_c2_1,l_c2_2):Cx) ((l_c3_1,l_c3_2):Cx)) 1125899906842624&&decide (w=1∨w=-1)) [(.ag (Qd.cells (Gz.sums (Qd.mk ((l_c0_1,l_c0_2):Cx) ((l_c1_1,l_c1_2):Cx) ((l_c2_1,l_c2_2):Cx) ((l_c3_1,l_c3_2):Cx)) w)))]
 | _ => .err
def wv_Four.sg:FSig:={}
def wv_Four.c:Ctr:=fun l=>match l with
 | [.ag [.c (.complex .f64 l_c0_1 l_c0_2),.c (.complex .f64 l_c1_1 l_c1_2),.c (.complex .f64 l_c2_1 l_c2_2),.c (.complex .f64 l_c3_1 l_c3_2)]] => .if_ (Gz.inQ (Qd.mk ((l_c0_1,l_c0_2):Cx) ((l_c1_1,l_c1_2):Cx) ((l_c2_1,l_c2_2):Cx) ((l_c3_1,l_c3_2):Cx)) 1125899906842624) [(.ag (Qd.cells (Gz.sums (Qd.mk ((l_c0_1,l_c0_2):Cx) ((l_c1_1,l_c1_2):Cx) ((l_c2_1,l_c2_2):Cx) ((l_c3_1,l_c3_2):Cx)) 1)))]
 | _ => .err
def wv_Back.sg:FSig:={ nres:=2 }
def wv_Back.c:Ctr:=fun l=>match l with
 | [.ag [.c (.complex .f64 l_c0_1 l_c0_2),.c (.complex .f64 l_c1_1 l_c1_2),.c (.complex .f64 l_c2_1 l_c2_2),.c (.complex .f64 l_c3_1 l_c3_2)]] => .if_ (Gz.inQ (Qd.mk ((l_c0_1,l_c0_2):Cx) ((l_c1_1,l_c1_2):Cx) ((l_c2_1,l_c2_2):Cx) ((l_c3_1,l_c3_2):Cx)) 1125899906842624&&Gz.in4 (Qd.mk ((l_c0_1,l_c0_2):Cx) ((l_c1_1,l_c1_2):Cx) ((l_c2_1,l_c2_2):Cx) ((l_c3_1,l_c3_2):Cx))) [(.ag (Qd.cells (Gz.back (Qd.mk ((l_c0_1,l_c0_2):Cx) ((l_c1_1,l_c1_2):Cx) ((l_c2_1,l_c2_2):Cx) ((l_c3_1,l_c3_2):Cx))))),(.b (true))]
 | _ => .err
def wv_digits.sg:FSig:={}
def wv_digits.c:Ctr:=fun l=>match l with
 | [.sl .is l] => .if_ (decide ((l).length≤256)&&Gz.digs l) [(.b (true))]
 | _ => .err
def wv_pairs.sg:FSig:={}
def wv_pairs.c:Ctr:=fun l=>match l with
 | [.sl .is l] => .if_ (decide ((l).length≤256)&&Gz.digs l) [(.sl .qd (Gz.pairs l))]
 | _ => .err
def wv_Fold.sg:FSig:={ nres:=2 }
def wv_Fold.c:Ctr:=fun l=>match l with
 | [.sl .is a,.sl .is b] => .if_ (decide ((a).length≤256∧(b).length≤256)&&(Gz.digs a&&Gz.digs b)) [(.sl .is (Gz.conv a b)),(.b (true))]
 | _ => .err
def bg_trim.sg:FSig:={}
def bg_trim.c:Ctr:=fun l=>match l with
 | [.sl .ws a] => .if_ (decide ((a).length≤1099511627776)) [(.sl .ws (Nt.of (Nt.val a)))]
 | _ => .err
def bg_Is.sg:FSig:={}
def bg_Is.c:Ctr:=fun l=>match l with
 | [.sl .ws a] => .if_ (decide ((a).length≤1099511627776)) [(.b (Nt.is a))]
 | _ => .err
def bg_Of.sg:FSig:={}
def bg_Of.c:Ctr:=fun l=>match l with
 | [.u64 v] => .ok [(.sl .ws (Nt.of (v).toNat))]
 | _ => .err
def bg_Small.sg:FSig:={ nres:=2 }
def bg_Small.c:Ctr:=fun l=>match l with
 | [.sl .ws a] => .if_ (decide (Nt.is a=true∧(a).length≤4)) [(.u64 (UInt64.ofNat (Nt.val a))),(.b (true))]
 | _ => .err
def bg_Bits.sg:FSig:={}
def bg_Bits.c:Ctr:=fun l=>match l with
 | [.sl .ws a] => .if_ (Nt.is a) [(.i .i64 ((Nt.bits (Nt.val a):Int)))]
 | _ => .err
def bg_cmp.sg:FSig:={}
def bg_cmp.c:Ctr:=fun l=>match l with
 | [.sl .ws a,.sl .ws b] => .if_ (decide ((a).length≤1099511627776∧(b).length≤1099511627776)&&(Nt.norm a&&Nt.norm b)) [(.i .i64 (Nt.cmp (Nt.val a) (Nt.val b)))]
 | _ => .err
def bg_Cmp.sg:FSig:={}
def bg_Cmp.c:Ctr:=fun l=>match l with
 | [.sl .ws a,.sl .ws b] => .if_ (Nt.is a&&Nt.is b) [(.i .i64 (Nt.cmp (Nt.val a) (Nt.val b)))]
 | _ => .err
def bg_numbers.sg:FSig:={}
def bg_numbers.c:Ctr:=fun l=>match l with
 | [.sl .ws a] => .if_ (decide ((a).length≤256)) [(.sl .is ((a).map fun d=>(d.toNat:Int)))]
 | _ => .err
def bg_Mul.sg:FSig:={}
def bg_Mul.c:Ctr:=fun l=>match l with
 | [.sl .ws a,.sl .ws b] => .if_ (Nt.is a&&Nt.is b) [(.sl .ws (Nt.of (Nt.val a * Nt.val b)))]
 | _ => .err
def bg_few.sg:FSig:={ nres:=2 }
def bg_few.c:Ctr:=fun l=>match l with
 | [.sl .ws a,.u16 d] => .if_ (decide ((a).length≤1000000∧d≠0)) [(.sl .ws (Nt.of (Nt.val a / (d).toNat))),(.u16 (UInt16.ofNat (Nt.val a % (d).toNat)))]
 | _ => .err
def bg_up.sg:FSig:={ own:=[(0,1)] }
def bg_up.c:Ctr:=fun l=>match l with
 | [.sl .ws a,.i .i64 n] => .if_ (decide ((a).length≤1000000∧0≤n∧n<16)&&Nt.norm a) [(.sl .ws (Nt.of (Nt.val a * 2 ^ (n).toNat)))]
 | _ => .err
def bg_down.sg:FSig:={}
def bg_down.c:Ctr:=fun l=>match l with
 | [.sl .ws a,.i .i64 n] => .if_ (decide ((a).length≤1000000∧0≤n∧n<16)) [(.sl .ws (Nt.of (Nt.val a / 2 ^ (n).toNat)))]
 | _ => .err
def bg_long.sg:FSig:={ nres:=2,ps:=some (1000,1) }
def bg_long.c:Ctr:=fun l=>match l with
 | [.sl .ws u,.sl .ws v] => .if_ (decide ((u).length≤1000000∧2≤(v).length∧(v).length≤(u).length∧32768≤((v).getLast?.getD 0).toNat)) [(.sl .ws (Nt.fix ((u).length+1 - (v).length) (Nt.val u / Nt.val v))),(.sl .ws (Nt.fix (v).length (Nt.val u % Nt.val v)))]
 | _ => .err
def bg_Div.sg:FSig:={ nres:=3 }
def bg_Div.c:Ctr:=fun l=>match l with
 | [.sl .ws a,.sl .ws b] => .if_ (Nt.is a&&Nt.is b&&decide (b≠[])) [(.sl .ws (Nt.of (Nt.val a / Nt.val b))),(.sl .ws (Nt.of (Nt.val a % Nt.val b))),(.b (true))]
 | _ => .err
def bg_Up.sg:FSig:={}
def bg_Up.c:Ctr:=fun l=>match l with
 | [.sl .ws a,.i .i64 n] => .if_ (decide (0≤n∧n≤4096)&&Nt.is a) [(.sl .ws (Nt.of (Nt.val a * 2 ^ (n).toNat)))]
 | _ => .err
def bg_more.sg:FSig:={}
def bg_more.c:Ctr:=fun l=>match l with
 | [.sl .ws a,.i .i64 b,.i .i64 c] => .if_ (decide ((a).length≤1000000∧1≤b∧b≤65535∧0≤c∧c≤65535)&&Nt.norm a) [(.sl .ws (Nt.of (Nt.val a * (b).toNat+(c).toNat)))]
 | _ => .err
def bg_Power.sg:FSig:={ nres:=2 }
def bg_Power.c:Ctr:=fun l=>match l with
 | [.i .i64 b,.i .i64 e] => .if_ (decide (2≤b∧b≤65535∧0≤e∧e≤1000∧(b).toNat ^ (e).toNat<2 ^ 4096)) [(.sl .ws (Nt.of ((b).toNat ^ (e).toNat))),(.b (true))]
 | _ => .err
def bg_Parse.sg:FSig:={ nres:=2 }
def bg_Parse.c:Ctr:=fun l=>match l with
 | [.s s] => .if_ (decide (1≤(s).length∧(s).length≤300∧(s).getD 0 0≠48)&&(s).all Nr.isDig) [(.sl .ws (Nt.of (Nr.num s))),(.b (true))]
 | _ => .err
def db_Join.sg:FSig:={ nres:=2 }
def db_Join.c:Ctr:=fun l=>match l with
 | [.b n,.u64 m,.i .i64 e] => .if_ (decide (-1100≤e∧e≤2000)) [(.u64 (Nr.pat (Nr.join n (m).toNat e))),(.b ((Nr.join n (m).toNat e).isSome))]
 | _ => .err
def nr_rounded.sg:FSig:={ nres:=2 }
def nr_rounded.c:Ctr:=fun l=>match l with
 | [.sl .ws a,.sl .ws b,.i .i64 e] => .if_ (Nt.is a&&Nt.is b&&decide (-4096≤e∧e≤4096∧0<Nt.val b∧Nr.scA (Nt.val a) e<2 ^ 4090∧Nr.scB (Nt.val b) e<2 ^ 4090∧Nr.scA (Nt.val a) e<2 ^ 60 * Nr.scB (Nt.val b) e)) [(.u64 (UInt64.ofNat (Nr.rnd (Nr.scA (Nt.val a) e) (Nr.scB (Nt.val b) e)))),(.b (Nr.rndUp (Nr.scA (Nt.val a) e) (Nr.scB (Nt.val b) e)))]
 | _ => .err
def nr_ratio.sg:FSig:={ nres:=2 }
def nr_ratio.c:Ctr:=fun l=>match l with
 | [.sl .ws a,.sl .ws b] => .if_ (Nt.is a&&Nt.is b&&decide (0<Nt.val a∧0<Nt.val b∧Nt.val a<2 ^ 1100∧Nt.val b<2 ^ 2200)) [(.u64 (Nr.pat (Nr.near (Nt.val a) (Nt.val b)))),(.b ((Nr.near (Nt.val a) (Nt.val b)).isSome))]
 | _ => .err
def nr_Read.sg:FSig:={ nres:=2 }
def nr_Read.c:Ctr:=fun l=>match l with
 | [.s d,.i .i64 x] => .ok [(.u64 (Nr.pat (Nr.read d x))),(.b ((Nr.read d x).isSome))]
 | _ => .err
def nr_power.sg:FSig:={}
def nr_power.c:Ctr:=fun l=>match l with
 | [.s s] => .if_ (decide (1≤(Nr.signed s).length∧(s).length≤300)&&(Nr.signed s).all Nr.isDig) [(.i .i64 (Nr.power s))]
 | _ => .err
def nr_Parse.sg:FSig:={ nres:=2 }
def nr_Parse.c:Ctr:=fun l=>match l with
 | [.s s] => .if_ (decide ((s).length≤1099511627776)) [(.u64 ((Nr.parse s).1)),(.i .i64 ((Nr.parse s).2))]
 | _ => .err
def wh_is.sg:FSig:={}
def wh_is.c:Ctr:=fun l=>match l with
 | [.s s,.i .i64 at_,.u8 c,.u8 d] => .if_ (decide ((s).length≤1099511627776)&&decide (0≤at_)) [(.b ((decide (at_<(s).length)&&(decide ((s).getD (at_).toNat 0=c) || decide ((s).getD (at_).toNat 0=d)))))]
 | _ => .err
def wh_digits.sg:FSig:={}
def wh_digits.c:Ctr:=fun l=>match l with
 | [.s s,.i .i64 at_] => .if_ (decide ((s).length≤1099511627776)&&decide (0≤at_∧at_≤1099511627776)) [(.i .i64 ((at_+(Nr.run ((s).drop (at_).toNat):Int))))]
 | _ => .err
def wh_Lexeme.sg:FSig:={}
def wh_Lexeme.c:Ctr:=fun l=>match l with
 | [.s s] => .if_ (decide ((s).length≤1099511627776)) [(.i .i64 (Nr.lexeme s))]
 | _ => .err
def r5_Digits.sg:FSig:={}
def r5_Digits.c:Ctr:=fun l=>match l with
 | [.u64 v] => .ok [(.s (Nr.dec (v).toNat))]
 | _ => .err
def r5_Int.sg:FSig:={}
def r5_Int.c:Ctr:=fun l=>match l with
 | [.i .i64 v] => .if_ (Nr.i64 v) [(.s (Nr.itoa v))]
 | _ => .err
def r9_Join.sg:FSig:={ nres:=2 }
def r9_Join.c:Ctr:=fun l=>match l with
 | [.b n,.u64 m,.i .i64 e] => .ok [(.u64 (Nr.pat (Nr.join n (m).toNat e))),(.b ((Nr.join n (m).toNat e).isSome))]
 | _ => .err
def r9_OfInt.sg:FSig:={ nres:=2 }
def r9_OfInt.c:Ctr:=fun l=>match l with
 | [.i .i64 v] => .if_ (Nr.i64 v) [(.u64 (Nr.pat (Nr.ofInt v))),(.b ((Nr.ofInt v).isSome))]
 | _ => .err
def bits_Len16.env:EV:=[]
def bits_Len16.E:TEnv:=envL nrGl bits_Len16.env
def bits_Len16.m1:TM:=oS [oV 2 7,oV 0 8,oK (.k (.ci .u8)) [8] [9],oX (.k .si) [.c (.s ([0,1,2,2,3,3,3,3,4,4,4,4,4,4,4,4,5,5,5,5,5,5,5,5,5,5,5,5,5,5,5,5,6,6,6,6,6,6,6,6,6,6,6,6,6,6,6,6,6,6,6,6,6,6,6,6,6,6,6,6,6,6,6,6,7,7,7,7,7,7,7,7,7,7,7,7,7,7,7,7,7,7,7,7,7,7,7,7,7,7,7,7,7,7,7,7,7,7,7,7,7,7,7,7,7,7,7,7,7,7,7,7,7,7,7,7,7,7,7,7,7,7,7,7,7,7,7,7,8,8,8,8,8,8,8,8,8,8,8,8,8,8,8,8,8,8,8,8,8,8,8,8,8,8,8,8,8,8,8,8,8,8,8,8,8,8,8,8,8,8,8,8,8,8,8,8,8,8,8,8,8,8,8,8,8,8,8,8,8,8,8,8,8,8,8,8,8,8,8,8,8,8,8,8,8,8,8,8,8,8,8,8,8,8,8,8,8,8,8,8,8,8,8,8,8,8,8,8,8,8,8,8,8,8,8,8,8,8,8,8,8,8,8,8,8,8,8,8,8,8,8,8,8,8,8,8]:Str)),.s 9] [10],oK (.k (.ci .i64)) [10] [11],oB .add 7 11 12,oV 12 2] .ret
def bits_Len16.m:TM:=oS [oW (.i .i64 0) 2] (.seq (oS [oV 0 3,oI .geq 3 (.u16 256) 4] (.cond (.s 4) [] (oS [oV 0 5,oI .shr 5 (.u64 8) 6,oV 6 0] (.reg [oW (.i .i64 8) 2])) .skip)) (some [0,2]) bits_Len16.m1)
def bits_Len16.d:TFD:=D0 1 bits_Len16.m [.t 2]
def bits_Len16.F (x:UInt16):OT:=bits_Len16.d.run bits_Len16.E [(.u16 x)]
def bits_Len16.j1 (x0:UInt16) (x1:Int):OT:=evO _ bits_Len16.E bits_Len16.m1 (headT [0,2] [(.u16 x0),(.i .i64 x1)]) (endK bits_Len16.d)
theorem bits_Len16.j1_in (x0:UInt16) (x1:Int) {ρ:OT} (K:∀(v1:UInt8) (h1:v1=(UInt8.ofInt ((x0).toNat:Int))) (v2:UInt8) (h2:v2=(List.getD ([0,1,2,2,3,3,3,3,4,4,4,4,4,4,4,4,5,5,5,5,5,5,5,5,5,5,5,5,5,5,5,5,6,6,6,6,6,6,6,6,6,6,6,6,6,6,6,6,6,6,6,6,6,6,6,6,6,6,6,6,6,6,6,6,7,7,7,7,7,7,7,7,7,7,7,7,7,7,7,7,7,7,7,7,7,7,7,7,7,7,7,7,7,7,7,7,7,7,7,7,7,7,7,7,7,7,7,7,7,7,7,7,7,7,7,7,7,7,7,7,7,7,7,7,7,7,7,7,8,8,8,8,8,8,8,8,8,8,8,8,8,8,8,8,8,8,8,8,8,8,8,8,8,8,8,8,8,8,8,8,8,8,8,8,8,8,8,8,8,8,8,8,8,8,8,8,8,8,8,8,8,8,8,8,8,8,8,8,8,8,8,8,8,8,8,8,8,8,8,8,8,8,8,8,8,8,8,8,8,8,8,8,8,8,8,8,8,8,8,8,8,8,8,8,8,8,8,8,8,8,8,8,8,8,8,8,8,8,8,8,8,8,8,8,8,8,8,8,8,8,8,8,8,8,8,8]:Str) (((v1).toNat:Int)).toNat (0:UInt8))) (v3:Int) (h3:v3=(IntKind.i64.wrap ((v2).toNat:Int))),ck (idxOK ((v1).toNat:Int) (([0,1,2,2,3,3,3,3,4,4,4,4,4,4,4,4,5,5,5,5,5,5,5,5,5,5,5,5,5,5,5,5,6,6,6,6,6,6,6,6,6,6,6,6,6,6,6,6,6,6,6,6,6,6,6,6,6,6,6,6,6,6,6,6,7,7,7,7,7,7,7,7,7,7,7,7,7,7,7,7,7,7,7,7,7,7,7,7,7,7,7,7,7,7,7,7,7,7,7,7,7,7,7,7,7,7,7,7,7,7,7,7,7,7,7,7,7,7,7,7,7,7,7,7,7,7,7,7,8,8,8,8,8,8,8,8,8,8,8,8,8,8,8,8,8,8,8,8,8,8,8,8,8,8,8,8,8,8,8,8,8,8,8,8,8,8,8,8,8,8,8,8,8,8,8,8,8,8,8,8,8,8,8,8,8,8,8,8,8,8,8,8,8,8,8,8,8,8,8,8,8,8,8,8,8,8,8,8,8,8,8,8,8,8,8,8,8,8,8,8,8,8,8,8,8,8,8,8,8,8,8,8,8,8,8,8,8,8,8,8,8,8,8,8,8,8,8,8,8,8,8,8,8,8,8,8]:Str)).length) (some [(.i .i64 (IntKind.i64.wrap (x1+v3)))])=ρ):bits_Len16.j1 x0 x1=ρ:=((congrFun (congrFun (ev_eq _ _) _) _).trans (by kernel_rfl)).trans (K _ rfl _ rfl _ rfl)
theorem bits_Len16.F_in (x:UInt16) {ρ:OT} (K:∀(v1:UInt16) (h1:v1=(shr16 x (((8:UInt64)).toNat))),cond (decide ((256:UInt16)≤x))
  (bits_Len16.j1 v1 (8:Int))
  (bits_Len16.j1 x (0:Int))=ρ):bits_Len16.F x=ρ:=Eq.trans (by kernel_rfl) (K _ rfl)
theorem bits_Len16.chk:CK 66 bits_Len16.env bits_Len16.d:=ckOf (by kernel_rfl)
def bits_Len64.env:EV:=[]
def bits_Len64.E:TEnv:=envL nrGl bits_Len64.env
def bits_Len64.m1:TM:=oS [oV 2 19,oV 0 20,oK (.k (.ci .u8)) [20] [21],oX (.k .si) [.c (.s ([0,1,2,2,3,3,3,3,4,4,4,4,4,4,4,4,5,5,5,5,5,5,5,5,5,5,5,5,5,5,5,5,6,6,6,6,6,6,6,6,6,6,6,6,6,6,6,6,6,6,6,6,6,6,6,6,6,6,6,6,6,6,6,6,7,7,7,7,7,7,7,7,7,7,7,7,7,7,7,7,7,7,7,7,7,7,7,7,7,7,7,7,7,7,7,7,7,7,7,7,7,7,7,7,7,7,7,7,7,7,7,7,7,7,7,7,7,7,7,7,7,7,7,7,7,7,7,7,8,8,8,8,8,8,8,8,8,8,8,8,8,8,8,8,8,8,8,8,8,8,8,8,8,8,8,8,8,8,8,8,8,8,8,8,8,8,8,8,8,8,8,8,8,8,8,8,8,8,8,8,8,8,8,8,8,8,8,8,8,8,8,8,8,8,8,8,8,8,8,8,8,8,8,8,8,8,8,8,8,8,8,8,8,8,8,8,8,8,8,8,8,8,8,8,8,8,8,8,8,8,8,8,8,8,8,8,8,8,8,8,8,8,8,8,8,8,8,8,8,8,8,8,8,8,8,8]:Str)),.s 21] [22],oK (.k (.ci .i64)) [22] [23],oB .add 19 23 24,oV 24 2] .ret
def bits_Len64.m2:TM := .seq (oS [oV 0 13,oI .geq 13 (.u64 256) 14] (.cond (.s 14) [] (oS [oV 0 15,oI .shr 15 (.u64 8) 16,oV 16 0] (.reg [oV 2 17,oI .add 17 (.i .i64 8) 18,oV 18 2])) .skip)) (some [0,2]) bits_Len64.m1
def bits_Len64.m3:TM := .seq (oS [oV 0 7,oI .geq 7 (.u64 65536) 8] (.cond (.s 8) [] (oS [oV 0 9,oI .shr 9 (.u64 16) 10,oV 10 0] (.reg [oV 2 11,oI .add 11 (.i .i64 16) 12,oV 12 2])) .skip)) (some [0,2]) bits_Len64.m2
def bits_Len64.m:TM:=oS [oW (.i .i64 0) 2] (.seq (oS [oV 0 3,oI .geq 3 (.u64 4294967296) 4] (.cond (.s 4) [] (oS [oV 0 5,oI .shr 5 (.u64 32) 6,oV 6 0] (.reg [oW (.i .i64 32) 2])) .skip)) (some [0,2]) bits_Len64.m3)
def bits_Len64.d:TFD:=D0 1 bits_Len64.m [.t 2]
def bits_Len64.F (x:UInt64):OT:=bits_Len64.d.run bits_Len64.E [(.u64 x)]
def bits_Len64.j1 (x0:UInt64) (x1:Int):OT:=evO _ bits_Len64.E bits_Len64.m3 (headT [0,2] [(.u64 x0),(.i .i64 x1)]) (endK bits_Len64.d)
def bits_Len64.j2 (x0:UInt64) (x1:Int):OT:=evO _ bits_Len64.E bits_Len64.m2 (headT [0,2] [(.u64 x0),(.i .i64 x1)]) (endK bits_Len64.d)
def bits_Len64.j3 (x0:UInt64) (x1:Int):OT:=evO _ bits_Len64.E bits_Len64.m1 (headT [0,2] [(.u64 x0),(.i .i64 x1)]) (endK bits_Len64.d)
theorem bits_Len64.j1_in (x0:UInt64) (x1:Int) {ρ:OT} (K:∀(v1:UInt64) (h1:v1=(shr64 x0 (((16:UInt64)).toNat))) (v2:Int) (h2:v2=(IntKind.i64.wrap (x1+(16:Int)))),cond (decide ((65536:UInt64)≤x0))
  (bits_Len64.j2 v1 v2)
  (bits_Len64.j2 x0 x1)=ρ):bits_Len64.j1 x0 x1=ρ:=((congrFun (congrFun (ev_eq _ _) _) _).trans (by kernel_rfl)).trans (K _ rfl _ rfl)
theorem bits_Len64.j2_in (x0:UInt64) (x1:Int) {ρ:OT} (K:∀(v1:UInt64) (h1:v1=(shr64 x0 (((8:UInt64)).toNat))) (v2:Int) (h2:v2=(IntKind.i64.wrap (x1+(8:Int)))),cond (decide ((256:UInt64)≤x0))
  (bits_Len64.j3 v1 v2)
  (bits_Len64.j3 x0 x1)=ρ):bits_Len64.j2 x0 x1=ρ:=((congrFun (congrFun (ev_eq _ _) _) _).trans (by kernel_rfl)).trans (K _ rfl _ rfl)
theorem bits_Len64.j3_in (x0:UInt64) (x1:Int) {ρ:OT} (K:∀(v1:UInt8) (h1:v1=(UInt8.ofInt ((x0).toNat:Int))) (v2:UInt8) (h2:v2=(List.getD ([0,1,2,2,3,3,3,3,4,4,4,4,4,4,4,4,5,5,5,5,5,5,5,5,5,5,5,5,5,5,5,5,6,6,6,6,6,6,6,6,6,6,6,6,6,6,6,6,6,6,6,6,6,6,6,6,6,6,6,6,6,6,6,6,7,7,7,7,7,7,7,7,7,7,7,7,7,7,7,7,7,7,7,7,7,7,7,7,7,7,7,7,7,7,7,7,7,7,7,7,7,7,7,7,7,7,7,7,7,7,7,7,7,7,7,7,7,7,7,7,7,7,7,7,7,7,7,7,8,8,8,8,8,8,8,8,8,8,8,8,8,8,8,8,8,8,8,8,8,8,8,8,8,8,8,8,8,8,8,8,8,8,8,8,8,8,8,8,8,8,8,8,8,8,8,8,8,8,8,8,8,8,8,8,8,8,8,8,8,8,8,8,8,8,8,8,8,8,8,8,8,8,8,8,8,8,8,8,8,8,8,8,8,8,8,8,8,8,8,8,8,8,8,8,8,8,8,8,8,8,8,8,8,8,8,8,8,8,8,8,8,8,8,8,8,8,8,8,8,8,8,8,8,8,8,8]:Str) (((v1).toNat:Int)).toNat (0:UInt8))) (v3:Int) (h3:v3=(IntKind.i64.wrap ((v2).toNat:Int))),ck (idxOK ((v1).toNat:Int) (([0,1,2,2,3,3,3,3,4,4,4,4,4,4,4,4,5,5,5,5,5,5,5,5,5,5,5,5,5,5,5,5,6,6,6,6,6,6,6,6,6,6,6,6,6,6,6,6,6,6,6,6,6,6,6,6,6,6,6,6,6,6,6,6,7,7,7,7,7,7,7,7,7,7,7,7,7,7,7,7,7,7,7,7,7,7,7,7,7,7,7,7,7,7,7,7,7,7,7,7,7,7,7,7,7,7,7,7,7,7,7,7,7,7,7,7,7,7,7,7,7,7,7,7,7,7,7,7,8,8,8,8,8,8,8,8,8,8,8,8,8,8,8,8,8,8,8,8,8,8,8,8,8,8,8,8,8,8,8,8,8,8,8,8,8,8,8,8,8,8,8,8,8,8,8,8,8,8,8,8,8,8,8,8,8,8,8,8,8,8,8,8,8,8,8,8,8,8,8,8,8,8,8,8,8,8,8,8,8,8,8,8,8,8,8,8,8,8,8,8,8,8,8,8,8,8,8,8,8,8,8,8,8,8,8,8,8,8,8,8,8,8,8,8,8,8,8,8,8,8,8,8,8,8,8,8]:Str)).length) (some [(.i .i64 (IntKind.i64.wrap (x1+v3)))])=ρ):bits_Len64.j3 x0 x1=ρ:=((congrFun (congrFun (ev_eq _ _) _) _).trans (by kernel_rfl)).trans (K _ rfl _ rfl _ rfl)
theorem bits_Len64.F_in (x:UInt64) {ρ:OT} (K:∀(v1:UInt64) (h1:v1=(shr64 x (((32:UInt64)).toNat))),cond (decide ((4294967296:UInt64)≤x))
  (bits_Len64.j1 v1 (32:Int))
  (bits_Len64.j1 x (0:Int))=ρ):bits_Len64.F x=ρ:=Eq.trans (by kernel_rfl) (K _ rfl)
theorem bits_Len64.chk:CK 72 bits_Len64.env bits_Len64.d:=ckOf (by kernel_rfl)
def sl_Cut.env:EV:=[(78,(sl_Index.c,sl_Index.sg))]
def sl_Cut.E:TEnv:=envL nrGl sl_Cut.env
def sl_Cut.m:TM:=oS [oW (.s []) 4,oW (.s []) 5,oW (.b false) 6] (.seq (oS [oV 0 8,oV 1 9,oC 78 2 1 [8,9] 10,oV 10 7] (oS [oV 7 11,oI .geq 11 (.i .i64 0) 12] (.cond (.s 12) [] (oS [oV 0 13,oV 7 14,oK (.k (.ss false true)) [13,14] [15],oV 0 16,oV 7 17,oV 1 18,oK (.k .lns) [18] [19],oB .add 17 19 20,oK (.k (.ss true false)) [16,20] [21],oV 15 4,oV 21 5,oW (.b true) 6] .ret) .skip))) none (oS [oV 0 22,oV 22 4,oW (.s []) 5,oW (.b false) 6] .ret))
def sl_Cut.d:TFD:=D0 2 sl_Cut.m [.t 4,.t 5,.t 6]
def sl_Cut.F (s:Str) (c:Str):OT:=sl_Cut.d.run sl_Cut.E [(.s s),(.s c)]
theorem sl_Cut.F_in (s:Str) (c:Str) {ρ:OT} (K:∀(v1:Str) (h1:v1=(List.take ((Lib.indexByte s 46)).toNat s)) (v2:Int) (h2:v2=(IntKind.i64.wrap ((Lib.indexByte s 46)+((c).length:Int)))),ck (decide ((s).length≤4294967280∧c=[46])) (cond (decide ((0:Int)≤(Lib.indexByte s 46)))
  (ck (cutOK 0 (Lib.indexByte s 46) (s).length) (ck (cutOK v2 (s).length (s).length) (some [(.s v1),(.s (List.drop (v2).toNat s)),(.b true)])))
  (some [(.s s),(.s []),(.b false)]))=ρ):sl_Cut.F s c=ρ:=Eq.trans (by kernel_rfl) (K _ rfl _ rfl)
theorem sl_Cut.chk:CK 56 sl_Cut.env sl_Cut.d:=ckOf (by kernel_rfl)
def st_Cut.env:EV:=[(56,(sl_Cut.c,sl_Cut.sg))]
def st_Cut.E:TEnv:=envL nrGl st_Cut.env
def st_Cut.m:TM:=oS [oW (.s []) 4,oW (.s []) 5,oW (.b false) 6] (oS [oV 0 7,oV 1 8,oC 56 2 3 [7,8] 9,oE 0 9 10,oE 1 9 11,oE 2 9 12,oV 10 4,oV 11 5,oV 12 6] .ret)
def st_Cut.d:TFD:=D0 2 st_Cut.m [.t 4,.t 5,.t 6]
def st_Cut.F (s:Str) (c:Str):OT:=st_Cut.d.run st_Cut.E [(.s s),(.s c)]
theorem st_Cut.F_in (s:Str) (c:Str) {ρ:OT} (K:∀(v1:Str) (h1:v1=((((s).dropWhile (· != 46)).drop 1))),ck (decide ((s).length≤4294967280∧c=[46])) (some [(.s (((s).takeWhile (· != 46)))),(.s v1),(.b (((s).contains 46)))])=ρ):st_Cut.F s c=ρ:=Eq.trans (by kernel_rfl) (K _ rfl)
theorem st_Cut.chk:CK 30 st_Cut.env st_Cut.d:=ckOf (by kernel_rfl)
theorem clone_ws.ok:KO 89 (clone_ws.c) clone_ws.sg:=clone_ok (by kernel_rfl)
def math_Trunc.env:EV:=[]
def math_Trunc.E:TEnv:=envL nrGl math_Trunc.env
def math_Trunc.m:TM:=oS [oW (.c (.float .f64 (0:Nat))) 2] (.seq (.cond (.c (.b true)) [] (oS [oV 0 3,oK (.k .xtr) [3] [4],oV 4 2] .ret) .skip) none (oS [oV 0 5,oC 102 1 1 [5] 6,oV 6 2] .ret))
def math_Trunc.d:TFD:=D0 1 math_Trunc.m [.t 2]
def math_Trunc.F (x:Nat):OT:=math_Trunc.d.run math_Trunc.E [(.c (.float .f64 x))]
theorem math_Trunc.F_eq (x:Nat):math_Trunc.F x=cond true
  (ck (Fl.num x) (some [(.c (.float .f64 (Fl.trunc x)))]))
  (none):=by kernel_rfl
theorem math_Trunc.chk:CK 96 math_Trunc.env math_Trunc.d:=ckOf (by kernel_rfl)
def gz_small.env:EV:=[(86,(gz_whole.c,gz_whole.sg))]
def gz_small.E:TEnv:=envL nrGl gz_small.env
def gz_small.m:TM:=oS [oW (.b false) 2] (oS [oV 0 3,oX (.k (.call 86 (.plain 2 1))) [.s 3,.c (.c (.float .f64 (4719772409484279808:Nat)))] [4],oV 4 2] .ret)
def gz_small.d:TFD:=D0 1 gz_small.m [.t 2]
def gz_small.F (z:Cx):OT:=gz_small.d.run gz_small.E [(.c (.complex .f64 z.1 z.2))]
theorem gz_small.F_eq (z:Cx):gz_small.F z=ck (Gz.inM z ((4719772409484279808:Nat))) (some [(.b (true))]):=by kernel_rfl
theorem gz_small.chk:CK 83 gz_small.env gz_small.d:=ckOf (by kernel_rfl)
def gz_Of.env:EV:=[]
def gz_Of.E:TEnv:=envL nrGl gz_Of.env
def gz_Of.m:TM:=oS [oW (.c (.complex .f64 ((0,0):Cx).1 ((0,0):Cx).2)) 4] (.seq (oS [oV 0 5,oI .lss 5 (.i .i64 (-33554432)) 6,oV 6 7,oG 7 false (oV 0 8),oG 7 false (oI .gtr 8 (.i .i64 33554432) 9),oX (.k .pick) [.s 7,.c (.b true),.s 9] [10],oV 10 11,oG 11 false (oV 1 12),oG 11 false (oI .lss 12 (.i .i64 (-33554432)) 13),oX (.k .pick) [.s 11,.c (.b true),.s 13] [14],oV 14 15,oG 15 false (oV 1 16),oG 15 false (oI .gtr 16 (.i .i64 33554432) 17),oX (.k .pick) [.s 15,.c (.b true),.s 17] [18]] (.cond (.s 18) [] (oS [oW (.c (.complex .f64 ((0,0):Cx).1 ((0,0):Cx).2)) 4] .ret) .skip)) none (oS [oV 0 19,oK (.k .cf) [19] [20],oV 1 21,oK (.k .cf) [21] [22],oK (.k .cx) [20,22] [23],oV 23 4] .ret))
def gz_Of.d:TFD:=D0 2 gz_Of.m [.t 4]
def gz_Of.F (x:Int) (y:Int):OT:=gz_Of.d.run gz_Of.E [(.i .i64 x),(.i .i64 y)]
theorem gz_Of.F_in (x:Int) (y:Int) {ρ:OT} (K:∀(v1:Bool) (h1:v1=(cond (decide (x<(-33554432:Int))) true (decide ((33554432:Int)<x)))) (v2:Bool) (h2:v2=(cond v1 true (decide (y<(-33554432:Int))))) (v3:Bool) (h3:v3=(cond v2 true (decide ((33554432:Int)<y)))) (v4:Cx) (h4:v4=(((Fl.ofInt x),(Fl.ofInt y)):Cx)),ck (!(!(decide (x<(-33554432:Int)))) || (!(decide (x<(-33554432:Int))))) (ck ((decide (x<(-33554432:Int))) || (!(decide (x<(-33554432:Int))))) (ck (!(!v1) || (!v1)) (ck (v1 || (!v1)) (ck (!(!v2) || (!v2)) (ck (v2 || (!v2)) (cond v3
  (some [(.c (.complex .f64 ((0,0):Cx).1 ((0,0):Cx).2))])
  (some [(.c (.complex .f64 v4.1 v4.2))])))))))=ρ):gz_Of.F x y=ρ:=Eq.trans (by kernel_rfl) (K _ rfl _ rfl _ rfl _ rfl)
theorem gz_Of.chk:CK 81 gz_Of.env gz_Of.d:=ckOf (by kernel_rfl)
def gz_Parts.env:EV:=[(86,(gz_whole.c,gz_whole.sg))]
def gz_Parts.E:TEnv:=envL nrGl gz_Parts.env
def gz_Parts.m:TM:=oS [oW (.i .i64 0) 2,oW (.i .i64 0) 3,oW (.b false) 4] (.seq (oS [oV 0 5,oX (.k (.call 86 (.plain 2 1))) [.s 5,.c (.c (.float .f64 (4841369599423283200:Nat)))] [6],oK (.k (.un .not)) [6] [7]] (.cond (.s 7) [] (oS [oW (.i .i64 0) 2,oW (.i .i64 0) 3,oW (.b false) 4] .ret) .skip)) none (oS [oV 0 8,oK (.k .rl) [8] [9],oK (.k .fc) [9] [10],oV 0 11,oK (.k .im) [11] [12],oK (.k .fc) [12] [13],oV 10 2,oV 13 3,oW (.b true) 4] .ret))
def gz_Parts.d:TFD:=D0 1 gz_Parts.m [.t 2,.t 3,.t 4]
def gz_Parts.F (z:Cx):OT:=gz_Parts.d.run gz_Parts.E [(.c (.complex .f64 z.1 z.2))]
theorem gz_Parts.F_eq (z:Cx):gz_Parts.F z=ck (Gz.inM z ((4841369599423283200:Nat))) (cond (!(true))
  (some [(.i .i64 0),(.i .i64 0),(.b false)])
  (ck (Fl.toIntOK z.1) (ck (Fl.toIntOK z.2) (some [(.i .i64 (Fl.toInt z.1)),(.i .i64 (Fl.toInt z.2)),(.b true)])))):=by kernel_rfl
theorem gz_Parts.chk:CK 65 gz_Parts.env gz_Parts.d:=ckOf (by kernel_rfl)
def gz_Turn.env:EV:=[(86,(gz_whole.c,gz_whole.sg))]
def gz_Turn.E:TEnv:=envL nrGl gz_Turn.env
def gz_Turn.m:TM:=oS [oW (.c (.complex .f64 ((0,0):Cx).1 ((0,0):Cx).2)) 4] (.seq (oS [oV 0 6,oX (.k (.call 86 (.plain 2 1))) [.s 6,.c (.c (.float .f64 (4841369599423283200:Nat)))] [7],oK (.k (.un .not)) [7] [8]] (.cond (.s 8) [] (oS [oW (.c (.complex .f64 ((0,0):Cx).1 ((0,0):Cx).2)) 4] .ret) .skip)) none (oS [oX (.bd [(.c (.complex .f64 ((0,0):Cx).1 ((0,0):Cx).2)),(.c (.complex .f64 ((0,0):Cx).1 ((0,0):Cx).2)),(.c (.complex .f64 ((0,0):Cx).1 ((0,0):Cx).2)),(.c (.complex .f64 ((0,0):Cx).1 ((0,0):Cx).2))] [(0,1),(1,1),(2,1),(3,1)]) [.c (.c (.complex .f64 ((4607182418800017408,0):Cx).1 ((4607182418800017408,0):Cx).2)),.c (.c (.complex .f64 ((0,4607182418800017408):Cx).1 ((0,4607182418800017408):Cx).2)),.c (.c (.complex .f64 ((13830554455654793216,0):Cx).1 ((13830554455654793216,0):Cx).2)),.c (.c (.complex .f64 ((0,13830554455654793216):Cx).1 ((0,13830554455654793216):Cx).2))] [9],oN 1016 [(.c (.complex .f64 ((0,0):Cx).1 ((0,0):Cx).2)),(.c (.complex .f64 ((0,0):Cx).1 ((0,0):Cx).2)),(.c (.complex .f64 ((0,0):Cx).1 ((0,0):Cx).2)),(.c (.complex .f64 ((0,0):Cx).1 ((0,0):Cx).2))] 5,oT 1016 0 4 5 9] (oS [oV 0 10,oV 1 11,oI .and 11 (.i .i64 3) 12,oK (.k (.la 1016 4 1)) [5,12,1016] [13],oK (.k (.ll 1016 1)) [13,1016] [14],oB .mul 10 14 15,oV 15 4] .ret)))
def gz_Turn.d:TFD:=D0 2 gz_Turn.m [.t 4]
def gz_Turn.F (z:Cx) (k:Int):OT:=gz_Turn.d.run gz_Turn.E [(.c (.complex .f64 z.1 z.2)),(.i .i64 k)]
theorem gz_Turn.F_in (z:Cx) (k:Int) {ρ:OT} (K:∀(v1:Cx) (h1:v1=((4607182418800017408,0):Cx)) (v2:Cx) (h2:v2=((0,4607182418800017408):Cx)) (v3:Cx) (h3:v3=((13830554455654793216,0):Cx)) (v4:Cx) (h4:v4=((0,13830554455654793216):Cx)) (v5:Int) (h5:v5=(intBitsV .and .i64 k (3:Int))) (v6:Cx) (h6:v6=(List.getD ([v1,v2,v3,v4]:List Cx) ((v5).toNat) (0,0))) (v7:Cx) (h7:v7=((Fl.cmulRe z.1 z.2 v6.1 v6.2,Fl.cmulIm z.1 z.2 v6.1 v6.2):Cx)),ck (Gz.inM z ((4841369599423283200:Nat))) (cond (!(true))
  (some [(.c (.complex .f64 ((0,0):Cx).1 ((0,0):Cx).2))])
  (ck (idxOK v5 4) (ck (decide ((v5).toNat<4)) (ck (Fl.cmulOK z.1 z.2 v6.1 v6.2) (some [(.c (.complex .f64 v7.1 v7.2))])))))=ρ):gz_Turn.F z k=ρ:=Eq.trans (by kernel_rfl) (K _ rfl _ rfl _ rfl _ rfl _ rfl _ rfl _ rfl)
theorem gz_Turn.chk:CK 97 gz_Turn.env gz_Turn.d:=ckOf (by kernel_rfl)
def gz_Times.env:EV:=[(83,(gz_small.c,gz_small.sg))]
def gz_Times.E:TEnv:=envL nrGl gz_Times.env
def gz_Times.m:TM:=oS [oW (.c (.complex .f64 ((0,0):Cx).1 ((0,0):Cx).2)) 4] (.seq (oS [oV 0 5,oC 83 1 1 [5] 6,oK (.k (.un .not)) [6] [7],oV 7 8,oG 8 false (oV 1 9),oG 8 false (oC 83 1 1 [9] 10),oG 8 false (oK (.k (.un .not)) [10] [11]),oX (.k .pick) [.s 8,.c (.b true),.s 11] [12]] (.cond (.s 12) [] (oS [oW (.c (.complex .f64 ((0,0):Cx).1 ((0,0):Cx).2)) 4] .ret) .skip)) none (oS [oV 0 13,oV 1 14,oB .mul 13 14 15,oV 15 4] .ret))
def gz_Times.d:TFD:=D0 2 gz_Times.m [.t 4]
def gz_Times.F (z:Cx) (w:Cx):OT:=gz_Times.d.run gz_Times.E [(.c (.complex .f64 z.1 z.2)),(.c (.complex .f64 w.1 w.2))]
theorem gz_Times.F_in (z:Cx) (w:Cx) {ρ:OT} (K:∀(v1:Bool) (h1:v1=(cond (!(true)) true (!(true)))) (v2:Cx) (h2:v2=((Fl.cmulRe z.1 z.2 w.1 w.2,Fl.cmulIm z.1 z.2 w.1 w.2):Cx)),ck (Gz.inB z 33554432) (ck (!(!(!(true))) || ((!(!(true)))&&(Gz.inB w 33554432))) (ck (!(!(!(true))) || (!(!(true)))) (ck ((!(true)) || (!(!(true)))) (cond v1
  (some [(.c (.complex .f64 ((0,0):Cx).1 ((0,0):Cx).2))])
  (ck (Fl.cmulOK z.1 z.2 w.1 w.2) (some [(.c (.complex .f64 v2.1 v2.2))]))))))=ρ):gz_Times.F z w=ρ:=Eq.trans (by kernel_rfl) (K _ rfl _ rfl)
theorem gz_Times.chk:CK 63 gz_Times.env gz_Times.d:=ckOf (by kernel_rfl)
def wv_fit1.env:EV:=[(96,(math_Trunc.c,math_Trunc.sg))]
def wv_fit1.E:TEnv:=envL nrGl wv_fit1.env
def wv_fit1.m:TM:=oS [oW (.b false) 2] (oS [oV 0 3,oI .geq 3 (.c (.float .f64 (14055734437023318016:Nat))) 4,oV 4 5,oG 5 true (oV 0 6),oG 5 true (oI .leq 6 (.c (.float .f64 (4832362400168542208:Nat))) 7),oP 5 7 false 8,oV 8 9,oG 9 true (oV 0 10),oG 9 true (oV 0 11),oG 9 true (oC 96 1 1 [11] 12),oG 9 true (oB .eql 10 12 13),oP 9 13 false 14,oV 14 2] .ret)
def wv_fit1.d:TFD:=D0 1 wv_fit1.m [.t 2]
def wv_fit1.F (x:Nat):OT:=wv_fit1.d.run wv_fit1.E [(.c (.float .f64 x))]
theorem wv_fit1.F_in (x:Nat) {ρ:OT} (K:∀(v1:Bool) (h1:v1=(Fl.gt x (14055734437023318016:Nat) || Fl.eq x (14055734437023318016:Nat))) (v2:Bool) (h2:v2=(Fl.lt x (4832362400168542208:Nat) || Fl.eq x (4832362400168542208:Nat))) (v3:Bool) (h3:v3=(cond (cond v1 v2 false) (Fl.eq x (Fl.trunc x)) false)),ck (!v1 || v1) (ck (!v1 || v1) (ck (!(cond v1 v2 false) || ((cond v1 v2 false)&&(Fl.num x))) (ck (!(cond v1 v2 false) || ((cond v1 v2 false)&&(cond v1 v2 false))) (ck (!(cond v1 v2 false) || (cond v1 v2 false)) (some [(.b v3)])))))=ρ):wv_fit1.F x=ρ:=Eq.trans (by kernel_rfl) (K _ rfl _ rfl _ rfl)
theorem wv_fit1.chk:CK 95 wv_fit1.env wv_fit1.d:=ckOf (by kernel_rfl)
def wv_fit.env:EV:=[(95,(wv_fit1.c,wv_fit1.sg))]
def wv_fit.E:TEnv:=envL nrGl wv_fit.env
def wv_fit.m1:TM:=oS [oI .lss 7 (.i .i64 4) 8] (.seq (.cond (.s 8) [] .skip (.exit 0)) none (.seq (.block 1 [] (oS [oK (.k (.ai 4 1 false)) [6,7] [9],oV 9 5] (oS [oV 3 10,oV 5 11,oK (.k .rl) [11] [12],oK (.k (.callq 95 1 1)) [10,12] [13],oK (.k (.un .not)) [13] [14],oV 14 15,oG 15 false (oV 3 16),oG 15 false (oV 5 17),oG 15 false (oK (.k .im) [17] [18]),oG 15 false (oK (.k (.callq 95 1 1)) [16,18] [19]),oG 15 false (oK (.k (.un .not)) [19] [20]),oX (.k .pick) [.s 15,.c (.b true),.s 20] [21]] (.cond (.s 21) [] (oS [oW (.b false) 2] .ret) .skip)))) none (.reg [oI .add 7 (.i .i64 1) 22,oV 22 7])))
def wv_fit.m:TM:=oS [oK (.k (.bx 1023)) [0,1023] [1,1023],oW (.b false) 2] (oS [oW (.c (.func (.func 95) #[] #[])) 3] (.seq (oS [oM 1023 0 4 1 6,oW (.i .i64 0) 7] (.block 0 [] (.loop [3,6,7] [] wv_fit.m1))) none (oS [oW (.b true) 2] .ret)))
def wv_fit.d:TFD:=D0 1 wv_fit.m [.t 2]
def wv_fit.F (l:Qd):OT:=wv_fit.d.run wv_fit.E [(.ag (Qd.cells l))]
def wv_fit.k1:Cont (List TV):=seqK (ev _ wv_fit.E (oS [oW (.b true) 2] .ret)) none (endK wv_fit.d)
def wv_fit.l1 (x0:Qd) (x1:Int):OT:=loopL (evO _ wv_fit.E wv_fit.m1) isN [3,6,7] (headT [3,6,7] [(.c (.func (.func 95) #[] #[])),(.ag (Qd.cells x0)),(.i .i64 x1)]) (blockK 0 wv_fit.k1)
theorem wv_fit.l1_in (x0:Qd) (x1:Int) {ρ:OT} (K:∀(v1:Bool) (h1:v1=(cond (!(true)) true (!(true)))) (v2:Int) (h2:v2=(IntKind.i64.wrap (x1+(1:Int)))),cond (decide (x1<(4:Int)))
  (ck (idxOK x1 4) (ck (Gz.inR ((Qd.get x0 ((x1).toNat)).1)) (ck (!(!(!(true))) || (!(!(true)))) (ck (!(!(!(true))) || (((!(!(true)))&&(!(!(true))))&&(Gz.inR ((Qd.get x0 ((x1).toNat)).2)))) (ck (!(!(!(true))) || (!(!(true)))) (ck ((!(true)) || (!(!(true)))) (cond v1
  (some [(.b false)])
  (wv_fit.l1 x0 v2))))))))
  (some [(.b true)])=ρ):wv_fit.l1 x0 x1=ρ:=((ev_loop _ _ _ _ _ _).trans (by kernel_rfl)).trans (K _ rfl _ rfl)
theorem wv_fit.F_eq (l:Qd):wv_fit.F l=wv_fit.l1 l (0:Int):=by kernel_rfl
theorem wv_fit.chk:CK 84 wv_fit.env wv_fit.d:=ckOf (by kernel_rfl)
def wv_sums.env:EV:=[(97,(gz_Turn.c,gz_Turn.sg))]
def wv_sums.E:TEnv:=envL nrGl wv_sums.env
def wv_sums.m1:TM:=oS [oI .lss 13 (.i .i64 4) 14] (.seq (.cond (.s 14) [] .skip (.exit 2)) none (.seq (.block 3 [(2,.ptr 1032 0),(4,.ptr 1033 0),(5,.ptr 1034 0),(1032,.cl []),(1033,.cl []),(1034,.cl [])] (oS [oV 13 15,oK (.k (.ai 4 1 false)) [12,13] [16],oV 15 7,oV 16 8] (.reg [oV 6 17,oK (.k (.la 1034 4 1)) [5,17,1034] [18],oK (.k (.ll 1034 1)) [18,1034] [19],oV 8 20,oV 7 21,oV 6 22,oB .mul 21 22 23,oV 1 24,oB .mul 23 24 25,oC 97 2 1 [20,25] 26,oB .add 19 26 27,oK (.k (.la 1034 4 1)) [5,17,1034] [28],oK (.k (.ls 1034 1)) [28,1034,27] [1034]]))) none (.reg [oI .add 13 (.i .i64 1) 29,oV 29 13])))
def wv_sums.m2:TM:=oS [oI .lss 9 (.i .i64 4) 10] (.seq (.cond (.s 10) [] .skip (.exit 0)) none (.seq (.block 1 [(2,.ptr 1032 0),(4,.ptr 1033 0),(5,.ptr 1034 0),(1032,.cl []),(1033,.cl []),(1034,.cl [])] (oS [oV 9 11,oV 11 6] (oS [oM 1032 0 4 2 12,oW (.i .i64 0) 13] (.block 2 [(2,.ptr 1032 0),(4,.ptr 1033 0),(5,.ptr 1034 0),(1032,.cl []),(1033,.cl []),(1034,.cl [])] (.loop [1,2,4,5,6,9,12,13,1032,1033,1034] [(2,.ptr 1032 0),(4,.ptr 1033 0),(5,.ptr 1034 0),(1032,.cl []),(1033,.cl []),(1034,.cl [])] wv_sums.m1))))) none (.reg [oI .add 9 (.i .i64 1) 30,oV 30 9])))
def wv_sums.m:TM:=oS [oK (.k (.bx 1032)) [0,1032] [2,1032],oN 1033 [(.c (.complex .f64 ((0,0):Cx).1 ((0,0):Cx).2)),(.c (.complex .f64 ((0,0):Cx).1 ((0,0):Cx).2)),(.c (.complex .f64 ((0,0):Cx).1 ((0,0):Cx).2)),(.c (.complex .f64 ((0,0):Cx).1 ((0,0):Cx).2))] 4] (oS [oN 1034 [(.c (.complex .f64 ((0,0):Cx).1 ((0,0):Cx).2)),(.c (.complex .f64 ((0,0):Cx).1 ((0,0):Cx).2)),(.c (.complex .f64 ((0,0):Cx).1 ((0,0):Cx).2)),(.c (.complex .f64 ((0,0):Cx).1 ((0,0):Cx).2))] 5] (.seq (oS [oW (.i .i64 0) 9] (.block 0 [(4,.ptr 1033 0),(5,.ptr 1034 0),(1033,.cl []),(1034,.cl [])] (.loop [1,2,4,5,9,1032,1033,1034] [(2,.ptr 1032 0),(4,.ptr 1033 0),(5,.ptr 1034 0),(1032,.cl []),(1033,.cl []),(1034,.cl [])] wv_sums.m2))) none (oS [oM 1034 0 4 5 31,oT 1033 0 4 4 31] .ret)))
def wv_sums.d:TFD:=D0 2 wv_sums.m [.c 4 1033 4 true]
def wv_sums.F (l:Qd) (w:Int):OT:=wv_sums.d.run wv_sums.E [(.ag (Qd.cells l)),(.i .i64 w)]
def wv_sums.k1:Cont (List TV):=seqK (ev _ wv_sums.E (oS [oM 1034 0 4 5 31,oT 1033 0 4 4 31] .ret)) none (endK wv_sums.d)
def wv_sums.k2:Cont (List TV):=againK (evO _ wv_sums.E wv_sums.m2) isN [1,2,4,5,9,1032,1033,1034] (blockK 0 wv_sums.k1)
def wv_sums.k3:Cont (List TV):=seqK (ev _ wv_sums.E (.reg [oI .add 9 (.i .i64 1) 30,oV 30 9])) none wv_sums.k2
def wv_sums.l1 (x0:Int) (x1:Int) (x2:Qd) (x3:Qd) (x4:Qd):OT:=loopL (evO _ wv_sums.E wv_sums.m2) isN [1,2,4,5,9,1032,1033,1034] (headT [1,2,4,5,9,1032,1033,1034] [(.i .i64 x0),.pt,.pt,.pt,(.i .i64 x1),(.ag (Qd.cells x2)),(.ag (Qd.cells x3)),(.ag (Qd.cells x4))]) (blockK 0 wv_sums.k1)
def wv_sums.l2 (x0:Int) (x1:Int) (x2:Int) (x3:Qd) (x4:Int) (x5:Qd) (x6:Qd) (x7:Qd):OT:=loopL (evO _ wv_sums.E wv_sums.m1) isN [1,2,4,5,6,9,12,13,1032,1033,1034] (headT [1,2,4,5,6,9,12,13,1032,1033,1034] [(.i .i64 x0),.pt,.pt,.pt,(.i .i64 x1),(.i .i64 x2),(.ag (Qd.cells x3)),(.i .i64 x4),(.ag (Qd.cells x5)),(.ag (Qd.cells x6)),(.ag (Qd.cells x7))]) (blockK 2 (blockK 1 wv_sums.k3))
theorem wv_sums.l1_eq (x0:Int) (x1:Int) (x2:Qd) (x3:Qd) (x4:Qd):wv_sums.l1 x0 x1 x2 x3 x4=cond (decide (x1<(4:Int)))
  (wv_sums.l2 x0 x1 x1 x2 (0:Int) x2 x3 x4)
  (some [(.ag (Qd.cells x4))]):=((ev_loop _ _ _ _ _ _).trans (by kernel_rfl))
theorem wv_sums.l2_in (x0:Int) (x1:Int) (x2:Int) (x3:Qd) (x4:Int) (x5:Qd) (x6:Qd) (x7:Qd) {ρ:OT} (K:∀(v1:Int) (h1:v1=(IntKind.i64.wrap ((IntKind.i64.wrap (x4 * x1)) * x0))) (v2:Cx) (h2:v2=(Gz.turn ((Qd.get x3 ((x4).toNat))) v1)) (v3:Cx) (h3:v3=((Fl.add (Qd.get x7 ((x1).toNat)).1 v2.1,Fl.add (Qd.get x7 ((x1).toNat)).2 v2.2):Cx)) (v4:Int) (h4:v4=(IntKind.i64.wrap (x4+(1:Int)))) (v5:Int) (h5:v5=(IntKind.i64.wrap (x2+(1:Int)))),cond (decide (x4<(4:Int)))
  (ck (idxOK x4 4) (ck (idxOK x1 4) (ck (decide ((x1).toNat<4)) (ck (Gz.inB ((Qd.get x3 ((x4).toNat))) 1125899906842624&&decide (-100≤v1∧v1≤100)) (ck (Fl.addOK (Qd.get x7 ((x1).toNat)).1 v2.1&&Fl.addOK (Qd.get x7 ((x1).toNat)).2 v2.2) (ck (idxOK x1 4) (ck (decide ((x1).toNat<4)) (wv_sums.l2 x0 x1 x2 x3 v4 x5 x6 (Qd.set x7 ((x1).toNat) v3)))))))))
  (wv_sums.l1 x0 v5 x5 x6 x7)=ρ):wv_sums.l2 x0 x1 x2 x3 x4 x5 x6 x7=ρ:=((ev_loop _ _ _ _ _ _).trans (by kernel_rfl)).trans (K _ rfl _ rfl _ rfl _ rfl _ rfl)
theorem wv_sums.F_eq (l:Qd) (w:Int):wv_sums.F l w=wv_sums.l1 w (0:Int) l (Qd.mk ((0,0):Cx) ((0,0):Cx) ((0,0):Cx) ((0,0):Cx)) (Qd.mk ((0,0):Cx) ((0,0):Cx) ((0,0):Cx) ((0,0):Cx)):=by kernel_rfl
theorem wv_sums.chk:CK 85 wv_sums.env wv_sums.d:=ckOf (by kernel_rfl)
def wv_Four.env:EV:=[(84,(wv_fit.c,wv_fit.sg)),(85,(wv_sums.c,wv_sums.sg))]
def wv_Four.E:TEnv:=envL nrGl wv_Four.env
def wv_Four.m:TM:=oS [oK (.k (.bx 1009)) [0,1009] [1,1009],oN 1010 [(.c (.complex .f64 ((0,0):Cx).1 ((0,0):Cx).2)),(.c (.complex .f64 ((0,0):Cx).1 ((0,0):Cx).2)),(.c (.complex .f64 ((0,0):Cx).1 ((0,0):Cx).2)),(.c (.complex .f64 ((0,0):Cx).1 ((0,0):Cx).2))] 2] (.seq (oS [oM 1009 0 4 1 3,oC 84 1 1 [3] 4,oK (.k (.un .not)) [4] [5]] (.cond (.s 5) [] (oS [oK (.bd [(.c (.complex .f64 ((0,0):Cx).1 ((0,0):Cx).2)),(.c (.complex .f64 ((0,0):Cx).1 ((0,0):Cx).2)),(.c (.complex .f64 ((0,0):Cx).1 ((0,0):Cx).2)),(.c (.complex .f64 ((0,0):Cx).1 ((0,0):Cx).2))] []) [] [6],oT 1010 0 4 2 6] .ret) .skip)) none (oS [oM 1009 0 4 1 7,oX (.k (.call 85 (.plain 2 1))) [.s 7,.c (.i .i64 1)] [8],oT 1010 0 4 2 8] .ret))
def wv_Four.d:TFD:=D0 1 wv_Four.m [.c 2 1010 4 true]
def wv_Four.F (l:Qd):OT:=wv_Four.d.run wv_Four.E [(.ag (Qd.cells l))]
theorem wv_Four.F_eq (l:Qd):wv_Four.F l=ck (Gz.inQ l 1125899906842624) (cond (!(true))
  (some [(.ag [(.c (.complex .f64 ((0,0):Cx).1 ((0,0):Cx).2)),(.c (.complex .f64 ((0,0):Cx).1 ((0,0):Cx).2)),(.c (.complex .f64 ((0,0):Cx).1 ((0,0):Cx).2)),(.c (.complex .f64 ((0,0):Cx).1 ((0,0):Cx).2))])])
  (ck (Gz.inQ l 1125899906842624&&decide (((1:Int))=1∨((1:Int))=-1)) (some [(.ag (Qd.cells (Gz.sums l ((1:Int)))))]))):=by kernel_rfl
theorem wv_Four.chk:CK 82 wv_Four.env wv_Four.d:=ckOf (by kernel_rfl)
def wv_Back.env:EV:=[(65,(gz_Parts.c,gz_Parts.sg)),(84,(wv_fit.c,wv_fit.sg)),(85,(wv_sums.c,wv_sums.sg))]
def wv_Back.E:TEnv:=envL nrGl wv_Back.env
def wv_Back.m1:TM:=oS [oI .lss 17 (.i .i64 4) 18] (.seq (.cond (.s 18) [] .skip (.exit 0)) none (.seq (.block 1 [(2,.ptr 1052 0),(4,.ptr 1053 0),(1052,.cl []),(1053,.cl [])] (oS [oV 17 19,oK (.k (.ai 4 1 false)) [16,17] [20],oV 19 5,oV 20 6] (oS [oV 6 22,oC 65 1 3 [22] 23,oV 23 21,oE 0 21 24,oE 1 21 25,oE 2 21 26,oV 24 7,oV 25 8,oV 26 9] (.seq (oS [oV 9 27,oK (.k (.un .not)) [27] [28],oV 28 29,oG 29 false (oV 7 30),oG 29 false (oI .rem 30 (.i .i64 4) 31),oG 29 false (oI .neq 31 (.i .i64 0) 32),oX (.k .pick) [.s 29,.c (.b true),.s 32] [33],oV 33 34,oG 34 false (oV 8 35),oG 34 false (oI .rem 35 (.i .i64 4) 36),oG 34 false (oI .neq 36 (.i .i64 0) 37),oX (.k .pick) [.s 34,.c (.b true),.s 37] [38]] (.cond (.s 38) [] (oS [oK (.bd [(.c (.complex .f64 ((0,0):Cx).1 ((0,0):Cx).2)),(.c (.complex .f64 ((0,0):Cx).1 ((0,0):Cx).2)),(.c (.complex .f64 ((0,0):Cx).1 ((0,0):Cx).2)),(.c (.complex .f64 ((0,0):Cx).1 ((0,0):Cx).2))] []) [] [39],oT 1052 0 4 2 39,oW (.b false) 3] .ret) .skip)) none (.reg [oV 5 40,oV 7 41,oI .quo 41 (.i .i64 4) 42,oK (.k .cf) [42] [43],oV 8 44,oI .quo 44 (.i .i64 4) 45,oK (.k .cf) [45] [46],oK (.k .cx) [43,46] [47],oK (.k (.la 1053 4 1)) [4,40,1053] [48],oK (.k (.ls 1053 1)) [48,1053,47] [1053]]))))) none (.reg [oI .add 17 (.i .i64 1) 49,oV 49 17])))
def wv_Back.m:TM:=oS [oK (.k (.bx 1051)) [0,1051] [1,1051],oN 1052 [(.c (.complex .f64 ((0,0):Cx).1 ((0,0):Cx).2)),(.c (.complex .f64 ((0,0):Cx).1 ((0,0):Cx).2)),(.c (.complex .f64 ((0,0):Cx).1 ((0,0):Cx).2)),(.c (.complex .f64 ((0,0):Cx).1 ((0,0):Cx).2))] 2,oW (.b false) 3] (.seq (oS [oM 1051 0 4 1 10,oC 84 1 1 [10] 11,oK (.k (.un .not)) [11] [12]] (.cond (.s 12) [] (oS [oK (.bd [(.c (.complex .f64 ((0,0):Cx).1 ((0,0):Cx).2)),(.c (.complex .f64 ((0,0):Cx).1 ((0,0):Cx).2)),(.c (.complex .f64 ((0,0):Cx).1 ((0,0):Cx).2)),(.c (.complex .f64 ((0,0):Cx).1 ((0,0):Cx).2))] []) [] [13],oT 1052 0 4 2 13,oW (.b false) 3] .ret) .skip)) none (oS [oM 1051 0 4 1 14,oX (.k (.call 85 (.plain 2 1))) [.s 14,.c (.i .i64 (-1))] [15],oN 1053 [(.c (.complex .f64 ((0,0):Cx).1 ((0,0):Cx).2)),(.c (.complex .f64 ((0,0):Cx).1 ((0,0):Cx).2)),(.c (.complex .f64 ((0,0):Cx).1 ((0,0):Cx).2)),(.c (.complex .f64 ((0,0):Cx).1 ((0,0):Cx).2))] 4,oT 1053 0 4 4 15] (.seq (oS [oM 1053 0 4 4 16,oW (.i .i64 0) 17] (.block 0 [(2,.ptr 1052 0),(4,.ptr 1053 0),(1052,.cl []),(1053,.cl [])] (.loop [2,4,16,17,1052,1053] [(2,.ptr 1052 0),(4,.ptr 1053 0),(1052,.cl []),(1053,.cl [])] wv_Back.m1))) none (oS [oM 1053 0 4 4 50,oT 1052 0 4 2 50,oW (.b true) 3] .ret))))
def wv_Back.d:TFD:=D0 1 wv_Back.m [.c 2 1052 4 true,.t 3]
def wv_Back.F (l:Qd):OT:=wv_Back.d.run wv_Back.E [(.ag (Qd.cells l))]
def wv_Back.k1:Cont (List TV):=seqK (ev _ wv_Back.E (oS [oM 1053 0 4 4 50,oT 1052 0 4 2 50,oW (.b true) 3] .ret)) none (endK wv_Back.d)
def wv_Back.l1 (x0:Qd) (x1:Int) (x2:Qd) (x3:Qd):OT:=loopL (evO _ wv_Back.E wv_Back.m1) isN [2,4,16,17,1052,1053] (headT [2,4,16,17,1052,1053] [.pt,.pt,(.ag (Qd.cells x0)),(.i .i64 x1),(.ag (Qd.cells x2)),(.ag (Qd.cells x3))]) (blockK 0 wv_Back.k1)
theorem wv_Back.l1_in (x0:Qd) (x1:Int) (x2:Qd) (x3:Qd) {ρ:OT} (K:∀(v1:Int) (h1:v1=(Fl.toInt (((Qd.get x0 ((x1).toNat)))).1)) (v2:Int) (h2:v2=(Fl.toInt (((Qd.get x0 ((x1).toNat)))).2)) (v3:Bool) (h3:v3=(cond (!(true)) true (!decide ((Int.tmod v1 (4:Int))=(0:Int))))) (v4:Bool) (h4:v4=(cond v3 true (!decide ((Int.tmod v2 (4:Int))=(0:Int))))) (v5:Int) (h5:v5=(IntKind.i64.wrap (Int.tdiv v1 (4:Int)))) (v6:Int) (h6:v6=(IntKind.i64.wrap (Int.tdiv v2 (4:Int)))) (v7:Cx) (h7:v7=(((Fl.ofInt v5),(Fl.ofInt v6)):Cx)) (v8:Int) (h8:v8=(IntKind.i64.wrap (x1+(1:Int)))),cond (decide (x1<(4:Int)))
  (ck (idxOK x1 4) (ck (Gz.inB ((Qd.get x0 ((x1).toNat))) 4503599627370496) (ck (!(!(!(true))) || ((!(!(true)))&&(!decide ((4:Int)=0)))) (ck (!(!(!(true))) || (!(!(true)))) (ck ((!(true)) || (!(!(true)))) (ck (!(!v3) || ((!v3)&&(!decide ((4:Int)=0)))) (ck (!(!v3) || (!v3)) (ck (v3 || (!v3)) (cond v4
  (some [(.ag [(.c (.complex .f64 ((0,0):Cx).1 ((0,0):Cx).2)),(.c (.complex .f64 ((0,0):Cx).1 ((0,0):Cx).2)),(.c (.complex .f64 ((0,0):Cx).1 ((0,0):Cx).2)),(.c (.complex .f64 ((0,0):Cx).1 ((0,0):Cx).2))]),(.b false)])
  (ck (!decide ((4:Int)=0)) (ck (!decide ((4:Int)=0)) (ck (idxOK x1 4) (ck (decide ((x1).toNat<4)) (wv_Back.l1 x0 v8 x2 (Qd.set x3 ((x1).toNat) v7)))))))))))))))
  (some [(.ag (Qd.cells x3)),(.b true)])=ρ):wv_Back.l1 x0 x1 x2 x3=ρ:=((ev_loop _ _ _ _ _ _).trans (by kernel_rfl)).trans (K _ rfl _ rfl _ rfl _ rfl _ rfl _ rfl _ rfl _ rfl)
theorem wv_Back.F_eq (l:Qd):wv_Back.F l=ck (Gz.inQ l 1125899906842624) (cond (!(true))
  (some [(.ag [(.c (.complex .f64 ((0,0):Cx).1 ((0,0):Cx).2)),(.c (.complex .f64 ((0,0):Cx).1 ((0,0):Cx).2)),(.c (.complex .f64 ((0,0):Cx).1 ((0,0):Cx).2)),(.c (.complex .f64 ((0,0):Cx).1 ((0,0):Cx).2))]),(.b false)])
  (ck (Gz.inQ l 1125899906842624&&decide (((-1:Int))=1∨((-1:Int))=-1)) (wv_Back.l1 (Gz.sums l ((-1:Int))) (0:Int) (Qd.mk ((0,0):Cx) ((0,0):Cx) ((0,0):Cx) ((0,0):Cx)) (Gz.sums l ((-1:Int)))))):=by kernel_rfl
theorem wv_Back.chk:CK 64 wv_Back.env wv_Back.d:=ckOf (by kernel_rfl)
def wv_digits.env:EV:=[]
def wv_digits.E:TEnv:=envL nrGl wv_digits.env
def wv_digits.m1:TM:=oS [oB .lss 7 6 8] (.seq (.cond (.s 8) [] .skip (.exit 0)) none (.seq (.block 1 [] (oS [oK (.k (.ix 1)) [5,7] [9],oK (.k (.lr 1 false)) [9] [10],oV 10 4] (oS [oV 4 11,oI .lss 11 (.i .i64 0) 12,oV 12 13,oG 13 false (oV 4 14),oG 13 false (oI .gtr 14 (.i .i64 65535) 15),oX (.k .pick) [.s 13,.c (.b true),.s 15] [16]] (.cond (.s 16) [] (oS [oW (.b false) 2] .ret) .skip)))) none (.reg [oI .add 7 (.i .i64 1) 17,oV 17 7])))
def wv_digits.m:TM:=oS [oW (.b false) 2] (.seq (oS [oV 0 5,oK (.k .len) [5] [6],oW (.i .i64 0) 7] (.block 0 [] (.loop [0,5,6,7] [] wv_digits.m1))) none (oS [oV 0 18,oK (.k .len) [18] [19],oI .leq 19 (.i .i64 256) 20,oV 20 2] .ret))
def wv_digits.d:TFD:=D0 1 wv_digits.m [.t 2]
def wv_digits.F (l:List Int):OT:=wv_digits.d.run wv_digits.E [(.sl .is l)]
def wv_digits.k1:Cont (List TV):=seqK (ev _ wv_digits.E (oS [oV 0 18,oK (.k .len) [18] [19],oI .leq 19 (.i .i64 256) 20,oV 20 2] .ret)) none (endK wv_digits.d)
def wv_digits.l1 (x0:List Int) (x1:List Int) (x2:Int) (x3:Int):OT:=loopL (evO _ wv_digits.E wv_digits.m1) isN [0,5,6,7] (headT [0,5,6,7] [(.sl .is x0),(.sl .is x1),(.i .i64 x2),(.i .i64 x3)]) (blockK 0 wv_digits.k1)
theorem wv_digits.l1_in (x0:List Int) (x1:List Int) (x2:Int) (x3:Int) {ρ:OT} (K:∀(v1:Int) (h1:v1=(List.getD x1 (x3).toNat (0:Int))) (v2:Bool) (h2:v2=(cond (decide (v1<(0:Int))) true (decide ((65535:Int)<v1)))) (v3:Int) (h3:v3=(IntKind.i64.wrap (x3+(1:Int)))),cond (decide (x3<x2))
  (ck (idxOK x3 (x1).length) (ck (!(!(decide (v1<(0:Int)))) || (!(decide (v1<(0:Int))))) (ck ((decide (v1<(0:Int))) || (!(decide (v1<(0:Int))))) (cond v2
  (some [(.b false)])
  (wv_digits.l1 x0 x1 x2 v3)))))
  (some [(.b (decide (((x0).length:Int)≤(256:Int))))])=ρ):wv_digits.l1 x0 x1 x2 x3=ρ:=((ev_loop _ _ _ _ _ _).trans (by kernel_rfl)).trans (K _ rfl _ rfl _ rfl)
theorem wv_digits.F_eq (l:List Int):wv_digits.F l=wv_digits.l1 l l ((l).length:Int) (0:Int):=by kernel_rfl
theorem wv_digits.chk:CK 61 wv_digits.env wv_digits.d:=ckOf (by kernel_rfl)
def wv_pairs.env:EV:=[(81,(gz_Of.c,gz_Of.sg)),(82,(wv_Four.c,wv_Four.sg))]
def wv_pairs.E:TEnv:=envL nrGl wv_pairs.env
def wv_pairs.m1:TM := .reg [oV 3 30,oM 1036 0 4 5 31,oC 82 1 1 [31] 32,oK (.bl .qd 1) [32] [33],oK (.k (.ap 101 103 4 64)) [30,33,(lk 101),(lk 103)] [34,lk 101,lk 103],oV 34 3]
def wv_pairs.m2:TM := .seq (oS [oV 4 6,oV 0 7,oK (.k .len) [7] [8],oB .lss 6 8 9] (.cond (.s 9) [] .skip (.exit 0))) none (.seq (.block 1 [(3,.tip 103 4),(lk 103,.live 4)] (oS [oV 0 12,oV 4 13,oK (.k (.ix 1)) [12,13] [14],oK (.k (.lr 1 false)) [14] [15],oX (.k (.call 81 (.plain 2 1))) [.s 15,.c (.i .i64 0)] [16],oK (.bd [(.c (.complex .f64 ((0,0):Cx).1 ((0,0):Cx).2)),(.c (.complex .f64 ((0,0):Cx).1 ((0,0):Cx).2)),(.c (.complex .f64 ((0,0):Cx).1 ((0,0):Cx).2)),(.c (.complex .f64 ((0,0):Cx).1 ((0,0):Cx).2))] [(0,1)]) [16] [17],oN 1036 [(.c (.complex .f64 ((0,0):Cx).1 ((0,0):Cx).2)),(.c (.complex .f64 ((0,0):Cx).1 ((0,0):Cx).2)),(.c (.complex .f64 ((0,0):Cx).1 ((0,0):Cx).2)),(.c (.complex .f64 ((0,0):Cx).1 ((0,0):Cx).2))] 5,oT 1036 0 4 5 17] (.seq (oS [oV 4 18,oI .add 18 (.i .i64 1) 19,oV 0 20,oK (.k .len) [20] [21],oB .lss 19 21 22] (.cond (.s 22) [(3,.tip 101 4),(5,.ptr 1036 0),(1036,.cl []),(lk 101,.live 4)] (.reg [oV 0 23,oV 4 24,oI .add 24 (.i .i64 1) 25,oK (.k (.ix 1)) [23,25] [26],oK (.k (.lr 1 false)) [26] [27],oX (.k (.call 81 (.plain 2 1))) [.s 27,.c (.i .i64 0)] [28],oX (.k (.la 1036 4 1)) [.s 5,.c (.i .i64 1),.s 1036] [29],oK (.k (.ls 1036 1)) [29,1036,28] [1036]]) .skip)) (some [0,3,4,5,1036]) wv_pairs.m1))) none (.reg [oV 4 10,oI .add 10 (.i .i64 2) 11,oV 11 4]))
def wv_pairs.m:TM:=oS [oW (.sl .qd ([]:List Qd)) 2] (oS [oK (.nl .qd 101) [(lk 101)] [3,lk 101]] (.seq (oS [oW (.i .i64 0) 4] (.block 0 [(3,.tip 101 4),(lk 101,.live 4)] (.loop [0,3,4] [(3,.tip 101 4),(lk 101,.live 4)] wv_pairs.m2))) none (oS [oV 3 35,oV 35 2] .ret)))
def wv_pairs.d:TFD:=D0 1 wv_pairs.m [.t 2]
def wv_pairs.F (l:List Int):OT:=wv_pairs.d.run wv_pairs.E [(.sl .is l)]
def wv_pairs.k1:Cont (List TV):=seqK (ev _ wv_pairs.E (oS [oV 3 35,oV 35 2] .ret)) none (endK wv_pairs.d)
def wv_pairs.k2:Cont (List TV):=againK (evO _ wv_pairs.E wv_pairs.m2) isN [0,3,4] (blockK 0 wv_pairs.k1)
def wv_pairs.k3:Cont (List TV):=seqK (ev _ wv_pairs.E (.reg [oV 4 10,oI .add 10 (.i .i64 2) 11,oV 11 4])) none wv_pairs.k2
def wv_pairs.l1 (x0:List Int) (x1:List Qd) (x2:Int):OT:=loopL (evO _ wv_pairs.E wv_pairs.m2) isN [0,3,4] (headT [0,3,4] [(.sl .is x0),(.sl .qd x1),(.i .i64 x2)]) (blockK 0 wv_pairs.k1)
def wv_pairs.j2 (x0:List Int) (x1:List Qd) (x2:Int) (x3:Qd):OT:=evO _ wv_pairs.E wv_pairs.m1 (headT [0,3,4,5,1036] [(.sl .is x0),(.sl .qd x1),(.i .i64 x2),.pt,(.ag (Qd.cells x3))]) (blockK 1 wv_pairs.k3)
theorem wv_pairs.l1_in (x0:List Int) (x1:List Qd) (x2:Int) {ρ:OT} (K:∀(v1:Int) (h1:v1=(List.getD x0 (x2).toNat (0:Int))) (v2:Cx) (h2:v2=(((Fl.ofInt v1,Fl.ofInt ((0:Int))):Cx))) (v3:Int) (h3:v3=(IntKind.i64.wrap (x2+(1:Int)))) (v4:Int) (h4:v4=(List.getD x0 (v3).toNat (0:Int))) (v5:Cx) (h5:v5=(((Fl.ofInt v4,Fl.ofInt ((0:Int))):Cx))) (v6:Qd) (h6:v6=(Qd.set (Qd.mk v2 ((0,0):Cx) ((0,0):Cx) ((0,0):Cx)) (((1:Int)).toNat) v5)),cond (decide (x2<((x0).length:Int)))
  (ck (idxOK x2 (x0).length) (ck (decide (-33554432≤v1∧v1≤33554432∧-33554432≤((0:Int))∧((0:Int))≤33554432)) (cond (decide (v3<((x0).length:Int)))
  (ck (idxOK v3 (x0).length) (ck (decide (-33554432≤v4∧v4≤33554432∧-33554432≤((0:Int))∧((0:Int))≤33554432)) (ck (idxOK (1:Int) 4) (ck (decide (((1:Int)).toNat<4)) (wv_pairs.j2 x0 x1 x2 v6)))))
  (wv_pairs.j2 x0 x1 x2 (Qd.mk v2 ((0,0):Cx) ((0,0):Cx) ((0,0):Cx))))))
  (some [(.sl .qd x1)])=ρ):wv_pairs.l1 x0 x1 x2=ρ:=((ev_loop _ _ _ _ _ _).trans (by kernel_rfl)).trans (K _ rfl _ rfl _ rfl _ rfl _ rfl _ rfl)
theorem wv_pairs.j2_in (x0:List Int) (x1:List Qd) (x2:Int) (x3:Qd) {ρ:OT} (K:∀(v1:List Qd) (h1:v1=(x1++([(Gz.sums x3 1)]:List Qd))) (v2:Int) (h2:v2=(IntKind.i64.wrap (x2+(2:Int)))),ck (Gz.inQ x3 1125899906842624) (ck (apOK ((x1).length+(([(Gz.sums x3 1)]:List Qd)).length) 64) (wv_pairs.l1 x0 v1 v2))=ρ):wv_pairs.j2 x0 x1 x2 x3=ρ:=((congrFun (congrFun (ev_eq _ _) _) _).trans (by kernel_rfl)).trans (K _ rfl _ rfl)
theorem wv_pairs.F_eq (l:List Int):wv_pairs.F l=wv_pairs.l1 l ([]:List Qd) (0:Int):=by kernel_rfl
theorem wv_pairs.chk:CK 62 wv_pairs.env wv_pairs.d:=ckOf (by kernel_rfl)
def wv_Fold.env:EV:=[(61,(wv_digits.c,wv_digits.sg)),(62,(wv_pairs.c,wv_pairs.sg)),(63,(gz_Times.c,gz_Times.sg)),(64,(wv_Back.c,wv_Back.sg)),(65,(gz_Parts.c,gz_Parts.sg))]
def wv_Fold.E:TEnv:=envL nrGl wv_Fold.env
def wv_Fold.m1:TM:=oS [oI .lss 62 (.i .i64 4) 63] (.seq (.cond (.s 63) [] .skip (.exit 4)) none (.seq (.block 5 [(6,.tip 103 1),(10,.ptr 1116 0),(12,.ptr 1117 0),(13,.ptr 1118 0),(1116,.cl []),(1117,.cl []),(1118,.cl []),(lk 103,.pv 1)] (oS [oV 62 64,oV 64 14] (.reg [oV 14 65,oV 14 66,oK (.k (.la 1116 4 1)) [10,66,1116] [67],oK (.k (.ll 1116 1)) [67,1116] [68],oV 14 69,oK (.k (.la 1117 4 1)) [12,69,1117] [70],oK (.k (.ll 1117 1)) [70,1117] [71],oC 63 2 1 [68,71] 72,oK (.k (.la 1118 4 1)) [13,65,1118] [73],oK (.k (.ls 1118 1)) [73,1118,72] [1118]]))) none (.reg [oI .add 62 (.i .i64 1) 74,oV 74 62])))
def wv_Fold.m2:TM:=oS [oI .lss 80 (.i .i64 3) 81] (.seq (.cond (.s 81) [] .skip (.exit 6)) none (.seq (.block 7 [(6,.tip 103 1),(10,.ptr 1116 0),(15,.ptr 1119 0),(1116,.cl []),(1119,.cl []),(lk 103,.pv 1)] (oS [oV 80 82,oV 82 17] (oS [oV 17 84,oK (.k (.la 1119 4 1)) [15,84,1119] [85],oK (.k (.ll 1119 1)) [85,1119] [86],oC 65 1 3 [86] 87,oV 87 83,oE 0 83 88,oE 1 83 89,oE 2 83 90,oV 88 18,oV 89 19,oV 90 20] (.reg [oV 6 91,oV 9 92,oX (.k (.bin .mul)) [.c (.i .i64 2),.s 92] [93],oV 11 94,oX (.k (.bin .mul)) [.c (.i .i64 2),.s 94] [95],oB .add 93 95 96,oV 17 97,oB .add 96 97 98,oK (.k (.pix 103 1)) [91,98,(lk 103)] [99],oK (.k (.pld 103 1 1 false)) [99,(lk 103)] [100],oV 18 101,oB .add 100 101 102,oK (.k (.pix 103 1)) [91,98,(lk 103)] [103],oK (.k (.pst 103 1 1)) [103,(lk 103),102] [lk 103]])))) none (.reg [oI .add 80 (.i .i64 1) 104,oV 104 80])))
def wv_Fold.m3:TM:=oS [oB .lss 57 56 58] (.seq (.cond (.s 58) [] .skip (.exit 2)) none (.seq (.block 3 [(6,.tip 103 1),(10,.ptr 1116 0),(1116,.cl []),(lk 103,.pv 1)] (oS [oV 57 59,oK (.k (.ix 4)) [55,57] [60],oK (.k (.lr 4 true)) [60] [61],oN 1117 [(.c (.complex .f64 ((0,0):Cx).1 ((0,0):Cx).2)),(.c (.complex .f64 ((0,0):Cx).1 ((0,0):Cx).2)),(.c (.complex .f64 ((0,0):Cx).1 ((0,0):Cx).2)),(.c (.complex .f64 ((0,0):Cx).1 ((0,0):Cx).2))] 12,oV 59 11,oT 1117 0 4 12 61] (oS [oN 1118 [(.c (.complex .f64 ((0,0):Cx).1 ((0,0):Cx).2)),(.c (.complex .f64 ((0,0):Cx).1 ((0,0):Cx).2)),(.c (.complex .f64 ((0,0):Cx).1 ((0,0):Cx).2)),(.c (.complex .f64 ((0,0):Cx).1 ((0,0):Cx).2))] 13] (.seq (oS [oW (.i .i64 0) 62] (.block 4 [(6,.tip 103 1),(10,.ptr 1116 0),(13,.ptr 1118 0),(1116,.cl []),(1118,.cl []),(lk 103,.pv 1)] (.loop [0,1,6,8,9,10,11,12,13,48,49,50,55,56,57,62,1116,1117,1118,lk 103] [(6,.tip 103 1),(10,.ptr 1116 0),(12,.ptr 1117 0),(13,.ptr 1118 0),(1116,.cl []),(1117,.cl []),(1118,.cl []),(lk 103,.pv 1)] wv_Fold.m1))) none (oS [oM 1118 0 4 13 76,oC 64 1 2 [76] 77,oV 77 75,oE 0 75 78,oE 1 75 79,oN 1119 [(.c (.complex .f64 ((0,0):Cx).1 ((0,0):Cx).2)),(.c (.complex .f64 ((0,0):Cx).1 ((0,0):Cx).2)),(.c (.complex .f64 ((0,0):Cx).1 ((0,0):Cx).2)),(.c (.complex .f64 ((0,0):Cx).1 ((0,0):Cx).2))] 15,oT 1119 0 4 15 78,oV 79 16] (oS [oW (.i .i64 0) 80] (.block 6 [(6,.tip 103 1),(10,.ptr 1116 0),(1116,.cl []),(lk 103,.pv 1)] (.loop [0,1,6,8,9,10,11,15,48,49,50,55,56,57,80,1116,1119,lk 103] [(6,.tip 103 1),(10,.ptr 1116 0),(15,.ptr 1119 0),(1116,.cl []),(1119,.cl []),(lk 103,.pv 1)] wv_Fold.m2)))))))) none (.reg [oI .add 57 (.i .i64 1) 105,oV 105 57])))
def wv_Fold.m4:TM:=oS [oB .lss 50 49 51] (.seq (.cond (.s 51) [] .skip (.exit 0)) none (.seq (.block 1 [(6,.tip 103 1),(lk 103,.pv 1)] (oS [oV 50 52,oK (.k (.ix 4)) [48,50] [53],oK (.k (.lr 4 true)) [53] [54],oN 1116 [(.c (.complex .f64 ((0,0):Cx).1 ((0,0):Cx).2)),(.c (.complex .f64 ((0,0):Cx).1 ((0,0):Cx).2)),(.c (.complex .f64 ((0,0):Cx).1 ((0,0):Cx).2)),(.c (.complex .f64 ((0,0):Cx).1 ((0,0):Cx).2))] 10,oV 52 9,oT 1116 0 4 10 54] (oS [oV 8 55,oK (.k .len) [55] [56],oW (.i .i64 0) 57] (.block 2 [(6,.tip 103 1),(lk 103,.pv 1)] (.loop [0,1,6,8,9,10,48,49,50,55,56,57,1116,lk 103] [(6,.tip 103 1),(10,.ptr 1116 0),(1116,.cl []),(lk 103,.pv 1)] wv_Fold.m3))))) none (.reg [oI .add 50 (.i .i64 1) 106,oV 106 50])))
def wv_Fold.m:TM:=oS [oW (.sl .is ([]:List Int)) 4,oW (.b false) 5] (.seq (oS [oV 0 21,oC 61 1 1 [21] 22,oK (.k (.un .not)) [22] [23],oV 23 24,oG 24 false (oV 1 25),oG 24 false (oC 61 1 1 [25] 26),oG 24 false (oK (.k (.un .not)) [26] [27]),oX (.k .pick) [.s 24,.c (.b true),.s 27] [28]] (.cond (.s 28) [] (oS [oW (.sl .is ([]:List Int)) 4,oW (.b false) 5] .ret) .skip)) none (.seq (oS [oV 0 29,oK (.k .len) [29] [30],oI .eql 30 (.i .i64 0) 31,oV 31 32,oG 32 false (oV 1 33),oG 32 false (oK (.k .len) [33] [34]),oG 32 false (oI .eql 34 (.i .i64 0) 35),oX (.k .pick) [.s 32,.c (.b true),.s 35] [36]] (.cond (.s 36) [] (oS [oW (.sl .is ([]:List Int)) 4,oW (.b true) 5] .ret) .skip)) none (oS [oV 0 37,oK (.k .len) [37] [38],oV 1 39,oK (.k .len) [39] [40],oB .add 38 40 41,oI .add 41 (.i .i64 2) 42,oK (.mkv 103 8 .is (0:Int)) [42,42,(lk 103)] [43,lk 103],oV 43 6] (oS [oV 0 44,oC 62 1 1 [44] 45,oV 1 46,oC 62 1 1 [46] 47,oV 45 7,oV 47 8] (.seq (oS [oV 7 48,oK (.k .len) [48] [49],oW (.i .i64 0) 50] (.block 0 [(6,.tip 103 1),(lk 103,.pv 1)] (.loop [0,1,6,8,48,49,50,lk 103] [(6,.tip 103 1),(lk 103,.pv 1)] wv_Fold.m4))) none (oS [oK (.k (.pfz 103 1)) [6,(lk 103)] [107,6,lk 103],oV 0 108,oK (.k .len) [108] [109],oV 1 110,oK (.k .len) [110] [111],oB .add 109 111 112,oI .sub 112 (.i .i64 1) 113,oK (.k (.sc 1 false true)) [107,113] [114],oK (.k (.an 104 1 8)) [114,(lk 104)] [115,lk 104],oV 115 4,oW (.b true) 5] .ret))))))
def wv_Fold.d:TFD:=D0 2 wv_Fold.m [.t 4,.t 5]
def wv_Fold.F (a:List Int) (b:List Int):OT:=wv_Fold.d.run wv_Fold.E [(.sl .is a),(.sl .is b)]
def wv_Fold.k1:Cont (List TV):=seqK (ev _ wv_Fold.E (oS [oK (.k (.pfz 103 1)) [6,(lk 103)] [107,6,lk 103],oV 0 108,oK (.k .len) [108] [109],oV 1 110,oK (.k .len) [110] [111],oB .add 109 111 112,oI .sub 112 (.i .i64 1) 113,oK (.k (.sc 1 false true)) [107,113] [114],oK (.k (.an 104 1 8)) [114,(lk 104)] [115,lk 104],oV 115 4,oW (.b true) 5] .ret)) none (endK wv_Fold.d)
def wv_Fold.k2:Cont (List TV):=againK (evO _ wv_Fold.E wv_Fold.m4) isN [0,1,6,8,48,49,50,lk 103] (blockK 0 wv_Fold.k1)
def wv_Fold.k3:Cont (List TV):=seqK (ev _ wv_Fold.E (.reg [oI .add 50 (.i .i64 1) 106,oV 106 50])) none wv_Fold.k2
def wv_Fold.k4:Cont (List TV):=againK (evO _ wv_Fold.E wv_Fold.m3) isN [0,1,6,8,9,10,48,49,50,55,56,57,1116,lk 103] (blockK 2 (blockK 1 wv_Fold.k3))
def wv_Fold.k5:Cont (List TV):=seqK (ev _ wv_Fold.E (.reg [oI .add 57 (.i .i64 1) 105,oV 105 57])) none wv_Fold.k4
def wv_Fold.k6:Cont (List TV):=seqK (ev _ wv_Fold.E (oS [oM 1118 0 4 13 76,oC 64 1 2 [76] 77,oV 77 75,oE 0 75 78,oE 1 75 79,oN 1119 [(.c (.complex .f64 ((0,0):Cx).1 ((0,0):Cx).2)),(.c (.complex .f64 ((0,0):Cx).1 ((0,0):Cx).2)),(.c (.complex .f64 ((0,0):Cx).1 ((0,0):Cx).2)),(.c (.complex .f64 ((0,0):Cx).1 ((0,0):Cx).2))] 15,oT 1119 0 4 15 78,oV 79 16] (oS [oW (.i .i64 0) 80] (.block 6 [(6,.tip 103 1),(10,.ptr 1116 0),(1116,.cl []),(lk 103,.pv 1)] (.loop [0,1,6,8,9,10,11,15,48,49,50,55,56,57,80,1116,1119,lk 103] [(6,.tip 103 1),(10,.ptr 1116 0),(15,.ptr 1119 0),(1116,.cl []),(1119,.cl []),(lk 103,.pv 1)] wv_Fold.m2))))) none (blockK 3 wv_Fold.k5)
def wv_Fold.l1 (x0:List Int) (x1:List Int) (x2:List Qd) (x3:List Qd) (x4:Int) (x5:Int) (x6:List Int):OT:=loopL (evO _ wv_Fold.E wv_Fold.m4) isN [0,1,6,8,48,49,50,lk 103] (headT [0,1,6,8,48,49,50,lk 103] [(.sl .is x0),(.sl .is x1),.pt,(.sl .qd x2),(.sl .qd x3),(.i .i64 x4),(.i .i64 x5),(.sl .is x6)]) (blockK 0 wv_Fold.k1)
def wv_Fold.l2 (x0:List Int) (x1:List Int) (x2:List Qd) (x3:Int) (x4:List Qd) (x5:Int) (x6:Int) (x7:List Qd) (x8:Int) (x9:Int) (x10:Qd) (x11:List Int):OT:=loopL (evO _ wv_Fold.E wv_Fold.m3) isN [0,1,6,8,9,10,48,49,50,55,56,57,1116,lk 103] (headT [0,1,6,8,9,10,48,49,50,55,56,57,1116,lk 103] [(.sl .is x0),(.sl .is x1),.pt,(.sl .qd x2),(.i .i64 x3),.pt,(.sl .qd x4),(.i .i64 x5),(.i .i64 x6),(.sl .qd x7),(.i .i64 x8),(.i .i64 x9),(.ag (Qd.cells x10)),(.sl .is x11)]) (blockK 2 (blockK 1 wv_Fold.k3))
def wv_Fold.l3 (x0:List Int) (x1:List Int) (x2:List Qd) (x3:Int) (x4:Int) (x5:List Qd) (x6:Int) (x7:Int) (x8:List Qd) (x9:Int) (x10:Int) (x11:Int) (x12:Qd) (x13:Qd) (x14:Qd) (x15:List Int):OT:=loopL (evO _ wv_Fold.E wv_Fold.m1) isN [0,1,6,8,9,10,11,12,13,48,49,50,55,56,57,62,1116,1117,1118,lk 103] (headT [0,1,6,8,9,10,11,12,13,48,49,50,55,56,57,62,1116,1117,1118,lk 103] [(.sl .is x0),(.sl .is x1),.pt,(.sl .qd x2),(.i .i64 x3),.pt,(.i .i64 x4),.pt,.pt,(.sl .qd x5),(.i .i64 x6),(.i .i64 x7),(.sl .qd x8),(.i .i64 x9),(.i .i64 x10),(.i .i64 x11),(.ag (Qd.cells x12)),(.ag (Qd.cells x13)),(.ag (Qd.cells x14)),(.sl .is x15)]) (blockK 4 wv_Fold.k6)
def wv_Fold.l4 (x0:List Int) (x1:List Int) (x2:List Qd) (x3:Int) (x4:Int) (x5:List Qd) (x6:Int) (x7:Int) (x8:List Qd) (x9:Int) (x10:Int) (x11:Int) (x12:Qd) (x13:Qd) (x14:List Int):OT:=loopL (evO _ wv_Fold.E wv_Fold.m2) isN [0,1,6,8,9,10,11,15,48,49,50,55,56,57,80,1116,1119,lk 103] (headT [0,1,6,8,9,10,11,15,48,49,50,55,56,57,80,1116,1119,lk 103] [(.sl .is x0),(.sl .is x1),.pt,(.sl .qd x2),(.i .i64 x3),.pt,(.i .i64 x4),.pt,(.sl .qd x5),(.i .i64 x6),(.i .i64 x7),(.sl .qd x8),(.i .i64 x9),(.i .i64 x10),(.i .i64 x11),(.ag (Qd.cells x12)),(.ag (Qd.cells x13)),(.sl .is x14)]) (blockK 6 (blockK 3 wv_Fold.k5))
theorem wv_Fold.l1_in (x0:List Int) (x1:List Int) (x2:List Qd) (x3:List Qd) (x4:Int) (x5:Int) (x6:List Int) {ρ:OT} (K:∀(v1:Qd) (h1:v1=(List.getD x3 (x5).toNat (STy.dflt .qd))) (v2:Int) (h2:v2=(IntKind.i64.wrap (((x0).length:Int)+((x1).length:Int)))) (v3:Int) (h3:v3=(IntKind.i64.wrap (v2 - (1:Int)))),cond (decide (x5<x4))
  (ck (idxOK x5 (x3).length) (wv_Fold.l2 x0 x1 x2 x5 x3 x4 x5 x2 ((x2).length:Int) (0:Int) v1 x6))
  (ck (cutOK 0 v3 (x6).length) (ck (apOK ((List.take (v3).toNat x6)).length 8) (some [(.sl .is (List.take (v3).toNat x6)),(.b true)])))=ρ):wv_Fold.l1 x0 x1 x2 x3 x4 x5 x6=ρ:=((ev_loop _ _ _ _ _ _).trans (by kernel_rfl)).trans (K _ rfl _ rfl _ rfl)
theorem wv_Fold.l2_in (x0:List Int) (x1:List Int) (x2:List Qd) (x3:Int) (x4:List Qd) (x5:Int) (x6:Int) (x7:List Qd) (x8:Int) (x9:Int) (x10:Qd) (x11:List Int) {ρ:OT} (K:∀(v1:Qd) (h1:v1=(List.getD x7 (x9).toNat (STy.dflt .qd))) (v2:Int) (h2:v2=(IntKind.i64.wrap (x6+(1:Int)))),cond (decide (x9<x8))
  (ck (idxOK x9 (x7).length) (wv_Fold.l3 x0 x1 x2 x3 x9 x4 x5 x6 x7 x8 x9 (0:Int) x10 v1 (Qd.mk ((0,0):Cx) ((0,0):Cx) ((0,0):Cx) ((0,0):Cx)) x11))
  (wv_Fold.l1 x0 x1 x2 x4 x5 v2 x11)=ρ):wv_Fold.l2 x0 x1 x2 x3 x4 x5 x6 x7 x8 x9 x10 x11=ρ:=((ev_loop _ _ _ _ _ _).trans (by kernel_rfl)).trans (K _ rfl _ rfl)
theorem wv_Fold.l3_in (x0:List Int) (x1:List Int) (x2:List Qd) (x3:Int) (x4:Int) (x5:List Qd) (x6:Int) (x7:Int) (x8:List Qd) (x9:Int) (x10:Int) (x11:Int) (x12:Qd) (x13:Qd) (x14:Qd) (x15:List Int) {ρ:OT} (K:∀(v1:Cx) (h1:v1=(Gz.mul ((Qd.get x12 ((x11).toNat))) ((Qd.get x13 ((x11).toNat))))) (v2:Qd) (h2:v2=(Qd.set x14 ((x11).toNat) v1)) (v3:Int) (h3:v3=(IntKind.i64.wrap (x11+(1:Int)))),cond (decide (x11<(4:Int)))
  (ck (idxOK x11 4) (ck (decide ((x11).toNat<4)) (ck (idxOK x11 4) (ck (decide ((x11).toNat<4)) (ck (Gz.inB ((Qd.get x12 ((x11).toNat))) 33554432&&Gz.inB ((Qd.get x13 ((x11).toNat))) 33554432) (ck (idxOK x11 4) (ck (decide ((x11).toNat<4)) (wv_Fold.l3 x0 x1 x2 x3 x4 x5 x6 x7 x8 x9 x10 v3 x12 x13 v2 x15))))))))
  (ck (Gz.inQ x14 1125899906842624&&Gz.in4 x14) (wv_Fold.l4 x0 x1 x2 x3 x4 x5 x6 x7 x8 x9 x10 (0:Int) x12 (Gz.back x14) x15))=ρ):wv_Fold.l3 x0 x1 x2 x3 x4 x5 x6 x7 x8 x9 x10 x11 x12 x13 x14 x15=ρ:=((ev_loop _ _ _ _ _ _).trans (by kernel_rfl)).trans (K _ rfl _ rfl _ rfl)
theorem wv_Fold.l4_in (x0:List Int) (x1:List Int) (x2:List Qd) (x3:Int) (x4:Int) (x5:List Qd) (x6:Int) (x7:Int) (x8:List Qd) (x9:Int) (x10:Int) (x11:Int) (x12:Qd) (x13:Qd) (x14:List Int) {ρ:OT} (K:∀(v1:Int) (h1:v1=(Fl.toInt (((Qd.get x13 ((x11).toNat)))).1)) (v2:Int) (h2:v2=(Fl.toInt (((Qd.get x13 ((x11).toNat)))).2)) (v3:Int) (h3:v3=(IntKind.i64.wrap ((2:Int) * x3))) (v4:Int) (h4:v4=(IntKind.i64.wrap ((2:Int) * x4))) (v5:Int) (h5:v5=(IntKind.i64.wrap ((IntKind.i64.wrap (v3+v4))+x11))) (v6:Int) (h6:v6=(List.getD x14 ((v5).toNat) (0:Int))) (v7:List Int) (h7:v7=(List.set x14 ((v5).toNat) (IntKind.i64.wrap (v6+v1)))) (v8:Int) (h8:v8=(IntKind.i64.wrap (x11+(1:Int)))) (v9:Int) (h9:v9=(IntKind.i64.wrap (x10+(1:Int)))),cond (decide (x11<(3:Int)))
  (ck (idxOK x11 4) (ck (decide ((x11).toNat<4)) (ck (Gz.inB ((Qd.get x13 ((x11).toNat))) 4503599627370496) (ck (idxOK v5 (x14).length) (ck (decide ((v5).toNat<(x14).length)) (ck (idxOK v5 (x14).length) (ck (decide ((v5).toNat<(x14).length)) (wv_Fold.l4 x0 x1 x2 x3 x4 x5 x6 x7 x8 x9 x10 v8 x12 x13 v7))))))))
  (wv_Fold.l2 x0 x1 x2 x3 x5 x6 x7 x8 x9 v9 x12 x14)=ρ):wv_Fold.l4 x0 x1 x2 x3 x4 x5 x6 x7 x8 x9 x10 x11 x12 x13 x14=ρ:=((ev_loop _ _ _ _ _ _).trans (by kernel_rfl)).trans (K _ rfl _ rfl _ rfl _ rfl _ rfl _ rfl _ rfl _ rfl _ rfl)
theorem wv_Fold.F_in (a:List Int) (b:List Int) {ρ:OT} (K:∀(v1:Bool) (h1:v1=(cond (!(true)) true (!(true)))) (v2:Bool) (h2:v2=(cond (decide (((a).length:Int)=(0:Int))) true (decide (((b).length:Int)=(0:Int))))) (v3:Int) (h3:v3=(IntKind.i64.wrap (((a).length:Int)+((b).length:Int)))) (v4:Int) (h4:v4=(IntKind.i64.wrap (v3+(2:Int)))) (v5:List Int) (h5:v5=(List.replicate (v4).toNat (0:Int))) (v6:Int) (h6:v6=(((Gz.pairs a)).length:Int)),ck (decide ((a).length≤256)&&Gz.digs a) (ck (!(!(!(true))) || ((!(!(true)))&&(decide ((b).length≤256)&&Gz.digs b))) (ck (!(!(!(true))) || (!(!(true)))) (ck ((!(true)) || (!(!(true)))) (cond v1
  (some [(.sl .is ([]:List Int)),(.b false)])
  (ck (!(!(decide (((a).length:Int)=(0:Int)))) || (!(decide (((a).length:Int)=(0:Int))))) (ck (!(!(decide (((a).length:Int)=(0:Int)))) || (!(decide (((a).length:Int)=(0:Int))))) (ck ((decide (((a).length:Int)=(0:Int))) || (!(decide (((a).length:Int)=(0:Int))))) (cond v2
  (some [(.sl .is ([]:List Int)),(.b true)])
  (ck (mkOK v4 v4 8) (ck (decide ((a).length≤256)&&Gz.digs a) (ck (decide ((b).length≤256)&&Gz.digs b) (wv_Fold.l1 a b (Gz.pairs b) (Gz.pairs a) v6 (0:Int) v5))))))))))))=ρ):wv_Fold.F a b=ρ:=Eq.trans (by kernel_rfl) (K _ rfl _ rfl _ rfl _ rfl _ rfl _ rfl)
theorem wv_Fold.chk:CK 43 wv_Fold.env wv_Fold.d:=ckOf (by kernel_rfl)
def bg_trim.env:EV:=[]
def bg_trim.E:TEnv:=envL nrGl bg_trim.env
def bg_trim.m1:TM := .seq (oS [oV 0 3,oK (.k .len) [3] [4],oI .gtr 4 (.i .i64 0) 5,oV 5 6,oG 6 true (oV 0 7),oG 6 true (oV 0 8),oG 6 true (oK (.k .len) [8] [9]),oG 6 true (oI .sub 9 (.i .i64 1) 10),oG 6 true (oK (.k (.ix 1)) [7,10] [11]),oG 6 true (oK (.k (.lr 1 false)) [11] [12]),oG 6 true (oI .eql 12 (.u16 0) 13),oP 6 13 false 14] (.cond (.s 14) [] .skip (.exit 0))) none (.block 1 [] (.reg [oV 0 15,oV 0 16,oK (.k .len) [16] [17],oI .sub 17 (.i .i64 1) 18,oK (.k (.sc 1 false true)) [15,18] [19],oV 19 0]))
def bg_trim.m:TM:=oS [oW (.sl .ws ([]:List UInt16)) 2] (.seq (.block 0 [] (.loop [0] [] bg_trim.m1)) none (oS [oV 0 20,oV 20 2] .ret))
def bg_trim.d:TFD:=D0 1 bg_trim.m [.t 2]
def bg_trim.F (a:List UInt16):OT:=bg_trim.d.run bg_trim.E [(.sl .ws a)]
def bg_trim.k1:Cont (List TV):=seqK (ev _ bg_trim.E (oS [oV 0 20,oV 20 2] .ret)) none (endK bg_trim.d)
def bg_trim.l1 (x0:List UInt16):OT:=loopL (evO _ bg_trim.E bg_trim.m1) isN [0] (headT [0] [(.sl .ws x0)]) (blockK 0 bg_trim.k1)
theorem bg_trim.l1_in (x0:List UInt16) {ρ:OT} (K:∀(v1:Int) (h1:v1=(IntKind.i64.wrap (((x0).length:Int) - (1:Int)))) (v2:UInt16) (h2:v2=(List.getD x0 (v1).toNat (0:UInt16))) (v3:Bool) (h3:v3=(cond (decide ((0:Int)<((x0).length:Int))) (decide (v2=(0:UInt16))) false)),ck (!(decide ((0:Int)<((x0).length:Int))) || (decide ((0:Int)<((x0).length:Int)))) (ck (!(decide ((0:Int)<((x0).length:Int))) || (decide ((0:Int)<((x0).length:Int)))) (ck (!(decide ((0:Int)<((x0).length:Int))) || (((decide ((0:Int)<((x0).length:Int)))&&(decide ((0:Int)<((x0).length:Int))))&&(idxOK v1 (x0).length))) (ck (!(decide ((0:Int)<((x0).length:Int))) || (decide ((0:Int)<((x0).length:Int)))) (ck (!(decide ((0:Int)<((x0).length:Int))) || (decide ((0:Int)<((x0).length:Int)))) (ck (!(decide ((0:Int)<((x0).length:Int))) || (decide ((0:Int)<((x0).length:Int)))) (cond v3
  (ck (cutOK 0 v1 (x0).length) (bg_trim.l1 (List.take (v1).toNat x0)))
  (some [(.sl .ws x0)])))))))=ρ):bg_trim.l1 x0=ρ:=((ev_loop _ _ _ _ _ _).trans (by kernel_rfl)).trans (K _ rfl _ rfl _ rfl)
theorem bg_trim.F_eq (a:List UInt16):bg_trim.F a=bg_trim.l1 a:=by kernel_rfl
theorem bg_trim.chk:CK 45 bg_trim.env bg_trim.d:=ckOf (by kernel_rfl)
def bg_Is.env:EV:=[]
def bg_Is.E:TEnv:=envL nrGl bg_Is.env
def bg_Is.m:TM:=oS [oW (.b false) 2] (oS [oV 0 3,oK (.k .len) [3] [4],oI .leq 4 (.i .i64 256) 5,oV 5 6,oG 6 true (oV 0 7),oG 6 true (oK (.k .len) [7] [8]),oG 6 true (oI .eql 8 (.i .i64 0) 9),oG 6 true (oV 9 10),oG 10 false (oV 0 11),oG 10 false (oV 0 12),oG 10 false (oK (.k .len) [12] [13]),oG 10 false (oI .sub 13 (.i .i64 1) 14),oG 10 false (oK (.k (.ix 1)) [11,14] [15]),oG 10 false (oK (.k (.lr 1 false)) [15] [16]),oG 10 false (oI .neq 16 (.u16 0) 17),oG 6 true (oX (.k .pick) [.s 10,.c (.b true),.s 17] [18]),oP 6 18 false 19,oV 19 2] .ret)
def bg_Is.d:TFD:=D0 1 bg_Is.m [.t 2]
def bg_Is.F (a:List UInt16):OT:=bg_Is.d.run bg_Is.E [(.sl .ws a)]
theorem bg_Is.F_in (a:List UInt16) {ρ:OT} (K:∀(v1:Bool) (h1:v1=((decide (((a).length:Int)≤(256:Int)))&&(!(decide (((a).length:Int)=(0:Int)))))) (v2:Int) (h2:v2=(IntKind.i64.wrap (((a).length:Int) - (1:Int)))) (v3:UInt16) (h3:v3=(List.getD a (v2).toNat (0:UInt16))) (v4:Bool) (h4:v4=(cond (decide (((a).length:Int)=(0:Int))) true (!decide (v3=(0:UInt16))))) (v5:Bool) (h5:v5=(cond (decide (((a).length:Int)≤(256:Int))) v4 false)),ck (!(decide (((a).length:Int)≤(256:Int))) || (decide (((a).length:Int)≤(256:Int)))) (ck (!(decide (((a).length:Int)≤(256:Int))) || (decide (((a).length:Int)≤(256:Int)))) (ck (!(decide (((a).length:Int)≤(256:Int))) || (decide (((a).length:Int)≤(256:Int)))) (ck (!v1 || v1) (ck (!v1 || v1) (ck (!v1 || ((v1&&v1)&&(idxOK v2 (a).length))) (ck (!v1 || v1) (ck (!v1 || v1) (ck (!(decide (((a).length:Int)≤(256:Int))) || ((decide (((a).length:Int)≤(256:Int)))&&((decide (((a).length:Int)=(0:Int))) || v1))) (ck (!(decide (((a).length:Int)≤(256:Int))) || (decide (((a).length:Int)≤(256:Int)))) (some [(.b v5)]))))))))))=ρ):bg_Is.F a=ρ:=Eq.trans (by kernel_rfl) (K _ rfl _ rfl _ rfl _ rfl _ rfl)
theorem bg_Is.chk:CK 42 bg_Is.env bg_Is.d:=ckOf (by kernel_rfl)
def bg_Of.env:EV:=[]
def bg_Of.E:TEnv:=envL nrGl bg_Of.env
def bg_Of.m1:TM := .seq (oS [oV 0 4,oI .gtr 4 (.u64 0) 5] (.cond (.s 5) [] .skip (.exit 0))) none (.seq (.block 1 [(3,.tip 103 1),(lk 103,.live 1)] (.reg [oV 3 8,oV 0 9,oK (.k (.ci .u16)) [9] [10],oK (.bl .ws 1) [10] [11],oK (.k (.ap 101 103 1 2)) [8,11,(lk 101),(lk 103)] [12,lk 101,lk 103],oV 12 3])) none (.reg [oV 0 6,oI .shr 6 (.u64 16) 7,oV 7 0]))
def bg_Of.m:TM:=oS [oW (.sl .ws ([]:List UInt16)) 2] (oS [oK (.nl .ws 101) [(lk 101)] [3,lk 101]] (.seq (.block 0 [(3,.tip 101 1),(lk 101,.live 1)] (.loop [0,3] [(3,.tip 101 1),(lk 101,.live 1)] bg_Of.m1)) none (oS [oV 3 13,oV 13 2] .ret)))
def bg_Of.d:TFD:=D0 1 bg_Of.m [.t 2]
def bg_Of.F (v:UInt64):OT:=bg_Of.d.run bg_Of.E [(.u64 v)]
def bg_Of.k1:Cont (List TV):=seqK (ev _ bg_Of.E (oS [oV 3 13,oV 13 2] .ret)) none (endK bg_Of.d)
def bg_Of.l1 (x0:UInt64) (x1:List UInt16):OT:=loopL (evO _ bg_Of.E bg_Of.m1) isN [0,3] (headT [0,3] [(.u64 x0),(.sl .ws x1)]) (blockK 0 bg_Of.k1)
theorem bg_Of.l1_in (x0:UInt64) (x1:List UInt16) {ρ:OT} (K:∀(v1:UInt16) (h1:v1=(UInt16.ofInt ((x0).toNat:Int))) (v2:UInt64) (h2:v2=(shr64 x0 (((16:UInt64)).toNat))),cond (decide ((0:UInt64)<x0))
  (ck (apOK ((x1).length+(([v1]:List UInt16)).length) 2) (bg_Of.l1 v2 (x1++([v1]:List UInt16))))
  (some [(.sl .ws x1)])=ρ):bg_Of.l1 x0 x1=ρ:=((ev_loop _ _ _ _ _ _).trans (by kernel_rfl)).trans (K _ rfl _ rfl)
theorem bg_Of.F_eq (v:UInt64):bg_Of.F v=bg_Of.l1 v ([]:List UInt16):=by kernel_rfl
theorem bg_Of.chk:CK 19 bg_Of.env bg_Of.d:=ckOf (by kernel_rfl)
def bg_Small.env:EV:=[(42,(bg_Is.c,bg_Is.sg))]
def bg_Small.E:TEnv:=envL nrGl bg_Small.env
def bg_Small.m1:TM:=oS [oB .lss 17 16 18] (.seq (.cond (.s 18) [] .skip (.exit 0)) none (.seq (.block 1 [] (oS [oV 17 19,oK (.k (.ix 1)) [15,17] [20],oK (.k (.lr 1 false)) [20] [21],oV 19 5,oV 21 6] (.reg [oV 4 22,oV 6 23,oK (.k (.ci .u64)) [23] [24],oV 5 25,oX (.k (.bin .mul)) [.c (.i .i64 16),.s 25] [26],oB .shl 24 26 27,oB .or 22 27 28,oV 28 4]))) none (.reg [oI .add 17 (.i .i64 1) 29,oV 29 17])))
def bg_Small.m:TM:=oS [oW (.u64 0) 2,oW (.b false) 3] (.seq (oS [oV 0 7,oC 42 1 1 [7] 8,oK (.k (.un .not)) [8] [9],oV 9 10,oG 10 false (oV 0 11),oG 10 false (oK (.k .len) [11] [12]),oG 10 false (oI .gtr 12 (.i .i64 4) 13),oX (.k .pick) [.s 10,.c (.b true),.s 13] [14]] (.cond (.s 14) [] (oS [oW (.u64 0) 2,oW (.b false) 3] .ret) .skip)) none (oS [oW (.u64 0) 4] (.seq (oS [oV 0 15,oK (.k .len) [15] [16],oW (.i .i64 0) 17] (.block 0 [] (.loop [4,15,16,17] [] bg_Small.m1))) none (oS [oV 4 30,oV 30 2,oW (.b true) 3] .ret))))
def bg_Small.d:TFD:=D0 1 bg_Small.m [.t 2,.t 3]
def bg_Small.F (a:List UInt16):OT:=bg_Small.d.run bg_Small.E [(.sl .ws a)]
def bg_Small.k1:Cont (List TV):=seqK (ev _ bg_Small.E (oS [oV 4 30,oV 30 2,oW (.b true) 3] .ret)) none (endK bg_Small.d)
def bg_Small.l1 (x0:UInt64) (x1:List UInt16) (x2:Int) (x3:Int):OT:=loopL (evO _ bg_Small.E bg_Small.m1) isN [4,15,16,17] (headT [4,15,16,17] [(.u64 x0),(.sl .ws x1),(.i .i64 x2),(.i .i64 x3)]) (blockK 0 bg_Small.k1)
theorem bg_Small.l1_in (x0:UInt64) (x1:List UInt16) (x2:Int) (x3:Int) {ρ:OT} (K:∀(v1:UInt16) (h1:v1=(List.getD x1 (x3).toNat (0:UInt16))) (v2:UInt64) (h2:v2=(UInt64.ofInt ((v1).toNat:Int))) (v3:Int) (h3:v3=(IntKind.i64.wrap ((16:Int) * x3))) (v4:UInt64) (h4:v4=(x0 ||| (shl64 v2 ((v3).toNat)))) (v5:Int) (h5:v5=(IntKind.i64.wrap (x3+(1:Int)))),cond (decide (x3<x2))
  (ck (idxOK x3 (x1).length) (ck (decide (0≤v3)) (bg_Small.l1 v4 x1 x2 v5)))
  (some [(.u64 x0),(.b true)])=ρ):bg_Small.l1 x0 x1 x2 x3=ρ:=((ev_loop _ _ _ _ _ _).trans (by kernel_rfl)).trans (K _ rfl _ rfl _ rfl _ rfl _ rfl)
theorem bg_Small.F_in (a:List UInt16) {ρ:OT} (K:∀(v1:Bool) (h1:v1=(cond (!(Nt.is a)) true (decide ((4:Int)<((a).length:Int))))),ck (decide ((a).length≤1099511627776)) (ck (!(!(!(Nt.is a))) || (!(!(Nt.is a)))) (ck (!(!(!(Nt.is a))) || (!(!(Nt.is a)))) (ck ((!(Nt.is a)) || (!(!(Nt.is a)))) (cond v1
  (some [(.u64 0),(.b false)])
  (bg_Small.l1 (0:UInt64) a ((a).length:Int) (0:Int))))))=ρ):bg_Small.F a=ρ:=Eq.trans (by kernel_rfl) (K _ rfl)
theorem bg_Small.chk:CK 69 bg_Small.env bg_Small.d:=ckOf (by kernel_rfl)
def bg_Bits.env:EV:=[(42,(bg_Is.c,bg_Is.sg)),(66,(bits_Len16.c,bits_Len16.sg))]
def bg_Bits.E:TEnv:=envL nrGl bg_Bits.env
def bg_Bits.m:TM:=oS [oW (.i .i64 0) 2] (.seq (oS [oV 0 3,oC 42 1 1 [3] 4,oK (.k (.un .not)) [4] [5],oV 5 6,oG 6 false (oV 0 7),oG 6 false (oK (.k .len) [7] [8]),oG 6 false (oI .eql 8 (.i .i64 0) 9),oX (.k .pick) [.s 6,.c (.b true),.s 9] [10]] (.cond (.s 10) [] (oS [oW (.i .i64 0) 2] .ret) .skip)) none (oS [oV 0 11,oK (.k .len) [11] [12],oI .sub 12 (.i .i64 1) 13,oX (.k (.bin .mul)) [.c (.i .i64 16),.s 13] [14],oV 0 15,oV 0 16,oK (.k .len) [16] [17],oI .sub 17 (.i .i64 1) 18,oK (.k (.ix 1)) [15,18] [19],oK (.k (.lr 1 false)) [19] [20],oC 66 1 1 [20] 21,oB .add 14 21 22,oV 22 2] .ret))
def bg_Bits.d:TFD:=D0 1 bg_Bits.m [.t 2]
def bg_Bits.F (a:List UInt16):OT:=bg_Bits.d.run bg_Bits.E [(.sl .ws a)]
theorem bg_Bits.F_in (a:List UInt16) {ρ:OT} (K:∀(v1:Bool) (h1:v1=(cond (!(Nt.is a)) true (decide (((a).length:Int)=(0:Int))))) (v2:Int) (h2:v2=(IntKind.i64.wrap (((a).length:Int) - (1:Int)))) (v3:Int) (h3:v3=(IntKind.i64.wrap ((16:Int) * v2))) (v4:UInt16) (h4:v4=(List.getD a (v2).toNat (0:UInt16))) (v5:Int) (h5:v5=(IntKind.i64.wrap (v3+((Nt.bits (v4).toNat:Int))))),ck (decide ((a).length≤1099511627776)) (ck (!(!(!(Nt.is a))) || (!(!(Nt.is a)))) (ck (!(!(!(Nt.is a))) || (!(!(Nt.is a)))) (ck ((!(Nt.is a)) || (!(!(Nt.is a)))) (cond v1
  (some [(.i .i64 0)])
  (ck (idxOK v2 (a).length) (some [(.i .i64 v5)]))))))=ρ):bg_Bits.F a=ρ:=Eq.trans (by kernel_rfl) (K _ rfl _ rfl _ rfl _ rfl _ rfl)
theorem bg_Bits.chk:CK 46 bg_Bits.env bg_Bits.d:=ckOf (by kernel_rfl)
def bg_cmp.env:EV:=[]
def bg_cmp.E:TEnv:=envL nrGl bg_cmp.env
def bg_cmp.m1:TM := .seq (oS [oV 5 19,oI .geq 19 (.i .i64 0) 20] (.cond (.s 20) [] .skip (.exit 0))) none (.seq (.block 1 [] (oS [oV 0 23,oV 5 24,oK (.k (.ix 1)) [23,24] [25],oK (.k (.lr 1 false)) [25] [26],oV 1 27,oV 5 28,oK (.k (.ix 1)) [27,28] [29],oK (.k (.lr 1 false)) [29] [30],oB .neq 26 30 31] (.cond (.s 31) [] (.seq (oS [oV 0 32,oV 5 33,oK (.k (.ix 1)) [32,33] [34],oK (.k (.lr 1 false)) [34] [35],oV 1 36,oV 5 37,oK (.k (.ix 1)) [36,37] [38],oK (.k (.lr 1 false)) [38] [39],oB .lss 35 39 40] (.cond (.s 40) [] (oS [oW (.i .i64 (-1)) 4] .ret) .skip)) none (oS [oW (.i .i64 1) 4] .ret)) .skip))) none (.reg [oV 5 21,oI .sub 21 (.i .i64 1) 22,oV 22 5]))
def bg_cmp.m:TM:=oS [oW (.i .i64 0) 4] (.seq (oS [oV 0 6,oK (.k .len) [6] [7],oV 1 8,oK (.k .len) [8] [9],oB .neq 7 9 10] (.cond (.s 10) [] (.seq (oS [oV 0 11,oK (.k .len) [11] [12],oV 1 13,oK (.k .len) [13] [14],oB .lss 12 14 15] (.cond (.s 15) [] (oS [oW (.i .i64 (-1)) 4] .ret) .skip)) none (oS [oW (.i .i64 1) 4] .ret)) .skip)) none (.seq (oS [oV 0 16,oK (.k .len) [16] [17],oI .sub 17 (.i .i64 1) 18,oV 18 5] (.block 0 [] (.loop [0,1,5] [] bg_cmp.m1))) none (oS [oW (.i .i64 0) 4] .ret)))
def bg_cmp.d:TFD:=D0 2 bg_cmp.m [.t 4]
def bg_cmp.F (a:List UInt16) (b:List UInt16):OT:=bg_cmp.d.run bg_cmp.E [(.sl .ws a),(.sl .ws b)]
def bg_cmp.k1:Cont (List TV):=seqK (ev _ bg_cmp.E (oS [oW (.i .i64 0) 4] .ret)) none (endK bg_cmp.d)
def bg_cmp.l1 (x0:List UInt16) (x1:List UInt16) (x2:Int):OT:=loopL (evO _ bg_cmp.E bg_cmp.m1) isN [0,1,5] (headT [0,1,5] [(.sl .ws x0),(.sl .ws x1),(.i .i64 x2)]) (blockK 0 bg_cmp.k1)
theorem bg_cmp.l1_in (x0:List UInt16) (x1:List UInt16) (x2:Int) {ρ:OT} (K:∀(v1:UInt16) (h1:v1=(List.getD x0 (x2).toNat (0:UInt16))) (v2:UInt16) (h2:v2=(List.getD x1 (x2).toNat (0:UInt16))) (v3:Int) (h3:v3=(IntKind.i64.wrap (x2 - (1:Int)))),cond (decide ((0:Int)≤x2))
  (ck (idxOK x2 (x0).length) (ck (idxOK x2 (x1).length) (cond (!decide (v1=v2))
  (ck (idxOK x2 (x0).length) (ck (idxOK x2 (x1).length) (cond (decide (v1<v2))
  (some [(.i .i64 (-1))])
  (some [(.i .i64 1)]))))
  (bg_cmp.l1 x0 x1 v3))))
  (some [(.i .i64 0)])=ρ):bg_cmp.l1 x0 x1 x2=ρ:=((ev_loop _ _ _ _ _ _).trans (by kernel_rfl)).trans (K _ rfl _ rfl _ rfl)
theorem bg_cmp.F_in (a:List UInt16) (b:List UInt16) {ρ:OT} (K:∀(v1:Int) (h1:v1=(IntKind.i64.wrap (((a).length:Int) - (1:Int)))),cond (!decide (((a).length:Int)=((b).length:Int)))
  (cond (decide (((a).length:Int)<((b).length:Int)))
  (some [(.i .i64 (-1))])
  (some [(.i .i64 1)]))
  (bg_cmp.l1 a b v1)=ρ):bg_cmp.F a b=ρ:=Eq.trans (by kernel_rfl) (K _ rfl)
theorem bg_cmp.chk:CK 88 bg_cmp.env bg_cmp.d:=ckOf (by kernel_rfl)
def bg_Cmp.env:EV:=[(42,(bg_Is.c,bg_Is.sg)),(88,(bg_cmp.c,bg_cmp.sg))]
def bg_Cmp.E:TEnv:=envL nrGl bg_Cmp.env
def bg_Cmp.m:TM:=oS [oW (.i .i64 0) 4] (.seq (oS [oV 0 5,oC 42 1 1 [5] 6,oK (.k (.un .not)) [6] [7],oV 7 8,oG 8 false (oV 1 9),oG 8 false (oC 42 1 1 [9] 10),oG 8 false (oK (.k (.un .not)) [10] [11]),oX (.k .pick) [.s 8,.c (.b true),.s 11] [12]] (.cond (.s 12) [] (oS [oW (.i .i64 0) 4] .ret) .skip)) none (oS [oV 0 13,oV 1 14,oC 88 2 1 [13,14] 15,oV 15 4] .ret))
def bg_Cmp.d:TFD:=D0 2 bg_Cmp.m [.t 4]
def bg_Cmp.F (a:List UInt16) (b:List UInt16):OT:=bg_Cmp.d.run bg_Cmp.E [(.sl .ws a),(.sl .ws b)]
theorem bg_Cmp.F_in (a:List UInt16) (b:List UInt16) {ρ:OT} (K:∀(v1:Bool) (h1:v1=(cond (!(Nt.is a)) true (!(Nt.is b)))) (v2:Int) (h2:v2=(Nt.cmp (Nt.val a) (Nt.val b))),ck (decide ((a).length≤1099511627776)) (ck (!(!(!(Nt.is a))) || ((!(!(Nt.is a)))&&(decide ((b).length≤1099511627776)))) (ck (!(!(!(Nt.is a))) || (!(!(Nt.is a)))) (ck ((!(Nt.is a)) || (!(!(Nt.is a)))) (cond v1
  (some [(.i .i64 0)])
  (ck (decide ((a).length≤1099511627776∧(b).length≤1099511627776)&&(Nt.norm a&&Nt.norm b)) (some [(.i .i64 v2)]))))))=ρ):bg_Cmp.F a b=ρ:=Eq.trans (by kernel_rfl) (K _ rfl _ rfl)
theorem bg_Cmp.chk:CK 70 bg_Cmp.env bg_Cmp.d:=ckOf (by kernel_rfl)
def bg_numbers.env:EV:=[]
def bg_numbers.E:TEnv:=envL nrGl bg_numbers.env
def bg_numbers.m1:TM:=oS [oB .lss 11 10 12] (.seq (.cond (.s 12) [] .skip (.exit 0)) none (.seq (.block 1 [(3,.tip 101 1),(lk 101,.pv 1)] (oS [oV 11 13,oK (.k (.ix 1)) [9,11] [14],oK (.k (.lr 1 false)) [14] [15],oV 13 4,oV 15 5] (.reg [oV 3 16,oV 4 17,oV 5 18,oK (.k (.ci .i64)) [18] [19],oK (.k (.pix 101 1)) [16,17,(lk 101)] [20],oK (.k (.pst 101 1 1)) [20,(lk 101),19] [lk 101]]))) none (.reg [oI .add 11 (.i .i64 1) 21,oV 21 11])))
def bg_numbers.m:TM:=oS [oW (.sl .is ([]:List Int)) 2] (oS [oV 0 6,oK (.k .len) [6] [7],oK (.mkv 101 8 .is (0:Int)) [7,7,(lk 101)] [8,lk 101],oV 8 3] (.seq (oS [oV 0 9,oK (.k .len) [9] [10],oW (.i .i64 0) 11] (.block 0 [(3,.tip 101 1),(lk 101,.pv 1)] (.loop [3,9,10,11,lk 101] [(3,.tip 101 1),(lk 101,.pv 1)] bg_numbers.m1))) none (oS [oK (.k (.pfz 101 1)) [3,(lk 101)] [22,3,lk 101],oV 22 2] .ret)))
def bg_numbers.d:TFD:=D0 1 bg_numbers.m [.t 2]
def bg_numbers.F (a:List UInt16):OT:=bg_numbers.d.run bg_numbers.E [(.sl .ws a)]
def bg_numbers.k1:Cont (List TV):=seqK (ev _ bg_numbers.E (oS [oK (.k (.pfz 101 1)) [3,(lk 101)] [22,3,lk 101],oV 22 2] .ret)) none (endK bg_numbers.d)
def bg_numbers.l1 (x0:List UInt16) (x1:Int) (x2:Int) (x3:List Int):OT:=loopL (evO _ bg_numbers.E bg_numbers.m1) isN [3,9,10,11,lk 101] (headT [3,9,10,11,lk 101] [.pt,(.sl .ws x0),(.i .i64 x1),(.i .i64 x2),(.sl .is x3)]) (blockK 0 bg_numbers.k1)
theorem bg_numbers.l1_in (x0:List UInt16) (x1:Int) (x2:Int) (x3:List Int) {ρ:OT} (K:∀(v1:UInt16) (h1:v1=(List.getD x0 (x2).toNat (0:UInt16))) (v2:Int) (h2:v2=(IntKind.i64.wrap ((v1).toNat:Int))) (v3:List Int) (h3:v3=(List.set x3 ((x2).toNat) v2)) (v4:Int) (h4:v4=(IntKind.i64.wrap (x2+(1:Int)))),cond (decide (x2<x1))
  (ck (idxOK x2 (x0).length) (ck (idxOK x2 (x3).length) (ck (decide ((x2).toNat<(x3).length)) (bg_numbers.l1 x0 x1 v4 v3))))
  (some [(.sl .is x3)])=ρ):bg_numbers.l1 x0 x1 x2 x3=ρ:=((ev_loop _ _ _ _ _ _).trans (by kernel_rfl)).trans (K _ rfl _ rfl _ rfl _ rfl)
theorem bg_numbers.F_in (a:List UInt16) {ρ:OT} (K:∀(v1:List Int) (h1:v1=(List.replicate (((a).length:Int)).toNat (0:Int))),ck (mkOK ((a).length:Int) ((a).length:Int) 8) (bg_numbers.l1 a ((a).length:Int) (0:Int) v1)=ρ):bg_numbers.F a=ρ:=Eq.trans (by kernel_rfl) (K _ rfl)
theorem bg_numbers.chk:CK 44 bg_numbers.env bg_numbers.d:=ckOf (by kernel_rfl)
def bg_Mul.env:EV:=[(42,(bg_Is.c,bg_Is.sg)),(43,(wv_Fold.c,wv_Fold.sg)),(44,(bg_numbers.c,bg_numbers.sg)),(45,(bg_trim.c,bg_trim.sg))]
def bg_Mul.E:TEnv:=envL nrGl bg_Mul.env
def bg_Mul.m1:TM:=oS [oB .lss 29 28 30] (.seq (.cond (.s 30) [] .skip (.exit 0)) none (.seq (.block 1 [(7,.tip 104 1),(lk 104,.live 1)] (oS [oK (.k (.ix 1)) [27,29] [31],oK (.k (.lr 1 false)) [31] [32],oV 32 10] (oS [oV 8 33,oV 10 34,oB .add 33 34 35,oV 35 8] (oS [oV 7 36,oV 8 37,oK (.k (.ci .u16)) [37] [38],oK (.bl .ws 1) [38] [39],oK (.k (.ap 102 104 1 2)) [36,39,(lk 102),(lk 104)] [40,lk 102,lk 104],oV 40 7] (.reg [oV 8 41,oI .shr 41 (.u64 16) 42,oV 42 8]))))) none (.reg [oI .add 29 (.i .i64 1) 43,oV 43 29])))
def bg_Mul.m2:TM := .seq (oS [oV 8 44,oI .gtr 44 (.i .i64 0) 45] (.cond (.s 45) [] .skip (.exit 2))) none (.seq (.block 3 [(7,.tip 106 1),(lk 106,.live 1)] (.reg [oV 7 48,oV 8 49,oK (.k (.ci .u16)) [49] [50],oK (.bl .ws 1) [50] [51],oK (.k (.ap 102 106 1 2)) [48,51,(lk 102),(lk 106)] [52,lk 102,lk 106],oV 52 7])) none (.reg [oV 8 46,oI .shr 46 (.u64 16) 47,oV 47 8]))
def bg_Mul.m:TM:=oS [oW (.sl .ws ([]:List UInt16)) 4] (.seq (oS [oV 0 11,oC 42 1 1 [11] 12,oK (.k (.un .not)) [12] [13],oV 13 14,oG 14 false (oV 1 15),oG 14 false (oC 42 1 1 [15] 16),oG 14 false (oK (.k (.un .not)) [16] [17]),oX (.k .pick) [.s 14,.c (.b true),.s 17] [18]] (.cond (.s 18) [] (oS [oW (.sl .ws ([]:List UInt16)) 4] .ret) .skip)) none (oS [oV 0 20,oC 44 1 1 [20] 21,oV 1 22,oC 44 1 1 [22] 23,oC 43 2 2 [21,23] 24,oV 24 19,oE 0 19 25,oE 1 19 26,oV 25 5,oV 26 6] (oS [oK (.nl .ws 102) [(lk 102)] [7,lk 102]] (oS [oW (.i .i64 0) 8] (.seq (oS [oV 5 27,oK (.k .len) [27] [28],oW (.i .i64 0) 29] (.block 0 [(7,.tip 102 1),(lk 102,.live 1)] (.loop [7,8,27,28,29] [(7,.tip 102 1),(lk 102,.live 1)] bg_Mul.m1))) none (.seq (.block 2 [(7,.tip 102 1),(lk 102,.live 1)] (.loop [7,8] [(7,.tip 102 1),(lk 102,.live 1)] bg_Mul.m2)) none (oS [oV 7 53,oC 45 1 1 [53] 54,oV 54 4] .ret)))))))
def bg_Mul.d:TFD:=D0 2 bg_Mul.m [.t 4]
def bg_Mul.F (a:List UInt16) (b:List UInt16):OT:=bg_Mul.d.run bg_Mul.E [(.sl .ws a),(.sl .ws b)]
def bg_Mul.k1:Cont (List TV):=seqK (ev _ bg_Mul.E (.seq (.block 2 [(7,.tip 102 1),(lk 102,.live 1)] (.loop [7,8] [(7,.tip 102 1),(lk 102,.live 1)] bg_Mul.m2)) none (oS [oV 7 53,oC 45 1 1 [53] 54,oV 54 4] .ret))) none (endK bg_Mul.d)
def bg_Mul.k2:Cont (List TV):=seqK (ev _ bg_Mul.E (oS [oV 7 53,oC 45 1 1 [53] 54,oV 54 4] .ret)) none (endK bg_Mul.d)
def bg_Mul.l1 (x0:List UInt16) (x1:Int) (x2:List Int) (x3:Int) (x4:Int):OT:=loopL (evO _ bg_Mul.E bg_Mul.m1) isN [7,8,27,28,29] (headT [7,8,27,28,29] [(.sl .ws x0),(.i .i64 x1),(.sl .is x2),(.i .i64 x3),(.i .i64 x4)]) (blockK 0 bg_Mul.k1)
def bg_Mul.l2 (x0:List UInt16) (x1:Int):OT:=loopL (evO _ bg_Mul.E bg_Mul.m2) isN [7,8] (headT [7,8] [(.sl .ws x0),(.i .i64 x1)]) (blockK 2 bg_Mul.k2)
theorem bg_Mul.l1_in (x0:List UInt16) (x1:Int) (x2:List Int) (x3:Int) (x4:Int) {ρ:OT} (K:∀(v1:Int) (h1:v1=(List.getD x2 (x4).toNat (0:Int))) (v2:UInt16) (h2:v2=(UInt16.ofInt (IntKind.i64.wrap (x1+v1)))) (v3:Int) (h3:v3=(Int.fdiv (IntKind.i64.wrap (x1+v1)) (2 ^ (min (((16:UInt64)).toNat) (IntKind.i64.bits))))) (v4:Int) (h4:v4=(IntKind.i64.wrap (x4+(1:Int)))),cond (decide (x4<x3))
  (ck (idxOK x4 (x2).length) (ck (apOK ((x0).length+(([v2]:List UInt16)).length) 2) (bg_Mul.l1 (x0++([v2]:List UInt16)) v3 x2 x3 v4)))
  (bg_Mul.l2 x0 x1)=ρ):bg_Mul.l1 x0 x1 x2 x3 x4=ρ:=((ev_loop _ _ _ _ _ _).trans (by kernel_rfl)).trans (K _ rfl _ rfl _ rfl _ rfl)
theorem bg_Mul.l2_in (x0:List UInt16) (x1:Int) {ρ:OT} (K:∀(v1:List UInt16) (h1:v1=([(UInt16.ofInt x1)]:List UInt16)) (v2:Int) (h2:v2=(Int.fdiv x1 (2 ^ (min (((16:UInt64)).toNat) (IntKind.i64.bits))))),cond (decide ((0:Int)<x1))
  (ck (apOK ((x0).length+(v1).length) 2) (bg_Mul.l2 (x0++v1) v2))
  (ck (decide ((x0).length≤1099511627776)) (some [(.sl .ws (Nt.of (Nt.val x0)))]))=ρ):bg_Mul.l2 x0 x1=ρ:=((ev_loop _ _ _ _ _ _).trans (by kernel_rfl)).trans (K _ rfl _ rfl)
theorem bg_Mul.F_in (a:List UInt16) (b:List UInt16) {ρ:OT} (K:∀(v1:Bool) (h1:v1=(cond (!(Nt.is a)) true (!(Nt.is b)))) (v2:List Int) (h2:v2=((a).map fun d=>(d.toNat:Int))) (v3:List Int) (h3:v3=((b).map fun d=>(d.toNat:Int))) (v4:Int) (h4:v4=(((Gz.conv v2 v3)).length:Int)),ck (decide ((a).length≤1099511627776)) (ck (!(!(!(Nt.is a))) || ((!(!(Nt.is a)))&&(decide ((b).length≤1099511627776)))) (ck (!(!(!(Nt.is a))) || (!(!(Nt.is a)))) (ck ((!(Nt.is a)) || (!(!(Nt.is a)))) (cond v1
  (some [(.sl .ws ([]:List UInt16))])
  (ck (decide ((a).length≤256)) (ck (decide ((b).length≤256)) (ck (decide ((v2).length≤256∧(v3).length≤256)&&(Gz.digs v2&&Gz.digs v3)) (bg_Mul.l1 ([]:List UInt16) (0:Int) (Gz.conv v2 v3) v4 (0:Int)))))))))=ρ):bg_Mul.F a b=ρ:=Eq.trans (by kernel_rfl) (K _ rfl _ rfl _ rfl _ rfl)
theorem bg_Mul.chk:CK 21 bg_Mul.env bg_Mul.d:=ckOf (by kernel_rfl)
def bg_few.env:EV:=[(45,(bg_trim.c,bg_trim.sg))]
def bg_few.E:TEnv:=envL nrGl bg_few.env
def bg_few.m1:TM := .seq (oS [oV 8 15,oI .geq 15 (.i .i64 0) 16] (.cond (.s 16) [] .skip (.exit 0))) none (.seq (.block 1 [(6,.tip 101 1),(lk 101,.pv 1)] (oS [oV 7 19,oI .shl 19 (.u64 16) 20,oV 0 21,oV 8 22,oK (.k (.ix 1)) [21,22] [23],oK (.k (.lr 1 false)) [23] [24],oK (.k (.ci .u32)) [24] [25],oB .or 20 25 26,oV 26 7] (oS [oV 6 27,oV 8 28,oV 7 29,oV 1 30,oK (.k (.ci .u32)) [30] [31],oB .quo 29 31 32,oK (.k (.ci .u16)) [32] [33],oK (.k (.pix 101 1)) [27,28,(lk 101)] [34],oK (.k (.pst 101 1 1)) [34,(lk 101),33] [lk 101]] (.reg [oV 7 35,oV 1 36,oK (.k (.ci .u32)) [36] [37],oB .rem 35 37 38,oV 38 7])))) none (.reg [oV 8 17,oI .sub 17 (.i .i64 1) 18,oV 18 8]))
def bg_few.m:TM:=oS [oW (.sl .ws ([]:List UInt16)) 4,oW (.u16 0) 5] (oS [oV 0 9,oK (.k .len) [9] [10],oK (.mkv 101 2 .ws (0:UInt16)) [10,10,(lk 101)] [11,lk 101],oV 11 6] (oS [oW (.u32 0) 7] (.seq (oS [oV 0 12,oK (.k .len) [12] [13],oI .sub 13 (.i .i64 1) 14,oV 14 8] (.block 0 [(6,.tip 101 1),(lk 101,.pv 1)] (.loop [0,1,6,7,8,lk 101] [(6,.tip 101 1),(lk 101,.pv 1)] bg_few.m1))) none (oS [oK (.k (.pfz 101 1)) [6,(lk 101)] [39,6,lk 101],oC 45 1 1 [39] 40,oV 7 41,oK (.k (.ci .u16)) [41] [42],oV 40 4,oV 42 5] .ret))))
def bg_few.d:TFD:=D0 2 bg_few.m [.t 4,.t 5]
def bg_few.F (a:List UInt16) (d:UInt16):OT:=bg_few.d.run bg_few.E [(.sl .ws a),(.u16 d)]
def bg_few.k1:Cont (List TV):=seqK (ev _ bg_few.E (oS [oK (.k (.pfz 101 1)) [6,(lk 101)] [39,6,lk 101],oC 45 1 1 [39] 40,oV 7 41,oK (.k (.ci .u16)) [41] [42],oV 40 4,oV 42 5] .ret)) none (endK bg_few.d)
def bg_few.l1 (x0:List UInt16) (x1:UInt16) (x2:UInt32) (x3:Int) (x4:List UInt16):OT:=loopL (evO _ bg_few.E bg_few.m1) isN [0,1,6,7,8,lk 101] (headT [0,1,6,7,8,lk 101] [(.sl .ws x0),(.u16 x1),.pt,(.u32 x2),(.i .i64 x3),(.sl .ws x4)]) (blockK 0 bg_few.k1)
theorem bg_few.l1_in (x0:List UInt16) (x1:UInt16) (x2:UInt32) (x3:Int) (x4:List UInt16) {ρ:OT} (K:∀(v1:UInt32) (h1:v1=(shl32 x2 (((16:UInt64)).toNat))) (v2:UInt16) (h2:v2=(List.getD x0 (x3).toNat (0:UInt16))) (v3:UInt32) (h3:v3=(UInt32.ofInt ((v2).toNat:Int))) (v4:UInt32) (h4:v4=(UInt32.ofInt ((x1).toNat:Int))) (v5:UInt16) (h5:v5=(UInt16.ofInt ((((v1 ||| v3) / v4)).toNat:Int))) (v6:List UInt16) (h6:v6=(List.set x4 ((x3).toNat) v5)) (v7:Int) (h7:v7=(IntKind.i64.wrap (x3 - (1:Int)))) (v8:UInt16) (h8:v8=(UInt16.ofInt ((x2).toNat:Int))),cond (decide ((0:Int)≤x3))
  (ck (idxOK x3 (x0).length) (ck (!decide (v4=0)) (ck (idxOK x3 (x4).length) (ck (decide ((x3).toNat<(x4).length)) (ck (!decide (v4=0)) (bg_few.l1 x0 x1 ((v1 ||| v3) % v4) v7 v6))))))
  (ck (decide ((x4).length≤1099511627776)) (some [(.sl .ws (Nt.of (Nt.val x4))),(.u16 v8)]))=ρ):bg_few.l1 x0 x1 x2 x3 x4=ρ:=((ev_loop _ _ _ _ _ _).trans (by kernel_rfl)).trans (K _ rfl _ rfl _ rfl _ rfl _ rfl _ rfl _ rfl _ rfl)
theorem bg_few.F_in (a:List UInt16) (d:UInt16) {ρ:OT} (K:∀(v1:List UInt16) (h1:v1=(List.replicate (((a).length:Int)).toNat (0:UInt16))) (v2:Int) (h2:v2=(IntKind.i64.wrap (((a).length:Int) - (1:Int)))),ck (mkOK ((a).length:Int) ((a).length:Int) 2) (bg_few.l1 a d (0:UInt32) v2 v1)=ρ):bg_few.F a d=ρ:=Eq.trans (by kernel_rfl) (K _ rfl _ rfl)
theorem bg_few.chk:CK 90 bg_few.env bg_few.d:=ckOf (by kernel_rfl)
def bg_up.env:EV:=[]
def bg_up.E:TEnv:=envL nrGl bg_up.env
def bg_up.m1:TM:=oS [oB .lss 11 10 12] (.seq (.cond (.s 12) [] .skip (.exit 0)) none (.seq (.block 1 [(5,.tip 103 1),(lk 103,.live 1)] (oS [oK (.k (.ix 1)) [9,11] [13],oK (.k (.lr 1 false)) [13] [14],oV 14 8] (oS [oV 6 15,oV 8 16,oK (.k (.ci .u32)) [16] [17],oV 1 18,oB .shl 17 18 19,oB .or 15 19 20,oV 20 6] (oS [oV 5 21,oV 6 22,oK (.k (.ci .u16)) [22] [23],oK (.bl .ws 1) [23] [24],oK (.k (.ap 101 103 1 2)) [21,24,(lk 101),(lk 103)] [25,lk 101,lk 103],oV 25 5] (.reg [oV 6 26,oI .shr 26 (.u64 16) 27,oV 27 6]))))) none (.reg [oI .add 11 (.i .i64 1) 28,oV 28 11])))
def bg_up.m2:TM:=oS [oV 5 36,oV 36 4] .ret
def bg_up.m:TM:=oS [oW (.sl .ws ([]:List UInt16)) 4] (oS [oK (.nl .ws 101) [(lk 101)] [5,lk 101]] (oS [oW (.u32 0) 6] (.seq (oS [oV 0 9,oK (.k .len) [9] [10],oW (.i .i64 0) 11] (.block 0 [(5,.tip 101 1),(lk 101,.live 1)] (.loop [1,5,6,9,10,11] [(5,.tip 101 1),(lk 101,.live 1)] bg_up.m1))) none (.seq (oS [oV 6 29,oI .gtr 29 (.u32 0) 30] (.cond (.s 30) [(5,.tip 105 1),(lk 105,.live 1)] (.reg [oV 5 31,oV 6 32,oK (.k (.ci .u16)) [32] [33],oK (.bl .ws 1) [33] [34],oK (.k (.ap 101 105 1 2)) [31,34,(lk 101),(lk 105)] [35,lk 101,lk 105],oV 35 5]) .skip)) (some [5]) bg_up.m2))))
def bg_up.d:TFD:={ np:=2,m:=bg_up.m,ref:=none,tips:=[],res:=[.t 4],own:=[(0,1)],new:=none,tnew:=[] }
def bg_up.F (a:List UInt16) (n:Int):OT:=bg_up.d.run bg_up.E [(.sl .ws a),(.i .i64 n)]
def bg_up.k1:Cont (List TV):=seqK (ev _ bg_up.E (.seq (oS [oV 6 29,oI .gtr 29 (.u32 0) 30] (.cond (.s 30) [(5,.tip 105 1),(lk 105,.live 1)] (.reg [oV 5 31,oV 6 32,oK (.k (.ci .u16)) [32] [33],oK (.bl .ws 1) [33] [34],oK (.k (.ap 101 105 1 2)) [31,34,(lk 101),(lk 105)] [35,lk 101,lk 105],oV 35 5]) .skip)) (some [5]) bg_up.m2)) none (endK bg_up.d)
def bg_up.l1 (x0:Int) (x1:List UInt16) (x2:UInt32) (x3:List UInt16) (x4:Int) (x5:Int):OT:=loopL (evO _ bg_up.E bg_up.m1) isN [1,5,6,9,10,11] (headT [1,5,6,9,10,11] [(.i .i64 x0),(.sl .ws x1),(.u32 x2),(.sl .ws x3),(.i .i64 x4),(.i .i64 x5)]) (blockK 0 bg_up.k1)
def bg_up.j2 (x0:List UInt16):OT:=evO _ bg_up.E bg_up.m2 (headT [5] [(.sl .ws x0)]) (endK bg_up.d)
theorem bg_up.l1_in (x0:Int) (x1:List UInt16) (x2:UInt32) (x3:List UInt16) (x4:Int) (x5:Int) {ρ:OT} (K:∀(v1:UInt16) (h1:v1=(List.getD x3 (x5).toNat (0:UInt16))) (v2:UInt32) (h2:v2=(UInt32.ofInt ((v1).toNat:Int))) (v3:UInt32) (h3:v3=(x2 ||| (shl32 v2 ((x0).toNat)))) (v4:UInt16) (h4:v4=(UInt16.ofInt ((v3).toNat:Int))) (v5:UInt32) (h5:v5=(shr32 v3 (((16:UInt64)).toNat))) (v6:Int) (h6:v6=(IntKind.i64.wrap (x5+(1:Int)))) (v7:UInt16) (h7:v7=(UInt16.ofInt ((x2).toNat:Int))),cond (decide (x5<x4))
  (ck (idxOK x5 (x3).length) (ck (decide (0≤x0)) (ck (apOK ((x1).length+(([v4]:List UInt16)).length) 2) (bg_up.l1 x0 (x1++([v4]:List UInt16)) v5 x3 x4 v6))))
  (cond (decide ((0:UInt32)<x2))
  (ck (apOK ((x1).length+(([v7]:List UInt16)).length) 2) (bg_up.j2 (x1++([v7]:List UInt16))))
  (bg_up.j2 x1))=ρ):bg_up.l1 x0 x1 x2 x3 x4 x5=ρ:=((ev_loop _ _ _ _ _ _).trans (by kernel_rfl)).trans (K _ rfl _ rfl _ rfl _ rfl _ rfl _ rfl _ rfl)
theorem bg_up.j2_eq (x0:List UInt16):bg_up.j2 x0=some [(.sl .ws x0)]:=((congrFun (congrFun (ev_eq _ _) _) _).trans (by kernel_rfl))
theorem bg_up.F_eq (a:List UInt16) (n:Int):bg_up.F a n=bg_up.l1 n ([]:List UInt16) (0:UInt32) a ((a).length:Int) (0:Int):=by kernel_rfl
theorem bg_up.chk:CK 87 bg_up.env bg_up.d:=ckOf (by kernel_rfl)
def bg_down.env:EV:=[(45,(bg_trim.c,bg_trim.sg))]
def bg_down.E:TEnv:=envL nrGl bg_down.env
def bg_down.m1:TM := .reg [oI .add 13 (.i .i64 1) 45,oV 45 13]
def bg_down.m2:TM:=oS [oB .lss 13 12 14] (.seq (.cond (.s 14) [] .skip (.exit 0)) none (.seq (.block 1 [(5,.tip 101 1),(lk 101,.pv 1)] (oS [oV 13 15,oK (.k (.ix 1)) [11,13] [16],oK (.k (.lr 1 false)) [16] [17],oV 15 6,oV 17 7] (oS [oV 5 18,oV 6 19,oV 7 20,oV 1 21,oB .shr 20 21 22,oK (.k (.pix 101 1)) [18,19,(lk 101)] [23],oK (.k (.pst 101 1 1)) [23,(lk 101),22] [lk 101]] (oS [oV 6 24,oI .add 24 (.i .i64 1) 25,oV 0 26,oK (.k .len) [26] [27],oB .lss 25 27 28] (.cond (.s 28) [(5,.tip 101 1),(lk 101,.pv 1)] (.reg [oV 5 29,oV 6 30,oK (.k (.pix 101 1)) [29,30,(lk 101)] [31],oK (.k (.pld 101 1 1 false)) [31,(lk 101)] [32],oV 0 33,oV 6 34,oI .add 34 (.i .i64 1) 35,oK (.k (.ix 1)) [33,35] [36],oK (.k (.lr 1 false)) [36] [37],oK (.k (.ci .u32)) [37] [38],oV 1 39,oX (.k (.bin .sub)) [.c (.i .i64 16),.s 39] [40],oB .shl 38 40 41,oK (.k (.ci .u16)) [41] [42],oB .or 32 42 43,oK (.k (.pix 101 1)) [29,30,(lk 101)] [44],oK (.k (.pst 101 1 1)) [44,(lk 101),43] [lk 101]]) .skip))))) (some [0,1,5,11,12,13,lk 101]) bg_down.m1))
def bg_down.m:TM:=oS [oW (.sl .ws ([]:List UInt16)) 4] (oS [oV 0 8,oK (.k .len) [8] [9],oK (.mkv 101 2 .ws (0:UInt16)) [9,9,(lk 101)] [10,lk 101],oV 10 5] (.seq (oS [oV 0 11,oK (.k .len) [11] [12],oW (.i .i64 0) 13] (.block 0 [(5,.tip 101 1),(lk 101,.pv 1)] (.loop [0,1,5,11,12,13,lk 101] [(5,.tip 101 1),(lk 101,.pv 1)] bg_down.m2))) none (oS [oK (.k (.pfz 101 1)) [5,(lk 101)] [46,5,lk 101],oC 45 1 1 [46] 47,oV 47 4] .ret)))
def bg_down.d:TFD:=D0 2 bg_down.m [.t 4]
def bg_down.F (a:List UInt16) (n:Int):OT:=bg_down.d.run bg_down.E [(.sl .ws a),(.i .i64 n)]
def bg_down.k1:Cont (List TV):=seqK (ev _ bg_down.E (oS [oK (.k (.pfz 101 1)) [5,(lk 101)] [46,5,lk 101],oC 45 1 1 [46] 47,oV 47 4] .ret)) none (endK bg_down.d)
def bg_down.k2:Cont (List TV):=againK (evO _ bg_down.E bg_down.m2) isN [0,1,5,11,12,13,lk 101] (blockK 0 bg_down.k1)
def bg_down.l1 (x0:List UInt16) (x1:Int) (x2:List UInt16) (x3:Int) (x4:Int) (x5:List UInt16):OT:=loopL (evO _ bg_down.E bg_down.m2) isN [0,1,5,11,12,13,lk 101] (headT [0,1,5,11,12,13,lk 101] [(.sl .ws x0),(.i .i64 x1),.pt,(.sl .ws x2),(.i .i64 x3),(.i .i64 x4),(.sl .ws x5)]) (blockK 0 bg_down.k1)
def bg_down.j2 (x0:List UInt16) (x1:Int) (x2:List UInt16) (x3:Int) (x4:Int) (x5:List UInt16):OT:=evO _ bg_down.E bg_down.m1 (headT [0,1,5,11,12,13,lk 101] [(.sl .ws x0),(.i .i64 x1),.pt,(.sl .ws x2),(.i .i64 x3),(.i .i64 x4),(.sl .ws x5)]) bg_down.k2
theorem bg_down.l1_in (x0:List UInt16) (x1:Int) (x2:List UInt16) (x3:Int) (x4:Int) (x5:List UInt16) {ρ:OT} (K:∀(v1:UInt16) (h1:v1=(List.getD x2 (x4).toNat (0:UInt16))) (v2:List UInt16) (h2:v2=(List.set x5 ((x4).toNat) (shr16 v1 ((x1).toNat)))) (v3:Int) (h3:v3=(IntKind.i64.wrap (x4+(1:Int)))) (v4:UInt16) (h4:v4=(List.getD v2 ((x4).toNat) (0:UInt16))) (v5:UInt16) (h5:v5=(List.getD x0 (v3).toNat (0:UInt16))) (v6:UInt32) (h6:v6=(UInt32.ofInt ((v5).toNat:Int))) (v7:Int) (h7:v7=(IntKind.i64.wrap ((16:Int) - x1))) (v8:UInt16) (h8:v8=(UInt16.ofInt (((shl32 v6 ((v7).toNat))).toNat:Int))) (v9:List UInt16) (h9:v9=(List.set v2 ((x4).toNat) (v4 ||| v8))),cond (decide (x4<x3))
  (ck (idxOK x4 (x2).length) (ck (decide (0≤x1)) (ck (idxOK x4 (x5).length) (ck (decide ((x4).toNat<(x5).length)) (cond (decide (v3<((x0).length:Int)))
  (ck (idxOK x4 (v2).length) (ck (decide ((x4).toNat<(v2).length)) (ck (idxOK v3 (x0).length) (ck (decide (0≤v7)) (ck (idxOK x4 (v2).length) (ck (decide ((x4).toNat<(v2).length)) (bg_down.j2 x0 x1 x2 x3 x4 v9)))))))
  (bg_down.j2 x0 x1 x2 x3 x4 v2))))))
  (ck (decide ((x5).length≤1099511627776)) (some [(.sl .ws (Nt.of (Nt.val x5)))]))=ρ):bg_down.l1 x0 x1 x2 x3 x4 x5=ρ:=((ev_loop _ _ _ _ _ _).trans (by kernel_rfl)).trans (K _ rfl _ rfl _ rfl _ rfl _ rfl _ rfl _ rfl _ rfl _ rfl)
theorem bg_down.j2_in (x0:List UInt16) (x1:Int) (x2:List UInt16) (x3:Int) (x4:Int) (x5:List UInt16) {ρ:OT} (K:∀(v1:Int) (h1:v1=(IntKind.i64.wrap (x4+(1:Int)))),bg_down.l1 x0 x1 x2 x3 v1 x5=ρ):bg_down.j2 x0 x1 x2 x3 x4 x5=ρ:=((congrFun (congrFun (ev_eq _ _) _) _).trans (by kernel_rfl)).trans (K _ rfl)
theorem bg_down.F_in (a:List UInt16) (n:Int) {ρ:OT} (K:∀(v1:List UInt16) (h1:v1=(List.replicate (((a).length:Int)).toNat (0:UInt16))),ck (mkOK ((a).length:Int) ((a).length:Int) 2) (bg_down.l1 a n a ((a).length:Int) (0:Int) v1)=ρ):bg_down.F a n=ρ:=Eq.trans (by kernel_rfl) (K _ rfl)
theorem bg_down.chk:CK 92 bg_down.env bg_down.d:=ckOf (by kernel_rfl)
end
end Go.Eng
namespace Go.Eng
open Go.Proofs
noncomputable section
def bg_long.env:EV:=[]
def bg_long.E:TEnv:=envL nrGl bg_long.env
def bg_long.m1:TM := .seq (oS [oV 9 71,oI .gtr 71 (.u64 65535) 72,oV 72 73,oG 73 false (oV 9 74),oG 73 false (oV 1 75),oG 73 false (oV 6 76),oG 73 false (oI .sub 76 (.i .i64 2) 77),oG 73 false (oK (.k (.ix 1)) [75,77] [78]),oG 73 false (oK (.k (.lr 1 false)) [78] [79]),oG 73 false (oK (.k (.ci .u64)) [79] [80]),oG 73 false (oB .mul 74 80 81),oG 73 false (oV 10 82),oG 73 false (oI .shl 82 (.u64 16) 83),oG 73 false (oV 0 84),oG 73 false (oV 7 85),oG 73 false (oV 6 86),oG 73 false (oB .add 85 86 87),oG 73 false (oI .sub 87 (.i .i64 2) 88),oG 73 false (oK (.k (.pix 103 1)) [84,88,(lk 103)] [89]),oG 73 false (oK (.k (.pld 103 1 1 false)) [89,(lk 103)] [90]),oG 73 false (oK (.k (.ci .u64)) [90] [91]),oG 73 false (oB .or 83 91 92),oG 73 false (oB .gtr 81 92 93),oX (.k .pick) [.s 73,.c (.b true),.s 93] [94]] (.cond (.s 94) [] .skip (.exit 2))) none (.block 3 [(0,.tip 103 1),(4,.tip 104 1),(lk 103,.pv 1),(lk 104,.pv 1)] (oS [oV 9 95,oI .sub 95 (.u64 1) 96,oV 96 9] (oS [oV 10 97,oV 1 98,oV 6 99,oI .sub 99 (.i .i64 1) 100,oK (.k (.ix 1)) [98,100] [101],oK (.k (.lr 1 false)) [101] [102],oK (.k (.ci .u64)) [102] [103],oB .add 97 103 104,oV 104 10] (oS [oV 10 105,oI .gtr 105 (.u64 65535) 106] (.cond (.s 106) [] (.exit 2) .skip)))))
def bg_long.m2:TM:=oS [oB .lss 108 107 109] (.seq (.cond (.s 109) [] .skip (.exit 4)) none (.seq (.block 5 [(0,.tip 103 1),(4,.tip 104 1),(lk 103,.pv 1),(lk 104,.pv 1)] (oS [oV 108 110,oV 110 13] (oS [oV 9 111,oV 1 112,oV 13 113,oK (.k (.ix 1)) [112,113] [114],oK (.k (.lr 1 false)) [114] [115],oK (.k (.ci .u64)) [115] [116],oB .mul 111 116 117,oV 12 118,oB .add 117 118 119,oV 119 14] (oS [oV 14 120,oI .shr 120 (.u64 16) 121,oV 121 12] (oS [oV 0 122,oV 13 123,oV 7 124,oB .add 123 124 125,oK (.k (.pix 103 1)) [122,125,(lk 103)] [126],oK (.k (.pld 103 1 1 false)) [126,(lk 103)] [127],oK (.k (.ci .i64)) [127] [128],oV 11 129,oB .sub 128 129 130,oV 14 131,oI .and 131 (.u64 65535) 132,oK (.k (.ci .i64)) [132] [133],oB .sub 130 133 134,oV 134 15] (.reg [oV 0 135,oV 13 136,oV 7 137,oB .add 136 137 138,oV 15 139,oK (.k (.ci .u16)) [139] [140],oV 15 141,oI .shr 141 (.u64 16) 142,oI .and 142 (.i .i64 1) 143,oK (.k (.pix 103 1)) [135,138,(lk 103)] [144],oK (.k (.pst 103 1 1)) [144,(lk 103),140] [lk 103],oV 143 11])))))) none (.reg [oI .add 108 (.i .i64 1) 145,oV 145 108])))
def bg_long.m3:TM:=oS [oB .lss 170 169 171] (.seq (.cond (.s 171) [] .skip (.exit 6)) none (.seq (.block 7 [(0,.tip 103 1),(4,.tip 104 1),(lk 103,.pv 1),(lk 104,.pv 1)] (oS [oV 170 172,oV 172 18] (oS [oV 17 173,oV 0 174,oV 18 175,oV 7 176,oB .add 175 176 177,oK (.k (.pix 103 1)) [174,177,(lk 103)] [178],oK (.k (.pld 103 1 1 false)) [178,(lk 103)] [179],oK (.k (.ci .u32)) [179] [180],oV 1 181,oV 18 182,oK (.k (.ix 1)) [181,182] [183],oK (.k (.lr 1 false)) [183] [184],oK (.k (.ci .u32)) [184] [185],oB .add 180 185 186,oB .add 173 186 187,oV 187 17] (oS [oV 0 188,oV 18 189,oV 7 190,oB .add 189 190 191,oV 17 192,oK (.k (.ci .u16)) [192] [193],oK (.k (.pix 103 1)) [188,191,(lk 103)] [194],oK (.k (.pst 103 1 1)) [194,(lk 103),193] [lk 103]] (.reg [oV 17 195,oI .shr 195 (.u64 16) 196,oV 196 17]))))) none (.reg [oI .add 170 (.i .i64 1) 197,oV 197 170])))
def bg_long.m4:TM := .reg [oV 4 208,oV 7 209,oV 9 210,oK (.k (.ci .u16)) [210] [211],oK (.k (.pix 104 1)) [208,209,(lk 104)] [212],oK (.k (.pst 104 1 1)) [212,(lk 104),211] [lk 104]]
def bg_long.m5:TM:=oS [oW (.i .i64 0) 11,oW (.u64 0) 12] (.seq (oS [oV 6 107,oW (.i .i64 0) 108] (.block 4 [(0,.tip 103 1),(4,.tip 104 1),(lk 103,.pv 1),(lk 104,.pv 1)] (.loop [0,1,4,6,7,9,11,12,107,108,lk 103,lk 104] [(0,.tip 103 1),(4,.tip 104 1),(lk 103,.pv 1),(lk 104,.pv 1)] bg_long.m2))) none (oS [oV 0 146,oV 7 147,oV 6 148,oB .add 147 148 149,oK (.k (.pix 103 1)) [146,149,(lk 103)] [150],oK (.k (.pld 103 1 1 false)) [150,(lk 103)] [151],oK (.k (.ci .i64)) [151] [152],oV 11 153,oB .sub 152 153 154,oV 12 155,oK (.k (.ci .i64)) [155] [156],oB .sub 154 156 157,oV 157 16] (oS [oV 0 158,oV 7 159,oV 6 160,oB .add 159 160 161,oV 16 162,oK (.k (.ci .u16)) [162] [163],oK (.k (.pix 103 1)) [158,161,(lk 103)] [164],oK (.k (.pst 103 1 1)) [164,(lk 103),163] [lk 103]] (.seq (oS [oV 16 165,oI .lss 165 (.i .i64 0) 166] (.cond (.s 166) [(0,.tip 103 1),(4,.tip 104 1),(lk 103,.pv 1),(lk 104,.pv 1)] (oS [oV 9 167,oI .sub 167 (.u64 1) 168,oV 168 9] (oS [oW (.u32 0) 17] (.seq (oS [oV 6 169,oW (.i .i64 0) 170] (.block 6 [(0,.tip 103 1),(4,.tip 104 1),(lk 103,.pv 1),(lk 104,.pv 1)] (.loop [0,1,4,6,7,9,17,169,170,lk 103,lk 104] [(0,.tip 103 1),(4,.tip 104 1),(lk 103,.pv 1),(lk 104,.pv 1)] bg_long.m3))) none (.reg [oV 0 198,oV 7 199,oV 6 200,oB .add 199 200 201,oK (.k (.pix 103 1)) [198,201,(lk 103)] [202],oK (.k (.pld 103 1 1 false)) [202,(lk 103)] [203],oV 17 204,oK (.k (.ci .u16)) [204] [205],oB .add 203 205 206,oK (.k (.pix 103 1)) [198,201,(lk 103)] [207],oK (.k (.pst 103 1 1)) [207,(lk 103),206] [lk 103]])))) .skip)) (some [0,1,4,6,7,9,lk 103,lk 104]) bg_long.m4))))
def bg_long.m6:TM := .seq (oS [oV 7 34,oI .geq 34 (.i .i64 0) 35] (.cond (.s 35) [] .skip (.exit 0))) none (.seq (.block 1 [(0,.tip 103 1),(4,.tip 104 1),(lk 103,.pv 1),(lk 104,.pv 1)] (oS [oV 0 38,oV 7 39,oV 6 40,oB .add 39 40 41,oK (.k (.pix 103 1)) [38,41,(lk 103)] [42],oK (.k (.pld 103 1 1 false)) [42,(lk 103)] [43],oK (.k (.ci .u64)) [43] [44],oI .shl 44 (.u64 16) 45,oV 0 46,oV 7 47,oV 6 48,oB .add 47 48 49,oI .sub 49 (.i .i64 1) 50,oK (.k (.pix 103 1)) [46,50,(lk 103)] [51],oK (.k (.pld 103 1 1 false)) [51,(lk 103)] [52],oK (.k (.ci .u64)) [52] [53],oB .or 45 53 54,oV 54 8] (oS [oV 8 55,oV 1 56,oV 6 57,oI .sub 57 (.i .i64 1) 58,oK (.k (.ix 1)) [56,58] [59],oK (.k (.lr 1 false)) [59] [60],oK (.k (.ci .u64)) [60] [61],oB .quo 55 61 62,oV 8 63,oV 1 64,oV 6 65,oI .sub 65 (.i .i64 1) 66,oK (.k (.ix 1)) [64,66] [67],oK (.k (.lr 1 false)) [67] [68],oK (.k (.ci .u64)) [68] [69],oB .rem 63 69 70,oV 62 9,oV 70 10] (.seq (.block 2 [(0,.tip 103 1),(4,.tip 104 1),(lk 103,.pv 1),(lk 104,.pv 1)] (.loop [0,1,4,6,7,9,10,lk 103,lk 104] [(0,.tip 103 1),(4,.tip 104 1),(lk 103,.pv 1),(lk 104,.pv 1)] bg_long.m1)) (some [0,1,4,6,7,9,lk 103,lk 104]) bg_long.m5)))) none (.reg [oV 7 36,oI .sub 36 (.i .i64 1) 37,oV 37 7]))
def bg_long.m:TM:=oS [oW (.sl .ws ([]:List UInt16)) 4,oW (.sl .ws ([]:List UInt16)) 5] (oS [oV 1 19,oK (.k .len) [19] [20],oV 20 6] (oS [oV 0 21,oX (.bl .ws 1) [.c (.u16 0)] [22],oK (.k (.ppv 999998 103 1 2)) [21,22,(lk 999998),(lk 103)] [23,lk 999998,lk 103],oV 23 0] (oS [oV 0 24,oK (.k (.pln 103)) [24,(lk 103)] [25],oV 6 26,oB .sub 25 26 27,oK (.mkv 104 2 .ws (0:UInt16)) [27,27,(lk 104)] [28,lk 104],oV 28 4] (.seq (oS [oV 0 29,oK (.k (.pln 103)) [29,(lk 103)] [30],oV 6 31,oB .sub 30 31 32,oI .sub 32 (.i .i64 1) 33,oV 33 7] (.block 0 [(0,.tip 103 1),(4,.tip 104 1),(lk 103,.pv 1),(lk 104,.pv 1)] (.loop [0,1,4,6,7,lk 103,lk 104] [(0,.tip 103 1),(4,.tip 104 1),(lk 103,.pv 1),(lk 104,.pv 1)] bg_long.m6))) none (oS [oK (.k (.pfz 104 1)) [4,(lk 104)] [213,4,lk 104],oK (.k (.pfz 103 1)) [0,(lk 103)] [214,0,lk 103],oV 6 215,oK (.k (.sc 1 false true)) [214,215] [216],oV 213 4,oV 216 5] .ret)))))
def bg_long.d:TFD:={ np:=2,m:=bg_long.m,ref:=none,tips:=[],res:=[.t 4,.t 5],own:=[],new:=none,tnew:=[],ps:=some (0,999998,1) }
def bg_long.F (u:List UInt16) (v:List UInt16):OT:=bg_long.d.run bg_long.E [(.sl .ws u),(.sl .ws v)]
def bg_long.k1:Cont (List TV):=seqK (ev _ bg_long.E (oS [oK (.k (.pfz 104 1)) [4,(lk 104)] [213,4,lk 104],oK (.k (.pfz 103 1)) [0,(lk 103)] [214,0,lk 103],oV 6 215,oK (.k (.sc 1 false true)) [214,215] [216],oV 213 4,oV 216 5] .ret)) none (endK bg_long.d)
def bg_long.k2:Cont (List TV):=againK (evO _ bg_long.E bg_long.m6) isN [0,1,4,6,7,lk 103,lk 104] (blockK 0 bg_long.k1)
def bg_long.k3:Cont (List TV):=seqK (ev _ bg_long.E (.reg [oV 7 36,oI .sub 36 (.i .i64 1) 37,oV 37 7])) none bg_long.k2
def bg_long.k4:Cont (List TV):=seqK (evO _ bg_long.E bg_long.m5) (some [0,1,4,6,7,9,lk 103,lk 104]) (blockK 1 bg_long.k3)
def bg_long.k5:Cont (List TV):=seqK (ev _ bg_long.E (oS [oV 0 146,oV 7 147,oV 6 148,oB .add 147 148 149,oK (.k (.pix 103 1)) [146,149,(lk 103)] [150],oK (.k (.pld 103 1 1 false)) [150,(lk 103)] [151],oK (.k (.ci .i64)) [151] [152],oV 11 153,oB .sub 152 153 154,oV 12 155,oK (.k (.ci .i64)) [155] [156],oB .sub 154 156 157,oV 157 16] (oS [oV 0 158,oV 7 159,oV 6 160,oB .add 159 160 161,oV 16 162,oK (.k (.ci .u16)) [162] [163],oK (.k (.pix 103 1)) [158,161,(lk 103)] [164],oK (.k (.pst 103 1 1)) [164,(lk 103),163] [lk 103]] (.seq (oS [oV 16 165,oI .lss 165 (.i .i64 0) 166] (.cond (.s 166) [(0,.tip 103 1),(4,.tip 104 1),(lk 103,.pv 1),(lk 104,.pv 1)] (oS [oV 9 167,oI .sub 167 (.u64 1) 168,oV 168 9] (oS [oW (.u32 0) 17] (.seq (oS [oV 6 169,oW (.i .i64 0) 170] (.block 6 [(0,.tip 103 1),(4,.tip 104 1),(lk 103,.pv 1),(lk 104,.pv 1)] (.loop [0,1,4,6,7,9,17,169,170,lk 103,lk 104] [(0,.tip 103 1),(4,.tip 104 1),(lk 103,.pv 1),(lk 104,.pv 1)] bg_long.m3))) none (.reg [oV 0 198,oV 7 199,oV 6 200,oB .add 199 200 201,oK (.k (.pix 103 1)) [198,201,(lk 103)] [202],oK (.k (.pld 103 1 1 false)) [202,(lk 103)] [203],oV 17 204,oK (.k (.ci .u16)) [204] [205],oB .add 203 205 206,oK (.k (.pix 103 1)) [198,201,(lk 103)] [207],oK (.k (.pst 103 1 1)) [207,(lk 103),206] [lk 103]])))) .skip)) (some [0,1,4,6,7,9,lk 103,lk 104]) bg_long.m4)))) none (blockK 1 bg_long.k3)
def bg_long.k6:Cont (List TV):=seqK (evO _ bg_long.E bg_long.m4) (some [0,1,4,6,7,9,lk 103,lk 104]) (blockK 1 bg_long.k3)
def bg_long.k7:Cont (List TV):=seqK (ev _ bg_long.E (.reg [oV 0 198,oV 7 199,oV 6 200,oB .add 199 200 201,oK (.k (.pix 103 1)) [198,201,(lk 103)] [202],oK (.k (.pld 103 1 1 false)) [202,(lk 103)] [203],oV 17 204,oK (.k (.ci .u16)) [204] [205],oB .add 203 205 206,oK (.k (.pix 103 1)) [198,201,(lk 103)] [207],oK (.k (.pst 103 1 1)) [207,(lk 103),206] [lk 103]])) none bg_long.k6
def bg_long.l1 (x0:List UInt16) (x1:Int) (x2:Int) (x3:List UInt16) (x4:List UInt16):OT:=loopL (evO _ bg_long.E bg_long.m6) isN [0,1,4,6,7,lk 103,lk 104] (headT [0,1,4,6,7,lk 103,lk 104] [.pt,(.sl .ws x0),.pt,(.i .i64 x1),(.i .i64 x2),(.sl .ws x3),(.sl .ws x4)]) (blockK 0 bg_long.k1)
def bg_long.l2 (x0:List UInt16) (x1:Int) (x2:Int) (x3:UInt64) (x4:UInt64) (x5:List UInt16) (x6:List UInt16):OT:=loopL (evO _ bg_long.E bg_long.m1) isN [0,1,4,6,7,9,10,lk 103,lk 104] (headT [0,1,4,6,7,9,10,lk 103,lk 104] [.pt,(.sl .ws x0),.pt,(.i .i64 x1),(.i .i64 x2),(.u64 x3),(.u64 x4),(.sl .ws x5),(.sl .ws x6)]) (blockK 2 bg_long.k4)
def bg_long.j3 (x0:List UInt16) (x1:Int) (x2:Int) (x3:UInt64) (x4:List UInt16) (x5:List UInt16):OT:=evO _ bg_long.E bg_long.m5 (headT [0,1,4,6,7,9,lk 103,lk 104] [.pt,(.sl .ws x0),.pt,(.i .i64 x1),(.i .i64 x2),(.u64 x3),(.sl .ws x4),(.sl .ws x5)]) (blockK 1 bg_long.k3)
def bg_long.l4 (x0:List UInt16) (x1:Int) (x2:Int) (x3:UInt64) (x4:Int) (x5:UInt64) (x6:Int) (x7:Int) (x8:List UInt16) (x9:List UInt16):OT:=loopL (evO _ bg_long.E bg_long.m2) isN [0,1,4,6,7,9,11,12,107,108,lk 103,lk 104] (headT [0,1,4,6,7,9,11,12,107,108,lk 103,lk 104] [.pt,(.sl .ws x0),.pt,(.i .i64 x1),(.i .i64 x2),(.u64 x3),(.i .i64 x4),(.u64 x5),(.i .i64 x6),(.i .i64 x7),(.sl .ws x8),(.sl .ws x9)]) (blockK 4 bg_long.k5)
def bg_long.l5 (x0:List UInt16) (x1:Int) (x2:Int) (x3:UInt64) (x4:UInt32) (x5:Int) (x6:Int) (x7:List UInt16) (x8:List UInt16):OT:=loopL (evO _ bg_long.E bg_long.m3) isN [0,1,4,6,7,9,17,169,170,lk 103,lk 104] (headT [0,1,4,6,7,9,17,169,170,lk 103,lk 104] [.pt,(.sl .ws x0),.pt,(.i .i64 x1),(.i .i64 x2),(.u64 x3),(.u32 x4),(.i .i64 x5),(.i .i64 x6),(.sl .ws x7),(.sl .ws x8)]) (blockK 6 bg_long.k7)
def bg_long.j6 (x0:List UInt16) (x1:Int) (x2:Int) (x3:UInt64) (x4:List UInt16) (x5:List UInt16):OT:=evO _ bg_long.E bg_long.m4 (headT [0,1,4,6,7,9,lk 103,lk 104] [.pt,(.sl .ws x0),.pt,(.i .i64 x1),(.i .i64 x2),(.u64 x3),(.sl .ws x4),(.sl .ws x5)]) (blockK 1 bg_long.k3)
theorem bg_long.l1_in (x0:List UInt16) (x1:Int) (x2:Int) (x3:List UInt16) (x4:List UInt16) {ρ:OT} (K:∀(v1:Nat) (h1:v1=(((IntKind.i64.wrap (x2+x1))).toNat)) (v2:UInt16) (h2:v2=(List.getD x3 (v1) (0:UInt16))) (v3:UInt64) (h3:v3=(UInt64.ofInt ((v2).toNat:Int))) (v4:UInt64) (h4:v4=(shl64 v3 (((16:UInt64)).toNat))) (v5:Int) (h5:v5=(IntKind.i64.wrap ((IntKind.i64.wrap (x2+x1)) - (1:Int)))) (v6:UInt16) (h6:v6=(List.getD x3 ((v5).toNat) (0:UInt16))) (v7:UInt64) (h7:v7=(UInt64.ofInt ((v6).toNat:Int))) (v8:Int) (h8:v8=(IntKind.i64.wrap (x1 - (1:Int)))) (v9:UInt16) (h9:v9=(List.getD x0 (v8).toNat (0:UInt16))) (v10:UInt64) (h10:v10=(UInt64.ofInt ((v9).toNat:Int))),cond (decide ((0:Int)≤x2))
  (ck (idxOK (IntKind.i64.wrap (x2+x1)) (x3).length) (ck (decide (v1<(x3).length)) (ck (idxOK v5 (x3).length) (ck (decide ((v5).toNat<(x3).length)) (ck (idxOK v8 (x0).length) (ck (!decide (v10=0)) (ck (idxOK v8 (x0).length) (ck (!decide (v10=0)) (bg_long.l2 x0 x1 x2 ((v4 ||| v7) / v10) ((v4 ||| v7) % v10) x3 x4)))))))))
  (ck (cutOK 0 x1 (x3).length) (some [(.sl .ws x4),(.sl .ws (List.take (x1).toNat x3))]))=ρ):bg_long.l1 x0 x1 x2 x3 x4=ρ:=((ev_loop _ _ _ _ _ _).trans (by kernel_rfl)).trans (K _ rfl _ rfl _ rfl _ rfl _ rfl _ rfl _ rfl _ rfl _ rfl _ rfl)
theorem bg_long.l2_in (x0:List UInt16) (x1:Int) (x2:Int) (x3:UInt64) (x4:UInt64) (x5:List UInt16) (x6:List UInt16) {ρ:OT} (K:∀(v1:Int) (h1:v1=(IntKind.i64.wrap (x1 - (2:Int)))) (v2:UInt16) (h2:v2=(List.getD x0 (v1).toNat (0:UInt16))) (v3:UInt64) (h3:v3=(UInt64.ofInt ((v2).toNat:Int))) (v4:UInt64) (h4:v4=(shl64 x4 (((16:UInt64)).toNat))) (v5:Int) (h5:v5=(IntKind.i64.wrap ((IntKind.i64.wrap (x2+x1)) - (2:Int)))) (v6:UInt16) (h6:v6=(List.getD x5 ((v5).toNat) (0:UInt16))) (v7:UInt64) (h7:v7=(UInt64.ofInt ((v6).toNat:Int))) (v8:Bool) (h8:v8=(decide ((v4 ||| v7)<(x3 * v3)))) (v9:Bool) (h9:v9=(cond (decide ((65535:UInt64)<x3)) true v8)) (v10:Int) (h10:v10=(IntKind.i64.wrap (x1 - (1:Int)))) (v11:UInt16) (h11:v11=(List.getD x0 (v10).toNat (0:UInt16))) (v12:UInt64) (h12:v12=(UInt64.ofInt ((v11).toNat:Int))),ck (!(!(decide ((65535:UInt64)<x3))) || (!(decide ((65535:UInt64)<x3)))) (ck (!(!(decide ((65535:UInt64)<x3))) || (((!(decide ((65535:UInt64)<x3)))&&(!(decide ((65535:UInt64)<x3))))&&(idxOK v1 (x0).length))) (ck (!(!(decide ((65535:UInt64)<x3))) || (!(decide ((65535:UInt64)<x3)))) (ck (!(!(decide ((65535:UInt64)<x3))) || (!(decide ((65535:UInt64)<x3)))) (ck (!(!(decide ((65535:UInt64)<x3))) || ((!(decide ((65535:UInt64)<x3)))&&(!(decide ((65535:UInt64)<x3))))) (ck (!(!(decide ((65535:UInt64)<x3))) || (!(decide ((65535:UInt64)<x3)))) (ck (!(!(decide ((65535:UInt64)<x3))) || ((!(decide ((65535:UInt64)<x3)))&&(!(decide ((65535:UInt64)<x3))))) (ck (!(!(decide ((65535:UInt64)<x3))) || (!(decide ((65535:UInt64)<x3)))) (ck (!(!(decide ((65535:UInt64)<x3))) || (((!(decide ((65535:UInt64)<x3)))&&(!(decide ((65535:UInt64)<x3))))&&(idxOK v5 (x5).length))) (ck (!(!(decide ((65535:UInt64)<x3))) || ((!(decide ((65535:UInt64)<x3)))&&(decide ((v5).toNat<(x5).length)))) (ck (!(!(decide ((65535:UInt64)<x3))) || (!(decide ((65535:UInt64)<x3)))) (ck (!(!(decide ((65535:UInt64)<x3))) || ((!(decide ((65535:UInt64)<x3)))&&(!(decide ((65535:UInt64)<x3))))) (ck (!(!(decide ((65535:UInt64)<x3))) || ((!(decide ((65535:UInt64)<x3)))&&(!(decide ((65535:UInt64)<x3))))) (ck ((decide ((65535:UInt64)<x3)) || (!(decide ((65535:UInt64)<x3)))) (cond v9
  (ck (idxOK v10 (x0).length) (cond (decide ((65535:UInt64)<(x4+v12)))
  (bg_long.j3 x0 x1 x2 (x3 - (1:UInt64)) x5 x6)
  (bg_long.l2 x0 x1 x2 (x3 - (1:UInt64)) (x4+v12) x5 x6)))
  (bg_long.j3 x0 x1 x2 x3 x5 x6)))))))))))))))=ρ):bg_long.l2 x0 x1 x2 x3 x4 x5 x6=ρ:=((ev_loop _ _ _ _ _ _).trans (by kernel_rfl)).trans (K _ rfl _ rfl _ rfl _ rfl _ rfl _ rfl _ rfl _ rfl _ rfl _ rfl _ rfl _ rfl)
theorem bg_long.j3_eq (x0:List UInt16) (x1:Int) (x2:Int) (x3:UInt64) (x4:List UInt16) (x5:List UInt16):bg_long.j3 x0 x1 x2 x3 x4 x5=bg_long.l4 x0 x1 x2 x3 (0:Int) (0:UInt64) x1 (0:Int) x4 x5:=((congrFun (congrFun (ev_eq _ _) _) _).trans (by kernel_rfl))
theorem bg_long.l4_in (x0:List UInt16) (x1:Int) (x2:Int) (x3:UInt64) (x4:Int) (x5:UInt64) (x6:Int) (x7:Int) (x8:List UInt16) (x9:List UInt16) {ρ:OT} (K:∀(v1:UInt16) (h1:v1=(List.getD x0 (x7).toNat (0:UInt16))) (v2:UInt64) (h2:v2=(UInt64.ofInt ((v1).toNat:Int))) (v3:UInt64) (h3:v3=(shr64 ((x3 * v2)+x5) (((16:UInt64)).toNat))) (v4:Nat) (h4:v4=(((IntKind.i64.wrap (x7+x2))).toNat)) (v5:UInt16) (h5:v5=(List.getD x8 (v4) (0:UInt16))) (v6:Int) (h6:v6=(IntKind.i64.wrap ((v5).toNat:Int))) (v7:UInt64) (h7:v7=(((x3 * v2)+x5) &&& (65535:UInt64))) (v8:Int) (h8:v8=(IntKind.i64.wrap ((v7).toNat:Int))) (v9:Int) (h9:v9=(IntKind.i64.wrap ((IntKind.i64.wrap (v6 - x4)) - v8))) (v10:Int) (h10:v10=(Int.fdiv v9 (2 ^ (min (((16:UInt64)).toNat) (IntKind.i64.bits))))) (v11:Int) (h11:v11=(intBitsV .and .i64 v10 (1:Int))) (v12:List UInt16) (h12:v12=(List.set x8 (v4) (UInt16.ofInt v9))) (v13:Int) (h13:v13=(IntKind.i64.wrap (x7+(1:Int)))) (v14:Nat) (h14:v14=(((IntKind.i64.wrap (x2+x1))).toNat)) (v15:UInt16) (h15:v15=(List.getD x8 (v14) (0:UInt16))) (v16:Int) (h16:v16=(IntKind.i64.wrap ((v15).toNat:Int))) (v17:Int) (h17:v17=(IntKind.i64.wrap (v16 - x4))) (v18:Int) (h18:v18=(IntKind.i64.wrap ((x5).toNat:Int))) (v19:Int) (h19:v19=(IntKind.i64.wrap (v17 - v18))) (v20:List UInt16) (h20:v20=(List.set x8 (v14) (UInt16.ofInt v19))),cond (decide (x7<x6))
  (ck (idxOK x7 (x0).length) (ck (idxOK (IntKind.i64.wrap (x7+x2)) (x8).length) (ck (decide (v4<(x8).length)) (ck (idxOK (IntKind.i64.wrap (x7+x2)) (x8).length) (ck (decide (v4<(x8).length)) (bg_long.l4 x0 x1 x2 x3 v11 v3 x6 v13 v12 x9))))))
  (ck (idxOK (IntKind.i64.wrap (x2+x1)) (x8).length) (ck (decide (v14<(x8).length)) (ck (idxOK (IntKind.i64.wrap (x2+x1)) (x8).length) (ck (decide (v14<(x8).length)) (cond (decide (v19<(0:Int)))
  (bg_long.l5 x0 x1 x2 (x3 - (1:UInt64)) (0:UInt32) x1 (0:Int) v20 x9)
  (bg_long.j6 x0 x1 x2 x3 v20 x9))))))=ρ):bg_long.l4 x0 x1 x2 x3 x4 x5 x6 x7 x8 x9=ρ:=((ev_loop _ _ _ _ _ _).trans (by kernel_rfl)).trans (K _ rfl _ rfl _ rfl _ rfl _ rfl _ rfl _ rfl _ rfl _ rfl _ rfl _ rfl _ rfl _ rfl _ rfl _ rfl _ rfl _ rfl _ rfl _ rfl _ rfl)
theorem bg_long.l5_in (x0:List UInt16) (x1:Int) (x2:Int) (x3:UInt64) (x4:UInt32) (x5:Int) (x6:Int) (x7:List UInt16) (x8:List UInt16) {ρ:OT} (K:∀(v1:Nat) (h1:v1=(((IntKind.i64.wrap (x6+x2))).toNat)) (v2:UInt16) (h2:v2=(List.getD x7 (v1) (0:UInt16))) (v3:UInt32) (h3:v3=(UInt32.ofInt ((v2).toNat:Int))) (v4:UInt16) (h4:v4=(List.getD x0 (x6).toNat (0:UInt16))) (v5:UInt32) (h5:v5=(UInt32.ofInt ((v4).toNat:Int))) (v6:UInt16) (h6:v6=(UInt16.ofInt (((x4+(v3+v5))).toNat:Int))) (v7:UInt32) (h7:v7=(shr32 (x4+(v3+v5)) (((16:UInt64)).toNat))) (v8:Int) (h8:v8=(IntKind.i64.wrap (x6+(1:Int)))) (v9:Nat) (h9:v9=(((IntKind.i64.wrap (x2+x1))).toNat)) (v10:UInt16) (h10:v10=(List.getD x7 (v9) (0:UInt16))) (v11:UInt16) (h11:v11=(UInt16.ofInt ((x4).toNat:Int))) (v12:List UInt16) (h12:v12=(List.set x7 (v9) (v10+v11))),cond (decide (x6<x5))
  (ck (idxOK (IntKind.i64.wrap (x6+x2)) (x7).length) (ck (decide (v1<(x7).length)) (ck (idxOK x6 (x0).length) (ck (idxOK (IntKind.i64.wrap (x6+x2)) (x7).length) (ck (decide (v1<(x7).length)) (bg_long.l5 x0 x1 x2 x3 v7 x5 v8 (List.set x7 (v1) v6) x8))))))
  (ck (idxOK (IntKind.i64.wrap (x2+x1)) (x7).length) (ck (decide (v9<(x7).length)) (ck (idxOK (IntKind.i64.wrap (x2+x1)) (x7).length) (ck (decide (v9<(x7).length)) (bg_long.j6 x0 x1 x2 x3 v12 x8)))))=ρ):bg_long.l5 x0 x1 x2 x3 x4 x5 x6 x7 x8=ρ:=((ev_loop _ _ _ _ _ _).trans (by kernel_rfl)).trans (K _ rfl _ rfl _ rfl _ rfl _ rfl _ rfl _ rfl _ rfl _ rfl _ rfl _ rfl _ rfl)
theorem bg_long.j6_in (x0:List UInt16) (x1:Int) (x2:Int) (x3:UInt64) (x4:List UInt16) (x5:List UInt16) {ρ:OT} (K:∀(v1:UInt16) (h1:v1=(UInt16.ofInt ((x3).toNat:Int))) (v2:List UInt16) (h2:v2=(List.set x5 ((x2).toNat) v1)) (v3:Int) (h3:v3=(IntKind.i64.wrap (x2 - (1:Int)))),ck (idxOK x2 (x5).length) (ck (decide ((x2).toNat<(x5).length)) (bg_long.l1 x0 x1 v3 x4 v2))=ρ):bg_long.j6 x0 x1 x2 x3 x4 x5=ρ:=((congrFun (congrFun (ev_eq _ _) _) _).trans (by kernel_rfl)).trans (K _ rfl _ rfl _ rfl)
theorem bg_long.F_in (u:List UInt16) (v:List UInt16) {ρ:OT} (K:∀(v1:List UInt16) (h1:v1=([(0:UInt16)]:List UInt16)) (v2:Int) (h2:v2=(IntKind.i64.wrap ((((u++v1)).length:Int) - ((v).length:Int)))) (v3:List UInt16) (h3:v3=(List.replicate (v2).toNat (0:UInt16))) (v4:Int) (h4:v4=(IntKind.i64.wrap (v2 - (1:Int)))),ck (apOK ((u).length+(v1).length) 2) (ck (mkOK v2 v2 2) (bg_long.l1 v ((v).length:Int) v4 (u++v1) v3))=ρ):bg_long.F u v=ρ:=Eq.trans (by kernel_rfl) (K _ rfl _ rfl _ rfl _ rfl)
theorem bg_long.chk:CK 91 bg_long.env bg_long.d:=ckOf (by kernel_rfl)
def bg_Div.env:EV:=[(19,(bg_Of.c,bg_Of.sg)),(42,(bg_Is.c,bg_Is.sg)),(45,(bg_trim.c,bg_trim.sg)),(66,(bits_Len16.c,bits_Len16.sg)),(87,(bg_up.c,bg_up.sg)),(88,(bg_cmp.c,bg_cmp.sg)),(89,(clone_ws.c,clone_ws.sg)),(90,(bg_few.c,bg_few.sg)),(91,(bg_long.c,bg_long.sg)),(92,(bg_down.c,bg_down.sg))]
def bg_Div.E:TEnv:=envL nrGl bg_Div.env
def bg_Div.m:TM:=oS [oW (.sl .ws ([]:List UInt16)) 4,oW (.sl .ws ([]:List UInt16)) 5,oW (.b false) 6] (.seq (oS [oV 0 11,oC 42 1 1 [11] 12,oK (.k (.un .not)) [12] [13],oV 13 14,oG 14 false (oV 1 15),oG 14 false (oC 42 1 1 [15] 16),oG 14 false (oK (.k (.un .not)) [16] [17]),oX (.k .pick) [.s 14,.c (.b true),.s 17] [18],oV 18 19,oG 19 false (oV 1 20),oG 19 false (oK (.k .len) [20] [21]),oG 19 false (oI .eql 21 (.i .i64 0) 22),oX (.k .pick) [.s 19,.c (.b true),.s 22] [23]] (.cond (.s 23) [] (oS [oW (.sl .ws ([]:List UInt16)) 4,oW (.sl .ws ([]:List UInt16)) 5,oW (.b false) 6] .ret) .skip)) none (.seq (oS [oV 0 24,oV 1 25,oC 88 2 1 [24,25] 26,oI .lss 26 (.i .i64 0) 27] (.cond (.s 27) [] (oS [oV 0 28,oK (.k (.call 89 ⟨1,none,[],[],1,[(0,104,1)],none,[]⟩)) [28,(lk 104)] [29,lk 104],oW (.sl .ws ([]:List UInt16)) 4,oV 29 5,oW (.b true) 6] .ret) .skip)) none (.seq (oS [oV 1 30,oK (.k .len) [30] [31],oI .eql 31 (.i .i64 1) 32] (.cond (.s 32) [] (oS [oV 0 34,oV 1 35,oX (.k (.ix 1)) [.s 35,.c (.i .i64 0)] [36],oK (.k (.lr 1 false)) [36] [37],oC 90 2 2 [34,37] 38,oV 38 33,oE 0 33 39,oE 1 33 40,oV 39 7,oV 40 8] (oS [oV 7 41,oV 8 42,oK (.k (.ci .u64)) [42] [43],oC 19 1 1 [43] 44,oV 41 4,oV 44 5,oW (.b true) 6] .ret)) .skip)) none (oS [oV 1 45,oV 1 46,oK (.k .len) [46] [47],oI .sub 47 (.i .i64 1) 48,oK (.k (.ix 1)) [45,48] [49],oK (.k (.lr 1 false)) [49] [50],oC 66 1 1 [50] 51,oX (.k (.bin .sub)) [.c (.i .i64 16),.s 51] [52],oV 52 9] (oS [oV 0 54,oV 9 55,oK (.k (.callv 87 2 106)) [54,55,(lk 106)] [56,lk 106],oV 1 57,oV 9 58,oK (.k (.call 87 ⟨2,none,[],[],1,[(0,107,1)],none,[]⟩)) [57,58,(lk 107)] [59,lk 107],oK (.k (.gcall 91 2 2 0 106 1)) [56,59,(lk 106)] [60,lk 106],oV 60 53,oE 0 53 61,oE 1 53 62,oV 61 4,oV 62 10] (oS [oV 4 63,oC 45 1 1 [63] 64,oV 10 65,oC 45 1 1 [65] 66,oV 9 67,oC 92 2 1 [66,67] 68,oV 64 4,oV 68 5,oW (.b true) 6] .ret))))))
def bg_Div.d:TFD:=D0 2 bg_Div.m [.t 4,.t 5,.t 6]
def bg_Div.F (a:List UInt16) (b:List UInt16):OT:=bg_Div.d.run bg_Div.E [(.sl .ws a),(.sl .ws b)]
theorem bg_Div.F_in (a:List UInt16) (b:List UInt16) {ρ:OT} (K:∀(v1:Bool) (h1:v1=(cond (!(Nt.is a)) true (!(Nt.is b)))) (v2:Bool) (h2:v2=(cond v1 true (decide (((b).length:Int)=(0:Int))))) (v3:Int) (h3:v3=(Nt.cmp (Nt.val a) (Nt.val b))) (v4:UInt16) (h4:v4=(List.getD b ((0:Int)).toNat (0:UInt16))) (v5:List UInt16) (h5:v5=(Nt.of (Nt.val a / (v4).toNat))) (v6:UInt16) (h6:v6=(UInt16.ofNat (Nt.val a % (v4).toNat))) (v7:UInt64) (h7:v7=(UInt64.ofInt ((v6).toNat:Int))) (v8:Int) (h8:v8=(IntKind.i64.wrap (((b).length:Int) - (1:Int)))) (v9:UInt16) (h9:v9=(List.getD b (v8).toNat (0:UInt16))) (v10:Int) (h10:v10=(IntKind.i64.wrap ((16:Int) - ((Nt.bits (v9).toNat:Int))))) (v11:List UInt16) (h11:v11=(Nt.of (Nt.val a * 2 ^ (v10).toNat))) (v12:List UInt16) (h12:v12=(Nt.of (Nt.val b * 2 ^ (v10).toNat))) (v13:List UInt16) (h13:v13=(Nt.fix ((v11).length+1 - (v12).length) (Nt.val v11 / Nt.val v12))) (v14:List UInt16) (h14:v14=(Nt.fix (v12).length (Nt.val v11 % Nt.val v12))) (v15:List UInt16) (h15:v15=(Nt.of (Nt.val ((Nt.of (Nt.val v14))) / 2 ^ (v10).toNat))),ck (decide ((a).length≤1099511627776)) (ck (!(!(!(Nt.is a))) || ((!(!(Nt.is a)))&&(decide ((b).length≤1099511627776)))) (ck (!(!(!(Nt.is a))) || (!(!(Nt.is a)))) (ck ((!(Nt.is a)) || (!(!(Nt.is a)))) (ck (!(!v1) || (!v1)) (ck (!(!v1) || (!v1)) (ck (v1 || (!v1)) (cond v2
  (some [(.sl .ws ([]:List UInt16)),(.sl .ws ([]:List UInt16)),(.b false)])
  (ck (decide ((a).length≤1099511627776∧(b).length≤1099511627776)&&(Nt.norm a&&Nt.norm b)) (cond (decide (v3<(0:Int)))
  (ck (apOK (a).length 2) (some [(.sl .ws ([]:List UInt16)),(.sl .ws (a)),(.b true)]))
  (cond (decide (((b).length:Int)=(1:Int)))
  (ck (idxOK (0:Int) (b).length) (ck (decide ((a).length≤1000000∧v4≠0)) (some [(.sl .ws v5),(.sl .ws (Nt.of (v7).toNat)),(.b true)])))
  (ck (idxOK v8 (b).length) (ck (decide ((a).length≤1000000∧0≤v10∧v10<16)&&Nt.norm a) (ck (decide ((b).length≤1000000∧0≤v10∧v10<16)&&Nt.norm b) (ck (decide ((v11).length≤1000000∧2≤(v12).length∧(v12).length≤(v11).length∧32768≤((v12).getLast?.getD 0).toNat)) (ck (decide ((v13).length≤1099511627776)) (ck (decide ((v14).length≤1099511627776)) (ck (decide ((((Nt.of (Nt.val v14)))).length≤1000000∧0≤v10∧v10<16)) (some [(.sl .ws (Nt.of (Nt.val v13))),(.sl .ws v15),(.b true)]))))))))))))))))))=ρ):bg_Div.F a b=ρ:=Eq.trans (by kernel_rfl) (K _ rfl _ rfl _ rfl _ rfl _ rfl _ rfl _ rfl _ rfl _ rfl _ rfl _ rfl _ rfl _ rfl _ rfl _ rfl)
theorem bg_Div.chk:CK 68 bg_Div.env bg_Div.d:=ckOf (by kernel_rfl)
def bg_Up.env:EV:=[(42,(bg_Is.c,bg_Is.sg)),(87,(bg_up.c,bg_up.sg))]
def bg_Up.E:TEnv:=envL nrGl bg_Up.env
def bg_Up.m:TM:=oS [oW (.sl .ws ([]:List UInt16)) 4] (.seq (oS [oV 0 5,oC 42 1 1 [5] 6,oK (.k (.un .not)) [6] [7],oV 7 8,oG 8 false (oV 1 9),oG 8 false (oI .lss 9 (.i .i64 0) 10),oX (.k .pick) [.s 8,.c (.b true),.s 10] [11],oV 11 12,oG 12 false (oV 1 13),oG 12 false (oI .gtr 13 (.i .i64 4096) 14),oX (.k .pick) [.s 12,.c (.b true),.s 14] [15],oV 15 16,oG 16 false (oV 0 17),oG 16 false (oK (.k .len) [17] [18]),oG 16 false (oI .eql 18 (.i .i64 0) 19),oX (.k .pick) [.s 16,.c (.b true),.s 19] [20]] (.cond (.s 20) [] (oS [oW (.sl .ws ([]:List UInt16)) 4] .ret) .skip)) none (oS [oV 1 21,oI .quo 21 (.i .i64 16) 22,oK (.mk 102 2 .ws (0:UInt16)) [22,22,(lk 102)] [23,lk 102],oV 0 24,oV 1 25,oI .rem 25 (.i .i64 16) 26,oK (.k (.call 87 ⟨2,none,[],[],1,[(0,103,1)],none,[]⟩)) [24,26,(lk 103)] [27,lk 103],oK (.k (.ap 102 104 1 2)) [23,27,(lk 102),(lk 104)] [28,lk 102,lk 104],oV 28 4] .ret))
def bg_Up.d:TFD:=D0 2 bg_Up.m [.t 4]
def bg_Up.F (a:List UInt16) (n:Int):OT:=bg_Up.d.run bg_Up.E [(.sl .ws a),(.i .i64 n)]
theorem bg_Up.F_in (a:List UInt16) (n:Int) {ρ:OT} (K:∀(v1:Bool) (h1:v1=(cond (!(Nt.is a)) true (decide (n<(0:Int))))) (v2:Bool) (h2:v2=(cond v1 true (decide ((4096:Int)<n)))) (v3:Bool) (h3:v3=(cond v2 true (decide (((a).length:Int)=(0:Int))))) (v4:Int) (h4:v4=(IntKind.i64.wrap (Int.tdiv n (16:Int)))) (v5:List UInt16) (h5:v5=(List.replicate (v4).toNat (0:UInt16))) (v6:List UInt16) (h6:v6=(Nt.of (Nt.val a * 2 ^ (((Int.tmod n (16:Int)))).toNat))),ck (decide ((a).length≤1099511627776)) (ck (!(!(!(Nt.is a))) || (!(!(Nt.is a)))) (ck ((!(Nt.is a)) || (!(!(Nt.is a)))) (ck (!(!v1) || (!v1)) (ck (v1 || (!v1)) (ck (!(!v2) || (!v2)) (ck (!(!v2) || (!v2)) (ck (v2 || (!v2)) (cond v3
  (some [(.sl .ws ([]:List UInt16))])
  (ck (!decide ((16:Int)=0)) (ck (mkOK v4 v4 2) (ck (!decide ((16:Int)=0)) (ck (decide ((a).length≤1000000∧0≤((Int.tmod n (16:Int)))∧((Int.tmod n (16:Int)))<16)&&Nt.norm a) (ck (apOK ((v5).length+(v6).length) 2) (some [(.sl .ws (v5++v6))]))))))))))))))=ρ):bg_Up.F a n=ρ:=Eq.trans (by kernel_rfl) (K _ rfl _ rfl _ rfl _ rfl _ rfl _ rfl)
theorem bg_Up.chk:CK 67 bg_Up.env bg_Up.d:=ckOf (by kernel_rfl)
def bg_more.env:EV:=[]
def bg_more.E:TEnv:=envL nrGl bg_more.env
def bg_more.m1:TM:=oS [oB .lss 18 17 19] (.seq (.cond (.s 19) [] .skip (.exit 0)) none (.seq (.block 1 [(7,.tip 103 1),(lk 103,.live 1)] (oS [oK (.k (.ix 1)) [16,18] [20],oK (.k (.lr 1 false)) [20] [21],oV 21 10] (oS [oV 8 22,oV 10 23,oK (.k (.ci .i64)) [23] [24],oV 1 25,oB .mul 24 25 26,oB .add 22 26 27,oV 27 8] (oS [oV 7 28,oV 8 29,oK (.k (.ci .u16)) [29] [30],oK (.bl .ws 1) [30] [31],oK (.k (.ap 101 103 1 2)) [28,31,(lk 101),(lk 103)] [32,lk 101,lk 103],oV 32 7] (.reg [oV 8 33,oI .shr 33 (.u64 16) 34,oV 34 8]))))) none (.reg [oI .add 18 (.i .i64 1) 35,oV 35 18])))
def bg_more.m2:TM:=oS [oV 7 43,oV 43 6] .ret
def bg_more.m:TM:=oS [oW (.sl .ws ([]:List UInt16)) 6] (oS [oV 0 11,oK (.k .len) [11] [12],oI .add 12 (.i .i64 1) 13,oX (.mk 101 2 .ws (0:UInt16)) [.c (.i .i64 0),.s 13,.s (lk 101)] [14,lk 101],oV 14 7] (oS [oV 2 15,oV 15 8] (.seq (oS [oV 0 16,oK (.k .len) [16] [17],oW (.i .i64 0) 18] (.block 0 [(7,.tip 101 1),(lk 101,.live 1)] (.loop [1,7,8,16,17,18] [(7,.tip 101 1),(lk 101,.live 1)] bg_more.m1))) none (.seq (oS [oV 8 36,oI .gtr 36 (.i .i64 0) 37] (.cond (.s 37) [] (.reg [oV 7 38,oV 8 39,oK (.k (.ci .u16)) [39] [40],oK (.bl .ws 1) [40] [41],oK (.k (.ap 101 105 1 2)) [38,41,(lk 101),(lk 105)] [42,lk 101,lk 105],oV 42 7]) .skip)) (some [7]) bg_more.m2))))
def bg_more.d:TFD:=D0 3 bg_more.m [.t 6]
def bg_more.F (a:List UInt16) (b:Int) (c:Int):OT:=bg_more.d.run bg_more.E [(.sl .ws a),(.i .i64 b),(.i .i64 c)]
def bg_more.k1:Cont (List TV):=seqK (ev _ bg_more.E (.seq (oS [oV 8 36,oI .gtr 36 (.i .i64 0) 37] (.cond (.s 37) [] (.reg [oV 7 38,oV 8 39,oK (.k (.ci .u16)) [39] [40],oK (.bl .ws 1) [40] [41],oK (.k (.ap 101 105 1 2)) [38,41,(lk 101),(lk 105)] [42,lk 101,lk 105],oV 42 7]) .skip)) (some [7]) bg_more.m2)) none (endK bg_more.d)
def bg_more.l1 (x0:Int) (x1:List UInt16) (x2:Int) (x3:List UInt16) (x4:Int) (x5:Int):OT:=loopL (evO _ bg_more.E bg_more.m1) isN [1,7,8,16,17,18] (headT [1,7,8,16,17,18] [(.i .i64 x0),(.sl .ws x1),(.i .i64 x2),(.sl .ws x3),(.i .i64 x4),(.i .i64 x5)]) (blockK 0 bg_more.k1)
def bg_more.j2 (x0:List UInt16):OT:=evO _ bg_more.E bg_more.m2 (headT [7] [(.sl .ws x0)]) (endK bg_more.d)
theorem bg_more.l1_in (x0:Int) (x1:List UInt16) (x2:Int) (x3:List UInt16) (x4:Int) (x5:Int) {ρ:OT} (K:∀(v1:UInt16) (h1:v1=(List.getD x3 (x5).toNat (0:UInt16))) (v2:Int) (h2:v2=(IntKind.i64.wrap ((v1).toNat:Int))) (v3:Int) (h3:v3=(IntKind.i64.wrap (x2+(IntKind.i64.wrap (v2 * x0))))) (v4:List UInt16) (h4:v4=([(UInt16.ofInt v3)]:List UInt16)) (v5:Int) (h5:v5=(Int.fdiv v3 (2 ^ (min (((16:UInt64)).toNat) (IntKind.i64.bits))))) (v6:Int) (h6:v6=(IntKind.i64.wrap (x5+(1:Int)))) (v7:List UInt16) (h7:v7=([(UInt16.ofInt x2)]:List UInt16)),cond (decide (x5<x4))
  (ck (idxOK x5 (x3).length) (ck (apOK ((x1).length+(v4).length) 2) (bg_more.l1 x0 (x1++v4) v5 x3 x4 v6)))
  (cond (decide ((0:Int)<x2))
  (ck (apOK ((x1).length+(v7).length) 2) (bg_more.j2 (x1++v7)))
  (bg_more.j2 x1))=ρ):bg_more.l1 x0 x1 x2 x3 x4 x5=ρ:=((ev_loop _ _ _ _ _ _).trans (by kernel_rfl)).trans (K _ rfl _ rfl _ rfl _ rfl _ rfl _ rfl _ rfl)
theorem bg_more.j2_eq (x0:List UInt16):bg_more.j2 x0=some [(.sl .ws x0)]:=((congrFun (congrFun (ev_eq _ _) _) _).trans (by kernel_rfl))
theorem bg_more.F_in (a:List UInt16) (b:Int) (c:Int) {ρ:OT} (K:∀(v1:Int) (h1:v1=(IntKind.i64.wrap (((a).length:Int)+(1:Int)))) (v2:List UInt16) (h2:v2=(List.replicate ((0:Int)).toNat (0:UInt16))),ck (mkOK (0:Int) v1 2) (bg_more.l1 b v2 c a ((a).length:Int) (0:Int))=ρ):bg_more.F a b c=ρ:=Eq.trans (by kernel_rfl) (K _ rfl _ rfl)
theorem bg_more.chk:CK 41 bg_more.env bg_more.d:=ckOf (by kernel_rfl)
def bg_Power.env:EV:=[(19,(bg_Of.c,bg_Of.sg)),(41,(bg_more.c,bg_more.sg)),(42,(bg_Is.c,bg_Is.sg))]
def bg_Power.E:TEnv:=envL nrGl bg_Power.env
def bg_Power.m1:TM := .seq (oS [oV 1 30,oI .gtr 30 (.i .i64 0) 31] (.cond (.s 31) [] .skip (.exit 1))) none (.seq (.block 2 [] (oS [oV 6 34,oV 0 35,oX (.k (.call 41 (.plain 3 1))) [.s 34,.s 35,.c (.i .i64 0)] [36],oV 36 6] (oS [oV 6 37,oC 42 1 1 [37] 38,oK (.k (.un .not)) [38] [39]] (.cond (.s 39) [] (oS [oW (.sl .ws ([]:List UInt16)) 4,oW (.b false) 5] .ret) .skip)))) none (.reg [oV 1 32,oI .sub 32 (.i .i64 1) 33,oV 33 1]))
def bg_Power.m:TM:=oS [oW (.sl .ws ([]:List UInt16)) 4,oW (.b false) 5] (.seq (.block 0 [] (oS [oV 0 8,oI .lss 8 (.i .i64 0) 9,oV 9 10,oG 10 false (oV 0 11),oG 10 false (oI .gtr 11 (.i .i64 65535) 12),oX (.k .pick) [.s 10,.c (.b true),.s 12] [13],oV 13 14,oG 14 false (oV 1 15),oG 14 false (oI .lss 15 (.i .i64 0) 16),oX (.k .pick) [.s 14,.c (.b true),.s 16] [17],oV 17 7] (.cond (.s 7) [] (oS [oW (.sl .ws ([]:List UInt16)) 4,oW (.b false) 5] .ret) (oS [oV 1 19,oI .eql 19 (.i .i64 0) 20,oV 20 21,oG 21 false (oV 0 22),oG 21 false (oI .eql 22 (.i .i64 1) 23),oX (.k .pick) [.s 21,.c (.b true),.s 23] [24],oV 24 18] (.cond (.s 18) [] (oS [oX (.k (.call 19 (.plain 1 1))) [.c (.u64 1)] [25],oV 25 4,oW (.b true) 5] .ret) (oS [oV 0 27,oI .eql 27 (.i .i64 0) 28,oV 28 26] (.cond (.s 26) [] (oS [oW (.sl .ws ([]:List UInt16)) 4,oW (.b true) 5] .ret) .skip))))))) none (oS [oX (.k (.call 19 (.plain 1 1))) [.c (.u64 1)] [29],oV 29 6] (.seq (.block 1 [] (.loop [0,1,6] [] bg_Power.m1)) none (oS [oV 6 40,oV 40 4,oW (.b true) 5] .ret))))
def bg_Power.d:TFD:=D0 2 bg_Power.m [.t 4,.t 5]
def bg_Power.F (b:Int) (e:Int):OT:=bg_Power.d.run bg_Power.E [(.i .i64 b),(.i .i64 e)]
def bg_Power.k1:Cont (List TV):=seqK (ev _ bg_Power.E (oS [oV 6 40,oV 40 4,oW (.b true) 5] .ret)) none (endK bg_Power.d)
def bg_Power.l1 (x0:Int) (x1:Int) (x2:List UInt16):OT:=loopL (evO _ bg_Power.E bg_Power.m1) isN [0,1,6] (headT [0,1,6] [(.i .i64 x0),(.i .i64 x1),(.sl .ws x2)]) (blockK 1 bg_Power.k1)
theorem bg_Power.l1_in (x0:Int) (x1:Int) (x2:List UInt16) {ρ:OT} (K:∀(v1:List UInt16) (h1:v1=(Nt.of (Nt.val x2 * (x0).toNat+(((0:Int))).toNat))) (v2:Int) (h2:v2=(IntKind.i64.wrap (x1 - (1:Int)))),cond (decide ((0:Int)<x1))
  (ck (decide ((x2).length≤1000000∧1≤x0∧x0≤65535∧0≤((0:Int))∧((0:Int))≤65535)&&Nt.norm x2) (ck (decide ((v1).length≤1099511627776)) (cond (!(Nt.is v1))
  (some [(.sl .ws ([]:List UInt16)),(.b false)])
  (bg_Power.l1 x0 v2 v1))))
  (some [(.sl .ws x2),(.b true)])=ρ):bg_Power.l1 x0 x1 x2=ρ:=((ev_loop _ _ _ _ _ _).trans (by kernel_rfl)).trans (K _ rfl _ rfl)
theorem bg_Power.F_in (b:Int) (e:Int) {ρ:OT} (K:∀(v1:Bool) (h1:v1=(cond (decide (b<(0:Int))) true (decide ((65535:Int)<b)))) (v2:Bool) (h2:v2=(cond v1 true (decide (e<(0:Int))))) (v3:Bool) (h3:v3=(cond (decide (e=(0:Int))) true (decide (b=(1:Int))))) (v4:List UInt16) (h4:v4=(Nt.of (((1:UInt64))).toNat)),ck (!(!(decide (b<(0:Int)))) || (!(decide (b<(0:Int))))) (ck ((decide (b<(0:Int))) || (!(decide (b<(0:Int))))) (ck (!(!v1) || (!v1)) (ck (v1 || (!v1)) (cond v2
  (some [(.sl .ws ([]:List UInt16)),(.b false)])
  (ck (!(!(decide (e=(0:Int)))) || (!(decide (e=(0:Int))))) (ck ((decide (e=(0:Int))) || (!(decide (e=(0:Int))))) (cond v3
  (some [(.sl .ws v4),(.b true)])
  (cond (decide (b=(0:Int)))
  (some [(.sl .ws ([]:List UInt16)),(.b true)])
  (bg_Power.l1 b e v4)))))))))=ρ):bg_Power.F b e=ρ:=Eq.trans (by kernel_rfl) (K _ rfl _ rfl _ rfl _ rfl)
theorem bg_Power.chk:CK 20 bg_Power.env bg_Power.d:=ckOf (by kernel_rfl)
def bg_Parse.env:EV:=[(41,(bg_more.c,bg_more.sg)),(42,(bg_Is.c,bg_Is.sg))]
def bg_Parse.E:TEnv:=envL nrGl bg_Parse.env
def bg_Parse.m1:TM:=oS [oB .lss 25 24 26] (.seq (.cond (.s 26) [] .skip (.exit 0)) none (.seq (.block 1 [] (oS [oV 25 27,oV 27 5] (.seq (oS [oV 0 28,oV 5 29,oK (.k .si) [28,29] [30],oI .lss 30 (.u8 48) 31,oV 31 32,oG 32 false (oV 0 33),oG 32 false (oV 5 34),oG 32 false (oK (.k .si) [33,34] [35]),oG 32 false (oI .gtr 35 (.u8 57) 36),oX (.k .pick) [.s 32,.c (.b true),.s 36] [37]] (.cond (.s 37) [] (oS [oW (.sl .ws ([]:List UInt16)) 2,oW (.b false) 3] .ret) .skip)) none (.reg [oV 4 38,oV 0 39,oV 5 40,oK (.k .si) [39,40] [41],oI .sub 41 (.u8 48) 42,oK (.k (.ci .i64)) [42] [43],oX (.k (.call 41 (.plain 3 1))) [.s 38,.c (.i .i64 10),.s 43] [44],oV 44 4])))) none (.reg [oI .add 25 (.i .i64 1) 45,oV 45 25])))
def bg_Parse.m:TM:=oS [oW (.sl .ws ([]:List UInt16)) 2,oW (.b false) 3] (.seq (oS [oV 0 6,oI .eql 6 (.s []) 7,oV 7 8,oG 8 false (oV 0 9),oG 8 false (oK (.k .lns) [9] [10]),oG 8 false (oI .gtr 10 (.i .i64 1240) 11),oX (.k .pick) [.s 8,.c (.b true),.s 11] [12],oV 12 13,oG 13 false (oV 0 14),oG 13 false (oX (.k .si) [.s 14,.c (.i .i64 0)] [15]),oG 13 false (oI .eql 15 (.u8 48) 16),oG 13 false (oV 16 17),oG 17 true (oV 0 18),oG 17 true (oK (.k .lns) [18] [19]),oG 17 true (oI .gtr 19 (.i .i64 1) 20),oG 13 false (oP 17 20 false 21),oX (.k .pick) [.s 13,.c (.b true),.s 21] [22]] (.cond (.s 22) [] (oS [oW (.sl .ws ([]:List UInt16)) 2,oW (.b false) 3] .ret) .skip)) none (oS [oW (.sl .ws ([]:List UInt16)) 4] (.seq (oS [oV 0 23,oK (.k .lns) [23] [24],oW (.i .i64 0) 25] (.block 0 [] (.loop [0,4,24,25] [] bg_Parse.m1))) none (.seq (oS [oV 4 46,oC 42 1 1 [46] 47,oK (.k (.un .not)) [47] [48]] (.cond (.s 48) [] (oS [oW (.sl .ws ([]:List UInt16)) 2,oW (.b false) 3] .ret) .skip)) none (oS [oV 4 49,oV 49 2,oW (.b true) 3] .ret)))))
def bg_Parse.d:TFD:=D0 1 bg_Parse.m [.t 2,.t 3]
def bg_Parse.F (s:Str):OT:=bg_Parse.d.run bg_Parse.E [(.s s)]
def bg_Parse.k1:Cont (List TV):=seqK (ev _ bg_Parse.E (.seq (oS [oV 4 46,oC 42 1 1 [46] 47,oK (.k (.un .not)) [47] [48]] (.cond (.s 48) [] (oS [oW (.sl .ws ([]:List UInt16)) 2,oW (.b false) 3] .ret) .skip)) none (oS [oV 4 49,oV 49 2,oW (.b true) 3] .ret))) none (endK bg_Parse.d)
def bg_Parse.l1 (x0:Str) (x1:List UInt16) (x2:Int) (x3:Int):OT:=loopL (evO _ bg_Parse.E bg_Parse.m1) isN [0,4,24,25] (headT [0,4,24,25] [(.s x0),(.sl .ws x1),(.i .i64 x2),(.i .i64 x3)]) (blockK 0 bg_Parse.k1)
theorem bg_Parse.l1_in (x0:Str) (x1:List UInt16) (x2:Int) (x3:Int) {ρ:OT} (K:∀(v1:UInt8) (h1:v1=(List.getD x0 (x3).toNat (0:UInt8))) (v2:Bool) (h2:v2=(cond (decide (v1<(48:UInt8))) true (decide ((57:UInt8)<v1)))) (v3:Int) (h3:v3=(IntKind.i64.wrap (((v1 - (48:UInt8))).toNat:Int))) (v4:List UInt16) (h4:v4=(Nt.of (Nt.val x1 * (((10:Int))).toNat+(v3).toNat))) (v5:Int) (h5:v5=(IntKind.i64.wrap (x3+(1:Int)))),cond (decide (x3<x2))
  (ck (idxOK x3 (x0).length) (ck (!(!(decide (v1<(48:UInt8)))) || (((!(decide (v1<(48:UInt8))))&&(!(decide (v1<(48:UInt8)))))&&(idxOK x3 (x0).length))) (ck (!(!(decide (v1<(48:UInt8)))) || (!(decide (v1<(48:UInt8))))) (ck ((decide (v1<(48:UInt8))) || (!(decide (v1<(48:UInt8))))) (cond v2
  (some [(.sl .ws ([]:List UInt16)),(.b false)])
  (ck (idxOK x3 (x0).length) (ck (decide ((x1).length≤1000000∧1≤((10:Int))∧((10:Int))≤65535∧0≤v3∧v3≤65535)&&Nt.norm x1) (bg_Parse.l1 x0 v4 x2 v5))))))))
  (ck (decide ((x1).length≤1099511627776)) (cond (!(Nt.is x1))
  (some [(.sl .ws ([]:List UInt16)),(.b false)])
  (some [(.sl .ws x1),(.b true)])))=ρ):bg_Parse.l1 x0 x1 x2 x3=ρ:=((ev_loop _ _ _ _ _ _).trans (by kernel_rfl)).trans (K _ rfl _ rfl _ rfl _ rfl _ rfl)
theorem bg_Parse.F_in (s:Str) {ρ:OT} (K:∀(v1:Bool) (h1:v1=(cond (decide (s=([]:Str))) true (decide ((1240:Int)<((s).length:Int))))) (v2:UInt8) (h2:v2=(List.getD s ((0:Int)).toNat (0:UInt8))) (v3:Bool) (h3:v3=((!v1)&&(decide (v2=(48:UInt8))))) (v4:Bool) (h4:v4=(cond (decide (v2=(48:UInt8))) (decide ((1:Int)<((s).length:Int))) false)),ck (!(!(decide (s=([]:Str)))) || (!(decide (s=([]:Str))))) (ck (!(!(decide (s=([]:Str)))) || (!(decide (s=([]:Str))))) (ck ((decide (s=([]:Str))) || (!(decide (s=([]:Str))))) (ck (!(!v1) || ((!v1)&&(idxOK (0:Int) (s).length))) (ck (!(!v1) || (!v1)) (ck (!(!v1) || (!v1)) (ck (!v3 || v3) (ck (!v3 || v3) (ck (!(!v1) || ((!v1)&&(!(decide (v2=(48:UInt8))) || v3))) (ck (v1 || (!v1)) (cond (cond v1 true v4)
  (some [(.sl .ws ([]:List UInt16)),(.b false)])
  (bg_Parse.l1 s ([]:List UInt16) ((s).length:Int) (0:Int))))))))))))=ρ):bg_Parse.F s=ρ:=Eq.trans (by kernel_rfl) (K _ rfl _ rfl _ rfl _ rfl)
theorem bg_Parse.chk:CK 18 bg_Parse.env bg_Parse.d:=ckOf (by kernel_rfl)
def db_Join.env:EV:=[(71,(bits_TZ.c,bits_TZ.sg)),(72,(bits_Len64.c,bits_Len64.sg))]
def db_Join.E:TEnv:=envL nrGl db_Join.env
def db_Join.m1:TM := .seq (oS [oV 1 12,oI .eql 12 (.u64 0) 13] (.cond (.s 13) [] (oS [oV 8 14,oV 14 6,oW (.b true) 7] .ret) .skip)) none (.seq (oS [oV 2 15,oI .lss 15 (.i .i64 (-2000)) 16,oV 16 17,oG 17 false (oV 2 18),oG 17 false (oI .gtr 18 (.i .i64 2000) 19),oX (.k .pick) [.s 17,.c (.b true),.s 19] [20]] (.cond (.s 20) [] (oS [oW (.u64 0) 6,oW (.b false) 7] .ret) .skip)) none (oS [oV 1 21,oC 71 1 1 [21] 22,oV 22 9] (oS [oV 1 23,oV 9 24,oB .shr 23 24 25,oV 2 26,oV 9 27,oB .add 26 27 28,oV 25 1,oV 28 2] (oS [oV 1 29,oC 72 1 1 [29] 30,oV 30 10] (.seq (oS [oV 10 31,oI .gtr 31 (.i .i64 53) 32,oV 32 33,oG 33 false (oV 2 34),oG 33 false (oI .lss 34 (.i .i64 (-1074)) 35),oX (.k .pick) [.s 33,.c (.b true),.s 35] [36],oV 36 37,oG 37 false (oV 2 38),oG 37 false (oV 10 39),oG 37 false (oB .add 38 39 40),oG 37 false (oI .gtr 40 (.i .i64 1024) 41),oX (.k .pick) [.s 37,.c (.b true),.s 41] [42]] (.cond (.s 42) [] (oS [oW (.u64 0) 6,oW (.b false) 7] .ret) .skip)) none (.seq (oS [oV 2 43,oV 10 44,oB .add 43 44 45,oI .sub 45 (.i .i64 1) 46,oI .lss 46 (.i .i64 (-1022)) 47] (.cond (.s 47) [] (oS [oV 8 48,oV 1 49,oV 2 50,oI .add 50 (.i .i64 1074) 51,oB .shl 49 51 52,oB .or 48 52 53,oV 53 6,oW (.b true) 7] .ret) .skip)) none (oS [oV 1 54,oV 10 55,oX (.k (.bin .sub)) [.c (.i .i64 53),.s 55] [56],oB .shl 54 56 57,oV 2 58,oV 10 59,oX (.k (.bin .sub)) [.c (.i .i64 53),.s 59] [60],oB .sub 58 60 61,oV 57 1,oV 61 2] (oS [oV 8 62,oV 2 63,oI .add 63 (.i .i64 1075) 64,oK (.k (.ci .u64)) [64] [65],oI .shl 65 (.u64 52) 66,oB .or 62 66 67,oV 1 68,oI .and 68 (.u64 4503599627370495) 69,oB .or 67 69 70,oV 70 6,oW (.b true) 7] .ret))))))))
def db_Join.m:TM:=oS [oW (.u64 0) 6,oW (.b false) 7] (oS [oW (.u64 0) 8] (.seq (oS [oV 0 11] (.cond (.s 11) [] (.reg [oW (.u64 9223372036854775808) 8]) .skip)) (some [1,2,8]) db_Join.m1))
def db_Join.d:TFD:=D0 3 db_Join.m [.t 6,.t 7]
def db_Join.F (n:Bool) (m:UInt64) (e:Int):OT:=db_Join.d.run db_Join.E [(.b n),(.u64 m),(.i .i64 e)]
def db_Join.j1 (x0:UInt64) (x1:Int) (x2:UInt64):OT:=evO _ db_Join.E db_Join.m1 (headT [1,2,8] [(.u64 x0),(.i .i64 x1),(.u64 x2)]) (endK db_Join.d)
theorem db_Join.j1_in (x0:UInt64) (x1:Int) (x2:UInt64) {ρ:OT} (K:∀(v1:Bool) (h1:v1=(cond (decide (x1<(-2000:Int))) true (decide ((2000:Int)<x1)))) (v2:Int) (h2:v2=((Lib.ctz 64 (x0).toNat:Int))) (v3:Int) (h3:v3=((Nt.bits (((shr64 x0 ((v2).toNat)))).toNat:Int))) (v4:Bool) (h4:v4=(cond (decide ((53:Int)<v3)) true (decide ((IntKind.i64.wrap (x1+v2))<(-1074:Int))))) (v5:Int) (h5:v5=(IntKind.i64.wrap ((IntKind.i64.wrap (x1+v2))+v3))) (v6:Bool) (h6:v6=(cond v4 true (decide ((1024:Int)<v5)))) (v7:Int) (h7:v7=(IntKind.i64.wrap (v5 - (1:Int)))) (v8:Int) (h8:v8=(IntKind.i64.wrap ((IntKind.i64.wrap (x1+v2))+(1074:Int)))) (v9:UInt64) (h9:v9=(shl64 (shr64 x0 ((v2).toNat)) ((v8).toNat))) (v10:Int) (h10:v10=(IntKind.i64.wrap ((53:Int) - v3))) (v11:UInt64) (h11:v11=(shl64 (shr64 x0 ((v2).toNat)) ((v10).toNat))) (v12:Int) (h12:v12=(IntKind.i64.wrap ((IntKind.i64.wrap (x1+v2)) - v10))) (v13:Int) (h13:v13=(IntKind.i64.wrap (v12+(1075:Int)))) (v14:UInt64) (h14:v14=(shl64 (UInt64.ofInt v13) (((52:UInt64)).toNat))) (v15:UInt64) (h15:v15=(v11 &&& (4503599627370495:UInt64))),cond (decide (x0=(0:UInt64)))
  (some [(.u64 x2),(.b true)])
  (ck (!(!(decide (x1<(-2000:Int)))) || (!(decide (x1<(-2000:Int))))) (ck ((decide (x1<(-2000:Int))) || (!(decide (x1<(-2000:Int))))) (cond v1
  (some [(.u64 0),(.b false)])
  (ck (decide (0≤v2)) (ck (!(!(decide ((53:Int)<v3))) || (!(decide ((53:Int)<v3)))) (ck ((decide ((53:Int)<v3)) || (!(decide ((53:Int)<v3)))) (ck (!(!v4) || ((!v4)&&(!v4))) (ck (!(!v4) || (!v4)) (ck (v4 || (!v4)) (cond v6
  (some [(.u64 0),(.b false)])
  (cond (decide (v7<(-1022:Int)))
  (ck (decide (0≤v8)) (some [(.u64 (x2 ||| v9)),(.b true)]))
  (ck (decide (0≤v10)) (some [(.u64 ((x2 ||| v14) ||| v15)),(.b true)])))))))))))))=ρ):db_Join.j1 x0 x1 x2=ρ:=((congrFun (congrFun (ev_eq _ _) _) _).trans (by kernel_rfl)).trans (K _ rfl _ rfl _ rfl _ rfl _ rfl _ rfl _ rfl _ rfl _ rfl _ rfl _ rfl _ rfl _ rfl _ rfl _ rfl)
theorem db_Join.F_eq (n:Bool) (m:UInt64) (e:Int):db_Join.F n m e=cond n
  (db_Join.j1 m e (9223372036854775808:UInt64))
  (db_Join.j1 m e (0:UInt64)):=by kernel_rfl
theorem db_Join.chk:CK 48 db_Join.env db_Join.d:=ckOf (by kernel_rfl)
def nr_rounded.env:EV:=[(67,(bg_Up.c,bg_Up.sg)),(68,(bg_Div.c,bg_Div.sg)),(69,(bg_Small.c,bg_Small.sg)),(70,(bg_Cmp.c,bg_Cmp.sg))]
def nr_rounded.E:TEnv:=envL nrGl nr_rounded.env
def nr_rounded.m1:TM:=oS [oV 0 24,oV 1 25,oC 68 2 3 [24,25] 26,oV 26 23,oE 0 23 27,oE 1 23 28,oE 2 23 29,oV 27 8,oV 28 9,oV 29 10] (oS [oV 8 31,oC 69 1 2 [31] 32,oV 32 30,oE 0 30 33,oE 1 30 34,oV 33 11,oV 34 12] (oS [oV 9 35,oX (.k (.call 67 (.plain 2 1))) [.s 35,.c (.i .i64 1)] [36],oV 1 37,oC 70 2 1 [36,37] 38,oV 38 13] (.seq (oS [oV 13 39,oI .gtr 39 (.i .i64 0) 40,oV 40 41,oG 41 false (oV 13 42),oG 41 false (oI .eql 42 (.i .i64 0) 43),oG 41 false (oV 43 44),oG 44 true (oV 11 45),oG 44 true (oI .rem 45 (.u64 2) 46),oG 44 true (oI .eql 46 (.u64 1) 47),oG 41 false (oP 44 47 false 48),oX (.k .pick) [.s 41,.c (.b true),.s 48] [49]] (.cond (.s 49) [] (oS [oV 11 50,oI .add 50 (.u64 1) 51,oV 51 11] (oS [oV 11 52,oV 11 53,oI .eql 53 (.u64 9007199254740992) 54,oV 52 6,oV 54 7] .ret)) .skip)) none (oS [oV 11 55,oV 55 6,oW (.b false) 7] .ret))))
def nr_rounded.m:TM:=oS [oW (.u64 0) 6,oW (.b false) 7] (.seq (oS [oV 2 14,oI .lss 14 (.i .i64 0) 15] (.cond (.s 15) [] (.reg [oV 0 16,oV 2 17,oK (.k (.un .neg)) [17] [18],oC 67 2 1 [16,18] 19,oV 19 0]) (.reg [oV 1 20,oV 2 21,oC 67 2 1 [20,21] 22,oV 22 1]))) (some [0,1]) nr_rounded.m1)
def nr_rounded.d:TFD:=D0 3 nr_rounded.m [.t 6,.t 7]
def nr_rounded.F (a:List UInt16) (b:List UInt16) (e:Int):OT:=nr_rounded.d.run nr_rounded.E [(.sl .ws a),(.sl .ws b),(.i .i64 e)]
def nr_rounded.j1 (x0:List UInt16) (x1:List UInt16):OT:=evO _ nr_rounded.E nr_rounded.m1 (headT [0,1] [(.sl .ws x0),(.sl .ws x1)]) (endK nr_rounded.d)
theorem nr_rounded.j1_in (x0:List UInt16) (x1:List UInt16) {ρ:OT} (K:∀(v1:List UInt16) (h1:v1=(Nt.of (Nt.val x0 / Nt.val x1))) (v2:List UInt16) (h2:v2=(Nt.of (Nt.val x0 % Nt.val x1))) (v3:List UInt16) (h3:v3=(Nt.of (Nt.val v2 * 2 ^ (((1:Int))).toNat))) (v4:Int) (h4:v4=(Nt.cmp (Nt.val v3) (Nt.val x1))) (v5:Bool) (h5:v5=((!(decide ((0:Int)<v4)))&&(decide (v4=(0:Int))))) (v6:UInt64) (h6:v6=((UInt64.ofNat (Nt.val v1)) % (2:UInt64))) (v7:Bool) (h7:v7=(cond (decide (v4=(0:Int))) (decide (v6=(1:UInt64))) false)) (v8:Bool) (h8:v8=(cond (decide ((0:Int)<v4)) true v7)) (v9:UInt64) (h9:v9=((UInt64.ofNat (Nt.val v1))+(1:UInt64))),ck (Nt.is x0&&Nt.is x1&&decide (x1≠[])) (ck (decide (Nt.is v1=true∧(v1).length≤4)) (ck (decide (0≤((1:Int))∧((1:Int))≤4096)&&Nt.is v2) (ck (Nt.is v3&&Nt.is x1) (ck (!(!(decide ((0:Int)<v4))) || (!(decide ((0:Int)<v4)))) (ck (!(!(decide ((0:Int)<v4))) || (!(decide ((0:Int)<v4)))) (ck (!v5 || (v5&&(!decide ((2:UInt64)=0)))) (ck (!v5 || v5) (ck (!(!(decide ((0:Int)<v4))) || ((!(decide ((0:Int)<v4)))&&(!(decide (v4=(0:Int))) || v5))) (ck ((decide ((0:Int)<v4)) || (!(decide ((0:Int)<v4)))) (cond v8
  (some [(.u64 v9),(.b (decide (v9=(9007199254740992:UInt64))))])
  (some [(.u64 (UInt64.ofNat (Nt.val v1))),(.b false)])))))))))))=ρ):nr_rounded.j1 x0 x1=ρ:=((congrFun (congrFun (ev_eq _ _) _) _).trans (by kernel_rfl)).trans (K _ rfl _ rfl _ rfl _ rfl _ rfl _ rfl _ rfl _ rfl _ rfl)
theorem nr_rounded.F_in (a:List UInt16) (b:List UInt16) (e:Int) {ρ:OT} (K:∀(v1:List UInt16) (h1:v1=(Nt.of (Nt.val a * 2 ^ (((IntKind.i64.wrap (0 - e)))).toNat))) (v2:List UInt16) (h2:v2=(Nt.of (Nt.val b * 2 ^ (e).toNat))),cond (decide (e<(0:Int)))
  (ck (decide (0≤((IntKind.i64.wrap (0 - e)))∧((IntKind.i64.wrap (0 - e)))≤4096)&&Nt.is a) (nr_rounded.j1 v1 b))
  (ck (decide (0≤e∧e≤4096)&&Nt.is b) (nr_rounded.j1 a v2))=ρ):nr_rounded.F a b e=ρ:=Eq.trans (by kernel_rfl) (K _ rfl _ rfl)
theorem nr_rounded.chk:CK 47 nr_rounded.env nr_rounded.d:=ckOf (by kernel_rfl)
def nr_ratio.env:EV:=[(46,(bg_Bits.c,bg_Bits.sg)),(47,(nr_rounded.c,nr_rounded.sg)),(48,(db_Join.c,db_Join.sg))]
def nr_ratio.E:TEnv:=envL nrGl nr_ratio.env
def nr_ratio.m1:TM:=oS [oV 7 38,oV 6 39,oX (.k (.call 48 (.plain 3 2))) [.c (.b false),.s 38,.s 39] [40],oE 0 40 41,oE 1 40 42,oV 41 4,oV 42 5] .ret
def nr_ratio.m:TM:=oS [oW (.u64 0) 4,oW (.b false) 5] (oS [oV 0 9,oC 46 1 1 [9] 10,oV 1 11,oC 46 1 1 [11] 12,oB .sub 10 12 13,oI .sub 13 (.i .i64 53) 14,oX (.k .mx) [.s 14,.c (.i .i64 (-1074))] [15],oV 15 6] (oS [oV 0 17,oV 1 18,oV 6 19,oC 47 3 2 [17,18,19] 20,oV 20 16,oE 0 16 21,oE 1 16 22,oV 21 7,oV 22 8] (.seq (oS [oV 7 23,oI .geq 23 (.u64 9007199254740992) 24,oV 24 25,oG 25 true (oV 8 26),oG 25 true (oK (.k (.un .not)) [26] [27]),oP 25 27 false 28] (.cond (.s 28) [] (oS [oV 6 29,oI .add 29 (.i .i64 1) 30,oV 30 6] (.reg [oV 0 32,oV 1 33,oV 6 34,oC 47 3 2 [32,33,34] 35,oV 35 31,oE 0 31 36,oE 1 31 37,oV 36 7])) .skip)) (some [6,7]) nr_ratio.m1)))
def nr_ratio.d:TFD:=D0 2 nr_ratio.m [.t 4,.t 5]
def nr_ratio.F (a:List UInt16) (b:List UInt16):OT:=nr_ratio.d.run nr_ratio.E [(.sl .ws a),(.sl .ws b)]
def nr_ratio.j1 (x0:Int) (x1:UInt64):OT:=evO _ nr_ratio.E nr_ratio.m1 (headT [6,7] [(.i .i64 x0),(.u64 x1)]) (endK nr_ratio.d)
theorem nr_ratio.j1_in (x0:Int) (x1:UInt64) {ρ:OT} (K:∀(v1:UInt64) (h1:v1=(Nr.pat (Nr.join false (x1).toNat x0))) (v2:Bool) (h2:v2=((Nr.join false (x1).toNat x0).isSome)),ck (decide (-1100≤x0∧x0≤2000)) (some [(.u64 v1),(.b v2)])=ρ):nr_ratio.j1 x0 x1=ρ:=((congrFun (congrFun (ev_eq _ _) _) _).trans (by kernel_rfl)).trans (K _ rfl _ rfl)
theorem nr_ratio.F_in (a:List UInt16) (b:List UInt16) {ρ:OT} (K:∀(v1:Int) (h1:v1=(IntKind.i64.wrap (((Nt.bits (Nt.val a):Int)) - ((Nt.bits (Nt.val b):Int))))) (v2:Int) (h2:v2=(IntKind.i64.wrap (v1 - (53:Int)))) (v3:UInt64) (h3:v3=(UInt64.ofNat (Nr.rnd (Nr.scA (Nt.val a) ((maxI v2 (-1074:Int)))) (Nr.scB (Nt.val b) ((maxI v2 (-1074:Int))))))) (v4:Bool) (h4:v4=(Nr.rndUp (Nr.scA (Nt.val a) ((maxI v2 (-1074:Int)))) (Nr.scB (Nt.val b) ((maxI v2 (-1074:Int)))))) (v5:Bool) (h5:v5=(cond (decide ((9007199254740992:UInt64)≤v3)) (!v4) false)) (v6:Int) (h6:v6=(IntKind.i64.wrap ((maxI v2 (-1074:Int))+(1:Int)))) (v7:UInt64) (h7:v7=(UInt64.ofNat (Nr.rnd (Nr.scA (Nt.val a) v6) (Nr.scB (Nt.val b) v6)))) (v8:Bool) (h8:v8=(Nr.rndUp (Nr.scA (Nt.val a) v6) (Nr.scB (Nt.val b) v6))),ck (Nt.is a) (ck (Nt.is b) (ck (Nt.is a&&Nt.is b&&decide (-4096≤((maxI v2 (-1074:Int)))∧((maxI v2 (-1074:Int)))≤4096∧0<Nt.val b∧Nr.scA (Nt.val a) ((maxI v2 (-1074:Int)))<2 ^ 4090∧Nr.scB (Nt.val b) ((maxI v2 (-1074:Int)))<2 ^ 4090∧Nr.scA (Nt.val a) ((maxI v2 (-1074:Int)))<2 ^ 60 * Nr.scB (Nt.val b) ((maxI v2 (-1074:Int))))) (ck (!(decide ((9007199254740992:UInt64)≤v3)) || (decide ((9007199254740992:UInt64)≤v3))) (ck (!(decide ((9007199254740992:UInt64)≤v3)) || (decide ((9007199254740992:UInt64)≤v3))) (cond v5
  (ck (Nt.is a&&Nt.is b&&decide (-4096≤v6∧v6≤4096∧0<Nt.val b∧Nr.scA (Nt.val a) v6<2 ^ 4090∧Nr.scB (Nt.val b) v6<2 ^ 4090∧Nr.scA (Nt.val a) v6<2 ^ 60 * Nr.scB (Nt.val b) v6)) (nr_ratio.j1 v6 v7))
  (nr_ratio.j1 (maxI v2 (-1074:Int)) v3))))))=ρ):nr_ratio.F a b=ρ:=Eq.trans (by kernel_rfl) (K _ rfl _ rfl _ rfl _ rfl _ rfl _ rfl _ rfl _ rfl)
theorem nr_ratio.chk:CK 22 nr_ratio.env nr_ratio.d:=ckOf (by kernel_rfl)
def nr_Read.env:EV:=[(15,(st_Trim.c,st_Trim.sg)),(16,(st_TrimLeft.c,st_TrimLeft.sg)),(17,(st_TrimRight.c,st_TrimRight.sg)),(18,(bg_Parse.c,bg_Parse.sg)),(19,(bg_Of.c,bg_Of.sg)),(20,(bg_Power.c,bg_Power.sg)),(21,(bg_Mul.c,bg_Mul.sg)),(22,(nr_ratio.c,nr_ratio.sg))]
def nr_Read.E:TEnv:=envL nrGl nr_Read.env
def nr_Read.m1:TM:=oS [oV 7 77,oV 9 78,oC 22 2 2 [77,78] 79,oE 0 79 80,oE 1 79 81,oV 80 4,oV 81 5] .ret
def nr_Read.m:TM:=oS [oW (.u64 0) 4,oW (.b false) 5] (.seq (oS [oV 0 13,oK (.k .lns) [13] [14],oI .lss 14 (.i .i64 1) 15,oV 15 16,oG 16 false (oV 0 17),oG 16 false (oK (.k .lns) [17] [18]),oG 16 false (oI .gtr 18 (.i .i64 300) 19),oX (.k .pick) [.s 16,.c (.b true),.s 19] [20],oV 20 21,oG 21 false (oV 0 22),oG 21 false (oX (.k (.call 15 (.plain 2 1))) [.s 22,.c (.s ([48,49,50,51,52,53,54,55,56,57]:Str))] [23]),oG 21 false (oI .neq 23 (.s []) 24),oX (.k .pick) [.s 21,.c (.b true),.s 24] [25]] (.cond (.s 25) [] (oS [oW (.u64 0) 4,oW (.b false) 5] .ret) .skip)) none (oS [oV 0 26,oX (.k (.call 16 (.plain 2 1))) [.s 26,.c (.s ([48]:Str))] [27],oV 27 6] (.seq (.block 0 [] (oS [oV 6 29,oI .eql 29 (.s []) 30,oV 30 31,oG 31 false (oV 1 32),oG 31 false (oI .lss 32 (.i .i64 (-1000)) 33),oX (.k .pick) [.s 31,.c (.b true),.s 33] [34],oV 34 28] (.cond (.s 28) [] (oS [oW (.u64 0) 4,oW (.b true) 5] .ret) (oS [oV 1 36,oI .gtr 36 (.i .i64 1000) 37,oV 37 35] (.cond (.s 35) [] (oS [oW (.u64 0) 4,oW (.b false) 5] .ret) .skip))))) none (oS [oV 1 38,oV 0 39,oK (.k .lns) [39] [40],oV 6 41,oK (.k .lns) [41] [42],oB .sub 40 42 43,oB .sub 38 43 44,oV 44 1] (oS [oV 6 45,oX (.k (.call 17 (.plain 2 1))) [.s 45,.c (.s ([48]:Str))] [46],oV 46 6] (.seq (oS [oV 1 47,oI .lss 47 (.i .i64 (-330)) 48] (.cond (.s 48) [] (oS [oW (.u64 0) 4,oW (.b true) 5] .ret) .skip)) none (.seq (oS [oV 1 49,oI .gtr 49 (.i .i64 310) 50] (.cond (.s 50) [] (oS [oW (.u64 0) 4,oW (.b false) 5] .ret) .skip)) none (oS [oV 6 52,oC 18 1 2 [52] 53,oV 53 51,oE 0 51 54,oE 1 51 55,oV 54 7,oV 55 8] (oS [oX (.k (.call 19 (.plain 1 1))) [.c (.u64 1)] [56],oV 56 9] (.seq (oS [oV 1 57,oV 6 58,oK (.k .lns) [58] [59],oB .sub 57 59 60,oV 60 10] (oS [oV 10 61,oI .geq 61 (.i .i64 0) 62] (.cond (.s 62) [] (oS [oV 10 64,oX (.k (.call 20 (.plain 2 2))) [.c (.i .i64 10),.s 64] [65],oV 65 63,oE 0 63 66,oE 1 63 67,oV 66 11,oV 67 12] (.reg [oV 7 68,oV 11 69,oC 21 2 1 [68,69] 70,oV 70 7])) (.reg [oV 10 72,oK (.k (.un .neg)) [72] [73],oX (.k (.call 20 (.plain 2 2))) [.c (.i .i64 10),.s 73] [74],oV 74 71,oE 0 71 75,oE 1 71 76,oV 75 9])))) (some [7,9]) nr_Read.m1))))))))))
def nr_Read.d:TFD:=D0 2 nr_Read.m [.t 4,.t 5]
def nr_Read.F (d:Str) (x:Int):OT:=nr_Read.d.run nr_Read.E [(.s d),(.i .i64 x)]
def nr_Read.j1 (x0:List UInt16) (x1:List UInt16):OT:=evO _ nr_Read.E nr_Read.m1 (headT [7,9] [(.sl .ws x0),(.sl .ws x1)]) (endK nr_Read.d)
theorem nr_Read.j1_in (x0:List UInt16) (x1:List UInt16) {ρ:OT} (K:∀(v1:UInt64) (h1:v1=(Nr.pat (Nr.near (Nt.val x0) (Nt.val x1)))) (v2:Bool) (h2:v2=((Nr.near (Nt.val x0) (Nt.val x1)).isSome)),ck (Nt.is x0&&Nt.is x1&&decide (0<Nt.val x0∧0<Nt.val x1∧Nt.val x0<2 ^ 1100∧Nt.val x1<2 ^ 2200)) (some [(.u64 v1),(.b v2)])=ρ):nr_Read.j1 x0 x1=ρ:=((congrFun (congrFun (ev_eq _ _) _) _).trans (by kernel_rfl)).trans (K _ rfl _ rfl)
theorem nr_Read.F_in (d:Str) (x:Int) {ρ:OT} (K:∀(v1:Bool) (h1:v1=(cond (decide (((d).length:Int)<(1:Int))) true (decide ((300:Int)<((d).length:Int))))) (v2:Str) (h2:v2=(Lib.trimS d (([48,49,50,51,52,53,54,55,56,57]:Str)))) (v3:Bool) (h3:v3=(cond v1 true (!decide (v2=([]:Str))))) (v4:Str) (h4:v4=(Lib.trimLeftS d (([48]:Str)))) (v5:Bool) (h5:v5=(cond (decide (v4=([]:Str))) true (decide (x<(-1000:Int))))) (v6:Int) (h6:v6=(IntKind.i64.wrap (((d).length:Int) - ((v4).length:Int)))) (v7:Str) (h7:v7=(Lib.trimRightS v4 (([48]:Str)))) (v8:List UInt16) (h8:v8=(Nt.of (((1:UInt64))).toNat)) (v9:Int) (h9:v9=(IntKind.i64.wrap ((IntKind.i64.wrap (x - v6)) - ((v7).length:Int)))) (v10:List UInt16) (h10:v10=(Nt.of ((((10:Int))).toNat ^ (v9).toNat))) (v11:List UInt16) (h11:v11=(Nt.of (Nt.val ((Nt.of (Nr.num v7))) * Nt.val v10))) (v12:List UInt16) (h12:v12=(Nt.of ((((10:Int))).toNat ^ (((IntKind.i64.wrap (0 - v9)))).toNat))),ck (!(!(decide (((d).length:Int)<(1:Int)))) || (!(decide (((d).length:Int)<(1:Int))))) (ck (!(!(decide (((d).length:Int)<(1:Int)))) || (!(decide (((d).length:Int)<(1:Int))))) (ck ((decide (((d).length:Int)<(1:Int))) || (!(decide (((d).length:Int)<(1:Int))))) (ck (!(!v1) || ((!v1)&&(decide ((d).length≤1099511627776∧((([48,49,50,51,52,53,54,55,56,57]:Str))).length≤100)&&((([48,49,50,51,52,53,54,55,56,57]:Str))).all (fun b=>decide (b.toNat<128))))) (ck (!(!v1) || (!v1)) (ck (v1 || (!v1)) (cond v3
  (some [(.u64 0),(.b false)])
  (ck (decide ((d).length≤1099511627776∧((([48]:Str))).length≤100)&&((([48]:Str))).all (fun b=>decide (b.toNat<128))) (ck (!(!(decide (v4=([]:Str)))) || (!(decide (v4=([]:Str))))) (ck ((decide (v4=([]:Str))) || (!(decide (v4=([]:Str))))) (cond v5
  (some [(.u64 0),(.b true)])
  (cond (decide ((1000:Int)<x))
  (some [(.u64 0),(.b false)])
  (ck (decide ((v4).length≤1099511627776∧((([48]:Str))).length≤100)&&((([48]:Str))).all (fun b=>decide (b.toNat<128))) (cond (decide ((IntKind.i64.wrap (x - v6))<(-330:Int)))
  (some [(.u64 0),(.b true)])
  (cond (decide ((310:Int)<(IntKind.i64.wrap (x - v6))))
  (some [(.u64 0),(.b false)])
  (ck (decide (1≤(v7).length∧(v7).length≤300∧(v7).getD 0 0≠48)&&(v7).all Nr.isDig) (cond (decide ((0:Int)≤v9))
  (ck (decide (2≤((10:Int))∧((10:Int))≤65535∧0≤v9∧v9≤1000∧(((10:Int))).toNat ^ (v9).toNat<2 ^ 4096)) (ck (Nt.is ((Nt.of (Nr.num v7)))&&Nt.is v10) (nr_Read.j1 v11 v8)))
  (ck (decide (2≤((10:Int))∧((10:Int))≤65535∧0≤((IntKind.i64.wrap (0 - v9)))∧((IntKind.i64.wrap (0 - v9)))≤1000∧(((10:Int))).toNat ^ (((IntKind.i64.wrap (0 - v9)))).toNat<2 ^ 4096)) (nr_Read.j1 (Nt.of (Nr.num v7)) v12))))))))))))))))))=ρ):nr_Read.F d x=ρ:=Eq.trans (by kernel_rfl) (K _ rfl _ rfl _ rfl _ rfl _ rfl _ rfl _ rfl _ rfl _ rfl _ rfl _ rfl _ rfl)
theorem nr_Read.chk:CK 9 nr_Read.env nr_Read.d:=ckOf (by kernel_rfl)
def nr_power.env:EV:=[(16,(st_TrimLeft.c,st_TrimLeft.sg))]
def nr_power.E:TEnv:=envL nrGl nr_power.env
def nr_power.m1:TM:=oS [oB .lss 10 9 11] (.seq (.cond (.s 11) [] .skip (.exit 0)) none (.seq (.block 1 [] (oS [oV 10 12,oV 12 5] (.reg [oV 4 13,oX (.k (.bin .mul)) [.c (.i .i64 10),.s 13] [14],oV 3 15,oV 5 16,oK (.k .si) [15,16] [17],oI .sub 17 (.u8 48) 18,oK (.k (.ci .i64)) [18] [19],oB .add 14 19 20,oX (.k .mn) [.s 20,.c (.i .i64 1000000)] [21],oV 21 4]))) none (.reg [oI .add 10 (.i .i64 1) 22,oV 22 10])))
def nr_power.m:TM:=oS [oW (.i .i64 0) 2] (oS [oV 0 6,oX (.k (.call 16 (.plain 2 1))) [.s 6,.c (.s ([43,45]:Str))] [7],oV 7 3] (oS [oW (.i .i64 0) 4] (.seq (oS [oV 3 8,oK (.k .lns) [8] [9],oW (.i .i64 0) 10] (.block 0 [] (.loop [0,3,4,9,10] [] nr_power.m1))) none (.seq (oS [oV 0 23,oX (.k .si) [.s 23,.c (.i .i64 0)] [24],oI .eql 24 (.u8 45) 25] (.cond (.s 25) [] (oS [oV 4 26,oK (.k (.un .neg)) [26] [27],oV 27 2] .ret) .skip)) none (oS [oV 4 28,oV 28 2] .ret)))))
def nr_power.d:TFD:=D0 1 nr_power.m [.t 2]
def nr_power.F (s:Str):OT:=nr_power.d.run nr_power.E [(.s s)]
def nr_power.k1:Cont (List TV):=seqK (ev _ nr_power.E (.seq (oS [oV 0 23,oX (.k .si) [.s 23,.c (.i .i64 0)] [24],oI .eql 24 (.u8 45) 25] (.cond (.s 25) [] (oS [oV 4 26,oK (.k (.un .neg)) [26] [27],oV 27 2] .ret) .skip)) none (oS [oV 4 28,oV 28 2] .ret))) none (endK nr_power.d)
def nr_power.l1 (x0:Str) (x1:Str) (x2:Int) (x3:Int) (x4:Int):OT:=loopL (evO _ nr_power.E nr_power.m1) isN [0,3,4,9,10] (headT [0,3,4,9,10] [(.s x0),(.s x1),(.i .i64 x2),(.i .i64 x3),(.i .i64 x4)]) (blockK 0 nr_power.k1)
theorem nr_power.l1_in (x0:Str) (x1:Str) (x2:Int) (x3:Int) (x4:Int) {ρ:OT} (K:∀(v1:Int) (h1:v1=(IntKind.i64.wrap ((10:Int) * x2))) (v2:UInt8) (h2:v2=(List.getD x1 (x4).toNat (0:UInt8))) (v3:Int) (h3:v3=(IntKind.i64.wrap (((v2 - (48:UInt8))).toNat:Int))) (v4:Int) (h4:v4=(minI (IntKind.i64.wrap (v1+v3)) (1000000:Int))) (v5:Int) (h5:v5=(IntKind.i64.wrap (x4+(1:Int)))) (v6:UInt8) (h6:v6=(List.getD x0 ((0:Int)).toNat (0:UInt8))),cond (decide (x4<x3))
  (ck (idxOK x4 (x1).length) (nr_power.l1 x0 x1 v4 x3 v5))
  (ck (idxOK (0:Int) (x0).length) (cond (decide (v6=(45:UInt8)))
  (some [(.i .i64 (IntKind.i64.wrap (0 - x2)))])
  (some [(.i .i64 x2)])))=ρ):nr_power.l1 x0 x1 x2 x3 x4=ρ:=((ev_loop _ _ _ _ _ _).trans (by kernel_rfl)).trans (K _ rfl _ rfl _ rfl _ rfl _ rfl _ rfl)
theorem nr_power.F_in (s:Str) {ρ:OT} (K:∀(v1:Str) (h1:v1=(Lib.trimLeftS s (([43,45]:Str)))),ck (decide ((s).length≤1099511627776∧((([43,45]:Str))).length≤100)&&((([43,45]:Str))).all (fun b=>decide (b.toNat<128))) (nr_power.l1 s v1 (0:Int) ((v1).length:Int) (0:Int))=ρ):nr_power.F s=ρ:=Eq.trans (by kernel_rfl) (K _ rfl)
theorem nr_power.chk:CK 29 nr_power.env nr_power.d:=ckOf (by kernel_rfl)
def nr_Parse.env:EV:=[(9,(nr_Read.c,nr_Read.sg)),(26,(wh_Lexeme.c,wh_Lexeme.sg)),(27,(st_CutPrefix.c,st_CutPrefix.sg)),(28,(st_IndexAny.c,st_IndexAny.sg)),(29,(nr_power.c,nr_power.sg)),(30,(st_Cut.c,st_Cut.sg))]
def nr_Parse.E:TEnv:=envL nrGl nr_Parse.env
def nr_Parse.m1:TM:=oS [oV 11 58,oV 58 2,oW (.i .i64 0) 3] .ret
def nr_Parse.m2:TM:=oS [oV 4 37,oX (.k (.call 30 (.plain 2 3))) [.s 37,.c (.s ([46]:Str))] [38],oV 38 36,oE 0 36 39,oE 1 36 40,oE 2 36 41,oV 39 8,oV 40 9,oV 41 10] (oS [oV 8 43,oV 9 44,oB .add 43 44 45,oV 8 46,oK (.k .lns) [46] [47],oV 6 48,oB .add 47 48 49,oC 9 2 2 [45,49] 50,oV 50 42,oE 0 42 51,oE 1 42 52,oV 51 11,oV 52 12] (.seq (oS [oV 12 53,oK (.k (.un .not)) [53] [54]] (.cond (.s 54) [] (oS [oW (.u64 0) 2,oW (.i .i64 10) 3] .ret) .skip)) none (.seq (oS [oV 5 55] (.cond (.s 55) [] (.reg [oV 11 56,oI .or 56 (.u64 9223372036854775808) 57,oV 57 11]) .skip)) (some [11]) nr_Parse.m1)))
def nr_Parse.m:TM:=oS [oW (.u64 0) 2,oW (.i .i64 0) 3] (.seq (oS [oV 0 13,oC 26 1 1 [13] 14,oI .eql 14 (.i .i64 0) 15] (.cond (.s 15) [] (oS [oW (.u64 0) 2,oW (.i .i64 3) 3] .ret) .skip)) none (.seq (oS [oV 0 16,oK (.k .lns) [16] [17],oI .gtr 17 (.i .i64 300) 18] (.cond (.s 18) [] (oS [oW (.u64 0) 2,oW (.i .i64 10) 3] .ret) .skip)) none (oS [oV 0 20,oX (.k (.call 27 (.plain 2 2))) [.s 20,.c (.s ([45]:Str))] [21],oV 21 19,oE 0 19 22,oE 1 19 23,oV 22 4,oV 23 5] (oS [oW (.i .i64 0) 6] (.seq (oS [oV 4 24,oX (.k (.call 28 (.plain 2 1))) [.s 24,.c (.s ([101,69]:Str))] [25],oV 25 7] (oS [oV 7 26,oI .geq 26 (.i .i64 0) 27] (.cond (.s 27) [] (oS [oV 4 28,oV 7 29,oI .add 29 (.i .i64 1) 30,oK (.k (.ss true false)) [28,30] [31],oC 29 1 1 [31] 32,oV 32 6] (.reg [oV 4 33,oV 7 34,oK (.k (.ss false true)) [33,34] [35],oV 35 4])) .skip))) (some [4,5,6]) nr_Parse.m2)))))
def nr_Parse.d:TFD:=D0 1 nr_Parse.m [.t 2,.t 3]
def nr_Parse.F (s:Str):OT:=nr_Parse.d.run nr_Parse.E [(.s s)]
def nr_Parse.j1 (x0:Str) (x1:Bool) (x2:Int):OT:=evO _ nr_Parse.E nr_Parse.m2 (headT [4,5,6] [(.s x0),(.b x1),(.i .i64 x2)]) (endK nr_Parse.d)
def nr_Parse.j2 (x0:UInt64):OT:=evO _ nr_Parse.E nr_Parse.m1 (headT [11] [(.u64 x0)]) (endK nr_Parse.d)
theorem nr_Parse.j1_in (x0:Str) (x1:Bool) (x2:Int) {ρ:OT} (K:∀(v1:Str) (h1:v1=((((x0).dropWhile (· != 46)).drop 1))) (v2:Str) (h2:v2=((((x0).takeWhile (· != 46)))++v1)) (v3:Int) (h3:v3=(((((x0).takeWhile (· != 46)))).length:Int)) (v4:UInt64) (h4:v4=(Nr.pat (Nr.read v2 ((IntKind.i64.wrap (v3+x2)))))) (v5:Bool) (h5:v5=((Nr.read v2 ((IntKind.i64.wrap (v3+x2)))).isSome)) (v6:UInt64) (h6:v6=(v4 ||| (9223372036854775808:UInt64))),ck (decide ((x0).length≤4294967280∧(([46]:Str))=[46])) (ck (decide (((((x0).takeWhile (· != 46)))).length+(v1).length≤9223372036854775807)) (cond (!v5)
  (some [(.u64 0),(.i .i64 10)])
  (cond x1
  (nr_Parse.j2 v6)
  (nr_Parse.j2 v4))))=ρ):nr_Parse.j1 x0 x1 x2=ρ:=((congrFun (congrFun (ev_eq _ _) _) _).trans (by kernel_rfl)).trans (K _ rfl _ rfl _ rfl _ rfl _ rfl _ rfl)
theorem nr_Parse.j2_eq (x0:UInt64):nr_Parse.j2 x0=some [(.u64 x0),(.i .i64 0)]:=((congrFun (congrFun (ev_eq _ _) _) _).trans (by kernel_rfl))
theorem nr_Parse.F_in (s:Str) {ρ:OT} (K:∀(v1:Str) (h1:v1=((if ((([45]:Str))).isPrefixOf s then (s).drop ((([45]:Str))).length else s))) (v2:Bool) (h2:v2=((((([45]:Str))).isPrefixOf s))) (v3:Int) (h3:v3=(Lib.indexAny v1 (([101,69]:Str)))) (v4:Int) (h4:v4=(IntKind.i64.wrap (v3+(1:Int)))) (v5:Int) (h5:v5=(Nr.power ((List.drop (v4).toNat v1)))),ck (decide ((s).length≤1099511627776)) (cond (decide ((Nr.lexeme s)=(0:Int)))
  (some [(.u64 0),(.i .i64 3)])
  (cond (decide ((300:Int)<((s).length:Int)))
  (some [(.u64 0),(.i .i64 10)])
  (ck (decide ((v1).length≤4294967280∧((([101,69]:Str))).length≤100)&&((v1)++((([101,69]:Str)))).all (fun b=>decide (b.toNat<128))) (cond (decide ((0:Int)≤v3))
  (ck (cutOK v4 (v1).length (v1).length) (ck (decide (1≤(Nr.signed ((List.drop (v4).toNat v1))).length∧(((List.drop (v4).toNat v1))).length≤300)&&(Nr.signed ((List.drop (v4).toNat v1))).all Nr.isDig) (ck (cutOK 0 v3 (v1).length) (nr_Parse.j1 (List.take (v3).toNat v1) v2 v5))))
  (nr_Parse.j1 v1 v2 (0:Int))))))=ρ):nr_Parse.F s=ρ:=Eq.trans (by kernel_rfl) (K _ rfl _ rfl _ rfl _ rfl _ rfl)
theorem nr_Parse.chk:CK 11 nr_Parse.env nr_Parse.d:=ckOf (by kernel_rfl)
def wh_is.env:EV:=[]
def wh_is.E:TEnv:=envL nrGl wh_is.env
def wh_is.m:TM:=oS [oW (.b false) 8] (oS [oV 1 9,oV 0 10,oK (.k .lns) [10] [11],oB .lss 9 11 12,oV 12 13,oG 13 true (oV 0 14),oG 13 true (oV 1 15),oG 13 true (oK (.k .si) [14,15] [16]),oG 13 true (oV 2 17),oG 13 true (oB .eql 16 17 18),oG 13 true (oV 18 19),oG 19 false (oV 0 20),oG 19 false (oV 1 21),oG 19 false (oK (.k .si) [20,21] [22]),oG 19 false (oV 3 23),oG 19 false (oB .eql 22 23 24),oG 13 true (oX (.k .pick) [.s 19,.c (.b true),.s 24] [25]),oP 13 25 false 26,oV 26 8] .ret)
def wh_is.d:TFD:=D0 4 wh_is.m [.t 8]
def wh_is.F (s:Str) (at_:Int) (c:UInt8) (d:UInt8):OT:=wh_is.d.run wh_is.E [(.s s),(.i .i64 at_),(.u8 c),(.u8 d)]
theorem wh_is.F_in (s:Str) (at_:Int) (c:UInt8) (d:UInt8) {ρ:OT} (K:∀(v1:UInt8) (h1:v1=(List.getD s (at_).toNat (0:UInt8))) (v2:Bool) (h2:v2=((decide (at_<((s).length:Int)))&&(!(decide (v1=c))))) (v3:Bool) (h3:v3=(cond (decide (v1=c)) true (decide (v1=d)))) (v4:Bool) (h4:v4=(cond (decide (at_<((s).length:Int))) v3 false)),ck (!(decide (at_<((s).length:Int))) || (((decide (at_<((s).length:Int)))&&(decide (at_<((s).length:Int))))&&(idxOK at_ (s).length))) (ck (!(decide (at_<((s).length:Int))) || ((decide (at_<((s).length:Int)))&&(decide (at_<((s).length:Int))))) (ck (!(decide (at_<((s).length:Int))) || (decide (at_<((s).length:Int)))) (ck (!v2 || ((v2&&v2)&&(idxOK at_ (s).length))) (ck (!v2 || (v2&&v2)) (ck (!(decide (at_<((s).length:Int))) || ((decide (at_<((s).length:Int)))&&((decide (v1=c)) || v2))) (ck (!(decide (at_<((s).length:Int))) || (decide (at_<((s).length:Int)))) (some [(.b v4)])))))))=ρ):wh_is.F s at_ c d=ρ:=Eq.trans (by kernel_rfl) (K _ rfl _ rfl _ rfl _ rfl)
theorem wh_is.chk:CK 50 wh_is.env wh_is.d:=ckOf (by kernel_rfl)
def wh_digits.env:EV:=[]
def wh_digits.E:TEnv:=envL nrGl wh_digits.env
def wh_digits.m1:TM := .seq (oS [oV 1 5,oV 0 6,oK (.k .lns) [6] [7],oB .lss 5 7 8,oV 8 9,oG 9 true (oV 0 10),oG 9 true (oV 1 11),oG 9 true (oK (.k .si) [10,11] [12]),oG 9 true (oI .geq 12 (.u8 48) 13),oP 9 13 false 14,oV 14 15,oG 15 true (oV 0 16),oG 15 true (oV 1 17),oG 15 true (oK (.k .si) [16,17] [18]),oG 15 true (oI .leq 18 (.u8 57) 19),oP 15 19 false 20] (.cond (.s 20) [] .skip (.exit 0))) none (.block 1 [] (.reg [oV 1 21,oI .add 21 (.i .i64 1) 22,oV 22 1]))
def wh_digits.m:TM:=oS [oW (.i .i64 0) 4] (.seq (.block 0 [] (.loop [0,1] [] wh_digits.m1)) none (oS [oV 1 23,oV 23 4] .ret))
def wh_digits.d:TFD:=D0 2 wh_digits.m [.t 4]
def wh_digits.F (s:Str) (at_:Int):OT:=wh_digits.d.run wh_digits.E [(.s s),(.i .i64 at_)]
def wh_digits.k1:Cont (List TV):=seqK (ev _ wh_digits.E (oS [oV 1 23,oV 23 4] .ret)) none (endK wh_digits.d)
def wh_digits.l1 (x0:Str) (x1:Int):OT:=loopL (evO _ wh_digits.E wh_digits.m1) isN [0,1] (headT [0,1] [(.s x0),(.i .i64 x1)]) (blockK 0 wh_digits.k1)
theorem wh_digits.l1_in (x0:Str) (x1:Int) {ρ:OT} (K:∀(v1:UInt8) (h1:v1=(List.getD x0 (x1).toNat (0:UInt8))) (v2:Bool) (h2:v2=(cond (decide (x1<((x0).length:Int))) (decide ((48:UInt8)≤v1)) false)) (v3:Bool) (h3:v3=(cond v2 (decide (v1≤(57:UInt8))) false)) (v4:Int) (h4:v4=(IntKind.i64.wrap (x1+(1:Int)))),ck (!(decide (x1<((x0).length:Int))) || (((decide (x1<((x0).length:Int)))&&(decide (x1<((x0).length:Int))))&&(idxOK x1 (x0).length))) (ck (!(decide (x1<((x0).length:Int))) || (decide (x1<((x0).length:Int)))) (ck (!(decide (x1<((x0).length:Int))) || (decide (x1<((x0).length:Int)))) (ck (!v2 || ((v2&&v2)&&(idxOK x1 (x0).length))) (ck (!v2 || v2) (ck (!v2 || v2) (cond v3
  (wh_digits.l1 x0 v4)
  (some [(.i .i64 x1)])))))))=ρ):wh_digits.l1 x0 x1=ρ:=((ev_loop _ _ _ _ _ _).trans (by kernel_rfl)).trans (K _ rfl _ rfl _ rfl _ rfl)
theorem wh_digits.F_eq (s:Str) (at_:Int):wh_digits.F s at_=wh_digits.l1 s at_:=by kernel_rfl
theorem wh_digits.chk:CK 51 wh_digits.env wh_digits.d:=ckOf (by kernel_rfl)
def wh_Lexeme.env:EV:=[(50,(wh_is.c,wh_is.sg)),(51,(wh_digits.c,wh_digits.sg))]
def wh_Lexeme.E:TEnv:=envL nrGl wh_Lexeme.env
def wh_Lexeme.m1:TM:=oS [oV 0 52,oV 3 53,oC 51 2 1 [52,53] 54,oV 54 5] (.seq (oS [oV 5 55,oV 3 56,oB .eql 55 56 57] (.cond (.s 57) [] (oS [oW (.i .i64 0) 2] .ret) .skip)) none (.reg [oV 5 58,oV 58 3]))
def wh_Lexeme.m2:TM := .seq (oS [oV 3 59,oV 0 60,oK (.k .lns) [60] [61],oB .neq 59 61 62] (.cond (.s 62) [] (oS [oW (.i .i64 0) 2] .ret) .skip)) none (oS [oV 4 63,oV 63 2] .ret)
def wh_Lexeme.m3:TM := .seq (oS [oV 0 42,oV 3 43,oX (.k (.call 50 (.plain 4 1))) [.s 42,.s 43,.c (.u8 101),.c (.u8 69)] [44]] (.cond (.s 44) [] (oS [oW (.i .i64 2) 4] (oS [oV 3 45,oI .add 45 (.i .i64 1) 46,oV 46 3] (.seq (oS [oV 0 47,oV 3 48,oX (.k (.call 50 (.plain 4 1))) [.s 47,.s 48,.c (.u8 43),.c (.u8 45)] [49]] (.cond (.s 49) [] (.reg [oV 3 50,oI .add 50 (.i .i64 1) 51,oV 51 3]) .skip)) (some [0,3,4]) wh_Lexeme.m1))) .skip)) (some [0,3,4]) wh_Lexeme.m2
def wh_Lexeme.m4:TM:=oS [oV 0 11,oV 3 12,oC 51 2 1 [11,12] 13,oV 13 5] (.seq (oS [oV 5 14,oV 3 15,oB .eql 14 15 16,oV 16 17,oG 17 false (oV 0 18),oG 17 false (oV 3 19),oG 17 false (oK (.k .si) [18,19] [20]),oG 17 false (oI .eql 20 (.u8 48) 21),oG 17 false (oV 21 22),oG 22 true (oV 5 23),oG 22 true (oV 3 24),oG 22 true (oI .add 24 (.i .i64 1) 25),oG 22 true (oB .gtr 23 25 26),oG 17 false (oP 22 26 false 27),oX (.k .pick) [.s 17,.c (.b true),.s 27] [28]] (.cond (.s 28) [] (oS [oW (.i .i64 0) 2] .ret) .skip)) none (oS [oV 5 29,oV 29 3] (.seq (oS [oV 0 30,oV 3 31,oX (.k (.call 50 (.plain 4 1))) [.s 30,.s 31,.c (.u8 46),.c (.u8 46)] [32]] (.cond (.s 32) [] (oS [oW (.i .i64 2) 4] (oS [oV 0 33,oV 3 34,oI .add 34 (.i .i64 1) 35,oC 51 2 1 [33,35] 36,oV 36 5] (.seq (oS [oV 5 37,oV 3 38,oI .add 38 (.i .i64 1) 39,oB .eql 37 39 40] (.cond (.s 40) [] (oS [oW (.i .i64 0) 2] .ret) .skip)) none (.reg [oV 5 41,oV 41 3])))) .skip)) (some [0,3,4]) wh_Lexeme.m3)))
def wh_Lexeme.m:TM:=oS [oW (.i .i64 0) 2] (oS [oW (.i .i64 0) 3,oW (.i .i64 1) 4] (.seq (oS [oV 0 6,oV 3 7,oX (.k (.call 50 (.plain 4 1))) [.s 6,.s 7,.c (.u8 45),.c (.u8 45)] [8]] (.cond (.s 8) [] (.reg [oV 3 9,oI .add 9 (.i .i64 1) 10,oV 10 3]) .skip)) (some [0,3,4]) wh_Lexeme.m4))
def wh_Lexeme.d:TFD:=D0 1 wh_Lexeme.m [.t 2]
def wh_Lexeme.F (s:Str):OT:=wh_Lexeme.d.run wh_Lexeme.E [(.s s)]
def wh_Lexeme.k1:Cont (List TV):=seqK (evO _ wh_Lexeme.E wh_Lexeme.m2) (some [0,3,4]) (endK wh_Lexeme.d)
def wh_Lexeme.j1 (x0:Str) (x1:Int) (x2:Int):OT:=evO _ wh_Lexeme.E wh_Lexeme.m4 (headT [0,3,4] [(.s x0),(.i .i64 x1),(.i .i64 x2)]) (endK wh_Lexeme.d)
def wh_Lexeme.j2 (x0:Str) (x1:Int) (x2:Int):OT:=evO _ wh_Lexeme.E wh_Lexeme.m3 (headT [0,3,4] [(.s x0),(.i .i64 x1),(.i .i64 x2)]) (endK wh_Lexeme.d)
def wh_Lexeme.j3 (x0:Str) (x1:Int) (x2:Int):OT:=evO _ wh_Lexeme.E wh_Lexeme.m1 (headT [0,3,4] [(.s x0),(.i .i64 x1),(.i .i64 x2)]) wh_Lexeme.k1
def wh_Lexeme.j4 (x0:Str) (x1:Int) (x2:Int):OT:=evO _ wh_Lexeme.E wh_Lexeme.m2 (headT [0,3,4] [(.s x0),(.i .i64 x1),(.i .i64 x2)]) (endK wh_Lexeme.d)
theorem wh_Lexeme.j1_in (x0:Str) (x1:Int) (x2:Int) {ρ:OT} (K:∀(v1:Int) (h1:v1=((x1+(Nr.run ((x0).drop (x1).toNat):Int)))) (v2:UInt8) (h2:v2=(List.getD x0 (x1).toNat (0:UInt8))) (v3:Bool) (h3:v3=((!(decide (v1=x1)))&&(decide (v2=(48:UInt8))))) (v4:Int) (h4:v4=(IntKind.i64.wrap (x1+(1:Int)))) (v5:Bool) (h5:v5=(cond (decide (v2=(48:UInt8))) (decide (v4<v1)) false)) (v6:Bool) (h6:v6=(cond (decide (v1=x1)) true v5)) (v7:Bool) (h7:v7=((decide (v1<(x0).length)&&(decide ((x0).getD (v1).toNat 0=((46:UInt8))) || decide ((x0).getD (v1).toNat 0=((46:UInt8))))))) (v8:Int) (h8:v8=(IntKind.i64.wrap (v1+(1:Int)))) (v9:Int) (h9:v9=((v8+(Nr.run ((x0).drop (v8).toNat):Int)))),ck (decide ((x0).length≤1099511627776)&&decide (0≤x1∧x1≤1099511627776)) (ck (!(!(decide (v1=x1))) || (((!(decide (v1=x1)))&&(!(decide (v1=x1))))&&(idxOK x1 (x0).length))) (ck (!(!(decide (v1=x1))) || (!(decide (v1=x1)))) (ck (!(!(decide (v1=x1))) || (!(decide (v1=x1)))) (ck (!v3 || v3) (ck (!v3 || (v3&&v3)) (ck (!(!(decide (v1=x1))) || ((!(decide (v1=x1)))&&(!(decide (v2=(48:UInt8))) || v3))) (ck ((decide (v1=x1)) || (!(decide (v1=x1)))) (cond v6
  (some [(.i .i64 0)])
  (ck (decide ((x0).length≤1099511627776)&&decide (0≤v1)) (cond v7
  (ck (decide ((x0).length≤1099511627776)&&decide (0≤v8∧v8≤1099511627776)) (cond (decide (v9=v8))
  (some [(.i .i64 0)])
  (wh_Lexeme.j2 x0 v9 (2:Int))))
  (wh_Lexeme.j2 x0 v1 x2)))))))))))=ρ):wh_Lexeme.j1 x0 x1 x2=ρ:=((congrFun (congrFun (ev_eq _ _) _) _).trans (by kernel_rfl)).trans (K _ rfl _ rfl _ rfl _ rfl _ rfl _ rfl _ rfl _ rfl _ rfl)
theorem wh_Lexeme.j2_in (x0:Str) (x1:Int) (x2:Int) {ρ:OT} (K:∀(v1:Bool) (h1:v1=((decide (x1<(x0).length)&&(decide ((x0).getD (x1).toNat 0=((101:UInt8))) || decide ((x0).getD (x1).toNat 0=((69:UInt8))))))) (v2:Int) (h2:v2=(IntKind.i64.wrap (x1+(1:Int)))) (v3:Bool) (h3:v3=((decide (v2<(x0).length)&&(decide ((x0).getD (v2).toNat 0=((43:UInt8))) || decide ((x0).getD (v2).toNat 0=((45:UInt8))))))) (v4:Int) (h4:v4=(IntKind.i64.wrap (v2+(1:Int)))),ck (decide ((x0).length≤1099511627776)&&decide (0≤x1)) (cond v1
  (ck (decide ((x0).length≤1099511627776)&&decide (0≤v2)) (cond v3
  (wh_Lexeme.j3 x0 v4 (2:Int))
  (wh_Lexeme.j3 x0 v2 (2:Int))))
  (wh_Lexeme.j4 x0 x1 x2))=ρ):wh_Lexeme.j2 x0 x1 x2=ρ:=((congrFun (congrFun (ev_eq _ _) _) _).trans (by kernel_rfl)).trans (K _ rfl _ rfl _ rfl _ rfl)
theorem wh_Lexeme.j3_in (x0:Str) (x1:Int) (x2:Int) {ρ:OT} (K:∀(v1:Int) (h1:v1=((x1+(Nr.run ((x0).drop (x1).toNat):Int)))),ck (decide ((x0).length≤1099511627776)&&decide (0≤x1∧x1≤1099511627776)) (cond (decide (v1=x1))
  (some [(.i .i64 0)])
  (wh_Lexeme.j4 x0 v1 x2))=ρ):wh_Lexeme.j3 x0 x1 x2=ρ:=((congrFun (congrFun (ev_eq _ _) _) _).trans (by kernel_rfl)).trans (K _ rfl)
theorem wh_Lexeme.j4_eq (x0:Str) (x1:Int) (x2:Int):wh_Lexeme.j4 x0 x1 x2=cond (!decide (x1=((x0).length:Int)))
  (some [(.i .i64 0)])
  (some [(.i .i64 x2)]):=((congrFun (congrFun (ev_eq _ _) _) _).trans (by kernel_rfl))
theorem wh_Lexeme.F_in (s:Str) {ρ:OT} (K:∀(v1:Bool) (h1:v1=((decide (((0:Int))<(s).length)&&(decide ((s).getD (((0:Int))).toNat 0=((45:UInt8))) || decide ((s).getD (((0:Int))).toNat 0=((45:UInt8))))))) (v2:Int) (h2:v2=(IntKind.i64.wrap ((0:Int)+(1:Int)))),ck (decide ((s).length≤1099511627776)&&decide (0≤((0:Int)))) (cond v1
  (wh_Lexeme.j1 s v2 (1:Int))
  (wh_Lexeme.j1 s (0:Int) (1:Int)))=ρ):wh_Lexeme.F s=ρ:=Eq.trans (by kernel_rfl) (K _ rfl _ rfl)
theorem wh_Lexeme.chk:CK 26 wh_Lexeme.env wh_Lexeme.d:=ckOf (by kernel_rfl)
def r5_Digits.env:EV:=[]
def r5_Digits.E:TEnv:=envL nrGl r5_Digits.env
def r5_Digits.m1:TM := .seq (oS [oV 0 4,oI .gtr 4 (.u64 9) 5] (.cond (.s 5) [] .skip (.exit 0))) none (.block 1 [] (oS [oV 0 6,oI .rem 6 (.u64 10) 7,oX (.k (.bin .add)) [.c (.u64 48),.s 7] [8],oK (.k (.ci .u8)) [8] [9],oK (.bl .bs 1) [9] [10],oK (.k .bs) [10] [11],oV 3 12,oB .add 11 12 13,oV 13 3] (.reg [oV 0 14,oI .quo 14 (.u64 10) 15,oV 15 0])))
def r5_Digits.m:TM:=oS [oW (.s []) 2] (oS [oW (.s []) 3] (.seq (.block 0 [] (.loop [0,3] [] r5_Digits.m1)) none (oS [oV 0 16,oX (.k (.bin .add)) [.c (.u64 48),.s 16] [17],oK (.k (.ci .u8)) [17] [18],oK (.bl .bs 1) [18] [19],oK (.k .bs) [19] [20],oV 3 21,oB .add 20 21 22,oV 22 2] .ret)))
def r5_Digits.d:TFD:=D0 1 r5_Digits.m [.t 2]
def r5_Digits.F (v:UInt64):OT:=r5_Digits.d.run r5_Digits.E [(.u64 v)]
def r5_Digits.k1:Cont (List TV):=seqK (ev _ r5_Digits.E (oS [oV 0 16,oX (.k (.bin .add)) [.c (.u64 48),.s 16] [17],oK (.k (.ci .u8)) [17] [18],oK (.bl .bs 1) [18] [19],oK (.k .bs) [19] [20],oV 3 21,oB .add 20 21 22,oV 22 2] .ret)) none (endK r5_Digits.d)
def r5_Digits.l1 (x0:UInt64) (x1:Str):OT:=loopL (evO _ r5_Digits.E r5_Digits.m1) isN [0,3] (headT [0,3] [(.u64 x0),(.s x1)]) (blockK 0 r5_Digits.k1)
theorem r5_Digits.l1_in (x0:UInt64) (x1:Str) {ρ:OT} (K:∀(v1:UInt64) (h1:v1=((48:UInt64)+(x0 % (10:UInt64)))) (v2:UInt8) (h2:v2=(UInt8.ofInt ((v1).toNat:Int))) (v3:UInt8) (h3:v3=(UInt8.ofInt ((((48:UInt64)+x0)).toNat:Int))),cond (decide ((9:UInt64)<x0))
  (ck (!decide ((10:UInt64)=0)) (ck (decide ((([v2]:List UInt8)).length+(x1).length≤9223372036854775807)) (ck (!decide ((10:UInt64)=0)) (r5_Digits.l1 (x0 / (10:UInt64)) (([v2]:List UInt8)++x1)))))
  (ck (decide ((([v3]:List UInt8)).length+(x1).length≤9223372036854775807)) (some [(.s (([v3]:List UInt8)++x1))]))=ρ):r5_Digits.l1 x0 x1=ρ:=((ev_loop _ _ _ _ _ _).trans (by kernel_rfl)).trans (K _ rfl _ rfl _ rfl)
theorem r5_Digits.F_eq (v:UInt64):r5_Digits.F v=r5_Digits.l1 v ([]:Str):=by kernel_rfl
theorem r5_Digits.chk:CK 33 r5_Digits.env r5_Digits.d:=ckOf (by kernel_rfl)
def r5_Int.env:EV:=[(33,(r5_Digits.c,r5_Digits.sg))]
def r5_Int.E:TEnv:=envL nrGl r5_Int.env
def r5_Int.m:TM:=oS [oW (.s []) 2] (.seq (oS [oV 0 3,oI .lss 3 (.i .i64 0) 4] (.cond (.s 4) [] (oS [oV 0 5,oI .add 5 (.i .i64 1) 6,oK (.k (.un .neg)) [6] [7],oK (.k (.ci .u64)) [7] [8],oI .add 8 (.u64 1) 9,oC 33 1 1 [9] 10,oX (.k (.bin .add)) [.c (.s ([45]:Str)),.s 10] [11],oV 11 2] .ret) .skip)) none (oS [oV 0 12,oK (.k (.ci .u64)) [12] [13],oC 33 1 1 [13] 14,oV 14 2] .ret))
def r5_Int.d:TFD:=D0 1 r5_Int.m [.t 2]
def r5_Int.F (v:Int):OT:=r5_Int.d.run r5_Int.E [(.i .i64 v)]
theorem r5_Int.F_in (v:Int) {ρ:OT} (K:∀(v1:Int) (h1:v1=(IntKind.i64.wrap (v+(1:Int)))) (v2:UInt64) (h2:v2=(UInt64.ofInt (IntKind.i64.wrap (0 - v1)))) (v3:Str) (h3:v3=(Nr.dec (((v2+(1:UInt64)))).toNat)) (v4:Str) (h4:v4=(Nr.dec (((UInt64.ofInt v))).toNat)),cond (decide (v<(0:Int)))
  (ck (decide ((([45]:Str)).length+(v3).length≤9223372036854775807)) (some [(.s (([45]:Str)++v3))]))
  (some [(.s v4)])=ρ):r5_Int.F v=ρ:=Eq.trans (by kernel_rfl) (K _ rfl _ rfl _ rfl _ rfl)
theorem r5_Int.chk:CK 14 r5_Int.env r5_Int.d:=ckOf (by kernel_rfl)
end
end Go.Eng
namespace Go.Eng
open Go.Proofs
noncomputable section
def r9_Join.env:EV:=[]
def r9_Join.E:TEnv:=envL nrGl r9_Join.env
def r9_Join.m1:TM := .seq (oS [oV 1 19,oI .rem 19 (.u64 2) 20,oI .eql 20 (.u64 0) 21] (.cond (.s 21) [] .skip (.exit 0))) none (.block 1 [] (.reg [oV 1 22,oI .quo 22 (.u64 2) 23,oV 2 24,oI .add 24 (.i .i64 1) 25,oV 23 1,oV 25 2]))
def r9_Join.m2:TM := .seq (oS [oV 1 32,oI .lss 32 (.u64 4503599627370496) 33,oV 33 34,oG 34 true (oV 2 35),oG 34 true (oI .gtr 35 (.i .i64 (-1074)) 36),oP 34 36 false 37] (.cond (.s 37) [] .skip (.exit 2))) none (.block 3 [] (.reg [oV 1 38,oI .mul 38 (.u64 2) 39,oV 2 40,oI .sub 40 (.i .i64 1) 41,oV 39 1,oV 41 2]))
def r9_Join.m3:TM := .seq (oS [oV 1 10,oI .eql 10 (.u64 0) 11] (.cond (.s 11) [] (oS [oV 8 12,oV 12 6,oW (.b true) 7] .ret) .skip)) none (.seq (oS [oV 2 13,oI .lss 13 (.i .i64 (-1138)) 14,oV 14 15,oG 15 false (oV 2 16),oG 15 false (oI .gtr 16 (.i .i64 1023) 17),oX (.k .pick) [.s 15,.c (.b true),.s 17] [18]] (.cond (.s 18) [] (oS [oW (.u64 0) 6,oW (.b false) 7] .ret) .skip)) none (.seq (.block 0 [] (.loop [1,2,8] [] r9_Join.m1)) none (.seq (oS [oV 1 26,oI .geq 26 (.u64 9007199254740992) 27,oV 27 28,oG 28 false (oV 2 29),oG 28 false (oI .lss 29 (.i .i64 (-1074)) 30),oX (.k .pick) [.s 28,.c (.b true),.s 30] [31]] (.cond (.s 31) [] (oS [oW (.u64 0) 6,oW (.b false) 7] .ret) .skip)) none (.seq (.block 2 [] (.loop [1,2,8] [] r9_Join.m2)) none (.seq (oS [oV 2 42,oI .gtr 42 (.i .i64 971) 43] (.cond (.s 43) [] (oS [oW (.u64 0) 6,oW (.b false) 7] .ret) .skip)) none (.seq (oS [oV 1 44,oI .lss 44 (.u64 4503599627370496) 45] (.cond (.s 45) [] (oS [oV 8 46,oV 1 47,oB .add 46 47 48,oV 48 6,oW (.b true) 7] .ret) .skip)) none (oS [oV 8 49,oV 2 50,oI .add 50 (.i .i64 1075) 51,oK (.k (.ci .u64)) [51] [52],oI .shl 52 (.u64 52) 53,oB .add 49 53 54,oV 1 55,oB .add 54 55 56,oI .sub 56 (.u64 4503599627370496) 57,oV 57 6,oW (.b true) 7] .ret)))))))
def r9_Join.m:TM:=oS [oW (.u64 0) 6,oW (.b false) 7] (oS [oW (.u64 0) 8] (.seq (oS [oV 0 9] (.cond (.s 9) [] (.reg [oW (.u64 9223372036854775808) 8]) .skip)) (some [1,2,8]) r9_Join.m3))
def r9_Join.d:TFD:=D0 3 r9_Join.m [.t 6,.t 7]
def r9_Join.F (n:Bool) (m:UInt64) (e:Int):OT:=r9_Join.d.run r9_Join.E [(.b n),(.u64 m),(.i .i64 e)]
def r9_Join.k1:Cont (List TV):=seqK (ev _ r9_Join.E (.seq (oS [oV 1 26,oI .geq 26 (.u64 9007199254740992) 27,oV 27 28,oG 28 false (oV 2 29),oG 28 false (oI .lss 29 (.i .i64 (-1074)) 30),oX (.k .pick) [.s 28,.c (.b true),.s 30] [31]] (.cond (.s 31) [] (oS [oW (.u64 0) 6,oW (.b false) 7] .ret) .skip)) none (.seq (.block 2 [] (.loop [1,2,8] [] r9_Join.m2)) none (.seq (oS [oV 2 42,oI .gtr 42 (.i .i64 971) 43] (.cond (.s 43) [] (oS [oW (.u64 0) 6,oW (.b false) 7] .ret) .skip)) none (.seq (oS [oV 1 44,oI .lss 44 (.u64 4503599627370496) 45] (.cond (.s 45) [] (oS [oV 8 46,oV 1 47,oB .add 46 47 48,oV 48 6,oW (.b true) 7] .ret) .skip)) none (oS [oV 8 49,oV 2 50,oI .add 50 (.i .i64 1075) 51,oK (.k (.ci .u64)) [51] [52],oI .shl 52 (.u64 52) 53,oB .add 49 53 54,oV 1 55,oB .add 54 55 56,oI .sub 56 (.u64 4503599627370496) 57,oV 57 6,oW (.b true) 7] .ret)))))) none (endK r9_Join.d)
def r9_Join.k2:Cont (List TV):=seqK (ev _ r9_Join.E (.seq (oS [oV 2 42,oI .gtr 42 (.i .i64 971) 43] (.cond (.s 43) [] (oS [oW (.u64 0) 6,oW (.b false) 7] .ret) .skip)) none (.seq (oS [oV 1 44,oI .lss 44 (.u64 4503599627370496) 45] (.cond (.s 45) [] (oS [oV 8 46,oV 1 47,oB .add 46 47 48,oV 48 6,oW (.b true) 7] .ret) .skip)) none (oS [oV 8 49,oV 2 50,oI .add 50 (.i .i64 1075) 51,oK (.k (.ci .u64)) [51] [52],oI .shl 52 (.u64 52) 53,oB .add 49 53 54,oV 1 55,oB .add 54 55 56,oI .sub 56 (.u64 4503599627370496) 57,oV 57 6,oW (.b true) 7] .ret)))) none (endK r9_Join.d)
def r9_Join.j1 (x0:UInt64) (x1:Int) (x2:UInt64):OT:=evO _ r9_Join.E r9_Join.m3 (headT [1,2,8] [(.u64 x0),(.i .i64 x1),(.u64 x2)]) (endK r9_Join.d)
def r9_Join.l2 (x0:UInt64) (x1:Int) (x2:UInt64):OT:=loopL (evO _ r9_Join.E r9_Join.m1) isN [1,2,8] (headT [1,2,8] [(.u64 x0),(.i .i64 x1),(.u64 x2)]) (blockK 0 r9_Join.k1)
def r9_Join.l3 (x0:UInt64) (x1:Int) (x2:UInt64):OT:=loopL (evO _ r9_Join.E r9_Join.m2) isN [1,2,8] (headT [1,2,8] [(.u64 x0),(.i .i64 x1),(.u64 x2)]) (blockK 2 r9_Join.k2)
theorem r9_Join.j1_in (x0:UInt64) (x1:Int) (x2:UInt64) {ρ:OT} (K:∀(v1:Bool) (h1:v1=(cond (decide (x1<(-1138:Int))) true (decide ((1023:Int)<x1)))),cond (decide (x0=(0:UInt64)))
  (some [(.u64 x2),(.b true)])
  (ck (!(!(decide (x1<(-1138:Int)))) || (!(decide (x1<(-1138:Int))))) (ck ((decide (x1<(-1138:Int))) || (!(decide (x1<(-1138:Int))))) (cond v1
  (some [(.u64 0),(.b false)])
  (r9_Join.l2 x0 x1 x2))))=ρ):r9_Join.j1 x0 x1 x2=ρ:=((congrFun (congrFun (ev_eq _ _) _) _).trans (by kernel_rfl)).trans (K _ rfl)
theorem r9_Join.l2_in (x0:UInt64) (x1:Int) (x2:UInt64) {ρ:OT} (K:∀(v1:Int) (h1:v1=(IntKind.i64.wrap (x1+(1:Int)))) (v2:Bool) (h2:v2=(cond (decide ((9007199254740992:UInt64)≤x0)) true (decide (x1<(-1074:Int))))),ck (!decide ((2:UInt64)=0)) (cond (decide ((x0 % (2:UInt64))=(0:UInt64)))
  (ck (!decide ((2:UInt64)=0)) (r9_Join.l2 (x0 / (2:UInt64)) v1 x2))
  (ck (!(!(decide ((9007199254740992:UInt64)≤x0))) || (!(decide ((9007199254740992:UInt64)≤x0)))) (ck ((decide ((9007199254740992:UInt64)≤x0)) || (!(decide ((9007199254740992:UInt64)≤x0)))) (cond v2
  (some [(.u64 0),(.b false)])
  (r9_Join.l3 x0 x1 x2)))))=ρ):r9_Join.l2 x0 x1 x2=ρ:=((ev_loop _ _ _ _ _ _).trans (by kernel_rfl)).trans (K _ rfl _ rfl)
theorem r9_Join.l3_in (x0:UInt64) (x1:Int) (x2:UInt64) {ρ:OT} (K:∀(v1:Bool) (h1:v1=(cond (decide (x0<(4503599627370496:UInt64))) (decide ((-1074:Int)<x1)) false)) (v2:Int) (h2:v2=(IntKind.i64.wrap (x1 - (1:Int)))) (v3:Int) (h3:v3=(IntKind.i64.wrap (x1+(1075:Int)))) (v4:UInt64) (h4:v4=(shl64 (UInt64.ofInt v3) (((52:UInt64)).toNat))) (v5:UInt64) (h5:v5=(((x2+v4)+x0) - (4503599627370496:UInt64))),ck (!(decide (x0<(4503599627370496:UInt64))) || (decide (x0<(4503599627370496:UInt64)))) (ck (!(decide (x0<(4503599627370496:UInt64))) || (decide (x0<(4503599627370496:UInt64)))) (cond v1
  (r9_Join.l3 (x0 * (2:UInt64)) v2 x2)
  (cond (decide ((971:Int)<x1))
  (some [(.u64 0),(.b false)])
  (cond (decide (x0<(4503599627370496:UInt64)))
  (some [(.u64 (x2+x0)),(.b true)])
  (some [(.u64 v5),(.b true)])))))=ρ):r9_Join.l3 x0 x1 x2=ρ:=((ev_loop _ _ _ _ _ _).trans (by kernel_rfl)).trans (K _ rfl _ rfl _ rfl _ rfl _ rfl)
theorem r9_Join.F_eq (n:Bool) (m:UInt64) (e:Int):r9_Join.F n m e=cond n
  (r9_Join.j1 m e (9223372036854775808:UInt64))
  (r9_Join.j1 m e (0:UInt64)):=by kernel_rfl
theorem r9_Join.chk:CK 32 r9_Join.env r9_Join.d:=ckOf (by kernel_rfl)
def r9_OfInt.env:EV:=[(32,(r9_Join.c,r9_Join.sg))]
def r9_OfInt.E:TEnv:=envL nrGl r9_OfInt.env
def r9_OfInt.m:TM:=oS [oW (.u64 0) 2,oW (.b false) 3] (.seq (oS [oV 0 4,oI .lss 4 (.i .i64 0) 5] (.cond (.s 5) [] (oS [oV 0 6,oI .add 6 (.i .i64 1) 7,oK (.k (.un .neg)) [7] [8],oK (.k (.ci .u64)) [8] [9],oI .add 9 (.u64 1) 10,oX (.k (.call 32 (.plain 3 2))) [.c (.b true),.s 10,.c (.i .i64 0)] [11],oE 0 11 12,oE 1 11 13,oV 12 2,oV 13 3] .ret) .skip)) none (oS [oV 0 14,oK (.k (.ci .u64)) [14] [15],oX (.k (.call 32 (.plain 3 2))) [.c (.b false),.s 15,.c (.i .i64 0)] [16],oE 0 16 17,oE 1 16 18,oV 17 2,oV 18 3] .ret))
def r9_OfInt.d:TFD:=D0 1 r9_OfInt.m [.t 2,.t 3]
def r9_OfInt.F (v:Int):OT:=r9_OfInt.d.run r9_OfInt.E [(.i .i64 v)]
theorem r9_OfInt.F_in (v:Int) {ρ:OT} (K:∀(v1:Int) (h1:v1=(IntKind.i64.wrap (v+(1:Int)))) (v2:UInt64) (h2:v2=(UInt64.ofInt (IntKind.i64.wrap (0 - v1)))) (v3:UInt64) (h3:v3=(Nr.pat (Nr.join true (((v2+(1:UInt64)))).toNat ((0:Int))))) (v4:Bool) (h4:v4=((Nr.join true (((v2+(1:UInt64)))).toNat ((0:Int))).isSome)) (v5:UInt64) (h5:v5=(Nr.pat (Nr.join false (((UInt64.ofInt v))).toNat ((0:Int))))) (v6:Bool) (h6:v6=((Nr.join false (((UInt64.ofInt v))).toNat ((0:Int))).isSome)),cond (decide (v<(0:Int)))
  (some [(.u64 v3),(.b v4)])
  (some [(.u64 v5),(.b v6)])=ρ):r9_OfInt.F v=ρ:=Eq.trans (by kernel_rfl) (K _ rfl _ rfl _ rfl _ rfl _ rfl _ rfl)
theorem r9_OfInt.chk:CK 13 r9_OfInt.env r9_OfInt.d:=ckOf (by kernel_rfl)
end
end Go.Eng
namespace Go.Eng
open Go.IntWalk
namespace Nr
theorem run_nil:run []=0:=rfl
theorem run_cons (c:UInt8) (r:Str):run (c :: r)=if isDig c then run r+1 else 0:=by
 unfold run
 rw [List.takeWhile_cons]
 split <;> rfl
theorem run_le (s:Str):run s≤s.length:=(List.takeWhile_sublist _).length_le
theorem isDig_cond (c:UInt8):isDig c=cond (decide ((48:UInt8)≤c)) (decide (c≤(57:UInt8))) false:=by
 unfold isDig
 rw [Bool.decide_and]
 cases decide ((48:UInt8)≤c) <;> rfl
end Nr
theorem wh_is.goal (s:Str) (at_:Int) (c d:UInt8) (hp:(decide (s.length≤1099511627776)&&decide (0≤at_))=true):wh_is.F s at_ c d=some [.b (decide (at_<s.length)&&(decide (s.getD at_.toNat 0=c) || decide (s.getD at_.toNat 0=d)))]:=by
 simp only [Bool.and_eq_true,decide_eq_true_eq] at hp
 refine wh_is.F_in _ _ _ _ ?_
 intro v1 h1 v2 h2 v3 h3 v4 h4
 by_cases c0:at_<s.length
 ·have ht:decide (at_<(s.length:Int))=true:=decide_eq_true c0
  have hi:idxOK at_ s.length=true:=idx_ok hp.2 c0
  rw [ht] at h2 h4
  have e4:v4=(true&&(decide (s.getD at_.toNat 0=c) || decide (s.getD at_.toNat 0=d))):=by
   rw [h4,h3,cond_true,←h1];cases decide (v1=c) <;> rfl
  rw [ht,hi,h2,e4,←h1]
  cases decide (v1=c) <;> rfl
 ·have ht:decide (at_<(s.length:Int))=false:=decide_eq_false c0
  rw [ht] at h2 h4
  have e2:v2=false:=h2
  have e4:v4=false:=h4
  rw [ht,e2,e4];rfl
theorem wh_digits.l1_ok (s:Str) (hs:s.length≤1099511627776):∀(m i:Nat),s.length≤i+m→i≤1099511627776→wh_digits.l1 s i=some [.i .i64 (i+(Nr.run (s.drop i):Int))]:=by
 intro m
 induction m with
 | zero =>
  intro i hi _
  refine wh_digits.l1_in _ _ ?_
  intro v1 h1 v2 h2 v3 h3 v4 h4
  have ht:decide ((i:Int)<(s.length:Int))=false:=decide_eq_false (by omega)
  rw [ht] at h2
  have e2:v2=false:=h2
  have e3:v3=false:=by rw [h3,e2];rfl
  rw [ht,e2,e3,List.drop_of_length_le (by omega),Nr.run_nil]
  simp [ck]
 | succ m ih =>
  intro i hi hb
  refine wh_digits.l1_in _ _ ?_
  intro v1 h1 v2 h2 v3 h3 v4 h4
  by_cases c:i<s.length
  ·have ht:decide ((i:Int)<(s.length:Int))=true:=decide_eq_true (by omega)
   have hx:idxOK (i:Int) s.length=true:=idx_ok (by omega) (by omega)
   rw [ht,cond_true] at h2
   rw [Int.toNat_natCast] at h1
   have e3:v3=Nr.isDig v1:=by rw [h3,h2,Nr.isDig_cond]
   have e4:v4=((i+1:Nat):Int):=by rw [h4,i64_in _ (by omega)];omega
   have hc:∀b:Bool,(!b || (b&&true))=true:=by decide
   rw [ht,hx,drop_cons c 0,Nr.run_cons,←h1,e3]
   simp only [Bool.not_or_self,Bool.or_not_self,Bool.and_self,Bool.not_true,Bool.false_or,hc,ck_true]
   cases hd:Nr.isDig v1
   ·rw [cond_false,if_neg (by decide)];simp [ck]
   ·rw [cond_true,if_pos rfl,e4,ih (i+1) (by omega) (by omega)]
    rw [show ((i+1:Nat):Int)+(Nr.run (s.drop (i+1)):Int)=(i:Int)+((Nr.run (s.drop (i+1))+1:Nat):Int) by omega]
  ·have ht:decide ((i:Int)<(s.length:Int))=false:=decide_eq_false (by omega)
   rw [ht] at h2
   have e2:v2=false:=h2
   have e3:v3=false:=by rw [h3,e2];rfl
   rw [ht,e2,e3,List.drop_of_length_le (by omega),Nr.run_nil]
   simp [ck]
theorem wh_digits.goal (s:Str) (at_:Int) (hp:(decide (s.length≤1099511627776)&&decide (0≤at_∧at_≤1099511627776))=true):wh_digits.F s at_=some [.i .i64 (at_+(Nr.run (s.drop at_.toNat):Int))]:=by
 simp only [Bool.and_eq_true,decide_eq_true_eq] at hp
 obtain ⟨i,rfl⟩:=Int.eq_ofNat_of_zero_le hp.2.1
 rw [wh_digits.F_eq]
 exact wh_digits.l1_ok s hp.1 s.length i (by omega) (by omega)
theorem wh_Lexeme.j4_ok (s:Str) (i:Nat) (k:Int) (hi:i≤s.length):wh_Lexeme.j4 s i k=some [.i .i64 (if s.drop i=[] then k else 0)]:=by
 rw [wh_Lexeme.j4_eq]
 by_cases c:i=s.length
 ·rw [decide_eq_true (by omega),if_pos (by rw [List.drop_of_length_le (by omega)])];rfl
 ·rw [decide_eq_false (by omega),if_neg (by intro e;have:=congrArg List.length e;simp at this;omega)];rfl
theorem drop_nil_iff (t:Str) (n:Nat):t.drop n=[] ↔ t.length≤n:=by
 rw [←List.length_eq_zero_iff,List.length_drop];omega
theorem wh_Lexeme.j3_ok (s:Str) (hs:s.length≤1099511627776) (i:Nat) (hi:i≤s.length):wh_Lexeme.j3 s i 2=some [.i .i64 (if Nr.run (s.drop i)=0∨Nr.run (s.drop i)<(s.drop i).length then 0 else 2)]:=by
 refine wh_Lexeme.j3_in _ _ _ ?_
 intro v1 h1
 rw [Int.toNat_natCast] at h1
 have hr:=Nr.run_le (s.drop i)
 rw [decide_eq_true hs,decide_eq_true (show (0:Int)≤i∧(i:Int)≤1099511627776 by omega)]
 refine (ck_of rfl).trans ?_
 by_cases c:Nr.run (s.drop i)=0
 ·rw [decide_eq_true (by omega),cond_true,if_pos (.inl c)]
 ·rw [List.length_drop] at hr
  have e1:v1=((i+Nr.run (s.drop i):Nat):Int):=by omega
  rw [decide_eq_false (by omega),cond_false,e1,wh_Lexeme.j4_ok s _ _ (by omega),←List.drop_drop]
  by_cases c2:Nr.run (s.drop i)<(s.drop i).length
  ·rw [if_neg (by rw [drop_nil_iff];omega),if_pos (.inr c2)]
  ·rw [if_pos (by rw [drop_nil_iff];omega),if_neg (by omega)]
theorem Nr.lexExp_cons (c:UInt8) (r:Str) (k:Int):Nr.lexExp (c :: r) k=if c=101∨c=69 then (if Nr.run (Nr.signed r)=0∨Nr.run (Nr.signed r)<(Nr.signed r).length then 0 else 2) else 0:=by
 cases r <;> rfl
theorem Nr.signed_cons (c:UInt8) (r:Str):Nr.signed (c :: r)=if c=43∨c=45 then r else c :: r:=rfl
theorem dor (a b:Prop) [Decidable a] [Decidable b]:(decide a || decide b)=decide (a∨b):=(Bool.decide_or a b).symm
theorem wh_Lexeme.j2_ok (s:Str) (hs:s.length≤1099511627776) (i:Nat) (hi:i≤s.length) (k:Int):wh_Lexeme.j2 s i k=some [.i .i64 (Nr.lexExp (s.drop i) k)]:=by
 refine wh_Lexeme.j2_in _ _ _ ?_
 intro v1 h1 v2 h2 v3 h3 v4 h4
 have e2:v2=((i+1:Nat):Int):=by rw [h2,i64_in _ (by omega)];omega
 have e4:v4=((i+1+1:Nat):Int):=by rw [h4,e2,i64_in _ (by omega)];omega
 rw [decide_eq_true hs,decide_eq_true (show (0:Int)≤i by omega)]
 refine (ck_of rfl).trans ?_
 rw [dor,Int.toNat_natCast] at h1
 by_cases c:i<s.length
 ·rw [decide_eq_true (show (i:Int)<s.length by omega),Bool.true_and] at h1
  rw [drop_cons c 0,Nr.lexExp_cons]
  by_cases c1:s.getD i 0=101∨s.getD i 0=69
  ·have e1:v1=true:=by rw [h1];exact decide_eq_true c1
   rw [e1,cond_true,if_pos c1,e2,decide_eq_true (show (0:Int)≤((i+1:Nat):Int) by omega)]
   refine (ck_of rfl).trans ?_
   rw [dor,e2,Int.toNat_natCast] at h3
   by_cases c2:i+1<s.length
   ·rw [decide_eq_true (show ((i+1:Nat):Int)<s.length by omega),Bool.true_and] at h3
    rw [drop_cons c2 0,Nr.signed_cons]
    by_cases c3:s.getD (i+1) 0=43∨s.getD (i+1) 0=45
    ·have e3:v3=true:=by rw [h3];exact decide_eq_true c3
     rw [e3,cond_true,e4,if_pos c3]
     exact wh_Lexeme.j3_ok s hs (i+1+1) (by omega)
    ·have e3:v3=false:=by rw [h3];exact decide_eq_false c3
     rw [e3,cond_false,if_neg c3,wh_Lexeme.j3_ok s hs (i+1) (by omega),drop_cons c2 0]
   ·rw [decide_eq_false (show ¬((i+1:Nat):Int)<s.length by omega),Bool.false_and] at h3
    rw [h3,cond_false,wh_Lexeme.j3_ok s hs (i+1) (by omega),List.drop_of_length_le (i:=i+1) (by omega)];rfl
  ·have e1:v1=false:=by rw [h1];exact decide_eq_false c1
   rw [e1,cond_false,if_neg c1,wh_Lexeme.j4_ok s i k hi,if_neg (by rw [drop_nil_iff];omega)]
 ·rw [decide_eq_false (show ¬(i:Int)<s.length by omega),Bool.false_and] at h1
  rw [h1,cond_false,wh_Lexeme.j4_ok s i k hi,List.drop_of_length_le (by omega),if_pos rfl];rfl
theorem Nr.lexFrac_dot (r:Str):Nr.lexFrac (46 :: r)=if Nr.run r=0 then 0 else Nr.lexExp (r.drop (Nr.run r)) 2:=rfl
theorem Nr.lexFrac_other {t:Str} (h:¬(0<t.length∧t.getD 0 0=46)):Nr.lexFrac t=Nr.lexExp t 1:=by
 unfold Nr.lexFrac
 split
 ·exact (h ⟨by simp,rfl⟩).elim
 ·rfl
theorem wh_Lexeme.j1_ok (s:Str) (hs:s.length≤1099511627776) (i:Nat) (hi:i≤s.length):wh_Lexeme.j1 s i 1=some [.i .i64 (if Nr.run (s.drop i)=0∨((s.drop i).getD 0 0=48∧1<Nr.run (s.drop i)) then 0 else Nr.lexFrac ((s.drop i).drop (Nr.run (s.drop i))))]:=by
 refine wh_Lexeme.j1_in _ _ _ ?_
 intro v1 h1 v2 h2 v3 h3 v4 h4 v5 h5 v6 h6 v7 h7 v8 h8 v9 h9
 rw [Int.toNat_natCast] at h1 h2
 have hr:=Nr.run_le (s.drop i)
 rw [List.length_drop] at hr
 have e1:v1=((i+Nr.run (s.drop i):Nat):Int):=by omega
 have e4:v4=((i+1:Nat):Int):=by rw [h4,i64_in _ (by omega)];omega
 rw [decide_eq_true hs,decide_eq_true (show (0:Int)≤i∧(i:Int)≤1099511627776 by omega)]
 refine (ck_of rfl).trans ?_
 by_cases c0:Nr.run (s.drop i)=0
 ·have hd:decide (v1=(i:Int))=true:=decide_eq_true (by omega)
  rw [hd] at h3 h6
  have e3:v3=false:=h3
  have e6:v6=true:=h6
  rw [hd,e3,e6,if_pos (.inl c0)];rfl
 ·have hd:decide (v1=(i:Int))=false:=decide_eq_false (by omega)
  have hx:idxOK (i:Int) s.length=true:=idx_ok (by omega) (by omega)
  rw [hd] at h3 h6
  rw [cond_false] at h6
  have g2:(s.drop i).getD 0 0=v2:=by rw [drop_cons (show i<s.length by omega) 0,h2];rfl
  have e5:v5=decide (v2=48∧1<Nr.run (s.drop i)):=by
   rw [h5,Bool.decide_and]
   have:decide (v4<v1)=decide (1<Nr.run (s.drop i)):=by
    rw [e4,e1]
    by_cases c:1<Nr.run (s.drop i)
    ·rw [decide_eq_true c,decide_eq_true (by omega)]
    ·rw [decide_eq_false c,decide_eq_false (by omega)]
   rw [this]
   cases decide (v2=48) <;> rfl
  rw [hd,hx,h6,g2,h3,ck_of (by rfl),ck_of (by rfl),ck_of (by rfl),ck_of (by cases decide (v2=48) <;> rfl),ck_of (by cases decide (v2=48) <;> rfl),ck_of (by cases decide (v2=48) <;> rfl),ck_of (by rfl)]
  by_cases c1:v2=48∧1<Nr.run (s.drop i)
  ·rw [e5,decide_eq_true c1,cond_true,if_pos (.inr c1)]
  ·rw [e5,decide_eq_false c1,cond_false,if_neg (by simp [c0,c1]),List.drop_drop,e1,decide_eq_true (show (0:Int)≤((i+Nr.run (s.drop i):Nat):Int) by omega)]
   refine (ck_of rfl).trans ?_
   generalize hj:i+Nr.run (s.drop i)=j at *
   have e8:v8=((j+1:Nat):Int):=by rw [h8,e1,i64_in _ (by omega)];omega
   rw [Bool.or_self,e1,Int.toNat_natCast] at h7
   rw [e8,Int.toNat_natCast] at h9
   by_cases c2:j<s.length∧s.getD j 0=46
   ·have e7:v7=true:=by rw [h7,decide_eq_true (show (j:Int)<s.length by omega),decide_eq_true c2.2];rfl
    rw [e7,cond_true,e8,decide_eq_true (show (0:Int)≤((j+1:Nat):Int)∧((j+1:Nat):Int)≤1099511627776 by omega)]
    refine (ck_of rfl).trans ?_
    rw [drop_cons c2.1 0,c2.2,Nr.lexFrac_dot]
    have hr2:=Nr.run_le (s.drop (j+1))
    rw [List.length_drop] at hr2
    by_cases c3:Nr.run (s.drop (j+1))=0
    ·rw [decide_eq_true (by omega),cond_true,if_pos c3]
    ·have e9:v9=((j+1+Nr.run (s.drop (j+1)):Nat):Int):=by omega
     rw [decide_eq_false (by omega),cond_false,if_neg c3,e9,wh_Lexeme.j2_ok s hs _ (by omega),List.drop_drop]
   ·have e7:v7=false:=by
     rw [h7,←Bool.decide_and];exact decide_eq_false (fun h=>c2 ⟨by omega,h.2⟩)
    rw [e7,cond_false,wh_Lexeme.j2_ok s hs _ (by omega),Nr.lexFrac_other (t:=s.drop j)]
    intro h
    rw [List.length_drop,List.getD_eq_getElem?_getD,List.getElem?_drop,←List.getD_eq_getElem?_getD] at h
    exact c2 ⟨by omega,h.2⟩
theorem Nr.lexeme_neg (r:Str):Nr.lexeme (45 :: r)=if Nr.run r=0∨(r.getD 0 0=48∧1<Nr.run r) then 0 else Nr.lexFrac (r.drop (Nr.run r)):=rfl
theorem Nr.lexeme_pos {t:Str} (h:¬(0<t.length∧t.getD 0 0=45)):Nr.lexeme t=if Nr.run t=0∨(t.getD 0 0=48∧1<Nr.run t) then 0 else Nr.lexFrac (t.drop (Nr.run t)):=by
 unfold Nr.lexeme
 split
 ·exact (h ⟨by simp,rfl⟩).elim
 ·rfl
theorem wh_Lexeme.goal (s:Str) (hp:decide (s.length≤1099511627776)=true):wh_Lexeme.F s=some [.i .i64 (Nr.lexeme s)]:=by
 have hs:=of_decide_eq_true hp
 refine wh_Lexeme.F_in _ ?_
 intro v1 h1 v2 h2
 rw [hp]
 refine (ck_of rfl).trans ?_
 have e2:v2=((1:Nat):Int):=by rw [h2,i64_in _ (by omega)];rfl
 rw [Bool.or_self] at h1
 have h1:v1=(decide ((0:Int)<s.length)&&decide (s.getD 0 0=45)):=h1
 by_cases c:0<s.length∧s.getD 0 0=45
 ·have e1:v1=true:=by rw [h1,decide_eq_true (show (0:Int)<s.length by omega),decide_eq_true c.2];rfl
  rw [e1,cond_true,e2,wh_Lexeme.j1_ok s hs 1 (by omega)]
  cases s with
  | nil=>simp at c
  | cons d r =>
   have:d=45:=c.2
   subst this
   rw [Nr.lexeme_neg];rfl
 ·have e1:v1=false:=by rw [h1,←Bool.decide_and];exact decide_eq_false (fun h=>c ⟨by omega,h.2⟩)
  rw [e1,cond_false,Nr.lexeme_pos c]
  exact wh_Lexeme.j1_ok s hs 0 (by omega)
end Go.Eng
namespace Go.Eng
open Go.IntWalk
theorem Nr.signed_len (t:Str):(Nr.signed t).length≤t.length:=by
 cases t with
 | nil=>exact Nat.le_refl _
 | cons c r =>
  rw [Nr.signed_cons]
  split
  ·simp
  ·exact Nat.le_refl _
theorem Nr.dec_small {n:Nat} (h:n<10):Nr.dec n=[UInt8.ofNat (48+n)]:=by rw [Nr.dec,if_pos h]
theorem Nr.dec_big {n:Nat} (h:¬n<10):Nr.dec n=Nr.dec (n / 10)++[UInt8.ofNat (48+n % 10)]:=by rw [Nr.dec,if_neg h]
theorem Nr.dec_len:∀(k n:Nat),n<10 ^ k→1≤k→(Nr.dec n).length≤k:=by
 intro k
 induction k with
 | zero=>intro n _ h;omega
 | succ k ih =>
  intro n h _
  by_cases c:n<10
  ·rw [Nr.dec_small c];simp
  ·rw [Nr.dec_big c,List.length_append,List.length_singleton]
   rw [Nat.pow_succ] at h
   have hk:1≤k:=by
    by_cases hk:k=0
    ·subst hk;simp at h;omega
    ·omega
   have:=ih (n / 10) (by omega) hk
   omega
theorem u8_of_u64 (x:UInt64) (h:x.toNat<256):UInt8.ofInt (x.toNat:Int)=UInt8.ofNat x.toNat:=UInt8.toNat_inj.1 (by rw [u8_nat];simp)
theorem r5_Digits.l1_ok:∀(k:Nat) (v:UInt64) (t:Str),v.toNat<10 ^ k→t.length+k≤1000→r5_Digits.l1 v t=some [.s (Nr.dec v.toNat++t)]:=by
 intro k
 induction k with
 | zero =>
  intro v t hv ht
  have hv0:v.toNat=0:=by simpa using hv
  refine r5_Digits.l1_in _ _ ?_
  intro v1 h1 v2 h2 v3 h3
  have e9:decide ((9:UInt64)<v)=false:=decide_eq_false (fun h=>by have:=UInt64.lt_iff_toNat_lt.1 h;rw [hv0] at this;simp at this)
  have e3:v3=UInt8.ofNat 48:=by
   rw [h3]
   have:((48:UInt64)+v).toNat=48:=by rw [UInt64.toNat_add,hv0];rfl
   rw [this];rfl
  rw [e9,cond_false,ck_of (decide_eq_true (by simp;omega)),e3,hv0,Nr.dec_small (by omega)]
 | succ k ih =>
  intro v t hv ht
  have hv2:=v.toNat_lt
  refine r5_Digits.l1_in _ _ ?_
  intro v1 h1 v2 h2 v3 h3
  by_cases c:v.toNat<10
  ·have e9:decide ((9:UInt64)<v)=false:=decide_eq_false (fun h=>by have:=UInt64.lt_iff_toNat_lt.1 h;simp at this;omega)
   have e3:v3=UInt8.ofNat (48+v.toNat):=by
    have:((48:UInt64)+v).toNat=48+v.toNat:=by rw [UInt64.toNat_add];show (48+v.toNat) % 18446744073709551616=_;omega
    rw [h3,u8_of_u64 _ (by omega),this]
   rw [e9,cond_false,ck_of (decide_eq_true (by simp;omega)),e3,Nr.dec_small c]
  ·have e9:decide ((9:UInt64)<v)=true:=decide_eq_true (UInt64.lt_iff_toNat_lt.2 (by show 9<v.toNat;omega))
   have em:(v % 10).toNat=v.toNat % 10:=UInt64.toNat_mod ..
   have ed:(v / 10).toNat=v.toNat / 10:=UInt64.toNat_div ..
   have e1:v1.toNat=48+v.toNat % 10:=by
    rw [h1,UInt64.toNat_add,em];show (48+v.toNat % 10) % 18446744073709551616=_;omega
   have e2:v2=UInt8.ofNat (48+v.toNat % 10):=by rw [h2,u8_of_u64 _ (by omega),e1]
   rw [e9,cond_true,ck_of (by rfl),ck_of (decide_eq_true (by simp;omega)),ck_of (by rfl),ih _ _ (by rw [ed];rw [Nat.pow_succ] at hv;omega) (by simp;omega),ed,Nr.dec_big c,e2,List.append_assoc]
theorem r5_Digits.goal (v:UInt64):r5_Digits.F v=some [.s (Nr.dec v.toNat)]:=by
 rw [r5_Digits.F_eq,r5_Digits.l1_ok 20 v [] (Nat.lt_trans v.toNat_lt (by decide)) (by simp),List.append_nil]
theorem r5_Int.goal (v:Int) (hp:Nr.i64 v=true):r5_Int.F v=some [.s (Nr.itoa v)]:=by
 rw [Nr.itoa_eq]
 replace hp:=Nr.i64_of hp
 obtain ⟨p1,p2⟩:=of_decide_eq_true hp
 refine r5_Int.F_in _ ?_
 intro v1 h1 v2 h2 v3 h3 v4 h4
 by_cases c:v<0
 ·have e1:v1=v+1:=by rw [h1,i64_in _ (by omega)]
  have e2:(v2+1).toNat=v.natAbs:=by
   have e:IntKind.i64.wrap (0 - v1)=((v.natAbs - 1:Nat):Int):=by rw [e1,i64_in _ (by omega)];omega
   rw [UInt64.toNat_add,h2,e,u64_nat]
   show ((v.natAbs - 1) % 18446744073709551616+1) % 18446744073709551616=_
   omega
  rw [e2] at h3
  have hl:=Nr.dec_len 20 v.natAbs (Nat.lt_of_lt_of_le (show v.natAbs<9223372036854775809 by omega) (by decide)) (by omega)
  rw [decide_eq_true c,cond_true,ck_of (decide_eq_true (by rw [h3];simp;omega)),if_pos c,h3];rfl
 ·have e4:(UInt64.ofInt v).toNat=v.natAbs:=by
   obtain ⟨n,rfl⟩:=Int.eq_ofNat_of_zero_le (show 0≤v by omega)
   rw [u64_nat];omega
  rw [decide_eq_false c,cond_false,if_neg c,h4,e4]
theorem indexByte_cons (c d:UInt8) (r:Str):Lib.indexByte (d :: r) c=if (d == c)=true then 0 else if (Lib.indexByte r c == -1)=true then -1 else Lib.indexByte r c+1:=by
 rw [Lib.indexByte]
theorem indexByte_spec:∀s:Str,(s.contains 46=false∧Lib.indexByte s 46=-1∧s.takeWhile (· != 46)=s∧s.dropWhile (· != 46)=[]) ∨
  (s.contains 46=true∧Lib.indexByte s 46=(s.takeWhile (· != 46)).length∧(s.takeWhile (· != 46)).length<s.length∧s.takeWhile (· != 46)=s.take (s.takeWhile (· != 46)).length∧s.dropWhile (· != 46)=s.drop (s.takeWhile (· != 46)).length)
 | [] => .inl ⟨rfl,rfl,rfl,rfl⟩
 | d :: r=>by
  by_cases c:d=46
  ·subst c
   exact .inr ⟨by simp,rfl,by simp,rfl,rfl⟩
  ·have hb:(d == 46)=false:=by simp [c]
   have hb2:(d != 46)=true:=by simp [c]
   rcases indexByte_spec r with ⟨h1,h2,h3,h4⟩ | ⟨h1,h2,h3,h4,h5⟩
   ·left
    refine ⟨by rw [List.contains_cons,h1];simp [Ne.symm c],?_,?_,?_⟩
    ·rw [indexByte_cons,h2,hb];rfl
    ·rw [List.takeWhile_cons,if_pos hb2,h3]
    ·rw [List.dropWhile_cons,if_pos hb2,h4]
   ·right
    rw [List.takeWhile_cons,if_pos hb2,List.dropWhile_cons,if_pos hb2]
    refine ⟨by rw [List.contains_cons,h1];simp,?_,by simpa using h3,?_,?_⟩
    ·rw [indexByte_cons,h2,hb,if_neg (by decide),if_neg (by simp)];simp
    ·rw [List.length_cons,List.take_succ_cons,←h4]
    ·rw [List.length_cons,List.drop_succ_cons,←h5]
theorem sl_Cut.goal (s c:Str) (hp:decide (s.length≤4294967280∧c=[46])=true):sl_Cut.F s c=some [.s (s.takeWhile (· != 46)),.s ((s.dropWhile (· != 46)).drop 1),.b (s.contains 46)]:=by
 obtain ⟨p1,rfl⟩:=of_decide_eq_true hp
 refine sl_Cut.F_in _ _ ?_
 intro v1 h1 v2 h2
 rw [ck_of hp]
 rcases indexByte_spec s with ⟨q1,q2,q3,q4⟩ | ⟨q1,q2,q3,q4,q5⟩
 ·rw [q2,decide_eq_false (by decide),cond_false,q1,q3,q4];rfl
 ·have e2:v2=(((s.takeWhile (· != 46)).length+1:Nat):Int):=by
   rw [h2,q2,i64_in _ (by simp only [List.length_singleton];omega)];rfl
  rw [q2,Int.toNat_natCast,←q4] at h1
  rw [q2,decide_eq_true (by omega),cond_true,ck_of (cut_ok (by omega) (by omega) (by omega)),e2,ck_of (cut_ok (by omega) (by omega) (by omega)),Int.toNat_natCast,q1,q5,List.drop_drop,h1]
theorem st_Cut.goal (s c:Str) (hp:decide (s.length≤4294967280∧c=[46])=true):st_Cut.F s c=some [.s (s.takeWhile (· != 46)),.s ((s.dropWhile (· != 46)).drop 1),.b (s.contains 46)]:=by
 refine st_Cut.F_in _ _ ?_
 intro v1 h1
 rw [ck_of hp,h1]
end Go.Eng
namespace Go.Eng
namespace Nt
theorem u16_ofNat (n:Nat):(UInt16.ofNat n).toNat=n % 65536:=by simp
theorem u16_lt (d:UInt16):d.toNat<65536:=d.toNat_lt
theorem of_zero:of 0=[]:=by rw [of];rfl
theorem of_pos {n:Nat} (h:0<n):of n=UInt16.ofNat n :: of (n / 65536):=by rw [of,if_neg (by omega)]
theorem val_of (n:Nat):val (of n)=n:=by
 induction n using Nat.strongRecOn with
 | _ n ih =>
  by_cases h:n=0
  ·subst h;rw [of_zero];rfl
  ·rw [of_pos (by omega),val,ih _ (Nat.div_lt_self (by omega) (by omega)),u16_ofNat]
   omega
theorem fix_length:∀(k n:Nat),(fix k n).length=k
 | 0,_=>rfl
 | k+1,n=>by rw [fix,List.length_cons,fix_length]
theorem val_fix:∀(k n:Nat),val (fix k n)=n % 65536 ^ k
 | 0,n=>by rw [fix,val,Nat.pow_zero,Nat.mod_one]
 | k+1,n=>by
  rw [fix,val,val_fix,u16_ofNat,Nat.pow_succ,Nat.mul_comm (65536 ^ k),Nat.mod_mul]
theorem val_append:∀(a b:List UInt16),val (a++b)=val a+65536 ^ a.length * val b
 | [],b=>by simp [val]
 | d :: r,b=>by rw [List.cons_append,val,val,val_append r b,List.length_cons,Nat.pow_succ,Nat.mul_add,←Nat.mul_assoc,Nat.mul_comm 65536 (65536 ^ r.length),Nat.add_assoc]
theorem val_lt:∀a:List UInt16,val a<65536 ^ a.length
 | []=>by simp [val]
 | d :: r=>by
  rw [val,List.length_cons,Nat.pow_succ]
  have h1:=val_lt r
  have h2:=u16_lt d
  omega
theorem val_inj:∀{a b:List UInt16},a.length=b.length→val a=val b→a=b
 | [],[],_,_=>rfl
 | [],_ :: _,h,_=>by simp at h
 | _ :: _,[],h,_=>by simp at h
 | d :: r,e :: s,h,hv=>by
  rw [val,val] at hv
  have h1:=u16_lt d
  have h2:=u16_lt e
  have h3:d=e:=UInt16.toNat_inj.1 (by omega)
  rw [h3,val_inj (by simpa using h) (show val r=val s by omega)]
theorem norm_snoc (a:List UInt16) (d:UInt16):norm (a++[d])=decide (d≠0):=by
 unfold norm;simp
theorem norm_cons {d:UInt16} {r:List UInt16} (h:r≠[]):norm (d :: r)=norm r:=by
 unfold norm
 cases r with
 | nil=>exact (h rfl).elim
 | cons e s=>rw [List.getLast?_cons_cons]
theorem norm_pos {a:List UInt16} (h:norm a=true) (h0:a≠[]):0<val a:=by
 induction a with
 | nil=>exact (h0 rfl).elim
 | cons d r ih =>
  rw [val]
  by_cases hr:r=[]
  ·subst hr
   have hd:d≠0:=by simpa [norm] using h
   have:d.toNat≠0:=fun e=>hd (UInt16.toNat_inj.1 e)
   omega
  ·rw [norm_cons hr] at h
   have:=ih h hr
   omega
theorem of_val {a:List UInt16} (h:norm a=true):of (val a)=a:=by
 induction a with
 | nil=>exact of_zero
 | cons d r ih =>
  have hp:=norm_pos h (by simp)
  rw [of_pos hp]
  have h1:=u16_lt d
  have e1:val (d :: r) / 65536=val r:=by rw [val];omega
  have e2:UInt16.ofNat (val (d :: r))=d:=UInt16.toNat_inj.1 (by rw [u16_ofNat,val];omega)
  rw [e1,e2]
  by_cases hr:r=[]
  ·subst hr;rw [val,of_zero]
  ·rw [norm_cons hr] at h;rw [ih h]
theorem norm_of (n:Nat):norm (of n)=true:=by
 induction n using Nat.strongRecOn with
 | _ n ih =>
  by_cases h:n=0
  ·subst h;rw [of_zero];rfl
  ·rw [of_pos (by omega)]
   by_cases h2:n / 65536=0
   ·rw [h2,of_zero]
    have:UInt16.ofNat n≠0:=fun e=>by
     have:=congrArg UInt16.toNat e
     rw [u16_ofNat] at this
     have e0:(0:UInt16).toNat=0:=rfl
     omega
    simp [norm,this]
   ·rw [norm_cons,ih _ (Nat.div_lt_self (by omega) (by omega))]
    rw [of_pos (by omega)];simp
theorem of_length (n k:Nat):(of n).length≤k ↔ n<65536 ^ k:=by
 constructor
 ·intro h
  have:=val_lt (of n)
  rw [val_of] at this
  exact Nat.lt_of_lt_of_le this (Nat.pow_le_pow_right (by omega) h)
 ·intro h
  induction k generalizing n with
  | zero=>simp at h;subst h;rw [of_zero];simp
  | succ k ih =>
   by_cases h0:n=0
   ·subst h0;rw [of_zero];simp
   ·rw [of_pos (by omega),List.length_cons]
    have:=ih (n / 65536) (by rw [Nat.pow_succ] at h;omega)
    omega
theorem pw4096:(65536:Nat) ^ 256=2 ^ 4096:=by decide +kernel
theorem is_of {n:Nat} (h:n<2 ^ 4096):is (of n)=true:=by
 unfold is
 rw [norm_of,Bool.and_true]
 exact decide_eq_true ((of_length n 256).2 (by rewrite [pw4096];exact h))
theorem is_len {a:List UInt16} (h:is a=true):a.length≤256:=by
 unfold is at h
 simp only [Bool.and_eq_true,decide_eq_true_eq] at h
 exact h.1
theorem is_norm {a:List UInt16} (h:is a=true):norm a=true:=by
 unfold is at h
 simp only [Bool.and_eq_true,decide_eq_true_eq] at h
 exact h.2
theorem val_snoc0 (a:List UInt16):val (a++[0])=val a:=by rw [val_append];simp [val]
theorem lt_of_len {a b:List UInt16} (hb:norm b=true) (h:a.length<b.length):val a<val b:=by
 have h1:=val_lt a
 have hb0:b≠[]:=by intro e;subst e;simp at h
 have h2:¬val b<65536 ^ a.length:=fun h2=>by
  have:=(of_length (val b) a.length).2 h2
  rw [of_val hb] at this
  omega
 omega
end Nt
end Go.Eng
namespace Go.Eng
open Go.IntWalk
theorem len_i64 {n:Nat} (h:n≤1099511627776):IntKind.i64.wrap ((n:Int) - 1)=(n:Int) - 1:=i64_in _ (by omega)
theorem getD_snoc {α:Type} (a:List α) (d e:α):(a++[d]).getD a.length e=d:=by simp [List.getD_eq_getElem?_getD]
theorem bg_trim.l1_ok:∀(n:Nat) (a:List UInt16),a.length=n→n≤1099511627776→bg_trim.l1 a=some [.sl .ws (Nt.of (Nt.val a))]:=by
 intro n
 induction n with
 | zero =>
  intro a ha hn
  have:a=[]:=List.eq_nil_of_length_eq_zero ha
  subst this
  refine bg_trim.l1_in _ ?_
  intro v1 h1 v2 h2 v3 h3
  have e3:v3=false:=by rw [h3];rfl
  rw [e3]
  rw [show Nt.val []=0 from rfl,Nt.of_zero]
  rfl
 | succ n ih =>
  intro a ha hn
  refine bg_trim.l1_in _ ?_
  intro v1 h1 v2 h2 v3 h3
  rw [ha,len_i64 (by omega)] at h1
  have e1:v1=(n:Int):=by omega
  subst e1
  rw [Int.toNat_natCast] at h2 ⊢
  rw [decide_eq_true (show (0:Int)<(a.length:Int) by omega),cond_true] at h3
  simp only [Bool.not_or_self,Bool.and_self,ck_true]
  rw [decide_eq_true (show (0:Int)<(a.length:Int) by omega),Bool.not_true,Bool.false_or,Bool.true_and,ck_of (idx_ok (by omega) (by omega))]
  obtain ⟨b,d,rfl⟩:∃b d,a=b++[d]:=⟨a.dropLast,a.getLast (by intro e;subst e;simp at ha),(List.dropLast_concat_getLast _).symm⟩
  have hb:b.length=n:=by simpa using ha
  have e2:v2=d:=by rw [h2,←hb,getD_snoc]
  subst e2
  by_cases hd:v2=0
  ·subst hd
   rw [h3,decide_eq_true rfl,cond_true,ck_of (cut_ok (by omega) (by omega) (by omega)),←hb,List.take_left',Nt.val_snoc0]
   ·exact ih b hb (by omega)
   ·rfl
  ·rw [h3,decide_eq_false hd,cond_false,Nt.of_val (by rw [Nt.norm_snoc];exact decide_eq_true hd)]
theorem bg_trim.goal (a:List UInt16) (hp:decide (a.length≤1099511627776)=true):bg_trim.F a=some [.sl .ws (Nt.of (Nt.val a))]:=by
 rw [bg_trim.F_eq];exact bg_trim.l1_ok _ a rfl (of_decide_eq_true hp)
theorem norm_getD {a:List UInt16} (h:a≠[]):Nt.norm a=!decide (a.getD (a.length - 1) 0=0):=by
 obtain ⟨b,d,rfl⟩:∃b d,a=b++[d]:=⟨a.dropLast,a.getLast h,(List.dropLast_concat_getLast _).symm⟩
 rw [Nt.norm_snoc,List.length_append,List.length_singleton,Nat.add_sub_cancel,getD_snoc]
 simp
theorem bg_Is.goal (a:List UInt16) (hp:decide (a.length≤1099511627776)=true):bg_Is.F a=some [.b (Nt.is a)]:=by
 have h:=of_decide_eq_true hp
 refine bg_Is.F_in _ ?_
 intro v1 h1 v2 h2 v3 h3 v4 h4 v5 h5
 simp only [Bool.not_or_self,Bool.and_self,ck_true]
 rw [len_i64 h] at h2
 by_cases c1:a.length≤256
 ·have d1:decide ((a.length:Int)≤256)=true:=decide_eq_true (by omega)
  rw [d1] at h1 h5 ⊢
  by_cases c2:a=[]
  ·subst c2
   have e1:v1=false:=by rw [h1];rfl
   have e5:v5=true:=by rw [h5,h4];rfl
   rw [e1,e5];rfl
  ·have hl:0<a.length:=List.length_pos_iff.2 c2
   have d2:decide ((a.length:Int)=0)=false:=decide_eq_false (by omega)
   rw [d2] at h1 h4 ⊢
   have e1:v1=true:=h1
   rw [e1,Bool.not_true,Bool.false_or,Bool.true_and,ck_of (idx_ok (by omega) (by omega))]
   have e2:v2.toNat=a.length - 1:=by omega
   have e5:v5=Nt.is a:=by
    rw [h5,cond_true,h4,cond_false,h3,e2,Nt.is,decide_eq_true c1,Bool.true_and,norm_getD c2]
   rw [e5];rfl
 ·have d1:decide ((a.length:Int)≤256)=false:=decide_eq_false (by omega)
  rw [d1] at h1 h5 ⊢
  have e1:v1=false:=h1
  have e5:v5=Nt.is a:=by rw [h5,cond_false,Nt.is,decide_eq_false c1,Bool.false_and]
  rw [e1,e5];rfl
theorem shr64_16 (x:UInt64):(shr64 x 16).toNat=x.toNat / 65536:=by
 rw [shr64,UInt64.toNat_ofNat']
 have:=x.toNat_lt
 omega
theorem u16_of_u64 (x:Nat):UInt16.ofInt (x:Int)=UInt16.ofNat x:=by
 apply UInt16.toNat_inj.1
 have h:=u16_ofInt (x:Int)
 rw [wrap_u16'] at h
 rw [Nt.u16_ofNat];omega
theorem bg_Of.l1_ok:∀(k:Nat) (v:UInt64) (acc:List UInt16),v.toNat<65536 ^ k→acc.length+k≤100→bg_Of.l1 v acc=some [.sl .ws (acc++Nt.of v.toNat)]:=by
 intro k
 induction k with
 | zero =>
  intro v acc hv ha
  refine bg_Of.l1_in _ _ ?_
  intro v1 h1 v2 h2
  have hn:v.toNat=0:=by simpa using hv
  have c:v=0:=UInt64.toNat_inj.1 hn
  rw [c,decide_eq_false (by decide),cond_false,show (0:UInt64).toNat=0 from rfl,Nt.of_zero,List.append_nil]
 | succ k ih =>
  intro v acc hv ha
  refine bg_Of.l1_in _ _ ?_
  intro v1 h1 v2 h2
  by_cases c:v=0
  ·rw [c,decide_eq_false (by decide),cond_false,show (0:UInt64).toNat=0 from rfl,Nt.of_zero,List.append_nil]
  ·have hpos:0<v.toNat:=Nat.pos_of_ne_zero fun e=>c (UInt64.toNat_inj.1 e)
   have hlt:(0:UInt64)<v:=by rw [UInt64.lt_iff_toNat_lt];exact hpos
   have e2:v2.toNat=v.toNat / 65536:=by rw [h2];exact shr64_16 v
   have e1:v1=UInt16.ofNat v.toNat:=by rw [h1,u16_of_u64]
   rw [Nat.pow_succ] at hv
   rw [decide_eq_true hlt,cond_true,ck_of (big_ap (by simp;omega) (by simp;omega)),ih v2 _ (by rw [e2];omega) (by simp;omega),e2,Nt.of_pos hpos,e1]
   simp
theorem bg_Of.goal (v:UInt64):bg_Of.F v=some [.sl .ws (Nt.of v.toNat)]:=by
 rw [bg_Of.F_eq,bg_Of.l1_ok 4 v [] (by have:=v.toNat_lt;simpa using this) (by simp),List.nil_append]
theorem Nt.bits_pos {n:Nat} (h:0<n):2 ^ (Nt.bits n - 1)≤n∧n<2 ^ Nt.bits n∧0<Nt.bits n:=by
 unfold Nt.bits
 rw [if_neg (by omega)]
 exact ⟨by rw [Nat.add_sub_cancel];exact Nat.log2_self_le (by omega),Nat.lt_log2_self,by omega⟩
theorem Nt.bits_lt {n k:Nat} (h:n<2 ^ k):Nt.bits n≤k:=by
 by_cases h0:n=0
 ·subst h0;simp [Nt.bits]
 ·obtain ⟨h1,_,_⟩:=Nt.bits_pos (n:=n) (by omega)
  have:2 ^ (Nt.bits n - 1)<2 ^ k:=by omega
  have:=(Nat.pow_lt_pow_iff_right (by omega:1<2)).1 this
  omega
theorem Nt.bits_eq {n k:Nat} (h1:2 ^ k≤n) (h2:n<2 ^ (k+1)):Nt.bits n=k+1:=by
 have h0:0<n:=Nat.lt_of_lt_of_le (Nat.two_pow_pos k) h1
 obtain ⟨_,h3,_⟩:=Nt.bits_pos h0
 have h4:=Nt.bits_lt h2
 have:2 ^ k<2 ^ Nt.bits n:=by omega
 have:=(Nat.pow_lt_pow_iff_right (by omega:1<2)).1 this
 omega
theorem Nt.bits_shift {n k:Nat} (h:2 ^ k≤n):Nt.bits n=Nt.bits (n / 2 ^ k)+k:=by
 have h0:0<n / 2 ^ k:=Nat.div_pos h (Nat.two_pow_pos k)
 obtain ⟨h1,h2,h3⟩:=Nt.bits_pos h0
 have e:Nt.bits (n / 2 ^ k)+k=(Nt.bits (n / 2 ^ k) - 1+k)+1:=by omega
 rw [e]
 refine Nt.bits_eq ?_ ?_
 ·rw [Nat.pow_add]
  exact (Nat.le_div_iff_mul_le (Nat.two_pow_pos k)).1 h1
 ·rw [show Nt.bits (n / 2 ^ k) - 1+k+1=Nt.bits (n / 2 ^ k)+k by omega,Nat.pow_add]
  exact (Nat.div_lt_iff_lt_mul (Nat.two_pow_pos k)).1 h2
def len8:Str:=[0,1,2,2,3,3,3,3,4,4,4,4,4,4,4,4,5,5,5,5,5,5,5,5,5,5,5,5,5,5,5,5]++List.replicate 32 6++List.replicate 64 7++List.replicate 128 8
theorem len8_ok:∀n,n<256→(len8.getD n 0).toNat=Nt.bits n:=by decide +kernel
end Go.Eng
namespace Go.Eng
open Go.IntWalk
theorem len8_list:([0,1,2,2,3,3,3,3,4,4,4,4,4,4,4,4,5,5,5,5,5,5,5,5,5,5,5,5,5,5,5,5,6,6,6,6,6,6,6,6,6,6,6,6,6,6,6,6,6,6,6,6,6,6,6,6,6,6,6,6,6,6,6,6,7,7,7,7,7,7,7,7,7,7,7,7,7,7,7,7,7,7,7,7,7,7,7,7,7,7,7,7,7,7,7,7,7,7,7,7,7,7,7,7,7,7,7,7,7,7,7,7,7,7,7,7,7,7,7,7,7,7,7,7,7,7,7,7,8,8,8,8,8,8,8,8,8,8,8,8,8,8,8,8,8,8,8,8,8,8,8,8,8,8,8,8,8,8,8,8,8,8,8,8,8,8,8,8,8,8,8,8,8,8,8,8,8,8,8,8,8,8,8,8,8,8,8,8,8,8,8,8,8,8,8,8,8,8,8,8,8,8,8,8,8,8,8,8,8,8,8,8,8,8,8,8,8,8,8,8,8,8,8,8,8,8,8,8,8,8,8,8,8,8,8,8,8,8,8,8,8,8,8,8,8,8,8,8,8,8,8,8,8,8,8,8]:Str)=len8:=by decide +kernel
theorem len8_len:len8.length=256:=by decide +kernel
theorem bits_Len16.j1_ok (x0:UInt16) (x1:Int) (h:x0.toNat<256) (h1:0≤x1) (h2:x1≤1000):bits_Len16.j1 x0 x1=some [.i .i64 (x1+Nt.bits x0.toNat)]:=by
 refine bits_Len16.j1_in _ _ ?_
 intro v1 h1 v2 h2 v3 h3
 rw [len8_list] at h2 ⊢
 have e1:v1.toNat=x0.toNat:=by rw [h1,u8_nat,Nat.mod_eq_of_lt h]
 have hb:=Nt.bits_lt (n:=x0.toNat) (k:=8) h
 rw [Int.toNat_natCast,e1] at h2
 have e2:=len8_ok _ h
 rw [←h2] at e2
 have e3:v3=(Nt.bits x0.toNat:Int):=by rw [h3,i64_in _ (by omega),e2]
 rw [ck_of (idx_ok (by omega) (by rw [len8_len];omega)),e3,i64_in _ (by omega)]
theorem bits_Len16.goal (x:UInt16):bits_Len16.F x=some [.i .i64 (Nt.bits x.toNat)]:=by
 refine bits_Len16.F_in _ ?_
 intro v1 h1
 have hx:=x.toNat_lt
 by_cases c:x.toNat<256
 ·rw [decide_eq_false (by rw [UInt16.le_iff_toNat_le];show ¬256≤x.toNat;omega),cond_false,bits_Len16.j1_ok _ _ c (by omega) (by omega),Int.zero_add]
 ·have e1:v1.toNat=x.toNat / 2 ^ 8:=by
   rw [h1,shr16,UInt16.toNat_ofNat',show (8:UInt64).toNat=8 from rfl];omega
  rw [decide_eq_true (by rw [UInt16.le_iff_toNat_le];show 256≤x.toNat;omega),cond_true,bits_Len16.j1_ok _ _ (by omega) (by omega) (by omega),e1,Nt.bits_shift (n:=x.toNat) (k:=8) (by omega)]
  exact congrArg (fun z:Int=>some [TV.i .i64 z]) (by omega)
theorem bits_Len64.j3_ok (x0:UInt64) (x1:Int) (h:x0.toNat<256) (h1:0≤x1) (h2:x1≤1000):bits_Len64.j3 x0 x1=some [.i .i64 (x1+Nt.bits x0.toNat)]:=by
 refine bits_Len64.j3_in _ _ ?_
 intro v1 h1 v2 h2 v3 h3
 rw [len8_list] at h2 ⊢
 have e1:v1.toNat=x0.toNat:=by rw [h1,u8_nat,Nat.mod_eq_of_lt h]
 have hb:=Nt.bits_lt (n:=x0.toNat) (k:=8) h
 rw [Int.toNat_natCast,e1] at h2
 have e2:=len8_ok _ h
 rw [←h2] at e2
 have e3:v3=(Nt.bits x0.toNat:Int):=by rw [h3,i64_in _ (by omega),e2]
 rw [ck_of (idx_ok (by omega) (by rw [len8_len];omega)),e3,i64_in _ (by omega)]
theorem shr64_toNat (x:UInt64) (k:Nat):(shr64 x k).toNat=x.toNat / 2 ^ k:=by
 rw [shr64,UInt64.toNat_ofNat']
 exact Nat.mod_eq_of_lt (Nat.lt_of_le_of_lt (Nat.div_le_self _ _) x.toNat_lt)
theorem bits_Len64.j2_ok (x0:UInt64) (x1:Int) (h:x0.toNat<65536) (h1:0≤x1) (h2:x1≤900):bits_Len64.j2 x0 x1=some [.i .i64 (x1+Nt.bits x0.toNat)]:=by
 refine bits_Len64.j2_in _ _ ?_
 intro v1 h1 v2 h2
 by_cases c:x0.toNat<256
 ·rw [decide_eq_false (by rw [UInt64.le_iff_toNat_le];show ¬256≤x0.toNat;omega),cond_false,bits_Len64.j3_ok _ _ c (by omega) (by omega)]
 ·have e1:v1.toNat=x0.toNat / 2 ^ 8:=by rw [h1];exact shr64_toNat _ _
  have e2:v2=x1+8:=by rw [h2,i64_in _ (by omega)]
  rw [decide_eq_true (by rw [UInt64.le_iff_toNat_le];show 256≤x0.toNat;omega),cond_true,bits_Len64.j3_ok _ _ (by omega) (by omega) (by omega),e1,e2,Nt.bits_shift (n:=x0.toNat) (k:=8) (by omega)]
  exact congrArg (fun z:Int=>some [TV.i .i64 z]) (by omega)
theorem bits_Len64.j1_ok (x0:UInt64) (x1:Int) (h:x0.toNat<4294967296) (h1:0≤x1) (h2:x1≤800):bits_Len64.j1 x0 x1=some [.i .i64 (x1+Nt.bits x0.toNat)]:=by
 refine bits_Len64.j1_in _ _ ?_
 intro v1 h1 v2 h2
 by_cases c:x0.toNat<65536
 ·rw [decide_eq_false (by rw [UInt64.le_iff_toNat_le];show ¬65536≤x0.toNat;omega),cond_false,bits_Len64.j2_ok _ _ c (by omega) (by omega)]
 ·have e1:v1.toNat=x0.toNat / 2 ^ 16:=by rw [h1];exact shr64_toNat _ _
  have e2:v2=x1+16:=by rw [h2,i64_in _ (by omega)]
  rw [decide_eq_true (by rw [UInt64.le_iff_toNat_le];show 65536≤x0.toNat;omega),cond_true,bits_Len64.j2_ok _ _ (by omega) (by omega) (by omega),e1,e2,Nt.bits_shift (n:=x0.toNat) (k:=16) (by omega)]
  exact congrArg (fun z:Int=>some [TV.i .i64 z]) (by omega)
theorem bits_Len64.goal (x:UInt64):bits_Len64.F x=some [.i .i64 (Nt.bits x.toNat)]:=by
 refine bits_Len64.F_in _ ?_
 intro v1 h1
 have hx:=x.toNat_lt
 by_cases c:x.toNat<4294967296
 ·rw [decide_eq_false (by rw [UInt64.le_iff_toNat_le];show ¬4294967296≤x.toNat;omega),cond_false,bits_Len64.j1_ok _ _ c (by omega) (by omega),Int.zero_add]
 ·have e1:v1.toNat=x.toNat / 2 ^ 32:=by rw [h1];exact shr64_toNat _ _
  rw [decide_eq_true (by rw [UInt64.le_iff_toNat_le];show 4294967296≤x.toNat;omega),cond_true,bits_Len64.j1_ok _ _ (by rw [e1];omega) (by omega) (by omega),e1,Nt.bits_shift (n:=x.toNat) (k:=32) (by omega)]
  exact congrArg (fun z:Int=>some [TV.i .i64 z]) (by omega)
theorem val_take_succ (a:List UInt16) (i:Nat) (h:i<a.length):Nt.val (a.take (i+1))=Nt.val (a.take i)+65536 ^ i * (a.getD i 0).toNat:=by
 rw [List.take_add_one,Nt.val_append,List.getElem?_eq_getElem h,List.length_take,Nat.min_eq_left (by omega),List.getD_eq_getElem?_getD,List.getElem?_eq_getElem h]
 simp [Nt.val]
theorem u64_of_u16 (d:UInt16):(UInt64.ofInt (d.toNat:Int)).toNat=d.toNat:=by
 rw [u64_nat,Nat.mod_eq_of_lt (by have:=d.toNat_lt;omega)]
theorem bg_Small.l1_ok (a:List UInt16) (h4:a.length≤4):∀(m i:Nat) (v:UInt64),i+m=a.length→v.toNat=Nt.val (a.take i)→bg_Small.l1 v a a.length i=some [.u64 (UInt64.ofNat (Nt.val a)),.b true]:=by
 intro m
 induction m with
 | zero =>
  intro i v hi hv
  refine bg_Small.l1_in _ _ _ _ ?_
  intro v1 h1 v2 h2 v3 h3 v4 h4 v5 h5
  rw [decide_eq_false (by omega),cond_false]
  rw [List.take_of_length_le (by omega)] at hv
  rw [←hv,UInt64.ofNat_toNat]
 | succ m ih =>
  intro i v hi hv
  refine bg_Small.l1_in _ _ _ _ ?_
  intro v1 h1 v2 h2 v3 h3 v4 h4 v5 h5
  rw [Int.toNat_natCast] at h1
  have e3:v3=((16 * i:Nat):Int):=by rw [h3,i64_in _ (by omega)];omega
  have e5:v5=((i+1:Nat):Int):=by rw [h5,i64_in _ (by omega)];omega
  rw [decide_eq_true (by omega),cond_true,ck_of (idx_ok (by omega) (by omega)),ck_of (decide_eq_true (by omega)),e5]
  refine ih (i+1) v4 (by omega) ?_
  rw [val_take_succ a i (by omega),←h1,h4,e3,Int.toNat_natCast,UInt64.toNat_or,shl64,UInt64.toNat_ofNat',h2,u64_of_u16,hv]
  have hlt:Nt.val (a.take i)<2 ^ (16 * i):=by
   have:=Nt.val_lt (a.take i)
   rw [List.length_take,Nat.min_eq_left (by omega),show (65536:Nat)=2 ^ 16 by decide,←Nat.pow_mul] at this
   exact this
  have hd:=v1.toNat_lt
  have hi4:i≤3:=by omega
  have hm:v1.toNat * 2 ^ (16 * i)<2 ^ 64:=by
   have:2 ^ (16 * i)≤2 ^ 48:=Nat.pow_le_pow_right (by omega) (by omega)
   have h1:v1.toNat * 2 ^ (16 * i)≤v1.toNat * 2 ^ 48:=Nat.mul_le_mul_left _ this
   omega
  rw [Nat.mod_eq_of_lt hm,Nat.or_comm,or_add hlt,show (65536:Nat)=2 ^ 16 by decide,←Nat.pow_mul,Nat.mul_comm (2 ^ (16 * i)),Nat.add_comm]
theorem bg_Small.goal (a:List UInt16) (hp:decide (Nt.is a=true∧a.length≤4)=true):bg_Small.F a=some [.u64 (UInt64.ofNat (Nt.val a)),.b true]:=by
 obtain ⟨h1,h2⟩:=of_decide_eq_true hp
 refine bg_Small.F_in _ ?_
 intro v1 hv
 have e1:v1=false:=by rw [hv,h1,Bool.not_true,cond_false];exact decide_eq_false (by omega)
 rw [ck_of (decide_eq_true (by omega)),h1,e1]
 exact bg_Small.l1_ok a h2 a.length 0 0 (by omega) rfl
theorem norm_last {a:List UInt16} (h:Nt.norm a=true) (h0:a≠[]):1≤(a.getD (a.length - 1) 0).toNat∧Nt.val a=Nt.val (a.take (a.length - 1))+65536 ^ (a.length - 1) * (a.getD (a.length - 1) 0).toNat:=by
 have hl:=List.length_pos_iff.2 h0
 rw [norm_getD h0] at h
 simp only [Bool.not_eq_true',decide_eq_false_iff_not] at h
 refine ⟨Nat.pos_of_ne_zero fun e=>h (UInt16.toNat_inj.1 e),?_⟩
 have:=val_take_succ a (a.length - 1) (by omega)
 rwa [show a.length - 1+1=a.length by omega,List.take_length] at this
theorem bits_top {a:List UInt16} (h:Nt.norm a=true) (h0:a≠[]):Nt.bits (Nt.val a)=16 * (a.length - 1)+Nt.bits (a.getD (a.length - 1) 0).toNat:=by
 obtain ⟨h1,h2⟩:=norm_last h h0
 generalize (a.getD (a.length - 1) 0).toNat=t at h1 h2 ⊢
 have hlt:=Nt.val_lt (a.take (a.length - 1))
 rw [List.length_take,Nat.min_eq_left (by omega)] at hlt
 rw [show (65536:Nat)=2 ^ 16 by decide,←Nat.pow_mul] at h2 hlt
 generalize 16 * (a.length - 1)=k at *
 have hd:Nt.val a / 2 ^ k=t:=by
  rw [h2,Nat.add_mul_div_left _ _ (Nat.two_pow_pos k),Nat.div_eq_of_lt hlt,Nat.zero_add]
 rw [Nt.bits_shift (k:=k) (by rw [h2];have:=Nat.mul_le_mul_left (2 ^ k) h1;omega),hd,Nat.add_comm]
theorem bg_Bits.goal (a:List UInt16) (hp:(Nt.is a)=true):bg_Bits.F a=some [.i .i64 (Nt.bits (Nt.val a))]:=by
 have hl:=Nt.is_len hp
 refine bg_Bits.F_in _ ?_
 intro v1 h1 v2 h2 v3 h3 v4 h4 v5 h5
 rw [hp,Bool.not_true,cond_false] at h1
 rw [ck_of (decide_eq_true (by omega)),hp]
 by_cases c:a=[]
 ·subst c
  have e1:v1=true:=by rw [h1];rfl
  rw [e1];rfl
 ·have hl0:=List.length_pos_iff.2 c
  have e1:v1=false:=by rw [h1];exact decide_eq_false (by omega)
  rw [i64_in _ (by omega)] at h2
  have e2:v2=((a.length - 1:Nat):Int):=by omega
  have e3:v3=((16 * (a.length - 1):Nat):Int):=by rw [h3,i64_in _ (by omega)];omega
  rw [e2,Int.toNat_natCast] at h4
  have hb:=Nt.bits_lt (n:=v4.toNat) (k:=16) v4.toNat_lt
  have e5:v5=(Nt.bits (Nt.val a):Int):=by
   rw [h5,i64_in _ (by omega),e3,bits_top (Nt.is_norm hp) c,←h4];omega
  rw [e1,e5]
  show ck true (ck true (ck true (ck (idxOK v2 a.length) _)))=_
  rw [ck_true,ck_true,ck_true,ck_of (idx_ok (by omega) (by omega))]
end Go.Eng
namespace Go.Eng
open Go.IntWalk
namespace Nr
def V (p:Nat):Nat:=man p * 2 ^ sh p
theorem man_lt (p:Nat):man p<9007199254740992:=by unfold man;split <;> omega
theorem V_succ (p:Nat):V (p+1)=(man p+1) * 2 ^ sh p:=by
 by_cases c0:p=4503599627370495
 ·subst c0;decide +kernel
 unfold V man sh
 by_cases c:p<4503599627370496
 ·have e1:p / 4503599627370496=0:=by omega
  rw [if_pos c,if_pos (show p+1<4503599627370496 by omega),e1,show (p+1) / 4503599627370496=0 by omega]
 ·rw [if_neg c,if_neg (show ¬p+1<4503599627370496 by omega)]
  by_cases d:(p+1) % 4503599627370496=0
  ·rw [d,show (p+1) / 4503599627370496 - 1=(p / 4503599627370496 - 1)+1 by omega,show p % 4503599627370496=4503599627370495 by omega,Nat.pow_succ]
   generalize 2 ^ (p / 4503599627370496 - 1)=t
   omega
  ·have e:(p+1) % 4503599627370496+4503599627370496=p % 4503599627370496+4503599627370496+1:=by omega
   rw [show (p+1) / 4503599627370496=p / 4503599627370496 by omega,e]
theorem V_step (p:Nat):V (p+1)=V p+2 ^ sh p:=by rw [V_succ,Nat.add_mul,Nat.one_mul];rfl
theorem V_lt_succ (p:Nat):V p<V (p+1):=by rw [V_step];have:=Nat.two_pow_pos (sh p);omega
theorem V_lt {p q:Nat} (h:p<q):V p<V q:=by
 induction q with
 | zero=>omega
 | succ q ih =>
  have:=V_lt_succ q
  by_cases c:p=q
  ·subst c;exact this
  ·have:=ih (by omega);omega
theorem V_le {p q:Nat} (h:p≤q):V p≤V q:=by
 rcases Nat.lt_or_eq_of_le h with c | c
 ·exact Nat.le_of_lt (V_lt c)
 ·rw [c];exact Nat.le_refl _
theorem V_inj {p q:Nat} (h:V p=V q):p=q:=by
 rcases Nat.lt_trichotomy p q with c | c | c
 ·have:=V_lt c;omega
 ·exact c
 ·have:=V_lt c;omega
theorem mid_eq (p:Nat):mid p=V p+V (p+1):=by
 rw [V_step];unfold mid V;rw [Nat.add_mul,Nat.mul_assoc,Nat.one_mul];omega
theorem V_norm {M E:Nat} (h1:4503599627370496≤M) (h2:M<9007199254740992):man ((E+1) * 4503599627370496+(M - 4503599627370496))=M∧sh ((E+1) * 4503599627370496+(M - 4503599627370496))=E:=by
 unfold man sh
 rw [if_neg (by omega),show ((E+1) * 4503599627370496+(M - 4503599627370496)) % 4503599627370496=M - 4503599627370496 by omega,show ((E+1) * 4503599627370496+(M - 4503599627370496)) / 4503599627370496=E+1 by omega]
 omega
theorem V_sub {M:Nat} (h:M<4503599627370496):V M=M:=by
 unfold V man sh
 rw [if_pos h,show M / 4503599627370496=0 by omega];simp
theorem sh_top {p:Nat} (h:p≤top):sh p≤2045:=by unfold sh;unfold top at h;omega
theorem join_some {p m:Nat} {e:Int} (neg:Bool) (hp:p≤top) (h:V p * 2 ^ (-(e+1074)).toNat=m * 2 ^ (e+1074).toNat):join neg m e=some (p+if neg then 9223372036854775808 else 0):=by
 classical
 have hx:∃p,p≤top∧man p * 2 ^ sh p * 2 ^ (-(e+1074)).toNat=m * 2 ^ (e+1074).toNat:=⟨p,hp,h⟩
 unfold join
 rw [dif_pos hx]
 have hc:=hx.choose_spec.2
 have:hx.choose=p:=V_inj (Nat.eq_of_mul_eq_mul_right (Nat.two_pow_pos _) (hc.trans h.symm))
 rw [this]
theorem join_none {m:Nat} {e:Int} (neg:Bool) (h:∀p,p≤top→V p * 2 ^ (-(e+1074)).toNat≠m * 2 ^ (e+1074).toNat):join neg m e=none:=by
 classical
 unfold join
 rw [dif_neg]
 rintro ⟨p,h1,h2⟩
 exact h p h1 h2
theorem join_0 (neg:Bool) (e:Int):join neg 0 e=some (0+if neg then 9223372036854775808 else 0):=join_some neg (Nat.zero_le _) (by rw [V_sub (by omega),Nat.zero_mul,Nat.zero_mul])
def enc (m' k:Nat):Nat:=if k+Nt.bits m'≤52 then m' * 2 ^ k else (k - (53 - Nt.bits m')+1) * 4503599627370496+(m' * 2 ^ (53 - Nt.bits m') - 4503599627370496)
theorem bits_mul {m':Nat} (h0:0<m') (j:Nat):2 ^ (Nt.bits m' - 1+j)≤m' * 2 ^ j∧m' * 2 ^ j<2 ^ (Nt.bits m'+j):=by
 obtain ⟨h1,h2,h3⟩:=Nt.bits_pos h0
 rw [Nat.pow_add,Nat.pow_add]
 exact ⟨Nat.mul_le_mul_right _ h1,Nat.mul_lt_mul_of_pos_right h2 (Nat.two_pow_pos j)⟩
theorem bits_53 {m':Nat} (h0:0<m') (hL:Nt.bits m'≤53):4503599627370496≤m' * 2 ^ (53 - Nt.bits m')∧m' * 2 ^ (53 - Nt.bits m')<9007199254740992:=by
 obtain ⟨h1,h2⟩:=bits_mul h0 (53 - Nt.bits m')
 obtain ⟨_,_,h3⟩:=Nt.bits_pos h0
 rw [show Nt.bits m' - 1+(53 - Nt.bits m')=52 by omega] at h1
 rw [show Nt.bits m'+(53 - Nt.bits m')=53 by omega] at h2
 exact ⟨h1,h2⟩
theorem enc_ok {m' k:Nat} (h0:0<m') (hL:Nt.bits m'≤53) (hk:k+Nt.bits m'≤2098):enc m' k≤top∧V (enc m' k)=m' * 2 ^ k:=by
 obtain ⟨b1,b2⟩:=bits_53 h0 hL
 unfold enc
 split
 ·rename_i c
  have:=(bits_mul h0 k).2
  have h52:m' * 2 ^ k<4503599627370496:=Nat.lt_of_lt_of_le this (by
   rw [show (4503599627370496:Nat)=2 ^ 52 by decide];exact Nat.pow_le_pow_right (by omega) (by omega))
  exact ⟨by unfold top;omega,V_sub h52⟩
 ·rename_i c
  obtain ⟨v1,v2⟩:=V_norm (E:=k - (53 - Nt.bits m')) b1 b2
  refine ⟨by unfold top;omega,?_⟩
  unfold V
  rw [v1,v2,Nat.mul_assoc,←Nat.pow_add,show 53 - Nt.bits m'+(k - (53 - Nt.bits m'))=k by omega]
theorem join_enc {m m' n k:Nat} {e:Int} (neg:Bool) (hm:m=m' * 2 ^ n) (h0:0<m') (hk:e+n+1074=k) (hL:Nt.bits m'≤53) (hk2:k+Nt.bits m'≤2098):join neg m e=some (enc m' k+if neg then 9223372036854775808 else 0):=by
 obtain ⟨h1,h2⟩:=enc_ok h0 hL hk2
 refine join_some neg h1 ?_
 rw [h2,hm,Nat.mul_assoc,Nat.mul_assoc,←Nat.pow_add,←Nat.pow_add,show k+(-(e+1074)).toNat=n+(e+1074).toNat by omega]
theorem odd_pow {a b x y:Nat} (ha:a % 2=1) (h:a * 2 ^ x=b * 2 ^ y):y≤x∧b=a * 2 ^ (x - y):=by
 have hyx:y≤x:=by
  rcases Nat.lt_or_ge x y with c | c
  ·have e:y=x+(y - x - 1)+1:=by omega
   rw [e,Nat.pow_succ,Nat.pow_add,←Nat.mul_assoc,←Nat.mul_assoc] at h
   have h2:a=b * 2 ^ (y - x - 1) * 2:=by
    refine Nat.eq_of_mul_eq_mul_right (Nat.two_pow_pos x) ?_
    rw [h,Nat.mul_right_comm b,Nat.mul_right_comm (b * _)]
   omega
  ·exact c
 refine ⟨hyx,Nat.eq_of_mul_eq_mul_right (Nat.two_pow_pos y) ?_⟩
 rw [←h,Nat.mul_assoc,←Nat.pow_add,show x - y+y=x by omega]
theorem join_not {m m' n:Nat} {e:Int} (neg:Bool) (hm:m=m' * 2 ^ n) (ho:m' % 2=1) (h:e+n+1074<0∨53<Nt.bits m'∨2098<e+n+1074+Nt.bits m'):join neg m e=none:=by
 refine join_none neg fun p hp hv=>?_
 have h0:0<m':=by omega
 rw [hm,Nat.mul_assoc,←Nat.pow_add] at hv
 unfold V at hv
 rw [Nat.mul_assoc,←Nat.pow_add] at hv
 obtain ⟨q1,q2⟩:=odd_pow ho hv.symm
 have hs:=sh_top hp
 have hml:=man_lt p
 obtain ⟨r1,r2⟩:=bits_mul h0 (n+(e+1074).toNat - (sh p+(-(e+1074)).toNat))
 obtain ⟨_,_,r3⟩:=Nt.bits_pos h0
 rw [←q2] at r1 r2
 have r4:2 ^ (Nt.bits m' - 1+(n+(e+1074).toNat - (sh p+(-(e+1074)).toNat)))<2 ^ 53:=Nat.lt_of_le_of_lt r1 (by rw [show (2:Nat) ^ 53=9007199254740992 by decide];exact hml)
 have r5:=(Nat.pow_lt_pow_iff_right (by omega:1<2)).1 r4
 omega
theorem enc_lt (m' k:Nat) (h:enc m' k≤top):enc m' k<9223372036854775808:=by unfold top at h;omega
end Nr
theorem shl64_toNat (x:UInt64) (k:Nat):(shl64 x k).toNat=x.toNat * 2 ^ k % 18446744073709551616:=by unfold shl64;simp
theorem u64_eq {a b:UInt64} (h:a.toNat=b.toNat):a=b:=UInt64.toNat_inj.1 h
theorem u64_of (n:Nat):(UInt64.ofNat n).toNat=n % 18446744073709551616:=by simp
theorem mask52 (x:UInt64):(x &&& (4503599627370495:UInt64)).toNat=x.toNat % 4503599627370496:=by
 rw [UInt64.toNat_and]
 exact Nat.and_two_pow_sub_one_eq_mod x.toNat 52
def sgn (n:Bool):UInt64:=cond n 9223372036854775808 0
theorem sgn_toNat (n:Bool):(sgn n).toNat=if n then 9223372036854775808 else 0:=by cases n <;> rfl
theorem sgn_or (n:Bool) (x:UInt64) (h:x.toNat<9223372036854775808):(sgn n ||| x).toNat=x.toNat+(sgn n).toNat:=by
 rw [UInt64.toNat_or,sgn_toNat]
 cases n
 ·simp
 ·have:=or_add (a:=1) (k:=63) (b:=x.toNat) h
  rw [if_pos rfl]
  rw [show (9223372036854775808:Nat)=1 * 2 ^ 63 by decide,this];omega
theorem pat_some (p:Nat) (n:Bool) (h:p<9223372036854775808):Nr.pat (some (p+if n then 9223372036854775808 else 0))=UInt64.ofNat (p+(sgn n).toNat):=by rw [sgn_toNat];rfl
theorem db_Join.j1_ok (n:Bool) (m:UInt64) (e:Int) (he : -1100≤e∧e≤2000):db_Join.j1 m e (sgn n)=some [.u64 (Nr.pat (Nr.join n m.toNat e)),.b (Nr.join n m.toNat e).isSome]:=by
 refine db_Join.j1_in _ _ _ ?_
 intro v1 h1 v2 h2 v3 h3 v4 h4 v5 h5 v6 h6 v7 h7 v8 h8 v9 h9 v10 h10 v11 h11 v12 h12 v13 h13 v14 h14 v15 h15
 by_cases c0:m=0
 ·subst c0
  rw [decide_eq_true rfl,cond_true]
  have:(0:UInt64).toNat=0:=rfl
  rw [this,Nr.join_0,pat_some _ _ (by omega)]
  congr 2
  cases n <;> rfl
 ·have hm0:0<m.toNat:=by
   have:m.toNat≠0:=fun h=>c0 (u64_eq h)
   omega
  have hlt:=m.toNat_lt
  obtain ⟨q,hq,hc⟩:=Lib.ctzFrom_spec 64 m.toNat hm0 (by rw [show (2:Nat) ^ 64=18446744073709551616 by decide];exact hlt)
  have hct:Lib.ctz 64 m.toNat=Lib.ctzFrom 64 m.toNat:=by unfold Lib.ctz;rw [if_neg (by omega)]
  generalize hz:Lib.ctzFrom 64 m.toNat=z at *
  rw [hct] at h2
  have hm':m.toNat=(2 * q+1) * 2 ^ z:=by rw [hq,Nat.mul_comm]
  have hsh:(shr64 m v2.toNat).toNat=2 * q+1:=by
   rw [shr64_toNat,h2,Int.toNat_natCast,hm',Nat.mul_div_cancel _ (Nat.two_pow_pos z)]
  have hL:=Nt.bits_lt (n:=2 * q+1) (k:=64) (by rw [←hsh];exact (shr64 m v2.toNat).toNat_lt)
  obtain ⟨_,_,hL0⟩:=Nt.bits_pos (n:=2 * q+1) (by omega)
  rw [hsh] at h3
  generalize hLL:Nt.bits (2 * q+1)=L at *
  have ew:IntKind.i64.wrap (e+v2)=e+z:=by rw [h2,i64_in _ (by omega)]
  rw [ew] at h4 h5 h8 h12
  have e5:v5=e+z+L:=by rw [h5,h3,i64_in _ (by omega)]
  have e7:v7=e+z+L - 1:=by rw [h7,e5,i64_in _ (by omega)]
  have e8:v8=e+z+1074:=by rw [h8,i64_in _ (by omega)]
  have e10:v10=53 - L:=by rw [h10,h3,i64_in _ (by omega)]
  have e12:v12=e+z - (53 - L):=by rw [h12,e10,i64_in _ (by omega)]
  have e13:v13=e+z - (53 - L)+1075:=by rw [h13,e12,i64_in _ (by omega)]
  have e1:v1=false:=by rw [h1,decide_eq_false (show ¬e < -2000 by omega),decide_eq_false (show ¬2000<e by omega)];rfl
  have e4:v4=decide (53<L∨e+z < -1074):=by
   rw [h4,h3,Bool.decide_or]
   have:decide ((53:Int)<(L:Int))=decide (53<L):=by
    by_cases c:53<L
    ·rw [decide_eq_true c,decide_eq_true (by omega)]
    ·rw [decide_eq_false c,decide_eq_false (by omega)]
   rw [this];cases decide (53<L) <;> rfl
  have e6:v6=decide (53<L∨e+z < -1074∨1024<e+z+L):=by
   rw [h6,e4,e5]
   by_cases c:53<L∨e+z < -1074
   ·rw [decide_eq_true c,cond_true,decide_eq_true (by omega)]
   ·rw [decide_eq_false c,cond_false]
    by_cases d:1024<e+z+L
    ·rw [decide_eq_true d,decide_eq_true (by omega)]
    ·rw [decide_eq_false d,decide_eq_false (by omega)]
  have hcc:∀b:Bool,(!(!b) || !b)=true∧(b || !b)=true∧(!(!b) || (!b&&!b))=true:=by decide
  rw [decide_eq_false c0,cond_false,e1,ck_of (hcc _).1,ck_of (hcc _).2.1,cond_false,ck_of (decide_eq_true (by omega)),ck_of (hcc _).1,ck_of (hcc _).2.1,ck_of (hcc _).2.2,ck_of (hcc _).1,ck_of (hcc _).2.1,e6]
  by_cases c:53<L∨e+z < -1074∨1024<e+z+L
  ·rw [decide_eq_true c,cond_true,Nr.join_not (m':=2 * q+1) (n:=z) n hm' (by omega) (by omega)];rfl
  ·rw [decide_eq_false c,cond_false]
   obtain ⟨k,hk⟩:=Int.eq_ofNat_of_zero_le (show 0≤e+z+1074 by omega)
   obtain ⟨t1,t2⟩:=Nr.enc_ok (m':=2 * q+1) (k:=k) (by omega) (by omega) (by omega)
   have t3:=Nr.enc_lt _ _ t1
   rw [Nr.join_enc (m':=2 * q+1) (n:=z) (k:=k) n hm' (by omega) hk (by omega) (by omega),pat_some _ _ t3]
   by_cases d:e+z+L - 1 < -1022
   ·rw [e7,decide_eq_true d,cond_true,ck_of (decide_eq_true (by omega))]
    have he9:Nr.enc (2 * q+1) k=(2 * q+1) * 2 ^ k:=by unfold Nr.enc;rw [if_pos (by omega)]
    rw [he9] at t3 ⊢
    have e9:v9.toNat=(2 * q+1) * 2 ^ k:=by
     rw [h9,shl64_toNat,hsh,e8,hk,Int.toNat_natCast];omega
    have:sgn n ||| v9=UInt64.ofNat ((2 * q+1) * 2 ^ k+(sgn n).toNat):=by
     apply u64_eq
     rw [sgn_or _ _ (by omega),e9,u64_of,sgn_toNat]
     cases n
     ·simp;omega
     ·simp;omega
    rw [this];rfl
   ·rw [e7,decide_eq_false d,cond_false,ck_of (decide_eq_true (by omega))]
    obtain ⟨b1,b2⟩:=Nr.bits_53 (m':=2 * q+1) (by omega) (by omega)
    have he9:Nr.enc (2 * q+1) k=(k - (53 - L)+1) * 4503599627370496+((2 * q+1) * 2 ^ (53 - L) - 4503599627370496):=by unfold Nr.enc;rw [if_neg (by omega),hLL]
    rw [hLL] at b1 b2
    have e10':v10.toNat=53 - L:=by omega
    have e11:v11.toNat=(2 * q+1) * 2 ^ (53 - L):=by rw [h11,shl64_toNat,hsh,e10'];omega
    have e15:v15.toNat=(2 * q+1) * 2 ^ (53 - L) - 4503599627370496:=by rw [h15,mask52,e11];omega
    have e13':v13=((k - (53 - L)+1:Nat):Int):=by omega
    have e14:v14.toNat=(k - (53 - L)+1) * 4503599627370496:=by
     rw [h14,shl64_toNat,e13',u64_nat]
     have:(k - (53 - L)+1)<2048:=by omega
     show (k - (53 - L)+1) % 18446744073709551616 * 4503599627370496 % 18446744073709551616=_
     omega
    have h9':(v14 ||| v15).toNat=Nr.enc (2 * q+1) k:=by
     rw [UInt64.toNat_or,e14,e15,he9]
     exact or_add (k:=52) (by omega)
    have:(sgn n ||| v14) ||| v15=UInt64.ofNat (Nr.enc (2 * q+1) k+(sgn n).toNat):=by
     apply u64_eq
     rw [UInt64.or_assoc,sgn_or _ _ (by omega),h9',u64_of,sgn_toNat]
     cases n
     ·simp;omega
     ·simp;omega
    rw [this];rfl
theorem db_Join.goal (n:Bool) (m:UInt64) (e:Int) (hp:decide (-1100≤e∧e≤2000)=true):db_Join.F n m e=some [.u64 (Nr.pat (Nr.join n m.toNat e)),.b (Nr.join n m.toNat e).isSome]:=by
 rw [db_Join.F_eq]
 cases n
 ·exact db_Join.j1_ok false m e (of_decide_eq_true hp)
 ·exact db_Join.j1_ok true m e (of_decide_eq_true hp)
end Go.Eng
namespace Go.Eng
namespace Nr
theorem mid_lt {p q:Nat} (h:p<q):mid p<mid q:=by
 rw [mid_eq,mid_eq]
 have h1:=V_lt h
 have h2:=V_lt (show p+1<q+1 by omega)
 omega
theorem above_down {a b p q:Nat} (hb:0<b) (h:Above a b p) (hq:q<p):Above a b q:=by
 have h1:mid q * b<mid p * b:=Nat.mul_lt_mul_of_pos_right (mid_lt hq) hb
 rcases h with h | ⟨h,_⟩
 ·exact .inl (Nat.lt_trans h1 h)
 ·exact .inl (by omega)
theorem near_some {a b p:Nat} (hb:0<b) (hp:p≤top) (h1:¬Above a b p) (h2:p=0∨Above a b (p - 1)):near a b=some p:=by
 classical
 have hall:∀q,q<p→Above a b q:=fun q hq=>by
  rcases h2 with h2 | h2
  ·omega
  ·by_cases c:q=p - 1
   ·rw [c];exact h2
   ·exact above_down hb h2 (by omega)
 have hx:∃p,p≤top∧¬Above a b p∧∀q,q<p→Above a b q:=⟨p,hp,h1,hall⟩
 unfold near
 rw [dif_pos hx]
 obtain ⟨_,c2,c3⟩:=hx.choose_spec
 congr 1
 rcases Nat.lt_trichotomy hx.choose p with c | c | c
 ·exact (c2 (hall _ c)).elim
 ·exact c
 ·exact (h1 (c3 _ c)).elim
theorem near_none {a b:Nat} (hb:0<b) (h:Above a b top):near a b=none:=by
 classical
 unfold near
 rw [dif_neg]
 rintro ⟨p,h1,h2,_⟩
 rcases Nat.lt_or_eq_of_le h1 with c | c
 ·exact h2 (above_down hb h c)
 ·exact h2 (by rw [c];exact h)
theorem above_scale {a b c p:Nat} (hc:0<c):Above (a * c) (b * c) p ↔ Above a b p:=by
 unfold Above
 rw [←Nat.mul_assoc,Nat.mul_right_comm a c]
 constructor
 ·rintro (h | ⟨h,o⟩)
  ·exact .inl (Nat.lt_of_mul_lt_mul_right h)
  ·exact .inr ⟨Nat.eq_of_mul_eq_mul_right hc h,o⟩
 ·rintro (h | ⟨h,o⟩)
  ·exact .inl (Nat.mul_lt_mul_of_pos_right h hc)
  ·exact .inr ⟨by rw [h],o⟩
theorem near_scale {a b c:Nat} (hc:0<c):near (a * c) (b * c)=near a b:=by
 have e:Above (a * c) (b * c)=Above a b:=funext fun p=>propext (above_scale hc)
 unfold near
 rw [e]
theorem near_cross {a b c d:Nat} (hb:0<b) (hd:0<d) (h:a * d=c * b):near a b=near c d:=by
 rw [←near_scale (a:=a) (b:=b) hd,h,Nat.mul_comm b d,near_scale hb]
theorem pw_split {a b c d:Nat} (h:a+b=c+d):2 ^ a * 2 ^ b=2 ^ c * 2 ^ d:=by rw [←Nat.pow_add,h,Nat.pow_add]
theorem mul_two {a T U:Nat} (h:U=2 * T):a * U=2 * (a * T):=by rw [h,Nat.mul_left_comm]
theorem pw_six (k:Nat):2 ^ (6+k)=64 * 2 ^ k:=by rw [Nat.pow_add]
theorem mul_four {n b p q r s:Nat} (h:p * q=r * s):n * p * b * q=n * (b * r) * s:=by
 rw [Nat.mul_assoc n p,Nat.mul_assoc n,Nat.mul_right_comm p,h,Nat.mul_assoc n,Nat.mul_comm (r * s),Nat.mul_assoc b]
theorem two1075_eq:two1075=2 * 2 ^ 1074:=by decide +kernel
theorem mul_three {p q b a:Nat} (h:p * b≤a):p * q * b≤a * q:=by
 rw [Nat.mul_right_comm];exact Nat.mul_le_mul_right _ h
theorem hv_le {v p q b a:Nat} (hv:v=p * q) (h:p * b≤a):v * b≤a * q:=by subst hv;exact mul_three h
theorem near_of {a b p:Nat} (hb:0<b) (h1:V p * b≤a * 2 ^ 1074) (h2:a * 2 ^ 1074<V (p+1) * b) (hp:p≤top) [Decidable (Above a b p)] :
  near a b=if Above a b p then (if p+1≤top then some (p+1) else none) else some p:=by
 have e:a * two1075=2 * (a * 2 ^ 1074):=mul_two two1075_eq
 split
 ·rename_i h
  split
  ·rename_i ht
   refine near_some hb ht ?_ (.inr h)
   unfold Above
   rw [e,mid_eq,Nat.add_mul]
   have:=Nat.mul_lt_mul_of_pos_right (V_lt_succ (p+1)) hb
   omega
  ·rename_i ht
   have:p=top:=by omega
   exact near_none hb (this ▸ h)
 ·rename_i h
  refine near_some hb hp h ?_
  by_cases c:p=0
  ·exact .inl c
  ·refine .inr (.inl ?_)
   rw [e,mid_eq,Nat.add_mul,show p - 1+1=p by omega]
   have:=Nat.mul_lt_mul_of_pos_right (V_lt (show p - 1<p by omega)) hb
   omega
theorem near_big {a b p:Nat} (hb:0<b) (h1:V p * b≤a * 2 ^ 1074) (hp:top<p):near a b=none:=by
 refine near_none hb (.inl ?_)
 have e:a * two1075=2 * (a * 2 ^ 1074):=mul_two two1075_eq
 rw [e,mid_eq,Nat.add_mul]
 have h3:=Nat.mul_lt_mul_of_pos_right (V_lt (show top<p by omega)) hb
 have h4:=Nat.mul_le_mul_right b (V_le (show top+1≤p by omega))
 omega
theorem near_zero (b:Nat) (hb:0<b):near 0 b=some 0:=by
 refine near_some hb (Nat.zero_le _) ?_ (.inl rfl)
 unfold Above
 rw [Nat.zero_mul]
 have:0<mid 0 * b:=Nat.mul_pos (by decide) hb
 omega
theorem near_low {a b:Nat} (hb:0<b) (h:a * two1075≤b):near a b=some 0:=by
 refine near_some hb (Nat.zero_le _) ?_ (.inl rfl)
 unfold Above
 have e:mid 0 * b=b:=by rw [show mid 0=1 by decide,Nat.one_mul]
 rw [e]
 omega
def two1024:Nat:=2 ^ 1024
theorem V_top2:V (top+1)=two1024 * 2 ^ 1074:=by decide +kernel
theorem near_high {a b:Nat} (hb:0<b) (h:two1024 * b≤a):near a b=none:=by
 refine near_none hb (.inl ?_)
 rw [mid_eq,Nat.add_mul]
 have h3:=Nat.mul_lt_mul_of_pos_right (V_lt_succ top) hb
 have h4:V (top+1) * b≤a * 2 ^ 1074:=by
  exact hv_le V_top2 h
 have e:a * two1075=2 * (a * 2 ^ 1074):=mul_two two1075_eq
 omega
theorem near_le {a b p:Nat} (h:near a b=some p):p≤top:=by
 unfold near at h
 split at h
 ·rename_i hx
  have:=hx.choose_spec.1
  injection h with h
  rw [h] at this;exact this
 ·cases h
end Nr
end Go.Eng
namespace Go.Eng
open Go.IntWalk
theorem take_cmp {a b:List UInt16} (i:Nat) (ha:i<a.length) (hb:i<b.length) (h:(a.getD i 0).toNat<(b.getD i 0).toNat):Nt.val (a.take (i+1))<Nt.val (b.take (i+1)):=by
 rw [val_take_succ a i ha,val_take_succ b i hb]
 have h1:=Nt.val_lt (a.take i)
 rw [List.length_take,Nat.min_eq_left (by omega)] at h1
 generalize (a.getD i 0).toNat=x at *
 generalize (b.getD i 0).toNat=y at *
 have:65536 ^ i * x+65536 ^ i≤65536 ^ i * y:=by
  rw [←Nat.mul_succ];exact Nat.mul_le_mul_left _ (by omega)
 omega
theorem drop_eq_take {a b:List UInt16} (hl:a.length=b.length) (i:Nat) (h:a.drop i=b.drop i):(Nt.val a<Nt.val b ↔ Nt.val (a.take i)<Nt.val (b.take i))∧(Nt.val a=Nt.val b ↔ Nt.val (a.take i)=Nt.val (b.take i)):=by
 have e1:Nt.val a=Nt.val (a.take i)+65536 ^ (a.take i).length * Nt.val (a.drop i):=by rw [←Nt.val_append,List.take_append_drop]
 have e2:Nt.val b=Nt.val (b.take i)+65536 ^ (b.take i).length * Nt.val (b.drop i):=by rw [←Nt.val_append,List.take_append_drop]
 have e3:(b.take i).length=(a.take i).length:=by rw [List.length_take,List.length_take,hl]
 rw [e3,←h] at e2
 omega
theorem bg_cmp.l1_ok (a b:List UInt16) (hl:a.length=b.length) (hb:a.length≤1099511627776):∀(n:Nat),n≤a.length→a.drop n=b.drop n→bg_cmp.l1 a b ((n:Int) - 1)=some [.i .i64 (Nt.cmp (Nt.val a) (Nt.val b))]:=by
 intro n
 induction n with
 | zero =>
  intro hn hd
  refine bg_cmp.l1_in _ _ _ ?_
  intro v1 h1 v2 h2 v3 h3
  simp only [List.drop_zero] at hd
  rw [decide_eq_false (by omega),cond_false,hd,Nt.cmp,if_neg (by omega),if_pos rfl]
 | succ n ih =>
  intro hn hd
  refine bg_cmp.l1_in _ _ _ ?_
  intro v1 h1 v2 h2 v3 h3
  have e:((n+1:Nat):Int) - 1=(n:Int):=by omega
  rw [e] at h1 h2 h3 ⊢
  rw [Int.toNat_natCast] at h1 h2
  rw [decide_eq_true (by omega),cond_true,ck_of (idx_ok (by omega) (by omega)),ck_of (idx_ok (by omega) (by omega))]
  obtain ⟨d1,d2⟩:=drop_eq_take hl (n+1) hd
  by_cases c:v1=v2
  ·rw [decide_eq_true c,Bool.not_true,cond_false,h3,i64_in _ (by omega)]
   refine ih (by omega) ?_
   rw [drop_cons (show n<a.length by omega) 0,drop_cons (show n<b.length by omega) 0,hd,←h1,←h2,c]
  ·rw [decide_eq_false c,Bool.not_false,cond_true,ck_of (idx_ok (by omega) (by omega)),ck_of (idx_ok (by omega) (by omega))]
   by_cases c2:v1<v2
   ·have:=take_cmp (a:=a) (b:=b) n (by omega) (by omega) (by rw [←h1,←h2];exact UInt16.lt_iff_toNat_lt.1 c2)
    rw [decide_eq_true c2,cond_true,Nt.cmp,if_pos (d1.2 this)]
   ·have h4:v2.toNat<v1.toNat:=by
     have h5:v1.toNat≠v2.toNat:=fun e=>c (UInt16.toNat_inj.1 e)
     rw [UInt16.lt_iff_toNat_lt] at c2;omega
    have:=take_cmp (a:=b) (b:=a) n (by omega) (by omega) (by rw [←h1,←h2];exact h4)
    rw [decide_eq_false c2,cond_false,Nt.cmp,if_neg (fun e=>by have:=d1.1 e;omega),if_neg (fun e=>by have:=d2.1 e;omega)]
theorem bg_cmp.goal (a b:List UInt16) (hp:(decide (a.length≤1099511627776∧b.length≤1099511627776)&&(Nt.norm a&&Nt.norm b))=true):bg_cmp.F a b=some [.i .i64 (Nt.cmp (Nt.val a) (Nt.val b))]:=by
 simp only [Bool.and_eq_true,decide_eq_true_eq] at hp
 obtain ⟨⟨l1,l2⟩,n1,n2⟩:=hp
 refine bg_cmp.F_in _ _ ?_
 intro v1 h1
 rcases Nat.lt_trichotomy a.length b.length with c | c | c
 ·have:=Nt.lt_of_len n2 c
  rw [decide_eq_false (show ¬(a.length:Int)=b.length by omega),Bool.not_false,cond_true,decide_eq_true (by omega),cond_true,Nt.cmp,if_pos this]
 ·rw [decide_eq_true (show (a.length:Int)=b.length by omega),Bool.not_true,cond_false,h1,len_i64 l1]
  exact bg_cmp.l1_ok a b c l1 a.length (Nat.le_refl _) (by rw [List.drop_length,c,List.drop_length])
 ·have:=Nt.lt_of_len n1 c
  rw [decide_eq_false (show ¬(a.length:Int)=b.length by omega),Bool.not_false,cond_true,decide_eq_false (by omega),cond_false,Nt.cmp,if_neg (by omega),if_neg (by omega)]
theorem bg_Cmp.goal (a b:List UInt16) (hp:(Nt.is a&&Nt.is b)=true):bg_Cmp.F a b=some [.i .i64 (Nt.cmp (Nt.val a) (Nt.val b))]:=by
 simp only [Bool.and_eq_true] at hp
 have l1:=Nt.is_len hp.1
 have l2:=Nt.is_len hp.2
 refine bg_Cmp.F_in _ _ ?_
 intro v1 h1 v2 h2
 rw [hp.1,hp.2] at h1
 rw [hp.1]
 have e1:v1=false:=h1
 have d1:decide (a.length≤1099511627776)=true:=decide_eq_true (by omega)
 have d2:decide (b.length≤1099511627776)=true:=decide_eq_true (by omega)
 have d3:decide (a.length≤1099511627776∧b.length≤1099511627776)=true:=decide_eq_true ⟨by omega,by omega⟩
 rw [d1,d2,d3,e1,h2,Nt.is_norm hp.1,Nt.is_norm hp.2]
 rfl
theorem bg_numbers.l1_ok (a:List UInt16) (ha:a.length≤256):∀(m i:Nat) (acc:List Int),i+m=a.length→acc.length=a.length→(acc.take i)=(a.take i).map (fun d=>(d.toNat:Int))→bg_numbers.l1 a a.length i acc=some [.sl .is (a.map fun d=>(d.toNat:Int))]:=by
 intro m
 induction m with
 | zero =>
  intro i acc hi hl ht
  refine bg_numbers.l1_in _ _ _ _ ?_
  intro v1 h1 v2 h2 v3 h3 v4 h4
  rw [List.take_of_length_le (by omega),List.take_of_length_le (by omega)] at ht
  rw [decide_eq_false (by omega),cond_false,ht]
 | succ m ih =>
  intro i acc hi hl ht
  refine bg_numbers.l1_in _ _ _ _ ?_
  intro v1 h1 v2 h2 v3 h3 v4 h4
  rw [Int.toNat_natCast] at h1 h3
  have hv:=v1.toNat_lt
  rw [i64_in _ (by omega)] at h2
  have e4:v4=((i+1:Nat):Int):=by rw [h4,i64_in _ (by omega)];omega
  rw [decide_eq_true (by omega),cond_true,ck_of (idx_ok (by omega) (by omega)),ck_of (idx_ok (by omega) (by omega)),ck_of (decide_eq_true (by rw [Int.toNat_natCast];omega)),e4]
  refine ih (i+1) v3 (by omega) (by rw [h3,List.length_set];exact hl) ?_
  have hia:i<a.length:=by omega
  rw [h3,List.take_set,List.take_add_one,List.take_add_one,List.map_append,ht.symm]
  have hil:i<acc.length:=by omega
  rw [List.getElem?_eq_getElem hil,List.getElem?_eq_getElem hia]
  have hlt:(acc.take i).length=i:=by rw [List.length_take];omega
  simp only [Option.toList_some,List.map_cons,List.map_nil]
  rw [List.set_append_right _ _ (by omega),hlt,Nat.sub_self,List.set_cons_zero,h2,h1,List.getD_eq_getElem?_getD,List.getElem?_eq_getElem hia]
  rfl
theorem bg_numbers.goal (a:List UInt16) (hp:decide (a.length≤256)=true):bg_numbers.F a=some [.sl .is (a.map fun d=>(d.toNat:Int))]:=by
 have h:=of_decide_eq_true hp
 refine bg_numbers.F_in _ ?_
 intro v1 h1
 rw [Int.toNat_natCast] at h1
 rw [ck_of (mkOK_iff.2 ⟨by omega,by omega,by omega,by rw [maxLen_eq];omega⟩)]
 exact bg_numbers.l1_ok a h a.length 0 v1 (by omega) (by rw [h1];simp) (by simp)
end Go.Eng
namespace Go.Eng
open Go.IntWalk
theorem Nt.fix_succ (k n:Nat):Nt.fix (k+1) n=Nt.fix k n++[UInt16.ofNat (n / 65536 ^ k)]:=by
 induction k generalizing n with
 | zero=>simp [Nt.fix]
 | succ k ih =>
  rw [Nt.fix,ih (n / 65536),Nt.fix,List.cons_append,Nat.div_div_eq_div_mul,Nat.pow_succ,Nat.mul_comm 65536]
theorem Nt.of_fix {k n:Nat} (h1:n<65536 ^ k) (h2:k=0∨65536 ^ (k - 1)≤n):Nt.of n=Nt.fix k n:=by
 have e:Nt.val (Nt.fix k n)=n:=by rw [Nt.val_fix,Nat.mod_eq_of_lt h1]
 conv=>lhs;rw [←e]
 refine Nt.of_val ?_
 rcases h2 with rfl | h2
 ·rfl
 ·cases k with
  | zero=>rfl
  | succ k =>
   rw [Nt.fix_succ,Nt.norm_snoc]
   rw [Nat.add_sub_cancel] at h2
   refine decide_eq_true fun e0=>?_
   have:=congrArg UInt16.toNat e0
   rw [Nt.u16_ofNat] at this
   have h3:n / 65536 ^ k<65536:=(Nat.div_lt_iff_lt_mul (Nat.pow_pos (by omega))).2 (by rw [Nat.pow_succ,Nat.mul_comm] at h1;exact h1)
   have h4:0<n / 65536 ^ k:=Nat.div_pos h2 (Nat.pow_pos (by omega))
   have e0:(0:UInt16).toNat=0:=rfl
   omega
theorem u16_wrap (n:Nat):UInt16.ofInt (n:Int)=UInt16.ofNat n:=u16_of_u64 n
theorem fdiv16 (n:Nat):Int.fdiv (n:Int) (2 ^ (min (16:UInt64).toNat IntKind.i64.bits))=((n / 65536:Nat):Int):=by
 rw [show (2:Int) ^ (min (16:UInt64).toNat IntKind.i64.bits)=65536 by decide,Int.fdiv_eq_ediv_of_nonneg _ (by omega)]
 omega
theorem bg_more.l1_ok (a:List UInt16) (b c:Nat) (ha:a.length≤1000000) (hb:1≤b∧b≤65535) (hc:c≤65535) (hn:Nt.norm a=true):∀(m i:Nat) (acc:List UInt16) (k:Nat),i+m=a.length→acc.length=i→k≤65535→Nt.val acc+65536 ^ i * k=Nt.val (a.take i) * b+c →
  bg_more.l1 b acc k a a.length i=some [.sl .ws (Nt.of (Nt.val a * b+c))]:=by
 intro m
 induction m with
 | zero =>
  intro i acc k hi hl hk hv
  refine bg_more.l1_in _ _ _ _ _ _ ?_
  intro v1 h1 v2 h2 v3 h3 v4 h4 v5 h5 v6 h6 v7 h7
  rw [List.take_of_length_le (by omega)] at hv
  rw [decide_eq_false (by omega),cond_false]
  have hia:i=a.length:=by omega
  by_cases c0:k=0
  ·subst c0
   rw [decide_eq_false (by omega),cond_false,bg_more.j2_eq,←hv,Nat.mul_zero,Nat.add_zero,Nt.of_val]
   by_cases h0:a=[]
   ·subst h0
    have:acc=[]:=List.eq_nil_of_length_eq_zero (by rw [hl,hia];rfl)
    rw [this];rfl
   ·-- the last digit is no nought
    have hpos:=norm_last hn h0
    have hl0:=List.length_pos_iff.2 h0
    have h0':acc≠[]:=by intro e;subst e;simp at hl;omega
    rw [norm_getD h0']
    simp only [Bool.not_eq_true',decide_eq_false_iff_not]
    intro e0
    have hva:=val_take_succ acc (acc.length - 1) (by omega)
    rw [show acc.length - 1+1=acc.length by omega,List.take_length,e0] at hva
    have hlt:=Nt.val_lt (acc.take (acc.length - 1))
    rw [List.length_take,Nat.min_eq_left (by omega),hl,hia] at hlt
    rw [hl,hia] at hva
    have h5:65536 ^ (a.length - 1) * 1≤65536 ^ (a.length - 1) * (a.getD (a.length - 1) 0).toNat:=Nat.mul_le_mul_left _ hpos.1
    have h6:Nt.val a * 1≤Nt.val a * b:=Nat.mul_le_mul_left _ hb.1
    have e0':(0:UInt16).toNat=0:=rfl
    rw [e0'] at hva
    omega
  ·have e7:v7=[UInt16.ofNat k]:=by rw [h7,u16_wrap]
   rw [decide_eq_true (by omega),cond_true,ck_of (big_ap (by rw [e7,List.length_singleton];omega) (by rw [e7,List.length_singleton];omega)),bg_more.j2_eq,e7,←hv]
   have e8:Nt.val (acc++[UInt16.ofNat k])=Nt.val acc+65536 ^ i * k:=by
    rw [Nt.val_append,hl];simp only [Nt.val,Nat.mul_zero,Nat.add_zero,Nt.u16_ofNat];rw [Nat.mod_eq_of_lt (by omega)]
   rw [←e8,Nt.of_val]
   rw [Nt.norm_snoc]
   refine decide_eq_true fun e=>?_
   have:=congrArg UInt16.toNat e
   rw [Nt.u16_ofNat] at this
   have e0:(0:UInt16).toNat=0:=rfl
   omega
 | succ m ih =>
  intro i acc k hi hl hk hv
  refine bg_more.l1_in _ _ _ _ _ _ ?_
  intro v1 h1 v2 h2 v3 h3 v4 h4 v5 h5 v6 h6 v7 h7
  rw [Int.toNat_natCast] at h1
  have hd:=v1.toNat_lt
  rw [i64_in _ (by omega)] at h2
  have hm:v1.toNat * b≤65535 * 65535:=Nat.mul_le_mul (by omega) hb.2
  have e3:v3=((k+v1.toNat * b:Nat):Int):=by
   have e:v2 * (b:Int)=((v1.toNat * b:Nat):Int):=by rw [h2,Int.natCast_mul]
   rw [h3,e,i64_in ((v1.toNat * b:Nat):Int) (by omega),i64_in _ (by omega)];omega
  have e4:v4=[UInt16.ofNat (k+v1.toNat * b)]:=by rw [h4,e3,u16_wrap]
  have e5:v5=(((k+v1.toNat * b) / 65536:Nat):Int):=by rw [h5,e3,fdiv16]
  have e6:v6=((i+1:Nat):Int):=by rw [h6,i64_in _ (by omega)];omega
  rw [decide_eq_true (by omega),cond_true,ck_of (idx_ok (by omega) (by omega)),ck_of (big_ap (by rw [e4,List.length_singleton];omega) (by rw [e4,List.length_singleton];omega)),e5,e6,e4]
  refine ih (i+1) _ _ (by omega) (by rw [List.length_append,hl];rfl) (by omega) ?_
  rw [val_take_succ a i (by omega),←h1,Nt.val_append,hl]
  simp only [Nt.val,Nat.mul_zero,Nat.add_zero,Nt.u16_ofNat]
  generalize hq:k+v1.toNat * b=q
  rw [Nat.pow_succ,Nat.mul_assoc,Nat.add_assoc,←Nat.mul_add]
  have:q % 65536+65536 * (q / 65536)=q:=Nat.mod_add_div q 65536
  rw [this,←hq,Nat.mul_add,Nat.add_mul,←Nat.mul_assoc]
  omega
theorem bg_more.goal (a:List UInt16) (b c:Int) (hp:(decide (a.length≤1000000∧1≤b∧b≤65535∧0≤c∧c≤65535)&&Nt.norm a)=true):bg_more.F a b c=some [.sl .ws (Nt.of (Nt.val a * b.toNat+c.toNat))]:=by
 simp only [Bool.and_eq_true,decide_eq_true_eq] at hp
 obtain ⟨⟨l1,b1,b2,c1,c2⟩,n1⟩:=hp
 refine bg_more.F_in _ _ _ ?_
 intro v1 h1 v2 h2
 have e1:v1=((a.length+1:Nat):Int):=by rw [h1,i64_in _ (by omega)];omega
 rw [e1,ck_of (mkOK_iff.2 ⟨by omega,by omega,by omega,by rw [maxLen_eq];omega⟩)]
 have eb:(b.toNat:Int)=b:=by omega
 have ec:(c.toNat:Int)=c:=by omega
 have:=bg_more.l1_ok a b.toNat c.toNat l1 ⟨by omega,by omega⟩ (by omega) n1 a.length 0 v2 c.toNat (by omega) (by rw [h2];rfl) (by omega) (by rw [h2];simp [Nt.val])
 rw [eb,ec] at this
 exact this
end Go.Eng
namespace Go.Eng
open Go.IntWalk
theorem bg_Power.l1_ok (b E:Nat) (hb:2≤b∧b≤65535) (hE:E≤1000) (hlt:b ^ E<2 ^ 4096):∀(m:Nat),m≤E→bg_Power.l1 b m (Nt.of (b ^ (E - m)))=some [.sl .ws (Nt.of (b ^ E)),.b true]:=by
 intro m
 induction m with
 | zero =>
  intro hm
  refine bg_Power.l1_in _ _ _ ?_
  intro v1 h1 v2 h2
  rw [decide_eq_false (by omega),cond_false,Nat.sub_zero]
 | succ m ih =>
  intro hm
  refine bg_Power.l1_in _ _ _ ?_
  intro v1 h1 v2 h2
  have hle:∀j,j≤E→b ^ j<2 ^ 4096:=fun j hj=>Nat.lt_of_le_of_lt (Nat.pow_le_pow_right (by omega) hj) hlt
  have hi:=Nt.is_of (hle (E - (m+1)) (by omega))
  have hl:=Nt.is_len hi
  have e1:v1=Nt.of (b ^ (E - m)):=by
   rw [h1,Nt.val_of,Int.toNat_natCast,show (0:Int).toNat=0 from rfl,Nat.add_zero,←Nat.pow_succ]
   congr 2;omega
  have hi2:=Nt.is_of (hle (E - m) (by omega))
  have hl2:=Nt.is_len hi2
  rw [decide_eq_true (by omega),cond_true,Nt.norm_of,ck_of (by rw [Bool.and_true];exact decide_eq_true (by omega)),e1,ck_of (decide_eq_true (by omega)),hi2,Bool.not_true,cond_false,h2,i64_in _ (by omega)]
  rw [show ((m+1:Nat):Int) - 1=(m:Int) by omega]
  exact ih (by omega)
theorem bg_Power.goal (b e:Int) (hp:decide (2≤b∧b≤65535∧0≤e∧e≤1000∧b.toNat ^ e.toNat<2 ^ 4096)=true):bg_Power.F b e=some [.sl .ws (Nt.of (b.toNat ^ e.toNat)),.b true]:=by
 obtain ⟨b1,b2,e1,e2,hlt⟩:=of_decide_eq_true hp
 refine bg_Power.F_in _ _ ?_
 intro v1 h1 v2 h2 v3 h3 v4 h4
 have d1:v1=false:=by rw [h1,decide_eq_false (by omega),cond_false];exact decide_eq_false (by omega)
 have d2:v2=false:=by rw [h2,d1,cond_false];exact decide_eq_false (by omega)
 simp only [Bool.not_or_self,Bool.or_not_self,Bool.not_not,ck_true]
 rw [d2,cond_false]
 by_cases c:e=0
 ·have d3:v3=true:=by rw [h3,decide_eq_true c,cond_true]
  rw [d3,cond_true,c,h4,show (0:Int).toNat=0 from rfl,Nat.pow_zero];rfl
 ·have d3:v3=false:=by rw [h3,decide_eq_false c,cond_false];exact decide_eq_false (by omega)
  rw [d3,cond_false,decide_eq_false (by omega),cond_false]
  have:=bg_Power.l1_ok b.toNat e.toNat ⟨by omega,by omega⟩ (by omega) hlt e.toNat (Nat.le_refl _)
  rw [Nat.sub_self,Nat.pow_zero,show ((b.toNat:Nat):Int)=b by omega,show ((e.toNat:Nat):Int)=e by omega] at this
  rw [h4];exact this
theorem Nr.num_snoc (d:Str) (c:UInt8):Nr.num (d++[c])=10 * Nr.num d+(c.toNat - 48):=by
 unfold Nr.num;rw [List.foldl_append];rfl
theorem Nr.isDig_iff {c:UInt8}:Nr.isDig c=true ↔ 48≤c.toNat∧c.toNat≤57:=by
 simp only [Nr.isDig,decide_eq_true_eq,UInt8.le_iff_toNat_le];exact Iff.rfl
theorem Nr.num_go (d:Str) (h:d.all Nr.isDig=true):∀n:Nat,d.foldl (fun n c=>10 * n+(c.toNat - 48)) n<(n+1) * 10 ^ d.length:=by
 induction d with
 | nil=>intro n;simp
 | cons c d ih =>
  intro n
  rw [List.all_cons,Bool.and_eq_true,Nr.isDig_iff] at h
  rw [List.foldl_cons,List.length_cons,Nat.pow_succ]
  refine Nat.lt_of_lt_of_le (ih h.2 _) ?_
  rw [Nat.mul_comm (10 ^ d.length),←Nat.mul_assoc]
  exact Nat.mul_le_mul_right _ (by omega)
theorem Nr.num_lt (d:Str) (h:d.all Nr.isDig=true):Nr.num d<10 ^ d.length:=by
 have:=Nr.num_go d h 0
 rwa [Nat.zero_add,Nat.one_mul] at this
theorem take_snoc {s:Str} {i:Nat} (h:i<s.length):s.take (i+1)=s.take i++[s.getD i 0]:=by
 rw [List.take_add_one,List.getElem?_eq_getElem h,List.getD_eq_getElem?_getD,List.getElem?_eq_getElem h];rfl
theorem all_getD {s:Str} {i:Nat} (hs:s.all Nr.isDig=true) (h:i<s.length):48≤(s.getD i 0).toNat∧(s.getD i 0).toNat≤57:=by
 rw [List.getD_eq_getElem?_getD,List.getElem?_eq_getElem h]
 have:=List.all_eq_true.1 hs _ (List.getElem_mem h)
 simp only [Nr.isDig,decide_eq_true_eq] at this
 exact ⟨UInt8.le_iff_toNat_le.1 this.1,UInt8.le_iff_toNat_le.1 this.2⟩
theorem ten300 (k:Nat) (h:k≤300):10 ^ k<2 ^ 4096:=by
 have hk:∀n:Nat,n=300→10 ^ k≤10 ^ n:=fun n hn=>Nat.pow_le_pow_right (by omega) (by omega)
 exact Nat.lt_of_le_of_lt (hk 300 rfl) (by decide +kernel)
theorem bg_Parse.l1_ok (s:Str) (hs:s.all Nr.isDig=true) (hl:s.length≤300):∀(m i:Nat),i+m=s.length→bg_Parse.l1 s (Nt.of (Nr.num (s.take i))) s.length i=some [.sl .ws (Nt.of (Nr.num s)),.b true]:=by
 have hlt:∀i,Nr.num (s.take i)<2 ^ 4096:=fun i=>by
  have h1:=Nr.num_lt (s.take i) (by rw [List.all_eq_true] at hs ⊢;exact fun x hx=>hs x (List.mem_of_mem_take hx))
  have h2:(s.take i).length≤300:=by rw [List.length_take];omega
  exact Nat.lt_of_lt_of_le h1 (Nat.le_of_lt (ten300 _ h2))
 intro m
 induction m with
 | zero =>
  intro i hi
  have hii:=Nt.is_of (hlt i)
  refine bg_Parse.l1_in _ _ _ _ ?_
  intro v1 h1 v2 h2 v3 h3 v4 h4 v5 h5
  have hll:=Nt.is_len hii
  rw [decide_eq_false (by omega),cond_false,ck_of (decide_eq_true (by omega)),hii,Bool.not_true,cond_false,List.take_of_length_le (by omega)]
 | succ m ih =>
  intro i hi
  have hii:=Nt.is_of (hlt i)
  refine bg_Parse.l1_in _ _ _ _ ?_
  intro v1 h1 v2 h2 v3 h3 v4 h4 v5 h5
  have hll:=Nt.is_len hii
  rw [Int.toNat_natCast] at h1
  obtain ⟨c1,c2⟩:=all_getD hs (show i<s.length by omega)
  rw [←h1] at c1 c2
  have f1:decide (v1<(48:UInt8))=false:=decide_eq_false fun e=>by
   have:=UInt8.lt_iff_toNat_lt.1 e
   have e0:(48:UInt8).toNat=48:=rfl
   omega
  have f2:decide ((57:UInt8)<v1)=false:=decide_eq_false fun e=>by
   have:=UInt8.lt_iff_toNat_lt.1 e
   have e0:(57:UInt8).toNat=57:=rfl
   omega
  have e2:v2=false:=by rw [h2,f1,cond_false,f2]
  have e3:v3=((v1.toNat - 48:Nat):Int):=by
   have e:(v1 - 48).toNat=v1.toNat - 48:=UInt8.toNat_sub_of_le v1 48 (UInt8.le_iff_toNat_le.2 c1)
   rw [h3,e,i64_in _ (by omega)]
  have e5:v5=((i+1:Nat):Int):=by rw [h5,i64_in _ (by omega)];omega
  have e4:v4=Nt.of (Nr.num (s.take (i+1))):=by
   rw [h4,Nt.val_of,take_snoc (by omega),Nr.num_snoc,←h1,e3,Int.toNat_natCast,show (10:Int).toNat=10 from rfl,Nat.mul_comm]
  have hx:idxOK (i:Int) s.length=true:=idx_ok (by omega) (by omega)
  have hc:decide ((Nt.of (Nr.num (s.take i))).length≤1000000∧1≤(10:Int)∧(10:Int)≤65535∧0≤v3∧v3≤65535)=true:=decide_eq_true (by omega)
  rw [decide_eq_true (show (i:Int)<s.length by omega)]
  simp only [f1,e2,hx,hc,Nt.norm_of,Bool.not_false,Bool.not_true,Bool.false_or,Bool.or_true,Bool.true_or,Bool.and_self,ck_true,cond_false,cond_true]
  rw [e4,e5]
  exact ih (i+1) (by omega)
theorem bg_Parse.goal (s:Str) (hp:(decide (1≤s.length∧s.length≤300∧s.getD 0 0≠48)&&s.all Nr.isDig)=true):bg_Parse.F s=some [.sl .ws (Nt.of (Nr.num s)),.b true]:=by
 simp only [Bool.and_eq_true,decide_eq_true_eq] at hp
 obtain ⟨⟨l1,l2,l3⟩,hs⟩:=hp
 refine bg_Parse.F_in _ ?_
 intro v1 h1 v2 h2 v3 h3 v4 h4
 have hne:s≠[]:=by intro e;subst e;simp at l1
 have d0:decide (s=([]:Str))=false:=decide_eq_false hne
 have d1:v1=false:=by rw [h1,d0,cond_false];exact decide_eq_false (by omega)
 have d2:decide (v2=(48:UInt8))=false:=by rw [h2];exact decide_eq_false l3
 rw [d2] at h3 h4 ⊢
 have d3:v3=false:=by rw [h3,d1];rfl
 have d4:v4=false:=h4
 have hx:idxOK 0 s.length=true:=idx_ok (by omega) (by omega)
 simp only [d0,d1,d3,d4,hx,Bool.not_false,Bool.not_true,Bool.false_or,Bool.or_true,Bool.true_or,Bool.and_self,ck_true,cond_false,cond_true]
 have:=bg_Parse.l1_ok s hs l2 s.length 0 (by omega)
 rw [List.take_zero,show Nr.num []=0 from rfl,Nt.of_zero] at this
 exact this
theorem lay_end {a acc:List UInt16} {b c k:Nat} (hn:Nt.norm a=true) (hl:acc.length=a.length) (hb:1≤b) (hk:k≤65535) (hv:Nt.val acc+65536 ^ a.length * k=Nt.val a * b+c) :
  (k=0→Nt.of (Nt.val a * b+c)=acc)∧(k≠0→Nt.of (Nt.val a * b+c)=acc++[UInt16.ofNat k]):=by
 refine ⟨fun c0=>?_,fun c0=>?_⟩
 ·subst c0
  rw [←hv,Nat.mul_zero,Nat.add_zero,Nt.of_val]
  by_cases h0:a=[]
  ·subst h0
   have:acc=[]:=List.eq_nil_of_length_eq_zero hl
   rw [this];rfl
  ·have hpos:=norm_last hn h0
   have hl0:=List.length_pos_iff.2 h0
   have h0':acc≠[]:=by intro e;subst e;simp at hl;omega
   rw [norm_getD h0']
   simp only [Bool.not_eq_true',decide_eq_false_iff_not]
   intro e0
   have hva:=val_take_succ acc (acc.length - 1) (by omega)
   rw [show acc.length - 1+1=acc.length by omega,List.take_length,e0] at hva
   have hlt:=Nt.val_lt (acc.take (acc.length - 1))
   rw [List.length_take,Nat.min_eq_left (by omega),hl] at hlt
   rw [hl] at hva
   have h5:65536 ^ (a.length - 1) * 1≤65536 ^ (a.length - 1) * (a.getD (a.length - 1) 0).toNat:=Nat.mul_le_mul_left _ hpos.1
   have h6:Nt.val a * 1≤Nt.val a * b:=Nat.mul_le_mul_left _ hb
   have e0':(0:UInt16).toNat=0:=rfl
   rw [e0'] at hva
   omega
 ·have e8:Nt.val (acc++[UInt16.ofNat k])=Nt.val acc+65536 ^ a.length * k:=by
   rw [Nt.val_append,hl];simp only [Nt.val,Nat.mul_zero,Nat.add_zero,Nt.u16_ofNat];rw [Nat.mod_eq_of_lt (by omega)]
  rw [←hv,←e8,Nt.of_val]
  rw [Nt.norm_snoc]
  refine decide_eq_true fun e=>?_
  have:=congrArg UInt16.toNat e
  rw [Nt.u16_ofNat] at this
  have e0:(0:UInt16).toNat=0:=rfl
  omega
theorem u32_of_u16 (d:UInt16):(UInt32.ofInt (d.toNat:Int)).toNat=d.toNat:=by
 have h:=u32_ofInt (d.toNat:Int)
 rw [wrap_u32'] at h
 have:=d.toNat_lt
 omega
theorem u16_of_u32 (x:UInt32):UInt16.ofInt (x.toNat:Int)=UInt16.ofNat x.toNat:=u16_of_u64 _
theorem bg_up.l1_ok (a:List UInt16) (n:Nat) (ha:a.length≤1000000) (hn:Nt.norm a=true) (hn16:n<16):∀(m i:Nat) (acc:List UInt16) (k:UInt32),i+m=a.length→acc.length=i→k.toNat<2 ^ n→Nt.val acc+65536 ^ i * k.toNat=Nt.val (a.take i) * 2 ^ n →
  bg_up.l1 n acc k a a.length i=some [.sl .ws (Nt.of (Nt.val a * 2 ^ n))]:=by
 have hp16:2 ^ n≤32768:=Nat.pow_le_pow_right (n:=2) (by omega) (show n≤15 by omega)
 have hp0:=Nat.two_pow_pos n
 intro m
 induction m with
 | zero =>
  intro i acc k hi hl hk hv
  refine bg_up.l1_in _ _ _ _ _ _ ?_
  intro v1 h1 v2 h2 v3 h3 v4 h4 v5 h5 v6 h6 v7 h7
  rw [List.take_of_length_le (by omega)] at hv
  rw [decide_eq_false (by omega),cond_false]
  have hia:i=a.length:=by omega
  have he:=lay_end (a:=a) (acc:=acc) (b:=2 ^ n) (c:=0) (k:=k.toNat) hn (by omega) hp0 (by omega) (by rw [←hia,Nat.add_zero];exact hv)
  rw [Nat.add_zero] at he
  by_cases c0:k=0
  ·rw [c0,decide_eq_false (by decide),cond_false,bg_up.j2_eq,he.1 (by rw [c0];rfl)]
  ·have hk0:k.toNat≠0:=fun e=>c0 (UInt32.toNat_inj.1 e)
   have e7:v7=UInt16.ofNat k.toNat:=by rw [h7,u16_of_u32]
   rw [decide_eq_true (by rw [UInt32.lt_iff_toNat_lt];show 0<k.toNat;omega),cond_true,ck_of (big_ap (by rw [List.length_singleton];omega) (by rw [List.length_singleton];omega)),bg_up.j2_eq,e7,he.2 hk0]
 | succ m ih =>
  intro i acc k hi hl hk hv
  refine bg_up.l1_in _ _ _ _ _ _ ?_
  intro v1 h1 v2 h2 v3 h3 v4 h4 v5 h5 v6 h6 v7 h7
  rw [Int.toNat_natCast] at h1 h3
  have hd:=v1.toNat_lt
  have hm:v1.toNat * 2 ^ n≤65535 * 32768:=Nat.mul_le_mul (by omega) hp16
  have e3:v3.toNat=k.toNat+v1.toNat * 2 ^ n:=by
   rw [h3,UInt32.toNat_or,shl32,UInt32.toNat_ofNat',h2,u32_of_u16,Nat.mod_eq_of_lt (by omega),Nat.or_comm,or_add hk,Nat.add_comm]
  have e4:v4=UInt16.ofNat (k.toNat+v1.toNat * 2 ^ n):=by rw [h4,u16_of_u32,e3]
  have e5:v5.toNat=(k.toNat+v1.toNat * 2 ^ n) / 65536:=by
   rw [h5,shr32,UInt32.toNat_ofNat',e3,show (16:UInt64).toNat=16 from rfl];omega
  have e6:v6=((i+1:Nat):Int):=by rw [h6,i64_in _ (by omega)];omega
  rw [decide_eq_true (by omega),cond_true,ck_of (idx_ok (by omega) (by omega)),ck_of (decide_eq_true (by omega)),ck_of (big_ap (by rw [List.length_singleton];omega) (by rw [List.length_singleton];omega)),e6,e4]
  refine ih (i+1) _ v5 (by omega) (by rw [List.length_append,hl];rfl) ?_ ?_
  ·rw [e5]
   have:(k.toNat+v1.toNat * 2 ^ n)<65536 * 2 ^ n:=by
    have:v1.toNat * 2 ^ n≤65535 * 2 ^ n:=Nat.mul_le_mul_right _ (by omega)
    omega
   exact (Nat.div_lt_iff_lt_mul (by omega)).2 (by rw [Nat.mul_comm (2 ^ n) 65536];exact this)
  ·rw [val_take_succ a i (by omega),←h1,Nt.val_append,hl,e5]
   simp only [Nt.val,Nat.mul_zero,Nat.add_zero,Nt.u16_ofNat]
   generalize hq:k.toNat+v1.toNat * 2 ^ n=q
   rw [Nat.pow_succ,Nat.mul_assoc,Nat.add_assoc,←Nat.mul_add]
   have:q % 65536+65536 * (q / 65536)=q:=Nat.mod_add_div q 65536
   rw [this,←hq,Nat.mul_add,Nat.add_mul,←Nat.mul_assoc]
   omega
theorem bg_up.goal (a:List UInt16) (n:Int) (hp:(decide (a.length≤1000000∧0≤n∧n<16)&&Nt.norm a)=true):bg_up.F a n=some [.sl .ws (Nt.of (Nt.val a * 2 ^ n.toNat))]:=by
 simp only [Bool.and_eq_true,decide_eq_true_eq] at hp
 obtain ⟨⟨l1,n1,n2⟩,hn⟩:=hp
 rw [bg_up.F_eq]
 have:=bg_up.l1_ok a n.toNat l1 hn (by omega) a.length 0 [] 0 (by omega) rfl (by show 0<2 ^ n.toNat;exact Nat.two_pow_pos _) (by simp [Nt.val])
 rw [show ((n.toNat:Nat):Int)=n by omega] at this
 exact this
end Go.Eng
namespace Go.Eng
open Go.IntWalk
theorem pw257:(65536:Nat) ^ 257=65536 ^ 256 * 65536:=by decide +kernel
theorem val_replicate0:∀k,Nt.val (List.replicate k 0)=0
 | 0=>rfl
 | k+1=>by rw [List.replicate_succ,Nt.val,val_replicate0 k];rfl
theorem bg_Up.goal (a:List UInt16) (n:Int) (hp:(decide (0≤n∧n≤4096)&&Nt.is a)=true):bg_Up.F a n=some [.sl .ws (Nt.of (Nt.val a * 2 ^ n.toNat))]:=by
 simp only [Bool.and_eq_true,decide_eq_true_eq] at hp
 obtain ⟨⟨n1,n2⟩,ha⟩:=hp
 have hl:=Nt.is_len ha
 have hn:=Nt.is_norm ha
 refine bg_Up.F_in _ _ ?_
 intro v1 h1 v2 h2 v3 h3 v4 h4 v5 h5 v6 h6
 have d1:v1=false:=by rw [h1,ha,Bool.not_true,cond_false];exact decide_eq_false (by omega)
 have d2:v2=false:=by rw [h2,d1,cond_false];exact decide_eq_false (by omega)
 rw [d2,cond_false] at h3
 obtain ⟨N,rfl⟩:∃N:Nat,n=N:=⟨n.toNat,by omega⟩
 have e4:v4=((N / 16:Nat):Int):=by
  rw [h4,i64_in _ (by rw [Int.tdiv_eq_ediv_of_nonneg (by omega)];omega),Int.tdiv_eq_ediv_of_nonneg (by omega)];omega
 have em:Int.tmod (N:Int) 16=((N % 16:Nat):Int):=by rw [Int.tmod_eq_emod_of_nonneg (by omega)];omega
 rw [em,Int.toNat_natCast] at h6
 rw [em]
 rw [e4,Int.toNat_natCast] at h5
 have hlen6:v6.length≤257:=by
  rw [h6]
  refine (Nt.of_length _ 257).2 ?_
  have h7:=Nt.val_lt a
  have h8:65536 ^ a.length≤65536 ^ 256:=Nat.pow_le_pow_right (by omega) hl
  have h9:2 ^ (N % 16)≤65536:=Nat.pow_le_pow_right (n:=2) (by omega) (show N % 16≤16 by omega)
  rewrite [pw257]
  have h10:Nt.val a * 2 ^ (N % 16)≤Nt.val a * 65536:=Nat.mul_le_mul_left _ h9
  omega
 have m1:mkOK v4 v4 2=true:=mkOK_iff.2 ⟨by omega,by omega,by omega,by rw [maxLen_eq];omega⟩
 have m2:decide (a.length≤1000000∧0≤((N % 16:Nat):Int)∧((N % 16:Nat):Int)<16)=true:=decide_eq_true (by omega)
 have m3:apOK (v5.length+v6.length) 2=true:=big_ap (by rw [h5,List.length_replicate];omega) (by rw [h5,List.length_replicate];omega)
 have m4:decide (a.length≤1099511627776)=true:=decide_eq_true (by omega)
 simp only [d1,d2,ha,m1,m2,m3,m4,hn,Bool.not_false,Bool.not_true,Bool.false_or,Bool.or_true,Bool.true_or,Bool.and_self,ck_true,Int.toNat_natCast]
 by_cases c:a=[]
 ·have d3:v3=true:=by rw [h3,c];rfl
  rw [d3,cond_true,c,show Nt.val []=0 from rfl,Nat.zero_mul,Nt.of_zero]
 ·have hl0:=List.length_pos_iff.2 c
  have d3:v3=false:=by rw [h3];exact decide_eq_false (by omega)
  rw [d3,cond_false,show (!decide ((16:Int)=0))=true from rfl,ck_true,ck_true]
  have e:Nt.val (v5++v6)=Nt.val a * 2 ^ N:=by
   rw [Nt.val_append,h5,val_replicate0,List.length_replicate,h6,Nt.val_of,Nat.zero_add,show (65536:Nat)=2 ^ 16 by decide,←Nat.pow_mul,Nat.mul_left_comm,←Nat.pow_add]
   congr 2;omega
  rw [←e,Nt.of_val]
  have hpos:=norm_pos' hn c
  have h6n:v6≠[]:=by
   rw [h6,Nt.of_pos]
   ·simp
   ·exact Nat.mul_pos hpos (Nat.two_pow_pos _)
  have:∀x y:List UInt16,y≠[]→Nt.norm (x++y)=Nt.norm y:=by
   intro x y hy
   induction x with
   | nil=>rfl
   | cons d x ih=>rw [List.cons_append,Nt.norm_cons (by simp [hy]),ih]
  rw [this _ _ h6n,h6,Nt.norm_of]
where
 norm_pos' {a:List UInt16} (h:Nt.norm a=true) (h0:a≠[]):0<Nt.val a:=Nt.norm_pos h h0
def downL (n:Nat):List UInt16→List UInt16
 | []=>[]
 | d :: r=>UInt16.ofNat (d.toNat / 2 ^ n+(r.getD 0 0).toNat * 2 ^ (16 - n)) :: downL n r
theorem downL_length (n:Nat):∀a,(downL n a).length=a.length
 | []=>rfl
 | d :: r=>by rw [downL,List.length_cons,List.length_cons,downL_length n r]
theorem downL_val {n:Nat} (hn:n<16):∀a,Nt.val (downL n a)=Nt.val a / 2 ^ n
 | []=>by simp [downL,Nt.val]
 | d :: r=>by
  have ih:=downL_val hn r
  rw [downL,Nt.val,ih,Nt.val,Nt.u16_ofNat]
  have hp:=Nat.two_pow_pos n
  have hd:=d.toNat_lt
  have hP:(2:Nat) ^ n * 2 ^ (16 - n)=65536:=by rw [←Nat.pow_add,show n+(16 - n)=16 by omega]
  have hR:∃h R,Nt.val r=h+65536 * R∧(r.getD 0 0).toNat=h∧h<65536:=by
   cases r with
   | nil=>exact ⟨0,0,rfl,rfl,by omega⟩
   | cons e s=>exact ⟨e.toNat,Nt.val s,rfl,rfl,e.toNat_lt⟩
  obtain ⟨h,R,e1,e2,e3⟩:=hR
  rw [e1,e2]
  generalize d.toNat=x at *
  have hq:x / 2 ^ n<2 ^ (16 - n):=(Nat.div_lt_iff_lt_mul hp).2 (by rw [Nat.mul_comm,hP];omega)
  have hP2:=Nat.two_pow_pos (16 - n)
  generalize hA:(2:Nat) ^ n=A at *
  generalize hB:(2:Nat) ^ (16 - n)=B at *
  -- left: ((x / A+h * B) % 65536)+65536 * ((h+65536 * R) / A)
  have k1:(h+65536 * R) / A=h / A+B * R:=by
   rw [←hP,Nat.mul_assoc,Nat.add_mul_div_left _ _ hp]
  have k2:(x+65536 * (h+65536 * R)) / A=x / A+B * (h+65536 * R):=by
   conv=>lhs;rw [←hP,Nat.mul_assoc]
   rw [Nat.add_mul_div_left _ _ hp,hP]
  have k3:(x / A+h * B) % 65536+65536 * (h / A)=x / A+h * B:=by
   have h1:h=A * (h / A)+h % A:=(Nat.div_add_mod h A).symm
   have h2:=Nat.mod_lt h hp
   have h3:h * B=65536 * (h / A)+(h % A) * B:=by
    conv=>lhs;rw [h1]
    rw [Nat.add_mul,Nat.mul_right_comm,hP]
   have h4:(h % A+1) * B≤A * B:=Nat.mul_le_mul_right _ h2
   rw [hP,Nat.succ_mul] at h4
   rw [h3,←Nat.add_assoc,Nat.add_right_comm,Nat.add_mul_mod_self_left,Nat.mod_eq_of_lt (by omega)]
  rw [k1,k2,Nat.mul_add,Nat.mul_add,←Nat.add_assoc,k3,Nat.mul_comm h B,Nat.mul_left_comm 65536 B R]
  omega
theorem downL_get {n:Nat}:∀(a:List UInt16) (i:Nat),i<a.length→(downL n a).getD i 0=UInt16.ofNat ((a.getD i 0).toNat / 2 ^ n+(a.getD (i+1) 0).toNat * 2 ^ (16 - n))
 | [],i,h=>by simp at h
 | d :: r,0,h=>by simp [downL]
 | d :: r,i+1,h=>by
  have:=downL_get (n:=n) r i (by simpa using h)
  simpa [downL] using this
theorem getD_set_ne {α:Type} (l:List α) (i:Nat) (x d:α) (h:i<l.length):(l.set i x).getD i d=x:=by
 simp [List.getD_eq_getElem?_getD,h]
theorem take_set_succ {α:Type} (l:List α) (i:Nat) (x d:α) (h:i<l.length):(l.set i x).take (i+1)=l.take i++[x]:=by
 rw [List.take_add_one,List.take_set_of_le (Nat.le_refl _)]
 simp [h]
theorem bg_down.l1_ok (a:List UInt16) (n:Nat) (ha:a.length≤1000000) (hn:n<16):∀(m i:Nat) (acc:List UInt16),i+m=a.length→acc.length=a.length→acc.take i=(downL n a).take i →
  bg_down.l1 a n a a.length i acc=some [.sl .ws (Nt.of (Nt.val a / 2 ^ n))]:=by
 intro m
 induction m with
 | zero =>
  intro i acc hi hl ht
  refine bg_down.l1_in _ _ _ _ _ _ ?_
  intro v1 h1 v2 h2 v3 h3 v4 h4 v5 h5 v6 h6 v7 h7 v8 h8 v9 h9
  rw [List.take_of_length_le (by omega),List.take_of_length_le (by rw [downL_length];omega)] at ht
  rw [decide_eq_false (by omega),cond_false,ck_of (decide_eq_true (by omega)),ht,downL_val hn]
 | succ m ih =>
  intro i acc hi hl ht
  refine bg_down.l1_in _ _ _ _ _ _ ?_
  intro v1 h1 v2 h2 v3 h3 v4 h4 v5 h5 v6 h6 v7 h7 v8 h8 v9 h9
  rw [Int.toNat_natCast] at h1 h2 h4 h9
  rw [Int.toNat_natCast] at h2
  have e3:v3=((i+1:Nat):Int):=by rw [h3,i64_in _ (by omega)];omega
  have e7:v7=((16 - n:Nat):Int):=by rw [h7,i64_in _ (by omega)];omega
  rw [e3,Int.toNat_natCast] at h5
  rw [e7,Int.toNat_natCast] at h8
  have hl2:v2.length=a.length:=by rw [h2,List.length_set];exact hl
  have e4:v4=shr16 v1 n:=by rw [h4,h2,getD_set_ne _ _ _ _ (by omega)]
  have hx:∀l:List UInt16,l.length=a.length→idxOK (i:Int) l.length=true:=fun l h=>idx_ok (by omega) (by omega)
  rw [decide_eq_true (show (i:Int)<(a.length:Int) by omega),cond_true,ck_of (hx a rfl),ck_of (decide_eq_true (by omega)),ck_of (hx acc hl),ck_of (decide_eq_true (by rw [Int.toNat_natCast];omega))]
  have hd1:=v1.toNat_lt
  have hs:(shr16 v1 n).toNat=v1.toNat / 2 ^ n:=by
   rw [shr16,UInt16.toNat_ofNat']
   exact Nat.mod_eq_of_lt (Nat.lt_of_le_of_lt (Nat.div_le_self _ _) hd1)
  have hget:=downL_get (n:=n) a i (by omega)
  rw [←h1] at hget
  have htk:∀(l:List UInt16) (x:UInt16),l.length=a.length→l.take i=acc.take i→x=(downL n a).getD i 0→(l.set i x).take (i+1)=(downL n a).take (i+1):=by
   intro l x h1 h2 h3
   rw [take_set_succ l i x 0 (by omega),h2,ht,List.take_add_one (l:=downL n a),List.getElem?_eq_getElem (by rw [downL_length];omega),h3,List.getD_eq_getElem?_getD,List.getElem?_eq_getElem (by rw [downL_length];omega)]
   rfl
  by_cases c:i+1<a.length
  ·rw [e3,decide_eq_true (show ((i+1:Nat):Int)<(a.length:Int) by omega),cond_true,ck_of (hx v2 hl2),ck_of (decide_eq_true (by rw [Int.toNat_natCast];omega)),ck_of (idx_ok (by omega) (by omega)),ck_of (decide_eq_true (by omega)),ck_of (hx v2 hl2),ck_of (decide_eq_true (by rw [Int.toNat_natCast];omega))]
   refine bg_down.j2_in _ _ _ _ _ _ ?_
   intro u1 g1
   rw [g1,i64_in _ (by omega),show (i:Int)+1=((i+1:Nat):Int) by omega]
   refine ih (i+1) v9 (by omega) (by rw [h9,List.length_set,hl2]) ?_
   rw [h9]
   refine htk v2 _ hl2 (by rw [h2,List.take_set_of_le (Nat.le_refl _)]) ?_
   rw [hget,←h5,e4]
   apply UInt16.toNat_inj.1
   have hq:v1.toNat / 2 ^ n<2 ^ (16 - n):=(Nat.div_lt_iff_lt_mul (Nat.two_pow_pos n)).2 (by rw [←Nat.pow_add,show 16 - n+n=16 by omega];exact hd1)
   have e8:v8.toNat=v5.toNat * 2 ^ (16 - n) % 65536:=by
    rw [h8,u16_of_u32,Nt.u16_ofNat,shl32,UInt32.toNat_ofNat',h6,u32_of_u16];omega
   rw [UInt16.toNat_or,hs,e8,Nt.u16_ofNat]
   have e9:v5.toNat * 2 ^ (16 - n) % 65536=(v5.toNat % 2 ^ n) * 2 ^ (16 - n):=by
    conv=>lhs;rw [show (65536:Nat)=2 ^ n * 2 ^ (16 - n) by rw [←Nat.pow_add,show n+(16 - n)=16 by omega]]
    rw [Nat.mul_mod_mul_right]
   have e10:(v5.toNat % 2 ^ n) * 2 ^ (16 - n)+v1.toNat / 2 ^ n<65536:=by
    have h1:=Nat.mod_lt v5.toNat (Nat.two_pow_pos n)
    have h2:(v5.toNat % 2 ^ n+1) * 2 ^ (16 - n)≤2 ^ n * 2 ^ (16 - n):=Nat.mul_le_mul_right _ h1
    rw [←Nat.pow_add,show n+(16 - n)=16 by omega,Nat.succ_mul] at h2
    omega
   have h11:v1.toNat / 2 ^ n % 65536=v1.toNat / 2 ^ n:=Nat.mod_eq_of_lt (by omega)
   have e12:(v1.toNat / 2 ^ n+v5.toNat * 2 ^ (16 - n)) % 65536=(v5.toNat % 2 ^ n) * 2 ^ (16 - n)+v1.toNat / 2 ^ n:=by
    rw [Nat.add_mod,h11,e9,Nat.add_comm,Nat.mod_eq_of_lt e10]
   rw [e12,e9,Nat.or_comm,or_add hq]
  ·rw [e3,decide_eq_false (show ¬((i+1:Nat):Int)<(a.length:Int) by omega),cond_false]
   refine bg_down.j2_in _ _ _ _ _ _ ?_
   intro u1 g1
   rw [g1,i64_in _ (by omega),show (i:Int)+1=((i+1:Nat):Int) by omega]
   refine ih (i+1) v2 (by omega) hl2 ?_
   rw [h2]
   refine htk acc _ hl rfl ?_
   rw [hget]
   apply UInt16.toNat_inj.1
   have:a.getD (i+1) 0=0:=by rw [List.getD_eq_getElem?_getD,List.getElem?_eq_none (by omega)];rfl
   rw [hs,this,Nt.u16_ofNat,show (0:UInt16).toNat=0 from rfl,Nat.zero_mul,Nat.add_zero,Nat.mod_eq_of_lt (Nat.lt_of_le_of_lt (Nat.div_le_self _ _) hd1)]
theorem bg_down.goal (a:List UInt16) (n:Int) (hp:decide (a.length≤1000000∧0≤n∧n<16)=true):bg_down.F a n=some [.sl .ws (Nt.of (Nt.val a / 2 ^ n.toNat))]:=by
 obtain ⟨l1,n1,n2⟩:=of_decide_eq_true hp
 refine bg_down.F_in _ _ ?_
 intro v1 h1
 rw [Int.toNat_natCast] at h1
 rw [ck_of (mkOK_iff.2 ⟨by omega,by omega,by omega,by rw [maxLen_eq];omega⟩)]
 have:=bg_down.l1_ok a n.toNat l1 (by omega) a.length 0 v1 (by omega) (by rw [h1];simp) (by simp)
 rw [show ((n.toNat:Nat):Int)=n by omega] at this
 exact this
end Go.Eng
