/- Texts of my own, one behind the other: WcN2, WcN3, WcN4, WcE1, WcE2, WcR1, WcM1, WcM2, WcM3, WcM4, WcM5, WcN5, WcM6, WcJ, WcS1, WcS2, WcS3, WcS4, WcS5, WcFlip, WcBk, WcShelf, WcFmt, WcDec, WcHand, WcLib, WcQ1, WcQ2, WcQ3, WcQ4, WcQ5, WcQ6. -/
import Derived.Test.YthkfiedkcmpokaaGreatDoorT4
import Derived.Ground.Names7Prog
import Derived.Shelf.Strings.SlTrimAscii
import Derived.Shelf.Strings.Search1
import Derived.Shelf.Strings.Search2
import Derived.Shelf.Spec.TrailingZeros
import Derived.Shelf.Strings.OnBuilder
import Derived.Shelf.Strings.Repeat
import Derived.Shelf.LaysM
import Derived.Shelf.Strconv.Itoa3
import Derived.Shelf.Strconv.Itoa4
import Derived.Shelf.LaysC
import Derived.Shelf.Strconv.ParseIntPublic10
import Derived.Test.YthkfiedkcmpokaaGreatDoorProg
import Derived.Shelf.Strconv.Itoa1
import Derived.Shelf.Strconv.Itoa2
import Derived.Lib.Walk
import Derived.Lib.ItoaMem
import Derived.WalkKit
import Derived.WalkSpells
import Derived.BigCall
import Derived.BigGuard
import Derived.Lib.Mul64
set_option linter.defProp false
set_option linter.unusedVariables false
set_option linter.unusedSimpArgs false
noncomputable section
set_option maxRecDepth 20000
namespace Go.Eng
open Go.IntWalk
namespace Nr
theorem wF{a:Nat}(h:0<a)(e:Int):0<lu a e:=Nat.mul_pos h (Nat.two_pow_pos _)
def pt(Q F:Nat):Nat:=if Q<4503599627370496 then Q else(F+1)*4503599627370496+(Q -4503599627370496)
theorem On{Q F:Nat}(h:4503599627370496<=Q\/F=0)(h2:Q<9007199254740992):ll (pt Q F)=Q/\sh (pt Q F)=F:=by unfold pt;split;{rename_i c;obtain rfl:F=0:=by{omega};unfold ll sh;rw[ar c,show Q/4503599627370496=0 by omega];exact⟨rfl,rfl⟩};{rename_i c;exact L2 (by omega) h2}
theorem PW(Q F:Nat):pt Q F%2=Q%2:=by unfold pt;split<;>omega
theorem LX{a b Q:Nat}{E:Int}{F:Nat}(hb:0<b)(hE:E+1074=F)(hQ:Q=lL a E/lu b E)(h:4503599627370496<=Q\/F=0)(h2:Q<9007199254740992):(V (pt Q F)*b<=a*2^1074/\a*2^1074<V (pt Q F+1)*b)/\(iz a b (pt Q F)↔(lu b E<2*(lL a E% lu b E)\/(lu b E=2*(lL a E% lu b E)/\Q%2=1))):=by obtain⟨m1,m2⟩:=On h h2;have hB:=wF hb E;have Si:=Nat.div_add_mod (lL a E) (lu b E);have hr:=Nat.mod_lt (lL a E) hB;rw[<-hQ]at Si;generalize hR:lL a E% lu b E=R at*;have QT:V (pt Q F)=Q*2^F:=by{unfold V;rw[m1,m2]};have Sl:V (pt Q F+1)=(Q+1)*2^F:=by{rw[Br,m1,m2]};have k1:∀n:Nat,n*2^F*b*2^(-E).toNat=n*lu b E*2^1074:=λn=>by{unfold lu;exact JP (Ci (a:=F) (b:=(-E).toNat) (c:=E.toNat) (d:=1074) (by omega))};have k2:a*2^1074*2^(-E).toNat=lL a E*2^1074:=by{unfold lL;rw[Nat.mul_right_comm]};have hp:=Nat.two_pow_pos (-E).toNat;have Iv:=Nat.two_pow_pos 1074;refine⟨⟨?_,?_⟩,?_⟩;{refine Nat.le_of_mul_le_mul_right ?_ hp;rw[QT,k1,k2];refine ay _ ?_;rw[Nat.mul_comm];omega};{refine Nat.lt_of_mul_lt_mul_right (a:=2^(-E).toNat) ?_;rw[Sl,k1,k2];refine Nat.mul_lt_mul_of_pos_right ?_ Iv;rw[Nat.add_mul,Nat.mul_comm Q];omega};{unfold iz;rw[oJ,QT,Sl,PW,<-Nat.add_mul];have e:a*jK*2^(-E).toNat=2*lL a E*2^1074:=by{rw[mul_two (a:=a) kW,Nat.mul_assoc 2,k2,<-Nat.mul_assoc]};have k3:=k1 (Q+(Q+1));have g1:((Q+(Q+1))*2^F*b<a*jK)↔(Q+(Q+1))*lu b E<2*lL a E:=by{constructor;{intro h;have:=Nat.mul_lt_mul_of_pos_right h hp;rw[k3,e]at this;exact Nat.lt_of_mul_lt_mul_right this};{intro h;refine Nat.lt_of_mul_lt_mul_right (a:=2^(-E).toNat) ?_;rw[k3,e];exact Nat.mul_lt_mul_of_pos_right h Iv}};have g2:((Q+(Q+1))*2^F*b=a*jK)↔(Q+(Q+1))*lu b E=2*lL a E:=by{constructor;{intro h;have this:(Q+(Q+1))*2^F*b*2^(-E).toNat=a*jK*2^(-E).toNat:=by{rw[h]};rw[k3,e]at this;exact Nat.eq_of_mul_eq_mul_right Iv this};{intro h;refine Nat.eq_of_mul_eq_mul_right hp ?_;rw[k3,e,h]}};rw[g1,g2,Nat.add_mul,Nat.add_mul,Nat.one_mul];have hc:Q*lu b E=lu b E*Q:=Nat.mul_comm _ _;omega}
theorem uS(A B:Nat):(yU A B=A/B+1/\(B<2*(A% B)\/(B=2*(A% B)/\A/B%2=1)))\/(yU A B=A/B/\¬(B<2*(A% B)\/(B=2*(A% B)/\A/B%2=1))):=by unfold yU;split;{rename_i h;exact .inl ⟨rfl,h⟩};{rename_i h;exact .inr ⟨rfl,h⟩}
theorem zF{a b:Nat}{E:Int}(hb:0<b)(hE:-1074<=E)(h:4503599627370496<=lL a E/lu b E\/E=-1074)(h2:lL a E/lu b E<9007199254740992):jW a b=join false (yU (lL a E) (lu b E)) E:=by classical obtain⟨F,hF⟩:=Int.eq_ofNat_of_zero_le (show 0<=E+1074 by omega);generalize hQ:lL a E/lu b E=Q at*;have ZO:4503599627370496<=Q\/F=0:=by{omega};obtain⟨⟨a1,a2⟩,a3⟩:=LX hb hF hQ.symm ZO h2;obtain⟨m1,m2⟩:=On ZO h2;have QT:V (pt Q F)=Q*2^F:=by{unfold V;rw[m1,m2]};have Sl:V (pt Q F+1)=(Q+1)*2^F:=by{rw[Br,m1,m2]};have ex:(-(E+1074)).toNat=0:=by{omega};have ey:(E+1074).toNat=F:=by{omega};have hj:∀p M,V p=M*2^F->join false M E=if p<=top then some p else none:=λp M hv=>by{split;{rename_i ht;exact join_some false ht (by rw[ex,ey,Nat.pow_zero,Nat.mul_one,hv])};{rename_i ht;refine join_none false λq hq e=>ht ?_;rw[ex,ey,Nat.pow_zero,Nat.mul_one,<-hv]at e;exact Pn e▸hq}};have hr:=uS (lL a E) (lu b E);rw[hQ]at hr;by_cases hp:pt Q F<=top;{rw[M4 hb a1 a2 hp];rcases hr with⟨r1,r2⟩|⟨r1,r2⟩;{rw[ar (a3.2 r2),r1,hj _ _ Sl]};{rw[ao (λh=>r2 (a3.1 h)),r1,hj _ _ QT,ar hp]}};{rw[JN hb a1 (by omega)];rcases hr with⟨r1,r2⟩|⟨r1,r2⟩;{rw[r1,hj _ _ Sl,nO]};{rw[r1,hj _ _ QT,ao hp]}}
end Nr
theorem oB(a b:Nat):(Nt.cmp a b=-1/\a<b)\/(Nt.cmp a b=0/\a=b)\/(Nt.cmp a b=1/\b<a):=by unfold Nt.cmp;by_cases c:a<b;{rw[ar c];exact .inl ⟨rfl,c⟩};{rw[ao c];by_cases d:a=b;{rw[ar d];exact .inr (.inl ⟨rfl,d⟩)};{rw[ao d];exact .inr (.inr ⟨rfl,by omega⟩)}}
theorem MV{n:Nat}(h:n<2^64):(Nt.of n).length<=4:=(Nt.mf n 4).2 (by rw[show(65536:Nat)^4=2^64 by decide];exact h)
theorem dp.gF(A B:Nat)(hB:0<B)(hA:A<2^4090)(Yd:B<2^4090)(QW:A<2^60*B):dp.j1 (Nt.of A) (Nt.of B)=some [.u64 (UInt64.ofNat (Nr.yU A B)),.b (Nr.pg A B)]:=by have hpw:(2:Nat)^(6+4090)=64*2^4090:=Nr.PV 4090;apply dp.gM;intro v1 h1 v2 h2 v3 h3 v4 h4 v5 h5 v6 h6 v7 h7 v8 h8 v9 h9;rw[Nt.fH,Nt.fH]at h1 h2;have hr:=Nat.mod_lt A hB;have hq:A/B<2^60:=(Nat.div_lt_iff_lt_mul hB).2 QW;have e1:Nt.val v1=A/B:=by{rw[h1,Nt.fH]};have e2:Nt.val v2=A% B:=by{rw[h2,Nt.fH]};have e3:Nt.val v3=2*(A% B):=by{rw[h3,Nt.fH,e2];exact Nat.mul_comm ..};rw[e3,Nt.fH]at h4;have i1:Nt.is (Nt.of A)=true:=Nt.sF (by omega);have i2:Nt.is (Nt.of B)=true:=Nt.sF (by omega);have i3:Nt.is v1=true:=by{rw[h1];exact Nt.sF (by omega)};have i4:Nt.is v2=true:=by{rw[h2];exact Nt.sF (by omega)};have i5:Nt.is v3=true:=by{rw[h3];exact Nt.sF (by rw[e2];show A% B*2^1<_;omega)};have nb:Nt.of B≠[]:=by{rw[Nt.oI hB];simp};have l4:v1.length<=4:=by{rw[h1];exact MV (Nat.lt_of_lt_of_le hq (Nat.pow_le_pow_right (by omega) (by omega)))};rw[i1,i2,i3,i4,i5,aa nb];refine(bB (by rfl)).trans ?_;rw[bB (aa ⟨rfl,l4⟩)];refine(bB (by rfl)).trans ?_;refine(bB (by rfl)).trans ?_;rw[e1]at h6 h9⊢;have hb60:(2:Nat)^60=1152921504606846976:=by{decide};have e6:decide (v6=1)=decide (A/B%2=1):=by{have e6:v6.toNat=A/B%2:=by{rw[h6,UInt64.toNat_mod,fI];show A/B%18446744073709551616%2=_;omega};by_cases c:A/B%2=1;{rw[aa c,aa (fw (by rw[e6,c];rfl))]};{rw[ab c,ab (λh=>c (by rw[<-e6,h];rfl))]}};have e9:v9=UInt64.ofNat (A/B+1):=fw (by rw[h9,UInt64.toNat_add,fI,fI];show(A/B%18446744073709551616+1)%18446744073709551616=_;omega);have e9':decide (v9=9007199254740992)=decide (A/B+1=9007199254740992):=by{by_cases c:A/B+1=9007199254740992;{rw[aa c,e9,c];rfl};{rw[ab c,ab (λh=>c (by have:=congrArg UInt64.toNat h;rw[e9,fI]at this;have e0:(9007199254740992:UInt64).toNat=9007199254740992:=rfl;omega))]}};rw[e6]at h7;rcases oB (2*(A% B)) B with⟨q1,q2⟩|⟨q1,q2⟩|⟨q1,q2⟩;{rw[q1]at h4;subst h4;have e7:v7=false:=h7;have e8:v8=false:=by{rw[h8,e7];rfl};have e5:v5=false:=h5;have hn:Nr.yU A B=A/B:=by{unfold Nr.yU;rw[nO]};have hu:Nr.pg A B=false:=by{unfold Nr.pg;rw[hn];exact dF};rw[e8,e5,hn,hu];rfl};{rw[q1]at h4;subst h4;have e7:v7=decide (A/B%2=1):=h7;have e8:v8=decide (A/B%2=1):=by{rw[h8,e7];rfl};have e5:v5=true:=h5;rw[e8,e5];refine Eq.trans (b:=cond (decide (A/B%2=1)) (some [.u64 v9,.b (decide (v9=9007199254740992))]) (some [.u64 (UInt64.ofNat (A/B)),.b false])) rfl ?_;by_cases c:A/B%2=1;{have hn:Nr.yU A B=A/B+1:=by{unfold Nr.yU;rw[ar (.inr ⟨q2.symm,c⟩)]};have hu:Nr.pg A B=decide (A/B+1=9007199254740992):=by{unfold Nr.pg;rw[hn];by_cases d:A/B+1=9007199254740992;{rw[aa d,aa ⟨rfl,d⟩]};{rw[ab d,ab (λh=>d h.2)]}};rw[cT c,e9',e9,hn,hu]};{have hn:Nr.yU A B=A/B:=by{unfold Nr.yU;rw[nO]};have hu:Nr.pg A B=false:=by{unfold Nr.pg;rw[hn];exact dF};rw[cF c,hn,hu]}};{rw[q1]at h4;subst h4;have e7:v7=false:=h7;have e8:v8=true:=by{rw[h8];rfl};have e5:v5=false:=h5;have hn:Nr.yU A B=A/B+1:=by{unfold Nr.yU;rw[ar (.inl q2)]};have hu:Nr.pg A B=decide (A/B+1=9007199254740992):=by{unfold Nr.pg;rw[hn];by_cases d:A/B+1=9007199254740992;{rw[aa d,aa ⟨rfl,d⟩]};{rw[ab d,ab (λh=>d h.2)]}};rw[e8,e5];refine Eq.trans (b:=some [.u64 v9,.b (decide (v9=9007199254740992))]) rfl ?_;rw[e9',e9,hn,hu]}
theorem dp.goal(a b:List UInt16)(e:Int)(hp:(Nt.is a&&Nt.is b&&decide (-4096<=e/\e<=4096/\0<Nt.val b/\Nr.lL (Nt.val a) e<2^4090/\Nr.lu (Nt.val b) e<2^4090/\Nr.lL (Nt.val a) e<2^60*Nr.lu (Nt.val b) e))=true):dp.F a b e=some [.u64 (UInt64.ofNat (Nr.yU (Nr.lL (Nt.val a) e) (Nr.lu (Nt.val b) e))),.b (Nr.pg (Nr.lL (Nt.val a) e) (Nr.lu (Nt.val b) e))]:=by simp only[af,aD]at hp;obtain⟨⟨ha,hb⟩,p1,p2,p3,p4,p5,p6⟩:=hp;have key:=dp.gF (Nr.lL (Nt.val a) e) (Nr.lu (Nt.val b) e) (Nr.wF p3 e) p4 p5 p6;apply dp.bU;intro v1 h1 v2 h2;by_cases c:e<0;{have ew:IntKind.i64.wrap (0 -e)=-e:=by{rw[iw];omega};rw[ew]at h1;have eB:Nr.lu (Nt.val b) e=Nt.val b:=by{unfold Nr.lu;rw[show e.toNat=0 by omega,Nat.pow_zero,Nat.mul_one]};rw[cT c,ew,ha,aa (show 0<=-e/\-e<=4096 by omega)];refine(bB (by rfl)).trans ?_;rw[h1,<-Nt.dN (Nt.lp hb)];rw[eB]at key;rw[Nt.fH,eB];exact key};{have eA:Nr.lL (Nt.val a) e=Nt.val a:=by{unfold Nr.lL;rw[show(-e).toNat=0 by omega,Nat.pow_zero,Nat.mul_one]};rw[cF c,hb,aa (show 0<=e/\e<=4096 by omega)];refine(bB (by rfl)).trans ?_;rw[h2,<-Nt.dN (Nt.lp ha)];rw[eA]at key;rw[Nt.fH,eA];exact key}
namespace Nr
theorem Jj{a b i j t:Nat}{E:Int}(ha:a<2^i)(hb:2^(j -1)<=b)(hj:0<j)(h:(i:Int) -j+1 -E<=t):lL a E<2^t*lu b E:=by unfold lL lu;have h1:a*2^(-E).toNat<2^(i+(-E).toNat):=by{rw[Nat.pow_add];exact Nat.mul_lt_mul_of_pos_right ha (Nat.two_pow_pos _)};have h2:2^(t+(j -1)+E.toNat)<=2^t*(b*2^E.toNat):=by{rw[Nat.pow_add,Nat.pow_add,Nat.mul_assoc];exact Nat.mul_le_mul_left _ (ay _ hb)};have h3:2^(i+(-E).toNat)<=2^(t+(j -1)+E.toNat):=Nat.pow_le_pow_right (by omega) (by omega);exact Nat.lt_of_lt_of_le h1 (Nat.le_trans h3 h2)
theorem Tn{a b i j t:Nat}{E:Int}(ha:2^(i -1)<=a)(hi:0<i)(hb:b<2^j)(h:(t:Int)<=(i:Int) -1 -j -E):2^t*lu b E<=lL a E:=by unfold lL lu;have h1:2^(i -1+(-E).toNat)<=a*2^(-E).toNat:=by{rw[Nat.pow_add];exact ay _ ha};have h2:2^t*(b*2^E.toNat)<=2^(t+j+E.toNat):=by{rw[Nat.pow_add,Nat.pow_add,Nat.mul_assoc];exact Nat.mul_le_mul_left _ (ay _ (Nat.le_of_lt hb))};have h3:2^(t+j+E.toNat)<=2^(i -1+(-E).toNat):=Nat.pow_le_pow_right (by omega) (by omega);exact Nat.le_trans h2 (Nat.le_trans h3 h1)
theorem MK(a b:Nat)(E:Int):(lL a (E+1)=lL a E/\lu b (E+1)=2*lu b E)\/(lL a E=2*lL a (E+1)/\lu b (E+1)=lu b E):=by unfold lL lu;by_cases c:0<=E;{left;rw[show(-(E+1)).toNat=0 by omega,show(-E).toNat=0 by omega,show(E+1).toNat=E.toNat+1 by omega,Nat.pow_succ,<-Nat.mul_assoc,Nat.mul_comm _ 2];exact⟨rfl,rfl⟩};{right;rw[show(-E).toNat=(-(E+1)).toNat+1 by omega,show(E+1).toNat=0 by omega,show E.toNat=0 by omega,Nat.pow_succ,<-Nat.mul_assoc,Nat.mul_comm _ 2];exact⟨rfl,rfl⟩}
end Nr
theorem mc{a i k:Nat}(h:a<2^i)(hk:i<=k):a<2^k:=Nat.lt_of_lt_of_le h (Nat.pow_le_pow_right (by omega) hk)
theorem xH{a i j k:Nat}(h:a<2^i)(hk:i+j<=k):a*2^j<2^k:=by refine mc (i:=i+j) ?_ hk;rw[Nat.pow_add];exact Nat.mul_lt_mul_of_pos_right h (Nat.two_pow_pos _)
theorem eO.gF (E : Int) (M : Nat) (hM : M < 2 ^ 64) (hE : -1074 ≤ E ∧ E ≤ 2000) (a b : Nat) (h : Nr.jW a b = Nr.join false M E) : eO.j1 E (UInt64.ofNat M) = some [.u64 (Nr.pat (Nr.jW a b)), .b (Nr.jW a b).isSome] := by
  apply eO.gM
  intro v1 h1 v2 h2
  have e : (UInt64.ofNat M).toNat = M := by rw [fI]; have : (2 : Nat) ^ 64 = 18446744073709551616 := by decide
                                            omega
  rw [e, ← h] at h1 h2
  rw [iy, h1, h2]
theorem eO.goal(a b:List UInt16)(hp:(Nt.is a&&Nt.is b&&decide (0<Nt.val a/\0<Nt.val b/\Nt.val a<2^1100/\Nt.val b<2^2200))=true):eO.F a b=some [.u64 (Nr.pat (Nr.jW (Nt.val a) (Nt.val b))),.b (Nr.jW (Nt.val a) (Nt.val b)).isSome]:=by simp only[af,aD]at hp;obtain⟨⟨ha,hb⟩,p1,p2,p3,p4⟩:=hp;apply eO.bU;intro v1 h1 v2 h2 v3 h3 v4 h4 v5 h5 v6 h6 v7 h7 v8 h8;obtain⟨i1,i2,i3⟩:=Nt.lk p1;obtain⟨j1,j2,j3⟩:=Nt.lk p2;have i4:=Nt.nj p3;have j4:=Nt.nj p4;generalize Nt.bits (Nt.val a)=i at*;generalize Nt.bits (Nt.val b)=j at*;generalize Nt.val a=A at*;generalize Nt.val b=B at*;have e1:v1=(i:Int) -j:=by{rw[h1,iw]};have e2:v2=(i:Int) -j -53:=by{rw[h2,e1,iw]};have em:qI v2 (-1074)=max ((i:Int) -j -53) (-1074):=by{rw[e2];unfold qI;split<;>omega};rw[em]at h3 h4 h6⊢;generalize hE:max ((i:Int) -j -53) (-1074)=E at*;have hEb:-1074<=E/\E<=1046:=by{omega};have e6:v6=E+1:=by{rw[h6,iw]};rw[e6]at h7 h8;have ZZ:∀E:Int,-1074<=E->E<=1047->Nr.lL A E<2^4090/\Nr.lu B E<2^4090:=λE h1 h2=>by{unfold Nr.lL Nr.lu;constructor;{exact xH (k:=4090) i2 (by omega)};{exact xH (k:=4090) j2 (by omega)}};obtain⟨a1,a2⟩:=ZZ E (by omega) (by omega);obtain⟨a3,a4⟩:=ZZ (E+1) (by omega) (by omega);have t54:Nr.lL A E<2^54*Nr.lu B E:=Nr.Jj i2 j1 j3 (by omega);have t60:Nr.lL A E<2^60*Nr.lu B E:=Nr.Jj i2 j1 j3 (by omega);have Wm:Nr.lL A (E+1)<2^60*Nr.lu B (E+1):=Nr.Jj i2 j1 j3 (by omega);have hB:=Nr.wF p2 E;have ZX:=Nr.wF p2 (E+1);have hn:=Nr.MK A B E;have q54:Nr.lL A E/Nr.lu B E<2^54:=(Nat.div_lt_iff_lt_mul hB).2 t54;have Xy:(2:Nat)^54=18014398509481984:=by{decide};have hd64:(2:Nat)^64=18446744073709551616:=by{decide};rw[ha,hb,bB rfl,bB rfl,e6,aa (show -4096<=E/\E<=4096/\0<B/\Nr.lL A E<2^4090/\Nr.lu B E<2^4090/\Nr.lL A E<2^60*Nr.lu B E from⟨by omega,by omega,p2,a1,a2,t60⟩),aa (show -4096<=E+1/\E+1<=4096/\0<B/\Nr.lL A (E+1)<2^4090/\Nr.lu B (E+1)<2^4090/\Nr.lL A (E+1)<2^60*Nr.lu B (E+1) from⟨by omega,by omega,p2,a3,a4,Wm⟩)];refine(bB (by rfl)).trans ?_;have nG:∀b:Bool,(!b||b)=true:=by{decide};rw[bB (nG _),bB (nG _)];have hr:=Nr.uS (Nr.lL A E) (Nr.lu B E);have hup:Nr.pg (Nr.lL A E) (Nr.lu B E)=decide (Nr.yU (Nr.lL A E) (Nr.lu B E)=Nr.lL A E/Nr.lu B E+1/\Nr.yU (Nr.lL A E) (Nr.lu B E)=9007199254740992):=rfl;rw[hup]at h4;generalize hQ:Nr.lL A E/Nr.lu B E=Q at*;generalize hM:Nr.yU (Nr.lL A E) (Nr.lu B E)=M at*;have e3:decide ((9007199254740992:UInt64)<=v3)=decide (9007199254740992<=M):=by{have ev:v3.toNat=M:=by{rw[h3,fI];omega};by_cases c:9007199254740992<=M;{rw[aa c,aa (aJ.2 (by rw[ev];exact c))]};{rw[ab c,ab (λh=>c (by have:=aJ.1 h;rw[ev]at this;exact this))]}};have e5:v5=decide (9007199254740992<=M/\¬(M=Q+1/\M=9007199254740992)):=by{rw[h5,e3,h4];by_cases c:9007199254740992<=M;{rw[cT c];by_cases d:M=Q+1/\M=9007199254740992;{rw[aa d,ab (λh=>h.2 d)];rfl};{rw[ab d,aa ⟨c,d⟩];rfl}};{rw[cF c,ab (λh=>c h.1)]}};by_cases c:9007199254740992<=M/\¬(M=Q+1/\M=9007199254740992);{have X8:9007199254740992<=Q:=by{omega};rw[e5,cT c];refine(bB (by rfl)).trans ?_;have g1:9007199254740992*Nr.lu B E<=Nr.lL A E:=(Nat.le_div_iff_mul_le hB).1 (by rw[hQ];exact X8);have g2:4503599627370496<=Nr.lL A (E+1)/Nr.lu B (E+1):=(Nat.le_div_iff_mul_le ZX).2 (by rcases hn with⟨n1,n2⟩|⟨n1,n2⟩<;>rw[n2]<;>omega);have g3:Nr.lL A (E+1)/Nr.lu B (E+1)<9007199254740992:=(Nat.div_lt_iff_lt_mul ZX).2 (by rw[Xy]at t54;rcases hn with⟨n1,n2⟩|⟨n1,n2⟩<;>rw[n2]<;>omega);have It:=Nr.uS (Nr.lL A (E+1)) (Nr.lu B (E+1));rw[h7];exact eO.gF (E+1) _ (by omega) (by omega) A B (Nr.zF p2 (by omega) (.inl g2) g3)};{rw[e5,cF c,h3];have g3:Q<9007199254740992:=by{omega};refine eO.gF E M (by omega) (by omega) A B ?_;rw[<-hM];refine Nr.zF p2 (by omega) ?_ (by rw[hQ];exact g3);by_cases d:E=-1074;{exact .inr d};{left;refine(Nat.le_div_iff_mul_le hB).2 ?_;have:=Nr.Tn (t:=52) (E:=E) i1 i3 j2 (by omega);rw[show(2:Nat)^52=4503599627370496 by decide]at this;exact this}}
namespace Nr
theorem MY(b:bD):∀n:Nat,b.foldl (λn c=>10*n+(c.toNat -48)) n=n*10^b.length+num b:=by
 induction b with
 |nil=>intro n;simp[num]
 |cons c r ih=>intro n;unfold num;rw[List.foldl_cons,List.foldl_cons,ih,ih,av,Nat.pow_succ,Nat.mul_zero,Nat.zero_add,Nat.add_mul,Nat.mul_comm 10 n,Nat.mul_assoc,Nat.mul_comm 10 (10^_)];omega
theorem fJ(a b:bD):num (a++b)=num a*10^b.length+num b:=by unfold num;rw[List.foldl_append,MY];rfl
theorem tJ(c:UInt8)(r:bD):num (c::r)=(c.toNat -48)*10^r.length+num r:=by have:=fJ [c] r;rw[List.singleton_append]at this;rw[this];simp[num]
theorem jV(t:Nat):num (List.replicate t 48)=0:=by
 induction t with
 |zero=>rfl
 |succ t ih=>rw[List.replicate_succ,tJ,ih];simp
theorem kz(p:UInt8->Bool):∀d:bD,∃a,d=a++d.dropWhile p/\a.all p=true/\(d.dropWhile p=[]\/p ((d.dropWhile p).getD 0 0)=false)
 |[]=>⟨[],rfl,rfl,.inl rfl⟩
 |c::r=>by rw[List.dropWhile_cons];cases h:p c;{rw[ao (by simp)];exact⟨[],rfl,rfl,.inr h⟩};{rw[ar rfl];obtain⟨a,h1,h2,h3⟩:=kz p r;exact⟨c::a,by rw[List.cons_append,<-h1],by rw[List.all_cons,h,h2];rfl,h3⟩}
theorem Fu:∀{a:bD},(a.all (· ==48))=true->a=List.replicate a.length 48
 |[],_=>rfl
 |c::r,h=>by rw[List.all_cons,af]at h;rw[av,List.replicate_succ,<-Fu h.2];congr 1;simpa using h.1
theorem AO(d:bD):∃z,d=List.replicate z 48++xQ d/\(xQ d=[]\/(xQ d).getD 0 0≠48):=by obtain⟨a,h1,h2,h3⟩:=kz (· ==48) d;refine⟨a.length,?_,?_⟩;{rw[<-Fu h2];exact h1};{rcases h3 with h3|h3;{exact .inl h3};{exact .inr (by unfold xQ;simpa using h3)}}
theorem kq(d:bD):∃t,d=cU d++List.replicate t 48/\(cU d=[]\/(cU d).getLast?≠some 48):=by
 obtain⟨a,h1,h2,h3⟩:=kz (· ==48) d.reverse;refine⟨a.length,?_,?_⟩;{have e:d=(a++d.reverse.dropWhile (· ==48)).reverse:=by{rw[<-h1,List.reverse_reverse]};rw[List.reverse_append,Fu h2,List.reverse_replicate]at e;exact e}
 ·rcases h3 with h3|h3;{left;unfold cU;rw[h3];rfl}
  ·right;unfold cU;rw[List.getLast?_reverse];intro h;cases hd:d.reverse.dropWhile (· ==48)with
   |nil=>rw[hd]at h;cases h
   |cons c r=>rw[hd]at h h3;have:c=48:=by{simpa using h};subst this;simp at h3
theorem zb(b:UInt8):([48,49,50,51,52,53,54,55,56,57]:bD).contains b=dA b:=by have h:∀n,n<256->([48,49,50,51,52,53,54,55,56,57]:bD).contains (UInt8.ofNat n)=dA (UInt8.ofNat n):=by{decide+kernel};have:=h b.toNat b.toNat_lt;rwa[UInt8.ofNat_toNat]at this
theorem IW(d:bD):Lib.trimLeftS d [48]=xQ d:=by rw[Lib.trimLeftS_one];rfl
theorem BP(d:bD):Lib.trimRightS d [48]=cU d:=by rw[Lib.trimRightS_one];rfl
theorem dropWhile_nil{p:UInt8->Bool}:∀{l:bD},l.dropWhile p=[]↔l.all p=true
 |[]=>by simp
 |c::r=>by rw[List.dropWhile_cons,List.all_cons];cases h:p c;{simp};{rw[ar rfl,dropWhile_nil];simp}
theorem vJ(d:bD):(Lib.trimS d [48,49,50,51,52,53,54,55,56,57]=[])↔d.all dA=true:=by
 have e:(λb=>([48,49,50,51,52,53,54,55,56,57]:bD).contains b)=dA:=funext zb;have h1:∀l:bD,Lib.trimLeftS l [48,49,50,51,52,53,54,55,56,57]=l.dropWhile dA:=λl=>by{unfold Lib.trimLeftS;rw[e]};have h2:∀l:bD,Lib.trimRightS l [48,49,50,51,52,53,54,55,56,57]=(l.reverse.dropWhile dA).reverse:=λl=>by{unfold Lib.trimRightS;rw[e]};unfold Lib.trimS;rw[h1,h2,dropWhile_nil,List.all_reverse];constructor
 ·intro h;obtain⟨a,q1,q2,q3⟩:=kz dA d.reverse;have hn:d.reverse.dropWhile dA=[]:=by
   rcases q3 with q3|q3;{exact q3}
   ·cases hd:d.reverse.dropWhile dA with
    |nil=>rfl
    |cons c r=>rw[hd]at h q3;rw[List.all_cons,af]at h;have:dA c=false:=q3;rw[this]at h;cases h.1
  rw[dropWhile_nil,List.all_reverse]at hn;exact hn
 {intro h;rw[(dropWhile_nil (l:=d.reverse)).2 (by rw[List.all_reverse];exact h)];rfl}
theorem vb{d:bD}(h:d.all dA=true)(h0:d≠[])(h1:d.getD 0 0≠48):10^(d.length -1)<=num d:=by
 cases d with
 |nil=>exact(h0 rfl).elim
 |cons c r=>rw[List.all_cons,af]at h;have hc:=iF.1 h.1;have h1:c≠48:=h1;have E1:c.toNat≠48:=λe=>h1 (UInt8.toNat_inj.1 e);rw[tJ,av,Nat.add_sub_cancel];have:1*10^r.length<=(c.toNat -48)*10^r.length:=ay _ (by omega);omega
theorem Ed:jK<=10^324:=by decide+kernel
theorem Ee:Ax<=10^309:=by decide+kernel
theorem fg(k:Nat):0<10^k:=Nat.pow_pos (by omega)
theorem nN{a b:Nat}(h:a<=b):10^a<=10^b:=Nat.pow_le_pow_right (by omega) h
theorem MA{a b i j k:Nat}(h1:a<=10^i)(h2:b<=10^j)(h:i+j<=k):a*b<=10^k:=by refine Nat.le_trans (Nat.mul_le_mul h1 h2) ?_;rw[<-Nat.pow_add];exact nN h
theorem I1{a b i j k l:Nat}(h1:a<=10^i)(h2:10^k<=b)(h:i+j<=k+l):a*10^j<=b*10^l:=by refine Nat.le_trans (ay _ h1) (Nat.le_trans ?_ (ay _ h2));rw[<-Nat.pow_add,<-Nat.pow_add];exact nN h
theorem Js{N L:Nat}{k:Int}(hN:N<10^L)(h:k+L<=-324):rd N k=some 0:=by unfold rd;refine JM (fg _) ?_;rw[show k.toNat=0 by omega,Nat.pow_zero,Nat.mul_one];exact MA (Nat.le_of_lt hN) Ed (by omega)
theorem FQ{N L:Nat}{k:Int}(hN:10^(L -1)<=N)(hL:0<L)(h:310<=k+L):rd N k=none:=by unfold rd;refine Hr (fg _) ?_;exact I1 Ee hN (by omega)
theorem MO(k:Int):rd 0 k=some 0:=by unfold rd;rw[Nat.zero_mul];exact Hq _ (fg _)
theorem qX(N t:Nat)(k:Int):rd (N*10^t) k=rd N (k+t):=by unfold rd;refine xO (fg _) (fg _) ?_;rw[Nat.mul_assoc,Nat.mul_assoc,Nat.mul_assoc,<-Nat.pow_add,<-Nat.pow_add,<-Nat.pow_add];congr 2;omega
theorem fG{p:UInt8->Bool}{d a b:bD}(h:d.all p=true)(e:d=a++b):a.all p=true/\b.all p=true:=by rw[e,List.all_append,af]at h;exact h
end Nr
theorem ku{n i:Nat}(h:n<2^i)(hi:i<=4096):Nt.is (Nt.of n)=true:=Nt.sF (mc (k:=4096) h hi)
theorem fO.gF(A B:Nat)(hA:0<A)(hB:0<B)(Z0:A<2^1100)(Yd:B<2^2200):fO.j1 (Nt.of A) (Nt.of B)=some [.u64 (Nr.pat (Nr.jW A B)),.b (Nr.jW A B).isSome]:=by apply fO.gM;intro v1 h1 v2 h2;rw[Nt.fH,Nt.fH]at h1 h2;rw[Nt.fH,Nt.fH,ku Z0 (by omega),ku Yd (by omega),aa ⟨hA,hB,Z0,Yd⟩];refine(bB (by rfl)).trans ?_;rw[h1,h2]
theorem FE:(10:Nat)^310<2^1100/\(10:Nat)^631<2^2200:=by decide+kernel
theorem fO.goal(d:bD)(x:Int):fO.F d x=some [.u64 (Nr.pat (Nr.read d x)),.b (Nr.read d x).isSome]:=by apply fO.bU;intro v1 h1 v2 h2 v3 h3 v4 h4 v5 h5 v6 h6 v7 h7 v8 h8 v9 h9 v10 iZ v11 lJ v12 mh;have nG:∀b:Bool,(!(!b)||!b)=true/\(b||!b)=true:=by{decide};have e1:v1=!decide (1<=d.length/\d.length<=300):=by{rw[h1];by_cases c:1<=d.length/\d.length<=300;{rw[aa c,cF,dF];rfl};{rw[ab c];by_cases d0:(d.length:Int)<1;{rw[aa d0];rfl};{rw[cF d0,dT];rfl}}};have e3:v3=!Nr.valid d:=by{unfold Nr.valid;rw[h3,e1,h2];have:decide (Lib.trimS d [48,49,50,51,52,53,54,55,56,57]=[])=d.all Nr.dA:=by{by_cases c:d.all Nr.dA=true;{rw[c,aa ((Nr.vJ d).2 c)]};{rw[ab (λh=>c ((Nr.vJ d).1 h))];exact(Bool.eq_false_iff.2 c).symm}};rw[this];cases decide (1<=d.length/\d.length<=300)<;>cases d.all Nr.dA<;>rfl};rw[bB (nG _).1,bB (nG _).1,bB (nG _).2];have c4:(!(!v1)||((!v1)&&(decide (d.length<=1099511627776/\([48,49,50,51,52,53,54,55,56,57]:bD).length<=100)&&([48,49,50,51,52,53,54,55,56,57]:bD).all (λb=>decide (b.toNat<128)))))=true:=by{rw[e1];by_cases c:1<=d.length/\d.length<=300;{rw[aa c,aa (show d.length<=1099511627776/\([48,49,50,51,52,53,54,55,56,57]:bD).length<=100 from⟨by omega,by decide⟩)];rfl};{rw[ab c];rfl}};rw[bB c4,bB (nG _).1,bB (nG _).2,e3];unfold Nr.read;cases hv:Nr.valid d;{rfl};{rw[ar rfl];refine Eq.trans (b:=_) (aj _ _) ?_;unfold Nr.valid at hv;rw[af]at hv;obtain⟨hl,hd⟩:=hv;obtain⟨l1,l2⟩:=aq hl;rw[Nr.IW]at h4;rw[Nr.BP]at h7;obtain⟨z,z1,z2⟩:=Nr.AO d;rw[<-h4]at z1 z2;obtain⟨t,t1,t2⟩:=Nr.kq v4;rw[<-h7]at t1 t2;have hd4:=(Nr.fG hd z1).2;have Xx:=(Nr.fG hd4 t1).1;have lz:d.length=z+v4.length:=by{have:=congrArg List.length z1;rw[ae,List.length_replicate]at this;exact this};have lt:v4.length=v7.length+t:=by{have:=congrArg List.length t1;rw[ae,List.length_replicate]at this;exact this};have nz:Nr.num d=Nr.num v4:=by{have:=congrArg Nr.num z1;rw[Nr.fJ,Nr.jV,Nat.zero_mul,Nat.zero_add]at this;exact this};have nt:Nr.num v4=Nr.num v7*10^t:=by{have:=congrArg Nr.num t1;rw[Nr.fJ,Nr.jV,List.length_replicate,Nat.add_zero]at this;exact this};have Uw:∀s:bD,s.length<=300->(decide (s.length<=1099511627776/\([48]:bD).length<=100)&&([48]:bD).all (λb=>decide (b.toNat<128)))=true:=λs hs=>by{rw[aa (show s.length<=1099511627776/\([48]:bD).length<=100 from⟨by omega,by decide⟩)];rfl};rw[bB (Uw d l2),bB (nG _).1,bB (nG _).2,nz];by_cases c0:v4=[];{have e5:v5=true:=by{rw[h5,aa c0];rfl};rw[e5,au,c0];rw[show Nr.num []=0 from rfl,Nr.MO];rfl};{rw[cF c0]at h5;have z2:v4.getD 0 0≠48:=z2.resolve_left c0;have p4:0<v4.length:=List.length_pos_iff.2 c0;have b1:=Nr.q6 v4 hd4;have b2:=Nr.vb hd4 c0 z2;by_cases c1:x< -1000;{rw[h5,cT c1,Nr.Js b1 (by omega)];rfl};{rw[h5,cF c1];by_cases c2:1000<x;{rw[cT c2,Nr.FQ b2 p4 (by omega)];rfl};{have e6:v6=z:=by{rw[h6,iw];omega};have ex:IntKind.i64.wrap (x -v6)=x -z:=by{rw[e6,iw]};rw[cF c2,bB (Uw v4 (by omega)),ex];by_cases c3:x -z< -330;{rw[cT c3,Nr.Js b1 (by omega)];rfl};{rw[cF c3];by_cases c4:310<x -(z:Int);{rw[cT c4,Nr.FQ b2 p4 (by omega)];rfl};{rw[cF c4];have n7:v7≠[]:=by{intro e;rw[e]at nt;have:=Nr.fg (v4.length -1);rw[show Nr.num []=0 from rfl,Nat.zero_mul]at nt;omega};have p7:0<v7.length:=List.length_pos_iff.2 n7;have g7:v7.getD 0 0=v4.getD 0 0:=by{rw[t1,ai,ai,List.getElem?_append_left (by omega)]};have e9:v9=x -z -v7.length:=by{rw[h9,ex,iw]};have w7:=Nr.q6 v7 Xx;have w7':=Nr.vb Xx n7 (by rw[g7];exact z2);have YW:0<Nr.num v7:=Nat.lt_of_lt_of_le (Nr.fg _) w7';have Kq:Nr.rd (Nr.num v4) (x -(d.length:Int))=Nr.rd (Nr.num v7) v9:=by{rw[nt,Nr.qX];congr 1;omega};rw[Kq,bB (by rw[aa (show 1<=v7.length/\v7.length<=300/\v7.getD 0 0≠48 from⟨by omega,by omega,by rw[g7];exact z2⟩),Xx];rfl)];have hB:∀k:Nat,k<=631->(10:Nat)^k<2^2200:=λk hk=>Nat.lt_of_le_of_lt (Nr.nN hk) FE.2;have hA:∀k:Nat,k<=310->(10:Nat)^k<2^1100:=λk hk=>Nat.lt_of_le_of_lt (Nr.nN hk) FE.1;by_cases c5:0<=v9;{have ep:Nr.num v7*10^v9.toNat<10^(v7.length+v9.toNat):=by{rw[Nat.pow_add];exact Nat.mul_lt_mul_of_pos_right w7 (Nr.fg _)};have Bg:v10=Nt.of (10^v9.toNat):=iZ;have Us:v11=Nt.of (Nr.num v7*10^v9.toNat):=by{rw[lJ,Bg,Nt.fH,Nt.fH]};have e8:v8=Nt.of 1:=h8;rw[cT c5,bB (aa ⟨by omega,by omega,by omega,by omega,mc (k:=4096) (hB v9.toNat (by omega)) (by omega)⟩),Bg,ku (hB v9.toNat (by omega)) (by omega),ku (Nat.lt_trans w7 (hB v7.length (by omega))) (by omega)];refine(bB (by rfl)).trans ?_;rw[Us,e8,fO.gF _ 1 (Nat.mul_pos YW (Nr.fg _)) (by omega) (Nat.lt_trans ep (hA _ (by omega))) (hB 0 (by omega))];unfold Nr.rd;rw[show(-v9).toNat=0 by omega,Nat.pow_zero]};{have ew:IntKind.i64.wrap (0 -v9)=-v9:=by{rw[iw];omega};rw[ew]at mh;have Ro:v12=Nt.of (10^(-v9).toNat):=mh;rw[cF c5,ew,bB (aa ⟨by omega,by omega,by omega,by omega,mc (k:=4096) (hB (-v9).toNat (by omega)) (by omega)⟩),Ro];rw[fO.gF _ _ YW (Nr.fg _) (Nat.lt_trans w7 (hA v7.length (by omega))) (hB _ (by omega))];unfold Nr.rd;rw[show v9.toNat=0 by omega,Nat.pow_zero,Nat.mul_one]}}}}}}}
namespace Nr
def qi:List UInt64->Nat
 |[]=>0
 |a::r=>a.toNat+100000000*qi r
def Ma(a:List UInt64):Bool:=a.all λx=>decide (x.toNat<100000000)
theorem BQ(m:UInt64)(hm:m.toNat<=100000000):∀(a:List UInt64)(c:UInt64),Ma a=true->c.toNat<100000000->
  qi (times a m c)=qi a*m.toNat+c.toNat/\Ma (times a m c)=true/\(times a m c).length<=a.length+1
 |[],c,_,hc=>by unfold times;by_cases h:c>0;{rw[ar h];simp[qi,Ma,hc]};{have h0:c.toNat=0:=by{have:¬0<c.toNat:=λh1=>h (aI.2 h1);omega};rw[ao h];simp[qi,Ma,h0]}
 |a::r,c,ha,hc=>by unfold Ma at ha;rw[List.all_cons,af]at ha;have h1:=aq ha.1;have hmul:a.toNat*m.toNat<=99999999*100000000:=Nat.mul_le_mul (by omega) hm;have e:(c+a*m).toNat=c.toNat+a.toNat*m.toNat:=by{rw[UInt64.toNat_add,UInt64.toNat_mul];show(c.toNat+a.toNat*m.toNat%18446744073709551616)%18446744073709551616=_;omega};have ed:((c+a*m)/100000000).toNat=(c.toNat+a.toNat*m.toNat)/100000000:=by{rw[UInt64.toNat_div,e];rfl};have em:((c+a*m)%100000000).toNat=(c.toNat+a.toNat*m.toNat)%100000000:=by{rw[UInt64.toNat_mod,e];rfl};obtain⟨i1,i2,i3⟩:=BQ m hm r ((c+a*m)/100000000) ha.2 (by rw[ed];omega);rw[times];refine⟨?_,?_,?_⟩;{rw[qi,qi,i1,ed,em,Nat.add_mul,Nat.mul_add,<-Nat.mul_assoc];omega};{unfold Ma;rw[List.all_cons,af];exact⟨aa (by rw[em];omega),i2⟩};{rw[av,av];omega}
end Nr
theorem yZ{α:Type}(l:List α)(i:Nat)(x:α)(h:i<l.length):(l.set i x).take (i+1)=l.take i++[x]/\(l.set i x).drop (i+1)=l.drop (i+1):=by refine⟨sx l i x x h,?_⟩;rw[List.drop_set_of_lt (by omega)]
theorem dL.bY(m:UInt64):∀(k:Nat)(i:Nat)(c:UInt64)(a:List UInt64),i+k=a.length->a.length<=1000->dL.l1 m c i a=some [.sl .us (a.take i++Nr.times (a.drop i) m c)]:=by
 intro k;induction k with
 |zero=>intro i c a hi hl;apply dL.bM;intro v1 h1 v2 h2 v3 h3 v4 h4 v5 h5;rw[cF,aA (by omega),List.take_of_length_le (by omega),Nr.times];by_cases hc:(0:UInt64)<c;{rw[cT hc,bB (dO (by simp;omega) (by simp;omega)),dL.kn,ar hc]};{rw[cF hc,dL.kn,ao hc,aK]}
 |succ k ih=>intro i c a hi hl;apply dL.bM;intro v1 h1 v2 h2 v3 h3 v4 h4 v5 h5;rw[ah]at h1 h3;have e5:v5=((i+1:Nat):Int):=by{rw[h5,iw];omega};have hx:bF (i:Int) a.length=true:=dC (by omega) (by omega);rw[cT,bB hx,iy,bB (by rfl),bB hx,iy,bB (by rfl),e5,ih (i+1) _ _ (by rw[h3,List.length_set];omega) (by rw[h3,List.length_set];exact hl),h3];obtain⟨t1,t2⟩:=yZ a i v2 (by omega);rw[t1,t2,drop_cons (show i<a.length by omega) 0,<-h1,Nr.times,<-h2,<-h4,az];rfl
theorem dL.goal(a:List UInt64)(m:UInt64)(hp:(decide (a.length<=1000/\m.toNat<=100000000)&&a.all (λx=>decide (x.toNat<100000000)))=true):dL.F a m=some [.sl .us (Nr.times a m 0)]:=by simp only[af,aD]at hp;rw[dL.de];have:=dL.bY m a.length 0 0 a (by omega) hp.1.1;rw[List.take_zero,bf,bh]at this;exact this
namespace Nr
theorem Ex:cU []=[]:=rfl
theorem kY(s:bD)(c:UInt8):cU (s++[c])=if c=48 then cU s else s++[c]:=by unfold cU;rw[List.reverse_append,List.reverse_singleton,List.singleton_append,List.dropWhile_cons];by_cases h:c=48;{rw[ar (by simp[h]),ar h]};{rw[ao (by simp[h]),ao h];simp}
theorem jH(s:bD):s=[]\/∃a c,s=a++[c]:=by
 cases h:s.reverse with
 |nil=>left;simpa using h
 |cons c r=>right;exact⟨r.reverse,c,by have:=congrArg List.reverse h;simpa using this⟩
theorem tU{c:UInt8}(h:dA c=true):c=UInt8.ofNat (48+(c.toNat -48)):=by have:=iF.1 h;rw[show 48+(c.toNat -48)=c.toNat by omega,UInt8.ofNat_toNat]
theorem mY:∀(n:Nat)(s:bD),s.length=n->s.all dA=true->s≠[]->s.getD 0 0≠48->s=dec (num s):=by
 intro n;induction n with
 |zero=>intro s hs _ h0 _;exact(h0 (List.length_eq_zero_iff.1 hs)).elim
 |succ n ih=>intro s hs hd h0 h1;rcases jH s with h|⟨a,c,rfl⟩;{exact(h0 h).elim};{obtain⟨d1,d2⟩:=fG hd rfl;rw[List.all_cons,af]at d2;have hc:=iF.1 d2.1;rw[mB];by_cases ha:a=[];{subst ha;rw[show num []=0 from rfl,lr (by omega)];rw[Nat.mul_zero,Nat.zero_add,<-tU d2.1];rfl};{have ZI:a.getD 0 0≠48:=by{have hl:=List.length_pos_iff.2 ha;rw[ai,List.getElem?_append_left hl,<-ai]at h1;exact h1};have hg:=vb d1 ha ZI;have:=fg (a.length -1);rw[r9 (by omega),show(10*num a+(c.toNat -48))/10=num a by omega,show(10*num a+(c.toNat -48))%10=c.toNat -48 by omega,<-tU d2.1];rw[ae,ak]at hs;rw[<-ih a (by omega) d1 ha ZI]}}
theorem lD(n:Nat):(dec n).all dA=true/\num (dec n)=n/\(dec n≠[])/\(0<n->(dec n).getD 0 0≠48):=by
 induction n using Nat.strongRecOn with
 |_ n ih=>have T9:∀k,k<10->dA (UInt8.ofNat (48+k))=true/\(UInt8.ofNat (48+k)).toNat=48+k:=λk hk=>by{have:(UInt8.ofNat (48+k)).toNat=48+k:=by{simp;omega};exact⟨iF.2 (by omega),this⟩};by_cases c:n<10;{rw[lr c];obtain⟨h1,h2⟩:=T9 n c;refine⟨by rw[List.all_cons,h1];rfl,by simp only[num,List.foldl_cons,List.foldl_nil,h2];omega,by simp,λh e=>?_⟩;have:=congrArg UInt8.toNat e;have e2:([UInt8.ofNat (48+n)].getD 0 0).toNat=48+n:=h2;rw[e2]at this;have e3:(48:UInt8).toNat=48:=rfl;omega};{obtain⟨i1,i2,i3,i4⟩:=ih (n/10) (by omega);obtain⟨h1,h2⟩:=T9 (n%10) (by omega);rw[r9 c];refine⟨by rw[List.all_append,i1,List.all_cons,h1];rfl,by rw[mB,i2,h2];omega,by simp,λ_=>?_⟩;rw[ai,List.getElem?_append_left (List.length_pos_iff.2 i3),<-ai];exact i4 (by omega)}
theorem mZ(n:Nat):1<=(dec n).length:=List.length_pos_iff.2 (lD n).2.2.1
end Nr
open Nr (qi Ma)
structure pI (a:List UInt64) (N b:Nat):Prop where
 v:qi a=N
 s:Ma a=true
 l:a.length+b<=999
 n:a≠[]
theorem pI.times{a:List UInt64}{N b:Nat}(h:pI a N (b+1))(m:UInt64)(hm:m.toNat<=100000000):pI (Nr.times a m 0) (N*m.toNat) b:=by
 obtain⟨t1,t2,t3⟩:=Nr.BQ m hm a 0 h.s (by decide);refine⟨by rw[t1,h.v];rfl,t2,by have:=h.l;omega,?_⟩;intro e;have hn:=h.n;cases a with
 |nil=>exact hn rfl
 |cons c r=>unfold Nr.times at e;simp at e
theorem pI.pre{a:List UInt64}{N b:Nat}(h:pI a N b)(m:UInt64)(hm:m.toNat<=100000000):(decide (a.length<=1000/\m.toNat<=100000000)&&a.all (λx=>decide (x.toNat<100000000)))=true:=by have hs:a.all (λx=>decide (x.toNat<100000000))=true:=h.s;rw[hs,aa ⟨by have:=h.l;omega,hm⟩];rfl
theorem pI.le{a:List UInt64}{N b c:Nat}(h:pI a N b)(hc:c<=b):pI a N c:=⟨h.v,h.s,by have:=h.l;omega,h.n⟩
theorem bE.P9(x:Int):∀(n:Nat)(s:bD),s.length=n->n<=100000->bE.l10 x s=some [.s (Nr.cU s),.i .i64 x]:=by
 intro n;induction n with
 |zero=>intro s hs _;obtain rfl:=List.length_eq_zero_iff.1 hs;apply bE.J8;intro v1 h1 v2 h2 v3 h3;have e3:v3=false:=h3;rw[e3];rfl
 |succ n ih=>intro s hs hn;apply bE.J8;intro v1 h1 v2 h2 v3 h3;rcases Nr.jH s with h|⟨a,c,rfl⟩;{rw[h]at hs;simp at hs};{rw[ae,ak]at hs;have e1:v1=(a.length:Int):=by{rw[h1,ae,ak,iw];omega};have e2:v2=c:=by{rw[h2,e1,ah];exact kD a c 0};have ht:decide ((0:Int)<((a++[c]).length:Int))=true:=aa (by rw[ae,ak];omega);have hx:bF v1 (a++[c]).length=true:=by{rw[e1];exact dC (by omega) (by rw[ae,ak];omega)};have zQ:decide (v1.toNat<(a++[c]).length)=true:=aa (by rw[e1,ae,ak];omega);rw[ht,au,e2]at h3;rw[ht,hx,zQ,bB (by rfl),bB (by rfl),bB (by rfl),bB (by rfl),bB (by rfl),bB (by rfl),h3,Nr.kY];by_cases hc:c=48;{rw[cT hc,ar hc,e1,bB (nS (by omega) (by omega) (by rw[ae,ak];omega)),ah,List.take_left];exact ih a (by omega) (by omega)};{rw[cF hc,ao hc]}}
theorem bE.Ov(x:Int)(s:bD)(hs:s.length<=100000):∀(k:Nat)(acc:bD),k<=s.length->acc.length+k=s.length->bE.l9 x ((k:Int) -1) s acc=some [.s (Nr.cU (acc++(s.take k).reverse)),.i .i64 x]:=by
 intro k;induction k with
 |zero=>intro acc hk hl;apply bE.Ow;intro v1 h1 v2 h2;rw[cF,bE.P9 x acc.length acc rfl (by omega)];simp
 |succ k ih=>intro acc hk hl;apply bE.Ow;intro v1 h1 v2 h2;have ei:((k+1:Nat):Int) -1=(k:Int):=by{omega};rw[ei]at h1 h2⊢;rw[ah]at h1;have e2:v2=(k:Int) -1:=by{rw[h2,iw]};rw[cT,ki,iy,bB (dO (by simp;omega) (by simp;omega)),e2,ih _ (by omega) (by simp;omega),zk (show k<s.length by omega),<-h1];simp
theorem bE.TA(e:Int)(he:-2000<=e/\e<=2000):∀(n:Nat)(s:bD),s.length=n->n<=100000->bE.l8 e s=some [.s (Nr.cU (Nr.cU s).reverse),.i .i64 ((Nr.cU s).length+min e 0)]:=by
 intro n;induction n with
 |zero=>intro s hs _;obtain rfl:=List.length_eq_zero_iff.1 hs;apply bE.Ox;intro v1 h1 v2 h2 v3 h3 v4 h4;have e3:v3=false:=h3;have e1:v1=((0:Nat):Int) -1:=by{rw[h1];exact i64_in _ (by simp)};have em:AN e 0=min e 0:=by{unfold AN;split<;>omega};have e4:v4=min e 0:=by{rw[h4,em,i64_in _ (by simp only[aE];omega)];simp};rw[e3];refine Eq.trans (b:=bE.l9 v4 v1 [] []) rfl ?_;rw[e1,bE.Ov v4 [] (by simp) 0 [] (by simp) (by simp),e4];simp[Nr.Ex]
 |succ n ih=>intro s hs hn;apply bE.Ox;intro v1 h1 v2 h2 v3 h3 v4 h4;rcases Nr.jH s with h|⟨a,c,rfl⟩;{rw[h]at hs;simp at hs};{have Ko:a.length=n:=by{rw[ae,ak]at hs;omega};have e1:v1=(a.length:Int):=by{rw[h1,ae,ak,iw];omega};have e2:v2=c:=by{rw[h2,e1,ah];exact kD a c 0};have ht:decide ((0:Int)<((a++[c]).length:Int))=true:=aa (by rw[ae,ak];omega);have hx:bF v1 (a++[c]).length=true:=by{rw[e1];exact dC (by omega) (by rw[ae,ak];omega)};have zQ:decide (v1.toNat<(a++[c]).length)=true:=aa (by rw[e1,ae,ak];omega);rw[ht,au,e2]at h3;rw[ht,hx,zQ,bB (by rfl),bB (by rfl),bB (by rfl),bB (by rfl),bB (by rfl),bB (by rfl),h3,Nr.kY];by_cases hc:c=48;{rw[cT hc,ar hc,e1,bB (nS (by omega) (by omega) (by rw[ae,ak];omega)),ah,List.take_left];exact ih a (by omega) (by omega)};{have em:AN e 0=min e 0:=by{unfold AN;split<;>omega};have e4:v4=((a++[c]).length:Int)+min e 0:=by{rw[h4,em,iw]};have Fh:v1=((a++[c]).length:Int) -1:=by{rw[e1,ae,ak];omega};rw[cF hc,ao hc,Fh,bE.Ov v4 (a++[c]) (by omega) (a++[c]).length [] (Nat.le_refl _) (by simp),List.take_length,bh,e4]}}
def ng:Nat->Nat->bD
 |0,_=>[]
 |k+1,n=>UInt8.ofNat (48+n%10)::ng k (n/10)
theorem Rt{k:Nat}(hk:k<10):Nr.dA (UInt8.ofNat (48+k))=true/\(UInt8.ofNat (48+k)).toNat=48+k:=by have:(UInt8.ofNat (48+k)).toNat=48+k:=by{simp;omega};exact⟨Nr.iF.2 (by omega),this⟩
theorem xR:∀(k n:Nat),(ng k n).length=k/\(ng k n).all Nr.dA=true/\Nr.num (ng k n).reverse=n%10^k
 |0,n=>⟨rfl,rfl,by rw[Nat.pow_zero,Nat.mod_one];rfl⟩
 |k+1,n=>by obtain⟨i1,i2,i3⟩:=xR k (n/10);obtain⟨d1,d2⟩:=Rt (Nat.mod_lt n (show 0<10 by omega));refine⟨by rw[ng,av,i1],by rw[ng,List.all_cons,d1,i2];rfl,?_⟩;rw[ng,List.reverse_cons,Nr.mB,i3,d2,Nat.pow_succ,Nat.mul_comm (10^k),Nat.mod_mul];omega
theorem xM(a b:bD):Nr.num (a++b).reverse=Nr.num a.reverse+10^a.length*Nr.num b.reverse:=by rw[List.reverse_append,Nr.fJ,List.length_reverse,Nat.mul_comm];omega
theorem bE.TB(e:Int)(i:Nat)(a:List UInt64)(hi:i<=1000):∀(k j:Nat),j+k=8->∀(out:bD)(v:UInt64),out.length<=8*i+j->bE.l7 e i v j a out=bE.l6 e ((i+1:Nat):Int) a (out++ng k v.toNat):=by
 intro k;induction k with
 |zero=>intro j hj out v hl;apply bE.Oy;intro v1 h1 v2 h2 v3 h3 v4 h4;have e4:v4=((i+1:Nat):Int):=by{rw[h4,iw];omega};rw[cF,e4,ng,aK]
 |succ k ih=>intro j hj out v hl;apply bE.Oy;intro v1 h1 v2 h2 v3 h3 v4 h4;have hv:=v.toNat_lt;have e3:v3=((j+1:Nat):Int):=by{rw[h3,iw];omega};have em:(v%10).toNat=v.toNat%10:=UInt64.toNat_mod ..;have ed:(v/10).toNat=v.toNat/10:=UInt64.toNat_div ..;have e1:v1.toNat=48+v.toNat%10:=by{rw[h1,UInt64.toNat_add,em];show(48+v.toNat%10)%18446744073709551616=_;omega};have e2:v2=UInt8.ofNat (48+v.toNat%10):=by{rw[h2,uI _ (by omega),e1]};rw[cT,bB (by rfl),bB (dO (by simp;omega) (by simp;omega)),bB (by rfl),e3,ih (j+1) (by omega) _ _ (by simp;omega),ed,ng,e2,az];rfl
theorem zg(a:List UInt64)(i:Nat)(h:i<a.length):qi (a.take (i+1))=qi (a.take i)+100000000^i*(a.getD i 0).toNat:=by
 induction a generalizing i with
 |nil=>simp at h
 |cons c r ih=>
  cases i with
  |zero=>simp[qi]
  |succ i=>rw[av]at h;rw[List.take_succ_cons,qi,ih i (by omega),List.take_succ_cons,qi,List.getD_cons_succ,Nat.pow_succ,Nat.mul_add];have:100000000*(100000000^i*(r.getD i 0).toNat)=100000000^i*100000000*(r.getD i 0).toNat:=by{rw[<-Nat.mul_assoc,Nat.mul_comm 100000000 (100000000^i)]};omega
theorem Wl(i:Nat):(10:Nat)^(8*i)=100000000^i:=by rw[Nat.pow_mul]
def ue(e:Int)(N:Nat):OT:=some [.s (Nr.cU (Nr.dec N)),.i .i64 ((Nr.dec N).length+min e 0)]
theorem xv{s:bD}(hd:s.all Nr.dA=true)(h0:0<Nr.num s.reverse):(Nr.cU s).reverse=Nr.dec (Nr.num s.reverse):=by obtain⟨t,h1,h2⟩:=Nr.kq s;have hd2:=(Nr.fG hd h1).1;have hn:Nr.num s.reverse=Nr.num (Nr.cU s).reverse:=by{have:=congrArg (λl:bD=>Nr.num l.reverse) h1;simp only[List.reverse_append,List.reverse_replicate]at this;rw[Nr.fJ,Nr.jV,Nat.zero_mul,Nat.zero_add]at this;exact this};rw[hn];have mU:Nr.cU s≠[]:=by{intro e;rw[hn,e]at h0;simp[Nr.num]at h0};refine Nr.mY _ _ rfl (by rw[List.all_reverse];exact hd2) (by simpa using mU) ?_;have h3:=h2.resolve_left mU;intro hc;rcases Nr.jH (Nr.cU s)with h|⟨a,c,h⟩;{exact mU h};{rw[h]at h3 hc;rw[List.reverse_append,List.reverse_singleton]at hc;have:c=48:=hc;subst this;simp at h3}
theorem bE.TC(e:Int)(he:-2000<=e/\e<=2000)(a:List UInt64)(N:Nat)(hN:0<N)(h:pI a N 0):∀(k i:Nat)(out:bD),i+k=a.length->out.length=8*i->out.all Nr.dA=true->Nr.num out.reverse=qi (a.take i)->bE.l6 e i a out=ue e N:=by
 intro k;induction k with
 |zero=>intro i out hi hl hd hv;apply bE.Oz;intro v1 h1;have hla:=h.l;rw[List.take_of_length_le (by omega),h.v]at hv;have hr:=xv hd (by rw[hv];exact hN);rw[hv]at hr;rw[cF,bE.TA e he out.length out rfl (by omega),hr];unfold ue;have:(Nr.cU out).length=(Nr.dec N).length:=by{rw[<-hr,List.length_reverse]};rw[this]
 |succ k ih=>intro i out hi hl hd hv;have hla:=h.l;apply bE.Oz;intro v1 h1;rw[ah]at h1;rw[cT,ki,iy];obtain⟨d1,d2,d3⟩:=xR 8 v1.toNat;have hv1:v1.toNat<100000000:=by{have:=aC.1 h.s (a.getD i 0) (by rw[ai,aw (by omega)];exact List.getElem_mem _);rw[h1];exact aq this};refine Eq.trans (bE.TB e i a (by omega) 8 0 (by omega) out v1 (by omega)) ?_;refine ih (i+1) _ (by omega) (by rw[ae,d1];omega) (by rw[List.all_append,hd,d2];rfl) ?_;rw[xM,d3,hv,hl,Wl,zg a i (by omega),<-h1,Nat.mod_eq_of_lt (show v1.toNat<10^8 from hv1)]
theorem bE.J7(e:Int)(he:-2000<=e/\e<=2000):∀(r j:Nat)(a:List UInt64)(N:Nat),(e<0->e=-(j:Int) -r)->(0<=e->r=0/\j=0)->0<N->pI a N r->bE.l5 e (-(j:Int)) a=ue e (N*5^r):=by
 intro r;induction r with
 |zero=>intro j a N h1 h2 hN h;apply bE.yd;intro v1 g1 v2 g2;rw[cF,Nat.pow_zero,Nat.mul_one];exact bE.TC e he a N hN h a.length 0 [] (by omega) rfl rfl rfl
 |succ r ih=>intro j a N h1 h2 hN h;apply bE.yd;intro v1 g1 v2 g2;have HO:e<0:=by{by_cases c:e<0;{exact c};{have:=h2 (by omega);omega}};have e2:v2=-((j+1:Nat):Int):=by{rw[g2,i64_in _ (by have:=h1 HO;omega)];omega};have e1:v1=Nr.times a 5 0:=g1;rw[aa (by have:=h1 HO;omega),au,bB (h.pre 5 (by decide)),e1,e2];rw[ih (j+1) _ (N*5) (λhn=>by have:=h1 HO;omega) (λhn=>by omega) (by omega) (h.times 5 (by decide)),Nat.pow_succ,Nat.mul_assoc,Nat.mul_comm 5]
theorem bE.rr(e:Int)(he:-2000<=e/\e<=2000):∀(t j r:Nat)(a:List UInt64)(N:Nat),r<10->(e<0->e=-(j:Int) -10*t -r)->(0<=e->t=0/\r=0/\j=0)->0<N->pI a N (t+10)->bE.l4 e (-(j:Int)) a=ue e (N*5^(10*t+r)):=by
 intro t;induction t with
 |zero=>intro j r a N hr h1 h2 hN h;apply bE.pk;intro v1 g1 v2 g2;have e1:v1=-(j:Int) -10:=by{rw[g1,i64_in _ (by by_cases c:e<0;(have:=h1 c;omega);(have:=h2 (by omega);omega))]};rw[e1,ab (by by_cases c:e<0;(have:=h1 c;omega);(have:=h2 (by omega);omega)),aj,bE.J7 e he r j a N (λc=>by have:=h1 c;omega) (λc=>by have:=h2 c;omega) hN (h.le (by omega)),Nat.mul_zero,Nat.zero_add]
 |succ t ih=>intro j r a N hr h1 h2 hN h;apply bE.pk;intro v1 g1 v2 g2;have HO:e<0:=by{by_cases c:e<0;{exact c};{have:=h2 (by omega);omega}};have e1:v1=-((j+10:Nat):Int):=by{rw[g1,i64_in _ (by have:=h1 HO;omega)];omega};have e2:v2=Nr.times a 9765625 0:=g2;rw[e1,aa (by have:=h1 HO;omega),au,bB (h.pre 9765625 (by decide)),e2];have hm:pI (Nr.times a 9765625 0) (N*9765625) (t+10):=pI.times (b:=t+10) (h.le (by omega)) 9765625 (by decide);rw[ih (j+10) r _ (N*9765625) hr (λc=>by have:=h1 c;omega) (λc=>by omega) (by omega) hm];have e5:(9765625:Nat)=5^10:=by{decide};rw[e5,Nat.mul_assoc,<-Nat.pow_add,show 10+(10*t+r)=10*(t+1)+r by omega]
theorem bE.P7(e:Int)(he:-1075<=e/\e<=971)(a:List UInt64)(N:Nat)(hN:0<N)(h:pI a N 130):bE.l4 e 0 a=ue e (N*5^(-e).toNat):=by have:=bE.rr e (by omega) ((-e).toNat/10) 0 ((-e).toNat%10) a N (by omega) (λc=>by omega) (λc=>by omega) hN (h.le (by omega));rw[show 10*((-e).toNat/10)+(-e).toNat%10=(-e).toNat by omega]at this;exact this
theorem bE.sB(e:Int)(he:-1075<=e/\e<=971):∀(r k:Nat)(a:List UInt64)(N:Nat),(0<=e->e=(k:Int)+r)->(e<0->r=0/\k=0)->0<N->pI a N (r+130)->bE.l3 e k a=ue e (N*2^r*5^(-e).toNat):=by
 intro r;induction r with
 |zero=>intro k a N h1 h2 hN h;apply bE.nX;intro v1 g1 v2 g2;rw[ab (by by_cases c:e<0;(have:=h2 c;omega);(have:=h1 (by omega);omega)),aj,Nat.pow_zero,Nat.mul_one];exact bE.P7 e he a N hN (h.le (by omega))
 |succ r ih=>intro k a N h1 h2 hN h;apply bE.nX;intro v1 g1 v2 g2;have pH:0<=e:=by{by_cases c:e<0;{have:=h2 c;omega};{omega}};have e2:v2=((k+1:Nat):Int):=by{rw[g2,i64_in _ (by have:=h1 pH;omega)];omega};have e1:v1=Nr.times a 2 0:=g1;have hm:pI (Nr.times a 2 0) (N*2) (r+130):=pI.times (b:=r+130) (h.le (by omega)) 2 (by decide);rw[aa (by have:=h1 pH;omega),au,bB (h.pre 2 (by decide)),e1,e2,ih (k+1) _ (N*2) (λc=>by have:=h1 c;omega) (λc=>by omega) (by omega) hm,Nat.pow_succ,Nat.mul_assoc N,Nat.mul_comm 2]
theorem bE.jb(e:Int)(he:-1075<=e/\e<=971):∀(t k r:Nat)(a:List UInt64)(N:Nat),r<20->(0<=e->e=(k:Int)+20*t+r)->(e<0->t=0/\r=0/\k=0)->0<N->pI a N (t+150)->bE.l2 e k a=ue e (N*2^(20*t+r)*5^(-e).toNat):=by
 intro t;induction t with
 |zero=>intro k r a N hr h1 h2 hN h;apply bE.gU;intro v1 g1 v2 g2;have e1:v1=(k:Int)+20:=by{rw[g1,i64_in _ (by by_cases c:e<0;(have:=h2 c;omega);(have:=h1 (by omega);omega))]};rw[e1,ab (by by_cases c:e<0;(have:=h2 c;omega);(have:=h1 (by omega);omega)),aj,bE.sB e he r k a N (λc=>by have:=h1 c;omega) (λc=>by have:=h2 c;omega) hN (h.le (by omega)),Nat.mul_zero,Nat.zero_add]
 |succ t ih=>intro k r a N hr h1 h2 hN h;apply bE.gU;intro v1 g1 v2 g2;have pH:0<=e:=by{by_cases c:e<0;{have:=h2 c;omega};{omega}};have e1:v1=((k+20:Nat):Int):=by{rw[g1,i64_in _ (by have:=h1 pH;omega)];omega};have e2:v2=Nr.times a 1048576 0:=g2;have hm:pI (Nr.times a 1048576 0) (N*1048576) (t+150):=pI.times (b:=t+150) (h.le (by omega)) 1048576 (by decide);rw[e1,aa (by have:=h1 pH;omega),au,bB (h.pre 1048576 (by decide)),e2,ih (k+20) r _ (N*1048576) hr (λc=>by have:=h1 c;omega) (λc=>by omega) (by omega) hm];have e5:(1048576:Nat)=2^20:=by{decide};rw[e5,Nat.mul_assoc N,<-Nat.pow_add,show 20+(20*t+r)=20*(t+1)+r by omega]
theorem D9(a:List UInt64)(c:UInt64):qi (a++[c])=qi a+100000000^a.length*c.toNat:=by have:=zg (a++[c]) a.length (by simp);rw[List.take_left,List.take_of_length_le (by simp),kD]at this;exact this
theorem bE.bY(e:Int)(he:-1075<=e/\e<=971)(N:Nat)(hN:0<N):∀(n:Nat)(a:List UInt64),a.length=n->pI a N 300->bE.l1 e a=ue e (N*2^e.toNat*5^(-e).toNat):=by
 intro n
 induction n with
 |zero=>intro a ha h;exact(h.n (List.length_eq_zero_iff.1 ha)).elim
 |succ n ih=>
  intro a ha h
  have hl:=h.l
  apply bE.bM
  intro v1 h1 v2 h2 v3 h3
  have next:bE.l2 e 0 a=ue e (N*2^e.toNat*5^(-e).toNat):=by
   have:=bE.jb e he (e.toNat/20) 0 (e.toNat%20) a N (by omega) (λc=>by omega) (λc=>by omega) hN (h.le (by omega))
   rw[show 20*(e.toNat/20)+e.toNat%20=e.toNat by omega]at this
   exact this
  have nG:∀b:Bool,(!b||b)=true:=by decide
  by_cases c:1<a.length
  ·have ht:decide ((1:Int)<(a.length:Int))=true:=dT
   have e1:v1=((a.length -1:Nat):Int):=by rw[h1,iw];omega
   have hx:bF v1 a.length=true:=by rw[e1];exact dC (by omega) (by omega)
   rw[ht,au]at h3
   rw[ht,hx,aa (show v1.toNat<a.length by omega),bB (by rfl),bB (by rfl),bB (by rfl),bB (by rfl),bB (by rfl),bB (by rfl),h3]
   by_cases c2:v2=0
   ·rw[cT c2,e1,yG,ah]
    have TP:a=a.take (a.length -1)++[0]:=by
     have:=xk a v2 (by omega) (by rw[h2,e1,ah])
     rw[c2]at this;exact this
    refine ih _ (by rw[aF];omega) ⟨?_,?_,by rw[aF];omega,?_⟩
    ·have:=congrArg qi TP
     rw[D9,h.v]at this
     rw[this];simp
    ·have hs:=h.s
     unfold Ma at hs⊢
     exact aC.2 λx hx=>aC.1 hs x (List.mem_of_mem_take hx)
    ·intro e0
     have:=congrArg List.length e0
     rw[aF]at this;simp at this;omega
   ·rw[cF c2];exact next
  ·have ht:decide ((1:Int)<(a.length:Int))=false:=dF
   rw[ht]at h3
   have e3:v3=false:=h3
   rw[ht,e3];exact next
where
 xk (a:List UInt64) (v:UInt64) (h:0<a.length) (hv:v=a.getD (a.length -1) 0):a=a.take (a.length -1)++[v]:=by
  have:=(List.take_append_drop (a.length -1) a).symm
  rw[drop_cons (show a.length -1<a.length by omega) 0,<-hv,aA (by omega)]at this
  exact this
theorem bE.goal(m:UInt64)(e:Int)(hp:decide (1<=m.toNat/\m.toNat<2^55/\-1075<=e/\e<=971)=true):bE.F m e=some [.s (Nr.z6 m.toNat e),.i .i64 (Nr.BC m.toNat e)]:=by obtain⟨p1,p2,p3,p4⟩:=aq hp;have p2:m.toNat<36028797018963968:=p2;apply bE.bU;intro v1 h1 v2 h2 v3 h3;have e0:(m%100000000).toNat=m.toNat%100000000:=UInt64.toNat_mod ..;have e1:v1.toNat=m.toNat/100000000%100000000:=by{rw[h1,UInt64.toNat_mod,UInt64.toNat_div];rfl};have e2:v2.toNat=m.toNat/10000000000000000:=by{rw[h2,UInt64.toNat_div];rfl};rw[bB (by rfl),bB (by rfl),bB (by rfl),bB (by rfl)];refine bE.bY e ⟨p3,p4⟩ m.toNat (by omega) 3 v3 (by rw[h3];rfl) ⟨?_,?_,by rw[h3];simp,by rw[h3];simp⟩;{rw[h3];simp only[qi];rw[e0,e1,e2];omega};{rw[h3];unfold Ma;simp only[List.all_cons,List.all_nil,Bool.and_true,af,aD];rw[e0,e1,e2];omega}
end Go.Eng
namespace Go.Eng
open Go.IntWalk
namespace Nr
def DT(d:bD):Prop:=d.all dA=true/\(d=[]\/d.getLast?≠some 48)
theorem DT.tail{c:UInt8}{r:bD}(h:DT (c::r)):dA c=true/\DT r:=by
 obtain⟨h1,h2⟩:=h;rw[List.all_cons,af]at h1;refine⟨h1.1,h1.2,?_⟩;cases r with
 |nil=>exact .inl rfl
 |cons d r=>refine .inr ?_;have:=h2.resolve_left (by simp);rw[List.getLast?_cons_cons]at this;exact this
theorem De:∀{d:bD},DT d->d≠[]->0<num d:=by intro d h h0;rcases jH d with e|⟨a,c,e⟩;{exact(h0 e).elim};{subst e;have h2:=h.2.resolve_left h0;have hc:c≠48:=λe=>h2 (by rw[e];simp);have hd:=iF.1 (aC.1 h.1 c (by simp));rw[mB];have:c.toNat≠48:=λe=>hc (UInt8.toNat_inj.1 e);omega}
theorem EN:∀(a b:bD)(p q:Nat),DT a->DT b->a.length+p=b.length+q->
  (Op.bytesLess a b=true↔num a*10^p<num b*10^q)/\(a=b↔num a*10^p=num b*10^q)
 |[],[],p,q,_,_,_=>by simp[Op.bytesLess,num]
 |[],d::r,p,q,_,hb,_=>by have:=Nat.mul_pos (De hb (by simp)) (fg q);rw[show num ([]:bD)=0 from rfl,Nat.zero_mul];refine⟨⟨λ_=>this,λ_=>rfl⟩,⟨λh=>by simp at h,λh=>by omega⟩⟩
 |c::r,[],p,q,ha,_,_=>by have:=Nat.mul_pos (De ha (by simp)) (fg p);rw[show num ([]:bD)=0 from rfl,Nat.zero_mul];refine⟨⟨λh=>by simp[Op.bytesLess]at h,λh=>by omega⟩,⟨λh=>by simp at h,λh=>by omega⟩⟩
 |c::a,d::b,p,q,ha,hb,h=>by obtain⟨hc,ZH⟩:=ha.tail;obtain⟨hd,D2⟩:=hb.tail;rw[av,av]at h;obtain⟨i1,i2⟩:=EN a b p q ZH D2 (by omega);have na:=q6 a ZH.1;have nb:=q6 b D2.1;have ea:num (c::a)*10^p=(c.toNat -48)*10^(a.length+p)+num a*10^p:=by{rw[tJ,Nat.add_mul,Nat.mul_assoc,<-Nat.pow_add]};have eb:num (d::b)*10^q=(d.toNat -48)*10^(a.length+p)+num b*10^q:=by{rw[tJ,Nat.add_mul,Nat.mul_assoc,<-Nat.pow_add,show b.length+q=a.length+p by omega]};have la:num a*10^p<10^(a.length+p):=by{rw[Nat.pow_add];exact Nat.mul_lt_mul_of_pos_right na (fg p)};have lb:num b*10^q<10^(a.length+p):=by{rw[show a.length+p=b.length+q by omega,Nat.pow_add];exact Nat.mul_lt_mul_of_pos_right nb (fg q)};have hc:=iF.1 hc;have hd:=iF.1 hd;rw[ea,eb];generalize 10^(a.length+p)=T at la lb;generalize num a*10^p=x at*;generalize num b*10^q=y at*;have cd:c=d↔c.toNat=d.toNat:=UInt8.toNat_inj.symm;rw[Op.bytesLess];rcases Nat.lt_trichotomy c.toNat d.toNat with k|k|k;{have gr:decide (c<d)=true:=aa (UInt8.lt_iff_toNat_lt.2 k);have mU:c≠d:=λe=>by{rw[e]at k;omega};have hm:(c.toNat -48+1)*T<=(d.toNat -48)*T:=ay T (by omega);rw[Nat.add_mul,Nat.one_mul]at hm;refine⟨⟨λ_=>by omega,λ_=>by rw[gr];rfl⟩,⟨λe=>?_,λe=>by omega⟩⟩;injection e with e1 e2;exact(mU e1).elim};{have e:=cd.2 k;subst e;have gr:decide (c<c)=false:=ab (by rw[UInt8.lt_iff_toNat_lt];omega);rw[gr,Bool.false_or,beq_self_eq_true,Bool.true_and];refine⟨by rw[i1];omega,?_⟩;rw[bt];constructor;{intro h;have:=i2.1 h.2;omega};{intro h;exact⟨rfl,i2.2 (by omega)⟩}};{have gr:decide (c<d)=false:=ab (by rw[UInt8.lt_iff_toNat_lt];omega);have mU:c≠d:=λe=>by{rw[e]at k;omega};have hm:(d.toNat -48+1)*T<=(c.toNat -48)*T:=ay T (by omega);rw[Nat.add_mul,Nat.one_mul]at hm;refine⟨⟨λh=>?_,λh=>by omega⟩,⟨λe=>?_,λe=>by omega⟩⟩;{rw[gr,beq_false_of_ne mU]at h;exact(Bool.false_ne_true h).elim};{injection e with e1 e2;exact(mU e1).elim}}
structure su (d:bD):Prop where
 f:DT d
 n:d≠[]
 h:d.getD 0 0≠48
theorem su.lo{d:bD}(h:su d)(p:Nat):10^(d.length+p -1)<=num d*10^p:=by have h1:=vb h.f.1 h.n h.h;have:=List.length_pos_iff.2 h.n;rw[show d.length+p -1=d.length -1+p by omega,Nat.pow_add];exact ay _ h1
theorem su.hi{d:bD}(h:su d)(p:Nat):num d*10^p<10^(d.length+p):=by rw[Nat.pow_add];exact Nat.mul_lt_mul_of_pos_right (q6 d h.f.1) (fg p)
theorem Ak{a b:bD}{x y:Int}(p q:Nat)(ha:su a)(hb:su b)(h:x -y=((a.length+p:Nat):Int) -((b.length+q:Nat):Int)):iV a x b y=Nt.cmp (num a*10^p) (num b*10^q):=by have a1:=ha.lo p;have a2:=ha.hi p;have b1:=hb.lo q;have b2:=hb.hi q;have la:=List.length_pos_iff.2 ha.n;have lb:=List.length_pos_iff.2 hb.n;unfold iV Nt.cmp;rcases Int.lt_trichotomy x y with k|k|k;{have:=nN (show a.length+p<=b.length+q -1 by omega);rw[aa k,Bool.true_or,ar rfl,pO]};{obtain⟨i1,i2⟩:=EN a b p q ha.f hb.f (by omega);rw[ab (show¬x<y by omega),aa k,Bool.false_or,Bool.true_and];by_cases c:Op.bytesLess a b=true;{rw[ar c,ar (i1.1 c)]};{rw[ao c,ao (λh=>c (i1.2 h))];by_cases c2:a=b;{rw[aa c2,ar (by rfl),ar (i2.1 c2)]};{rw[ab c2,ao (by decide),ao (λh=>c2 (i2.2 h))]}}};{have:=nN (show b.length+q<=a.length+p -1 by omega);rw[ab (show¬x<y by omega),ab (show¬x=y by omega),ao (by simp),ao (by simp),nO,nO]}
theorem Aj{a b c:Nat}(hc:0<c):Nt.cmp (a*c) (b*c)=Nt.cmp a b:=by unfold Nt.cmp;have h1:a*c<b*c↔a<b:=Nat.mul_lt_mul_right hc;have h2:a*c=b*c↔a=b:=⟨λh=>Nat.eq_of_mul_eq_mul_right hc h,λh=>by rw[h]⟩;simp only[h1,h2]
theorem Gq{m:Nat}(h:0<m)(e:Int):0<H5 m e:=Nat.mul_pos (Nat.mul_pos h (Nat.two_pow_pos _)) (Nat.pow_pos (by omega))
theorem KQ{m:Nat}(h:0<m)(e:Int):su (z6 m e)/\∃t,num (z6 m e)*10^t=H5 m e/\BC m e=((z6 m e).length+t:Nat)+min e 0:=by obtain⟨d1,d2,d3,d4⟩:=lD (H5 m e);obtain⟨t,t1,t2⟩:=kq (dec (H5 m e));have hp:=Gq h e;have hn:=congrArg num t1;rw[fJ,jV,List.length_replicate,Nat.add_zero,d2]at hn;have hl:=congrArg List.length t1;rw[ae,List.length_replicate]at hl;have ne:cU (dec (H5 m e))≠[]:=by{intro e0;rw[e0,show num []=0 from rfl,Nat.zero_mul]at hn;omega};refine⟨⟨⟨(fG d1 t1).1,t2⟩,ne,?_⟩,t,hn.symm,?_⟩;{have:=d4 hp;rw[t1,ai,List.getElem?_append_left (List.length_pos_iff.2 ne),<-ai]at this;exact this};{unfold BC;rw[hl];rfl}
def nA(d:bD)(x:Int):Nat:=num d*10^(x -d.length).toNat
def nB(d:bD)(x:Int):Nat:=10^(-(x -d.length)).toNat
theorem H4(m:Nat)(e:Int)(he:-1075<=e)(j:Nat):H5 m e*10^(min e 0+1075+j).toNat=m*2^(e+1075).toNat*10^j*5^1075:=by have t5:∀k:Nat,(10:Nat)^k=2^k*5^k:=λk=>by{rw[<-Nat.mul_pow]};unfold H5;by_cases c:0<=e;{rw[show(min e 0+1075+j).toNat=1075+j by omega,show(-e).toNat=0 by omega,show(e+1075).toNat=e.toNat+1075 by omega,Nat.pow_add 10,t5 1075,Nat.pow_add 2,Nat.pow_zero,Nat.mul_one];simp only[Nat.mul_assoc,Nat.mul_comm,Nat.mul_left_comm]};{rw[show(min e 0+1075+j).toNat=(e+1075).toNat+j by omega,show e.toNat=0 by omega,Nat.pow_add 10,t5 (e+1075).toNat,Nat.pow_zero,Nat.mul_one];have:(5:Nat)^1075=5^(-e).toNat*5^(e+1075).toNat:=by{rw[<-Nat.pow_add];congr 1;omega};rw[this];simp only[Nat.mul_assoc,Nat.mul_comm,Nat.mul_left_comm]}
theorem GX{N a k K M:Nat}{U:Nat}(hU:U=2*2^K)(hM:M=K+1)(h:k=a+(K+1)):N*10^k=N*10^a*U*5^M:=by rw[hM,h,hU,Nat.pow_add 10,Nat.mul_assoc (N*_),<-Nat.mul_assoc N,show 2*2^K=2^(K+1) by rw[Nat.pow_succ,Nat.mul_comm],<-Nat.mul_pow]
theorem KL(k:Nat):0<5^k:=Nat.pow_pos (by omega)
theorem JO(d:bD)(x:Int):num d*10^(x -d.length+1075+(-(x -d.length)).toNat).toNat=nA d x*jK*5^1075:=by unfold nA;exact GX (M:=1075) (K:=1074) kW (by decide) (by omega)
theorem Lm{m:Nat}{e:Int}(h:0<m)(he:-1075<=e){d:bD}(hd:su d)(x:Int):iV (z6 m e) (BC m e) d x=Nt.cmp (m*2^(e+1075).toNat*nB d x) (nA d x*jK)/\iV d x (z6 m e) (BC m e)=Nt.cmp (nA d x*jK) (m*2^(e+1075).toNat*nB d x):=by obtain⟨hc,t,t1,t2⟩:=KQ h e;have hp:0<(5:Nat)^1075:=KL 1075;have s1:=H4 m e he (-(x -d.length)).toNat;have s2:=JO d x;have e1:num (z6 m e)*10^(t+(min e 0+1075+(-(x -d.length)).toNat).toNat)=m*2^(e+1075).toNat*nB d x*5^1075:=by{rw[Nat.pow_add,<-Nat.mul_assoc,t1,s1];rfl};constructor;{rw[Ak (t+(min e 0+1075+(-(x -d.length)).toNat).toNat) (x -d.length+1075+(-(x -d.length)).toNat).toNat hc hd (by omega),e1,s2,Aj hp]};{rw[Ak (x -d.length+1075+(-(x -d.length)).toNat).toNat (t+(min e 0+1075+(-(x -d.length)).toNat).toNat) hd hc (by omega),e1,s2,Aj hp]}
end Nr
end Go.Eng
namespace Go.Eng
namespace Sh
open Nr (V ll sh top jW rd pS iz)
theorem Cy{a b p:Nat}(hb:0<b):jW a b=some p↔p<=top/\¬iz a b p/\(p=0\/iz a b (p -1)):=by constructor;{intro h;classical have s1:p<=top/\¬iz a b p/\∀r,r<p->iz a b r:=by{unfold jW at h;split at h;{rename_i hx;cases h;exact hx.choose_spec};{cases h}};refine⟨s1.1,s1.2.1,?_⟩;by_cases c:p=0;{exact .inl c};{exact .inr (s1.2.2 _ (by omega))}};{rintro⟨h1,h2,h3⟩;exact Nr.ov hb h1 h2 h3}
theorem Jt{p N:Nat}{k:Int}(hp:0<p):rd N k=some p↔p<=top/\(2*(N*10^k.toNat*2^1074)<pS p*10^(-k).toNat\/(2*(N*10^k.toNat*2^1074)=pS p*10^(-k).toNat/\p%2=0))/\(pS (p -1)*10^(-k).toNat<2*(N*10^k.toNat*2^1074)\/(pS (p -1)*10^(-k).toNat=2*(N*10^k.toNat*2^1074)/\p%2=0)):=by unfold rd;rw[Cy (Nr.fg _)];unfold iz;have e:=Nr.mul_two (a:=N*10^k.toNat) Nr.kW;rw[e];generalize 2*(N*10^k.toNat*2^1074)=X;generalize pS p*10^(-k).toNat=Y;generalize pS (p -1)*10^(-k).toNat=Z;constructor;{rintro⟨h1,h2,h3⟩;refine⟨h1,?_,?_⟩<;>omega};{rintro⟨h1,h2,h3⟩;refine⟨h1,?_,.inr ?_⟩<;>omega}
theorem rW{p:Nat}(hp:0<p):0<ll p:=by unfold ll;split<;>omega
theorem Ji{m s:Nat}(K:Nat):m*2^((s:Int) -K).toNat*2^K=m*2^s*2^(-((s:Int) -K)).toNat:=by rw[Nat.mul_assoc,Nat.mul_assoc,<-Nat.pow_add,<-Nat.pow_add];congr 2;omega
theorem LZ(p:Nat):kE p*2^1074=V p*iK p:=Ji 1074
theorem lR(p:Nat):0<iK p:=Nat.two_pow_pos _
theorem Gv{p:Nat}(hp:0<p):10^(dx p -1).toNat*iK p<=kE p*10^(-(dx p -1)).toNat/\kE p*10^(-(dx p)).toNat<10^(dx p).toNat*iK p:=by have hm:=rW hp;generalize he:(sh p:Int) -1074=e;obtain⟨d1,d2,d3,d4⟩:=Nr.lD (Nr.H5 (ll p) e);have hN:=Nr.Gq hm e;have g1:=Nr.vb d1 d3 (d4 hN);have g2:=Nr.q6 _ d1;rw[d2]at g1 g2;have hl:=List.length_pos_iff.2 d3;have hx:dx p=(Nr.dec (Nr.H5 (ll p) e)).length+min e 0:=by{unfold dx;rw[he];rfl};have ea:kE p=ll p*2^e.toNat:=by{unfold kE;rw[he]};have eb:iK p=2^(-e).toNat:=by{unfold iK;rw[he]};have eN:Nr.H5 (ll p) e=ll p*2^e.toNat*5^(-e).toNat:=rfl;generalize Nr.H5 (ll p) e=N at*;generalize(Nr.dec N).length=L at*;rw[ea,eb,hx];have t25:∀k:Nat,(10:Nat)^k=2^k*5^k:=λk=>by{rw[<-Nat.mul_pow]};by_cases c:0<=e;{have h0:(-e).toNat=0:=by{omega};rw[h0,Nat.pow_zero,Nat.mul_one]at eN⊢;rw[Nat.mul_one];rw[<-eN,show((L:Int)+min e 0 -1).toNat=L -1 by omega,show(-((L:Int)+min e 0 -1)).toNat=0 by omega,show(-((L:Int)+min e 0)).toNat=0 by omega,show((L:Int)+min e 0).toNat=L by omega,Nat.pow_zero,Nat.mul_one];exact⟨g1,g2⟩};{have h0:e.toNat=0:=by{omega};rw[h0,Nat.pow_zero,Nat.mul_one]at eN⊢;have Xh:min e 0=e:=by{omega};rw[Xh];generalize hj:(-e).toNat=j at*;have W6:0<(5:Nat)^j:=Nat.pow_pos (by omega);have key:∀a b:Nat,a+j=L -1+b->10^a*2^j<=ll p*10^b:=λa b Iy=>by{refine Nat.le_of_mul_le_mul_right (c:=5^j) ?_ W6;rw[Nat.mul_assoc,<-t25,<-Nat.pow_add,Iy,Nat.pow_add,Nat.mul_right_comm,<-eN];exact ay _ g1};have WB:∀a b:Nat,a+j=L+b->ll p*10^b<10^a*2^j:=λa b Iy=>by{refine Nat.lt_of_mul_lt_mul_right (a:=5^j) ?_;rw[Nat.mul_assoc (10^a),<-t25,<-Nat.pow_add,Iy,Nat.pow_add,Nat.mul_right_comm,<-eN];exact Nat.mul_lt_mul_of_pos_right g2 (Nr.fg _)};exact⟨key _ _ (by omega),WB _ _ (by omega)⟩}
theorem lT{p N:Nat}{k:Int}(h:rd N k=some p):reads p N k=some (Nr.cU (Nr.dec N),(Nr.dec N).length+k):=ar h
theorem mP{p N:Nat}{k:Int}(h:¬rd N k=some p):reads p N k=none:=ao h
theorem KF{p:Nat}(hp:0<p):V p<=9007199254740992*2^sh (p -1)/\V p=V (p -1)+2^sh (p -1):=by have h1:=Nr.Br (p -1);have h2:=Nr.yS (p -1);rw[show p -1+1=p by omega]at h1 h2;refine⟨?_,h2⟩;rw[h1];exact ay _ (by have:=Nr.sS (p -1);omega)
theorem Q7(p:Nat):V p<9007199254740992*2^sh p/\V (p+1)=V p+2^sh p:=⟨Nat.mul_lt_mul_of_pos_right (Nr.sS p) (Nat.two_pow_pos _),Nr.yS p⟩
theorem unit_eq{a b V' K P Q:Nat}{S T:Nat}(h:a*K=V'*b)(hP:P=a*T)(hQ:Q=b*S)(N:Nat):N*S*K*b=N*Q*K/\P*K=V'*T*b:=by constructor;{rw[hQ];simp only[Nat.mul_assoc,Nat.mul_comm,Nat.mul_left_comm]};{rw[hP,Nat.mul_right_comm,h,Nat.mul_right_comm]}
end Sh
namespace Sh
open Nr (V ll sh top jW rd pS iz)
theorem uN{b:Nat}(h:0<b)(k:Int):0<tB b k:=Nat.mul_pos h (Nr.fg _)
theorem MP{p:Nat}(hp:0<p)(ht:p<=top)(x n:Int)(K:Nat)(hK:kE p*K=V p*iK p)(hK2:K=2^1074)(N:Nat):rd N (x -n)=some p↔(2*(N*tB (iK p) (n -x)*K)<2*(tA (kE p) (n -x)*K)+2^sh p*10^(n -x).toNat*iK p\/(2*(N*tB (iK p) (n -x)*K)=2*(tA (kE p) (n -x)*K)+2^sh p*10^(n -x).toNat*iK p/\p%2=0))/\(2*(tA (kE p) (n -x)*K)<2*(N*tB (iK p) (n -x)*K)+2^sh (p -1)*10^(n -x).toNat*iK p\/(2*(tA (kE p) (n -x)*K)=2*(N*tB (iK p) (n -x)*K)+2^sh (p -1)*10^(n -x).toNat*iK p/\p%2=0)):=by rw[Jt hp,<-hK2];have hb:=lR p;rw[show(-(x -n))=n -x by omega];obtain⟨u1,u2⟩:=unit_eq (S:=10^(x -n).toNat) (T:=10^(n -x).toNat) (Q:=tB (iK p) (n -x)) (P:=tA (kE p) (n -x)) hK rfl (by unfold tB;rw[show(-(n -x))=x -n by omega]) N;rw[u2,<-u1];have m1:pS p=2*V p+2^sh p:=by{rw[Nr.oJ,Nr.yS];omega};have m2:2*V p=pS (p -1)+2^sh (p -1):=by{have:=(KF hp).2;rw[Nr.oJ,show p -1+1=p by omega];omega};generalize 10^(n -x).toNat=T;generalize hX:N*10^(x -n).toNat*K=X;have c1:pS p*T*iK p=2*(V p*T*iK p)+2^sh p*T*iK p:=by{rw[m1];simp only[Nat.add_mul,Nat.mul_assoc]};have c2:2*(V p*T*iK p)=pS (p -1)*T*iK p+2^sh (p -1)*T*iK p:=by{have:2*(V p*T*iK p)=2*V p*T*iK p:=by{simp only[Nat.mul_assoc]};rw[this,m2];simp only[Nat.add_mul]};have c3:2*(X*iK p)=2*X*iK p:=by{rw[Nat.mul_assoc]};rw[c3,c2,Nat.add_lt_add_iff_right,Nat.add_right_cancel_iff,<-c2,<-c1];rw[Nat.mul_lt_mul_right hb,Nat.mul_lt_mul_right hb];have e1:2*X*iK p=pS p*T*iK p↔2*X=pS p*T:=⟨Nat.eq_of_mul_eq_mul_right hb,λh=>by rw[h]⟩;have e2:pS (p -1)*T*iK p=2*X*iK p↔pS (p -1)*T=2*X:=⟨Nat.eq_of_mul_eq_mul_right hb,λh=>by rw[h]⟩;rw[e1,e2];exact⟨λh=>h.2,λh=>⟨ht,h⟩⟩
theorem BR{a b:Nat}{y k m:Int}(hm:0<=m)(h:m=y+k):(10^y.toNat*b<=a*10^(-y).toNat->10^m.toNat*tB b k<=tA a k)/\(a*10^(-y).toNat<10^y.toNat*b->tA a k<10^m.toNat*tB b k):=by have he:m.toNat+(-k).toNat+(-y).toNat=y.toNat+k.toNat:=by{omega};have l:10^m.toNat*tB b k*10^(-y).toNat=10^y.toNat*b*10^k.toNat:=by{unfold tB;rw[<-Nat.mul_assoc,Nat.mul_right_comm (10^m.toNat),<-Nat.pow_add,Nat.mul_right_comm,<-Nat.pow_add,he,Nat.pow_add,Nat.mul_right_comm]};have r:tA a k*10^(-y).toNat=a*10^(-y).toNat*10^k.toNat:=by{unfold tA;rw[Nat.mul_right_comm]};have h1:=Nr.fg (-y).toNat;have h2:=Nr.fg k.toNat;constructor;{intro h;refine Nat.le_of_mul_le_mul_right ?_ h1;rw[l,r];exact ay _ h};{intro h;refine Nat.lt_of_mul_lt_mul_right (a:=10^(-y).toNat) ?_;rw[l,r];exact Nat.mul_lt_mul_of_pos_right h h2}
theorem xc{p:Nat}(hp:0<p){n:Int}(hn:1<=n):10^(n -1).toNat*tB (iK p) (n -dx p)<=tA (kE p) (n -dx p)/\tA (kE p) (n -dx p)<10^n.toNat*tB (iK p) (n -dx p):=by obtain⟨h1,h2⟩:=Gv hp;exact⟨(BR (y:=dx p -1) (k:=n -dx p) (m:=n -1) (by omega) (by omega)).1 h1,(BR (y:=dx p) (k:=n -dx p) (m:=n) (by omega) (by omega)).2 h2⟩
theorem B1{p a b:Nat}{x n:Int}(h:rd (tA a (n -x)/tB b (n -x)) (x -n)=some p\/rd (tA a (n -x)/tB b (n -x)+1) (x -n)=some p):(some_ p a b x n).isSome=true:=by unfold some_;simp only;split;{rename_i c;exact c.1};{rename_i c;rcases h with h|h;{by_cases h2:rd (tA a (n -x)/tB b (n -x)+1) (x -n)=some p;{rw[lT h2];rfl};{exact(c ⟨by rw[lT h];rfl,.inl (by rw[mP h2];rfl)⟩).elim}};{rw[lT h];rfl}}
theorem PN{p:Nat}(hp:0<p)(ht:p<=top):(some_ p (kE p) (iK p) (dx p) 17).isSome=true:=by obtain⟨r1,r2⟩:=xc hp (n:=17) (by omega);have hQ:=uN (lR p) (17 -dx p);obtain⟨K,hK⟩:∃K,K=2^1074:=⟨_,rfl⟩;have ZU:0<K:=by{rw[hK];exact Nat.two_pow_pos 1074};have Iy:=LZ p;rw[<-hK]at Iy;have gd:=(KF hp).1;have gu:=(Q7 p).1;have ru:=MP hp ht (dx p) 17 K Iy hK;have hPK:tA (kE p) (17 -dx p)*K=V p*10^(17 -dx p).toNat*iK p:=by{unfold tA;rw[Nat.mul_right_comm,Iy,Nat.mul_right_comm]};refine B1 ?_;have hT:0<10^(17 -dx p).toNat*iK p:=Nat.mul_pos (Nr.fg _) (lR p);have bd:V p*10^(17 -dx p).toNat*iK p<=9007199254740992*(2^sh (p -1)*10^(17 -dx p).toNat*iK p):=by{rw[Nat.mul_assoc (V p),Nat.mul_assoc (2^sh (p -1)),<-Nat.mul_assoc 9007199254740992];exact ay _ gd};have bu:V p*10^(17 -dx p).toNat*iK p<9007199254740992*(2^sh p*10^(17 -dx p).toNat*iK p):=by{rw[Nat.mul_assoc (V p),Nat.mul_assoc (2^sh p),<-Nat.mul_assoc 9007199254740992];exact Nat.mul_lt_mul_of_pos_right gu hT};rw[<-hPK]at bd bu;generalize tA (kE p) (17 -dx p)=P at*;generalize tB (iK p) (17 -dx p)=Q at*;generalize 2^sh (p -1)*10^(17 -dx p).toNat*iK p=D at*;generalize 2^sh p*10^(17 -dx p).toNat*iK p=G at*;have e16:(10:Nat)^((17:Int) -1).toNat=10000000000000000:=by{decide};rw[e16]at r1;have hr:=Nat.mod_lt P hQ;have Si:=Nat.div_add_mod P Q;have q1:10000000000000000*(Q*K)<=P*K:=by{rw[<-Nat.mul_assoc];exact ay K r1};have hQK:0<Q*K:=Nat.mul_pos hQ ZU;have hPK2:P*K=P/Q*Q*K+P% Q*K:=by{rw[<-Nat.add_mul,Nat.mul_comm (P/Q)];rw[Si]};have hrK:P% Q*K<Q*K:=Nat.mul_lt_mul_of_pos_right hr ZU;by_cases c:2*(P% Q)<=Q;{left;have c':2*(P% Q*K)<=Q*K:=by{rw[<-Nat.mul_assoc];exact ay K c};rw[ru];exact⟨.inl (by omega),.inl (by omega)⟩};{right;have c':Q*K<=2*(P% Q*K):=by{rw[<-Nat.mul_assoc];exact ay K (by omega)};have hN:(P/Q+1)*Q*K=P/Q*Q*K+Q*K:=by{rw[Nat.add_mul,Nat.add_mul,Nat.one_mul]};rw[ru,hN];exact⟨.inl (by omega),.inl (by omega)⟩}
theorem EI{p:Nat}(ht:p<=top):jW (kE p) (iK p)=some p:=by classical have h:=LZ p;have hb:=lR p;have e:=Nr.mul_two (a:=kE p) Nr.kW;have hv:=Nat.mul_lt_mul_of_pos_right (Nr.oC p) hb;refine(Cy hb).2 ⟨ht,?_,?_⟩;{unfold iz;rw[e,h,Nr.oJ,Nat.add_mul];omega};{by_cases c:p=0;{exact .inl c};{right;left;have hv:=Nat.mul_lt_mul_of_pos_right (Nr.oC (p -1)) hb;rw[show p -1+1=p by omega]at hv;rw[e,h,Nr.oJ,Nat.add_mul,show p -1+1=p by omega];omega}}
end Sh
namespace Sh
open Nr (V ll sh top jW rd pS iz)
def gq(p:Nat):bD:=Nr.z6 (ll p) ((sh p:Int) -1074)
theorem Fb{p:Nat}(hp:0<p):Nr.su (gq p)/\∀n:Int,0<=n->tA (kE p) (n -dx p)*10^((gq p).length -n).toNat=Nr.num (gq p)*tB (iK p) (n -dx p)*10^(n -(gq p).length).toNat:=by have hm:=rW hp;obtain⟨hc,t,t1,t2⟩:=Nr.KQ hm ((sh p:Int) -1074);refine⟨hc,λn hn=>?_⟩;have hx:dx p=(((gq p).length+t:Nat):Int)+min ((sh p:Int) -1074) 0:=t2;have hN:Nr.num (gq p)*10^t=ll p*2^((sh p:Int) -1074).toNat*5^(-((sh p:Int) -1074)).toNat:=t1;unfold tA tB kE iK;generalize(sh p:Int) -1074=e at*;generalize dx p=x at*;have t25:∀k:Nat,(10:Nat)^k=2^k*5^k:=λk=>by{rw[<-Nat.mul_pow]};have W6:0<(5:Nat)^(-e).toNat:=Nat.pow_pos (by omega);refine Nat.eq_of_mul_eq_mul_right W6 (Nat.eq_of_mul_eq_mul_right (Nr.fg t) ?_);generalize(gq p).length=L at*;generalize Nr.num (gq p)=N at*;have l:ll p*2^e.toNat*10^(n -x).toNat*10^((L:Int) -n).toNat*5^(-e).toNat*10^t=ll p*2^e.toNat*5^(-e).toNat*10^((n -x).toNat+((L:Int) -n).toNat+t):=by{rw[Nat.pow_add,Nat.pow_add];simp only[Nat.mul_assoc,Nat.mul_comm,Nat.mul_left_comm]};have r:N*(2^(-e).toNat*10^(-(n -x)).toNat)*10^(n -(L:Int)).toNat*5^(-e).toNat*10^t=N*10^t*10^((-e).toNat+(-(n -x)).toNat+(n -(L:Int)).toNat):=by{rw[Nat.pow_add,Nat.pow_add,t25 (-e).toNat];simp only[Nat.mul_assoc,Nat.mul_comm,Nat.mul_left_comm]};rw[l,r,<-hN];congr 2;omega
theorem Yk{P Q W D:Nat}(hQ:0<Q)(hW:0<W)(h:P*W=D*Q):P/Q=D/W/\(2*(P% Q)<Q↔2*(D% W)<W)/\(2*(P% Q)=Q↔2*(D% W)=W):=by have d1:P/Q=D/W:=by{rw[<-Nat.mul_div_mul_right P Q hW,h,Nat.mul_comm Q W,Nat.mul_div_mul_right D W hQ]};have m1:P% Q*W=D% W*Q:=by{rw[<-Nat.mul_mod_mul_right,h,Nat.mul_comm Q W,Nat.mul_mod_mul_right]};refine⟨d1,?_,?_⟩;{rw[<-Nat.mul_lt_mul_right (a:=W) hW (b:=2*(P% Q)),Nat.mul_assoc,m1,<-Nat.mul_assoc,Nat.mul_comm Q W,Nat.mul_lt_mul_right hQ]};{constructor;{intro e;refine Nat.eq_of_mul_eq_mul_right hQ ?_;rw[Nat.mul_assoc,<-m1,<-Nat.mul_assoc,e,Nat.mul_comm]};{intro e;refine Nat.eq_of_mul_eq_mul_right hW ?_;rw[Nat.mul_assoc,m1,<-Nat.mul_assoc,e,Nat.mul_comm]}}
theorem Tq{p P Q:Nat}{k:Int}{N:Nat}(hP:P=kE p*10^(-k).toNat)(hQ:Q=iK p*10^k.toNat)(h:P=N*Q)(ht:p<=top):rd N k=some p:=by unfold rd;rw[<-EI ht];refine Nr.xO (Nr.fg _) (lR p) ?_;rw[<-hP,h,hQ,Nat.mul_assoc,Nat.mul_comm (iK p)]
theorem Bm{d:bD}(h:Nr.su d):Nr.dec (Nr.num d)=d/\Nr.cU d=d:=by refine⟨(Nr.mY _ d rfl h.f.1 h.n h.h).symm,?_⟩;rcases Nr.jH d with e|⟨a,c,e⟩;{exact(h.n e).elim};{have h2:=h.f.2.resolve_left h.n;subst e;rw[Nr.kY,ao];intro e;exact h2 (by rw[e];simp)}
theorem I4{p:Nat}(hp:0<p)(ht:p<=top):some_ p (kE p) (iK p) (dx p) ((gq p).length:Int)=some (gq p,dx p):=by obtain⟨hc,hn⟩:=Fb hp;have hQ:=uN (lR p) ((gq p).length -dx p);have h:=hn (gq p).length (by omega);rw[show((gq p).length -((gq p).length:Int)).toNat=0 by omega,Nat.pow_zero,Nat.mul_one,Nat.mul_one]at h;have hdiv:tA (kE p) ((gq p).length -dx p)/tB (iK p) ((gq p).length -dx p)=Nr.num (gq p):=by{rw[h,Nat.mul_div_cancel _ hQ]};have QD:tA (kE p) ((gq p).length -dx p)% tB (iK p) ((gq p).length -dx p)=0:=by{rw[h,Nat.mul_mod_left]};have hr:rd (Nr.num (gq p)) (dx p -(gq p).length)=some p:=Tq (P:=tA (kE p) ((gq p).length -dx p)) (Q:=tB (iK p) ((gq p).length -dx p)) (by unfold tA;rw[show(-(dx p -((gq p).length:Int)))=(gq p).length -dx p by omega]) (by unfold tB;rw[show(-(((gq p).length:Int) -dx p))=dx p -(gq p).length by omega]) h ht;unfold some_;simp only;rw[hdiv,QD,lT hr,ar ⟨rfl,.inr (.inl (by omega))⟩,(Bm hc).1,(Bm hc).2,show((gq p).length:Int)+(dx p -(gq p).length)=dx p by omega]
end Sh
namespace Sh
open Nr (V ll sh top jW rd pS iz)
theorem go_hit{p f i:Nat}{r:bD×Int}(h:some_ p (kE p) (iK p) (dx p) i=some r):go p (f+1) i=r:=by rw[go_succ,h];rfl
theorem go_miss{p f i:Nat}(h:some_ p (kE p) (iK p) (dx p) i=none):go p (f+1) i=go p f (i+1):=by rw[go_succ,h];rfl
theorem go_some{p:Nat}{r:bD×Int}{n:Nat}(h4:some_ p (kE p) (iK p) (dx p) n=some r):∀(m i f:Nat),i+m=n->m<f->(∀j:Nat,i<=j->j<n->some_ p (kE p) (iK p) (dx p) j=none)->go p f i=r:=by
 intro m;induction m with
 |zero=>intro i f h1 h2 h3;have h1:i=n:=h1;obtain⟨f,rfl⟩:∃g,f=g+1:=⟨f -1,by omega⟩;rw[h1];exact go_hit h4
 |succ m ih=>intro i f h1 h2 h3;obtain⟨f,rfl⟩:∃g,f=g+1:=⟨f -1,by omega⟩;rw[go_miss (h3 i (Nat.le_refl _) (by omega))];exact ih (i+1) f (by omega) (by omega) (λj a b=>h3 j (by omega) b)
theorem first{p:Nat}(hp:0<p)(ht:p<=top):∃n:Nat,1<=n/\n<=17/\(∀j:Nat,1<=j->j<n->some_ p (kE p) (iK p) (dx p) j=none)/\some_ p (kE p) (iK p) (dx p) n=some (digits p):=by
 have D4:=PN hp ht;have key:∀m i:Nat,i+m=17->1<=i->(∀j:Nat,1<=j->j<i->some_ p (kE p) (iK p) (dx p) j=none)->∃n:Nat,1<=n/\n<=17/\(∀j:Nat,1<=j->j<n->some_ p (kE p) (iK p) (dx p) j=none)/\(some_ p (kE p) (iK p) (dx p) n).isSome=true:=by
  intro m;induction m with
  |zero=>intro i hi h1 hn;have hi:i=17:=hi;exact⟨17,by omega,by omega,by rw[<-hi];exact hn,D4⟩
  |succ m ih=>
   intro i hi h1 hn;cases hs:some_ p (kE p) (iK p) (dx p) i with
   |some r=>exact⟨i,h1,by omega,hn,by rw[hs];rfl⟩
   |none=>refine ih (i+1) (by omega) (by omega) λj a b=>?_;by_cases c:j=i;{rw[c];exact hs};{exact hn j a (by omega)}
 obtain⟨n,n1,n2,n3,n4⟩:=key 16 1 rfl (by omega) (λj a b=>by omega);obtain⟨r,hr⟩:=Option.isSome_iff_exists.1 n4;refine⟨n,n1,n2,n3,?_⟩;have hg:digits p=r:=go_some hr (n -1) 1 17 (by omega) (by omega) n3;rw[hr,hg]
theorem HE{a b:Nat}(h:10^a<10^b):a<b:=by rcases Nat.lt_or_ge a b with c|c;{exact c};{have:=Nr.nN c;omega}
theorem Ew{M:Nat}(h:0<M):Nr.cU (Nr.dec (10*M))=Nr.cU (Nr.dec M):=by rw[Nr.r9 (show¬10*M<10 by omega),Nr.kY,show 10*M%10=0 by omega,ar (by rfl),show 10*M/10=M by omega]
theorem xw:∀n:Nat,Nr.cU (Nr.dec (10^n))=[49]
 |0=>by decide+kernel
 |n+1=>by rw[Nat.pow_succ,Nat.mul_comm,Ew (Nr.fg n),xw n]
theorem Hc(d:bD):(Nr.cU d).length<=d.length:=by obtain⟨t,h,_⟩:=Nr.kq d;have:=congrArg List.length h;rw[ae]at this;omega
theorem Lv{N n:Nat}(hn:1<=n)(h:N<=10^n):(Nr.cU (Nr.dec N)).length<=n:=by rcases Nat.lt_or_eq_of_le h with c|c;{exact Nat.le_trans (Hc _) (Nr.gY n N c hn)};{rw[c,xw];exact hn}
theorem zq{N:Nat}{k:Int}(h:0<N)(hl:(Nr.dec N).length<=300):Nr.read (Nr.cU (Nr.dec N)) ((Nr.dec N).length+k)=rd N k:=by obtain⟨d1,d2,d3,d4⟩:=Nr.lD N;obtain⟨t,t1,t2⟩:=Nr.kq (Nr.dec N);have hn:=congrArg Nr.num t1;rw[Nr.fJ,Nr.jV,List.length_replicate,Nat.add_zero,d2]at hn;have hL:=congrArg List.length t1;rw[ae,List.length_replicate]at hL;have ne:Nr.cU (Nr.dec N)≠[]:=by{intro e0;rw[e0,show Nr.num []=0 from rfl,Nat.zero_mul]at hn;omega};have:=List.length_pos_iff.2 ne;unfold Nr.read Nr.valid;rw[(Nr.fG d1 t1).1,aa (show 1<=(Nr.cU (Nr.dec N)).length/\(Nr.cU (Nr.dec N)).length<=300 by omega),ar (by rfl)];have e:rd N k=rd (Nr.num (Nr.cU (Nr.dec N))*10^t) k:=by{rw[<-hn]};rw[e,Nr.qX,show((Nr.dec N).length:Int)+k -(Nr.cU (Nr.dec N)).length=k+t by omega]
theorem G3{p a b:Nat}{x n:Int}{r:bD×Int}(h:some_ p a b x n=some r):∃N,(N=tA a (n -x)/tB b (n -x)\/N=tA a (n -x)/tB b (n -x)+1)/\rd N (x -n)=some p/\r=(Nr.cU (Nr.dec N),(Nr.dec N).length+(x -n)):=by unfold some_ at h;simp only at h;have key:∀N,reads p N (x -n)=some r->rd N (x -n)=some p/\r=(Nr.cU (Nr.dec N),(Nr.dec N).length+(x -n)):=λN hN=>by{unfold reads at hN;split at hN;{rename_i c;cases hN;exact⟨c,rfl⟩};{cases hN}};split at h;{exact⟨_,.inl rfl,key _ h⟩};{exact⟨_,.inr rfl,key _ h⟩}
theorem Ad{p:Nat}(hp:0<p)(ht:p<=top):∃n N:Nat,1<=n/\n<=17/\0<N/\N<=10^n/\rd N (dx p -n)=some p/\digits p=(Nr.cU (Nr.dec N),(Nr.dec N).length+(dx p -n))/\(∀j:Nat,1<=j->j<n->some_ p (kE p) (iK p) (dx p) j=none):=by
 obtain⟨n,n1,n2,n3,n4⟩:=first hp ht
 obtain⟨N,N1,N2,N3⟩:=G3 n4;obtain⟨r1,r2⟩:=xc hp (n:=n) (by omega);have hQ:=uN (lR p) (n -dx p);rw[ah]at r2;have lo:=(Nat.le_div_iff_mul_le hQ).2 r1;have hi:=(Nat.div_lt_iff_lt_mul hQ).2 r2;have:=Nr.fg ((n:Int) -1).toNat;refine⟨n,N,n1,n2,?_,?_,N2,N3,n3⟩<;>rcases N1 with h|h<;>omega
theorem Dr{p:Nat}(hp:0<p)(ht:p<=top):Nr.read (digits p).1 (digits p).2=some p:=by obtain⟨n,N,n1,n2,n3,n4,n5,n6,n7⟩:=Ad hp ht;rw[n6,zq n3 ?_,n5];refine Nat.le_trans (Nr.gY (n+1) N ?_ (by omega)) (by omega);exact Nat.lt_of_le_of_lt n4 (Nat.pow_lt_pow_right (by omega) (by omega))
end Sh
namespace Sh
open Nr (V ll sh top jW rd pS iz)
def ri(p:Nat):Int:=(sh (p -1):Int) -1075
theorem Oa{p:Nat}(hp:0<p)(ht:p<=top){a:bD}(ha:Nr.su a)(x:Int):wi p (Nr.iV a x (Nr.z6 (2*ll (p -1)+1) (ri p)) (Nr.BC (2*ll (p -1)+1) (ri p))) (Nr.iV a x (Nr.z6 (2*ll p+1) ((sh p:Int) -1075)) (Nr.BC (2*ll p+1) ((sh p:Int) -1075)))=true↔rd (Nr.num a) (x -a.length)=some p:=by have h1:=(Nr.Lm (m:=2*ll p+1) (e:=(sh p:Int) -1075) (by omega) (by omega) ha x).2;have h2:=(Nr.Lm (m:=2*ll (p -1)+1) (e:=ri p) (by omega) (by unfold ri;omega) ha x).2;rw[show((sh p:Int) -1075+1075).toNat=sh p by omega]at h1;rw[show(ri p+1075).toNat=sh (p -1) by unfold ri;omega]at h2;rw[h1,h2,Jt hp];have e:Nr.nA a x*Nr.jK=2*(Nr.num a*10^(x -a.length).toNat*2^1074):=Nr.mul_two Nr.kW;have m1:(2*ll p+1)*2^sh p=pS p:=rfl;have m2:(2*ll (p -1)+1)*2^sh (p -1)=pS (p -1):=rfl;have nb:Nr.nB a x=10^(-(x -a.length)).toNat:=rfl;rw[m1,m2,e,nb];generalize 2*(Nr.num a*10^(x -a.length).toNat*2^1074)=X;generalize pS p*10^(-(x -a.length)).toNat=Y;generalize pS (p -1)*10^(-(x -a.length)).toNat=Z;have c1:=oB X Y;have c2:=oB X Z;unfold wi;by_cases ev:p%2=0;{rw[ar ev,af,aD,aD];omega};{rw[ao ev,af,aD,aD];omega}
structure vE (d:bD):Prop where
 dg:d.all Nr.dA=true
 n:d≠[]
 h:d.getD 0 0≠48
theorem vE.dec{d:bD}(h:vE d):Nr.dec (Nr.num d)=d:=(Nr.mY _ d rfl h.dg h.n h.h).symm
theorem vE.eu{c:bD}(h:vE c)(j:Nat):vE (c++List.replicate j 48):=by refine⟨?_,by simp[h.n],?_⟩;{rw[List.all_append,h.dg,Bool.true_and];rw[aC];intro x hx;rw[List.eq_of_mem_replicate hx];rfl};{rw[ai,List.getElem?_append_left (List.length_pos_iff.2 h.n),<-ai];exact h.h}
theorem sN(c:bD)(j:Nat):Nr.num (c++List.replicate j 48)=Nr.num c*10^j:=by rw[Nr.fJ,Nr.jV,List.length_replicate,Nat.add_zero]
theorem tz(c:bD):∀j:Nat,Nr.cU (c++List.replicate j 48)=Nr.cU c
 |0=>by rw[List.replicate_zero,aK]
 |j+1=>by rw[List.replicate_succ',<-az,Nr.kY,ar rfl,tz c j]
theorem Al{c:bD}(h:Nr.su c):vE c:=⟨h.f.1,h.n,h.h⟩
theorem Fm{c:bD}(h:Nr.su c)(j:Nat):Nr.cU (Nr.dec (Nr.num c*10^j))=c/\(Nr.dec (Nr.num c*10^j)).length=c.length+j:=by rw[<-sN,((Al h).eu j).dec,tz,(Bm h).2];exact⟨rfl,by rw[ae,List.length_replicate]⟩
theorem Cu(d:bD):∃j,d=(d.reverse.dropWhile (· ==57)).reverse++List.replicate j 57/\((d.reverse.dropWhile (· ==57)).reverse=[]\/((d.reverse.dropWhile (· ==57)).reverse).getLast?.getD 0≠57):=by
 obtain⟨a,h1,h2,h3⟩:=Nr.kz (λb=>b==57) d.reverse;have ha:a=List.replicate a.length 57:=by{refine List.eq_replicate_iff.2 ⟨rfl,λx hx=>?_⟩;have:=aC.1 h2 x hx;simpa using this};have e:=congrArg List.reverse h1;rw[List.reverse_reverse,List.reverse_append]at e;refine⟨a.length,?_,?_⟩;{have:a.reverse=List.replicate a.length 57:=by{rw[ha,List.reverse_replicate,List.length_replicate]};rw[<-this];exact e}
 ·rcases h3 with h|h;{left;rw[h];rfl}
  ·right;generalize d.reverse.dropWhile (· ==57)=l at*;cases l with
   |nil=>simp
   |cons c r=>have:(c==57)=false:=h;simpa using this
theorem va:∀j:Nat,Nr.num (List.replicate j 57)+1=10^j
 |0=>rfl
 |j+1=>by have:=va j;rw[List.replicate_succ',Nr.mB,Nat.pow_succ,show(57:UInt8).toNat=57 by rfl];omega
theorem M6{d:bD}(hd:vE d)(x:Int):∃j:Nat,Nr.su (more d x).1/\Nr.num (more d x).1*10^j=Nr.num d+1/\(more d x).2=x -d.length+((more d x).1.length+j:Nat):=by
 obtain⟨j,h1,h2⟩:=Cu d;unfold more;simp only;generalize(d.reverse.dropWhile (· ==57)).reverse=s at*;have hl:=congrArg List.length h1;rw[ae,List.length_replicate]at hl;by_cases c:s=[];{rw[ar c];subst c;rw[bh]at h1;refine⟨j,(⟨⟨by decide,.inr (by decide)⟩,by decide,by decide⟩:Nr.su [49]),?_,?_⟩;{show Nr.num [49]*10^j=_;have:=va j;rw[h1,show Nr.num [49]=1 by decide];omega};{show x+1=_;rw[ak];have hl:d.length=j:=by{simpa using hl};omega}}
 ·rw[ao c];rcases Nr.jH s with e|⟨a,ch,e⟩;{exact(c e).elim}
  ·have h2:=h2.resolve_left c;subst e;rw[List.dropLast_concat,List.getLast?_concat];rw[List.getLast?_concat]at h2;have h2:ch≠57:=h2;obtain⟨d1,d2⟩:=Nr.fG hd.dg h1;obtain⟨d3,d4⟩:=Nr.fG d1 rfl;rw[List.all_cons,af]at d4;have hch:=Nr.iF.1 d4.1;have h57:ch.toNat≠57:=λe=>h2 (UInt8.toNat_inj.1 e);have hs:(ch+1).toNat=ch.toNat+1:=by{rw[UInt8.toNat_add];show(ch.toNat+1)%256=_;omega};have mU:ch+1≠48:=λe=>by{have:=congrArg UInt8.toNat e;rw[hs]at this;have VN:(48:UInt8).toNat=48:=rfl;omega};rw[show((some ch).getD 0:UInt8)=ch from rfl];refine⟨j,⟨⟨?_,.inr ?_⟩,by simp,?_⟩,?_,?_⟩;{rw[List.all_append,d3,List.all_cons,Nr.iF.2 (by omega)];rfl};{rw[List.getLast?_concat];intro e;injection e with e;exact mU e}
   ·show List.getD (a++[ch+1]) 0 0≠48;cases a with
    |nil=>exact mU
    |cons q r=>have:=hd.h;rw[h1]at this;exact this
   {show Nr.num (a++[ch+1])*10^j=_;have hn:=congrArg Nr.num h1;rw[Nr.fJ,List.length_replicate,Nr.mB]at hn;have h9:=va j;rw[Nr.mB,hs,hn];have:10*Nr.num a+(ch.toNat+1 -48)=10*Nr.num a+(ch.toNat -48)+1:=by{omega};rw[this,Nat.add_mul,Nat.one_mul];omega};{show x=_;rw[ae,ak]at hl;show x=x -(d.length:Int)+((a++[ch+1]).length+j:Nat);rw[ae,ak];omega}
def Cc(p n:Nat):Option (bD×Int):=
 let T:=(gq p).take n
 let f:=wi p (Nr.iV (Nr.cU T) (dx p) (Nr.z6 (2*ll (p -1)+1) (ri p)) (Nr.BC (2*ll (p -1)+1) (ri p))) (Nr.iV (Nr.cU T) (dx p) (Nr.z6 (2*ll p+1) ((sh p:Int) -1075)) (Nr.BC (2*ll p+1) ((sh p:Int) -1075)))
 let g:=wi p (Nr.iV (more T (dx p)).1 (more T (dx p)).2 (Nr.z6 (2*ll (p -1)+1) (ri p)) (Nr.BC (2*ll (p -1)+1) (ri p))) (Nr.iV (more T (dx p)).1 (more T (dx p)).2 (Nr.z6 (2*ll p+1) ((sh p:Int) -1075)) (Nr.BC (2*ll p+1) ((sh p:Int) -1075)))
 let jW:=Op.bytesLess ((gq p).drop n) [53]||(decide ((gq p).drop n=[53])&&decide ((T.getD (n -1) 0).toNat%2=0))
 if f&&g then(if jW then some (Nr.cU T,dx p)else some (more T (dx p)))else if f then some (Nr.cU T,dx p)else if g then some (more T (dx p))else none
theorem vj{d:bD}(h:vE d){n:Nat}(h1:1<=n)(h2:n<=d.length):vE (d.take n):=by refine⟨(Nr.fG h.dg (List.take_append_drop n d).symm).1,?_,?_⟩;{intro e;have:=congrArg List.length e;rw[aF,aE]at this;omega};{rw[ai,List.getElem?_take_of_lt (by omega),<-ai];exact h.h}
theorem JZ{d:bD}(h:vE d):0<Nr.num d:=Nat.lt_of_lt_of_le (Nr.fg _) (Nr.vb h.dg h.n h.h)
theorem JH{T:bD}(hd:T.all Nr.dA=true)(hn:T≠[]):Nr.num T%2=(T.getD (T.length -1) 0).toNat%2:=by rcases Nr.jH T with e|⟨a,c,e⟩;{exact(hn e).elim};{subst e;have hc:=Nr.iF.1 (aC.1 hd c (by simp));rw[Nr.mB,ae,ak,Nat.add_sub_cancel,kD];omega}
theorem step_eq{p:Nat}(hp:0<p)(ht:p<=top){n:Nat}(h1:1<=n)(h2:n<(gq p).length):some_ p (kE p) (iK p) (dx p) n=Cc p n:=by
 obtain⟨hc,hn⟩:=Fb hp;have h:=hn n (by omega);have hQ:=uN (lR p) ((n:Int) -dx p);rw[show((n:Int) -((gq p).length:Int)).toNat=0 by omega,Nat.pow_zero,Nat.mul_one,show(((gq p).length:Int) -n).toNat=(gq p).length -n by omega]at h;obtain⟨f1,f2,f3⟩:=Yk hQ (Nr.fg _) h;have hT:=vj (Al hc) h1 (Nat.le_of_lt h2);have Ny:((gq p).take n).length=n:=by{rw[aF];omega};have D1:((gq p).drop n).length=(gq p).length -n:=aR ..;have TP:=Nr.fJ ((gq p).take n) ((gq p).drop n);rw[List.take_append_drop,D1]at TP;have ZG:=(Nr.fG hc.f.1 (List.take_append_drop n (gq p)).symm).2;have hb:=Nr.q6 _ ZG;rw[D1]at hb;have hdiv:Nr.num (gq p)/10^((gq p).length -n)=Nr.num ((gq p).take n):=by{rw[TP,Nat.mul_comm,Nat.mul_add_div (Nr.fg _),Nat.div_eq_of_lt hb,Nat.add_zero]};have QD:Nr.num (gq p)%10^((gq p).length -n)=Nr.num ((gq p).drop n):=by{rw[TP,Nat.mul_comm,Nat.mul_add_mod,Nat.mod_eq_of_lt hb]};rw[QD]at f2 f3;rw[hdiv]at f1;obtain⟨t,t1,t2⟩:=Nr.kq ((gq p).take n);have t3:=congrArg Nr.num t1;rw[sN]at t3;have t4:=congrArg List.length t1;rw[ae,List.length_replicate,Ny]at t4;have ane:Nr.cU ((gq p).take n)≠[]:=by{intro e;have:=JZ hT;rw[t3,e,show Nr.num []=0 from rfl,Nat.zero_mul]at this;omega};have hca:Nr.su (Nr.cU ((gq p).take n)):=by{refine⟨⟨(Nr.fG hT.dg t1).1,t2⟩,ane,?_⟩;have:=hT.h;rw[t1,ai,List.getElem?_append_left (List.length_pos_iff.2 ane),<-ai]at this;exact this};have ra:rd (Nr.num ((gq p).take n)) (dx p -n)=rd (Nr.num (Nr.cU ((gq p).take n))) (dx p -(Nr.cU ((gq p).take n)).length):=by{rw[t3,Nr.qX,show dx p -(n:Int)+t=dx p -(Nr.cU ((gq p).take n)).length by omega]};obtain⟨j,m1,m2,m3⟩:=M6 hT (dx p);rw[Ny]at m3;have rc:rd (Nr.num ((gq p).take n)+1) (dx p -n)=rd (Nr.num (more ((gq p).take n) (dx p)).1) ((more ((gq p).take n) (dx p)).2 -(more ((gq p).take n) (dx p)).1.length):=by{rw[<-m2,Nr.qX,show dx p -(n:Int)+j=(more ((gq p).take n) (dx p)).2 -(more ((gq p).take n) (dx p)).1.length by omega]};have wa:=Oa hp ht hca (dx p);have wc:=Oa hp ht m1 (more ((gq p).take n) (dx p)).2;rw[<-ra]at wa;rw[<-rc]at wc;have ua:rd (Nr.num ((gq p).take n)) (dx p -n)=some p->reads p (Nr.num ((gq p).take n)) (dx p -n)=some (Nr.cU ((gq p).take n),dx p):=λk=>by{rw[lT k,hT.dec,Ny,show(n:Int)+(dx p -n)=dx p by omega]};have uc:rd (Nr.num ((gq p).take n)+1) (dx p -n)=some p->reads p (Nr.num ((gq p).take n)+1) (dx p -n)=some (more ((gq p).take n) (dx p)):=λk=>by{obtain⟨c1,c2⟩:=Fm m1 j;rw[lT k,<-m2,c1,c2,show(((more ((gq p).take n) (dx p)).1.length+j:Nat):Int)+(dx p -n)=(more ((gq p).take n) (dx p)).2 by omega]};have hbf:Nr.DT ((gq p).drop n):=by{refine⟨ZG,.inr ?_⟩;have:=hc.f.2.resolve_left hc.n;rw[List.getLast?_drop,nO];exact this};obtain⟨l1,l2⟩:=Nr.EN ((gq p).drop n) [53] 0 ((gq p).length -n -1) hbf ⟨by decide,.inr (by decide)⟩ (by rw[D1,ak];omega);rw[Nat.pow_zero,Nat.mul_one,show Nr.num [53]=5 by decide]at l1 l2;have hw:10^((gq p).length -n)=2*(5*10^((gq p).length -n -1)):=by{rw[show(gq p).length -n=((gq p).length -n -1)+1 by omega,Nat.pow_succ,Nat.add_sub_cancel];omega};rw[hw]at f2 f3;have TT:=JH hT.dg hT.n;rw[Ny]at TT;have OS:(2*(tA (kE p) ((n:Int) -dx p)% tB (iK p) ((n:Int) -dx p))<tB (iK p) ((n:Int) -dx p)\/(2*(tA (kE p) ((n:Int) -dx p)% tB (iK p) ((n:Int) -dx p))=tB (iK p) ((n:Int) -dx p)/\Nr.num ((gq p).take n)%2=0))↔(Op.bytesLess ((gq p).drop n) [53]||(decide ((gq p).drop n=[53])&&decide ((((gq p).take n).getD (n -1) 0).toNat%2=0)))=true:=by{rw[Bool.or_eq_true,af,aD,aD,f2,f3,l1,l2,TT];omega};unfold some_ Cc;simp only;rw[f1];generalize wi p (Nr.iV (Nr.cU ((gq p).take n)) (dx p) _ _) _=f at*;generalize wi p (Nr.iV (more ((gq p).take n) (dx p)).1 (more ((gq p).take n) (dx p)).2 _ _) _=g at*;generalize(Op.bytesLess ((gq p).drop n) [53]||(decide ((gq p).drop n=[53])&&decide ((((gq p).take n).getD (n -1) 0).toNat%2=0)))=nr at*;cases f with
 |false=>
  have na:¬rd (Nr.num ((gq p).take n)) (dx p -n)=some p:=λk=>by{have:=wa.2 k;cases this};rw[mP na,ao (by simp),Bool.false_and,ao (by simp),ao (by simp)];cases g with
  |false=>rw[mP (λk=>by have:=wc.2 k;cases this),ao (by simp)]
  |true=>rw[uc (wc.1 rfl),ar rfl]
 |true=>
  rw[ua (wa.1 rfl),Bool.true_and];cases g with
  |false=>rw[mP (λk=>by have:=wc.2 k;cases this),ar ⟨rfl,.inl rfl⟩,ao (by simp),ar rfl]
  |true=>rw[uc (wc.1 rfl),ar (show true=true from rfl)];by_cases k:nr=true;{rw[ar ⟨rfl,.inr (OS.2 k)⟩,ar k]};{rw[ao ?_,ao k];rintro⟨_,h|h⟩;{simp at h};{exact k (OS.1 h)}}
end Sh
open Go.IntWalk
namespace Nr
structure Shape (t a b fr ex e:bD):Prop where
 eq:t=a++fr++ex
 a0:a≠[]
 ad:a.all dA=true
 fr:(fr=[]/\b=[])\/(fr=46::b/\b≠[])
 bd:b.all dA=true
 ex:(ex=[]/\e=[])\/(∃c,Kj c=true/\ex=c::e/\signed e≠[])
 ed:(signed e).all dA=true
theorem ui{c:UInt8}(h:dA c=true):Kj c=false/\c≠46/\c.toNat<128/\([101,69]:bD).contains c=false:=by have h1:=iF.1 h;have mU:∀d:UInt8,d.toNat<48\/57<d.toNat->c≠d:=λd hd e=>by{subst e;omega};have n1:=mU 101 (by decide);have n2:=mU 69 (by decide);have n3:=mU 46 (by decide);refine⟨ab (by simp[n1,n2]),n3,by omega,by simp[n1,n2]⟩
theorem pB{p:UInt8->Bool}{a b:bD}(ha:a.all p=true)(hb:b=[]\/p (b.getD 0 0)=false):(a++b).takeWhile p=a/\(a++b).dropWhile p=b:=by
 induction a with
 |nil=>
  cases b with
  |nil=>exact⟨rfl,rfl⟩
  |cons c r=>have hc:p c=false:=hb.resolve_left (by simp);rw[bh,List.takeWhile_cons,List.dropWhile_cons,ao (by rw[hc];simp),ao (by rw[hc];simp)];exact⟨rfl,rfl⟩
 |cons c r ih=>rw[List.all_cons,af]at ha;obtain⟨i1,i2⟩:=ih ha.2;rw[List.cons_append,List.takeWhile_cons,List.dropWhile_cons,ar ha.1,ar ha.1,i1,i2];exact⟨rfl,rfl⟩
section
variable{s a b fr ex e:bD}(h:Shape (body s) a b fr ex e)
include h
theorem Shape.noE:(a++fr).all (λc=>!Kj c)=true:=by rw[List.all_append,af];constructor;{exact aC.2 λx hx=>by rw[(ui (aC.1 h.ad x hx)).1];rfl};{rcases h.fr with⟨h1,_⟩|⟨h1,_⟩;{rw[h1];rfl};{rw[h1,List.all_cons,af];exact⟨by decide,aC.2 λx hx=>by rw[(ui (aC.1 h.bd x hx)).1];rfl⟩}}
theorem Shape.parts:M8 s=a++fr/\tail s=e/\ahead s=a/\behind s=b:=by have hx:ex=[]\/(!Kj (ex.getD 0 0))=false:=by{rcases h.ex with⟨h1,_⟩|⟨c,h1,h2,_⟩;{exact .inl h1};{right;rw[h2];show(!Kj c)=false;rw[h1];rfl}};obtain⟨t1,t2⟩:=pB h.noE hx;rw[<-h.eq]at t1 t2;have hm:M8 s=a++fr:=t1;have ht:tail s=ex.drop 1:=by{unfold tail;rw[t2]};have hf:fr=[]\/(fr.getD 0 0!=46)=false:=by{rcases h.fr with⟨h1,_⟩|⟨h1,_⟩;{exact .inl h1};{right;rw[h1];rfl}};have Uf:a.all (· !=46)=true:=aC.2 λx hx=>by{have:=(ui (aC.1 h.ad x hx)).2.1;simpa using this};obtain⟨u1,u2⟩:=pB Uf hf;refine⟨hm,?_,?_,?_⟩;{rw[ht];rcases h.ex with⟨h1,h2⟩|⟨c,h1,h2,_⟩;{rw[h1,h2];rfl};{rw[h2];rfl}};{unfold ahead;rw[hm];exact u1};{unfold behind;rw[hm,u2];rcases h.fr with⟨h1,h2⟩|⟨h1,_⟩;{rw[h1,h2];rfl};{rw[h1];rfl}}
theorem Shape.UC:(body s).all (λc=>decide (c.toNat<128))=true:=by
 have hd:∀l:bD,l.all dA=true->l.all (λc=>decide (c.toNat<128))=true:=λl hl=>aC.2 λx hx=>aa (ui (aC.1 hl x hx)).2.2.1;rw[h.eq,List.all_append,List.all_append,af,af];refine⟨⟨hd a h.ad,?_⟩,?_⟩;{rcases h.fr with⟨h1,_⟩|⟨h1,_⟩;{rw[h1];rfl};{rw[h1,List.all_cons,hd b h.bd];rfl}}
 ·rcases h.ex with⟨h1,_⟩|⟨c,h1,h2,_⟩;{rw[h1];rfl}
  ·rw[h2,List.all_cons,af];have hc:c=101\/c=69:=aq h1;refine⟨by rcases hc with rfl|rfl<;>decide,?_⟩;have he:=h.ed;cases e with
   |nil=>rfl
   |cons d r=>rw[nu]at he;rw[List.all_cons];by_cases k:d=43\/d=45;{rw[ar k]at he;rw[hd r he];rcases k with rfl|rfl<;>rfl};{rw[ao k]at he;have:=hd _ he;rw[List.all_cons]at this;exact this}
end
end Nr
end Go.Eng
namespace Go.Eng
namespace Sh
open Nr (V ll sh top jW rd pS iz dA Kj signed run nh qw body fC)
theorem uP{a b:bD}(ha:a.all dA=true)(hb:b=[]\/dA (b.getD 0 0)=false):run (a++b)=a.length:=by unfold run;rw[(Nr.pB ha hb).1]
theorem zJ{ex e:bD}{k:Int}(hk:k≠0)(hx:(ex=[]/\e=[])\/(∃c,Kj c=true/\ex=c::e/\signed e≠[]))(he:(signed e).all dA=true):qw ex k≠0:=by rcases hx with⟨h,_⟩|⟨c,h1,h2,h3⟩;{rw[h];exact hk};{have hc:c=101\/c=69:=aq h1;have hr:=uP he (b:=[]) (.inl rfl);rw[aK]at hr;have hl:=List.length_pos_iff.2 h3;rw[h2,Nr.rm,ar hc,nO];decide}
theorem Gf{c:UInt8}(h:Kj c=true):dA c=false/\c≠46:=by have:c=101\/c=69:=aq h;rcases this with rfl|rfl<;>exact⟨rfl,by decide⟩
theorem LA(s:bD):fC s=if run (body s)=0\/((body s).getD 0 0=48/\1<run (body s))then 0 else nh ((body s).drop (run (body s))):=rfl
theorem rR{s a b fr ex e:bD}(h:Nr.Shape (body s) a b fr ex e)(h0:a=[48]\/a.getD 0 0≠48):fC s≠0:=by have Zg:ex=[]\/dA (ex.getD 0 0)=false:=by{rcases h.ex with⟨x,_⟩|⟨c,x1,x2,_⟩;{exact .inl x};{right;rw[x2];exact(Gf x1).1}};have hfd:fr++ex=[]\/dA ((fr++ex).getD 0 0)=false:=by{rcases h.fr with⟨f1,_⟩|⟨f1,_⟩;{rw[f1];exact Zg};{right;rw[f1];rfl}};have hr:run (body s)=a.length:=by{rw[h.eq,az];exact uP h.ad hfd};have Nx:=List.length_pos_iff.2 h.a0;have hg:(body s).getD 0 0=a.getD 0 0:=by{rw[h.eq,az,ai,List.getElem?_append_left Nx,<-ai]};have OX:(body s).drop a.length=fr++ex:=by{rw[h.eq,az,List.drop_left]};rw[LA,hr,hg,OX,ao];{rcases h.fr with⟨f1,f2⟩|⟨f1,f2⟩;{rw[f1,bh];have QB:¬(0<ex.length/\ex.getD 0 0=46):=by{rintro⟨k1,k2⟩;rcases h.ex with⟨x,_⟩|⟨c,x1,x2,_⟩;{rw[x]at k1;simp at k1};{rw[x2]at k2;exact(Gf x1).2 k2}};rw[Nr.pF QB];exact zJ (by decide) h.ex h.ed};{have hb:=uP h.bd Zg;have D1:=List.length_pos_iff.2 f2;rw[f1,List.cons_append,Nr.rk,hb,nO,List.drop_left];exact zJ (by decide) h.ex h.ed}};{rintro(k|⟨k1,k2⟩);{omega};{rcases h0 with h0|h0;{rw[h0]at k2;simp at k2};{exact h0 k1}}}
theorem vO{s a b fr ex e:bD}{p:Nat}(h:Nr.Shape (body s) a b fr ex e)(h0:a=[48]\/a.getD 0 0≠48)(hs:s.length<=300)(hr:Nr.read (a++b) ((a.length:Int)+Nr.sr e)=some p):Nr.parse s=(UInt64.ofNat (p+if s.getD 0 0=45 then 9223372036854775808 else 0),0):=by
 obtain⟨q1,q2,q3,q4⟩:=h.parts;have hx:=rR h h0;have ep:Nr.parse s=match Nr.read (Nr.ahead s++Nr.behind s) ((Nr.ahead s).length+Nr.sr (Nr.tail s))with
  |none=>(0,10)
  |some p=>(UInt64.ofNat (p+if s.getD 0 0=45 then 9223372036854775808 else 0),0):=by
  rw[Nr.xJ];unfold Nr.uV
  rw[ao hx,nO]
  rfl
 rw[ep,q2,q3,q4,hr]
theorem uA(n:Int):(eu n).all dA=true:=by unfold eu;rw[aC];intro x hx;rw[List.eq_of_mem_replicate hx];rfl
theorem qe{d:bD}(h:d.all dA=true)(n:Nat):(d.drop n).all dA=true/\(d.take n).all dA=true:=by have:=Nr.fG h (List.take_append_drop n d).symm;exact⟨this.2,this.1⟩
theorem pq{v:Int}(h:0<=v):Nr.itoa v=Nr.dec v.toNat/\(Nr.itoa v).all dA=true/\Nr.num (Nr.itoa v)=v.toNat/\Nr.itoa v≠[]:=by have e:Nr.itoa v=Nr.dec v.toNat:=by{rw[Nr.kt,nO,show v.natAbs=v.toNat by omega]};obtain⟨d1,d2,d3,d4⟩:=Nr.lD v.toNat;rw[e];exact⟨rfl,d1,d2,d3⟩
theorem Dh{v:Int}(h:0<=v):Nr.sr (45::Nr.itoa v)=-v/\signed (45::Nr.itoa v)=Nr.itoa v:=by obtain⟨_,d1,d2,d3⟩:=pq h;have e:signed (45::Nr.itoa v)=Nr.itoa v:=by{rw[Nr.nu,ar (.inr rfl)]};refine⟨?_,e⟩;unfold Nr.sr;simp only;rw[e,d2,ar (by rfl)];omega
theorem Dg{v:Int}(h:0<=v):Nr.sr (43::Nr.itoa v)=v/\signed (43::Nr.itoa v)=Nr.itoa v:=by obtain⟨_,d1,d2,d3⟩:=pq h;have e:signed (43::Nr.itoa v)=Nr.itoa v:=by{rw[Nr.nu,ar (.inl rfl)]};refine⟨?_,e⟩;unfold Nr.sr;simp only;rw[e,d2,ao (by show¬((43:UInt8)=45);decide)];omega
theorem FP{D E:bD}{x y:Int}{j:Nat}(h1:Nr.valid D=true)(h2:Nr.valid E=true)(hn:Nr.num D=Nr.num E*10^j)(hx:x -D.length+j=y -E.length):Nr.read D x=Nr.read E y:=by unfold Nr.read;rw[ar h1,ar h2,hn,Nr.qX,hx]
theorem xb{D:bD}(h:D.all dA=true)(h1:1<=D.length)(h2:D.length<=300):Nr.valid D=true:=by unfold Nr.valid;rw[h,aa ⟨h1,h2⟩];rfl
theorem zm{t a b fr ex e:bD}(h:Nr.Shape t a b fr ex e):dA (t.getD 0 0)=true:=by have Nx:=List.length_pos_iff.2 h.a0;rw[h.eq,az,ai,List.getElem?_append_left Nx,aw Nx];exact aC.1 h.ad _ (List.getElem_mem Nx)
theorem rZ{v:Int}(h:0<=v)(h2:v<1000):(Nr.itoa v).length<=3:=by rw[(pq h).1];exact Nr.gY 3 v.toNat (by show v.toNat<1000;omega) (by omega)
theorem sT{d:bD}(hd:vE d)(hl:d.length<=17){x:Int}(hx:-900<=x/\x<=900):∃a b fr ex e,Nr.Shape (laid d x) a b fr ex e/\(a=[48]\/a.getD 0 0≠48)/\(laid d x).length<=24/\Nr.read (a++b) ((a.length:Int)+Nr.sr e)=Nr.read d x:=by have hn:=List.length_pos_iff.2 hd.n;have hv:=xb hd.dg hn (by omega);unfold laid;by_cases c1:1<=x/\x<=21/\(d.length:Int)<=x;{rw[ar c1];have hz:=hd.eu (x -d.length).toNat;have HJ:(d++eu (x -d.length)).length=x.toNat:=by{unfold eu;rw[ae,List.length_replicate];omega};refine⟨d++eu (x -d.length),[],[],[],[],⟨by simp,hz.n,hz.dg,.inl ⟨rfl,rfl⟩,rfl,.inl ⟨rfl,rfl⟩,rfl⟩,.inr hz.h,by omega,?_⟩;rw[aK];refine FP (j:=(x -d.length).toNat) (xb hz.dg (by omega) (by omega)) hv (sN d _) ?_;rw[HJ,show Nr.sr []=0 from rfl];omega};{rw[ao c1];by_cases c2:1<=x/\x<=21;{rw[ar c2];have ht:=vj hd (n:=x.toNat) (by omega) (by omega);have Qq:(d.take x.toNat).length=x.toNat:=by{rw[aF];omega};have OY:(d.drop x.toNat).length=d.length -x.toNat:=aR ..;refine⟨d.take x.toNat,d.drop x.toNat,46::d.drop x.toNat,[],[],⟨by simp,ht.n,ht.dg,.inr ⟨rfl,?_⟩,(qe hd.dg _).1,.inl ⟨rfl,rfl⟩,rfl⟩,.inr ht.h,?_,?_⟩;{intro e;rw[e,aE]at OY;omega};{rw[ae,ae,ak,Qq,OY];omega};{rw[List.take_append_drop,Qq,show Nr.sr []=0 from rfl,show((x.toNat:Nat):Int)+0=x by omega]}};{rw[ao c2];by_cases c3:-5<=x/\x<=0;{rw[ar c3];have HJ:(eu (-x)++d).length=(-x).toNat+d.length:=by{unfold eu;rw[ae,List.length_replicate]};have WN:(eu (-x)++d).all dA=true:=by{rw[List.all_append,uA,hd.dg];rfl};refine⟨[48],eu (-x)++d,46::(eu (-x)++d),[],[],⟨by simp,by simp,by rfl,.inr ⟨rfl,?_⟩,WN,.inl ⟨rfl,rfl⟩,rfl⟩,.inl rfl,?_,?_⟩;{intro e;rw[e,aE]at HJ;omega};{rw[ae,HJ];show 2+_<=24;omega};{have hd1:([48]++(eu (-x)++d)).all dA=true:=by{rw[List.all_append,WN];rfl};have TY:([48]++(eu (-x)++d)).length=1+((-x).toNat+d.length):=by{rw[ae,HJ];rfl};refine FP (j:=0) (xb hd1 (by omega) (by omega)) hv ?_ ?_;{rw[Nr.fJ,Nr.fJ];have:Nr.num (eu (-x))=0:=Nr.jV _;rw[this,show Nr.num [48]=0 by decide];omega};{rw[TY,show Nr.sr []=0 from rfl,ak];omega}}};{rw[ao c3];have ht:=vj hd (n:=1) (by omega) hn;have Qq:(d.take 1).length=1:=by{rw[aF];omega};have OY:(d.drop 1).length=d.length -1:=aR ..;have ZC:((if 1<d.length then 46::d.drop 1 else[]:bD)=[]/\d.drop 1=[])\/((if 1<d.length then 46::d.drop 1 else[]:bD)=46::d.drop 1/\d.drop 1≠[]):=by{by_cases k:1<d.length;{right;rw[ar k];refine⟨rfl,λe=>?_⟩;rw[e,aE]at OY;omega};{left;rw[ao k];exact⟨rfl,List.length_eq_zero_iff.1 (by omega)⟩}};have Kv:(if 1<d.length then 46::d.drop 1 else[]:bD).length<=17:=by{split;{rw[av,OY];omega};{simp}};generalize hF:(if 1<d.length then 46::d.drop 1 else[]:bD)=F at*;by_cases c4:x<1;{rw[ar c4];obtain⟨i1,i2,i3,i4⟩:=pq (v:=1 -x) (by omega);obtain⟨e1,e2⟩:=Dh (v:=1 -x) (by omega);have il:=rZ (v:=1 -x) (by omega) (by omega);refine⟨d.take 1,d.drop 1,F,101::45::Nr.itoa (1 -x),45::Nr.itoa (1 -x),⟨by simp,ht.n,ht.dg,ZC,(qe hd.dg _).1,.inr ⟨101,by decide,rfl,by rw[e2];exact i4⟩,by rw[e2];exact i2⟩,.inr ht.h,?_,?_⟩;{rw[ae,ae,Qq,ae];show 1+F.length+(2+_)<=24;omega};{rw[List.take_append_drop,Qq,e1,show((1:Nat):Int)+-(1 -x)=x by omega]}};{rw[ao c4];obtain⟨i1,i2,i3,i4⟩:=pq (v:=x -1) (by omega);obtain⟨e1,e2⟩:=Dg (v:=x -1) (by omega);have il:=rZ (v:=x -1) (by omega) (by omega);refine⟨d.take 1,d.drop 1,F,101::43::Nr.itoa (x -1),43::Nr.itoa (x -1),⟨by simp,ht.n,ht.dg,ZC,(qe hd.dg _).1,.inr ⟨101,by decide,rfl,by rw[e2];exact i4⟩,by rw[e2];exact i2⟩,.inr ht.h,?_,?_⟩;{rw[ae,ae,Qq,ae];show 1+F.length+(2+_)<=24;omega};{rw[List.take_append_drop,Qq,e1,show((1:Nat):Int)+(x -1)=x by omega]}}}}}
theorem Lz{t:bD}(h:dA (t.getD 0 0)=true):body t=t/\t.getD 0 0≠45:=by
 cases t with
 |nil=>exact absurd h (by decide)
 |cons c r=>have hc:dA c=true:=h;have E1:=Nr.iF.1 hc;have hn:c≠45:=λe=>by{subst e;exact absurd E1.1 (by decide)};refine⟨?_,hn⟩;unfold body;split;{rename_i heq;injection heq with h1 _;exact(hn h1).elim};{rfl}
theorem HF{d:bD}(hd:vE d)(hl:d.length<=17){x:Int}(hx:-900<=x/\x<=900){p:Nat}(hr:Nr.read d x=some p)(neg:Bool):Nr.parse ((if neg then[45]else[])++laid d x)=(UInt64.ofNat (p+if neg then 9223372036854775808 else 0),0)/\fC ((if neg then[45]else[])++laid d x)≠0/\((if neg then[45]else[])++laid d x).length<=25:=by
 obtain⟨a,b,fr,ex,e,sh,h0,hlen,Kq⟩:=sT hd hl hx;obtain⟨b1,b2⟩:=Lz (zm sh);rw[hr]at Kq;cases neg with
 |false=>have e0:((if false=true then[45]else[]:bD)++laid d x)=laid d x:=rfl;rw[e0];rw[<-b1]at sh;have hp:=vO sh h0 (by omega) Kq;rw[ao b2]at hp;exact⟨hp,rR sh h0,by omega⟩
 |true=>have e0:((if true=true then[45]else[]:bD)++laid d x)=45::laid d x:=rfl;rw[e0];have b3:body (45::laid d x)=laid d x:=rfl;rw[<-b3]at sh;have hp:=vO sh h0 (by rw[av];omega) Kq;rw[ar (by rfl)]at hp;exact⟨hp,rR sh h0,by rw[av];omega⟩
end Sh
open Go.IntWalk
theorem JS(x:UInt64):(x&&&(2047:UInt64)).toNat=x.toNat%2048:=by rw[UInt64.toNat_and];exact Nat.and_two_pow_sub_one_eq_mod x.toNat 11
theorem hO.goal(b:UInt64):hO.F b=some [.i .i64 (Nr.split b).1,.b (Nr.split b).2.1,.u64 (Nr.split b).2.2.1,.i .i64 (Nr.split b).2.2.2]:=by apply hO.bU;intro v1 h1 v2 h2 v3 h3 v4 h4 v5 h5 v6 h6 v7 h7 v8 h8;have hb:=b.toNat_lt;have hv1:v1.toNat=b.toNat/9223372036854775808:=by{rw[h1,eF];rfl};have hv2:v2.toNat=b.toNat/4503599627370496:=by{rw[h2,eF];rfl};have e3:v3=((b.toNat/4503599627370496%2048:Nat):Int):=by{rw[h3,JS,hv2,iw]};have e4:v4.toNat=b.toNat%4503599627370496:=by{rw[h4,EL]};have en:decide (v1=1)=decide (9223372036854775808<=b.toNat):=by{by_cases c:9223372036854775808<=b.toNat;{rw[aa c,aa (fw (by rw[hv1];show _=1;omega))]};{rw[ab c,ab (λh=>by have:=congrArg UInt64.toNat h;rw[hv1]at this;have e1:(1:UInt64).toNat=1:=rfl;omega)]}};have ef:decide (v4=0)=decide (b.toNat%4503599627370496=0):=by{by_cases c:b.toNat%4503599627370496=0;{rw[aa c,aa (fw (by rw[e4];exact c))]};{rw[ab c,ab (λh=>by have:=congrArg UInt64.toNat h;rw[e4]at this;exact c this)]}};have e4':v4=UInt64.ofNat (b.toNat%4503599627370496):=fw (by rw[e4,fI];omega);have e7:v7=UInt64.ofNat (4503599627370496+b.toNat%4503599627370496):=fw (by rw[h7,UInt64.toNat_add,e4,fI];rfl);have e8:v8=((b.toNat/4503599627370496%2048:Nat):Int) -1075:=by{rw[h8,e3,iw]};have nG:∀b:Bool,(!b||b)=true:=by{decide};rw[bB (nG _),bB (nG _),bB (nG _),bB (nG _),en];unfold Nr.split;simp only;rw[ef]at h5 h6;generalize b.toNat/4503599627370496%2048=x at*;by_cases c1:x=2047;{rw[ar c1];have e5:v5=false:=by{rw[h5,cF]};have K3:decide (v3=2047)=true:=dT;rw[K3,au]at h6;rw[e5,aj,h6,K3];by_cases c2:b.toNat%4503599627370496=0;{rw[cT c2,ar c2]};{rw[cF c2,au,ao c2]}};{rw[ao c1];have K3:decide (v3=2047)=false:=dF;rw[K3,aj]at h6;rw[h6,K3,aj,aj];by_cases c2:x=0;{have K4:decide (v3=0)=true:=dT;rw[K4,au]at h5;rw[h5,K4,ar c2,au];by_cases c3:b.toNat%4503599627370496=0;{rw[cT c3,ar c3]};{rw[cF c3,ao c3,e4']}};{have K4:decide (v3=0)=false:=dF;rw[K4,aj]at h5;rw[h5,K4,ao c2,aj,aj,e7,e8]}}
theorem jj.goal(a:bD)(x:Int)(b:bD)(y:Int):jj.F a x b y=some [.i .i64 (Nr.iV a x b y)]:=by apply jj.bU;intro v1 h1 v2 h2 v3 h3 v4 h4;have e3:v3=(decide (x<y)||(decide (x=y)&&Op.bytesLess a b)):=by{rw[h3,h2];cases decide (x<y)<;>cases decide (x=y)<;>rfl};have e4:v4=(decide (x=y)&&decide (a=b)):=by{rw[h4];cases decide (x=y)<;>rfl};unfold Nr.iV;rw[h1,e3,e4];cases decide (x<y)<;>cases decide (x=y)<;>cases Op.bytesLess a b<;>cases decide (a=b)<;>rfl
theorem Tt(x:UInt64)(h:x.toNat<4503599627370496):((4503599627370496:UInt64)|||x)=UInt64.ofNat (4503599627370496+x.toNat):=by apply fw;rw[UInt64.toNat_or,fI];have:=pD (a:=1) (k:=52) (b:=x.toNat) h;show 4503599627370496|||x.toNat=_;rw[show(4503599627370496:Nat)=1*2^52 by decide,this];have:(1:Nat)*2^52=4503599627370496:=by{decide};omega
theorem jD.goal(b:UInt64):jD.F b=some [.i .i64 (Nr.split b).1,.b (Nr.split b).2.1,.u64 (Nr.split b).2.2.1,.i .i64 (Nr.split b).2.2.2]:=by apply jD.bU;intro v1 h1 v2 h2 v3 h3 v4 h4 v5 h5 v6 h6 v7 h7 v8 h8;have hb:=b.toNat_lt;have hv4:v4.toNat=b.toNat/9223372036854775808:=by{rw[h4,eF];rfl};have hv1:v1.toNat=b.toNat/4503599627370496:=by{rw[h1,eF];rfl};have e2:v2=((b.toNat/4503599627370496%2048:Nat):Int):=by{rw[h2,JS,hv1,iw]};have e3:v3.toNat=b.toNat%4503599627370496:=by{rw[h3,EL]};have en:decide (v4=1)=decide (9223372036854775808<=b.toNat):=by{by_cases c:9223372036854775808<=b.toNat;{rw[aa c,aa (fw (by rw[hv4];show _=1;omega))]};{rw[ab c,ab (λh=>by have:=congrArg UInt64.toNat h;rw[hv4]at this;have e1:(1:UInt64).toNat=1:=rfl;omega)]}};have ef:decide (v3=0)=decide (b.toNat%4503599627370496=0):=by{by_cases c:b.toNat%4503599627370496=0;{rw[aa c,aa (fw (by rw[e3];exact c))]};{rw[ab c,ab (λh=>by have:=congrArg UInt64.toNat h;rw[e3]at this;exact c this)]}};have VS:v3=UInt64.ofNat (b.toNat%4503599627370496):=fw (by rw[e3,fI];omega);have e7:v7=UInt64.ofNat (4503599627370496+b.toNat%4503599627370496):=by{rw[h7,Tt _ (by omega),e3]};have e8:v8=((b.toNat/4503599627370496%2048:Nat):Int) -1075:=by{rw[h8,e2,iw]};have nG:∀b:Bool,(!b||b)=true:=by{decide};rw[bB (nG _),bB (nG _),bB (nG _),bB (nG _),en];unfold Nr.split;simp only;rw[ef]at h5 h6;generalize b.toNat/4503599627370496%2048=x at*;by_cases c1:x=2047;{rw[ar c1];have K3:decide (v2=2047)=true:=dT;rw[K3,au]at h5;rw[h5,K3];by_cases c2:b.toNat%4503599627370496=0;{rw[aa c2,ar c2];rfl};{rw[ab c2,ao c2];rfl}};{rw[ao c1];have K3:decide (v2=2047)=false:=dF;rw[K3,aj]at h5;rw[h5,K3,aj,aj];by_cases c2:x=0;{have K4:decide (v2=0)=true:=dT;rw[K4,au]at h6;rw[h6,K4,ar c2];by_cases c3:b.toNat%4503599627370496=0;{rw[aa c3,ar c3];rfl};{rw[ab c3,ao c3,VS];rfl}};{have K4:decide (v2=0)=false:=dF;rw[K4,aj]at h6;rw[h6,K4,ao c2,aj,aj,e7,e8]}}
theorem iW.goal(v:Int)(hp:Nr.i64 v=true):iW.F v=some [.s (Nr.itoa v)]:=by rw[iW.de,hp];rfl
theorem AA(k:Nat)(h:k<=400):10^k<2^1400:=by have hk:∀n:Nat,n=400->10^k<=10^n:=λn hn=>Nat.pow_le_pow_right (by omega) (by omega);exact Nat.lt_of_le_of_lt (hk 400 rfl) (by decide+kernel)
theorem qt{a b i j k:Nat}(h1:a<2^i)(h2:b<2^j)(h:i+j<=k):a*b<2^k:=by refine mc (i:=i+j) ?_ h;rw[Nat.pow_add];exact Nat.mul_lt_mul'' h1 h2
theorem Oj{a:Nat}{k:Int}(ha:a<2^1100)(hk:-400<=k/\k<=400):Sh.tA a k<2^2500:=qt (i:=1100) (j:=1400) (k:=2500) ha (AA _ (by omega)) (by omega)
theorem Oi{a:Nat}{k:Int}(ha:a<2^1100)(hk:-400<=k/\k<=400):Sh.tB a k<2^2500:=qt (i:=1100) (j:=1400) (k:=2500) ha (AA _ (by omega)) (by omega)
theorem jL.goal(a b:List UInt16)(k:Int)(hp:(Nt.is a&&Nt.is b&&decide (-400<=k/\k<=400/\Nt.val a<2^1100/\Nt.val b<2^1100))=true):jL.F a b k=some [.sl .ws (Nt.of (Sh.tA (Nt.val a) k)),.sl .ws (Nt.of (Sh.tB (Nt.val b) k))]:=by rw[af,af]at hp;obtain⟨⟨ha,hb⟩,hp⟩:=hp;obtain⟨k1,k2,k3,k4⟩:=aq hp;apply jL.bU;intro v1 h1 v2 h2 v3 h3 v4 h4;by_cases c:0<=k;{have h1:v1=Nt.of (10^k.toNat):=h1;have e:=AA k.toNat (by omega);have is1:Nt.is v1=true:=by{rw[h1];exact ku (i:=1400) e (by omega)};rw[cT c,bB (aa ⟨by omega,by omega,c,by omega,mc (i:=1400) (k:=4096) e (by omega)⟩),ha,is1];refine(bB (by rfl)).trans ?_;rw[h2,h1,Nt.fH];unfold Sh.tA Sh.tB;rw[show(-k).toNat=0 by omega,Nat.pow_zero,Nat.mul_one,Nt.dN (Nt.lp hb)]};{have ew:IntKind.i64.wrap (0 -k)=-k:=by{rw[iw];omega};rw[ew]at h3;have h3:v3=Nt.of (10^(-k).toNat):=h3;have e:=AA (-k).toNat (by omega);have is3:Nt.is v3=true:=by{rw[h3];exact ku (i:=1400) e (by omega)};rw[cF c,ew,bB (aa ⟨by omega,by omega,by omega,by omega,mc (i:=1400) (k:=4096) e (by omega)⟩),hb,is3];refine(bB (by rfl)).trans ?_;rw[h4,h3,Nt.fH];unfold Sh.tA Sh.tB;rw[show k.toNat=0 by omega,Nat.pow_zero,Nat.mul_one,Nt.dN (Nt.lp ha)]}
theorem js.goal(a b:List UInt16)(x:Int)(hp:(Nt.is a&&Nt.is b&&decide (-400<=x/\x<=400/\Nt.val a<2^1100/\Nt.val b<2^1100))=true):js.F a b x=some [.b (decide (Sh.tB (Nt.val b) (-x)<=Sh.tA (Nt.val a) (-x)))]:=by have Ks:=hp;rw[af,af]at hp;obtain⟨⟨ha,hb⟩,hp⟩:=hp;obtain⟨k1,k2,k3,k4⟩:=aq hp;apply js.bU;intro v1 h1 v2 h2 v3 h3;have ew:IntKind.i64.wrap (0 -x)=-x:=by{rw[iw];omega};rw[ew]at h1 h2⊢;have i1:Nt.is v1=true:=by{rw[h1];exact ku (i:=2500) (Oj k3 (by omega)) (by omega)};have i2:Nt.is v2=true:=by{rw[h2];exact ku (i:=2500) (Oi k4 (by omega)) (by omega)};rw[ha,hb,aa (⟨by omega,by omega,k3,k4⟩:-400<=-x/\-x<=400/\Nt.val a<2^1100/\Nt.val b<2^1100),i1,i2];refine(bB (by rfl)).trans ((bB (by rfl)).trans ?_);rw[h3,h1,h2,Nt.fH,Nt.fH];rcases oB (Sh.tA (Nt.val a) (-x)) (Sh.tB (Nt.val b) (-x))with⟨k,l⟩|⟨k,l⟩|⟨k,l⟩;{rw[k,dF,dF]};{rw[k,dT,dT]};{rw[k,dT,dT]}
theorem PI:(10:Nat)^200<2^665:=by decide+kernel
theorem jr.goal(b:UInt64)(a:List UInt16)(p:Int)(hp:(Nt.is a&&decide (-1000<=p/\p<=1000/\0<Nt.val a/\Nt.val a<10^200))=true):jr.F b a p=some [.s ((Sh.mQ b.toNat (Nt.val a) p).getD ([],0)).1,.i .i64 ((Sh.mQ b.toNat (Nt.val a) p).getD ([],0)).2,.b (Sh.mQ b.toNat (Nt.val a) p).isSome]:=by
 rw[af]at hp;obtain⟨ha,hp⟩:=hp;obtain⟨k1,k2,k3,k4⟩:=aq hp;apply jr.bU;intro v1 h1 v2 h2 v3 h3 v4 h4 v5 h5;rw[Sh.zj]at h1 h2⊢;rw[Sh.zp];have hl:=Nr.gY 200 (Nt.val a) k4 (by omega);rw[Nr.BP]at h2;have e1:IntKind.i64.wrap (v1+p)=(Nr.dec (Nt.val a)).length+p:=by{rw[h1,iw]};rw[e1,h2,Sh.zq k3 (by omega)]at h3 h4;have nG:∀b:Bool,(!(!b)||((!b)&&(!b)))=true/\(b||!b)=true:=by{decide};have Ub:∀b:Bool,(!(!(!b))||((!(!b))&&(!(!b))))=true/\((!b)||(!(!b)))=true:=by{decide};rw[ha,bP,aa (show(Nr.dec (Nt.val a)).length<=1099511627776/\([48]:bD).length<=100 from⟨by omega,by decide⟩)];refine(bB (by rfl)).trans ?_;rw[bB (Ub _).1,bB (Ub _).2,e1];cases hq:Nr.rd (Nt.val a) p with
 |none=>rw[hq]at h4;have e4:v4=false:=h4;rw[e4]at h5;have e5:v5=true:=h5;rw[e5,Sh.mP (by rw[hq];simp)];rfl
 |some q=>have hle:q<=9218868437227405311:=by{unfold Nr.rd at hq;exact Nr.M5 hq};rw[hq]at h3 h4;have e4:v4=true:=h4;have e3:v3=UInt64.ofNat q:=h3;have VS:v3.toNat=q:=by{rw[e3,fI];omega};rw[e4,aG,aj]at h5;by_cases c:q=b.toNat;{have e5:v5=false:=by{rw[h5,aa (fw (by rw[VS,c]))];rfl};rw[e5,Sh.lT (by rw[hq,c]),h2];rfl};{have e5:v5=true:=by{rw[h5,ab (λe=>c (by rw[<-VS,e]))];rfl};rw[e5,Sh.mP (by rw[hq];simp[c])];rfl}
theorem ji.goal(p:UInt64)(lo hi:Int):ji.F p lo hi=some [.b (Sh.wi p.toNat lo hi)]:=by apply ji.bU;intro v1 h1 v2 h2;have nG:∀b:Bool,(!b||b)=true:=by{decide};rw[bB (by rfl),bB (nG _),bB (nG _),bB (nG _),bB (nG _),h1,h2];unfold Sh.wi;by_cases c:p.toNat%2=0;{have:p%2=0:=fw (by rw[UInt64.toNat_mod];exact c);rw[cT this,ar c];cases decide ((0:Int)<=lo)<;>rfl};{have:¬p%2=0:=λe=>c (by have:=congrArg UInt64.toNat e;rw[UInt64.toNat_mod]at this;exact this);rw[cF this,ao c];cases decide ((0:Int)<lo)<;>rfl}
theorem gj.bY(x:Int)(hx:-100000<=x/\x<=100000):∀(n:Nat)(s:bD)(j:Nat),s.length=n->n+j<=100000->1<=n+j->gj.l1 x ((s.length:Int) -1) (s++List.replicate j 48)=some [.s (if(s.reverse.dropWhile (· ==57)).reverse=[]then([49],x+1)else((s.reverse.dropWhile (· ==57)).reverse.dropLast++[(s.reverse.dropWhile (· ==57)).reverse.getLast?.getD 0+1],x):bD×Int).1,.i .i64 (if(s.reverse.dropWhile (· ==57)).reverse=[]then([49],x+1)else((s.reverse.dropWhile (· ==57)).reverse.dropLast++[(s.reverse.dropWhile (· ==57)).reverse.getLast?.getD 0+1],x):bD×Int).2]:=by
 intro n;induction n with
 |zero=>intro s j hs hj h1;obtain rfl:=List.length_eq_zero_iff.1 hs;apply gj.bM;intro v1 g1 v2 g2 v3 g3 v4 g4 v5 g5 v6 g6 v7 g7;have e2:v2=false:=g2;have e5:v5=x+1:=by{rw[g5,iw]};rw[e2,e5];rfl
 |succ n ih=>intro s j hs hj h1;rcases Nr.jH s with h|⟨a,c,rfl⟩;{rw[h]at hs;simp at hs};{rw[ae,ak]at hs;have hi:(((a++[c]).length:Int) -1)=(a.length:Int):=by{rw[ae,ak];omega};have hL:((a++[c])++List.replicate j 48).length=a.length+1+j:=by{rw[ae,ae,ak,List.length_replicate]};have hg:∀y:UInt8,(((a++[y])++List.replicate j 48).getD a.length 0)=y:=λy=>by{rw[ai,List.getElem?_append_left (by rw[ae,ak];omega),<-ai,kD]};have HN:∀y:UInt8,((a++[c])++List.replicate j 48).set a.length y=(a++[y])++List.replicate j 48:=λy=>by{rw[az,List.set_append_right _ _ (Nat.le_refl _),Nat.sub_self,az];rfl};rw[hi];apply gj.bM;intro v1 g1 v2 g2 v3 g3 v4 g4 v5 g5 v6 g6 v7 g7;rw[ah]at g1 g3 g6;have e1:v1=c:=by{rw[g1];exact hg c};have e4:v4=(a.length:Int) -1:=by{rw[g4,iw]};have e7:v7=((a.length+1:Nat):Int):=by{rw[g7,iw];omega};rw[HN]at g3 g6;rw[aa (show(0:Int)<=(a.length:Int) by omega),au]at g2;have TI:bF (a.length:Int) ((a++[c])++List.replicate j 48).length=true:=dC (by omega) (by omega);have zQ:decide ((a.length:Int).toNat<((a++[c])++List.replicate j 48).length)=true:=dT;rw[aa (show(0:Int)<=(a.length:Int) by omega),TI,zQ,bB (by rfl),bB (by rfl),bB (by rfl),bB (by rfl),g2,e1];by_cases hc:c=57;{have e9:(a++[(48:UInt8)])++List.replicate j 48=a++List.replicate (j+1) 48:=by{rw[az,List.replicate_succ];rfl};rw[cT hc,bP,bP,e4,g3,e9,ih a (j+1) (by omega) (by omega) (by omega)];have er:((a++[c]).reverse.dropWhile (· ==57))=a.reverse.dropWhile (· ==57):=by{rw[List.reverse_append,List.reverse_singleton,List.singleton_append,List.dropWhile_cons,ar (by simp[hc])]};rw[er]};{have er:((a++[c]).reverse.dropWhile (· ==57)).reverse=a++[c]:=by{rw[List.reverse_append,List.reverse_singleton,List.singleton_append,List.dropWhile_cons,ao (by simp[hc])];simp};have h6l:v6.length=a.length+1+j:=by{rw[g6,ae,ae,ak,List.length_replicate]};rw[cF hc,ab (show¬(a.length:Int)<0 by omega),aj,bP,bP,bP,bP,e7,yG,ah,g6,er,ao (by simp),List.dropLast_concat,List.getLast?_concat,e1];have:((a++[c+1])++List.replicate j 48).take (a.length+1)=a++[c+1]:=by{rw[List.take_append_of_le_length (by rw[ae,ak];omega),List.take_of_length_le (by rw[ae,ak];omega)]};rw[this];rfl}}
theorem gj.goal(d:bD)(x:Int)(hp:decide (1<=d.length/\d.length<=100000/\-100000<=x/\x<=100000)=true):gj.F d x=some [.s (Sh.more d x).1,.i .i64 (Sh.more d x).2]:=by obtain⟨p1,p2,p3,p4⟩:=aq hp;apply gj.bU;intro v1 h1;have e1:v1=(d.length:Int) -1:=by{rw[h1,iw]};have hlen:pU d.length=true:=zL.2 (by rw[kC];omega);have:=gj.bY x ⟨p3,p4⟩ d.length d 0 rfl (by omega) (by omega);rw[List.replicate_zero,aK]at this;rw[bB hlen,e1];exact this
theorem FY{d:List UInt16}{n:Nat}(hv:Nt.val d=n)(hl:d=[]\/65536^(d.length -1)<=n):d=Nt.of n:=by rw[<-hv,Nt.dN];rcases hl with h|h;{rw[h];rfl};{by_cases h0:d=[];{rw[h0];rfl};{have VB:=List.length_pos_iff.2 h0;rw[pQ h0];simp only[Bool.not_eq_true',decide_eq_false_iff_not];intro e0;have Mc:=dM d (d.length -1) (by omega);rw[show d.length -1+1=d.length by omega,List.take_length,e0]at Mc;have gr:=Nt.jF (d.take (d.length -1));rw[aF,Nat.min_eq_left (by omega)]at gr;have Ut:(0:UInt16).toNat=0:=rfl;rw[Ut,Nat.mul_zero]at Mc;omega}}
theorem Pv{a:List UInt16}(hn:Nt.norm a=true)(h0:a≠[]):65536^(a.length -1)<=Nt.val a:=by obtain⟨h1,h2⟩:=pP hn h0;have:65536^(a.length -1)*1<=65536^(a.length -1)*(a.getD (a.length -1) 0).toNat:=Nat.mul_le_mul_left _ h1;omega
theorem dw.jb(a b:List UInt16)(ha:a.length<=1000000)(Iy:b.length<=a.length)(hn:Nt.norm a=true):∀(m i:Nat)(d:List UInt16)(k:Nat),i+m=a.length->d.length=i->k<=1->Nt.val d+65536^i*k=Nt.val (a.take i)+Nt.val (b.take i)->dw.l2 b k a.length i (d++a.drop i)=some [.sl .ws (Nt.of (Nt.val a+Nt.val b))]:=by
 intro m;induction m with
 |zero=>
  intro i d k hi hl hk hv;have hi:i=a.length:=hi;subst hi;apply dw.gU;intro v1 h1 v2 h2 v3 h3 v4 h4 v5 h5 v6 h6;rw[List.take_of_length_le (Nat.le_refl _),List.take_of_length_le Iy]at hv;rw[cF,List.drop_length,aK];by_cases c0:k=0
  ·subst c0;rw[Nat.mul_zero,Nat.add_zero]at hv;have:d=Nt.of (Nt.val a+Nt.val b):=FY hv (by
    by_cases h0:a=[];{left;rw[h0]at hl;exact List.length_eq_zero_iff.1 hl}
    ·right;rw[hl];have:=Pv hn h0;omega)
   rw[cF,dw.sD,<-this]
  {have Xm:k=1:=by{omega};subst Xm;have e6:v6=[(1:UInt16)]:=h6;rw[cT,e6,bB (dO (by rw[ak];omega) (by rw[ak];omega)),dw.sD];have hv2:Nt.val (d++[1])=Nt.val a+Nt.val b:=by{rw[Nt.gG,hl,<-hv];rfl};have:d++[1]=Nt.of (Nt.val a+Nt.val b):=FY hv2 (.inr (by rw[ae,ak,Nat.add_sub_cancel,hl];omega));rw[this]}
 |succ m ih=>
  intro i d k hi hl hk hv;apply dw.gU;intro v1 h1 v2 h2 v3 h3 v4 h4 v5 h5 v6 h6;rw[ah]at h1 h3;have OX:a.drop i=a.getD i 0::a.drop (i+1):=drop_cons (by omega) 0;have hL:(d++a.drop i).length=a.length:=by{rw[ae,aR];omega};have e1:v1=a.getD i 0:=by{rw[h1,ai,aY (by omega),hl,Nat.sub_self,OX];rfl};have hd:=v1.toNat_lt;have hd3:=v3.toNat_lt;rw[iw]at h2 h4;have hx:bF (i:Int) (d++a.drop i).length=true:=dC (by omega) (by omega);have zQ:decide ((i:Int).toNat<(d++a.drop i).length)=true:=dT;have HN:∀y:UInt16,(d++a.drop i).set i y=(d++[y])++a.drop (i+1):=λy=>by{rw[List.set_append_right _ _ (by omega),hl,Nat.sub_self,OX,az];rfl};have next:∀q:Nat,q<=131071->q=k+v1.toNat+(if i<b.length then(b.getD i 0).toNat else 0)->dw.j3 b q i a.length i (d++a.drop i)=some [.sl .ws (Nt.of (Nt.val a+Nt.val b))]:=by intro q ym hq;apply dw.nZ;intro w1 g1 w2 g2 w3 g3;rw[ah,qP,HN]at g1;have e2:w2=((q/65536:Nat):Int):=by{rw[g2];exact Bc q};have e3:w3=((i+1:Nat):Int):=by{rw[g3,iw];omega};rw[hx,zQ,bP,bP,g1,e2,e3];refine ih (i+1) _ _ (by omega) (by rw[ae,hl];rfl) (by omega) ?_;have hb:Nt.val (b.take (i+1))=Nt.val (b.take i)+65536^i*(if i<b.length then(b.getD i 0).toNat else 0):=by{by_cases c:i<b.length;{rw[ar c,dM b i c]};{rw[ao c,List.take_of_length_le (by omega),List.take_of_length_le (by omega)];omega}};rw[hb,dM a i (by omega),<-e1,Nt.gG,hl];simp only[Nt.val,Nat.mul_zero,Nat.add_zero,Nt.dS];rw[Nat.pow_succ,Nat.mul_assoc,Nat.add_assoc,<-Nat.mul_add];have:q%65536+65536*(q/65536)=q:=Nat.mod_add_div q 65536;rw[this,hq,Nat.mul_add,Nat.mul_add];omega
  rw[cT,hx,zQ,bP,bP];by_cases c:i<b.length;{have e5:v5=((k+v1.toNat+v3.toNat:Nat):Int):=by{rw[h5,h2,h4,i64_in ((k:Int)+v1.toNat) (by omega),iw];omega};rw[cT,ki,e5];exact next _ (by omega) (by rw[ar c,h3])};{have e5:IntKind.i64.wrap ((k:Int)+v2)=((k+v1.toNat:Nat):Int):=by{rw[h2,iw];omega};rw[cF,e5];exact next _ (by omega) (by rw[ao c,Nat.add_zero])}
theorem dw.goal(a b:List UInt16)(hp:(Nt.is a&&Nt.is b)=true):dw.F a b=some [.sl .ws (Nt.of (Nt.val a+Nt.val b))]:=by
 rw[af]at hp;obtain⟨ha,hb⟩:=hp;have la:=Nt.lC ha;have lb:=Nt.lC hb;apply dw.bU;intro v1 h1;have e1:v1=false:=by{rw[h1,ha,hb];rfl};have key:∀a b:List UInt16,Nt.is a=true->Nt.is b=true->b.length<=a.length->dw.j1 a b=some [.sl .ws (Nt.of (Nt.val a+Nt.val b))]/\True:=λa b ha hb h=>⟨by
  have la:=Nt.lC ha;have:=dw.jb a b (by omega) h (Nt.lp ha) a.length 0 [] 0 (by omega) rfl (by omega) (by simp[Nt.val]);rw[bf,bh]at this;rw[dw.mF];first
  |(rw[Pe];exact this)
  ,trivial⟩
 rw[iy,ha,bB (by rw[aa (show b.length<=1099511627776 by omega)];rfl),bB (by rfl),bB (by rfl),e1,aj];by_cases c:(a.length:Int)<b.length
 ·rw[cT c];first
  |exact((key b a hb ha (by omega)).1).trans (by rw[Nat.add_comm])
  |exact(key a b ha hb (by omega)).1
 ·rw[cF c];first
  |exact(key a b ha hb (by omega)).1
  |exact((key b a hb ha (by omega)).1).trans (by rw[Nat.add_comm])
theorem K8{n:Nat}(h:10000<=n):Nr.dec n=Nr.dec (n/10000)++(Sh.eu (4 -((Nr.dec (n%10000)).length:Int))++Nr.dec (n%10000)):=by obtain⟨q1,q2,q3,q4⟩:=Nr.lD (n/10000);obtain⟨r1,r2,r3,r4⟩:=Nr.lD (n%10000);have rl:=Nr.gY 4 (n%10000) (by show n%10000<10000;omega) (by omega);have hz:=Sh.uA (4 -((Nr.dec (n%10000)).length:Int));have HJ:(Sh.eu (4 -((Nr.dec (n%10000)).length:Int))++Nr.dec (n%10000)).length=4:=by{unfold Sh.eu;rw[ae,List.length_replicate];omega};have WM:Nr.num (Sh.eu (4 -((Nr.dec (n%10000)).length:Int)))=0:=Nr.jV _;have QA:Nr.num (Nr.dec (n/10000)++(Sh.eu (4 -((Nr.dec (n%10000)).length:Int))++Nr.dec (n%10000)))=n:=by{rw[Nr.fJ,HJ,Nr.fJ,WM,q2,r2,Nat.zero_mul,Nat.zero_add];show n/10000*10000+_=n;omega};have hu:=Nr.mY _ (Nr.dec (n/10000)++(Sh.eu (4 -((Nr.dec (n%10000)).length:Int))++Nr.dec (n%10000))) rfl (by rw[List.all_append,List.all_append,q1,hz,r1];rfl) (by simp[q3]) (by rw[ai,List.getElem?_append_left (List.length_pos_iff.2 q3),<-ai];exact q4 (by omega));rw[QA]at hu;exact hu.symm
theorem JE{n K:Nat}(h:n<10000^K):(Nt.of n).length<=K:=(Nt.mf n K).2 (Nat.lt_of_lt_of_le h (Nat.pow_le_pow_left (by omega) K))
theorem dR.bY:∀(K n:Nat)(ps:List bD),n<10000^K->(n=0->ps≠[])->ps.length+K<=5000->(ps.map List.length).sum<=4*ps.length->
  dR.l1 (Nt.of n) ps=some [.s ((if n=0 then[]else Nr.dec n)++ps.reverse.flatten)]:=by
 intro K
 induction K with
 |zero=>
  intro n ps hn h0 hl hs
  have Zp:n=0:=by rw[Nat.pow_zero]at hn;omega
  exact fin n ps Zp (h0 Zp) (by omega) hs
 |succ K ih=>
  intro n ps hn h0 hl hs
  by_cases c:n=0
  ·exact fin n ps c (h0 c) (by omega) hs
  ·apply dR.bM
   intro v1 h1 v2 h2 v3 h3 v4 h4 v5 h5 v6 h6
   rw[Nt.fH]at h1 h2
   have h1:v1=Nt.of (n/10000):=h1
   have e2:v2.toNat=n%10000:=by
    rw[h2,Nt.dS];show n%10000%65536=_;omega
   have e3:v3=((n%10000:Nat):Int):=by rw[h3,e2,iw]
   have ei:Nr.itoa v3=Nr.dec (n%10000):=by rw[(Sh.pq (by omega)).1,e3,ah]
   have i3:Nr.i64 v3=true:=dT
   have rl:=Nr.gY 4 (n%10000) (by show n%10000<10000;omega) (by omega)
   have e5:v5=4 -((Nr.dec (n%10000)).length:Int):=by rw[h5,h4,ei,iw]
   have hL:=JE hn
   have pH:0<(Nt.of n).length:=by rw[Nt.oI (by omega)];simp
   have hq:n/10000<10000^K:=by
    rw[Nat.div_lt_iff_lt_mul (by omega),<-Nat.pow_succ];exact hn
   have iZ:((10000:UInt16)≠0):=by decide
   rw[aa (show(0:Int)<((Nt.of n).length:Int) by omega),au,bB (aa ⟨by omega,iZ⟩),i3,bP,h1]
   by_cases c1:n/10000=0
   ·rw[c1,Nt.jO]
    rw[ab (by simp),aj,dR.kn,bB (dO (by rw[ak];omega) (by rw[ak];omega)),ei]
    have:=ih 0 (ps++[Nr.dec (n%10000)]) (by exact Nat.pow_pos (by omega)) (λ_=>by simp) (by rw[ae,ak];omega) (by
     rw[List.map_append,List.sum_append,ae,ak]
     simp only[bc,bw,List.sum_cons,List.sum_nil];omega)
    rw[Nt.jO]at this
    rw[this,ar rfl,ao c,List.reverse_append,List.reverse_singleton,List.singleton_append,List.flatten_cons,show n%10000=n by omega];rfl
   ·have Qy:0<(Nt.of (n/10000)).length:=by rw[Nt.oI (by omega)];simp
    have HJ:(Sh.eu v5).length<=4:=by unfold Sh.eu;rw[List.length_replicate];omega
    have e6:v6.length=4:=by
     rw[h6,ei,e5];unfold Sh.eu;rw[ae,List.length_replicate];omega
    rw[cT,bB (aa ⟨rfl,by omega,by omega⟩),bB (aa (by rw[ei];omega)),dR.kn,bB (dO (by rw[ak];omega) (by rw[ak];omega))]
    rw[ih (n/10000) (ps++[v6]) hq (λh=>(c1 h).elim) (by rw[ae,ak];omega) (by
     rw[List.map_append,List.sum_append,ae,ak]
     simp only[bc,bw,List.sum_cons,List.sum_nil];omega)]
    rw[ao c1,ao c,List.reverse_append,List.reverse_singleton,List.singleton_append,List.flatten_cons,K8 (show 10000<=n by omega),h6,ei,e5]
    simp only[az]
where
 fin (n:Nat) (ps:List bD) (h:n=0) (h0:ps≠[]) (hl:ps.length<=5000) (hs:(ps.map List.length).sum<=4*ps.length):dR.l1 (Nt.of n) ps=some [.s ((if n=0 then[]else Nr.dec n)++ps.reverse.flatten)]:=by
  subst h
  rw[Nt.jO]
  apply dR.bM
  intro v1 h1 v2 h2 v3 h3 v4 h4 v5 h5 v6 h6
  have he:ps.isEmpty=false:=by cases ps<;>simp at h0⊢
  have hf:ps.reverse.flatten.length<=20000:=by
   rw[List.length_flatten,List.map_reverse,List.sum_reverse];omega
  rw[ab (by simp),aj,bB (aa (show ps.length<=100000 by omega))]
  rw[bB (aa ⟨rfl,by rw[List.length_reverse];omega,by omega⟩),ar rfl];rfl
theorem Mt:(2:Nat)^4096<=10000^2000:=by decide+kernel
theorem dR.goal(a:List UInt16)(hp:Nt.is a=true):dR.F a=some [.s (Sh.uM (Nt.val a))]:=by have hl:=Nt.lC hp;rw[dR.de,iy,hp,Sh.zj];refine Eq.trans (b:=_) (aj _ _) ?_;by_cases c:a=[];{subst c;show _=some [TV.s (Nr.dec 0)];rw[Nr.lr (by omega)];rfl};{have h0:=List.length_pos_iff.2 c;have pH:=Nt.tK (Nt.lp hp) c;rw[cF];have:=dR.bY 2000 (Nt.val a) [] (Nat.lt_of_lt_of_le (Nt.is_lt hp) Mt) (λh=>by omega) (by simp) (by simp);rw[Nt.dN (Nt.lp hp),nO]at this;rw[this];simp}
open Nr (V ll sh top jW rd)
theorem IH(N:Nat):(UInt16.ofNat N%2=0)↔N%2=0:=by constructor;{intro h;have:=congrArg UInt16.toNat h;rw[UInt16.toNat_mod,Nt.dS]at this;have e:N%65536%2=0:=this;omega};{intro h;apply UInt16.toNat_inj.1;rw[UInt16.toNat_mod,Nt.dS];show N%65536%2=0;omega}
theorem Oh:(10:Nat)^17<10^200:=by decide+kernel
theorem kN.goal(b:UInt64)(p q:List UInt16)(x n:Int)(hp:(Nt.is p&&Nt.is q&&Sh.rQ (Nt.val p) (Nt.val q) x n)=true):kN.F b p q x n=some [.s ((Sh.sy b.toNat (Nt.val p) (Nt.val q) x n).getD ([],0)).1,.i .i64 ((Sh.sy b.toNat (Nt.val p) (Nt.val q) x n).getD ([],0)).2,.b (Sh.sy b.toNat (Nt.val p) (Nt.val q) x n).isSome]:=by rw[af,af]at hp;obtain⟨⟨ha,hb⟩,hp⟩:=hp;unfold Sh.rQ at hp;obtain⟨n1,n2,x1,x2,a0,a1,b0,b1,r1,r2⟩:=aq hp;rw[Sh.xm];apply kN.bU;intro v1 h1 v2 h2 v3 h3 v4 h4 v5 h5 v6 h6 v7 h7 v8 h8 v9 h9 v10 iZ v11 lJ v12 mh kx sq kg tc kf so oD wO uF D4 o9 C1 sI Kz;have ew:IntKind.i64.wrap (n -x)=n -x:=iw;have ew2:IntKind.i64.wrap (x -n)=x -n:=iw;have hP:=Oj (k:=n -x) a1 (by omega);have hQ:=Oi (k:=n -x) b1 (by omega);have QU:0<Sh.tB (Nt.val q) (n -x):=Sh.uN b0 _;rw[ew]at h1 h2⊢;rw[ew2]at h5 h6 h7 iZ lJ mh⊢;unfold Sh.some_;simp only;generalize QV:Sh.tA (Nt.val p) (n -x)=P at*;generalize hQQ:Sh.tB (Nt.val q) (n -x)=Q at*;have w1:Nt.val v1=P:=by{rw[h1,Nt.fH]};have w2:Nt.val v2=Q:=by{rw[h2,Nt.fH]};rw[w1,w2]at h3 h4;have w3:Nt.val v3=P/Q:=by{rw[h3,Nt.fH]};have w4:Nt.val v4=P% Q:=by{rw[h4,Nt.fH]};have w8:Nt.val v8=1:=by{rw[h8,Nt.fH];rfl};rw[w3,w8]at h9;have w9:Nt.val v9=P/Q+1:=by{rw[h9,Nt.fH]};rw[w3]at h5 h6 h7⊢;rw[w9]at iZ lJ mh⊢;rw[w4]at sq;have w13:Nt.val kx=P% Q*2:=by{rw[sq,Nt.fH];rfl};rw[w13,w2]at tc;have N1:1<=P/Q:=(Nat.le_div_iff_mul_le QU).2 (by omega);have N2:P/Q<10^17:=(Nat.div_lt_iff_lt_mul QU).2 r2;have N3:P/Q<2^2500:=Nat.lt_of_le_of_lt (Nat.div_le_self _ _) hP;have N4:P/Q+1<10^200:=Nat.lt_of_le_of_lt (Nat.succ_le_of_lt N2) Oh;have R1:P% Q<2^2500:=Nat.lt_trans (Nat.mod_lt _ QU) hQ;have i1:Nt.is v1=true:=by{rw[h1];exact ku (i:=2500) hP (by omega)};have i2:Nt.is v2=true:=by{rw[h2];exact ku (i:=2500) hQ (by omega)};have i3:Nt.is v3=true:=by{rw[h3];exact ku (i:=2500) N3 (by omega)};have i4:Nt.is v4=true:=by{rw[h4];exact ku (i:=2500) R1 (by omega)};have i8:Nt.is v8=true:=by{rw[h8];exact ku (i:=1) (by decide) (by omega)};have i9:Nt.is v9=true:=by{rw[h9];exact ku (i:=665) (Nat.lt_trans N4 PI) (by omega)};have i13:Nt.is kx=true:=by{rw[sq];exact ku (i:=2502) (qt (i:=2500) (j:=2) (k:=2502) R1 (by decide) (by omega)) (by omega)};have ne2:v2≠[]:=by{intro e;rw[e]at w2;simp[Nt.val]at w2;omega};have ne3:v3≠[]:=by{intro e;rw[e]at w3;simp[Nt.val]at w3;omega};have l3:=List.length_pos_iff.2 ne3;have Yn:uF=UInt16.ofNat (P/Q):=by{rw[D4,h3,Nt.oI (by omega)];rfl};have c1:(decide (-400<=n -x/\n -x<=400/\Nt.val p<2^1100/\Nt.val q<2^1100))=true:=aa ⟨by omega,by omega,a1,b1⟩;have c3:(decide (-1000<=x -n/\x -n<=1000/\0<P/Q/\P/Q<10^200))=true:=aa ⟨by omega,by omega,by omega,Nat.lt_trans N2 Oh⟩;have c9:(decide (-1000<=x -n/\x -n<=1000/\0<P/Q+1/\P/Q+1<10^200))=true:=aa ⟨by omega,by omega,by omega,N4⟩;have hx:bF (0:Int) v3.length=true:=dC (by omega) (by omega);rw[ha,hb,c1,i1,i2,aa ne2,i3,c3,i8,i9,c9,i4,i13,hx];refine(bB (by rfl)).trans ((bB (by rfl)).trans ((bB (by rfl)).trans ((bB (by rfl)).trans ((bB (by rfl)).trans ((bB (by rfl)).trans ((bB (by rfl)).trans ?_))))));have Ym:o9=decide (P% Q*2=Q/\P/Q%2=0):=by{have e0:decide (UInt16.ofNat (P/Q)%2=0)=decide (P/Q%2=0):=aT.2 (IH _);rw[C1,Yn,e0,tc];rcases oB (P% Q*2) Q with⟨k,l⟩|⟨k,l⟩|⟨k,l⟩;{rw[k,ab (by decide),aj,dF]};{rw[k,aa (by decide),au,aT];omega};{rw[k,ab (by decide),aj,dF]}};have Mj:decide (kg<0)=decide (P% Q*2<Q):=by{rw[tc,aT];rcases oB (P% Q*2) Q with⟨k,l⟩|⟨k,l⟩|⟨k,l⟩<;>rw[k]<;>omega};rw[Mj]at so;have hB:∀v7 v12 kf c:Bool,(!v7||v7)=true/\(!(v7&&(!(!v12)))||(v7&&(!(!v12))))=true/\(!v7||(v7&&((!v12)||(v7&&(!(!v12))))))=true/\(!(v7&&(!kf))||(v7&&(!kf)))=true/\(!((v7&&(!kf))&&c)||(((v7&&(!kf))&&c)&&true))=true/\(!((v7&&(!kf))&&c)||((v7&&(!kf))&&c))=true/\(!(v7&&(!kf))||((v7&&(!kf))&&(!c||((v7&&(!kf))&&c))))=true/\(!v7||(v7&&(kf||(v7&&(!kf)))))=true:=by{decide};obtain⟨t1,t2,t3,t4,t5,t6,t7,t8⟩:=hB v7 v12 kf (decide (kg=0));rw[<-wO]at t5 t6 t7;have hz:(!decide ((2:UInt16)=0))=true:=rfl;rw[hz,bB t1,bB t1,bB t2,bB t3,bB t1,bB t4,bB t4,bB t5,bB t6,bB t5,bB t6,bB t7,bB t8,bB t1];rw[Sh.zp]at h5 h6 h7 iZ lJ mh;generalize Sh.reads b.toNat (P/Q) (x -n)=u at*;generalize Sh.reads b.toNat (P/Q+1) (x -n)=o at*;have Ur:sI=decide (u.isSome=true/\(o.isSome=false\/2*(P% Q)<Q\/(2*(P% Q)=Q/\P/Q%2=0))):=by{rw[Kz,so,Ym,h7,mh];have q1:decide (P% Q*2<Q)=decide (2*(P% Q)<Q):=aT.2 (by omega);have q2:decide (P% Q*2=Q/\P/Q%2=0)=decide (2*(P% Q)=Q/\P/Q%2=0):=aT.2 (by omega);rw[q1,q2];by_cases k1:2*(P% Q)<Q<;>by_cases k2:(2*(P% Q)=Q/\P/Q%2=0)<;>cases u.isSome<;>cases o.isSome<;>simp[k1,k2]};by_cases hc:u.isSome=true/\(o.isSome=false\/2*(P% Q)<Q\/(2*(P% Q)=Q/\P/Q%2=0));{rw[Ur,cT hc,ar hc,h5,h6,hc.1]};{rw[Ur,cF hc,ao hc,iZ,lJ,mh]}
theorem LS(b:UInt64):(b&&&~~~(9223372036854775808:UInt64)).toNat=Sh.jP b:=by have e:(~~~(9223372036854775808:UInt64))=9223372036854775807:=by{decide};rw[e,UInt64.toNat_and];exact Nat.and_two_pow_sub_one_eq_mod b.toNat 63
theorem rP{b:UInt64}(h:(Nr.split b).1=2):0<Sh.jP b/\Sh.jP b<=top/\(Nr.split b).2.2.1.toNat=ll (Sh.jP b)/\(Nr.split b).2.2.2=(sh (Sh.jP b):Int) -1074:=by have hb:=b.toNat_lt;have hx:b.toNat/4503599627370496%2048=Sh.jP b/4503599627370496:=by{unfold Sh.jP;omega};have hf:b.toNat%4503599627370496=Sh.jP b%4503599627370496:=by{unfold Sh.jP;omega};have hm:Sh.jP b<9223372036854775808:=Nat.mod_lt _ (by omega);unfold Nr.split at h⊢;simp only[hx,hf]at h⊢;generalize Sh.jP b=p at*;unfold ll sh top;by_cases c1:p/4503599627370496=2047;{rw[ar c1]at h;by_cases c2:p%4503599627370496=0;{rw[ar c2]at h;simp at h};{rw[ao c2]at h;simp at h}};{rw[ao c1]at h⊢;by_cases c2:p/4503599627370496=0;{rw[ar c2]at h⊢;by_cases c3:p%4503599627370496=0;{rw[ar c3]at h;simp at h};{rw[ao c3,ar (show p<4503599627370496 by omega)];refine⟨by omega,by omega,?_,?_⟩;{show(UInt64.ofNat _).toNat=_;rw[fI];omega};{show(-1074:Int)=_;omega}}};{rw[ao c2,ao (show¬p<4503599627370496 by omega)];refine⟨by omega,by omega,?_,?_⟩;{show(UInt64.ofNat _).toNat=_;rw[fI];omega};{show((p/4503599627370496:Nat):Int) -1075=_;omega}}}
def A6(i:Nat):Bool:=
 let k:Int:=(i:Int) -1100
 let x:=Int.tdiv (k*30103) 100000 -2
 decide (10^(x -1).toNat*2^(-(k -1)).toNat<=2^(k -1).toNat*10^(-(x -1)).toNat)&&decide (-390<=x)
theorem HV:∀i,i<2201->A6 i=true:=by have h:(List.range 2201).all A6=true:=by{decide+kernel};intro i hi;exact aC.1 h i (List.mem_range.2 hi)
theorem qu(a b:Int):a<b\/b<=a:=by omega
theorem DD(n:Nat)(h:0<n):2^(Nt.bits n -1)<=n/\n<2^Nt.bits n/\0<Nt.bits n:=Nt.lk h
theorem FU{a b:Nat}(h:a<b):2^a<2^b:=Nat.pow_lt_pow_right (by omega) h
theorem yR(p:Nat)(ht:p<=top):Sh.kE p<2^1100/\Sh.iK p<2^1100/\Nt.bits (Sh.kE p)<=1100/\Nt.bits (Sh.iK p)<=1080:=by have h1:=Nr.sS p;have h2:=Nr.xo ht;have hm:ll p<2^53:=h1;have ha:Sh.kE p<2^1100:=qt (i:=53) (j:=972) (k:=1100) hm (FU (b:=972) (by omega)) (by omega);have hb:Sh.iK p<2^1080:=FU (b:=1080) (by omega);refine⟨ha,mc (i:=1080) (k:=1100) hb (by omega),?_,?_⟩;{exact Nt.nj (k:=1100) ha};{exact Nt.nj (k:=1080) hb}
theorem PF:(2:Nat)^1024<10^310:=by decide+kernel
theorem PE:(2:Nat)^1074<10^330:=by decide+kernel
theorem L3{p:Nat}(h:p<=top):V p<2^1024*2^1074:=by have h1:=Nr.U2 h;have h2:=Nr.oC top;have h3:V (top+1)=2^1024*2^1074:=by{decide+kernel};rw[<-h3];exact Nat.lt_of_le_of_lt h1 h2
theorem Uv{a b A K T V':Nat}(hb:0<b)(h:a*K=V'*b)(hV:V'<T*K)(hA:T<A):a<A*b:=by by_cases c:K=0;{subst c;rw[Nat.mul_zero]at hV;omega};{have hK:0<K:=by{omega};refine Nat.lt_of_mul_lt_mul_right (a:=K) ?_;rw[h];have:V'*b<T*K*b:=Nat.mul_lt_mul_of_pos_right hV hb;refine Nat.lt_trans this ?_;rw[Nat.mul_right_comm];exact Nat.mul_lt_mul_of_pos_right (Nat.mul_lt_mul_of_pos_right hA hb) hK}
theorem Uu{a b A K V':Nat}(ha:0<a)(h:a*K=V'*b)(hV:0<V')(hA:K<A):b<a*A:=by have h1:1*b<=V'*b:=ay _ hV;have h2:a*K<a*A:=Nat.mul_lt_mul_of_pos_left hA ha;omega
theorem Rp{a b n d:Nat}(hn:n<=d)(h:10^d*b<=a)(g:a<10^n*b):False:=by have:=ay b (Nr.nN hn);omega
theorem yw{p:Nat}(hp:0<p)(ht:p<=top):-330<=Sh.dx p/\Sh.dx p<=311:=by obtain⟨h1,h2⟩:=Sh.Gv hp;have Iy:=Sh.LZ p;have hb:=Sh.lR p;have hV:0<V p:=by{have:=Nr.DR hp;omega};have ha:0<Sh.kE p:=Nat.mul_pos (Sh.rW hp) (Nat.two_pow_pos _);constructor;{rcases qu (Sh.dx p) (-330)with c|c;{exfalso;have g:=Uu ha Iy hV PE;have e0:(Sh.dx p).toNat=0:=by{omega};rw[e0,Nat.pow_zero,Nat.one_mul]at h2;have e1:Sh.kE p*10^330<=Sh.kE p*10^(-(Sh.dx p)).toNat:=Nat.mul_le_mul_left _ (Nr.nN (a:=330) (by omega));exact Nat.lt_irrefl _ (Nat.lt_trans g (Nat.lt_of_le_of_lt e1 h2))};{exact c}};{rcases qu 311 (Sh.dx p)with c|c;{exfalso;have g:=Uv hb Iy (L3 ht) PF;have e0:(-(Sh.dx p -1)).toNat=0:=by{omega};rw[e0,Nat.pow_zero,Nat.mul_one]at h1;exact Rp (n:=310) (by omega) h1 g};{exact c}}
theorem Aq{p:Nat}(hp:0<p)(x:Int):Sh.tB (Sh.iK p) (-x)<=Sh.tA (Sh.kE p) (-x)↔x<Sh.dx p:=by obtain⟨h1,h2⟩:=Sh.Gv hp;have hb:=Sh.uN (Sh.lR p) (-x);constructor;{intro h;rcases qu x (Sh.dx p)with c|c;{exact c};{exfalso;have key:Sh.tA (Sh.kE p) (-x)<Sh.tB (Sh.iK p) (-x):=by{unfold Sh.tA Sh.tB;refine Nat.lt_of_mul_lt_mul_right (a:=10^(-(Sh.dx p)).toNat) ?_;rw[Nat.mul_right_comm];refine Nat.lt_of_lt_of_le (Nat.mul_lt_mul_of_pos_right h2 (Nr.fg _)) ?_;rw[Nat.mul_comm (10^(Sh.dx p).toNat),Nat.mul_assoc,Nat.mul_assoc,<-Nat.pow_add,<-Nat.pow_add];exact Nat.mul_le_mul_left _ (Nr.nN (by omega))};omega}};{intro h;have h3:10^(Sh.dx p -1).toNat*Sh.iK p*10^(-x).toNat<=Sh.kE p*10^(-(Sh.dx p -1)).toNat*10^(-x).toNat:=ay _ h1;unfold Sh.tA Sh.tB;refine Nat.le_of_mul_le_mul_right (c:=10^(-(Sh.dx p -1)).toNat) ?_ (Nr.fg _);rw[Nat.mul_right_comm (Sh.kE p)];refine Nat.le_trans ?_ h3;rw[Nat.mul_assoc,<-Nat.pow_add,Nat.mul_comm (10^(Sh.dx p -1).toNat),Nat.mul_assoc,<-Nat.pow_add];exact Nat.mul_le_mul_left _ (Nr.nN (by omega))}
theorem KA{p:Nat}(hp:0<p)(ht:p<=top):Int.tdiv ((((Nt.bits (Sh.kE p):Nat):Int) -(Nt.bits (Sh.iK p):Nat))*30103) 100000 -2<=Sh.dx p/\-390<=Int.tdiv ((((Nt.bits (Sh.kE p):Nat):Int) -(Nt.bits (Sh.iK p):Nat))*30103) 100000 -2:=by have ha:0<Sh.kE p:=Nat.mul_pos (Sh.rW hp) (Nat.two_pow_pos _);obtain⟨a1,a2,a3⟩:=DD _ ha;obtain⟨b1,b2,b3⟩:=DD _ (Sh.lR p);obtain⟨_,_,ba,bb⟩:=yR p ht;obtain⟨h1,h2⟩:=Sh.Gv hp;generalize hi:(Nt.bits (Sh.kE p)+1100 -Nt.bits (Sh.iK p))=i;have g:=HV i (by omega);unfold A6 at g;have ek:(i:Int) -1100=((Nt.bits (Sh.kE p):Nat):Int) -(Nt.bits (Sh.iK p):Nat):=by{omega};simp only[ek,af,aD]at g;obtain⟨g1,g2⟩:=g;refine⟨?_,g2⟩;generalize Int.tdiv ((((Nt.bits (Sh.kE p):Nat):Int) -(Nt.bits (Sh.iK p):Nat))*30103) 100000 -2=x at*;rcases qu (Sh.dx p) x with c|c;{exfalso;generalize Nt.bits (Sh.kE p)=u at*;generalize Nt.bits (Sh.iK p)=v at*;generalize Sh.kE p=a at*;generalize Sh.iK p=b at*;generalize Sh.dx p=d at*;have s1:2^(u -1)*10^(-d).toNat<10^d.toNat*2^v:=by{refine Nat.lt_of_le_of_lt (ay _ a1) (Nat.lt_trans h2 ?_);exact Nat.mul_lt_mul_of_pos_left b2 (Nr.fg _)};have s5:10^(x -1).toNat*2^(-(((u:Nat):Int) -(v:Nat) -1)).toNat*(2^v*10^(-d).toNat)<=2^(((u:Nat):Int) -(v:Nat) -1).toNat*10^(-(x -1)).toNat*(2^v*10^(-d).toNat):=ay _ g1;have e4:2^(((u:Nat):Int) -(v:Nat) -1).toNat*10^(-(x -1)).toNat*(2^v*10^(-d).toNat)=(2^(u -1)*10^(-d).toNat)*(2^(-(((u:Nat):Int) -(v:Nat) -1)).toNat*10^(-(x -1)).toNat):=by{have:2^(((u:Nat):Int) -(v:Nat) -1).toNat*2^v=2^(u -1)*2^(-(((u:Nat):Int) -(v:Nat) -1)).toNat:=Nr.Ci (by omega);rw[show 2^(((u:Nat):Int) -(v:Nat) -1).toNat*10^(-(x -1)).toNat*(2^v*10^(-d).toNat)=(2^(((u:Nat):Int) -(v:Nat) -1).toNat*2^v)*(10^(-(x -1)).toNat*10^(-d).toNat) by simp only[Nat.mul_assoc,Nat.mul_comm,Nat.mul_left_comm],this];simp only[Nat.mul_assoc,Nat.mul_comm,Nat.mul_left_comm]};rw[e4]at s5;have s6:(2^(u -1)*10^(-d).toNat)*(2^(-(((u:Nat):Int) -(v:Nat) -1)).toNat*10^(-(x -1)).toNat)<(10^d.toNat*2^v)*(2^(-(((u:Nat):Int) -(v:Nat) -1)).toNat*10^(-(x -1)).toNat):=Nat.mul_lt_mul_of_pos_right s1 (Nat.mul_pos (Nat.two_pow_pos _) (Nr.fg _));have s7:=Nat.lt_of_le_of_lt s5 s6;have e5:10^(x -1).toNat*2^(-(((u:Nat):Int) -(v:Nat) -1)).toNat*(2^v*10^(-d).toNat)=10^((x -1).toNat+(-d).toNat)*(2^(-(((u:Nat):Int) -(v:Nat) -1)).toNat*2^v):=by{rw[Nat.pow_add 10];simp only[Nat.mul_assoc,Nat.mul_comm,Nat.mul_left_comm]};have e6:10^d.toNat*2^v*(2^(-(((u:Nat):Int) -(v:Nat) -1)).toNat*10^(-(x -1)).toNat)=10^(d.toNat+(-(x -1)).toNat)*(2^(-(((u:Nat):Int) -(v:Nat) -1)).toNat*2^v):=by{rw[Nat.pow_add 10];simp only[Nat.mul_assoc,Nat.mul_comm,Nat.mul_left_comm]};rw[e5,e6]at s7;have s8:=Sh.HE (Nat.lt_of_mul_lt_mul_right s7);omega};{exact c}
theorem cj.sB(u:UInt64)(p:Nat)(hu:u.toNat=p)(hp:0<p)(ht:p<=top)(x2 x3:List UInt16)(i2:Nt.is x2=true)(i3:Nt.is x3=true)(w2:Nt.val x2=Sh.kE p)(w3:Nt.val x3=Sh.iK p)(n0:Nat)(hn:n0<=17)(h0:∀j:Nat,1<=j->j<n0->Sh.some_ p (Sh.kE p) (Sh.iK p) (Sh.dx p) j=none)(h1:Sh.some_ p (Sh.kE p) (Sh.iK p) (Sh.dx p) n0=some (Sh.digits p)):∀m i:Nat,i+m=n0->1<=i->cj.l3 u (Sh.dx p) x2 x3 i=some [.s (Sh.digits p).1,.i .i64 (Sh.digits p).2,.b true]:=by
 obtain⟨d1,d2⟩:=yw hp ht;obtain⟨al,bl,_,_⟩:=yR p ht;have ha:0<Sh.kE p:=Nat.mul_pos (Sh.rW hp) (Nat.two_pow_pos _);have pre:∀i:Nat,1<=i->i<=17->Sh.rQ (Sh.kE p) (Sh.iK p) (Sh.dx p) i=true:=λi h1 h2=>by{obtain⟨r1,r2⟩:=Sh.xc hp (n:=i) (by omega);have t1:1*Sh.tB (Sh.iK p) (i -Sh.dx p)<=10^((i:Int) -1).toNat*Sh.tB (Sh.iK p) (i -Sh.dx p):=ay _ (Nr.fg _);have t2:10^(i:Int).toNat*Sh.tB (Sh.iK p) (i -Sh.dx p)<=10^17*Sh.tB (Sh.iK p) (i -Sh.dx p):=ay _ (Nr.nN (by omega));unfold Sh.rQ;exact aa ⟨by omega,by omega,by omega,by omega,ha,al,Sh.lR p,bl,by omega,Nat.lt_of_lt_of_le r2 t2⟩};intro m;induction m with
 |zero=>intro i hi VR;have hi:i=n0:=hi;subst hi;apply cj.nX;intro v1 g1 v2 g2 v3 g3 v4 g4;rw[w2,w3,hu,Sh.xm,h1]at g1 g2 g3;have e3:v3=true:=g3;rw[i2,i3,w2,w3,pre i VR hn,e3];refine(bB (by rfl)).trans ?_;rw[Option.getD_some]at g1 g2;rw[au,g1,g2]
 |succ m ih=>intro i hi VR;apply cj.nX;intro v1 g1 v2 g2 v3 g3 v4 g4;rw[w2,w3,hu,Sh.xm,h0 i VR (by omega)]at g3;have e3:v3=false:=g3;have e4:v4=((i+1:Nat):Int):=by{rw[g4,iw];omega};rw[i2,i3,w2,w3,pre i VR (by omega),e3];refine(bB (by rfl)).trans ?_;rw[aj,e4];exact ih (i+1) (by omega) (by omega)
theorem cj.jb(u:UInt64)(p:Nat)(hu:u.toNat=p)(hp:0<p)(ht:p<=top)(x2 x3:List UInt16)(i2:Nt.is x2=true)(i3:Nt.is x3=true)(w2:Nt.val x2=Sh.kE p)(w3:Nt.val x3=Sh.iK p):∀(m:Nat)(x:Int),x+m=Sh.dx p->-390<=x->cj.l2 u x x2 x3=some [.s (Sh.digits p).1,.i .i64 (Sh.digits p).2,.b true]:=by
 obtain⟨d1,d2⟩:=yw hp ht;obtain⟨al,bl,_,_⟩:=yR p ht;intro m;induction m with
 |zero=>intro x hx zQ;have hx:x=Sh.dx p:=by{omega};subst hx;apply cj.gU;intro v1 g1;have QB:¬(Sh.tB (Sh.iK p) (-(Sh.dx p))<=Sh.tA (Sh.kE p) (-(Sh.dx p))):=λh=>by{have:=(Aq hp _).1 h;omega};rw[i2,i3,w2,w3,aa (⟨by omega,by omega,al,bl⟩:-400<=Sh.dx p/\Sh.dx p<=400/\Sh.kE p<2^1100/\Sh.iK p<2^1100)];refine(bB (by rfl)).trans ?_;rw[cF QB];obtain⟨n,n1,n2,n3,n4⟩:=Sh.first hp ht;exact cj.sB u p hu hp ht x2 x3 i2 i3 w2 w3 n n2 n3 n4 (n -1) 1 (by omega) (by omega)
 |succ m ih=>intro x hx zQ;apply cj.gU;intro v1 g1;have e1:v1=x+1:=by{rw[g1,iw]};rw[i2,i3,w2,w3,aa (⟨by omega,by omega,al,bl⟩:-400<=x/\x<=400/\Sh.kE p<2^1100/\Sh.iK p<2^1100)];refine(bB (by rfl)).trans ?_;rw[aa ((Aq hp x).2 (by omega)),au,e1];exact ih (x+1) (by omega) (by omega)
theorem Wk{α β γ:Type}(a:α)(b:β)(c:γ)(x:α×β×γ)(h:x=(a,b,c)):x.1=a/\x.2.1=b/\x.2.2=c:=by subst h;exact⟨rfl,rfl,rfl⟩
theorem Fi{b:UInt64}(h:(Nr.split b).1=2):(Sh.dg b).1=(Sh.digits (Sh.jP b)).1/\(Sh.dg b).2.1=(Sh.digits (Sh.jP b)).2/\(Sh.dg b).2.2=true:=Wk _ _ _ _ ((Sh.O9 b).trans (ar h))
theorem K6{b:UInt64}(h:¬(Nr.split b).1=2):(Sh.dg b).1=[]/\(Sh.dg b).2.1=0/\(Sh.dg b).2.2=false:=by rw[Sh.O9];unfold Sh.VV;rw[ao h];exact⟨rfl,rfl,rfl⟩
theorem cj.gF(u:UInt64)(p:Nat)(hu:u.toNat=p)(hp:0<p)(ht:p<=top)(x1 x2:List UInt16)(j1:Nt.is x1=true)(j2:Nt.is x2=true)(k1:Nt.val x1=Sh.kE p)(k2:Nt.val x2=Sh.iK p):cj.j1 u x1 x2=some [.s (Sh.digits p).1,.i .i64 (Sh.digits p).2,.b true]:=by obtain⟨al,bl,ba,bb⟩:=yR _ ht;apply cj.gM;intro u1 g1 u2 g2 u3 g3 u4 g4 u5 g5;rw[k1]at g1;rw[k2]at g2;obtain⟨q1,q2⟩:=KA hp ht;obtain⟨r1,r2⟩:=yw hp ht;generalize hA:Nt.bits (Sh.kE p)=A at*;generalize hB:Nt.bits (Sh.iK p)=B at*;have e3:u3=((A:Int) -(B:Int))*30103:=by{rw[g3,g1,g2,i64_in ((A:Int) -(B:Int)) (by omega),iw]};have e4:u4=Int.tdiv (((A:Int) -(B:Int))*30103) 100000:=by{rw[g4,e3,iw]};have e5:u5=Int.tdiv (((A:Int) -(B:Int))*30103) 100000 -2:=by{rw[g5,e4,iw]};have hz:(!decide ((100000:Int)=0))=true:=by{decide};rw[j1,j2,bP,bP,hz,bP];rw[<-e5]at q1 q2;exact cj.jb u p hu hp ht x1 x2 j1 j2 k1 k2 (Sh.dx p -u5).toNat u5 (by omega) (by omega)
theorem cj.goal(b:UInt64):cj.F b=some [.s (Sh.dg b).1,.i .i64 (Sh.dg b).2.1,.b (Sh.dg b).2.2]:=by apply cj.bU;intro v1 h1 v2 h2 v3 h3 v4 h4 v5 h5 v6 h6;by_cases c:(Nr.split b).1=2;{obtain⟨z1,z2,z3⟩:=Fi c;rw[z1,z2,z3,aa c,aG,aj];clear z1 z2 z3;obtain⟨hp,ht,hm,he⟩:=rP c;have hu:v1.toNat=Sh.jP b:=by{rw[h1];exact LS b};obtain⟨al,bl,ba,bb⟩:=yR _ ht;have Qs:=Nr.xo ht;have EZ:=Nr.sS (Sh.jP b);rw[hm]at h2;have w2:Nt.val v2=ll (Sh.jP b):=by{rw[h2,Nt.fH]};have w3:Nt.val v3=1:=by{rw[h3,Nt.fH];rfl};have i2:Nt.is v2=true:=by{rw[h2];exact ku (i:=53) EZ (by omega)};have i3:Nt.is v3=true:=by{rw[h3];exact ku (i:=1) (by decide) (by omega)};have key:∀x1 x2:List UInt16,Nt.is x1=true->Nt.is x2=true->Nt.val x1=Sh.kE (Sh.jP b)->Nt.val x2=Sh.iK (Sh.jP b)->cj.j1 v1 x1 x2=some [.s (Sh.digits (Sh.jP b)).1,.i .i64 (Sh.digits (Sh.jP b)).2,.b true]:=cj.gF v1 _ hu hp ht;rw[he]at h4 h5⊢;by_cases c2:0<=(sh (Sh.jP b):Int) -1074;{have w4:Nt.val v4=Sh.kE (Sh.jP b):=by{rw[h4,Nt.fH,w2];rfl};have i4:Nt.is v4=true:=by{rw[h4,w2];exact ku (i:=1100) al (by omega)};have w3':Nt.val v3=Sh.iK (Sh.jP b):=by{rw[w3];unfold Sh.iK;rw[show(-((sh (Sh.jP b):Int) -1074)).toNat=0 by omega,Nat.pow_zero]};rw[cT c2,i2,aa (show 0<=(sh (Sh.jP b):Int) -1074/\(sh (Sh.jP b):Int) -1074<=4096 by omega)];refine(bB (by rfl)).trans ?_;exact key v4 v3 i4 i3 w4 w3'};{have e5:v5=-((sh (Sh.jP b):Int) -1074):=by{rw[h5,iw];omega};have w6:Nt.val v6=Sh.iK (Sh.jP b):=by{rw[h6,Nt.fH,w3,e5,Nat.one_mul];rfl};have i6:Nt.is v6=true:=by{rw[h6,w3,e5,Nat.one_mul];exact ku (i:=1100) bl (by omega)};have w2':Nt.val v2=Sh.kE (Sh.jP b):=by{rw[w2];unfold Sh.kE;rw[show((sh (Sh.jP b):Int) -1074).toNat=0 by omega,Nat.pow_zero,Nat.mul_one]};rw[cF c2,i3,e5,aa (show 0<=-((sh (Sh.jP b):Int) -1074)/\-((sh (Sh.jP b):Int) -1074)<=4096 by omega)];refine(bB (by rfl)).trans ?_;exact key v2 v6 i2 i6 w2' w6}};{obtain⟨z1,z2,z3⟩:=K6 c;rw[z1,z2,z3,ab c];rfl}
theorem uz(n:Int):(Sh.eu n).length=n.toNat:=by unfold Sh.eu;rw[List.length_replicate]
theorem tT{v:Int}(h:-1000000<=v/\v<=1000000):Nr.i64 v=true:=dT
theorem fN.gF(x:Int)(t:bD)(hx:-900<=x/\x<=900)(ht:t.length<=1000):fN.j1 x t=some [.s (t++(if x<1 then[101,45]++Nr.itoa (1 -x)else[101,43]++Nr.itoa (x -1)))]:=by apply fN.gM;intro v1 h1 v2 h2 v3 h3 v4 h4;have e1:v1=1 -x:=by{rw[h1,iw]};have e3:v3=x -1:=by{rw[h3,iw]};by_cases c:x<1;{have il:=Sh.rZ (v:=1 -x) (by omega) (by omega);have i1:Nr.i64 v1=true:=by{rw[e1];exact tT (by omega)};rw[cT c,ar c,i1,bB (aa (by show t.length+2<=_;omega)),bP,bB (aa (by rw[ae,e1];show t.length+2+_<=_;omega)),h2,e1,az]};{have il:=Sh.rZ (v:=x -1) (by omega) (by omega);have i3:Nr.i64 v3=true:=by{rw[e3];exact tT (by omega)};rw[cF c,ao c,i3,bB (aa (by show t.length+2<=_;omega)),bP,bB (aa (by rw[ae,e3];show t.length+2+_<=_;omega)),h4,e3,az]}
theorem fN.goal(d:bD)(x:Int)(hp:decide (1<=d.length/\d.length<=17/\-900<=x/\x<=900)=true):fN.F d x=some [.s (Sh.Ga d x)]:=by obtain⟨p1,p2,p3,p4⟩:=aq hp;rw[Sh.CL];unfold Sh.laid;apply fN.bU;intro v1 h1 v2 h2 v3 h3 v4 h4 v5 h5 v6 h6 v7 h7 v8 h8 v9 h9 v10 iZ v11 lJ;have nG:∀b:Bool,(!b||b)=true/\(!b||(b&&b))=true:=by{decide};have e1:v1=decide (1<=x/\x<=21):=by{rw[h1];by_cases c:1<=x<;>simp[c]};have e2:v2=decide (1<=x/\x<=21/\(d.length:Int)<=x):=by{rw[h2,e1];by_cases c:1<=x/\x<=21;{rw[cT c,aT];omega};{rw[cF c,dF]}};have e6:v6=decide (-5<=x/\x<=0):=by{rw[h6];by_cases c:-5<=x<;>simp[c]};have e3:v3=x -d.length:=by{rw[h3,iw]};have ew:IntKind.i64.wrap (0 -x)=-x:=by{rw[iw];omega};rw[ew]at h7⊢;rw[bB (nG _).1,bB (nG _).1,bB (nG _).2,bB (nG _).1,e2];by_cases c1:1<=x/\x<=21/\(d.length:Int)<=x;{rw[cT c1,ar c1,bB (aa ⟨rfl,by omega,by omega⟩),bB (aa (by rw[uz];omega)),e3]};{rw[cF c1,ao c1,bB (nG _).1,bB (nG _).1,e1];by_cases c2:1<=x/\x<=21;{have l4:v4.length<=18:=by{rw[h4,ae,aF];show min _ _+1<=18;omega};rw[cT c2,ar c2,yG,bB (aa (by rw[aF];show min _ _+1<=_;omega)),yG,bB (aa (by rw[aR];omega)),h5,h4,az]};{rw[cF c2,ao c2,bB (nG _).1,bB (nG _).1,e6];by_cases c3:-5<=x/\x<=0;{rw[cT c3,ar c3,bB (aa ⟨rfl,by omega,by omega⟩),bB (aa (by rw[h7,uz];show 2+_<=_;omega)),bB (aa (by rw[ae,h7,uz];show 2+_+_<=_;omega)),h8,h7,az]};{have l9:v9.length<=1:=by{rw[h9,aF];show min 1 _<=1;omega};have l10:v10.length<=17:=by{rw[iZ,aR];omega};have g9:v9=d.take 1:=h9;have g10:v10=d.drop 1:=iZ;rw[cF c3,ao c3,yG];by_cases c4:1<d.length;{rw[cT,yG,bB (aa (by show 1+v10.length<=_;omega)),bB (aa (by rw[ae];show v9.length+(1+v10.length)<=_;omega)),fN.gF x v11 ⟨p3,p4⟩ (by rw[lJ,ae,ae];show v9.length+(1+v10.length)<=_;omega),ar c4,lJ,g9,g10];rfl};{rw[cF,fN.gF x v9 ⟨p3,p4⟩ (by omega),ao c4,aK,g9]}}}}
theorem yy{b:UInt64}(h:(Nr.split b).1=2):(1<=(Sh.dg b).1.length/\(Sh.dg b).1.length<=17/\-900<=(Sh.dg b).2.1/\(Sh.dg b).2.1<=900)/\Sh.vE (Sh.dg b).1/\Nr.read (Sh.dg b).1 (Sh.dg b).2.1=some (Sh.jP b):=by obtain⟨hp,ht,hm,he⟩:=rP h;obtain⟨z1,z2,z3⟩:=Fi h;obtain⟨n,N,n1,n2,n3,n4,n5,n6,n7⟩:=Sh.Ad hp ht;obtain⟨d1,d2⟩:=yw hp ht;have hl:=Sh.Lv n1 n4;have hN:N<10^(n+1):=Nat.lt_of_le_of_lt n4 (Nat.pow_lt_pow_right (by omega) (by omega));have hL:=Nr.gY (n+1) N hN (by omega);have hr:=Sh.Dr hp ht;obtain⟨q1,q2,q3,q4⟩:=Nr.lD N;obtain⟨t,t1,t2⟩:=Nr.kq (Nr.dec N);have ne:Nr.cU (Nr.dec N)≠[]:=by{intro e0;have hn:=congrArg Nr.num t1;rw[Nr.fJ,Nr.jV,List.length_replicate,Nat.add_zero,q2,e0,show Nr.num []=0 from rfl,Nat.zero_mul]at hn;omega};have hL0:=Nr.mZ N;have mU:=List.length_pos_iff.2 ne;rw[z1,z2];refine⟨?_,?_,hr⟩;{rw[n6];refine⟨mU,Nat.le_trans hl n2,?_,?_⟩;{show -900<=((Nr.dec N).length:Int)+(Sh.dx (Sh.jP b) -n);omega};{show((Nr.dec N).length:Int)+(Sh.dx (Sh.jP b) -n)<=900;omega}};{rw[n6];refine⟨(Nr.fG q1 t1).1,ne,?_⟩;have:=q4 n3;rw[t1,ai,List.getElem?_append_left mU,<-ai]at this;exact this}
theorem oE(b:UInt64):(Nr.split b).1=1\/(Nr.split b).1=2\/(Nr.split b).1=3\/(Nr.split b).1=4:=by unfold Nr.split;simp only;by_cases c1:b.toNat/4503599627370496%2048=2047;{rw[ar c1];by_cases c2:b.toNat%4503599627370496=0;{rw[ar c2];exact .inr (.inr (.inl rfl))};{rw[ao c2];exact .inr (.inr (.inr rfl))}};{rw[ao c1];by_cases c2:b.toNat/4503599627370496%2048=0;{rw[ar c2];by_cases c3:b.toNat%4503599627370496=0;{rw[ar c3];exact .inl rfl};{rw[ao c3];exact .inr (.inl rfl)}};{rw[ao c2];exact .inr (.inl rfl)}}
theorem CK{b:UInt64}(h:(Nr.split b).1=2):(Sh.laid (Sh.dg b).1 (Sh.dg b).2.1).length<=24:=by obtain⟨⟨_,r2,r3,r4⟩,hL,_⟩:=yy h;obtain⟨_,_,_,_,_,_,_,hlen,_⟩:=Sh.sT hL r2 ⟨r3,r4⟩;exact hlen
theorem fy.gF(b:UInt64)(t:bD)(ht:t.length<=1000):fy.j1 (Nr.split b).2.1 t=some [.s (Sh.sign b++t)]:=by
 rw[fy.mF];unfold Sh.sign;cases(Nr.split b).2.1 with
 |true=>rw[au,bB (aa (by show 1+t.length<=_;omega)),ar rfl]
 |false=>rw[aj,ao (by decide)];rfl
theorem fy.goal(b:UInt64):fy.F b=some [.s (Sh.text b)]:=by apply fy.bU;intro v1 h1;rw[Sh.CL]at h1;rw[Sh.rO];unfold Sh.th;by_cases c4:(Nr.split b).1=4;{rw[cT c4,ar c4]};{rw[cF c4,ao c4];by_cases c3:(Nr.split b).1=3;{rw[cT c3,ar c3,fy.gF b _ (by decide)]};{rw[cF c3,ao c3];by_cases c1:(Nr.split b).1=1;{rw[cT c1,ar c1,fy.gF b _ (by decide)]};{have c2:(Nr.split b).1=2:=by{have:=oE b;omega};have hl:=CK c2;rw[cF c1,ao c1,bB (aa (yy c2).1),h1,fy.gF b _ (by omega)]}}}
theorem bG.jb(t:bD)(x:Nat)(hx:x<=1000)(ht:t.length<=1000):∀(m:Nat)(d:bD),d.length+m=x->bG.l2 t d x=some [.s (t++(d++Sh.eu m))]:=by
 intro m;induction m with
 |zero=>intro d hd;have e0:Sh.eu ((0:Nat):Int)=[]:=rfl;rw[bG.CM,cF,iy,e0,aK]
 |succ m ih=>intro d hd;have ez:d++Sh.eu ((m+1:Nat):Int)=(d++[48])++Sh.eu (m:Int):=by{unfold Sh.eu;rw[ah,ah,List.replicate_succ,az];rfl};rw[bG.CM,cT,bB (aa (by rw[ak];omega)),ih (d++[48]) (by rw[ae,ak];omega),ez]
theorem bG.sB(t:bD)(ht:t.length<=1000):∀(m:Nat)(d:bD),d.length+m<=1000->bG.l3 t d (-(m:Int))=some [.s (t++([48,46]++(Sh.eu m++d)))]:=by
 intro m;induction m with
 |zero=>intro d hd;apply bG.nX;intro v1 h1 v2 h2;have e0:Sh.eu ((0:Nat):Int)=[]:=rfl;rw[cF,bB (aa (by show t.length+2<=_;omega)),bB (aa (by rw[ae];show t.length+2+d.length<=_;omega)),h2,e0,bh,az]
 |succ m ih=>intro d hd;apply bG.nX;intro v1 h1 v2 h2;have e1:v1=-(m:Int):=by{rw[h1,iw];omega};have ez:Sh.eu ((m+1:Nat):Int)++d=Sh.eu (m:Int)++([48]++d):=by{unfold Sh.eu;rw[ah,ah,List.replicate_succ',az]};rw[cT,bB (aa (by show 1+d.length<=_;omega)),e1,ih ([48]++d) (by rw[ae,ak];omega),ez]
theorem bG.sC(x:Int)(t:bD)(hx:-900<=x/\x<=900)(ht:t.length<=1000):bG.j4 x t=some [.s (t++(if x<1 then[101,45]++Nr.itoa (1 -x)else[101,43]++Nr.itoa (x -1)))]:=by apply bG.CP;intro v1 h1 v2 h2 v3 h3 v4 h4;have e1:v1=1 -x:=by{rw[h1,iw]};have e3:v3=x -1:=by{rw[h3,iw]};by_cases c:x<1;{have il:=Sh.rZ (v:=1 -x) (by omega) (by omega);have i1:Nr.i64 v1=true:=by{rw[e1];exact tT (by omega)};rw[cT c,ar c,i1,bB (aa (by show t.length+2<=_;omega)),bP,bB (aa (by rw[ae,e1];show t.length+2+_<=_;omega)),h2,e1,az]};{have il:=Sh.rZ (v:=x -1) (by omega) (by omega);have i3:Nr.i64 v3=true:=by{rw[e3];exact tT (by omega)};rw[cF c,ao c,i3,bB (aa (by show t.length+2<=_;omega)),bP,bB (aa (by rw[ae,e3];show t.length+2+_<=_;omega)),h4,e3,az]}
theorem bG.gF(b:UInt64)(t:bD)(ht:t=Sh.sign b):bG.j1 b (Nr.split b).1 t=some [.s (Sh.text b)]:=by have tl:t.length<=1:=by{rw[ht];unfold Sh.sign;split<;>simp};apply bG.gM;intro v1 h1 v2 h2 v3 h3 v4 h4 v5 h5 v6 h6 v7 h7 v8 h8 v9 h9 v10 iZ v11 lJ;rw[Sh.rO];unfold Sh.th;rw[<-ht];by_cases c4:(Nr.split b).1=4;{rw[cT c4,ar c4]};{rw[cF c4,ao c4];by_cases c3:(Nr.split b).1=3;{rw[cT c3,ar c3,bB (aa (by show t.length+8<=_;omega)),h1]};{rw[cF c3,ao c3];by_cases c1:(Nr.split b).1=1;{rw[cT c1,ar c1,bB (aa (by show t.length+1<=_;omega))]};{have c2:(Nr.split b).1=2:=by{have:=oE b;omega};obtain⟨⟨p1,p2,p3,p4⟩,_,_⟩:=yy c2;rw[cF c1,ao c1];clear c1 c2 c3 c4 h1;generalize(Sh.dg b).1=d at*;generalize(Sh.dg b).2.1=x at*;have nG:∀b:Bool,(!b||b)=true/\(!b||(b&&b))=true:=by{decide};have e3:v3=decide (1<=x/\x<=21):=by{rw[h3];by_cases c:1<=x<;>simp[c]};have e4:v4=decide (1<=x/\x<=21/\(d.length:Int)<=x):=by{rw[h4,e3,h2];by_cases c:1<=x/\x<=21;{rw[cT c,aT];omega};{rw[cF c,dF]}};have e8:v8=decide (-5<=x/\x<=0):=by{rw[h8];by_cases c:-5<=x<;>simp[c]};unfold Sh.laid;rw[bB (nG _).1,bB (nG _).1,bB (nG _).2,bB (nG _).1,e4];by_cases c1:1<=x/\x<=21/\(d.length:Int)<=x;{obtain⟨n,rfl⟩:=Int.eq_ofNat_of_zero_le (show 0<=x by omega);have:=bG.jb t n (by omega) (by omega) (n -d.length) d (by omega);rw[cT c1,ar c1,this,show(((n -d.length:Nat):Nat):Int)=(n:Int) -d.length by omega]};{rw[cF c1,ao c1,bB (nG _).1,bB (nG _).1,e3];by_cases c2:1<=x/\x<=21;{have l5:v5.length<=17:=by{rw[h5,aF];omega};have l6:v6.length<=17:=by{rw[h6,aR];omega};rw[cT c2,ar c2,yG,iy,bB (aa (by rw[ae];show t.length+v5.length+1<=_;omega)),yG,bB (aa (by rw[ae,ae];show t.length+v5.length+1+v6.length<=_;omega)),h7,h5,h6];simp only[az]};{rw[cF c2,ao c2,bB (nG _).1,bB (nG _).1,e8];by_cases c3:-5<=x/\x<=0;{have:=bG.sB t (by omega) (-x).toNat d (by omega);rw[show -(((-x).toNat:Nat):Int)=x by omega,show(((-x).toNat:Nat):Int)=-x by omega]at this;rw[cT c3,ar c3,this]};{have g9:v9=d.take 1:=h9;have g10:v10=d.drop 1:=iZ;have l9:v9.length<=1:=by{rw[g9,aF];omega};have l10:v10.length<=17:=by{rw[g10,aR];omega};rw[cF c3,ao c3,yG,iy,h2];by_cases c4:1<d.length;{rw[cT,bB (aa (by rw[ae];show t.length+v9.length+1<=_;omega)),yG,bB (aa (by rw[ae,ae];show t.length+v9.length+1+v10.length<=_;omega)),bG.sC x v11 ⟨p3,p4⟩ (by rw[lJ,ae,ae,ae];show t.length+v9.length+1+v10.length<=_;omega),ar c4,lJ,g9,g10];simp only[az,List.singleton_append,List.cons_append,bh]};{rw[cF,bG.sC x (t++v9) ⟨p3,p4⟩ (by rw[ae];omega),ao c4,aK,g9];simp only[az]}}}}}}}
theorem bG.goal(b:UInt64):bG.F b=some [.s (Sh.text b)]:=by
 rw[bG.de];cases c:(Nr.split b).2.1 with
 |true=>rw[au,bG.gF b [45] (by unfold Sh.sign;rw[c];rfl)]
 |false=>rw[aj,bG.gF b [] (by unfold Sh.sign;rw[c];rfl)]
end Go.Eng
namespace Go.Eng
open Nr (ll sh top)
namespace Sh
def Gb(m:Nat):Int:=if m/4503599627370496=2047 then(if m%4503599627370496=0 then 3 else 4)else if m/4503599627370496=0 then(if m%4503599627370496=0 then 1 else 2)else 2
theorem FF(b:UInt64):(Nr.split b).1=Gb (jP b)/\(Nr.split b).2.1=decide (9223372036854775808<=b.toNat):=by have hb:=b.toNat_lt;have hx:b.toNat/4503599627370496%2048=jP b/4503599627370496:=by{unfold jP;omega};have hf:b.toNat%4503599627370496=jP b%4503599627370496:=by{unfold jP;omega};unfold Nr.split Gb;simp only[hx,hf];generalize jP b=p;by_cases c1:p/4503599627370496=2047;{rw[ar c1,ar c1];by_cases c2:p%4503599627370496=0;{rw[ar c2,ar c2];exact⟨rfl,rfl⟩};{rw[ao c2,ao c2];exact⟨rfl,rfl⟩}};{rw[ao c1,ao c1];by_cases c2:p/4503599627370496=0;{rw[ar c2,ar c2];by_cases c3:p%4503599627370496=0;{rw[ar c3,ar c3];exact⟨rfl,rfl⟩};{rw[ao c3,ao c3];exact⟨rfl,rfl⟩}};{rw[ao c2,ao c2];exact⟨rfl,rfl⟩}}
def tb(b:UInt64):bD:=if(Nr.split b).1=3 then[73,110,102,105,110,105,116,121]else if(Nr.split b).1=1 then[48]else laid (dg b).1 (dg b).2.1
theorem xg{b:UInt64}(h:(Nr.split b).1=4):text b=[78,97,78]:=by rw[rO];unfold th;rw[ar h]
theorem Az{b:UInt64}(h:¬(Nr.split b).1=4):text b=sign b++tb b:=by rw[rO];unfold th tb;rw[ao h];by_cases c3:(Nr.split b).1=3;{rw[ar c3,ar c3]};{rw[ao c3,ao c3];by_cases c1:(Nr.split b).1=1;{rw[ar c1,ar c1]};{rw[ao c1,ao c1]}}
theorem PK{b:UInt64}(h:¬(Nr.split b).1=4):(tb b).length<=24:=by unfold tb;by_cases c3:(Nr.split b).1=3;{rw[ar c3];decide};{rw[ao c3];by_cases c1:(Nr.split b).1=1;{rw[ar c1];decide};{rw[ao c1];exact CK (by have:=oE b;omega)}}
theorem tg(b:UInt64):(text b).length<=25:=by by_cases c:(Nr.split b).1=4;{rw[xg c];decide};{rw[Az c,ae];have:=PK c;have hs:(sign b).length<=1:=by{unfold sign;split<;>decide};omega}
end Sh
end Go.Eng
namespace Go.Eng
namespace Sh
theorem vR:Nr.read [48] 1=some 0:=by unfold Nr.read;rw[ar (by decide),show Nr.num [48]=0 by decide];unfold Nr.rd;rw[show((1:Int) -(([48]:bD).length:Int)).toNat=0 by decide,show(-((1:Int) -(([48]:bD).length:Int))).toNat=0 by decide];exact Nr.ov (by decide) (by decide) (by unfold Nr.iz;decide+kernel) (.inl rfl)
theorem tG:Nr.parse [48]=(0,0)/\Nr.parse [45,48]=(9223372036854775808,0):=by constructor;{have h1:Nr.ahead [48]++Nr.behind [48]=[48]:=by{decide};have h2:((Nr.ahead [48]).length:Int)+Nr.sr (Nr.tail [48])=1:=by{decide};rw[Nr.xJ];unfold Nr.uV;rw[ao (by decide),ao (by decide),h1,h2,vR];simp};{have h1:Nr.ahead [45,48]++Nr.behind [45,48]=[48]:=by{decide};have h2:((Nr.ahead [45,48]).length:Int)+Nr.sr (Nr.tail [45,48])=1:=by{decide};rw[Nr.xJ];unfold Nr.uV;rw[ao (by decide),ao (by decide),h1,h2,vR];simp}
theorem Ni{m:Nat}(h:Gb m=1):m=0:=by unfold Gb at h;split at h;{split at h<;>simp at h};{split at h;{split at h;{omega};{simp at h}};{simp at h}}
theorem back{b:UInt64}(h:(Nr.split b).1=1\/(Nr.split b).1=2):Nr.parse (text b)=(b,0)/\Nr.fC (text b)≠0:=by have hb:=b.toNat_lt;have hs:=(FF b).2;rw[Az (by omega)];rcases h with h|h;{have hm:=Ni ((FF b).1.symm.trans h);have hm:b.toNat%9223372036854775808=0:=hm;have e:tb b=[48]:=by{unfold tb;rw[nO,ar h]};rw[e];unfold sign;by_cases c:9223372036854775808<=b.toNat;{rw[hs,aa c,ar rfl];have:b=9223372036854775808:=aU.1 (by show _=9223372036854775808;omega);rw[this];exact⟨tG.2,by decide⟩};{rw[hs,ab c,ao (by decide)];have:b=0:=aU.1 (by show _=0;omega);rw[this];exact⟨tG.1,by decide⟩}};{obtain⟨⟨_,r2,r3,r4⟩,hL,hr⟩:=yy h;obtain⟨p1,p2,_⟩:=HF hL r2 ⟨r3,r4⟩ hr (Nr.split b).2.1;have e:tb b=laid (dg b).1 (dg b).2.1:=by{unfold tb;rw[nO,nO]};rw[e];unfold sign;refine⟨p1.trans ?_,p2⟩;rw[hs];refine Prod.ext (aU.1 ?_) rfl;show(UInt64.ofNat _).toNat=b.toNat;rw[fI];unfold jP;by_cases c:9223372036854775808<=b.toNat;{rw[aa c,ar rfl];omega};{rw[ab c,ao (by decide)];omega}}
end Sh
end Go.Eng
namespace Go.Proofs
open Go.Shelf
def Tryz.EO:Go.Shelf.Ren:=⟨fun|29=>232|n=>n,fun|22=>22|3=>3|4=>4|25=>87|54=>260|0=>0|5=>5|n=>n,fun|1=>7|n=>n⟩
theorem Tryz.P6:Go.Proofs.Lays7.n29 Tryz.prog Tryz.EO:={
 mixed:=by kernel_rfl
 f29:=Tryz.func232.trans (congrArg some (by kernel_rfl))
 t0:=Tryz.underlying0
 a0:=Tryz.isAgg0
 z0:=Tryz.sizeOf0
 v0:=Tryz.zeroValue0
 i0:=by kernel_rfl
 t3:=Tryz.underlying3
 a3:=Tryz.isAgg3
 z3:=Tryz.sizeOf3
 v3:=Tryz.zeroValue3
 i3:=by kernel_rfl
 t4:=Tryz.underlying4
 a4:=Tryz.isAgg4
 z4:=Tryz.sizeOf4
 v4:=Tryz.zeroValue4
 i4:=by kernel_rfl
 t5:=Tryz.underlying5
 a5:=Tryz.isAgg5
 z5:=Tryz.sizeOf5
 v5:=Tryz.zeroValue5
 i5:=by kernel_rfl
 t22:=Tryz.underlying22
 a22:=Tryz.isAgg22
 z22:=Tryz.sizeOf22
 v22:=Tryz.zeroValue22
 i22:=by kernel_rfl
 t25:=Tryz.underlying87
 a25:=Tryz.isAgg87
 z25:=Tryz.sizeOf87
 v25:=Tryz.zeroValue87
 i25:=by kernel_rfl
 t54:=Tryz.underlying260
 a54:=Tryz.isAgg260
 z54:=Tryz.sizeOf260
 g1:=by kernel_rfl}
def Tryz.CI:Go.Shelf.Ren:=⟨fun|160=>241|232=>238|231=>193|227=>194|234=>239|233=>195|236=>240|235=>196|228=>226|271=>255|151=>228|197=>227|120=>265|152=>247|260=>246|137=>137|119=>258|224=>175|225=>174|217=>163|266=>199|n=>n,fun|9=>9|4=>4|3=>3|5=>5|117=>201|116=>200|0=>0|124=>204|21=>21|105=>232|46=>87|119=>273|139=>276|138=>275|n=>n,fun|3=>8|4=>9|n=>n⟩
theorem Tryz.Nf:Go.Proofs.Lays.n160 Tryz.prog Tryz.CI:={
 mixed:=by kernel_rfl
 f119:=Tryz.func258.trans (congrArg some (by kernel_rfl))
 f120:=Tryz.func265.trans (congrArg some (by kernel_rfl))
 f137:=Tryz.func137.trans (congrArg some (by kernel_rfl))
 f151:=Tryz.func228.trans (congrArg some (by kernel_rfl))
 f152:=Tryz.func247.trans (congrArg some (by kernel_rfl))
 f160:=Tryz.func241.trans (congrArg some (by kernel_rfl))
 f197:=Tryz.func227.trans (congrArg some (by kernel_rfl))
 f217:=Tryz.func163.trans (congrArg some (by kernel_rfl))
 f224:=Tryz.func175.trans (congrArg some (by kernel_rfl))
 f225:=Tryz.func174.trans (congrArg some (by kernel_rfl))
 f227:=Tryz.func194.trans (congrArg some (by kernel_rfl))
 f228:=Tryz.func226.trans (congrArg some (by kernel_rfl))
 f231:=Tryz.func193.trans (congrArg some (by kernel_rfl))
 f232:=Tryz.func238.trans (congrArg some (by kernel_rfl))
 f233:=Tryz.func195.trans (congrArg some (by kernel_rfl))
 f234:=Tryz.func239.trans (congrArg some (by kernel_rfl))
 f235:=Tryz.func196.trans (congrArg some (by kernel_rfl))
 f236:=Tryz.func240.trans (congrArg some (by kernel_rfl))
 f260:=Tryz.func246.trans (congrArg some (by kernel_rfl))
 f266:=Tryz.func199.trans (congrArg some (by kernel_rfl))
 f271:=Tryz.func255.trans (congrArg some (by kernel_rfl))
 t0:=Tryz.underlying0
 a0:=Tryz.isAgg0
 z0:=Tryz.sizeOf0
 v0:=Tryz.zeroValue0
 t3:=Tryz.underlying3
 a3:=Tryz.isAgg3
 z3:=Tryz.sizeOf3
 v3:=Tryz.zeroValue3
 t4:=Tryz.underlying4
 a4:=Tryz.isAgg4
 z4:=Tryz.sizeOf4
 v4:=Tryz.zeroValue4
 t5:=Tryz.underlying5
 a5:=Tryz.isAgg5
 z5:=Tryz.sizeOf5
 v5:=Tryz.zeroValue5
 t9:=Tryz.underlying9
 a9:=Tryz.isAgg9
 z9:=Tryz.sizeOf9
 v9:=Tryz.zeroValue9
 t21:=Tryz.underlying21
 a21:=Tryz.isAgg21
 z21:=Tryz.sizeOf21
 v21:=Tryz.zeroValue21
 t46:=Tryz.underlying87
 a46:=Tryz.isAgg87
 z46:=Tryz.sizeOf87
 v46:=Tryz.zeroValue87
 t105:=Tryz.underlying232
 a105:=Tryz.isAgg232
 z105:=Tryz.sizeOf232
 v105:=Tryz.zeroValue232
 t116:=Tryz.underlying200
 a116:=Tryz.isAgg200
 z116:=Tryz.sizeOf200
 t117:=Tryz.underlying201
 a117:=Tryz.isAgg201
 z117:=Tryz.sizeOf201
 v117:=Tryz.zeroValue201
 t119:=Tryz.underlying273
 a119:=Tryz.isAgg273
 z119:=Tryz.sizeOf273
 t124:=Tryz.underlying204
 a124:=Tryz.isAgg204
 z124:=Tryz.sizeOf204
 v124:=Tryz.zeroValue204
 t138:=Tryz.underlying275
 a138:=Tryz.isAgg275
 z138:=Tryz.sizeOf275
 v138:=Tryz.zeroValue275
 t139:=Tryz.underlying276
 a139:=Tryz.isAgg276
 z139:=Tryz.sizeOf276
 v139:=Tryz.zeroValue276
 g3:=by kernel_rfl
 g4:=by kernel_rfl}
def Tryz.CH:Go.Shelf.Ren:=⟨fun|161=>157|231=>193|227=>194|233=>195|235=>196|228=>226|197=>227|151=>228|260=>246|152=>247|137=>137|119=>258|224=>175|225=>174|217=>163|266=>199|n=>n,fun|9=>9|4=>4|3=>3|5=>5|117=>201|116=>200|0=>0|124=>204|105=>232|21=>21|119=>273|46=>87|139=>276|138=>275|n=>n,fun|3=>8|4=>9|n=>n⟩
theorem Tryz.Nd:Go.Proofs.Lays.n161 Tryz.prog Tryz.CH:={
 mixed:=by kernel_rfl
 f119:=Tryz.func258.trans (congrArg some (by kernel_rfl))
 f137:=Tryz.func137.trans (congrArg some (by kernel_rfl))
 f151:=Tryz.func228.trans (congrArg some (by kernel_rfl))
 f152:=Tryz.func247.trans (congrArg some (by kernel_rfl))
 f161:=Tryz.func157.trans (congrArg some (by kernel_rfl))
 f197:=Tryz.func227.trans (congrArg some (by kernel_rfl))
 f217:=Tryz.func163.trans (congrArg some (by kernel_rfl))
 f224:=Tryz.func175.trans (congrArg some (by kernel_rfl))
 f225:=Tryz.func174.trans (congrArg some (by kernel_rfl))
 f227:=Tryz.func194.trans (congrArg some (by kernel_rfl))
 f228:=Tryz.func226.trans (congrArg some (by kernel_rfl))
 f231:=Tryz.func193.trans (congrArg some (by kernel_rfl))
 f233:=Tryz.func195.trans (congrArg some (by kernel_rfl))
 f235:=Tryz.func196.trans (congrArg some (by kernel_rfl))
 f260:=Tryz.func246.trans (congrArg some (by kernel_rfl))
 f266:=Tryz.func199.trans (congrArg some (by kernel_rfl))
 t0:=Tryz.underlying0
 a0:=Tryz.isAgg0
 z0:=Tryz.sizeOf0
 v0:=Tryz.zeroValue0
 t3:=Tryz.underlying3
 a3:=Tryz.isAgg3
 z3:=Tryz.sizeOf3
 v3:=Tryz.zeroValue3
 t4:=Tryz.underlying4
 a4:=Tryz.isAgg4
 z4:=Tryz.sizeOf4
 v4:=Tryz.zeroValue4
 t5:=Tryz.underlying5
 a5:=Tryz.isAgg5
 z5:=Tryz.sizeOf5
 v5:=Tryz.zeroValue5
 t9:=Tryz.underlying9
 a9:=Tryz.isAgg9
 z9:=Tryz.sizeOf9
 v9:=Tryz.zeroValue9
 t21:=Tryz.underlying21
 a21:=Tryz.isAgg21
 z21:=Tryz.sizeOf21
 v21:=Tryz.zeroValue21
 t46:=Tryz.underlying87
 a46:=Tryz.isAgg87
 z46:=Tryz.sizeOf87
 v46:=Tryz.zeroValue87
 t105:=Tryz.underlying232
 a105:=Tryz.isAgg232
 z105:=Tryz.sizeOf232
 v105:=Tryz.zeroValue232
 t116:=Tryz.underlying200
 a116:=Tryz.isAgg200
 z116:=Tryz.sizeOf200
 t117:=Tryz.underlying201
 a117:=Tryz.isAgg201
 z117:=Tryz.sizeOf201
 v117:=Tryz.zeroValue201
 t119:=Tryz.underlying273
 a119:=Tryz.isAgg273
 z119:=Tryz.sizeOf273
 t124:=Tryz.underlying204
 a124:=Tryz.isAgg204
 z124:=Tryz.sizeOf204
 v124:=Tryz.zeroValue204
 t138:=Tryz.underlying275
 a138:=Tryz.isAgg275
 z138:=Tryz.sizeOf275
 v138:=Tryz.zeroValue275
 t139:=Tryz.underlying276
 a139:=Tryz.isAgg276
 z139:=Tryz.sizeOf276
 v139:=Tryz.zeroValue276
 g3:=by kernel_rfl
 g4:=by kernel_rfl}
def Tryz.CG:Go.Shelf.Ren:=⟨fun|162=>219|232=>238|227=>194|234=>239|236=>240|228=>226|271=>255|151=>228|120=>265|197=>227|152=>247|260=>246|137=>137|119=>258|224=>175|225=>174|217=>163|266=>199|n=>n,fun|9=>9|4=>4|3=>3|5=>5|117=>201|116=>200|0=>0|124=>204|21=>21|105=>232|46=>87|119=>273|139=>276|138=>275|n=>n,fun|3=>8|4=>9|n=>n⟩
theorem Tryz.Nc:Go.Proofs.Lays.n162 Tryz.prog Tryz.CG:={
 mixed:=by kernel_rfl
 f119:=Tryz.func258.trans (congrArg some (by kernel_rfl))
 f120:=Tryz.func265.trans (congrArg some (by kernel_rfl))
 f137:=Tryz.func137.trans (congrArg some (by kernel_rfl))
 f151:=Tryz.func228.trans (congrArg some (by kernel_rfl))
 f152:=Tryz.func247.trans (congrArg some (by kernel_rfl))
 f162:=Tryz.func219.trans (congrArg some (by kernel_rfl))
 f197:=Tryz.func227.trans (congrArg some (by kernel_rfl))
 f217:=Tryz.func163.trans (congrArg some (by kernel_rfl))
 f224:=Tryz.func175.trans (congrArg some (by kernel_rfl))
 f225:=Tryz.func174.trans (congrArg some (by kernel_rfl))
 f227:=Tryz.func194.trans (congrArg some (by kernel_rfl))
 f228:=Tryz.func226.trans (congrArg some (by kernel_rfl))
 f232:=Tryz.func238.trans (congrArg some (by kernel_rfl))
 f234:=Tryz.func239.trans (congrArg some (by kernel_rfl))
 f236:=Tryz.func240.trans (congrArg some (by kernel_rfl))
 f260:=Tryz.func246.trans (congrArg some (by kernel_rfl))
 f266:=Tryz.func199.trans (congrArg some (by kernel_rfl))
 f271:=Tryz.func255.trans (congrArg some (by kernel_rfl))
 t0:=Tryz.underlying0
 a0:=Tryz.isAgg0
 z0:=Tryz.sizeOf0
 v0:=Tryz.zeroValue0
 t3:=Tryz.underlying3
 a3:=Tryz.isAgg3
 z3:=Tryz.sizeOf3
 v3:=Tryz.zeroValue3
 t4:=Tryz.underlying4
 a4:=Tryz.isAgg4
 z4:=Tryz.sizeOf4
 v4:=Tryz.zeroValue4
 t5:=Tryz.underlying5
 a5:=Tryz.isAgg5
 z5:=Tryz.sizeOf5
 v5:=Tryz.zeroValue5
 t9:=Tryz.underlying9
 a9:=Tryz.isAgg9
 z9:=Tryz.sizeOf9
 v9:=Tryz.zeroValue9
 t21:=Tryz.underlying21
 a21:=Tryz.isAgg21
 z21:=Tryz.sizeOf21
 v21:=Tryz.zeroValue21
 t46:=Tryz.underlying87
 a46:=Tryz.isAgg87
 z46:=Tryz.sizeOf87
 v46:=Tryz.zeroValue87
 t105:=Tryz.underlying232
 a105:=Tryz.isAgg232
 z105:=Tryz.sizeOf232
 v105:=Tryz.zeroValue232
 t116:=Tryz.underlying200
 a116:=Tryz.isAgg200
 z116:=Tryz.sizeOf200
 t117:=Tryz.underlying201
 a117:=Tryz.isAgg201
 z117:=Tryz.sizeOf201
 v117:=Tryz.zeroValue201
 t119:=Tryz.underlying273
 a119:=Tryz.isAgg273
 z119:=Tryz.sizeOf273
 t124:=Tryz.underlying204
 a124:=Tryz.isAgg204
 z124:=Tryz.sizeOf204
 v124:=Tryz.zeroValue204
 t138:=Tryz.underlying275
 a138:=Tryz.isAgg275
 z138:=Tryz.sizeOf275
 v138:=Tryz.zeroValue275
 t139:=Tryz.underlying276
 a139:=Tryz.isAgg276
 z139:=Tryz.sizeOf276
 v139:=Tryz.zeroValue276
 g3:=by kernel_rfl
 g4:=by kernel_rfl}
def Tryz.vV:Go.Shelf.Ren:=⟨fun|105=>152|212=>185|99=>43|165=>186|166=>187|170=>188|169=>189|263=>221|264=>222|206=>82|240=>223|241=>224|276=>244|277=>245|n=>n,fun|9=>9|3=>3|4=>4|20=>20|0=>0|46=>87|109=>185|5=>5|72=>189|76=>191|51=>97|146=>217|53=>22|148=>196|70=>187|37=>23|75=>118|127=>230|164=>250|80=>194|n=>n,fun|n=>n⟩
theorem Tryz.Ng:Go.Proofs.Lays.n105 Tryz.prog Tryz.vV:={
 mixed:=by kernel_rfl
 f99:=Tryz.func43.trans (congrArg some (by kernel_rfl))
 f105:=Tryz.func152.trans (congrArg some (by kernel_rfl))
 f165:=Tryz.func186.trans (congrArg some (by kernel_rfl))
 f166:=Tryz.func187.trans (congrArg some (by kernel_rfl))
 f169:=Tryz.func189.trans (congrArg some (by kernel_rfl))
 f170:=Tryz.func188.trans (congrArg some (by kernel_rfl))
 f206:=Tryz.func82.trans (congrArg some (by kernel_rfl))
 f212:=Tryz.func185.trans (congrArg some (by kernel_rfl))
 f240:=Tryz.func223.trans (congrArg some (by kernel_rfl))
 f241:=Tryz.func224.trans (congrArg some (by kernel_rfl))
 f263:=Tryz.func221.trans (congrArg some (by kernel_rfl))
 f264:=Tryz.func222.trans (congrArg some (by kernel_rfl))
 f276:=Tryz.func244.trans (congrArg some (by kernel_rfl))
 f277:=Tryz.func245.trans (congrArg some (by kernel_rfl))
 t0:=Tryz.underlying0
 a0:=Tryz.isAgg0
 z0:=Tryz.sizeOf0
 v0:=Tryz.zeroValue0
 t3:=Tryz.underlying3
 a3:=Tryz.isAgg3
 z3:=Tryz.sizeOf3
 v3:=Tryz.zeroValue3
 t4:=Tryz.underlying4
 a4:=Tryz.isAgg4
 z4:=Tryz.sizeOf4
 v4:=Tryz.zeroValue4
 t5:=Tryz.underlying5
 a5:=Tryz.isAgg5
 z5:=Tryz.sizeOf5
 v5:=Tryz.zeroValue5
 t9:=Tryz.underlying9
 a9:=Tryz.isAgg9
 z9:=Tryz.sizeOf9
 v9:=Tryz.zeroValue9
 t20:=Tryz.underlying20
 a20:=Tryz.isAgg20
 z20:=Tryz.sizeOf20
 v20:=Tryz.zeroValue20
 t37:=Tryz.underlying23
 a37:=Tryz.isAgg23
 z37:=Tryz.sizeOf23
 v37:=Tryz.zeroValue23
 t46:=Tryz.underlying87
 a46:=Tryz.isAgg87
 z46:=Tryz.sizeOf87
 v46:=Tryz.zeroValue87
 t51:=Tryz.underlying97
 a51:=Tryz.isAgg97
 z51:=Tryz.sizeOf97
 v51:=Tryz.zeroValue97
 t53:=Tryz.underlying22
 a53:=Tryz.isAgg22
 z53:=Tryz.sizeOf22
 v53:=Tryz.zeroValue22
 t70:=Tryz.underlying187
 a70:=Tryz.isAgg187
 z70:=Tryz.sizeOf187
 v70:=Tryz.zeroValue187
 t72:=Tryz.underlying189
 a72:=Tryz.isAgg189
 z72:=Tryz.sizeOf189
 v72:=Tryz.zeroValue189
 t75:=Tryz.underlying118
 a75:=Tryz.isAgg118
 z75:=Tryz.sizeOf118
 v75:=Tryz.zeroValue118
 t76:=Tryz.underlying191
 a76:=Tryz.isAgg191
 z76:=Tryz.sizeOf191
 v76:=Tryz.zeroValue191
 t109:=Tryz.underlying185
 a109:=Tryz.isAgg185
 z109:=Tryz.sizeOf185
 v109:=Tryz.zeroValue185
 t127:=Tryz.underlying230
 a127:=Tryz.isAgg230
 z127:=Tryz.sizeOf230
 v127:=Tryz.zeroValue230
 t146:=Tryz.underlying217
 a146:=Tryz.isAgg217
 z146:=Tryz.sizeOf217
 v146:=Tryz.zeroValue217
 t148:=Tryz.underlying196
 a148:=Tryz.isAgg196
 z148:=Tryz.sizeOf196
 v148:=Tryz.zeroValue196
 t164:=Tryz.underlying250
 a164:=Tryz.isAgg250
 z164:=Tryz.sizeOf250
 v164:=Tryz.zeroValue250}
theorem Tryz.Ml:Builder.Extra Tryz.prog Tryz.vV:={
 sizeBuilder:=by kernel_rfl
 liesBuilder:=by kernel_rfl
 t5:=Tryz.underlying5
 a5:=Tryz.isAgg5
 z5:=Tryz.sizeOf5
 v5:=Tryz.zeroValue5
 infoByte:=by kernel_rfl
 cellsByte:=by kernel_rfl
 sizeByte:=by kernel_rfl
 neB5:=by decide}
def Tryz.vU:Go.Shelf.Ren:=⟨fun|156=>237|165=>186|166=>187|169=>189|240=>223|241=>224|276=>244|277=>245|n=>n,fun|31=>136|9=>9|3=>3|4=>4|0=>0|20=>20|72=>189|76=>191|70=>187|37=>23|75=>118|127=>230|164=>250|5=>5|80=>194|n=>n,fun|n=>n⟩
theorem Tryz.F9:Go.Proofs.Lays.n156 Tryz.prog Tryz.vU:={
 mixed:=by kernel_rfl
 f156:=Tryz.func237.trans (congrArg some (by kernel_rfl))
 f165:=Tryz.func186.trans (congrArg some (by kernel_rfl))
 f166:=Tryz.func187.trans (congrArg some (by kernel_rfl))
 f169:=Tryz.func189.trans (congrArg some (by kernel_rfl))
 f240:=Tryz.func223.trans (congrArg some (by kernel_rfl))
 f241:=Tryz.func224.trans (congrArg some (by kernel_rfl))
 f276:=Tryz.func244.trans (congrArg some (by kernel_rfl))
 f277:=Tryz.func245.trans (congrArg some (by kernel_rfl))
 t0:=Tryz.underlying0
 a0:=Tryz.isAgg0
 z0:=Tryz.sizeOf0
 v0:=Tryz.zeroValue0
 t3:=Tryz.underlying3
 a3:=Tryz.isAgg3
 z3:=Tryz.sizeOf3
 v3:=Tryz.zeroValue3
 t4:=Tryz.underlying4
 a4:=Tryz.isAgg4
 z4:=Tryz.sizeOf4
 v4:=Tryz.zeroValue4
 t9:=Tryz.underlying9
 a9:=Tryz.isAgg9
 z9:=Tryz.sizeOf9
 v9:=Tryz.zeroValue9
 t20:=Tryz.underlying20
 a20:=Tryz.isAgg20
 z20:=Tryz.sizeOf20
 v20:=Tryz.zeroValue20
 t31:=Tryz.underlying136
 a31:=Tryz.isAgg136
 z31:=Tryz.sizeOf136
 v31:=Tryz.zeroValue136
 t37:=Tryz.underlying23
 a37:=Tryz.isAgg23
 z37:=Tryz.sizeOf23
 v37:=Tryz.zeroValue23
 t70:=Tryz.underlying187
 a70:=Tryz.isAgg187
 z70:=Tryz.sizeOf187
 v70:=Tryz.zeroValue187
 t72:=Tryz.underlying189
 a72:=Tryz.isAgg189
 z72:=Tryz.sizeOf189
 v72:=Tryz.zeroValue189
 t75:=Tryz.underlying118
 a75:=Tryz.isAgg118
 z75:=Tryz.sizeOf118
 v75:=Tryz.zeroValue118
 t76:=Tryz.underlying191
 a76:=Tryz.isAgg191
 z76:=Tryz.sizeOf191
 v76:=Tryz.zeroValue191
 t127:=Tryz.underlying230
 a127:=Tryz.isAgg230
 z127:=Tryz.sizeOf230
 v127:=Tryz.zeroValue230
 t164:=Tryz.underlying250
 a164:=Tryz.isAgg250
 z164:=Tryz.sizeOf250
 v164:=Tryz.zeroValue250}
theorem Tryz.N9:Builder.Extra Tryz.prog Tryz.vU:={
 sizeBuilder:=by kernel_rfl
 liesBuilder:=by kernel_rfl
 t5:=Tryz.underlying5
 a5:=Tryz.isAgg5
 z5:=Tryz.sizeOf5
 v5:=Tryz.zeroValue5
 infoByte:=by kernel_rfl
 cellsByte:=by kernel_rfl
 sizeByte:=by kernel_rfl
 neB5:=by decide}
def Tryz.AW:Go.Shelf.Ren:=⟨fun|171=>83|243=>117|246=>143|283=>169|284=>170|285=>171|286=>172|129=>205|317=>204|318=>206|319=>207|320=>208|337=>231|338=>232|n=>n,fun|3=>3|9=>9|2=>2|4=>4|171=>170|0=>0|53=>22|37=>23|5=>5|173=>173|212=>214|51=>97|20=>20|213=>215|46=>87|232=>259|233=>260|n=>n,fun|17=>3|18=>6|19=>7|n=>n⟩
theorem Tryz.J5:Go.Proofs.LaysM.n171 Tryz.prog Tryz.AW:={
 mixed:=by kernel_rfl
 f129:=Tryz.func205.trans (congrArg some (by kernel_rfl))
 f171:=Tryz.func83.trans (congrArg some (by kernel_rfl))
 f243:=Tryz.func117.trans (congrArg some (by kernel_rfl))
 f246:=Tryz.func143.trans (congrArg some (by kernel_rfl))
 f283:=Tryz.func169.trans (congrArg some (by kernel_rfl))
 f284:=Tryz.func170.trans (congrArg some (by kernel_rfl))
 f285:=Tryz.func171.trans (congrArg some (by kernel_rfl))
 f286:=Tryz.func172.trans (congrArg some (by kernel_rfl))
 f317:=Tryz.func204.trans (congrArg some (by kernel_rfl))
 f318:=Tryz.func206.trans (congrArg some (by kernel_rfl))
 f319:=Tryz.func207.trans (congrArg some (by kernel_rfl))
 f320:=Tryz.func208.trans (congrArg some (by kernel_rfl))
 f337:=Tryz.func231.trans (congrArg some (by kernel_rfl))
 f338:=Tryz.func232.trans (congrArg some (by kernel_rfl))
 t0:=Tryz.underlying0
 a0:=Tryz.isAgg0
 z0:=Tryz.sizeOf0
 v0:=Tryz.zeroValue0
 t2:=Tryz.underlying2
 a2:=Tryz.isAgg2
 z2:=Tryz.sizeOf2
 v2:=Tryz.zeroValue2
 t3:=Tryz.underlying3
 a3:=Tryz.isAgg3
 z3:=Tryz.sizeOf3
 v3:=Tryz.zeroValue3
 t4:=Tryz.underlying4
 a4:=Tryz.isAgg4
 z4:=Tryz.sizeOf4
 v4:=Tryz.zeroValue4
 t5:=Tryz.underlying5
 a5:=Tryz.isAgg5
 z5:=Tryz.sizeOf5
 v5:=Tryz.zeroValue5
 t9:=Tryz.underlying9
 a9:=Tryz.isAgg9
 z9:=Tryz.sizeOf9
 v9:=Tryz.zeroValue9
 t20:=Tryz.underlying20
 a20:=Tryz.isAgg20
 z20:=Tryz.sizeOf20
 v20:=Tryz.zeroValue20
 t37:=Tryz.underlying23
 a37:=Tryz.isAgg23
 z37:=Tryz.sizeOf23
 v37:=Tryz.zeroValue23
 t46:=Tryz.underlying87
 a46:=Tryz.isAgg87
 z46:=Tryz.sizeOf87
 v46:=Tryz.zeroValue87
 t51:=Tryz.underlying97
 a51:=Tryz.isAgg97
 z51:=Tryz.sizeOf97
 v51:=Tryz.zeroValue97
 t53:=Tryz.underlying22
 a53:=Tryz.isAgg22
 z53:=Tryz.sizeOf22
 v53:=Tryz.zeroValue22
 t171:=Tryz.underlying170
 a171:=Tryz.isAgg170
 z171:=Tryz.sizeOf170
 v171:=Tryz.zeroValue170
 t173:=Tryz.underlying173
 a173:=Tryz.isAgg173
 z173:=Tryz.sizeOf173
 v173:=Tryz.zeroValue173
 t212:=Tryz.underlying214
 a212:=Tryz.isAgg214
 z212:=Tryz.sizeOf214
 v212:=Tryz.zeroValue214
 t213:=Tryz.underlying215
 a213:=Tryz.isAgg215
 z213:=Tryz.sizeOf215
 t232:=Tryz.underlying259
 a232:=Tryz.isAgg259
 z232:=Tryz.sizeOf259
 v232:=Tryz.zeroValue259
 t233:=Tryz.underlying260
 a233:=Tryz.isAgg260
 z233:=Tryz.sizeOf260
 v233:=Tryz.zeroValue260
 g17:=by kernel_rfl
 g18:=by kernel_rfl
 g19:=by kernel_rfl
 i0:=by kernel_rfl
 i2:=by kernel_rfl
 i3:=by kernel_rfl
 i4:=by kernel_rfl
 i5:=by kernel_rfl
 i9:=by kernel_rfl
 i20:=by kernel_rfl
 i37:=by kernel_rfl
 i46:=by kernel_rfl
 i51:=by kernel_rfl
 i53:=by kernel_rfl
 i171:=by kernel_rfl
 i173:=by kernel_rfl
 i212:=by kernel_rfl
 i232:=by kernel_rfl
 i233:=by kernel_rfl
 m17:=by kernel_rfl
 m18:=by kernel_rfl
 m19:=by kernel_rfl}
def Tryz.AV:Go.Shelf.Ren:=⟨fun|173=>111|246=>143|283=>169|284=>170|285=>171|286=>172|129=>205|317=>204|318=>206|319=>207|320=>208|337=>231|338=>232|n=>n,fun|2=>2|3=>3|9=>9|4=>4|171=>170|0=>0|53=>22|37=>23|5=>5|173=>173|212=>214|51=>97|20=>20|213=>215|46=>87|232=>259|233=>260|n=>n,fun|17=>3|18=>6|19=>7|n=>n⟩
theorem Tryz.J4:Go.Proofs.LaysM.n173 Tryz.prog Tryz.AV:={
 mixed:=by kernel_rfl
 f129:=Tryz.func205.trans (congrArg some (by kernel_rfl))
 f173:=Tryz.func111.trans (congrArg some (by kernel_rfl))
 f246:=Tryz.func143.trans (congrArg some (by kernel_rfl))
 f283:=Tryz.func169.trans (congrArg some (by kernel_rfl))
 f284:=Tryz.func170.trans (congrArg some (by kernel_rfl))
 f285:=Tryz.func171.trans (congrArg some (by kernel_rfl))
 f286:=Tryz.func172.trans (congrArg some (by kernel_rfl))
 f317:=Tryz.func204.trans (congrArg some (by kernel_rfl))
 f318:=Tryz.func206.trans (congrArg some (by kernel_rfl))
 f319:=Tryz.func207.trans (congrArg some (by kernel_rfl))
 f320:=Tryz.func208.trans (congrArg some (by kernel_rfl))
 f337:=Tryz.func231.trans (congrArg some (by kernel_rfl))
 f338:=Tryz.func232.trans (congrArg some (by kernel_rfl))
 t0:=Tryz.underlying0
 a0:=Tryz.isAgg0
 z0:=Tryz.sizeOf0
 v0:=Tryz.zeroValue0
 t2:=Tryz.underlying2
 a2:=Tryz.isAgg2
 z2:=Tryz.sizeOf2
 v2:=Tryz.zeroValue2
 t3:=Tryz.underlying3
 a3:=Tryz.isAgg3
 z3:=Tryz.sizeOf3
 v3:=Tryz.zeroValue3
 t4:=Tryz.underlying4
 a4:=Tryz.isAgg4
 z4:=Tryz.sizeOf4
 v4:=Tryz.zeroValue4
 t5:=Tryz.underlying5
 a5:=Tryz.isAgg5
 z5:=Tryz.sizeOf5
 v5:=Tryz.zeroValue5
 t9:=Tryz.underlying9
 a9:=Tryz.isAgg9
 z9:=Tryz.sizeOf9
 v9:=Tryz.zeroValue9
 t20:=Tryz.underlying20
 a20:=Tryz.isAgg20
 z20:=Tryz.sizeOf20
 v20:=Tryz.zeroValue20
 t37:=Tryz.underlying23
 a37:=Tryz.isAgg23
 z37:=Tryz.sizeOf23
 v37:=Tryz.zeroValue23
 t46:=Tryz.underlying87
 a46:=Tryz.isAgg87
 z46:=Tryz.sizeOf87
 v46:=Tryz.zeroValue87
 t51:=Tryz.underlying97
 a51:=Tryz.isAgg97
 z51:=Tryz.sizeOf97
 v51:=Tryz.zeroValue97
 t53:=Tryz.underlying22
 a53:=Tryz.isAgg22
 z53:=Tryz.sizeOf22
 v53:=Tryz.zeroValue22
 t171:=Tryz.underlying170
 a171:=Tryz.isAgg170
 z171:=Tryz.sizeOf170
 v171:=Tryz.zeroValue170
 t173:=Tryz.underlying173
 a173:=Tryz.isAgg173
 z173:=Tryz.sizeOf173
 v173:=Tryz.zeroValue173
 t212:=Tryz.underlying214
 a212:=Tryz.isAgg214
 z212:=Tryz.sizeOf214
 v212:=Tryz.zeroValue214
 t213:=Tryz.underlying215
 a213:=Tryz.isAgg215
 z213:=Tryz.sizeOf215
 t232:=Tryz.underlying259
 a232:=Tryz.isAgg259
 z232:=Tryz.sizeOf259
 v232:=Tryz.zeroValue259
 t233:=Tryz.underlying260
 a233:=Tryz.isAgg260
 z233:=Tryz.sizeOf260
 v233:=Tryz.zeroValue260
 g17:=by kernel_rfl
 g18:=by kernel_rfl
 g19:=by kernel_rfl
 i0:=by kernel_rfl
 i2:=by kernel_rfl
 i3:=by kernel_rfl
 i4:=by kernel_rfl
 i5:=by kernel_rfl
 i9:=by kernel_rfl
 i20:=by kernel_rfl
 i37:=by kernel_rfl
 i46:=by kernel_rfl
 i51:=by kernel_rfl
 i53:=by kernel_rfl
 i171:=by kernel_rfl
 i173:=by kernel_rfl
 i212:=by kernel_rfl
 i232:=by kernel_rfl
 i233:=by kernel_rfl
 m17:=by kernel_rfl
 m18:=by kernel_rfl
 m19:=by kernel_rfl}
def Tryz.CF:Go.Shelf.Ren:=⟨fun|283=>169|n=>n,fun|3=>3|9=>9|4=>4|n=>n,fun|n=>n⟩
theorem Tryz.Nb:Go.Proofs.Lays.n283 Tryz.prog Tryz.CF:={
 mixed:=by kernel_rfl
 f283:=Tryz.func169.trans (congrArg some (by kernel_rfl))
 t3:=Tryz.underlying3
 a3:=Tryz.isAgg3
 z3:=Tryz.sizeOf3
 v3:=Tryz.zeroValue3
 t4:=Tryz.underlying4
 a4:=Tryz.isAgg4
 z4:=Tryz.sizeOf4
 v4:=Tryz.zeroValue4
 t9:=Tryz.underlying9
 a9:=Tryz.isAgg9
 z9:=Tryz.sizeOf9
 v9:=Tryz.zeroValue9}
def Tryz.AU:Go.Shelf.Ren:=⟨fun|284=>170|129=>205|317=>204|318=>206|n=>n,fun|53=>22|3=>3|212=>214|0=>0|4=>4|46=>87|5=>5|9=>9|n=>n,fun|17=>3|n=>n⟩
theorem Tryz.J1:Go.Proofs.LaysM.n284 Tryz.prog Tryz.AU:={
 mixed:=by kernel_rfl
 f129:=Tryz.func205.trans (congrArg some (by kernel_rfl))
 f284:=Tryz.func170.trans (congrArg some (by kernel_rfl))
 f317:=Tryz.func204.trans (congrArg some (by kernel_rfl))
 f318:=Tryz.func206.trans (congrArg some (by kernel_rfl))
 t0:=Tryz.underlying0
 a0:=Tryz.isAgg0
 z0:=Tryz.sizeOf0
 v0:=Tryz.zeroValue0
 t3:=Tryz.underlying3
 a3:=Tryz.isAgg3
 z3:=Tryz.sizeOf3
 v3:=Tryz.zeroValue3
 t4:=Tryz.underlying4
 a4:=Tryz.isAgg4
 z4:=Tryz.sizeOf4
 v4:=Tryz.zeroValue4
 t5:=Tryz.underlying5
 a5:=Tryz.isAgg5
 z5:=Tryz.sizeOf5
 v5:=Tryz.zeroValue5
 t9:=Tryz.underlying9
 a9:=Tryz.isAgg9
 z9:=Tryz.sizeOf9
 v9:=Tryz.zeroValue9
 t46:=Tryz.underlying87
 a46:=Tryz.isAgg87
 z46:=Tryz.sizeOf87
 v46:=Tryz.zeroValue87
 t53:=Tryz.underlying22
 a53:=Tryz.isAgg22
 z53:=Tryz.sizeOf22
 v53:=Tryz.zeroValue22
 t212:=Tryz.underlying214
 a212:=Tryz.isAgg214
 z212:=Tryz.sizeOf214
 v212:=Tryz.zeroValue214
 g17:=by kernel_rfl
 i0:=by kernel_rfl
 i3:=by kernel_rfl
 i4:=by kernel_rfl
 i5:=by kernel_rfl
 i9:=by kernel_rfl
 i46:=by kernel_rfl
 i53:=by kernel_rfl
 i212:=by kernel_rfl
 m17:=by kernel_rfl}
def Tryz.CE:Go.Shelf.Ren:=⟨fun|285=>171|n=>n,fun|37=>23|53=>22|3=>3|4=>4|51=>97|9=>9|5=>5|0=>0|n=>n,fun|n=>n⟩
theorem Tryz.Na:Go.Proofs.Lays.n285 Tryz.prog Tryz.CE:={
 mixed:=by kernel_rfl
 f285:=Tryz.func171.trans (congrArg some (by kernel_rfl))
 t0:=Tryz.underlying0
 a0:=Tryz.isAgg0
 z0:=Tryz.sizeOf0
 v0:=Tryz.zeroValue0
 t3:=Tryz.underlying3
 a3:=Tryz.isAgg3
 z3:=Tryz.sizeOf3
 v3:=Tryz.zeroValue3
 t4:=Tryz.underlying4
 a4:=Tryz.isAgg4
 z4:=Tryz.sizeOf4
 v4:=Tryz.zeroValue4
 t5:=Tryz.underlying5
 a5:=Tryz.isAgg5
 z5:=Tryz.sizeOf5
 v5:=Tryz.zeroValue5
 t9:=Tryz.underlying9
 a9:=Tryz.isAgg9
 z9:=Tryz.sizeOf9
 v9:=Tryz.zeroValue9
 t37:=Tryz.underlying23
 a37:=Tryz.isAgg23
 z37:=Tryz.sizeOf23
 v37:=Tryz.zeroValue23
 t51:=Tryz.underlying97
 a51:=Tryz.isAgg97
 z51:=Tryz.sizeOf97
 v51:=Tryz.zeroValue97
 t53:=Tryz.underlying22
 a53:=Tryz.isAgg22
 z53:=Tryz.sizeOf22
 v53:=Tryz.zeroValue22}
end Go.Proofs
namespace Go.Proofs
open Go.Shelf Go.RowKit Go.Sort Go.Lib
set_option maxHeartbeats 6400000
set_option maxRecDepth 100000
theorem CW(w:World)(T:TypeId)(nd:Nat)(hs:nd<=24):Holds (λ(b:UInt8)=>Value.int .u8 (b.toNat:Int)) (w.alloc (.cells Lib.zeros24 T)) w.heap.size 0 (Array.replicate nd (0:UInt8)):=λj hj=>by have vX:j<nd:=by{simpa using hj};refine⟨?_,World.frozen?_alloc_new _ _ _ _⟩;rw[World.cell?_alloc_new,Lib.zeros24_at _ (by omega),getElem!_pos _ j hj];simp
theorem KM(w:World)(o:Obj)(dk:Array UInt8)(k:Nat):∃os,(putRow (λ(b:UInt8)=>Value.int .u8 (b.toNat:Int)) (w.alloc o) w.heap.size 0 dk).drewN k=grow (w.drewN k) os:=by rw[alloc_eq_grow];obtain⟨os',_,e⟩:=putRow_grow_new (λ(b:UInt8)=>Value.int .u8 (b.toNat:Int)) w #[o] w.heap.size 0 dk (Nat.le_refl _);exact⟨os',by rw[e];rfl⟩
theorem Tryz.NA(u:Nat)(Qp:u<18446744073709551616)(w:World)(WW:Lib.TabIs Tryz.prog w "internal/strconv.uint64pow10" .u64 Lib.pow10Tab):Calls Tryz.prog 192 #[.int .u64 u,.int .i64 10] w λe w'=>e=.returned (.string ⟨(Lib.decDigits u).toArray⟩)/\∃k os,w'=grow (w.drewN k) os:=by
 by_cases hs:u<100;{go_enter Tryz.func192,Tryz.ntmps192;go_wp2_with (go_at_call 169;refine(Any.internal_strconv_small Tryz.Nb u hs _).mono ?_;rintro e w' ⟨rfl,rfl⟩);go_ret;exact⟨rfl,0,#[],by simp[World.drewN_zero]⟩}
 ·have OK:1<=u:=by{omega};have Zo:Lib.nDigits u<=20:=by{have:=Lib.numDigits_eq u OK Qp;split at this<;>omega};have Sk:Lib.nDigits u<=24:=by{omega};have Nx:Tryz.prog.arrayLen 170=24:=by{kernel_rfl};have hsl1:∀W,(Instr.sliceAt 170 (.pointer (some ⟨w.heap.size,0,none⟩)) none (some (.int .i64 (Lib.nDigits u:Int))) none).run Tryz.prog W=.ok (.slice (some ⟨w.heap.size,0,none⟩) (Lib.nDigits u) 24) W:=λW=>by{rw[run_sliceAt_array_h W 170 ⟨w.heap.size,0,none⟩ (by kernel_rfl) .i64 (Lib.nDigits u:Int) (by omega) (by rw[Nx];omega)];go_simp};have Yb:=CW w 170 (Lib.nDigits u) (by omega);have T3:=Any.internal_strconv_formatBase10 Tryz.Na w.heap.size 0 24 u (Array.replicate (Lib.nDigits u) 0) (w.alloc (.cells Lib.zeros24 170)) Yb (by rw[Array.size_replicate];exact Lib.lt_pow_nDigits u) Qp (by rw[Array.size_replicate];omega);rw[Array.size_replicate]at T3;have HH0:=Lib.hid Yb;clear Yb Nx;go_enter Tryz.func192,Tryz.ntmps192;go_wp2_with (first
   |(go_at_call 170;refine(Any.internal_strconv_numDigits Tryz.J1 u OK Qp _ (Lib.tabIs_alloc WW _)).mono ?_;rintro e w' ⟨rfl,rfl⟩))
  go_at_call 171;refine T3.mono ?_;rintro e w' ⟨rfl,k,v',dk,rfl,hF⟩;have hcv:(convert 23 9 (.slice (some ⟨w.heap.size,0,none⟩) (Lib.nDigits u) 24)).run Tryz.prog ((putRow (λ(b:UInt8)=>Value.int .u8 (b.toNat:Int)) (w.alloc (.cells Lib.zeros24 170)) w.heap.size 0 dk).drewN k)=.ok (.string ⟨(Lib.decDigits u).toArray⟩) ((putRow (λ(b:UInt8)=>Value.int .u8 (b.toNat:Int)) (w.alloc (.cells Lib.zeros24 170)) w.heap.size 0 dk).drewN k):=by{have h:=run_convert_bytes_back (P:=Tryz.prog) ((putRow (λ(b:UInt8)=>Value.int .u8 (b.toNat:Int)) (w.alloc (.cells Lib.zeros24 170)) w.heap.size 0 dk).drewN k) 23 9 5 ⟨w.heap.size,0,none⟩ 24 (Lib.decDigits u) (by kernel_rfl) (by kernel_rfl) (by kernel_rfl) (λj hj=>by rw[Lib.row_is_numeral hF j hj,Lib.add_plain,World.cell?_drewN];exact cell?_putRow (λ(b:UInt8)=>Value.int .u8 (b.toNat:Int)) _ w.heap.size 0 _ dk HH0.out (by rw[hF.size,Array.size_replicate]) j (by rw[hF.size];rw[Lib.decDigits_length]at hj;exact hj));rw[Lib.decDigits_length]at h;exact h};go_wp2;go_ret;obtain⟨os,eo⟩:=KM w (.cells Lib.zeros24 170) dk k;exact⟨rfl,k,os,eo⟩
end Go.Proofs
namespace Go.Eng
theorem Ds(n:Nat):Nr.dec n=jI n:=by
 induction n using Nat.strongRecOn with
 |_ n ih=>rw[Nr.dec,jI];by_cases h:n<10;{rw[ar h,dif_pos h]};{rw[ao h,dif_neg h,ih (n/10) (by omega)]}
theorem EM(n:Nat):Lib.decDigits n=Nr.dec n:=by rw[Dq,Ds]
theorem AQ(v:Int):Lib.itoa v=Nr.itoa v:=by rw[Nr.kt];unfold Lib.itoa;by_cases h:v<0;{rw[ar h,ar h,EM]};{rw[ao h,ao h,EM,show v.toNat=v.natAbs by omega]}
open Go.RowKit Go.Proofs Go.Sort
theorem vD{c:bD}(h:c.all (λb=>decide (b.toNat<128))=true):∀(j:Nat)b,(⟨⟨c⟩⟩:ByteArray).data.toList[j]?=some b->b.toNat<128:=λj b hb=>aq (aC.1 h b (aO (by simpa using hb)))
theorem xe{s c:bD}(h:(decide (s.length<=1099511627776/\c.length<=100)&&c.all (λb=>decide (b.toNat<128)))=true):(⟨⟨s⟩⟩:ByteArray).size<=9223372036854775807/\(⟨⟨c⟩⟩:ByteArray).size<4294967281/\c.all (λb=>decide (b.toNat<128))=true:=by simp only[af,aD]at h;refine⟨?_,?_,by simpa using h.2⟩;{show(⟨s⟩:Array UInt8).size<=_;rw[List.size_toArray];omega};{show(⟨c⟩:Array UInt8).size<_;rw[List.size_toArray];omega}
theorem AJ{w:World}{R:Reach}(hG:GlOK cnGl R w):Lib.TabIs Tryz.prog w "internal/strconv.uint64pow10" .u64 Lib.pow10Tab:=by have e:cnGl 3=some (y0 .u64 (Lib.pow10Tab.headD 0::Lib.pow10Tab.tail)):=rfl;exact PL hG e (by kernel_rfl)
theorem tC:∀c:Nat,Lib.repeatL [48] c=Sh.eu c
 |0=>rfl
 |c+1=>by rw[Lib.repeatL,tC c];unfold Sh.eu;rw[ah,ah,List.replicate_succ];rfl
theorem tj.ok:KO 241 tj.c bC:=jG (by kernel_rfl) λti np w R xs hc ha hR hG=>by unfold tj.c at hc;split at hc;{rename_i s c;obtain⟨hp,rfl⟩:=hc;obtain rfl:=lM ha rfl;obtain⟨p1,p2,p3⟩:=xe hp;refine(Any.strings_Trim_laid Tryz.Nf (by kernel_rfl) _ _ w p1 p2 (vD p3)).mono ?_;rintro e w' ⟨rfl,hb⟩;exact⟨_,rfl,hb,λR w'=>qU tD⟩};{exact hc.elim}
theorem kX.ok:KO 157 kX.c bC:=jG (by kernel_rfl) λti np w R xs hc ha hR hG=>by unfold kX.c at hc;split at hc;{rename_i s c;obtain⟨hp,rfl⟩:=hc;obtain rfl:=lM ha rfl;obtain⟨p1,p2,p3⟩:=xe hp;refine(Any.strings_TrimLeft_laid Tryz.Nd (by kernel_rfl) _ _ w p2 (vD p3)).mono ?_;rintro e w' ⟨rfl,hb⟩;exact⟨_,rfl,hb,λR w'=>qU tD⟩};{exact hc.elim}
theorem kp.ok:KO 219 kp.c bC:=jG (by kernel_rfl) λti np w R xs hc ha hR hG=>by unfold kp.c at hc;split at hc;{rename_i s c;obtain⟨hp,rfl⟩:=hc;obtain rfl:=lM ha rfl;obtain⟨p1,p2,p3⟩:=xe hp;refine(Any.strings_TrimRight_laid Tryz.Nc (by kernel_rfl) _ _ w p1 p2 (vD p3)).mono ?_;rintro e w' ⟨rfl,hb⟩;exact⟨_,rfl,hb,λR w'=>qU tD⟩};{exact hc.elim}
theorem uo.ok:KO 232 uo.c bC:=jG (by kernel_rfl) λti np w R xs hc ha hR hG=>by unfold uo.c at hc;split at hc;{rename_i x;cases hc;obtain rfl:=lM ha rfl;refine(Any7.bits_TrailingZeros64 Tryz.P6 x.toNat x.toNat_lt w λ_ j hj=>?_).mono ?_;{have:=(hG 7 (y0 .u8 (Lib.deBruijn64tab.map Int.ofNat)) rfl j).2;rw[y0,bA,br,aw hj]at this;rw[ai,aw hj];exact this};{rintro e w' ⟨rfl,rfl⟩;exact⟨_,rfl,Below.refl _ _,λR w'=>qU To⟩}};{exact hc.elim}
theorem og.ok:KO 83 og.c bC:=jG (by kernel_rfl) λti np w R xs hc ha hR hG=>by unfold og.c at hc;split at hc;{rename_i n;obtain⟨hp,rfl⟩:=hc;obtain rfl:=lM ha rfl;have hp:=aq (Nr.EY hp);refine(Any.strconv_Itoa Tryz.J5 n hp.1 hp.2 w (AJ hG)).mono ?_;rintro e w' ⟨rfl,q,os,rfl⟩;exact⟨_,rfl,s0 _ _ _,λR w'=>by rw[AQ];exact qU tD⟩};{exact hc.elim}
theorem mu.ok:KO 111 mu.c bC:=jG (by kernel_rfl) λti np w R xs hc ha hR hG=>by unfold mu.c at hc;split at hc;{rename_i n b;obtain⟨hp,rfl⟩:=hc;obtain rfl:=lM ha rfl;rw[af]at hp;obtain⟨hp,hb⟩:=hp;have hp:=aq (Nr.EY hp);obtain rfl:=aq hb;refine(Any.strconv_FormatInt_10 Tryz.J4 n hp.1 hp.2 w (AJ hG)).mono ?_;rintro e w' ⟨rfl,q,os,rfl⟩;exact⟨_,rfl,s0 _ _ _,λR w'=>by rw[AQ];exact qU tD⟩};{exact hc.elim}
theorem tw.ok:KO 192 tw.c bC:=jG (by kernel_rfl) λti np w R xs hc ha hR hG=>by unfold tw.c at hc;split at hc;{rename_i v b;obtain⟨hp,rfl⟩:=hc;obtain rfl:=lM ha rfl;obtain rfl:=aq hp;refine(Tryz.NA v.toNat v.toNat_lt w (AJ hG)).mono ?_;rintro e w' ⟨rfl,q,os,rfl⟩;exact⟨_,rfl,s0 _ _ _,λR w'=>by rw[EM];exact qU tD⟩};{exact hc.elim}
theorem jU.ok:KO 152 jU.c bC:=jG (by kernel_rfl) λti np w R xs hc ha hR hG=>by unfold jU.c at hc;split at hc;{rename_i s n;obtain⟨hp,rfl⟩:=hc;obtain rfl:=lM ha rfl;obtain⟨rfl,h1,h2⟩:=aq hp;obtain⟨c,rfl⟩:=Int.eq_ofNat_of_zero_le h1;refine(Any.strings_Repeat Tryz.Ng Tryz.Ml ⟨#[48]⟩ c w (by omega) (by show 1*c<=_;omega)).mono ?_;rintro e w' ⟨rfl,hb⟩;refine⟨_,rfl,hb,λR w'=>?_⟩;have e:Lib.repeatL (⟨#[48]⟩:ByteArray).data.toList c=Sh.eu c:=tC c;rw[e];exact qU tD};{exact hc.elim}
theorem xD{R:Reach}{w:World}{b:Nat}:∀{l:List bD}{off:Nat},lX R w 1 (l.map (fF.tv .ss)) b off->∀j x,l[j]?=some x->R b (off+j)/\w.cell? ⟨b,off+j,none⟩=some (.string ⟨⟨x⟩⟩)
 |[],_,_,j,x,h=>by simp at h
 |s::r,off,h,j,x,hx=>by
  rw[bc]at h;cases h with
  |cons h1 h2=>
   cases h1 with
   |one a b c d e=>
    obtain rfl:=e.dN rfl;cases j with
    |zero=>simp at hx;subst hx;exact⟨b,c⟩
    |succ j=>have:=xD h2 j x (by simpa using hx);rw[show off+1+j=off+(j+1) by omega]at this;exact this
theorem HH(xs:List ByteArray):Lib.join (xs.map (·.data.toList)) []=(xs.map (·.data.toList)).flatten:=by
 unfold Lib.join;induction xs with
 |nil=>rfl
 |cons x r ih=>
  cases r with
  |nil=>simp[List.intercalate]
  |cons y r=>simp[List.intercalate,List.intersperse]at ih⊢;exact ih
theorem tm.ok:KO 237 tm.c bC:=jG (by kernel_rfl) λti np w R xs hc ha hR hG=>by
 unfold tm.c at hc;split at hc
 ·rename_i l s;obtain⟨hp,rfl⟩:=hc;obtain⟨rfl,h1,h2⟩:=aq hp;cases ha with
  |cons hs ht=>
   cases ht with
   |cons hq ht=>
    obtain rfl:=hq.dN rfl;cases ht;have none_:∀(a:Option Addr)(c:Nat),l=[]->Calls Tryz.prog 237 ⟨[.slice a 0 c,.string ⟨⟨[]⟩⟩]⟩ w λe w'=>∃x,e=.returned x/\Below w.heap.size w w'/\∀R w',jf R w' [.s l.flatten] [x]:=λa c h0=>by{refine(Any.strings_Join_none Tryz.F9 Tryz.N9 a c ⟨#[]⟩ w).mono ?_;rintro e w' ⟨rfl,rfl⟩;refine⟨_,rfl,Below.refl _ _,λR w'=>?_⟩;rw[h0];exact qU tD};cases hs with
    |sc h=>cases h
    |sn=>exact none_ _ _ rfl
    |em _ hc=>exact none_ _ _ rfl
    |@sl _ _ b off n cap e1 e2 e3 hE=>
     subst e1;by_cases h0:l=[];{rw[h0];rw[h0]at none_;exact none_ _ _ rfl}
     ·have kH:=xD hE;have hb:b<w.heap.size:=by
       obtain⟨x,hx⟩:∃x,l[0]?=some x:=⟨l[0]'(List.length_pos_iff.2 h0),aw _⟩
       exact hR _ _ (kH 0 x hx).1
      have ed:(l.map λs=>(⟨⟨s⟩⟩:ByteArray)).map (·.data.toList)=l:=by{rw[bA];exact List.map_id l};have hj:=HH (l.map λs=>(⟨⟨s⟩⟩:ByteArray));rw[ed]at hj;have:=Any.strings_Join Tryz.F9 Tryz.N9 b off cap (l.map λs=>(⟨⟨s⟩⟩:ByteArray)) ⟨#[]⟩ w (λj x hx=>by
       rw[br]at hx;cases hl:l[j]? with
       |none=>rw[hl]at hx;cases hx
       |some y=>rw[hl]at hx;cases hx;exact(kH j y hl).2) hb (by rw[bm];omega) (by rw[bm];exact e2) (by rw[ed];show(Lib.join l []).length<=_;rw[hj];omega)
      rw[bm]at this;refine this.mono ?_;rintro e w' ⟨rfl,D1⟩;refine⟨_,rfl,D1,λR w'=>?_⟩;rw[ed];have e9:Lib.join l (⟨#[]⟩:ByteArray).data.toList=l.flatten:=hj;rw[e9];exact qU tD
 {exact hc.elim}
end Go.Eng
namespace Go.Eng
open Go.IntWalk
theorem yI{R:Type}{b p:Bool}{x y:Option R}(hp:p=true)(h:b=true->x=y):cond b (both x (ck p y)) (ck p y)=y:=by
 subst hp;cases b with
 |false=>rfl
 |true=>rw[h rfl];exact Ik _
theorem jE.goal(a:List UInt16)(hp:dY a.length 2=true):jE.F a=some [.sl .ws a]:=by rw[jE.de];exact yI (by simpa using hp) λh=>by rw[List.isEmpty_iff.1 h];rfl
theorem iO.goal(l:List Int)(hp:dY l.length 8=true):iO.F l=some [.sl .is l,.sl .is l]:=by rw[iO.de];exact yI (by simpa using hp) λh=>by rw[List.isEmpty_iff.1 h];rfl
theorem ft.goal(v:UInt64)(b:Int)(hp:decide (b=10)=true):ft.F v b=some [.s (Nr.dec v.toNat)]:=by rw[ft.de,hp];rfl
theorem ends{α:Type}:∀m:List α,m=[]\/(∃x,m=[x])\/∃x r y,m=x::(r++[y])
 |[]=>.inl rfl
 |[x]=>.inr (.inl ⟨x,rfl⟩)
 |x::y::r=>.inr (.inr ⟨x,(y::r).dropLast,(y::r).getLast (by simp),by rw[List.dropLast_concat_getLast]⟩)
theorem cW.bY:∀(n:Nat)(a m b:List bD),m.length<=n->(a++m++b).length<=100000->cW.l1 (a.length:Int) ((a.length:Int)+m.length -1) (a++m++b)=some [.sl .ss (a++m.reverse++b)]:=by
 intro n;induction n with
 |zero=>intro a m b hm hb;obtain rfl:=List.length_eq_zero_iff.1 (Nat.le_zero.1 hm);refine cW.bM _ _ _ ?_;intro v1 h1 v2 h2 v3 h3 v4 h4 v5 h5 v6 h6;rw[ab (by simp;omega),aj];rfl
 |succ n ih=>intro a m b hm hb;refine cW.bM _ _ _ ?_;intro v1 h1 v2 h2 v3 h3 v4 h4 v5 h5 v6 h6;rcases ends m with rfl|⟨x,rfl⟩|⟨x,r,y,rfl⟩;{rw[ab (by simp;omega),aj];rfl};{rw[ab (by simp),aj];rfl};{simp only[ae,av,aE]at hm hb;have ei:((a.length:Int)).toNat=a.length:=by{omega};have ej:((a.length:Int)+((x::(r++[y])).length:Int) -1).toNat=a.length+1+r.length:=by{simp;omega};have hl:(a++(x::(r++[y]))++b).length=a.length+(r.length+2)+b.length:=by{simp;omega};rw[ej]at h1 h4;rw[ei]at h2 h3;have e1:v1=y:=by{rw[h1,show a++(x::(r++[y]))++b=(a++x::r)++y::b by simp,ai,aY (by simp;omega)];simp[show a.length+1+r.length -(a.length+(r.length+1))=0 by omega]};have e2:v2=x:=by{rw[h2,az,ai,aY (Nat.le_refl _)];simp};have e3:v3=a++(y::(r++[y]))++b:=by{rw[h3,e1,az,az,List.set_append_right _ _ (Nat.le_refl _)];simp};have e4:v4=(a++[y])++r++(x::b):=by{rw[h4,e3,e2,show a++(y::(r++[y]))++b=(a++y::r)++y::b by simp,List.set_append_right _ _ (by simp;omega)];simp[show a.length+1+r.length -(a.length+(r.length+1))=0 by omega]};have e5:v5=((a++[y]).length:Int):=by{rw[h5,i64_in _ (by omega)];simp};have e6:v6=((a++[y]).length:Int)+r.length -1:=by{rw[h6,i64_in _ (by simp;omega)];simp;omega};have hlj:(v3.length:Int)=a.length+(r.length+2)+b.length:=by{rw[e3];simp;omega};have:=ih (a++[y]) r (x::b) (by omega) (by simp;omega);have TW:((x::(r++[y])).length:Int)=r.length+2:=by{simp;omega};have Xe:v3.length=a.length+(r.length+2)+b.length:=by{omega};rw[aa (by omega),au,ei,ej,hl,Xe,bB (dC (by omega) (by omega)),bB (aa (by omega)),bB (dC (by omega) (by omega)),bB (aa (by omega)),bB (dC (by omega) (by omega)),bB (aa (by omega)),bB (dC (by omega) (by omega)),bB (aa (by omega))];rw[e4,e5,e6,this];simp}
theorem cW.goal(l:List bD)(hp:decide (l.length<=100000)=true):cW.F l=some [.sl .ss l.reverse]:=by refine cW.bU _ ?_;intro v1 h1;have hp:=aq hp;have:=cW.bY l.length [] l [] (Nat.le_refl _) (by simpa using hp);rw[h1,i64_in _ (by omega)];simpa using this
theorem cc1(a:Bool):(!a||a)=true:=by cases a<;>rfl
theorem cc2(a:Bool):(a||!a)=true:=by cases a<;>rfl
theorem Cl{t s:bD}(h:t.length<=s.length):List.isPrefixOf t s=decide (s.take t.length=t):=by rw[aN,List.isPrefixOf_iff_prefix,aD,List.prefix_iff_eq_take];exact⟨λh=>h.symm,λh=>h.symm⟩
theorem gw.goal(s t:bD):gw.F s t=some [.b (List.isPrefixOf t s)]:=by
 apply gw.bU;intro v1 h1 v2 h2;rw[ie,bB ?_,bB ?_,ie]
 ·congr 3;rw[h2,h1];by_cases h:t.length<=s.length;{rw[cT,Cl h];rfl}
  ·rw[cF];cases hb:List.isPrefixOf t s with
   |false=>rfl
   |true=>exact absurd (List.isPrefixOf_iff_prefix.1 hb).length_le h
 {cases decide ((t.length:Int)<=s.length)<;>rfl};{by_cases h:t.length<=s.length;{rw[nS (by omega) (by omega) (by omega)];cases decide ((t.length:Int)<=s.length)<;>rfl};{rw[dF];rfl}}
theorem fL.goal(s t:bD):fL.F s t=some [.b (List.isPrefixOf t s)]:=fL.de s t
theorem fK.goal(s:bD)(c:UInt8):fK.F s c=some [.i .i64 (Lib.indexByte s c)]:=fK.de s c
theorem DM(x:UInt64):(x&&&(4294967295:UInt64)).toNat=x.toNat%4294967296:=by rw[UInt64.toNat_and];exact Nat.and_two_pow_sub_one_eq_mod x.toNat 32
theorem xp(x:UInt64):(cE x (32:UInt64).toNat).toNat=x.toNat/4294967296:=eF x 32
theorem ky.goal(a b:UInt64):ky.F a b=some [.u64 (UInt64.ofNat (a.toNat*b.toNat/18446744073709551616)),.u64 (UInt64.ofNat (a.toNat*b.toNat))]:=by apply ky.bU;intro v1 h1 v2 h2 v3 h3 v4 h4 v5 h5 v6 h6 v7 h7 v8 h8;have ha:=a.toNat_lt;have hb:=b.toNat_lt;obtain⟨k1,k2,k3,k4⟩:=Lib.mul64_hi a.toNat b.toNat ha hb;have e1:v1.toNat=a.toNat%4294967296:=by{rw[h1,DM]};have e2:v2.toNat=a.toNat/4294967296:=by{rw[h2,xp]};have e3:v3.toNat=b.toNat%4294967296:=by{rw[h3,DM]};have e4:v4.toNat=b.toNat/4294967296:=by{rw[h4,xp]};have m:∀x y:UInt64,x.toNat<=4294967295->y.toNat<=4294967295->(x*y).toNat=x.toNat*y.toNat:=λx y hx hy=>by{rw[UInt64.toNat_mul,Nat.mod_eq_of_lt];have:=Lib.half_mul_le hx hy;omega};have e5:v5.toNat=a.toNat%4294967296*(b.toNat%4294967296)/4294967296:=by{rw[h5,xp,m _ _ (by omega) (by omega),e1,e3]};have e56:(v2*v3+v5).toNat=a.toNat/4294967296*(b.toNat%4294967296)+a.toNat%4294967296*(b.toNat%4294967296)/4294967296:=by{rw[UInt64.toNat_add,m _ _ (by omega) (by omega),e2,e3,e5];exact Nat.mod_eq_of_lt k2};have e6:v6.toNat=(a.toNat/4294967296*(b.toNat%4294967296)+a.toNat%4294967296*(b.toNat%4294967296)/4294967296)%4294967296:=by{rw[h6,DM,e56]};have e7:v7.toNat=(a.toNat/4294967296*(b.toNat%4294967296)+a.toNat%4294967296*(b.toNat%4294967296)/4294967296)/4294967296:=by{rw[h7,xp,e56]};have e8:v8.toNat=((a.toNat/4294967296*(b.toNat%4294967296)+a.toNat%4294967296*(b.toNat%4294967296)/4294967296)%4294967296+a.toNat%4294967296*(b.toNat/4294967296))/4294967296:=by{rw[h8,xp,UInt64.toNat_add,m _ _ (by omega) (by omega),e6,e1,e4];congr 1;exact Nat.mod_eq_of_lt k3};have hi:((v2*v4)+v7)+v8=UInt64.ofNat (a.toNat*b.toNat/18446744073709551616):=by{apply fw;rw[UInt64.toNat_add,UInt64.toNat_add,m _ _ (by omega) (by omega),e2,e4,e7,e8,fI,<-k4];omega};have lo:a*b=UInt64.ofNat (a.toNat*b.toNat):=by{apply fw;rw[UInt64.toNat_mul,fI]};rw[hi,lo]
theorem Oc{a b:dP}:dP.val a=dP.val b↔a.high=b.high/\a.low=b.low:=by rw[dP.iI,dP.iI];have:=a.low.toNat_lt;have:=b.low.toNat_lt;exact⟨λh=>⟨fw (by omega),fw (by omega)⟩,λh=>by rw[h.1,h.2]⟩
theorem BI{a b:dP}:dP.val a<dP.val b↔a.high<b.high\/(a.high=b.high/\a.low<b.low):=by rw[dP.iI,dP.iI,aI,aI,<-aU];have:=a.low.toNat_lt;have:=b.low.toNat_lt;omega
theorem mq.goal(a b:dP):mq.F a b=some [.i .i64 (cond (decide (dP.val a=dP.val b)) 0 (cond (decide (dP.val a<dP.val b)) (-1) 1))]:=by apply mq.bU;intro v1 h1 v2 h2 v3 h3 v4 h4;have c6:(!(!decide (a.high<b.high))||((!decide (a.high<b.high))&&(!decide (a.high=b.high)||v2)))=true:=by{rw[h2];cases decide (a.high<b.high)<;>cases decide (a.high=b.high)<;>rfl};have c7:(!v2||(v2&&v2))=true:=by{cases v2<;>rfl};have c8:∀x:Bool,(!(!x)||((!x)&&(!x)))=true:=by{decide};rw[ie,ie,bB (c8 _),ie,ie,ie,bB c7,bB c6,BD];have hv1:v1=decide (dP.val a=dP.val b):=by{rw[h1,aT.2 Oc,Bool.decide_and]};have hv4:v4=decide (dP.val a<dP.val b):=by{rw[h4,h3,aT.2 BI,Bool.decide_or,Bool.decide_and];cases decide (a.high<b.high)<;>cases decide (a.high=b.high)<;>rfl};rw[hv1,hv4];cases decide (dP.val a=dP.val b)<;>cases decide (dP.val a<dP.val b)<;>rfl
theorem mj.goal(a b:UInt64):mj.F a b=some [.ag (dP.cells (dP.of (a.toNat*b.toNat)))]:=by apply mj.bU;intro v1 h1 v2 h2;rw[h1,h2];rfl
theorem Ob{n:Nat}(h:n<340282366920938463463374607431768211456):(dP.of n).val=n:=by rw[dP.iI];unfold dP.of;simp only[fI];omega
theorem Ps{a:dP}:dP.of a.val=a:=by have h1:=a.high.toNat_lt;have h2:=a.low.toNat_lt;obtain⟨x,y⟩:=a;rw[dP.iI];unfold dP.of;simp only at h1 h2⊢;congr 1<;>apply fw<;>rw[fI]<;>omega
theorem SF{x v:UInt64}{z:Nat}(_:x.toNat<18446744073709551616)(hz:z<18446744073709551616)(h:v=UInt64.ofNat z):dP.of (x.toNat*18446744073709551616+z)=⟨x,v⟩:=by have h1:UInt64.ofNat ((x.toNat*18446744073709551616+z)/18446744073709551616)=x:=by{apply fw;rw[fI];omega};have h2:UInt64.ofNat (x.toNat*18446744073709551616+z)=v:=by{rw[h];apply fw;rw[fI,fI];omega};unfold dP.of;rw[h1,h2]
theorem mo.goal(a:dP)(b:UInt64)(hp:(decide (9223372036854775808<=b.toNat))=true):mo.F a b=some [.ag (dP.cells (dP.of (dP.val a/b.toNat))),.u64 (UInt64.ofNat (dP.val a% b.toNat)),.b true]:=by have hb:=aq hp;apply mo.bU;intro v1 h1 v2 h2 v3 h3 v4 h4;have hl:=b.toNat_lt;have ha:=a.high.toNat_lt;have D0:=a.low.toNat_lt;have h0:(0:UInt64).toNat=0:=rfl;rw[h0,Nat.zero_mul,Nat.zero_add]at h1 h2;have e2:v2.toNat=a.high.toNat% b.toNat:=by{rw[h2,fI];have:=Nat.mod_lt a.high.toNat (show 0<b.toNat by omega);omega};have e1:v1.toNat=a.high.toNat/b.toNat:=by{rw[h1,fI];exact Nat.mod_eq_of_lt (Nat.lt_of_le_of_lt (Nat.div_le_self ..) ha)};have hr:=Nat.mod_lt a.high.toNat (show 0<b.toNat by omega);rw[ab (λh=>by rw[h]at hb;simp at hb),aj,bB (aa (by rw[h0];omega)),bB (aa (by rw[e2];omega))];have key:dP.val a=b.toNat*(a.high.toNat/b.toNat*18446744073709551616)+(a.high.toNat% b.toNat*18446744073709551616+a.low.toNat):=by{rw[dP.iI];(conv=>lhs;rw[<-Nat.div_add_mod a.high.toNat b.toNat,Nat.add_mul,Nat.mul_assoc]);omega};have kd:dP.val a/b.toNat=a.high.toNat/b.toNat*18446744073709551616+(a.high.toNat% b.toNat*18446744073709551616+a.low.toNat)/b.toNat:=by{rw[key,Nat.mul_add_div (by omega)]};have km:dP.val a% b.toNat=(a.high.toNat% b.toNat*18446744073709551616+a.low.toNat)% b.toNat:=by{rw[key,Nat.mul_add_mod]};have hq:(a.high.toNat% b.toNat*18446744073709551616+a.low.toNat)/b.toNat<18446744073709551616:=by{rw[Nat.div_lt_iff_lt_mul (by omega)];have:(a.high.toNat% b.toNat+1)*18446744073709551616<=b.toNat*18446744073709551616:=ay _ hr;omega};rw[e2]at h3 h4;rw[h4,<-km];have hd:=Nat.lt_of_le_of_lt (Nat.div_le_self a.high.toNat b.toNat) ha;rw[<-e1]at kd hd;have ew:dP.of (dP.val a/b.toNat)=⟨v1,v3⟩:=by{rw[kd];exact SF hd hq h3};rw[ew];rfl
theorem iD.goal(v:UInt64)(hp:(decide (9223372036854775808<=v.toNat))=true):iD.F v=some [.i .i64 0]:=by have hb:=aq hp;apply iD.bU;intro v1 h1;have hl:=v.toNat_lt;have e:Nt.bits v.toNat=64:=Nt.GH (k:=63) hb hl;rw[h1,e];rfl
section
variable{B u d yh yl q r:Nat}
theorem ER:q*(yh*B+yl)=q*yh*B+q*yl:=by rw[Nat.mul_add,Nat.mul_assoc]
theorem wJ(hp:0<yh*B+yl)(hu:u=q*yh+r)(hq:(u*B+d)/(yh*B+yl)<=q)(h:q*yl<=r*B+d):(u*B+d)/(yh*B+yl)=q:=by refine Nat.le_antisymm hq ((Nat.le_div_iff_mul_le hp).2 ?_);rw[ER,hu,Nat.add_mul];omega
theorem OA(hp:0<yh*B+yl)(hd:d<B)(OJ:u<yh*B+yl)(hu:u=q*yh+r)(h:B<=q\/r*B+d<q*yl):1<=q/\u=(q -1)*yh+(r+yh)/\(u*B+d)/(yh*B+yl)<=q -1:=by have ym:1<=q:=by{rcases h with h|h;{omega};{rcases Nat.eq_zero_or_pos q with e|e;{rw[e]at h;omega};{exact e}}};refine⟨ym,?_,?_⟩;{have:q*yh=(q -1)*yh+yh:=by{conv=>lhs;rw[show q=q -1+1 by omega,Nat.add_mul,Nat.one_mul]};omega};{refine Nat.le_sub_one_of_lt ?_;rw[Nat.div_lt_iff_lt_mul hp];rcases h with h|h;{have h1:B*(yh*B+yl)<=q*(yh*B+yl):=ay _ h;have h2:(u+1)*B<=(yh*B+yl)*B:=ay _ OJ;rw[Nat.mul_comm (yh*B+yl) B]at h2;rw[Nat.add_mul]at h2;omega};{rw[ER,hu,Nat.add_mul];omega}}
theorem Qa(hy:B<=2*yh)(Sa:yl<B)(OJ:u<yh*B+yl):u/yh<=B+1:=by refine Nat.le_of_lt_succ ?_;have hp:0<yh:=by{omega};rw[Nat.div_lt_iff_lt_mul hp];have e:(B+1+1)*yh=yh*B+2*yh:=by{rw[Nat.add_assoc,Nat.add_mul,Nat.mul_comm B yh]};show u<(B+1+1)*yh;rw[e];omega
theorem J9(hp:0<yh)(hB:0<B)(hd:d<B):(u*B+d)/(yh*B+yl)<=u/yh:=by refine Nat.le_of_lt_succ ?_;have hm:0<yh*B:=Nat.mul_pos hp hB;rw[Nat.div_lt_iff_lt_mul (by omega)];have h:=Nat.lt_mul_div_succ u hp;have h2:(u+1)*B<=yh*(u/yh+1)*B:=ay _ h;rw[Nat.add_mul]at h2;show _<(u/yh+1)*(yh*B+yl);rw[ER,Nat.mul_comm (u/yh+1) yh];omega
end
theorem bV.TE{Q u:Nat}:∀(k:Nat)(x0 x1 x2 x3 x4 x5 x6 x7 x8:UInt64),4294967296<=x8.toNat+k->2147483648<=x2.toNat->x3.toNat<4294967296->x5.toNat<4294967296->u<x2.toNat*4294967296+x3.toNat->x8.toNat<4294967296->x2.toNat<4294967296->x7.toNat<=4294967297->u=x7.toNat*x2.toNat+x8.toNat->(u*4294967296+x5.toNat)/(x2.toNat*4294967296+x3.toNat)<=x7.toNat->Q=(u*4294967296+x5.toNat)/(x2.toNat*4294967296+x3.toNat)->bV.l3 x0 x1 x2 x3 x4 x5 x6 x7 x8=bV.j4 x0 x1 x2 x3 x4 x5 x6 (UInt64.ofNat Q):=by
 intro k;induction k with
 |zero=>intro x0 x1 x2 x3 x4 x5 x6 x7 x8 hk;intros;omega
 |succ k ih=>intro x0 x1 x2 x3 x4 x5 x6 x7 x8 hk hy Sa hd OJ hr HK hq hu hQ eQ;apply bV.nX;intro v1 h1 v2 h2;have hv1:v1.toNat=x8.toNat*4294967296+x5.toNat:=by{rw[h1,UInt64.toNat_add,UInt64.toNat_mul,show(4294967296:UInt64).toNat=4294967296 from rfl];omega};have hm:(x7*x3).toNat=x7.toNat*x3.toNat:=by{rw[UInt64.toNat_mul];refine Nat.mod_eq_of_lt ?_;have:=Nat.mul_le_mul hq (show x3.toNat<=4294967295 by omega);omega};have c1:∀b:Bool,(!(!b)||((!b)&&(!b)))=true:=by{decide};rw[bB (c1 _),ie,bB (c1 _),bB (c1 _),BD];have hB:((4294967296:UInt64)<=x7)↔4294967296<=x7.toNat:=aJ;have hL:v1<x7*x3↔x8.toNat*4294967296+x5.toNat<x7.toNat*x3.toNat:=by{rw[aI,hv1,hm]};have hv2:v2=decide (4294967296<=x7.toNat\/x8.toNat*4294967296+x5.toNat<x7.toNat*x3.toNat):=by{rw[h2,aT.2 hB,aT.2 hL,Bool.decide_or];cases decide (4294967296<=x7.toNat)<;>rfl};have hp:0<x2.toNat*4294967296+x3.toNat:=by{omega};by_cases c:4294967296<=x7.toNat\/x8.toNat*4294967296+x5.toNat<x7.toNat*x3.toNat;{rw[hv2,cT c];obtain⟨g1,g2,g3⟩:=OA hp hd OJ hu c;have ym:(x7 -(1:UInt64)).toNat=x7.toNat -1:=by{exact UInt64.toNat_sub_of_le _ _ (aJ.2 (show(1:UInt64).toNat<=_ from g1))};have It:(x8+x2).toNat=x8.toNat+x2.toNat:=by{rw[UInt64.toNat_add];omega};by_cases c2:4294967296<=x8.toNat+x2.toNat;{rw[aa (aJ.2 (by rw[It];exact c2)),au];have h3:(x7.toNat -1)*x3.toNat<=(x8.toNat+x2.toNat)*4294967296+x5.toNat:=by{have:=Nat.mul_le_mul (show x7.toNat -1<=4294967296 by omega) (show x3.toNat<=4294967296 by omega);have:=ay 4294967296 c2;omega};have:=wJ hp g2 g3 h3;rw[show x7 -(1:UInt64)=UInt64.ofNat Q from fw (by rw[ym,fI,eQ,this];omega)]};{rw[ab (λh=>c2 (by have:=aJ.1 h;rwa[It]at this)),aj];exact ih x0 x1 x2 x3 x4 x5 x6 _ _ (by rw[It];omega) hy Sa hd OJ (by rw[It];omega) HK (by rw[ym];omega) (by rw[ym,It];exact g2) (by rw[ym];exact g3) eQ}};{rw[hv2,cF c];have:=wJ hp hu hQ (by omega);rw[show x7=UInt64.ofNat Q from fw (by rw[fI,eQ,this];omega)]}
theorem bV.TD{Q u:Nat}:∀(k:Nat)(x0 x1 x2 x3 x4 x5 x6 x7 x8:UInt64),4294967296<=x6.toNat+k->2147483648<=x2.toNat->x3.toNat<4294967296->x4.toNat<4294967296->u<x2.toNat*4294967296+x3.toNat->x6.toNat<4294967296->x2.toNat<4294967296->x8.toNat<=4294967297->u=x8.toNat*x2.toNat+x6.toNat->(u*4294967296+x4.toNat)/(x2.toNat*4294967296+x3.toNat)<=x8.toNat->Q=(u*4294967296+x4.toNat)/(x2.toNat*4294967296+x3.toNat)->bV.l5 x0 x1 x2 x3 x4 x5 x6 x7 x8=bV.j6 x0 x1 x4 x5 x7 (UInt64.ofNat Q):=by
 intro k;induction k with
 |zero=>intro x0 x1 x2 x3 x4 x5 x6 x7 x8 hk;intros;omega
 |succ k ih=>intro x0 x1 x2 x3 x4 x5 x6 x7 x8 hk hy Sa hd OJ hr HK hq hu hQ eQ;apply bV.yd;intro v1 h1 v2 h2;have hv1:v1.toNat=x6.toNat*4294967296+x4.toNat:=by{rw[h1,UInt64.toNat_add,UInt64.toNat_mul,show(4294967296:UInt64).toNat=4294967296 from rfl];omega};have hm:(x8*x3).toNat=x8.toNat*x3.toNat:=by{rw[UInt64.toNat_mul];refine Nat.mod_eq_of_lt ?_;have:=Nat.mul_le_mul hq (show x3.toNat<=4294967295 by omega);omega};have c1:∀b:Bool,(!(!b)||((!b)&&(!b)))=true:=by{decide};rw[bB (c1 _),ie,bB (c1 _),bB (c1 _),BD];have hB:((4294967296:UInt64)<=x8)↔4294967296<=x8.toNat:=aJ;have hL:v1<x8*x3↔x6.toNat*4294967296+x4.toNat<x8.toNat*x3.toNat:=by{rw[aI,hv1,hm]};have hv2:v2=decide (4294967296<=x8.toNat\/x6.toNat*4294967296+x4.toNat<x8.toNat*x3.toNat):=by{rw[h2,aT.2 hB,aT.2 hL,Bool.decide_or];cases decide (4294967296<=x8.toNat)<;>rfl};have hp:0<x2.toNat*4294967296+x3.toNat:=by{omega};by_cases c:4294967296<=x8.toNat\/x6.toNat*4294967296+x4.toNat<x8.toNat*x3.toNat;{rw[hv2,cT c];obtain⟨g1,g2,g3⟩:=OA hp hd OJ hu c;have ym:(x8 -(1:UInt64)).toNat=x8.toNat -1:=by{exact UInt64.toNat_sub_of_le _ _ (aJ.2 (show(1:UInt64).toNat<=_ from g1))};have It:(x6+x2).toNat=x6.toNat+x2.toNat:=by{rw[UInt64.toNat_add];omega};by_cases c2:4294967296<=x6.toNat+x2.toNat;{rw[aa (aJ.2 (by rw[It];exact c2)),au];have h3:(x8.toNat -1)*x3.toNat<=(x6.toNat+x2.toNat)*4294967296+x4.toNat:=by{have:=Nat.mul_le_mul (show x8.toNat -1<=4294967296 by omega) (show x3.toNat<=4294967296 by omega);have:=ay 4294967296 c2;omega};have:=wJ hp g2 g3 h3;rw[show x8 -(1:UInt64)=UInt64.ofNat Q from fw (by rw[ym,fI,eQ,this];omega)]};{rw[ab (λh=>c2 (by have:=aJ.1 h;rwa[It]at this)),aj];exact ih x0 x1 x2 x3 x4 x5 _ x7 _ (by rw[It];omega) hy Sa hd OJ (by rw[It];omega) HK (by rw[ym];omega) (by rw[ym,It];exact g2) (by rw[ym];exact g3) eQ}};{rw[hv2,cF c];have:=wJ hp hu hQ (by omega);rw[show x8=UInt64.ofNat Q from fw (by rw[fI,eQ,this];omega)]}
theorem PR(x:UInt64):iS x (UInt64.ofInt 0).toNat=x:=by apply fw;unfold iS;rw[fI,show(UInt64.ofInt 0).toNat=0 from rfl];have:=x.toNat_lt;omega
theorem Wn(x:UInt64):cE x (UInt64.ofInt 0).toNat=x:=by apply fw;rw[eF,show(UInt64.ofInt 0).toNat=0 from rfl];omega
theorem JX{a d q y:UInt64}{N Q t:Nat}(hN:N=a.toNat*4294967296+d.toNat)(hQ:q.toNat=Q)(ht:N=Q*y.toNat+t)(h:t<18446744073709551616):(((a*(4294967296:UInt64))+d) -(q*y)).toNat=t:=by have e1:((a*(4294967296:UInt64))+d).toNat=N%18446744073709551616:=by{rw[UInt64.toNat_add,UInt64.toNat_mul,show(4294967296:UInt64).toNat=4294967296 from rfl,hN];omega};have e2:(q*y).toNat=(Q*y.toNat)%18446744073709551616:=by{rw[UInt64.toNat_mul,hQ]};rw[UInt64.toNat_sub,e1,e2,ht];generalize Q*y.toNat=P;omega
theorem MB{x y:UInt64}:(x -x/y*y).toNat=x.toNat% y.toNat:=by have h:=Nat.div_add_mod x.toNat y.toNat;rw[Nat.mul_comm]at h;have hl:=x.toNat_lt;have e:(x/y*y).toNat=x.toNat/y.toNat*y.toNat:=by{rw[UInt64.toNat_mul,UInt64.toNat_div];exact Nat.mod_eq_of_lt (by omega)};rw[UInt64.toNat_sub_of_le _ _ (aJ.2 (by rw[e];omega)),e];omega
theorem O8{n y q:Nat}(hy:0<y)(h:n/y=q):∃t,n=q*y+t/\t<y:=⟨n% y,by rw[<-h,Nat.mul_comm];exact(Nat.div_add_mod ..).symm,Nat.mod_lt _ hy⟩
theorem Ux{x z:Nat}(hx:x<4294967296)(hz:z<4294967296):UInt64.ofNat x*(4294967296:UInt64)+UInt64.ofNat z=UInt64.ofNat (x*4294967296+z):=by apply fw;rw[UInt64.toNat_add,UInt64.toNat_mul,show(4294967296:UInt64).toNat=4294967296 from rfl];simp only[fI];omega
theorem Ms{N hi b d1 d0 y q1 q0 t1 t0:Nat}(h1:hi*4294967296+d1=q1*y+t1)(h0:t1*4294967296+d0=q0*y+t0)(ht:t0<y)(hb:b=d1*4294967296+d0)(hN:N=hi*18446744073709551616+b):N/y=q1*4294967296+q0/\N% y=t0:=by have e:N=y*(q1*4294967296+q0)+t0:=by{have x2:∀B:Nat,y*(q1*B+q0)=q1*y*B+q0*y:=λB=>by{rw[Nat.mul_add,Nat.mul_comm y q0,<-Nat.mul_assoc,Nat.mul_comm y q1]};have x3:=x2 4294967296;omega};rw[e,Nat.mul_add_div (by omega),Nat.div_eq_of_lt ht,Nat.add_zero,Nat.mul_add_mod,Nat.mod_eq_of_lt ht];exact⟨rfl,rfl⟩
theorem bV.goal(a b y:UInt64)(hp:(decide (9223372036854775808<=y.toNat/\a.toNat<y.toNat))=true):bV.F a b y=some [.u64 (UInt64.ofNat ((a.toNat*18446744073709551616+b.toNat)/y.toNat)),.u64 (UInt64.ofNat ((a.toNat*18446744073709551616+b.toNat)% y.toNat))]:=by
 obtain⟨hy,ha⟩:=aq hp;have Sa:=y.toNat_lt;have D1:=b.toNat_lt;rw[bV.de,ab (λh=>by rw[h]at hy;exact absurd hy (by decide)),aj,bV.mF,ab (λh=>by have:=aJ.1 h;omega),aj];apply bV.ik;intro v1 h1 v2 h2 v3 h3 v4 h4 v5 h5 v6 h6 v7 h7 v8 h8 v9 h9;have Zd:(!decide (y=0))=true:=by{rw[ab (λh=>by rw[h]at hy;exact absurd hy (by decide))];rfl};by_cases c:a=0
 ·rw[cT c,bB Zd,c,show(0:UInt64).toNat=0 from rfl,Nat.zero_mul,Nat.zero_add];rw[show b/y=UInt64.ofNat (b.toNat/y.toNat) from fw (by rw[UInt64.toNat_div,fI];exact(Nat.mod_eq_of_lt (Nat.lt_of_le_of_lt (Nat.div_le_self ..) D1)).symm),
   show b% y=UInt64.ofNat (b.toNat% y.toNat) from fw (by rw[UInt64.toNat_mod,fI];exact(Nat.mod_eq_of_lt (Nat.lt_of_le_of_lt (Nat.mod_le ..) D1)).symm),bB Zd]
 rw[cF c,bB (aa hy)];have e1:v1=y:=by{rw[h1,PR]};have e4:v4=a:=by{rw[h4,PR]};have e7:v7=b:=by{rw[h7,PR]};have e5:v5.toNat=64:=by{rw[h5];rfl};have e6:v6=a:=by{rw[h6,e4,e5];have:cE b 64=0:=by{apply fw;rw[eF];show _=0;omega};rw[this];apply fw;rw[UInt64.toNat_or];exact Nat.or_zero _};have n2:v2.toNat=y.toNat/4294967296:=by{rw[h2,e1,xp]};have n3:v3.toNat=y.toNat%4294967296:=by{rw[h3,e1,DM]};have n8:v8.toNat=b.toNat/4294967296:=by{rw[h8,e7,xp]};have n9:v9.toNat=b.toNat%4294967296:=by{rw[h9,e7,DM]};have hv2:(!decide (v2=0))=true:=by{rw[ab (λh=>by rw[h]at n2;have:(0:UInt64).toNat=0:=rfl;omega)];rfl};have hY:v2.toNat*4294967296+v3.toNat=y.toNat:=by{omega};have Z2:v8.toNat<4294967296:=by{omega};have Z1:v9.toNat<4294967296:=by{omega};have Yg:v3.toNat<4294967296:=by{omega};have Z9:v2.toNat<4294967296:=by{omega};have h2g:2147483648<=v2.toNat:=by{omega};have first:∀(u:UInt64)(d:Nat),u.toNat<y.toNat->d<4294967296->(u/v2).toNat<=4294967297/\u.toNat=(u/v2).toNat*v2.toNat+(u -u/v2*v2).toNat/\(u.toNat*4294967296+d)/(v2.toNat*4294967296+v3.toNat)<=(u/v2).toNat/\(u -u/v2*v2).toNat<4294967296:=λu d hu hd=>by rw[MB,UInt64.toNat_div];refine⟨Qa (B:=4294967296) (by omega) Yg (by rw[hY];exact hu),?_,J9 (by omega) (by omega) hd,?_⟩;{rw[Nat.mul_comm];exact(Nat.div_add_mod ..).symm};{have:=Nat.mod_lt u.toNat (show 0<v2.toNat by omega);omega}
 rw[bB hv2,e1,e6];obtain⟨f1,f2,f3,f4⟩:=first a v8.toNat ha Z2
 obtain⟨Q1,X9⟩:∃q,(a.toNat*4294967296+v8.toNat)/y.toNat=q:=⟨_,rfl⟩;rw[bV.TE (Q:=Q1) (u:=a.toNat) 4294967296 y (UInt64.ofInt 0) v2 v3 a v8 v9 (a/v2) (a -a/v2*v2) (by omega) h2g Yg Z2 (by rw[hY];exact ha) f4 Z9 f1 f2 f3 (by rw[hY,X9])];apply bV.CP;intro w1 g1 w2 g2;have q1l:Q1<4294967296:=by{rw[<-X9,Nat.div_lt_iff_lt_mul (by omega)];have:=ay 4294967296 (show a.toNat+1<=y.toNat from ha);rw[Nat.mul_comm 4294967296 y.toNat];omega};obtain⟨t1,ZR,ht1⟩:=O8 (show 0<y.toNat by omega) X9;have OK:(w1 -UInt64.ofNat Q1*y).toNat=t1:=by{rw[g1];exact JX rfl (by rw[fI];omega) ZR (by omega)};rw[bB hv2,g2];obtain⟨u1,hu⟩:∃u,w1 -UInt64.ofNat Q1*y=u:=⟨_,rfl⟩;rw[hu]at OK⊢;obtain⟨k1,k2,k3,k4⟩:=first u1 v9.toNat (by rw[OK];exact ht1) Z1
 obtain⟨Q0,QU⟩:∃q,(t1*4294967296+v9.toNat)/y.toNat=q:=⟨_,rfl⟩;rw[bV.TD (Q:=Q0) (u:=u1.toNat) 4294967296 y (UInt64.ofInt 0) v2 v3 v9 (UInt64.ofNat Q1) (u1 -u1/v2*v2) u1 (u1/v2) (by omega) h2g Yg Z1 (by rw[hY,OK];exact ht1) k4 Z9 k1 k2 k3 (by rw[hY,OK,QU])];apply bV.Kf;intro z1 j1 z2 j2 z3 j3;have q0l:Q0<4294967296:=by{rw[<-QU,Nat.div_lt_iff_lt_mul (by omega)];have:=ay 4294967296 (show t1+1<=y.toNat from ht1);rw[Nat.mul_comm 4294967296 y.toNat];omega};obtain⟨t0,O3,ht0⟩:=O8 (show 0<y.toNat by omega) QU;have hr:z3.toNat=t0:=by{rw[j3,Wn,j2];exact JX (N:=t1*4294967296+v9.toNat) (by rw[OK]) (by rw[fI];omega) O3 (by omega)};rw[j1,Ux q1l q0l,show z3=UInt64.ofNat t0 from fw (by rw[hr,fI];omega)];obtain⟨x1,x2⟩:=Ms (hi:=a.toNat) (b:=b.toNat) ZR O3 ht0 (by omega) rfl;rw[x1,x2]
theorem jQ.goal:jQ.F=some [.ag (dP.cells Cn.rh)]:=by refine jQ.bU ?_;intro v1 h1;have:dP.of ((100000000000000000:UInt64).toNat*(100000000000000000:UInt64).toNat)=Cn.rh:=by{kernel_rfl};rw[h1,this]
theorem JQ:dP.val Cn.rh=10000000000000000000000000000000000:=by rw[dP.iI];rfl
theorem Rz{a b:Nat}:(0:Int)<=cond (decide (a=b)) 0 (cond (decide (a<b)) (-1) 1)↔b<=a:=by by_cases h:a=b;{rw[aa h];simp;omega};{rw[cF h];by_cases h2:a<b;{rw[cT h2];omega};{rw[cF h2];omega}}
theorem m14(x:UInt64):((x&&&(16383:UInt64)).toNat:Int)<16384:=by rw[UInt64.toNat_and,show(16383:UInt64).toNat=2^14 -1 from rfl,Nat.and_two_pow_sub_one_eq_mod];omega
theorem zZ(x:UInt64):IntKind.i64.wrap (IntKind.i64.wrap ((x&&&(16383:UInt64)).toNat:Int) -6176)=((x&&&(16383:UInt64)).toNat:Int) -6176:=by have:=m14 x;rw[show IntKind.i64.wrap ((x&&&(16383:UInt64)).toNat:Int)=((x&&&(16383:UInt64)).toNat:Int) from iw,iw]
theorem uk(a:Nat):decide ((0:Int)<=cond (decide (a=dP.val Cn.rh)) 0 (cond (decide (a<dP.val Cn.rh)) (-1) 1))=decide (10000000000000000000000000000000000<=a):=aT.2 (Rz.trans (by rw[JQ]))
theorem qG(a b:Bool):cond a b false=(a&&b):=by cases a<;>rfl
theorem fi.goal(h l:UInt64):fi.F h l=some [.i .i64 (Cn.split h l).1,.b (Cn.split h l).2.1,.ag (dP.cells (Cn.split h l).2.2.1),.i .i64 (Cn.split h l).2.2.2]:=by apply fi.bU;intro v1 h1 v2 h2 v3 h3 v4 h4 v5 h5 v6 h6 v7 h7 v8 h8 v9 h9 v10 iZ;rw[Cn.tn];unfold Cn.sL;simp only;have e1:v1=cE h 63:=h1;have e2:v2=cE h 58:=h2;have e6:v6=cE h 47:=h6;have e8:v8=((cE h 47&&&16383).toNat:Int) -6176:=by{rw[h8,h7,e6];exact zZ _};have e5:v5=cE (cE h 58&&&31) 3:=by{rw[h5,e2];rfl};rw[h3,h4,e1,e2,e5,e8];by_cases c1:cE h 58&&&31=31;{rw[cT c1,ar c1];rfl};rw[cF c1,ao c1];by_cases c2:cE h 58&&&31=30;{rw[cT c2,ar c2];rfl};rw[cF c2,ao c2];by_cases c3:cE (cE h 58&&&31) 3=3;{rw[cT c3,ar c3];rfl};rw[cF c3,ao c3,iZ,uk,h9];by_cases c4:dP.val ⟨h&&&562949953421311,l⟩<10000000000000000000000000000000000;{rw[cF,ar c4];apply fi.gM;intro w1 g1 w2 g2 w3 g3;rw[g3,g2,zZ,g1];rfl};{rw[cT,ao c4];apply fi.gM;intro w1 g1 w2 g2 w3 g3;rw[g3,g2,zZ,g1];rfl}
theorem gp.goal(n:Bool)(c:dP)(x:Int)(hp:(Nr.i64 x)=true):gp.F n c x=some [.u64 (Cn.join n c x).1,.u64 (Cn.join n c x).2.1,.b (Cn.join n c x).2.2]:=by apply gp.bU;intro v1 h1 v2 h2 v3 h3 v4 h4 v5 h5 v6 h6;have c1:∀b:Bool,(!(!b)||(!b))=true:=by{decide};rw[bB (c1 _),BD,bB (c1 _),BD];rw[Cn.join_eq];unfold Cn.CO;have e3:v3=decide (10000000000000000000000000000000000<=c.val\/x< -6176\/6111<x):=by{rw[h3,h2,h1,uk,Bool.decide_or,Bool.decide_or];cases decide (10000000000000000000000000000000000<=c.val)<;>cases decide (x< -6176)<;>rfl};rw[e3];by_cases k:10000000000000000000000000000000000<=c.val\/x< -6176\/6111<x;{rw[cT k,ar k]};{rw[cF k,ao k];have e4:v4=x+6176:=by{rw[h4,iw]};have e5:v5=iS (UInt64.ofInt (x+6176)) 49:=by{rw[h5,e4];rfl};rw[gp.mF,gp.mF,h6,e5];cases n<;>rfl}
theorem py(x:Int):Nr.i64 (IntKind.i64.wrap x)=true:=by have h:=IntKind.wrap_i64 x;unfold Nr.i64;exact dT
theorem pM(h l:UInt64):-6176<=(Cn.split h l).2.2.2/\(Cn.split h l).2.2.2<16384:=by rw[Cn.tn];unfold Cn.sL;simp only;have:=m14 (cE h 47);have:=m14 (cE h 49);split;{exact⟨show(-6176:Int)<=0 by decide,show(0:Int)<16384 by decide⟩};split;{exact⟨show(-6176:Int)<=0 by decide,show(0:Int)<16384 by decide⟩};split<;>dsimp only<;>omega
theorem jC.goal(h l:UInt64):jC.F h l=some [.b (Cn.mS h l)]:=by apply jC.bU;intro v1 h1 v2 h2 v3 h3 v4 h4 v5 h5 v6 h6 v7 h7 v8 h8;have c6:∀x:Bool,(!x||(x&&x))=true:=by{decide};have hx:=pM h l;have WO:Nr.i64 (Cn.split h l).2.2.2=true:=dT;rw[ie,ie,ie,ie,bB WO,bB (c6 _),ie,bB (c6 _),ie];unfold Cn.mS;simp only;by_cases c1:(Cn.split h l).1=3;{rw[cT c1,ar c1,h1,qG]};rw[cF c1,ao c1];by_cases c2:(Cn.split h l).1=2;{rw[cT c2,ar c2,h3,h2,qG]};rw[cF c2,ao c2,h8,h7,h6,h5,h4,qG,qG]
theorem NJ{n k p:Nat}(hp:p=10^k)(hk:1<=k)(h:p<=n):Nr.dec n=Nr.dec (n/p)++(Sh.eu ((k:Int) -((Nr.dec (n% p)).length:Int))++Nr.dec (n% p)):=by have Ks:0<p:=by{rw[hp];exact Nat.pow_pos (by omega)};obtain⟨q1,q2,q3,q4⟩:=Nr.lD (n/p);obtain⟨r1,r2,r3,r4⟩:=Nr.lD (n% p);have rl:=Nr.gY k (n% p) (by rw[<-hp];exact Nat.mod_lt _ Ks) hk;have hz:=Sh.uA ((k:Int) -((Nr.dec (n% p)).length:Int));have HJ:(Sh.eu ((k:Int) -((Nr.dec (n% p)).length:Int))++Nr.dec (n% p)).length=k:=by{unfold Sh.eu;rw[ae,List.length_replicate];omega};have WM:Nr.num (Sh.eu ((k:Int) -((Nr.dec (n% p)).length:Int)))=0:=Nr.jV _;have QA:Nr.num (Nr.dec (n/p)++(Sh.eu ((k:Int) -((Nr.dec (n% p)).length:Int))++Nr.dec (n% p)))=n:=by{rw[Nr.fJ,HJ,Nr.fJ,WM,q2,r2,Nat.zero_mul,Nat.zero_add,<-hp];exact Nat.div_add_mod' n p};have hu:=Nr.mY _ (Nr.dec (n/p)++(Sh.eu ((k:Int) -((Nr.dec (n% p)).length:Int))++Nr.dec (n% p))) rfl (by rw[List.all_append,List.all_append,q1,hz,r1];rfl) (by simp[q3]) (by rw[ai,List.getElem?_append_left (List.length_pos_iff.2 q3),<-ai];exact q4 (Nat.div_pos h Ks));rw[QA]at hu;exact hu.symm
theorem Pu{N:Nat}(hl:(Nr.dec N).length<=1000):dK.j2 (Nr.dec N)=some [.s (Nr.dec N)]:=by
 obtain⟨q1,q2,q3,q4⟩:=Nr.lD N;have TY:=Nr.mZ N;apply dK.ik;intro v1 h1 v2 h2 v3 h3;have e1:v1=((Nr.dec N).length -1:Nat):=by{rw[h1,iw];omega};have e2:v2=(Nr.dec N).take ((Nr.dec N).length -1):=by
  rw[h2,e1,ah];unfold Lib.trimLeftS;by_cases c:N<10;{rw[Nr.lr c];rfl}
  ·have VN:=q4 (by omega);have hlen:2<=(Nr.dec N).length:=by{rw[Nr.r9 c,ae];have:=Nr.mZ (N/10);simp;omega};generalize Nr.dec N=s at*;match s,hlen,VN with
   |x::y::r,_,VN=>have hx:x≠48:=VN;simp[hx]
 have e3:v3=Nr.dec N:=by{rw[h3,e2,e1,ah,List.take_append_drop]};rw[yG,bB ?_,yG,bB (aa ?_),e3];{rw[e2,e1,ah];simp only[aF,aR];omega};{rw[af];refine⟨aa ⟨?_,by decide⟩,by decide⟩;simp only[aF];omega}
theorem t19:(10:Nat)^19=10000000000000000000:=by decide
theorem t20:(10:Nat)^20=100000000000000000000:=by decide
theorem t38:(10000000000000000000:Nat)^2=100000000000000000000000000000000000000:=by decide
theorem t40:(10:Nat)^40=10000000000000000000000000000000000000000:=by decide
theorem p19:(10000000000000000000:UInt64).toNat=10000000000000000000:=rfl
theorem dK.bY:∀(k:Nat)(a:dP)(t:bD),a.val<18446744073709551616*10000000000000000000^k->(t=[]\/1<=a.val)->t.length+20*k<=900->dK.l1 t a.high a.low=dK.j2 (Nr.dec a.val++t):=by
 have last:∀(a:dP)(t:bD),a.high=0->(t=[]\/1<=a.val)->t.length<=900->dK.l1 t a.high a.low=dK.j2 (Nr.dec a.val++t):=λa t h0 ht hl=>by{apply dK.bM;intro v1 h1 v2 h2 v3 h3 v4 h4 v5 h5 v6 h6;have hv:a.val=a.low.toNat:=by{rw[dP.iI,h0];show 0*_+_=_;omega};have hd:=Nr.gY 20 a.low.toNat (by rw[t20];have:=a.low.toNat_lt;omega) (by omega);rw[aa h0,aG,aj,bB (by cases decide (t=([]:bD))<;>rfl),bB (by cases decide (t=([]:bD))<;>rfl),BD];have e6:v6=true:=by{rw[h6];rcases ht with rfl|ht;{rfl};{rw[ab (p:=a.low=0) (λe=>by rw[hv,e]at ht;exact absurd ht (by decide))];cases decide (t=([]:bD))<;>rfl}};rw[e6,au,bB (by rfl),iy,hv]};intro k;induction k with
 |zero=>intro a t h ht hl;refine last a t (fw ?_) ht (by omega);rw[dP.iI]at h;show _=0;omega
 |succ k ih=>
  intro a t h ht hl;by_cases h0:a.high=0;{exact last a t h0 ht (by omega)};have QH:18446744073709551616<=a.val:=by{rw[dP.iI];have:0<a.high.toNat:=by{rcases Nat.eq_zero_or_pos a.high.toNat with e|e;{exact(h0 (fw e)).elim};{exact e}};omega};apply dK.bM;intro v1 h1 v2 h2 v3 h3 v4 h4 v5 h5 v6 h6;rw[p19]at h1 h2;have hm:=Nat.mod_lt a.val (show 0<10000000000000000000 by omega);have e1:v1=dP.of (a.val/10000000000000000000):=h1;have e2:v2.toNat=a.val%10000000000000000000:=by{rw[h2];show(UInt64.ofNat (a.val%10000000000000000000)).toNat=_;rw[fI];omega};have TK:a.val<340282366920938463463374607431768211456:=by{rw[dP.iI];have:=a.high.toNat_lt;have:=a.low.toNat_lt;omega};have ev:v1.val=a.val/10000000000000000000:=by{rw[e1,Ob (by omega)]};have hd:=Nr.gY 19 (a.val%10000000000000000000) (by rw[t19];exact hm) (by omega);have hd1:=Nr.mZ (a.val%10000000000000000000);rw[e2]at h3 h5;have e4:v4=(19:Nat) -((Nr.dec (a.val%10000000000000000000)).length:Int):=by{rw[h4,h3,iw];rfl};have hz:(Sh.eu v4).length=v4.toNat:=by{unfold Sh.eu;rw[List.length_replicate]};have h5l:v5.length<=20:=by{rw[h5,ae,hz];omega};rw[ab h0,aL,au,bB (by rfl),bB (by rfl),bB (aa ⟨rfl,by omega,by omega⟩),e2,bB (aa (by rw[hz];omega)),iy];rw[ih v1 (v5++t) (by rw[ev,Nat.div_lt_iff_lt_mul (by omega),Nat.mul_assoc,<-Nat.pow_succ];exact h) (.inr (by rw[ev];omega)) (by rw[ae];omega),ev,
   NJ (n:=a.val) (k:=19) (p:=10000000000000000000) (by decide) (by omega) (by omega),h5,e4,az,az,az]
theorem dK.goal(a:dP):dK.F a=some [.s (Nr.dec a.val)]:=by have TK:a.val<340282366920938463463374607431768211456:=by{rw[dP.iI];have:=a.high.toNat_lt;have:=a.low.toNat_lt;omega};rw[dK.de,dK.bY 2 a [] (by rw[t38];omega) (.inl rfl) (by simp),aK];exact Pu (Nat.le_trans (Nr.gY 40 a.val (by rw[t40];omega) (by omega)) (by omega))
theorem uy(n:Int):Sh.eu n=List.replicate n.toNat 48:=rfl
theorem eP.goal(d:bD)(x:Int)(hp:(decide (1<=d.length/\d.length<=40/\-10000<=x/\x<=100000))=true):eP.F d x=some [.s (Cn.laid d x)]:=by obtain⟨l1,l2,x1,x2⟩:=aq hp;apply eP.bU;intro v1 h1 v2 h2 v3 h3 v4 h4 v5 h5 v6 h6 v7 h7 v8 h8;unfold Cn.laid;simp only;by_cases c0:x=0;{rw[cT c0,ar c0]};rw[cF c0,ao c0,ie,ie];have e1:v1=x+d.length:=by{rw[h1,iw]};have e2:v2=x+d.length -1:=by{rw[h2,e1,iw]};have e3:v3=decide (x<0/\-6<=x+d.length -1):=by{rw[h3,e2,Bool.decide_and,qG]};have e5:v5=1 -x -d.length:=by{rw[h5,h4,i64_in (1 -x) (by omega),iw]};have en:IntKind.i64.wrap (0 -x)=-x:=by{rw[iw];omega};rw[e3,en];by_cases c1:x<0/\-6<=x+d.length -1;{rw[cT c1,ar c1];have key:∀s:bD,s.length<=200->-x<=s.length->eP.j1 s x (s.length:Int)=some [.s (s.take (s.length+x).toNat++46::s.drop (s.length+x).toNat)]:=λs hs hx=>by{apply eP.gM;intro w1 g1 w2 g2;have e:IntKind.i64.wrap ((s.length:Int)+x)=s.length+x:=iw;rw[e]at g1 g2⊢;rw[yG,bB (aa ?_),yG,bB (aa ?_),g1,g2];{simp};{rw[g1,g2];simp;omega};{rw[g1];simp;omega}};by_cases c2:(d.length:Int)<=-x;{rw[cT c2,ar c2,bB (aa ⟨by trivial,by omega,by omega⟩),bB (aa (by rw[uy,List.length_replicate];omega)),h6,e5];exact key _ (by rw[ae,uy,List.length_replicate];omega) (by rw[ae,uy,List.length_replicate];omega)};{rw[cF c2,ao c2];exact key _ (by omega) (by omega)}};{rw[cF c1,ao c1,yG];have e7:v7=d.take 1:=h7;have e8:v8=d.drop 1:=h8;have key:∀s:bD,s.length<=200->eP.j2 v2 s=some [.s (if x+d.length -1<0 then s++[69,45]++Nr.itoa (-(x+d.length -1))else s++[69,43]++Nr.itoa (x+d.length -1))]:=λs hs=>by{apply eP.ik;intro w1 g1 w2 g2 w3 g3;have hi:∀v:Int,-1000000<=v->v<=1000000->Nr.i64 v=true/\(Nr.itoa v).length<=30:=λv a b=>by{refine⟨dT,?_⟩;rw[Nr.kt];have:=Nr.gY 20 v.natAbs (by rw[t20];omega) (by omega);split;{simp only[av];omega};{omega}};have ew:IntKind.i64.wrap (0 -v2)=-(x+d.length -1):=by{rw[e2,iw];omega};rw[ew]at g1⊢;rw[g2,g3,g1,e2];by_cases c:x+(d.length:Int) -1<0;{rw[cT c,ar c,bB (aa (by simp;omega)),bB (hi _ (by omega) (by omega)).1,bB (aa ?_)];have:=(hi (-(x+d.length -1)) (by omega) (by omega)).2;simp;omega};{rw[cF c,ao c,bB (aa (by simp;omega)),bB (hi _ (by omega) (by omega)).1,bB (aa ?_)];have:=(hi (x+d.length -1) (by omega) (by omega)).2;simp;omega}};by_cases c2:(1:Int)<d.length;{rw[cT c2,ar c2,yG,bB (aa (by rw[e8];simp;omega)),bB (aa (by rw[e8,e7];simp;omega)),e7,e8];exact key _ (by simp;omega)};{rw[cF c2,ao c2,e7];exact key _ (by simp;omega)}}
theorem sK(h l:UInt64):(Cn.split h l).2.2.1.val<10000000000000000000000000000000000:=by have z:dP.val ⟨0,0⟩=0:=by{rw[dP.iI];rfl};rw[Cn.tn];unfold Cn.sL;simp only;split;{rw[z];omega};split;{rw[z];omega};split;{rw[z];omega};{dsimp only;split;{assumption};{rw[z];omega}}
theorem t34:(10:Nat)^34=10000000000000000000000000000000000:=by decide
theorem Ac{d:bD}{x:Int}(h1:d.length<=40)(h2:-10000<=x)(h3:x<=100000):(Cn.laid d x).length<=20000:=by unfold Cn.laid;simp only;have hi:∀v:Int,-1000000<=v->v<=1000000->(Nr.itoa v).length<=30:=λv a b=>by{rw[Nr.kt];have:=Nr.gY 20 v.natAbs (by rw[t20];omega) (by omega);split;{simp only[av];omega};{omega}};have i1:=hi (-(x+d.length -1)) (by omega) (by omega);have i2:=hi (x+d.length -1) (by omega) (by omega);have tl:(if(1:Int)<(d.length:Int)then d.take 1++46::d.drop 1 else d.take 1).length<=60:=by{split<;>simp<;>omega};split;{omega};split;{split<;>simp<;>omega};{split<;>rw[ae,ae]<;>simp only[av,aE]<;>omega}
theorem gn.goal(h l:UInt64):gn.F h l=some [.s (Cn.qa h l)]:=by
 apply gn.bU;intro v1 h1 v2 h2;have hx:=pM h l;have hc:=sK h l;have hd:=Nr.gY 34 _ (by rw[t34];exact hc) (by omega);have hd1:=Nr.mZ (Cn.split h l).2.2.1.val;unfold Cn.qa;simp only;by_cases c1:(Cn.split h l).1=3;{rw[cT c1,ar c1]};rw[cF c1,ao c1];have key:∀t:bD,t.length<=20000->gn.j1 (Cn.split h l).2.1 t=some [.s (cond (Cn.split h l).2.1 (45::t) t)]:=λt ht=>by
  rw[gn.mF];cases(Cn.split h l).2.1 with
  |true=>rw[au,bB (aa (by simp;omega))];rfl
  |false=>rfl
 by_cases c2:(Cn.split h l).1=2;{rw[cT c2,ar c2];exact key _ (by decide)};rw[cF c2,ao c2,bB (aa (by rw[h1];omega)),h2,h1];exact key _ (Ac (by omega) (by omega) (by omega))
theorem PS:Cn.vM.length=64:=rfl
theorem zn(n:UInt8)(h:n.toNat<64):bF (n.toNat:Int) Cn.vM.length=true:=dC (by omega) (by rw[PS];omega)
theorem Je(x:UInt8)(k:Nat):(nP x k).toNat=x.toNat/2^k:=by unfold nP;rw[UInt8.toNat_ofNat'];exact Nat.mod_eq_of_lt (Nat.lt_of_le_of_lt (Nat.div_le_self ..) x.toNat_lt)
theorem RH(x:UInt8):(nP x 2).toNat<64:=by rw[Je];have:=x.toNat_lt;omega
theorem NV(x:UInt8):(x&&&(63:UInt8)).toNat<64:=by rw[UInt8.toNat_and,show(63:UInt8).toNat=2^6 -1 from rfl,Nat.and_two_pow_sub_one_eq_mod];omega
theorem Pg(x:UInt8):(oe (x&&&3) 4).toNat<64/\16∣(oe (x&&&3) 4).toNat:=by have h:(x&&&(3:UInt8)).toNat=x.toNat%4:=by{rw[UInt8.toNat_and,show(3:UInt8).toNat=2^2 -1 from rfl,Nat.and_two_pow_sub_one_eq_mod]};unfold oe;rw[h,UInt8.toNat_ofNat'];omega
theorem Ph(x:UInt8):(oe (x&&&15) 2).toNat<64/\4∣(oe (x&&&15) 2).toNat:=by have h:(x&&&(15:UInt8)).toNat=x.toNat%16:=by{rw[UInt8.toNat_and,show(15:UInt8).toNat=2^4 -1 from rfl,Nat.and_two_pow_sub_one_eq_mod]};unfold oe;rw[h,UInt8.toNat_ofNat'];omega
theorem Uz{a b:UInt8}(h:a.toNat<64)(k:b.toNat<64):(a|||b).toNat<64:=by rw[UInt8.toNat_or];exact Nat.or_lt_two_pow (n:=6) h k
theorem Pf(x:UInt8)(k:Nat)(h:2<=k):(nP x k).toNat<64:=by rw[Je];have h1:x.toNat/2^k<=x.toNat/2^2:=Nat.div_le_div_left (Nat.pow_le_pow_right (by omega) h) (by decide);have:=x.toNat_lt;omega
theorem DE:∀l:bD,(Cn.base l).length<=2*l.length+4
 |[]=>by simp[Cn.base]
 |[_]=>by simp[Cn.base]
 |[_,_]=>by simp[Cn.base]
 |_::_::_::r=>by have:=DE r;simp[Cn.base];omega
theorem eh.bY:∀(n:Nat)(l t:bD),l.length<=n->l.length<=1099511627776->t.length+2*l.length<=5000000000000->eh.l1 l t=some [.s (t++Cn.base l)]:=by
 intro n;induction n with
 |zero=>intro l t h _ _;have:l=[]:=bj (by omega);subst this;apply eh.bM;intros;rw[ab (by simp),aj,ab (by simp),aj,ab (by simp),aj,eh.kn];simp[Cn.base]
 |succ n ih=>
  intro l t h hl ht;apply eh.bM;intro v1 h1 v2 h2 v3 h3 v4 h4 v5 h5 v6 h6 v7 h7 v8 h8 v9 h9 v10 iZ v11 lJ v12 mh kx sq kg tc kf so oD wO uF D4 o9 C1;have e2:v2=nP v1 2:=h2;have e4:v4=oe (v1&&&3) 4:=h4;have e6:v6=nP v5 4:=h6;have e8:v8=oe (v5&&&15) 2:=h8;have Bg:v10=nP v9 6:=iZ;have i1:=zn v2 (by rw[e2];exact RH _);have i2:=zn (v4|||v6) (Uz (by rw[e4];exact(Pg _).1) (by rw[e6];exact Pf _ _ (by omega)));have i3:=zn (v8|||v10) (Uz (by rw[e8];exact(Ph _).1) (by rw[Bg];exact Pf _ _ (by omega)));have i4:=zn (v9&&&63) (NV _);have i5:=zn v4 (by rw[e4];exact(Pg _).1);have i6:=zn v8 (by rw[e8];exact(Ph _).1);have s3:v3=Cn.sign v2:=h3;have s7:v7=Cn.sign (v4|||v6):=h7;have s11:v11=Cn.sign (v8|||v10):=lJ;have s12:v12=Cn.sign (v9&&&63):=mh;have s15:kf=Cn.sign v4:=so;have s17:uF=Cn.sign v8:=D4;change bF _ (([65,66,67,68,69,70,71,72,73,74,75,76,77,78,79,80,81,82,83,84,85,86,87,88,89,90,97,98,99,100,101,102,103,104,105,106,107,108,109,110,111,112,113,114,115,116,117,118,119,120,121,122,48,49,50,51,52,53,54,55,56,57,43,47]:bD)).length=true at i1 i2 i3 i4 i5 i6;rw[i1,i2,i3,i4,i5,i6];match l,h,hl,ht with
  |[],_,_,_=>rw[ab (by simp),aj,ab (by simp),aj,ab (by simp),aj,eh.kn];simp[Cn.base]
  |[a],_,_,ht=>have ea:v1=a:=h1;simp only[av,aE]at ht;rw[ab (by simp),aj,aa (by simp),au,bB (by rfl),bP,bB (by rfl),bP,bB (dO (by rw[wO];simp;omega) (by rw[wO];simp;omega)),eh.kn];rw[wO,s3,s15,e4,e2,ea];rfl
  |[a,b],_,_,ht=>have ea:v1=a:=h1;have eb:v5=b:=h5;simp only[av,aE]at ht;rw[ab (by simp),aj,ab (by simp),aj,aa (by simp),au,bB (by rfl),bP,bB (by rfl),bB (by rfl),bP,bB (by rfl),bP,bB (dO (by rw[C1];simp;omega) (by rw[C1];simp;omega)),eh.kn];rw[C1,s3,s7,s17,e8,e6,e4,e2,ea,eb];rfl
  |a::b::c::r,h,hl,ht=>
   have ea:v1=a:=h1;have eb:v5=b:=h5;have ec:v9=c:=h9;have er:kg=r:=tc;simp only[av]at h hl ht;have x:∀k:Int,0<=k->k<3->bF k (a::b::c::r).length=true:=λk h1 h2=>dC h1 (by simp;omega);rw[aa (by simp;omega),au,bB (x _ (by omega) (by omega)),bP,bB (x _ (by omega) (by omega)),bB (x _ (by omega) (by omega)),bP,bB (x _ (by omega) (by omega)),bB (x _ (by omega) (by omega)),bP,bB (x _ (by omega) (by omega)),bP,
    bB (dO (by rw[sq];simp;omega) (by rw[sq];simp;omega)),bB (nS (by omega) (by simp;omega) (by simp)),er,
    ih r _ (by omega) (by omega) (by rw[sq];simp;omega)]
   rw[sq,s3,s7,s11,s12,Bg,e8,e6,e4,e2,ea,eb,ec,az];rfl
theorem eh.goal(b:bD)(hp:(decide (b.length<=1099511627776))=true):eh.F b=some [.s (Cn.base b)]:=by have hp:=aq hp;rw[eh.de,eh.bY b.length b [] (Nat.le_refl _) hp (by simp;omega)];rfl
end Go.Eng
